/- The models of the functions. -/
import Derived.Test.YtaoioacomnnhdaaAmView
set_option linter.unusedVariables false
set_option linter.unusedSimpArgs false
set_option maxRecDepth 100000
set_option maxHeartbeats 4000000
namespace Go.W
open Go.AM

/-- humpgen.Maker -/
structure Maker where
  l : (List Int)
  n : Int
deriving DecidableEq
def TMaker : Ty Maker where
  sz := 2
  tid := 52
  rd := fun z x cs => ∃ v0, cs = [v0, (Value.int .i64 x.n)] ∧ SlR (TInt 3 .i64) z x.l v0
  len := by rintro z x cs ⟨v0, rfl, s0⟩; rfl
  mono := by rintro z z' h x cs ⟨v0, rfl, s0⟩; exact ⟨v0, rfl, s0.mono h⟩
  one := by
    rintro z x cs ⟨v0, rfl, s0⟩ c hc
    simp only [List.mem_cons, List.not_mem_nil, or_false] at hc
    rcases hc with rfl | rfl <;> first | exact ⟨rfl, rfl⟩ | (obtain ⟨a, c, rfl⟩ := s0.len; exact ⟨rfl, rfl⟩)
/-- api.Wagon -/
structure Wagon where
  number : (List UInt8)
  length : Int
  axles : Int
  mass : Int
  brake : Int
  goods : Int
  gentle : Bool
  dest : (List UInt8)
deriving DecidableEq
def TWagon : Ty Wagon where
  sz := 8
  tid := 36
  rd := fun z x cs => cs = [(str x.number), (Value.int .i64 x.length), (Value.int .i64 x.axles), (Value.int .i64 x.mass), (Value.int .i64 x.brake), (Value.int .i64 x.goods), (Value.bool x.gentle), (str x.dest)]
  len := fun z x cs h => by rw [h]; rfl
  mono := fun z z' _ x cs h => h
  one := fun z x cs h c hc => by
    rw [h] at hc; simp only [List.mem_cons, List.not_mem_nil, or_false] at hc
    rcases hc with rfl | rfl | rfl | rfl | rfl | rfl | rfl | rfl <;> exact ⟨rfl, rfl⟩
/-- api.Rule -/
structure Rule where
  number : Int
  kind : Int
  a : Int
  b : Int
  c : Int
deriving DecidableEq
def TRule : Ty Rule where
  sz := 5
  tid := 32
  rd := fun z x cs => cs = [(Value.int .i64 x.number), (Value.int .i64 x.kind), (Value.int .i64 x.a), (Value.int .i64 x.b), (Value.int .i64 x.c)]
  len := fun z x cs h => by rw [h]; rfl
  mono := fun z z' _ x cs h => h
  one := fun z x cs h c hc => by
    rw [h] at hc; simp only [List.mem_cons, List.not_mem_nil, or_false] at hc
    rcases hc with rfl | rfl | rfl | rfl | rfl <;> exact ⟨rfl, rfl⟩
/-- api.Brakes -/
structure Brakes where
  length : Int
  axles : Int
  mass : Int
  braked : Int
  percent : Int
  required : Int
  missing : Int
deriving DecidableEq
def TBrakes : Ty Brakes where
  sz := 7
  tid := 59
  rd := fun z x cs => cs = [(Value.int .i64 x.length), (Value.int .i64 x.axles), (Value.int .i64 x.mass), (Value.int .i64 x.braked), (Value.int .i64 x.percent), (Value.int .i64 x.required), (Value.int .i64 x.missing)]
  len := fun z x cs h => by rw [h]; rfl
  mono := fun z z' _ x cs h => h
  one := fun z x cs h c hc => by
    rw [h] at hc; simp only [List.mem_cons, List.not_mem_nil, or_false] at hc
    rcases hc with rfl | rfl | rfl | rfl | rfl | rfl | rfl <;> exact ⟨rfl, rfl⟩
/-- rulebook.train -/
structure Train where
  l : (List Wagon)
  off : (List Int)
  total : Brakes
deriving DecidableEq
def TTrain : Ty Train where
  sz := 9
  tid := 63
  rd := fun z x cs => ∃ v0 v1, cs = [v0, v1, (Value.int .i64 x.total.length), (Value.int .i64 x.total.axles), (Value.int .i64 x.total.mass), (Value.int .i64 x.total.braked), (Value.int .i64 x.total.percent), (Value.int .i64 x.total.required), (Value.int .i64 x.total.missing)] ∧ SlR TWagon z x.l v0 ∧ SlR (TInt 3 .i64) z x.off v1
  len := by rintro z x cs ⟨v0, v1, rfl, s0, s1⟩; rfl
  mono := by rintro z z' h x cs ⟨v0, v1, rfl, s0, s1⟩; exact ⟨v0, v1, rfl, s0.mono h, s1.mono h⟩
  one := by
    rintro z x cs ⟨v0, v1, rfl, s0, s1⟩ c hc
    simp only [List.mem_cons, List.not_mem_nil, or_false] at hc
    rcases hc with rfl | rfl | rfl | rfl | rfl | rfl | rfl | rfl | rfl <;> first | exact ⟨rfl, rfl⟩ | (obtain ⟨a, c, rfl⟩ := s0.len; exact ⟨rfl, rfl⟩) | (obtain ⟨a, c, rfl⟩ := s1.len; exact ⟨rfl, rfl⟩)

/-! ### humpyard/humpgen.New -/

def gen_New (N : Nat) (x0 : List Int) : Option (Maker) :=
  some (Maker.mk x0 0)

/-! ### (*humpyard/humpgen.Maker).Next -/

def Maker_Next_0 (N : Nat) (x0 : Maker) (x5 : Int) (x11 : Bool) : Option (Int) :=
  if x11 = true then
    Option.bind (modI x0.n (x0.l.length : Int)) fun y8 =>
    Option.bind (getI x0.l y8) fun y9 =>
    Option.bind (divI x0.n (x0.l.length : Int)) fun y16 =>
    AM.lt (IntKind.wrap .i64 (y9 + (IntKind.wrap .i64 ((IntKind.wrap .i64 (y16)) * 7919)))) fun y17 =>
    some y17
  else
    some x5

def Maker_Next_1 (N : Nat) (x1 : Int) (x5 : Int) (x51 : Bool) : Option (Int) :=
  if x51 = true then
    AM.lt (IntKind.wrap .i64 (x5 + x1)) fun y39 =>
    some y39
  else
    some x5

def Maker_Next (N : Nat) (x0 : Maker) (x1 : Int) : Option (Int × Maker) :=
  Option.bind (Maker_Next_0 N x0 0 (decide (0 < (x0.l.length : Int)))) fun y21 =>
  Option.bind (modI y21 x1) fun y33 =>
  Option.bind (Maker_Next_1 N x1 y33 (decide (y33 < 0))) fun y43 =>
  some (y43, (Maker.mk x0.l (IntKind.wrap .i64 (x0.n + 1))))

/-! ### (*humpyard/humpgen.Maker).Pick -/

def Maker_Pick (N : Nat) (x0 : Maker) (x1 : List Int) : Option (Int × Maker) :=
  Option.bind (Maker_Next N x0 (x1.length : Int)) fun y3 =>
  Option.bind (getI x1 y3.1) fun y13 =>
  some (y13, y3.2)

/-! ### (*humpyard/humpgen.Maker).Digits -/

def Maker_Digits_0 (N : Nat) (x1 : Int) : Nat → Maker → (List UInt8) → Int → Option (Maker × List UInt8)
  | 0, _, _, _ => none
  | n + 1, x0, x5, x6 =>
    if (decide (x6 < x1)) = true then
      Option.bind (Maker_Next N x0 10) fun y18 =>
      Option.bind (getI x5 x6) fun y28 =>
      Option.bind (toU8 (IntKind.wrap .u8 (IntKind.wrap .i64 (48 + y18.1)))) fun y39 =>
      AM.lt (x5.set ((x6 : Int).toNat) y39) fun y40 =>
      AM.lt (IntKind.wrap .i64 (x6 + 1)) fun y43 =>
      Maker_Digits_0 N x1 n y18.2 y40 y43
    else
      some (x0, x5)

def Maker_Digits (N : Nat) (x0 : Maker) (x1 : Int) : Option (List UInt8 × Maker) :=
  Option.bind (mkI 0 x1) fun y3 =>
  Option.bind (Maker_Digits_0 N x1 N x0 y3 0) fun y47 =>
  some (y47.2, y47.1)

/-! ### humpyard/humpyardref02.digits -/

def r02_digits_1 (N : Nat) (x0 : List UInt8) (x5 : Int) : Option (Bool) :=
  Option.bind (getI x0 x5) fun y14 =>
  if (decide ((UInt8.toNat y14 : Int) < 48)) = true then
    some true
  else
    Option.bind (getI x0 x5) fun y19 =>
    some (decide (57 < (UInt8.toNat y19 : Int)))

def r02_digits_0 (N : Nat) (x0 : List UInt8) (x1 : Int) : Nat → Int → Option (Sum (Unit) (Bool))
  | 0, _ => none
  | n + 1, x5 =>
    if (decide (x5 < x1)) = true then
      Option.bind (r02_digits_1 N x0 x5) fun y22 =>
      if y22 = true then
        some (Sum.inr false)
      else
        AM.lt (IntKind.wrap .i64 (x5 + 1)) fun y33 =>
        r02_digits_0 N x0 x1 n y33
    else
      some (Sum.inl ())

def r02_digits (N : Nat) (x0 : List UInt8) (x1 : Int) : Option (Bool) :=
  if ((x0.length : Int) != x1) = true then
    some false
  else
    Option.bind (r02_digits_0 N x0 x1 N 0) fun y37 =>
    match y37 with
    | Sum.inl y44 =>
      some true
    | Sum.inr y47 =>
      some y47

/-! ### humpyard/humpyardref02.sum -/

def r02_sum_1 (N : Nat) (x7 : Int) (x20 : Bool) : Option (Int) :=
  if x20 = true then
    AM.lt (IntKind.wrap .i64 (x7 * 2)) fun y17 =>
    if (decide (9 < y17)) = true then
      AM.lt (IntKind.wrap .i64 (y17 - 9)) fun y23 =>
      some y23
    else
      some y17
  else
    some x7

def r02_sum_0 (N : Nat) (x0 : List UInt8) (x1 : Int) : Nat → Int → Int → Option (Int)
  | 0, _, _ => none
  | n + 1, x5, x6 =>
    if (decide (x6 < x1)) = true then
      Option.bind (getI x0 x6) fun y10 =>
      AM.lt (IntKind.wrap .i64 (IntKind.wrap .u8 ((UInt8.toNat y10 : Int) - 48))) fun y11 =>
      Option.bind (r02_sum_1 N y11 ((Int.tmod x6 2) == 0)) fun y28 =>
      AM.lt (IntKind.wrap .i64 (x5 + y28)) fun y35 =>
      AM.lt (IntKind.wrap .i64 (x6 + 1)) fun y38 =>
      r02_sum_0 N x0 x1 n y35 y38
    else
      some x5

def r02_sum (N : Nat) (x0 : List UInt8) (x1 : Int) : Option (Int) :=
  Option.bind (r02_sum_0 N x0 x1 N 0 0) fun y42 =>
  some y42

/-! ### humpyard/humpyardref02.Digit -/

def r02_Digit (N : Nat) (x0 : List UInt8) : Option (Int × Int) :=
  Option.bind (r02_digits N x0 11) fun y3 =>
  if (!y3) = true then
    some (0, 11)
  else
    Option.bind (r02_sum N x0 11) fun y10 =>
    AM.lt (Int.tmod (IntKind.wrap .i64 (10 - (Int.tmod y10 10))) 10) fun y11 =>
    some (y11, 0)

/-! ### (*humpyard/humpgen.Maker).Number -/

def Maker_Number (N : Nat) (x0 : Maker) (x1 : Int) : Option (List UInt8 × Maker) :=
  Option.bind (Maker_Digits N x0 11) fun y3 =>
  Option.bind (appI y3.1 []) fun y13 =>
  Option.bind (getI y13 8) fun y23 =>
  Option.bind (toU8 (IntKind.wrap .u8 (IntKind.wrap .i64 (48 + (Int.tmod (IntKind.wrap .i64 (Int.tdiv x1 100)) 10))))) fun y34 =>
  AM.lt (y13.set ((8 : Int).toNat) y34) fun y35 =>
  Option.bind (getI y35 9) fun y36 =>
  Option.bind (toU8 (IntKind.wrap .u8 (IntKind.wrap .i64 (48 + (Int.tmod (IntKind.wrap .i64 (Int.tdiv x1 10)) 10))))) fun y47 =>
  AM.lt (y35.set ((9 : Int).toNat) y47) fun y48 =>
  Option.bind (getI y48 10) fun y49 =>
  Option.bind (toU8 (IntKind.wrap .u8 (IntKind.wrap .i64 (48 + (Int.tmod x1 10))))) fun y60 =>
  AM.lt (y48.set ((10 : Int).toNat) y60) fun y61 =>
  Option.bind (r02_Digit N y61) fun y64 =>
  Option.bind (toU8 (IntKind.wrap .u8 (IntKind.wrap .i64 (48 + y64.1)))) fun y67 =>
  Option.bind (appI y61 ([y67] : List UInt8)) fun y75 =>
  some (y75, y3.2)

/-! ### (*humpyard/humpgen.Maker).Name -/

def Maker_Name (N : Nat) (x0 : Maker) : Option (List UInt8 × Maker) :=
  Option.bind (Maker_Next N x0 10) fun y10 =>
  Option.bind (getI ([[97], [98], [99], [100], [101], [110, 111, 114, 116, 104], [115, 111, 117, 116, 104], [112, 111, 114, 116, 49], [120, 57], [97, 98, 99, 100, 101, 102, 103, 104, 105, 106, 107, 108]] : List (List UInt8)) y10.1) fun y20 =>
  some (y20, y10.2)

/-! ### (*humpyard/humpgen.Maker).Wagon -/

def Maker_Wagon_1 (N : Nat) (x26 : Int) (x27 : Bool) : Option (Bool) :=
  if x27 = true then
    some x27
  else
    AM.lt (x26 == 52) fun y126 =>
    some y126

def Maker_Wagon_0 (N : Nat) (x5 : Wagon) (x26 : Int) : Option (Wagon) :=
  AM.lt (x26 == 50) fun y121 =>
  Option.bind (Maker_Wagon_1 N x26 y121) fun y129 =>
  if y129 = true then
    some (Wagon.mk x5.number x5.length 2 x5.mass x5.brake x5.goods x5.gentle x5.dest)
  else
    AM.lt (x26 == 57) fun y148 =>
    if y148 = true then
      some (Wagon.mk x5.number (max x5.length 120) 6 x5.mass x5.brake x5.goods x5.gentle x5.dest)
    else
      some x5

def Maker_Wagon (N : Nat) (x0 : Maker) (x1 : Int) : Option (Wagon × Maker) :=
  Option.bind (Maker_Number N x0 x1) fun y10 =>
  Option.bind (Maker_Pick N y10.2 ([80, 120, 142, 199, 262, 400] : List Int)) fun y32 =>
  Option.bind (Maker_Pick N y32.2 ([50, 120, 400, 800, 2000] : List Int)) fun y54 =>
  Option.bind (Maker_Pick N y54.2 ([0, 0, 0, 1, 3, 9] : List Int)) fun y76 =>
  Option.bind (Maker_Next N y76.2 5) fun y86 =>
  Option.bind (Maker_Name N y86.2) fun y96 =>
  Option.bind (getI y10.1 4) fun y118 =>
  Option.bind (Maker_Wagon_0 N (Wagon.mk y10.1 y32.1 4 y54.1 0 y76.1 (y86.1 == 0) y96.1) (UInt8.toNat y118 : Int)) fun y161 =>
  Option.bind (Maker_Next N y96.2 5) fun y179 =>
  some ((Wagon.mk y161.number y161.length y161.axles y161.mass (IntKind.wrap .i64 (Int.tdiv (IntKind.wrap .i64 (y161.mass * y179.1)) 4)) y161.goods y161.gentle y161.dest), y179.2)

/-! ### (*humpyard/humpgen.Maker).Wagons -/

def Maker_Wagons_0 (N : Nat) : Nat → Maker → (List Wagon) → Int → Option (Maker × List Wagon)
  | 0, _, _, _ => none
  | n + 1, x0, x5, x6 =>
    if (decide (0 < x6)) = true then
      Option.bind (Maker_Wagon N x0 (x5.length : Int)) fun y20 =>
      Option.bind (appI x5 ([y20.1] : List Wagon)) fun y38 =>
      AM.lt (IntKind.wrap .i64 (x6 - 1)) fun y49 =>
      Maker_Wagons_0 N n y20.2 y38 y49
    else
      some (x0, x5)

def Maker_Wagons (N : Nat) (x0 : Maker) (x1 : Int) : Option (List Wagon × Maker) :=
  Option.bind (Maker_Next N x0 (IntKind.wrap .i64 (x1 + 1))) fun y5 =>
  Option.bind (Maker_Wagons_0 N N y5.2 [] y5.1) fun y53 =>
  some (y53.2, y53.1)

/-! ### humpyard/yardgen.Off -/

def yardgen_Off_1 (N : Nat) (x0 : Maker) (x5 : List Int) (x6 : Int) : Option (Maker × List Int) :=
  Option.bind (Maker_Next N x0 4) fun y10 =>
  if (y10.1 == 0) = true then
    Option.bind (appI x5 ([x6] : List Int)) fun y31 =>
    some (y10.2, y31)
  else
    some (y10.2, x5)

def yardgen_Off_0 (N : Nat) (x1 : Int) : Nat → Maker → (List Int) → Int → Option (Maker × List Int)
  | 0, _, _, _ => none
  | n + 1, x0, x5, x6 =>
    if (decide (x6 < x1)) = true then
      Option.bind (yardgen_Off_1 N x0 x5 x6) fun y43 =>
      AM.lt (IntKind.wrap .i64 (x6 + 1)) fun y59 =>
      yardgen_Off_0 N x1 n y43.1 y43.2 y59
    else
      some (x0, x5)

def yardgen_Off (N : Nat) (x0 : Maker) (x1 : Int) : Option (List Int × Maker) :=
  Option.bind (yardgen_Off_0 N x1 N x0 [] 0) fun y63 =>
  some (y63.2, y63.1)

/-! ### humpyard/rulebook.valid -/

def rulebook_valid_1 (N : Nat) (x4 : Int) : Option (Bool) :=
  if (decide (x4 < 0)) = true then
    some true
  else
    some (decide (1000000 < x4))

def rulebook_valid_0 (N : Nat) (x11 : List Int) (x12 : Int) : Nat → Int → Option (Sum (Unit) (Bool))
  | 0, _ => none
  | n + 1, x13 =>
    if (decide (x13 < x12)) = true then
      Option.bind (getI x11 x13) fun y21 =>
      Option.bind (rulebook_valid_1 N y21) fun y38 =>
      if y38 = true then
        some (Sum.inr false)
      else
        rulebook_valid_0 N x11 x12 n (IntKind.wrap .i64 (x13 + 1))
    else
      some (Sum.inl ())

def rulebook_valid_2 (N : Nat) (x1 : Rule) : Option (Bool) :=
  if (decide (1 ≤ x1.number)) = true then
    if (decide (x1.number ≤ 9999)) = true then
      if (decide (1 ≤ x1.kind)) = true then
        AM.lt (decide (x1.kind ≤ 9)) fun y67 =>
        some y67
      else
        some false
    else
      some false
  else
    some false

def rulebook_valid (N : Nat) (x0 : Rule) : Option (Bool) :=
  Option.bind (rulebook_valid_0 N ([x0.a, x0.b, x0.c] : List Int) (([x0.a, x0.b, x0.c] : List Int).length : Int) N 0) fun y55 =>
  match y55 with
  | Sum.inl y62 =>
    Option.bind (rulebook_valid_2 N x0) fun y79 =>
    some y79
  | Sum.inr y86 =>
    some y86

/-! ### humpyard/rulebook.Valid$1 -/

def rulebook_Valid_1 (N : Nat) (x0 : Rule) (x1 : Rule) : Option (Bool) :=
  AM.lt (x0.number == x1.number) fun y9 =>
  some y9

/-! ### slices.IndexFunc[[]humpyard/api.Rule,humpyard/api.Rule] -/

def slices_IndexFunc_api_Rule_api_Rule__rulebook_Valid_1_0 (N : Nat) (x0 : List Rule) (x1 : Rule) (x7 : Int) : Nat → Int → Option (Sum (Unit) (Int))
  | 0, _ => none
  | n + 1, x8 =>
    if (decide (x8 < x7)) = true then
      Option.bind (getI x0 x8) fun y10 =>
      Option.bind (rulebook_Valid_1 N y10 x1) fun y17 =>
      if y17 = true then
        some (Sum.inr x8)
      else
        slices_IndexFunc_api_Rule_api_Rule__rulebook_Valid_1_0 N x0 x1 x7 n (IntKind.wrap .i64 (x8 + 1))
    else
      some (Sum.inl ())

def slices_IndexFunc_api_Rule_api_Rule__rulebook_Valid_1 (N : Nat) (x0 : List Rule) (x1 : Rule) : Option (Int) :=
  Option.bind (slices_IndexFunc_api_Rule_api_Rule__rulebook_Valid_1_0 N x0 x1 (x0.length : Int) N 0) fun y27 =>
  match y27 with
  | Sum.inl y34 =>
    some (-1)
  | Sum.inr y37 =>
    some y37

/-! ### slices.ContainsFunc[[]humpyard/api.Rule,humpyard/api.Rule] -/

def slices_ContainsFunc_api_Rule_api_Rule__rulebook_Valid_1 (N : Nat) (x0 : List Rule) (x1 : Rule) : Option (Bool) :=
  Option.bind (slices_IndexFunc_api_Rule_api_Rule__rulebook_Valid_1 N x0 x1) fun y3 =>
  AM.lt (decide (0 ≤ y3)) fun y4 =>
  some y4

/-! ### humpyard/rulebook.Valid -/

def rulebook_Valid_0 (N : Nat) (x0 : List Rule) (x8 : List Rule) (x9 : Int) : Nat → Int → Option (Sum (Unit) (Int))
  | 0, _ => none
  | n + 1, x10 =>
    if (decide (x10 < x9)) = true then
      Option.bind (getI x8 x10) fun y14 =>
      Option.bind (rulebook_valid N y14) fun y32 =>
      if (!y32) = true then
        some (Sum.inr 1)
      else
        Option.bind (cutI x0 0 x10) fun y39 =>
        Option.bind (slices_ContainsFunc_api_Rule_api_Rule__rulebook_Valid_1 N y39 y14) fun y48 =>
        if y48 = true then
          some (Sum.inr 8)
        else
          rulebook_Valid_0 N x0 x8 x9 n (IntKind.wrap .i64 (x10 + 1))
    else
      some (Sum.inl ())

def rulebook_Valid (N : Nat) (x0 : List Rule) : Option (Int) :=
  if (decide (32 < (x0.length : Int))) = true then
    some 3
  else
    Option.bind (rulebook_Valid_0 N x0 x0 (x0.length : Int) N 0) fun y58 =>
    match y58 with
    | Sum.inl y65 =>
      some 0
    | Sum.inr y68 =>
      some y68

/-! ### humpyard/wagonnumber.digits -/

def wagonnumber_digits_1 (N : Nat) (x0 : List UInt8) (x5 : Int) : Option (Bool) :=
  Option.bind (getI x0 x5) fun y8 =>
  if (decide ((UInt8.toNat y8 : Int) < 48)) = true then
    some true
  else
    Option.bind (getI x0 x5) fun y13 =>
    some (decide (57 < (UInt8.toNat y13 : Int)))

def wagonnumber_digits_0 (N : Nat) (x0 : List UInt8) : Nat → Int → Option (Sum (Unit) (Bool))
  | 0, _ => none
  | n + 1, x5 =>
    if (decide (x5 < (x0.length : Int))) = true then
      Option.bind (wagonnumber_digits_1 N x0 x5) fun y16 =>
      if y16 = true then
        some (Sum.inr false)
      else
        AM.lt (IntKind.wrap .i64 (x5 + 1)) fun y27 =>
        wagonnumber_digits_0 N x0 n y27
    else
      some (Sum.inl ())

def wagonnumber_digits (N : Nat) (x0 : List UInt8) (x1 : Int) : Option (Bool) :=
  Option.bind (wagonnumber_digits_0 N x0 N 0) fun y31 =>
  match y31 with
  | Sum.inl y38 =>
    AM.lt ((x0.length : Int) == x1) fun y39 =>
    some y39
  | Sum.inr y42 =>
    some y42

/-! ### humpyard/wagonnumber.sum -/

def wagonnumber_sum_1 (N : Nat) (x5 : Int) (x19 : Bool) : Option (Int) :=
  if x19 = true then
    AM.lt (IntKind.wrap .i64 (x5 * 2)) fun y17 =>
    if (decide (9 < y17)) = true then
      AM.lt (IntKind.wrap .i64 (y17 - 9)) fun y23 =>
      some y23
    else
      some y17
  else
    some x5

def wagonnumber_sum_0 (N : Nat) (x0 : List UInt8) : Nat → Int → Int → Option (Int)
  | 0, _, _ => none
  | n + 1, x3, x4 =>
    if (decide (x4 < (x0.length : Int))) = true then
      Option.bind (getI x0 x4) fun y10 =>
      AM.lt (IntKind.wrap .i64 (IntKind.wrap .u8 ((UInt8.toNat y10 : Int) - 48))) fun y11 =>
      Option.bind (wagonnumber_sum_1 N y11 ((Int.tmod x4 2) == 0)) fun y28 =>
      AM.lt (IntKind.wrap .i64 (x3 + y28)) fun y35 =>
      AM.lt (IntKind.wrap .i64 (x4 + 1)) fun y38 =>
      wagonnumber_sum_0 N x0 n y35 y38
    else
      some x3

def wagonnumber_sum (N : Nat) (x0 : List UInt8) : Option (Int) :=
  Option.bind (wagonnumber_sum_0 N x0 N 0 0) fun y42 =>
  some y42

/-! ### humpyard/wagonnumber.check -/

def wagonnumber_check (N : Nat) (x0 : List UInt8) : Option (Int) :=
  Option.bind (wagonnumber_sum N x0) fun y3 =>
  AM.lt (Int.tmod (IntKind.wrap .i64 (10 - (Int.tmod y3 10))) 10) fun y4 =>
  some y4

/-! ### humpyard/wagonnumber.Valid -/

def wagonnumber_Valid (N : Nat) (x0 : List UInt8) : Option (Int) :=
  Option.bind (wagonnumber_digits N x0 12) fun y3 =>
  if (!y3) = true then
    some 11
  else
    Option.bind (getI x0 11) fun y10 =>
    Option.bind (cutI x0 0 11) fun y12 =>
    Option.bind (wagonnumber_check N y12) fun y14 =>
    if ((IntKind.wrap .i64 (IntKind.wrap .u8 ((UInt8.toNat y10 : Int) - 48))) != y14) = true then
      some 9
    else
      some 0

/-! ### humpyard/wagonnumber.Kind -/

def wagonnumber_Kind_0 (N : Nat) (x11 : Int) (x12 : Bool) : Option (Bool) :=
  if x12 = true then
    some x12
  else
    AM.lt (x11 == 56) fun y20 =>
    some y20

def wagonnumber_Kind_1 (N : Nat) (x11 : Int) (x15 : Bool) : Option (Bool) :=
  if x15 = true then
    some x15
  else
    AM.lt (x11 == 52) fun y39 =>
    some y39

def wagonnumber_Kind (N : Nat) (x0 : List UInt8) : Option (Int × Int) :=
  Option.bind (wagonnumber_Valid N x0) fun y3 =>
  if (y3 != 0) = true then
    some (0, y3)
  else
    Option.bind (getI x0 4) fun y12 =>
    AM.lt ((UInt8.toNat y12 : Int) == 55) fun y15 =>
    Option.bind (wagonnumber_Kind_0 N (UInt8.toNat y12 : Int) y15) fun y23 =>
    if y23 = true then
      some (1, 0)
    else
      AM.lt ((UInt8.toNat y12 : Int) == 50) fun y34 =>
      Option.bind (wagonnumber_Kind_1 N (UInt8.toNat y12 : Int) y34) fun y42 =>
      if y42 = true then
        some (2, 0)
      else
        AM.lt ((UInt8.toNat y12 : Int) == 57) fun y53 =>
        if y53 = true then
          some (3, 0)
        else
          some (0, 0)

/-! ### humpyard/consist.axles -/

def consist_axles (N : Nat) (x0 : Int) : Option (Int) :=
  AM.lt (x0 == 2) fun y5 =>
  if y5 = true then
    some 2
  else
    AM.lt (x0 == 3) fun y12 =>
    if y12 = true then
      some 6
    else
      some 4

/-! ### humpyard/consist.name -/

def consist_name_1 (N : Nat) (x4 : Int) : Option (Bool) :=
  if (decide (x4 < 97)) = true then
    if (decide (x4 < 48)) = true then
      some true
    else
      some (decide (57 < x4))
  else
    if (decide (122 < x4)) = true then
      if (decide (x4 < 48)) = true then
        some true
      else
        some (decide (57 < x4))
    else
      some false

def consist_name_0 (N : Nat) (x0 : List UInt8) : Nat → Int → Option (Sum (Unit) (Bool))
  | 0, _ => none
  | n + 1, x3 =>
    if (decide (x3 < (x0.length : Int))) = true then
      Option.bind (getI x0 x3) fun y8 =>
      AM.lt (UInt8.toNat y8 : Int) fun y9 =>
      Option.bind (consist_name_1 N y9) fun y30 =>
      if y30 = true then
        some (Sum.inr false)
      else
        AM.lt (IntKind.wrap .i64 (x3 + 1)) fun y41 =>
        consist_name_0 N x0 n y41
    else
      some (Sum.inl ())

def consist_name_2 (N : Nat) (x0 : List UInt8) : Option (Bool) :=
  if (decide (0 < (x0.length : Int))) = true then
    AM.lt (decide ((x0.length : Int) ≤ 12)) fun y54 =>
    some y54
  else
    some false

def consist_name (N : Nat) (x0 : List UInt8) : Option (Bool) :=
  Option.bind (consist_name_0 N x0 N 0) fun y45 =>
  match y45 with
  | Sum.inl y52 =>
    Option.bind (consist_name_2 N x0) fun y60 =>
    some y60
  | Sum.inr y67 =>
    some y67

/-! ### humpyard/consist.Valid -/

def consist_Valid_0 (N : Nat) (x5 : Int) (x16 : Bool) : Option (Int) :=
  if x16 = true then
    some 120
  else
    some x5

def consist_Valid_1 (N : Nat) (x1 : Wagon) (x5 : Int) : Option (Bool) :=
  if (decide (x1.length < x5)) = true then
    some true
  else
    if (decide (400 < x1.length)) = true then
      some true
    else
      if (decide (x1.mass < 50)) = true then
        some true
      else
        AM.lt (decide (2000 < x1.mass)) fun y56 =>
        some y56

def consist_Valid_2 (N : Nat) (x1 : Wagon) : Option (Bool) :=
  if (decide (x1.brake < 0)) = true then
    some true
  else
    if (decide (x1.mass < x1.brake)) = true then
      some true
    else
      if (decide (x1.goods < 0)) = true then
        some true
      else
        AM.lt (decide (9 < x1.goods)) fun y83 =>
        some y83

def consist_Valid (N : Nat) (x0 : Wagon) : Option (Int) :=
  Option.bind (wagonnumber_Kind N x0.number) fun y9 =>
  if (y9.2 != 0) = true then
    some y9.2
  else
    Option.bind (consist_Valid_0 N 80 (y9.1 == 3)) fun y26 =>
    Option.bind (consist_axles N y9.1) fun y36 =>
    AM.lt (x0.axles != y36) fun y37 =>
    if y37 = true then
      some 1
    else
      Option.bind (consist_Valid_1 N x0 y26) fun y59 =>
      if y59 = true then
        some 2
      else
        Option.bind (consist_Valid_2 N x0) fun y86 =>
        if y86 = true then
          some 2
        else
          Option.bind (consist_name N x0.dest) fun y98 =>
          AM.lt (!y98) fun y99 =>
          if y99 = true then
            some 7
          else
            some 0

/-! ### humpyard/consist.check -/

def consist_check_0 (N : Nat) (x11 : List Wagon) (x12 : Int) : Nat → (List ((List UInt8) × Bool)) → Int → Option (Sum (Unit) (Int))
  | 0, _, _ => none
  | n + 1, x3, x13 =>
    if (decide (x13 < x12)) = true then
      Option.bind (getI x11 x13) fun y22 =>
      Option.bind (consist_Valid N y22) fun y40 =>
      if (y40 != 0) = true then
        some (Sum.inr y40)
      else
        AM.lt (mpGet x3 y22.number) fun y49 =>
        if (y49.getD false) = true then
          some (Sum.inr 8)
        else
          AM.lt (mpSet x3 y22.number true) fun y56 =>
          consist_check_0 N x11 x12 n y56 (IntKind.wrap .i64 (x13 + 1))
    else
      some (Sum.inl ())

def consist_check (N : Nat) (x0 : List Wagon) : Option (Int) :=
  if (decide (96 < (x0.length : Int))) = true then
    some 3
  else
    Option.bind (consist_check_0 N x0 (x0.length : Int) N [] 0) fun y64 =>
    match y64 with
    | Sum.inl y71 =>
      some 0
    | Sum.inr y74 =>
      some y74

/-! ### humpyard/consist.Total -/

def consist_Total_0 (N : Nat) (x14 : List Wagon) (x15 : Int) : Nat → Int → Int → Int → Int → Option (Int × Int × Int)
  | 0, _, _, _, _ => none
  | n + 1, x2, x3, x4, x16 =>
    if (decide (x16 < x15)) = true then
      Option.bind (getI x14 x16) fun y17 =>
      AM.lt (IntKind.wrap .i64 (x2 + y17.length)) fun y34 =>
      AM.lt (IntKind.wrap .i64 (x3 + y17.mass)) fun y37 =>
      AM.lt (IntKind.wrap .i64 (x4 + y17.axles)) fun y40 =>
      consist_Total_0 N x14 x15 n y34 y37 y40 (IntKind.wrap .i64 (x16 + 1))
    else
      some (x2, x3, x4)

def consist_Total (N : Nat) (x0 : List Wagon) : Option (Int × Int × Int × Int) :=
  Option.bind (consist_check N x0) fun y3 =>
  if (y3 != 0) = true then
    some (0, 0, 0, y3)
  else
    Option.bind (consist_Total_0 N x0 (x0.length : Int) N 0 0 0 0) fun y46 =>
    some (y46.1, y46.2.1, y46.2.2, 0)

/-! ### humpyard/brake.in -/

def brake_in_0 (N : Nat) (x0 : Int) (x1 : Int) (x2 : Int) : Option (Bool) :=
  if (decide (x1 ≤ x0)) = true then
    AM.lt (decide (x0 ≤ x2)) fun y4 =>
    some y4
  else
    some false

def brake_in (N : Nat) (x0 : Int) (x1 : Int) (x2 : Int) : Option (Bool) :=
  Option.bind (brake_in_0 N x0 x1 x2) fun y10 =>
  some y10

/-! ### humpyard/brake.Factor -/

def brake_Factor (N : Nat) (x0 : Int) : Option (Int) :=
  if (decide (x0 ≤ 5000)) = true then
    some 100
  else
    if (decide (10000 < x0)) = true then
      some 80
    else
      AM.lt (max 80 (IntKind.wrap .i64 (100 - (IntKind.wrap .i64 (Int.tdiv (IntKind.wrap .i64 ((IntKind.wrap .i64 (x0 - 5000)) + 99)) 100))))) fun y15 =>
      some y15

/-! ### humpyard/brake.Total -/

def brake_Total_0 (N : Nat) (x0 : List Wagon) (x32 : List Int) (x33 : Int) : Nat → Brakes → Int → Option (Sum (Brakes) (Brakes × Int))
  | 0, _, _ => none
  | n + 1, x4, x34 =>
    if (decide (x34 < x33)) = true then
      Option.bind (getI x32 x34) fun y35 =>
      Option.bind (brake_in N y35 0 (IntKind.wrap .i64 ((x0.length : Int) - 1))) fun y44 =>
      if (!y44) = true then
        some (Sum.inr ((Brakes.mk 0 0 0 0 0 0 0), 2))
      else
        brake_Total_0 N x0 x32 x33 n x4 (IntKind.wrap .i64 (x34 + 1))
    else
      some (Sum.inl x4)

def brake_Total_1 (N : Nat) (x46 : List Int) (x47 : Int) : Nat → Brakes → (List Bool) → Int → Option (Sum (Brakes × List Bool) (Brakes × Int))
  | 0, _, _, _ => none
  | n + 1, x4, x10, x48 =>
    if (decide (x48 < x47)) = true then
      Option.bind (getI x46 x48) fun y73 =>
      Option.bind (getI x10 y73) fun y82 =>
      if y82 = true then
        some (Sum.inr ((Brakes.mk 0 0 0 0 0 0 0), 8))
      else
        Option.bind (getI x10 y73) fun y99 =>
        AM.lt (x10.set ((y73 : Int).toNat) true) fun y110 =>
        brake_Total_1 N x46 x47 n x4 y110 (IntKind.wrap .i64 (x48 + 1))
    else
      some (Sum.inl (x4, x10))

def brake_Total_3 (N : Nat) (x10 : List Bool) (x15 : Brakes) (x65 : List Wagon) (x67 : Int) : Option (Brakes) :=
  Option.bind (getI x65 x67) fun y146 =>
  Option.bind (getI x10 x67) fun y166 =>
  if (!y166) = true then
    some (Brakes.mk x15.length x15.axles x15.mass (IntKind.wrap .i64 (x15.braked + y146.brake)) x15.percent x15.required x15.missing)
  else
    some x15

def brake_Total_2 (N : Nat) (x10 : List Bool) (x65 : List Wagon) (x66 : Int) : Nat → Brakes → Int → Option (Brakes)
  | 0, _, _ => none
  | n + 1, x15, x67 =>
    if (decide (x67 < x66)) = true then
      Option.bind (brake_Total_3 N x10 x15 x65 x67) fun y183 =>
      brake_Total_2 N x10 x65 x66 n y183 (IntKind.wrap .i64 (x67 + 1))
    else
      some x15

def brake_Total_4 (N : Nat) (x7 : Int) (x15 : Brakes) (x92 : Bool) : Option (Brakes) :=
  if x92 = true then
    Option.bind (divI (IntKind.wrap .i64 (100 * x15.braked)) x7) fun y225 =>
    some (Brakes.mk x15.length x15.axles x15.mass x15.braked (IntKind.wrap .i64 (y225)) x15.required x15.missing)
  else
    some x15

def brake_Total (N : Nat) (x0 : List Wagon) (x1 : List Int) : Option (Brakes × Int) :=
  Option.bind (consist_Total N x0) fun y9 =>
  if (y9.2.2.2 != 0) = true then
    some ((Brakes.mk 0 0 0 0 0 0 0), y9.2.2.2)
  else
    Option.bind (mkI false (x0.length : Int)) fun y20 =>
    Option.bind (brake_Total_0 N x0 x1 (x1.length : Int) N (Brakes.mk 0 0 0 0 0 0 0) 0) fun y56 =>
    match y56 with
    | Sum.inl y63 =>
      Option.bind (brake_Total_1 N x1 (x1.length : Int) N y63 y20 0) fun y116 =>
      match y116 with
      | Sum.inl y123 =>
        Option.bind (brake_Total_2 N y123.2 x0 (x0.length : Int) N (Brakes.mk y9.1 y9.2.2.1 y9.2.1 0 0 0 0) 0) fun y200 =>
        Option.bind (brake_Factor N y9.1) fun y214 =>
        Option.bind (brake_Total_4 N y9.2.1 (Brakes.mk y200.length y200.axles y200.mass (IntKind.wrap .i64 (Int.tdiv (IntKind.wrap .i64 (y200.braked * y214)) 100)) y200.percent y200.required y200.missing) (decide (0 < y9.2.1))) fun y231 =>
        some (y231, 0)
      | Sum.inr y246 =>
        some y246
    | Sum.inr y249 =>
      some y249

/-! ### (humpyard/rulebook.train).end -/

def train_end (N : Nat) (x0 : Train) (x1 : Bool) : Option (Int) :=
  if x1 = true then
    AM.lt (x0.l.length : Int) fun y12 =>
    some y12
  else
    some (-1)

/-! ### slices.Index[[]int,int] -/

def slices_Index_int_int_0 (N : Nat) (x0 : List Int) (x1 : Int) (x7 : Int) : Nat → Int → Option (Sum (Unit) (Int))
  | 0, _ => none
  | n + 1, x8 =>
    if (decide (x8 < x7)) = true then
      Option.bind (getI x0 x8) fun y10 =>
      if (x1 == y10) = true then
        some (Sum.inr x8)
      else
        slices_Index_int_int_0 N x0 x1 x7 n (IntKind.wrap .i64 (x8 + 1))
    else
      some (Sum.inl ())

def slices_Index_int_int (N : Nat) (x0 : List Int) (x1 : Int) : Option (Int) :=
  Option.bind (slices_Index_int_int_0 N x0 x1 (x0.length : Int) N 0) fun y26 =>
  match y26 with
  | Sum.inl y33 =>
    some (-1)
  | Sum.inr y36 =>
    some y36

/-! ### slices.Contains[[]int,int] -/

def slices_Contains_int_int (N : Nat) (x0 : List Int) (x1 : Int) : Option (Bool) :=
  Option.bind (slices_Index_int_int N x0 x1) fun y3 =>
  AM.lt (decide (0 ≤ y3)) fun y4 =>
  some y4

/-! ### (humpyard/rulebook.train).tail -/

def train_tail_2 (N : Nat) (x2 : Train) (x7 : Int) : Option (Bool) :=
  Option.bind (getI x2.l x7) fun y27 =>
  if (decide (0 < y27.brake)) = true then
    Option.bind (slices_Contains_int_int N x2.off x7) fun y35 =>
    some (!y35)
  else
    some false

def train_tail_1 (N : Nat) (x2 : Train) (x6 : Int) (x7 : Int) : Option (Int) :=
  Option.bind (train_tail_2 N x2 x7) fun y41 =>
  if y41 = true then
    AM.lt (IntKind.wrap .i64 (x6 + 1)) fun y52 =>
    some y52
  else
    some x6

def train_tail_0 (N : Nat) (x2 : Train) : Nat → Int → Int → Option (Int)
  | 0, _, _ => none
  | n + 1, x6, x7 =>
    if (decide (x7 < (x2.l.length : Int))) = true then
      Option.bind (train_tail_1 N x2 x6 x7) fun y56 =>
      AM.lt (IntKind.wrap .i64 (x7 + 1)) fun y66 =>
      train_tail_0 N x2 n y56 y66
    else
      some x6

def train_tail (N : Nat) (x0 : Train) (x1 : Rule) : Option (Bool) :=
  AM.lt (min x1.a (x0.l.length : Int)) fun y16 =>
  AM.lt (IntKind.wrap .i64 ((x0.l.length : Int) - y16)) fun y21 =>
  Option.bind (train_tail_0 N x0 N 0 y21) fun y70 =>
  AM.lt (decide (y70 < (min x1.b y16))) fun y78 =>
  some y78

/-! ### (humpyard/rulebook.train).place$1 -/

def rulebook_train_place_1 (N : Nat) (x0 : Wagon) : Option (Int) :=
  some x0.length

/-! ### (humpyard/rulebook.train).beyond -/

def train_beyond__rulebook_train_place_1_0 (N : Nat) (x1 : Int) (x11 : List Wagon) (x12 : Int) : Nat → Int → Int → Option (Sum (Unit) (Int))
  | 0, _, _ => none
  | n + 1, x7, x13 =>
    if (decide (x13 < x12)) = true then
      Option.bind (getI x11 x13) fun y16 =>
      Option.bind (rulebook_train_place_1 N y16) fun y33 =>
      AM.lt (IntKind.wrap .i64 (x7 + y33)) fun y34 =>
      if (decide (x1 < y34)) = true then
        some (Sum.inr x13)
      else
        train_beyond__rulebook_train_place_1_0 N x1 x11 x12 n y34 (IntKind.wrap .i64 (x13 + 1))
    else
      some (Sum.inl ())

def train_beyond__rulebook_train_place_1 (N : Nat) (x0 : Train) (x1 : Int) : Option (Int) :=
  Option.bind (train_beyond__rulebook_train_place_1_0 N x1 x0.l (x0.l.length : Int) N 0 0) fun y46 =>
  match y46 with
  | Sum.inl y53 =>
    some (-1)
  | Sum.inr y56 =>
    some y56

/-! ### (humpyard/rulebook.train).place$2 -/

def rulebook_train_place_2 (N : Nat) (x0 : Wagon) : Option (Int) :=
  some x0.axles

/-! ### (humpyard/rulebook.train).beyond -/

def train_beyond__rulebook_train_place_2_0 (N : Nat) (x1 : Int) (x11 : List Wagon) (x12 : Int) : Nat → Int → Int → Option (Sum (Unit) (Int))
  | 0, _, _ => none
  | n + 1, x7, x13 =>
    if (decide (x13 < x12)) = true then
      Option.bind (getI x11 x13) fun y16 =>
      Option.bind (rulebook_train_place_2 N y16) fun y33 =>
      AM.lt (IntKind.wrap .i64 (x7 + y33)) fun y34 =>
      if (decide (x1 < y34)) = true then
        some (Sum.inr x13)
      else
        train_beyond__rulebook_train_place_2_0 N x1 x11 x12 n y34 (IntKind.wrap .i64 (x13 + 1))
    else
      some (Sum.inl ())

def train_beyond__rulebook_train_place_2 (N : Nat) (x0 : Train) (x1 : Int) : Option (Int) :=
  Option.bind (train_beyond__rulebook_train_place_2_0 N x1 x0.l (x0.l.length : Int) N 0 0) fun y46 =>
  match y46 with
  | Sum.inl y53 =>
    some (-1)
  | Sum.inr y56 =>
    some y56

/-! ### (humpyard/rulebook.train).place$3 -/

def rulebook_train_place_3 (N : Nat) (x0 : Wagon) : Option (Int) :=
  some x0.mass

/-! ### (humpyard/rulebook.train).beyond -/

def train_beyond__rulebook_train_place_3_0 (N : Nat) (x1 : Int) (x11 : List Wagon) (x12 : Int) : Nat → Int → Int → Option (Sum (Unit) (Int))
  | 0, _, _ => none
  | n + 1, x7, x13 =>
    if (decide (x13 < x12)) = true then
      Option.bind (getI x11 x13) fun y16 =>
      Option.bind (rulebook_train_place_3 N y16) fun y33 =>
      AM.lt (IntKind.wrap .i64 (x7 + y33)) fun y34 =>
      if (decide (x1 < y34)) = true then
        some (Sum.inr x13)
      else
        train_beyond__rulebook_train_place_3_0 N x1 x11 x12 n y34 (IntKind.wrap .i64 (x13 + 1))
    else
      some (Sum.inl ())

def train_beyond__rulebook_train_place_3 (N : Nat) (x0 : Train) (x1 : Int) : Option (Int) :=
  Option.bind (train_beyond__rulebook_train_place_3_0 N x1 x0.l (x0.l.length : Int) N 0 0) fun y46 =>
  match y46 with
  | Sum.inl y53 =>
    some (-1)
  | Sum.inr y56 =>
    some y56

/-! ### (humpyard/rulebook.train).apart -/

def train_apart_1 (N : Nat) (x2 : Int) (x4 : Rule) (x7 : Int) (x8 : Int) (x9 : Int) : Option (Bool) :=
  if (decide ((IntKind.wrap .i64 ((IntKind.wrap .i64 (x2 - x7)) - 1)) < x4.c)) = true then
    if (x8 == x4.a) = true then
      if (x9 == x4.b) = true then
        some true
      else
        if (x8 == x4.b) = true then
          some (x9 == x4.a)
        else
          some false
    else
      if (x8 == x4.b) = true then
        some (x9 == x4.a)
      else
        some false
  else
    some false

def train_apart_0 (N : Nat) (x2 : Int) (x3 : Train) (x4 : Rule) (x10 : Int) : Nat → Int → Option (Sum (Unit) (Bool))
  | 0, _ => none
  | n + 1, x11 =>
    if (decide (x11 < x10)) = true then
      Option.bind (getI x3.l x11) fun y23 =>
      Option.bind (getI x3.l x2) fun y30 =>
      Option.bind (train_apart_1 N x2 x4 x11 y23.goods y30.goods) fun y61 =>
      if y61 = true then
        some (Sum.inr true)
      else
        train_apart_0 N x2 x3 x4 x10 n (IntKind.wrap .i64 (x11 + 1))
    else
      some (Sum.inl ())

def train_apart (N : Nat) (x0 : Train) (x1 : Rule) (x2 : Int) : Option (Bool) :=
  Option.bind (train_apart_0 N x2 x0 x1 x2 N 0) fun y78 =>
  match y78 with
  | Sum.inl y85 =>
    some false
  | Sum.inr y88 =>
    some y88

/-! ### (humpyard/rulebook.train).place$4 -/

def rulebook_train_place_4 (N : Nat) (x0 : Int) (x1 : Wagon) (x2 : Train) (x3 : Rule) : Option (Bool) :=
  Option.bind (train_apart N x2 x3 x0) fun y9 =>
  some y9

/-! ### (humpyard/rulebook.train).first -/

def train_first__rulebook_train_place_4_0 (N : Nat) (x1 : Train × Rule) (x8 : List Wagon) (x9 : Int) : Nat → Int → Option (Sum (Unit) (Int))
  | 0, _ => none
  | n + 1, x10 =>
    if (decide (x10 < x9)) = true then
      Option.bind (getI x8 x10) fun y14 =>
      Option.bind (rulebook_train_place_4 N x10 y14 x1.1 x1.2) fun y31 =>
      if y31 = true then
        some (Sum.inr x10)
      else
        train_first__rulebook_train_place_4_0 N x1 x8 x9 n (IntKind.wrap .i64 (x10 + 1))
    else
      some (Sum.inl ())

def train_first__rulebook_train_place_4 (N : Nat) (x0 : Train) (x1 : Train × Rule) : Option (Int) :=
  Option.bind (train_first__rulebook_train_place_4_0 N x1 x0.l (x0.l.length : Int) N 0) fun y41 =>
  match y41 with
  | Sum.inl y48 =>
    some (-1)
  | Sum.inr y51 =>
    some y51

/-! ### (humpyard/rulebook.train).place$5 -/

def rulebook_train_place_5_0 (N : Nat) (x0 : Int) (x2 : Rule) (x4 : Wagon) : Option (Bool) :=
  if (x4.goods == x2.a) = true then
    AM.lt (decide (x0 < x2.b)) fun y10 =>
    some y10
  else
    some false

def rulebook_train_place_5 (N : Nat) (x0 : Int) (x1 : Wagon) (x2 : Rule) : Option (Bool) :=
  Option.bind (rulebook_train_place_5_0 N x0 x2 x1) fun y16 =>
  some y16

/-! ### (humpyard/rulebook.train).first -/

def train_first__rulebook_train_place_5_0 (N : Nat) (x1 : Rule) (x8 : List Wagon) (x9 : Int) : Nat → Int → Option (Sum (Unit) (Int))
  | 0, _ => none
  | n + 1, x10 =>
    if (decide (x10 < x9)) = true then
      Option.bind (getI x8 x10) fun y14 =>
      Option.bind (rulebook_train_place_5 N x10 y14 x1) fun y31 =>
      if y31 = true then
        some (Sum.inr x10)
      else
        train_first__rulebook_train_place_5_0 N x1 x8 x9 n (IntKind.wrap .i64 (x10 + 1))
    else
      some (Sum.inl ())

def train_first__rulebook_train_place_5 (N : Nat) (x0 : Train) (x1 : Rule) : Option (Int) :=
  Option.bind (train_first__rulebook_train_place_5_0 N x1 x0.l (x0.l.length : Int) N 0) fun y41 =>
  match y41 with
  | Sum.inl y48 =>
    some (-1)
  | Sum.inr y51 =>
    some y51

/-! ### (humpyard/rulebook.train).place$6 -/

def rulebook_train_place_6 (N : Nat) (x0 : Int) (x1 : Wagon) (x2 : Rule) : Option (Bool) :=
  AM.lt (decide ((IntKind.wrap .i64 (x2.a * x1.axles)) < x1.mass)) fun y9 =>
  some y9

/-! ### (humpyard/rulebook.train).first -/

def train_first__rulebook_train_place_6_0 (N : Nat) (x1 : Rule) (x8 : List Wagon) (x9 : Int) : Nat → Int → Option (Sum (Unit) (Int))
  | 0, _ => none
  | n + 1, x10 =>
    if (decide (x10 < x9)) = true then
      Option.bind (getI x8 x10) fun y14 =>
      Option.bind (rulebook_train_place_6 N x10 y14 x1) fun y31 =>
      if y31 = true then
        some (Sum.inr x10)
      else
        train_first__rulebook_train_place_6_0 N x1 x8 x9 n (IntKind.wrap .i64 (x10 + 1))
    else
      some (Sum.inl ())

def train_first__rulebook_train_place_6 (N : Nat) (x0 : Train) (x1 : Rule) : Option (Int) :=
  Option.bind (train_first__rulebook_train_place_6_0 N x1 x0.l (x0.l.length : Int) N 0) fun y41 =>
  match y41 with
  | Sum.inl y48 =>
    some (-1)
  | Sum.inr y51 =>
    some y51

/-! ### (humpyard/rulebook.train).behind -/

def train_behind_0 (N : Nat) (x12 : List Wagon) (x13 : Int) : Nat → Int → Int → Option (Int)
  | 0, _, _ => none
  | n + 1, x5, x14 =>
    if (decide (x14 < x13)) = true then
      Option.bind (getI x12 x14) fun y21 =>
      AM.lt (IntKind.wrap .i64 (x5 + y21.mass)) fun y38 =>
      train_behind_0 N x12 x13 n y38 (IntKind.wrap .i64 (x14 + 1))
    else
      some x5

def train_behind (N : Nat) (x0 : Train) (x1 : Int) : Option (Int) :=
  Option.bind (cutI x0.l (IntKind.wrap .i64 (x1 + 1)) (x0.l.length : Int)) fun y11 =>
  Option.bind (train_behind_0 N y11 (y11.length : Int) N 0 0) fun y44 =>
  some y44

/-! ### (humpyard/rulebook.train).place$7 -/

def rulebook_train_place_7_0 (N : Nat) (x0 : Int) (x2 : Rule) (x3 : Train) (x5 : Wagon) : Option (Bool) :=
  if (decide (x5.mass ≤ x2.a)) = true then
    Option.bind (train_behind N x3 x0) fun y11 =>
    AM.lt (decide (x2.b < y11)) fun y12 =>
    some y12
  else
    some false

def rulebook_train_place_7 (N : Nat) (x0 : Int) (x1 : Wagon) (x2 : Rule) (x3 : Train) : Option (Bool) :=
  Option.bind (rulebook_train_place_7_0 N x0 x2 x3 x1) fun y18 =>
  some y18

/-! ### (humpyard/rulebook.train).first -/

def train_first__rulebook_train_place_7_0 (N : Nat) (x1 : Rule × Train) (x8 : List Wagon) (x9 : Int) : Nat → Int → Option (Sum (Unit) (Int))
  | 0, _ => none
  | n + 1, x10 =>
    if (decide (x10 < x9)) = true then
      Option.bind (getI x8 x10) fun y14 =>
      Option.bind (rulebook_train_place_7 N x10 y14 x1.1 x1.2) fun y31 =>
      if y31 = true then
        some (Sum.inr x10)
      else
        train_first__rulebook_train_place_7_0 N x1 x8 x9 n (IntKind.wrap .i64 (x10 + 1))
    else
      some (Sum.inl ())

def train_first__rulebook_train_place_7 (N : Nat) (x0 : Train) (x1 : Rule × Train) : Option (Int) :=
  Option.bind (train_first__rulebook_train_place_7_0 N x1 x0.l (x0.l.length : Int) N 0) fun y41 =>
  match y41 with
  | Sum.inl y48 =>
    some (-1)
  | Sum.inr y51 =>
    some y51

/-! ### (humpyard/rulebook.train).place -/

def train_place_0 (N : Nat) (x2 : Train) (x3 : Rule) : Option (Int) :=
  if (decide (0 < (x2.l.length : Int))) = true then
    Option.bind (train_end N x2 (decide (x2.total.percent < x3.a))) fun y49 =>
    some y49
  else
    Option.bind (train_end N x2 false) fun y53 =>
    some y53

def train_place (N : Nat) (x0 : Train) (x1 : Rule) : Option (Int) :=
  AM.lt (x1.kind == 1) fun y20 =>
  if y20 = true then
    Option.bind (train_beyond__rulebook_train_place_1 N x0 x1.a) fun y24 =>
    some y24
  else
    AM.lt (x1.kind == 2) fun y28 =>
    if y28 = true then
      Option.bind (train_beyond__rulebook_train_place_2 N x0 x1.a) fun y32 =>
      some y32
    else
      AM.lt (x1.kind == 3) fun y36 =>
      if y36 = true then
        Option.bind (train_beyond__rulebook_train_place_3 N x0 x1.a) fun y40 =>
        some y40
      else
        AM.lt (x1.kind == 4) fun y44 =>
        if y44 = true then
          Option.bind (train_place_0 N x0 x1) fun y56 =>
          some y56
        else
          AM.lt (x1.kind == 5) fun y64 =>
          if y64 = true then
            Option.bind (train_first__rulebook_train_place_4 N x0 (x0, x1)) fun y76 =>
            some y76
          else
            AM.lt (x1.kind == 6) fun y80 =>
            if y80 = true then
              Option.bind (train_first__rulebook_train_place_5 N x0 x1) fun y88 =>
              some y88
            else
              AM.lt (x1.kind == 7) fun y92 =>
              if y92 = true then
                Option.bind (train_tail N x0 x1) fun y97 =>
                Option.bind (train_end N x0 y97) fun y99 =>
                some y99
              else
                AM.lt (x1.kind == 8) fun y103 =>
                if y103 = true then
                  Option.bind (train_first__rulebook_train_place_6 N x0 x1) fun y111 =>
                  some y111
                else
                  Option.bind (train_first__rulebook_train_place_7 N x0 (x1, x0)) fun y123 =>
                  some y123

/-! ### humpyard/rulebook.Check -/

def rulebook_Check_0 (N : Nat) (x10 : Train) (x31 : List Rule) (x32 : Int) : Nat → Int → Option (Sum (Unit) (Int × Int × Int))
  | 0, _ => none
  | n + 1, x33 =>
    if (decide (x33 < x32)) = true then
      Option.bind (getI x31 x33) fun y53 =>
      Option.bind (train_place N x10 y53) fun y71 =>
      if (decide (0 ≤ y71)) = true then
        some (Sum.inr (y53.number, y71, 0))
      else
        rulebook_Check_0 N x10 x31 x32 n (IntKind.wrap .i64 (x33 + 1))
    else
      some (Sum.inl ())

def rulebook_Check (N : Nat) (x0 : List Rule) (x1 : List Wagon) (x2 : List Int) : Option (Int × Int × Int) :=
  Option.bind (rulebook_Valid N x0) fun y3 =>
  if (y3 != 0) = true then
    some (0, 0, y3)
  else
    Option.bind (brake_Total N x1 x2) fun y12 =>
    if (y12.2 != 0) = true then
      some (0, 0, y12.2)
    else
      Option.bind (rulebook_Check_0 N (Train.mk x1 x2 (Brakes.mk y12.1.length y12.1.axles y12.1.mass y12.1.braked y12.1.percent y12.1.required y12.1.missing)) x0 (x0.length : Int) N 0) fun y83 =>
      match y83 with
      | Sum.inl y90 =>
        some (0, (-1), 0)
      | Sum.inr y93 =>
        some y93

/-! ### humpyard/rulebook.Place -/

def rulebook_Place (N : Nat) (x0 : Rule) (x1 : List Wagon) (x2 : List Int) : Option (Int × Int) :=
  Option.bind (rulebook_valid N x0) fun y9 =>
  if (!y9) = true then
    some (0, 1)
  else
    Option.bind (brake_Total N x1 x2) fun y16 =>
    if (y16.2 != 0) = true then
      some (0, y16.2)
    else
      Option.bind (train_place N (Train.mk x1 x2 (Brakes.mk y16.1.length y16.1.axles y16.1.mass y16.1.braked y16.1.percent y16.1.required y16.1.missing)) x0) fun y43 =>
      some (y43, 0)

/-! ### humpyard/humpyardlaw36.wagon -/

def l36_wagon (N : Nat) (x0 : Int) (x1 : Int) : Option (Wagon) :=
  Option.bind (gen_New N ([7] : List Int)) fun y20 =>
  Option.bind (Maker_Wagon N y20 x0) fun y34 =>
  some (Wagon.mk y34.1.number y34.1.length y34.1.axles y34.1.mass y34.1.brake x1 y34.1.gentle y34.1.dest)

/-! ### humpyard/humpyardlaw36.sane -/

def l36_sane_0 (N : Nat) (x2 : List Rule) (x3 : Int) (x4 : Int) (x5 : Int) (x6 : Int) (x7 : Int) (x8 : Int) (x9 : Int) (x10 : Int) : Option (Bool) :=
  if (x5 == 0) = true then
    if (x3 == 9) = true then
      if (x4 == 3) = true then
        if (x8 == 0) = true then
          if (x6 == 0) = true then
            if (x7 == (-1)) = true then
              if (x10 == 0) = true then
                if (x9 == 1) = true then
                  Option.bind (getI x2 0) fun y108 =>
                  Option.bind (appI x2 ([y108] : List Rule)) fun y124 =>
                  Option.bind (rulebook_Valid N y124) fun y137 =>
                  AM.lt (y137 == 8) fun y138 =>
                  some y138
                else
                  some false
              else
                some false
            else
              some false
          else
            some false
        else
          some false
      else
        some false
    else
      some false
  else
    some false

def l36_sane (N : Nat) : Option (Bool) :=
  Option.bind (l36_wagon N 1 0) fun y3 =>
  Option.bind (l36_wagon N 2 3) fun y9 =>
  Option.bind (l36_wagon N 3 0) fun y15 =>
  Option.bind (l36_wagon N 4 1) fun y21 =>
  Option.bind (rulebook_Check N ([(Rule.mk 5 5 1 3 1), (Rule.mk 9 5 1 3 2)] : List Rule) ([y3, y9, y15, y21] : List Wagon) []) fun y56 =>
  Option.bind (cutI ([(Rule.mk 5 5 1 3 1), (Rule.mk 9 5 1 3 2)] : List Rule) 0 1) fun y59 =>
  Option.bind (rulebook_Check N y59 ([y3, y9, y15, y21] : List Wagon) []) fun y79 =>
  Option.bind (getI ([y3, y9, y15, y21] : List Wagon) 0) fun y82 =>
  Option.bind (rulebook_Place N (Rule.mk 1 2 y82.axles 0 0) ([y3, y9, y15, y21] : List Wagon) []) fun y97 =>
  Option.bind (l36_sane_0 N ([(Rule.mk 5 5 1 3 1), (Rule.mk 9 5 1 3 2)] : List Rule) y56.1 y56.2.1 y56.2.2 y79.1 y79.2.1 y79.2.2 y97.1 y97.2) fun y165 =>
  some y165

/-! ### humpyard/yardgen.Place -/

def yardgen_Place_0 (N : Nat) (x0 : Int) (x1 : Int) (x11 : Bool) : Option (Int) :=
  if x11 = true then
    AM.lt (IntKind.wrap .i64 (x0 + x1)) fun y15 =>
    some y15
  else
    some x0

def yardgen_Place (N : Nat) (x0 : Int) (x1 : Int) : Option (Int) :=
  if (decide (x1 < 1)) = true then
    some 0
  else
    Option.bind (modI x0 x1) fun y9 =>
    Option.bind (yardgen_Place_0 N y9 x1 (decide (y9 < 0))) fun y19 =>
    some y19

/-! ### humpyard/humpyardlaw36.RulebookTails -/

def l36_RulebookTails_1 (N : Nat) (x1 : Int) (x7 : List Int) (x11 : List Int) (x12 : Int) : Option (List Int) :=
  Option.bind (getI x7 x12) fun y110 =>
  if (decide (x1 ≤ y110)) = true then
    Option.bind (getI x7 x12) fun y122 =>
    Option.bind (appI x11 ([(IntKind.wrap .i64 (y122 - x1))] : List Int)) fun y141 =>
    some y141
  else
    some x11

def l36_RulebookTails_0 (N : Nat) (x1 : Int) (x7 : List Int) : Nat → (List Int) → Int → Option (List Int)
  | 0, _, _ => none
  | n + 1, x11, x12 =>
    if (decide (x12 < (x7.length : Int))) = true then
      Option.bind (l36_RulebookTails_1 N x1 x7 x11 x12) fun y155 =>
      AM.lt (IntKind.wrap .i64 (x12 + 1)) fun y174 =>
      l36_RulebookTails_0 N x1 x7 n y155 y174
    else
      some x11

def l36_RulebookTails_2 (N : Nat) (x1 : Int) (x6 : List Wagon) (x9 : Int) (x10 : Int) (x13 : Int) (x14 : Int) : Option (Bool) :=
  if (x10 != 0) = true then
    some true
  else
    if (x14 != 0) = true then
      some true
    else
      if (!((x9 == (-1)) == (x13 == (-1)))) = true then
        some true
      else
        if (x9 != (-1)) = true then
          if (x9 != (x6.length : Int)) = true then
            some true
          else
            some (x13 != (IntKind.wrap .i64 ((x6.length : Int) - x1)))
        else
          some false

def l36_RulebookTails_3 (N : Nat) : Nat → (List Wagon) → Int → Option (List Wagon)
  | 0, _, _ => none
  | n + 1, x6, x15 =>
    if (decide (x15 < (x6.length : Int))) = true then
      Option.bind (getI x6 x15) fun y263 =>
      Option.bind (getI x6 x15) fun y272 =>
      AM.lt (x6.set ((x15 : Int).toNat) (Wagon.mk y272.number y272.length y272.axles y272.mass (max 1 y263.brake) y272.goods y272.gentle y272.dest)) fun y283 =>
      AM.lt (IntKind.wrap .i64 (x15 + 1)) fun y286 =>
      l36_RulebookTails_3 N n y283 y286
    else
      some x6

def l36_RulebookTails_4 (N : Nat) (x9 : Int) (x10 : Int) : Option (Bool) :=
  if (x10 == 0) = true then
    if (x9 == (-1)) = true then
      Option.bind (l36_sane N ) fun y311 =>
      some y311
    else
      some false
  else
    some false

def l36_RulebookTails (N : Nat) (x0 : List Int) (x1 : Int) : Option (Bool) :=
  Option.bind (gen_New N x0) fun y3 =>
  Option.bind (Maker_Wagons N y3 14) fun y18 =>
  Option.bind (yardgen_Off N y18.2 (y18.1.length : Int)) fun y34 =>
  Option.bind (Maker_Next N y34.2 8) fun y51 =>
  Option.bind (Maker_Next N y51.2 8) fun y61 =>
  Option.bind (rulebook_Place N (Rule.mk 1 7 y51.1 y61.1 0) y18.1 y34.1) fun y97 =>
  Option.bind (yardgen_Place N x1 (IntKind.wrap .i64 ((max 0 (IntKind.wrap .i64 ((y18.1.length : Int) - y51.1))) + 1))) fun y100 =>
  Option.bind (l36_RulebookTails_0 N y100 y34.1 N [] 0) fun y178 =>
  Option.bind (cutI y18.1 y100 (y18.1.length : Int)) fun y193 =>
  Option.bind (rulebook_Place N (Rule.mk 1 7 y51.1 y61.1 0) y193 y178) fun y219 =>
  Option.bind (l36_RulebookTails_2 N y100 y18.1 y97.1 y97.2 y219.1 y219.2) fun y244 =>
  if y244 = true then
    some false
  else
    Option.bind (l36_RulebookTails_3 N N y18.1 0) fun y290 =>
    Option.bind (rulebook_Place N (Rule.mk 1 7 y51.1 y61.1 0) y290 []) fun y306 =>
    Option.bind (l36_RulebookTails_4 N y306.1 y306.2) fun y320 =>
    some y320

/-! ### humpyard/yardgen.Rule -/

def yardgen_Rule_0 (N : Nat) (x0 : Maker) (x5 : Rule) (x12 : Int) : Option (Maker × Rule) :=
  AM.lt (x12 == 1) fun y34 =>
  if y34 = true then
    Option.bind (Maker_Pick N x0 ([0, 262, 700, 1500, 10000] : List Int)) fun y51 =>
    some (y51.2, (Rule.mk x5.number x5.kind y51.1 x5.b x5.c))
  else
    AM.lt (x12 == 2) fun y66 =>
    if y66 = true then
      Option.bind (Maker_Pick N x0 ([3, 8, 16, 40] : List Int)) fun y83 =>
      some (y83.2, (Rule.mk x5.number x5.kind y83.1 x5.b x5.c))
    else
      AM.lt (x12 == 3) fun y98 =>
      if y98 = true then
        Option.bind (Maker_Pick N x0 ([400, 1600, 4000, 20000] : List Int)) fun y115 =>
        some (y115.2, (Rule.mk x5.number x5.kind y115.1 x5.b x5.c))
      else
        AM.lt (x12 == 4) fun y130 =>
        if y130 = true then
          Option.bind (Maker_Pick N x0 ([0, 30, 50, 80] : List Int)) fun y147 =>
          some (y147.2, (Rule.mk x5.number x5.kind y147.1 x5.b x5.c))
        else
          AM.lt (x12 == 5) fun y162 =>
          if y162 = true then
            Option.bind (Maker_Pick N x0 ([1, 3, 9] : List Int)) fun y179 =>
            Option.bind (Maker_Pick N y179.2 ([0, 1, 3] : List Int)) fun y202 =>
            Option.bind (Maker_Next N y202.2 4) fun y212 =>
            some (y212.2, (Rule.mk x5.number x5.kind y179.1 y202.1 y212.1))
          else
            AM.lt (x12 == 6) fun y231 =>
            if y231 = true then
              Option.bind (Maker_Pick N x0 ([0, 1, 3] : List Int)) fun y248 =>
              Option.bind (Maker_Next N y248.2 4) fun y258 =>
              some (y258.2, (Rule.mk x5.number x5.kind y248.1 y258.1 x5.c))
            else
              AM.lt (x12 == 7) fun y275 =>
              if y275 = true then
                Option.bind (Maker_Next N x0 5) fun y279 =>
                Option.bind (Maker_Next N y279.2 4) fun y289 =>
                some (y289.2, (Rule.mk x5.number x5.kind y279.1 y289.1 x5.c))
              else
                AM.lt (x12 == 8) fun y306 =>
                if y306 = true then
                  Option.bind (Maker_Pick N x0 ([50, 200, 500] : List Int)) fun y323 =>
                  some (y323.2, (Rule.mk x5.number x5.kind y323.1 x5.b x5.c))
                else
                  Option.bind (Maker_Pick N x0 ([100, 400] : List Int)) fun y351 =>
                  Option.bind (Maker_Pick N y351.2 ([0, 800, 3000] : List Int)) fun y374 =>
                  some (y374.2, (Rule.mk x5.number x5.kind y351.1 y374.1 x5.c))

def yardgen_Rule (N : Nat) (x0 : Maker) (x1 : Int) : Option (Rule × Maker) :=
  Option.bind (Maker_Next N x0 9) fun y10 =>
  Option.bind (yardgen_Rule_0 N y10.2 (Rule.mk x1 (IntKind.wrap .i64 (1 + y10.1)) 0 0 0) (IntKind.wrap .i64 (1 + y10.1))) fun y390 =>
  some (y390.2, y390.1)

/-! ### humpyard/yardgen.Rules -/

def yardgen_Rules_0 (N : Nat) : Nat → Maker → (List Rule) → Int → Option (Maker × List Rule)
  | 0, _, _, _ => none
  | n + 1, x0, x5, x6 =>
    if (decide (0 < x6)) = true then
      Option.bind (Maker_Next N x0 9) fun y20 =>
      Option.bind (yardgen_Rule N y20.2 (IntKind.wrap .i64 ((IntKind.wrap .i64 ((IntKind.wrap .i64 (10 * (x5.length : Int))) + 1)) + y20.1))) fun y30 =>
      Option.bind (appI x5 ([y30.1] : List Rule)) fun y48 =>
      AM.lt (IntKind.wrap .i64 (x6 - 1)) fun y59 =>
      yardgen_Rules_0 N n y30.2 y48 y59
    else
      some (x0, x5)

def yardgen_Rules (N : Nat) (x0 : Maker) (x1 : Int) : Option (List Rule × Maker) :=
  Option.bind (Maker_Next N x0 (IntKind.wrap .i64 (x1 + 1))) fun y5 =>
  Option.bind (yardgen_Rules_0 N N y5.2 [] y5.1) fun y63 =>
  some (y63.2, y63.1)

/-! ### (*humpyard/humpgen.Maker).Spoil -/

def Maker_Spoil (N : Nat) (x0 : Maker) (x1 : List UInt8) : Option (List UInt8 × Maker) :=
  if (x1 == []) = true then
    Option.bind (Maker_Next N x0 256) fun y6 =>
    Option.bind (toU8 (IntKind.wrap .u8 y6.1)) fun y16 =>
    AM.lt ([y16] : List UInt8) fun y24 =>
    some (y24, y6.2)
  else
    Option.bind (Maker_Next N x0 (x1.length : Int)) fun y28 =>
    Option.bind (Maker_Next N y28.2 4) fun y40 =>
    AM.lt (y40.1 == 0) fun y52 =>
    if y52 = true then
      Option.bind (cutI x1 0 y28.1) fun y56 =>
      Option.bind (cutI x1 (IntKind.wrap .i64 (y28.1 + 1)) (x1.length : Int)) fun y57 =>
      Option.bind (appI y56 y57) fun y58 =>
      some (y58, y40.2)
    else
      AM.lt (y40.1 == 1) fun y62 =>
      if y62 = true then
        Option.bind (cutI x1 0 y28.1) fun y66 =>
        Option.bind (Maker_Next N y40.2 256) fun y69 =>
        Option.bind (toU8 (IntKind.wrap .u8 y69.1)) fun y84 =>
        Option.bind (appI y66 ([y84] : List UInt8)) fun y95 =>
        Option.bind (cutI x1 y28.1 (x1.length : Int)) fun y96 =>
        Option.bind (appI y95 y96) fun y97 =>
        some (y97, y69.2)
      else
        AM.lt (y40.1 == 2) fun y101 =>
        if y101 = true then
          Option.bind (cutI x1 0 y28.1) fun y105 =>
          Option.bind (Maker_Next N y40.2 10) fun y108 =>
          Option.bind (toU8 (IntKind.wrap .u8 (IntKind.wrap .i64 (48 + y108.1)))) fun y123 =>
          Option.bind (appI y105 ([y123] : List UInt8)) fun y134 =>
          Option.bind (cutI x1 (IntKind.wrap .i64 (y28.1 + 1)) (x1.length : Int)) fun y135 =>
          Option.bind (appI y134 y135) fun y136 =>
          some (y136, y108.2)
        else
          Option.bind (cutI x1 0 y28.1) fun y140 =>
          Option.bind (Maker_Next N y40.2 256) fun y143 =>
          Option.bind (toU8 (IntKind.wrap .u8 y143.1)) fun y158 =>
          Option.bind (appI y140 ([y158] : List UInt8)) fun y169 =>
          Option.bind (cutI x1 (IntKind.wrap .i64 (y28.1 + 1)) (x1.length : Int)) fun y170 =>
          Option.bind (appI y169 y170) fun y171 =>
          some (y171, y143.2)

/-! ### (*humpyard/humpgen.Maker).SpoilWagon -/

def Maker_SpoilWagon_0 (N : Nat) (x0 : Maker) (x3 : Wagon) (x6 : Int) : Option (Maker × Wagon) :=
  AM.lt (x6 == 0) fun y30 =>
  if y30 = true then
    Option.bind (Maker_Spoil N x0 x3.number) fun y34 =>
    some (y34.2, (Wagon.mk y34.1 x3.length x3.axles x3.mass x3.brake x3.goods x3.gentle x3.dest))
  else
    AM.lt (x6 == 1) fun y49 =>
    if y49 = true then
      Option.bind (Maker_Pick N x0 ([0, 2, 4, 6, 8, (-1)] : List Int)) fun y66 =>
      some (y66.2, (Wagon.mk x3.number x3.length y66.1 x3.mass x3.brake x3.goods x3.gentle x3.dest))
    else
      AM.lt (x6 == 2) fun y81 =>
      if y81 = true then
        Option.bind (Maker_Pick N x0 ([79, 80, 119, 401, 0, (-5)] : List Int)) fun y98 =>
        some (y98.2, (Wagon.mk x3.number y98.1 x3.axles x3.mass x3.brake x3.goods x3.gentle x3.dest))
      else
        AM.lt (x6 == 3) fun y113 =>
        if y113 = true then
          Option.bind (Maker_Pick N x0 ([49, 50, 2001, (-1)] : List Int)) fun y130 =>
          some (y130.2, (Wagon.mk x3.number x3.length x3.axles y130.1 x3.brake x3.goods x3.gentle x3.dest))
        else
          AM.lt (x6 == 4) fun y145 =>
          if y145 = true then
            Option.bind (Maker_Pick N x0 ([(-1), x3.mass, (IntKind.wrap .i64 (x3.mass + 1))] : List Int)) fun y162 =>
            some (y162.2, (Wagon.mk x3.number x3.length x3.axles x3.mass y162.1 x3.goods x3.gentle x3.dest))
          else
            AM.lt (x6 == 5) fun y177 =>
            if y177 = true then
              Option.bind (Maker_Pick N x0 ([(-1), 9, 10] : List Int)) fun y194 =>
              some (y194.2, (Wagon.mk x3.number x3.length x3.axles x3.mass x3.brake y194.1 x3.gentle x3.dest))
            else
              AM.lt (x6 == 6) fun y209 =>
              if y209 = true then
                Option.bind (Maker_Next N x0 5) fun y222 =>
                Option.bind (getI ([[], [65], [97, 32, 98], [97, 98, 99, 100, 101, 102, 103, 104, 105, 106, 107, 108, 109], [45]] : List (List UInt8)) y222.1) fun y232 =>
                some (y222.2, (Wagon.mk x3.number x3.length x3.axles x3.mass x3.brake x3.goods x3.gentle y232))
              else
                some (x0, x3)

def Maker_SpoilWagon (N : Nat) (x0 : Maker) (x1 : Wagon) : Option (Wagon × Maker) :=
  Option.bind (Maker_Next N x0 8) fun y18 =>
  Option.bind (Maker_SpoilWagon_0 N y18.2 x1 y18.1) fun y246 =>
  some (y246.2, y246.1)

/-! ### humpyard/humpyardref36.valid -/

def r36_valid_0 (N : Nat) (x1 : Rule) : Option (Bool) :=
  if (decide (x1.number < 1)) = true then
    some true
  else
    if (decide (9999 < x1.number)) = true then
      some true
    else
      if (decide (x1.kind < 1)) = true then
        some true
      else
        some (decide (9 < x1.kind))

def r36_valid_1 (N : Nat) (x1 : Rule) : Option (Bool) :=
  if (decide (0 ≤ x1.a)) = true then
    if (decide (x1.a ≤ 1000000)) = true then
      if (decide (0 ≤ x1.b)) = true then
        if (decide (x1.b ≤ 1000000)) = true then
          if (decide (0 ≤ x1.c)) = true then
            AM.lt (decide (x1.c ≤ 1000000)) fun y40 =>
            some y40
          else
            some false
        else
          some false
      else
        some false
    else
      some false
  else
    some false

def r36_valid (N : Nat) (x0 : Rule) : Option (Bool) :=
  Option.bind (r36_valid_0 N x0) fun y23 =>
  if y23 = true then
    some false
  else
    Option.bind (r36_valid_1 N x0) fun y58 =>
    some y58

/-! ### humpyard/humpyardref36.Valid -/

def r36_Valid_1 (N : Nat) (x0 : List Rule) (x3 : Int) : Nat → Int → Option (Sum (Unit) (Int))
  | 0, _ => none
  | n + 1, x4 =>
    if (decide (x4 < x3)) = true then
      Option.bind (getI x0 x4) fun y33 =>
      Option.bind (getI x0 x3) fun y40 =>
      if (y33.number == y40.number) = true then
        some (Sum.inr 8)
      else
        AM.lt (IntKind.wrap .i64 (x4 + 1)) fun y53 =>
        r36_Valid_1 N x0 x3 n y53
    else
      some (Sum.inl ())

def r36_Valid_0 (N : Nat) (x0 : List Rule) : Nat → Int → Option (Sum (Unit) (Int))
  | 0, _ => none
  | n + 1, x3 =>
    if (decide (x3 < (x0.length : Int))) = true then
      Option.bind (getI x0 x3) fun y14 =>
      Option.bind (r36_valid N y14) fun y21 =>
      if (!y21) = true then
        some (Sum.inr 1)
      else
        Option.bind (r36_Valid_1 N x0 x3 N 0) fun y57 =>
        match y57 with
        | Sum.inl y64 =>
          AM.lt (IntKind.wrap .i64 (x3 + 1)) fun y65 =>
          r36_Valid_0 N x0 n y65
        | Sum.inr y68 =>
          some (Sum.inr y68)
    else
      some (Sum.inl ())

def r36_Valid (N : Nat) (x0 : List Rule) : Option (Int) :=
  if (decide (32 < (x0.length : Int))) = true then
    some 3
  else
    Option.bind (r36_Valid_0 N x0 N 0) fun y70 =>
    match y70 with
    | Sum.inl y77 =>
      some 0
    | Sum.inr y80 =>
      some y80

/-! ### humpyard/humpyardref02.Valid -/

def r02_Valid (N : Nat) (x0 : List UInt8) : Option (Int) :=
  Option.bind (r02_digits N x0 12) fun y3 =>
  if (!y3) = true then
    some 11
  else
    Option.bind (r02_sum N x0 11) fun y11 =>
    Option.bind (getI x0 11) fun y12 =>
    if ((Int.tmod (IntKind.wrap .i64 (y11 + (IntKind.wrap .i64 (IntKind.wrap .u8 ((UInt8.toNat y12 : Int) - 48))))) 10) != 0) = true then
      some 9
    else
      some 0

/-! ### humpyard/humpyardref02.Kind -/

def r02_Kind_0 (N : Nat) (x11 : Int) (x12 : Bool) : Option (Bool) :=
  if x12 = true then
    some x12
  else
    AM.lt (x11 == 56) fun y20 =>
    some y20

def r02_Kind_1 (N : Nat) (x11 : Int) (x15 : Bool) : Option (Bool) :=
  if x15 = true then
    some x15
  else
    AM.lt (x11 == 52) fun y39 =>
    some y39

def r02_Kind (N : Nat) (x0 : List UInt8) : Option (Int × Int) :=
  Option.bind (r02_Valid N x0) fun y3 =>
  if (y3 != 0) = true then
    some (0, y3)
  else
    Option.bind (getI x0 4) fun y12 =>
    AM.lt ((UInt8.toNat y12 : Int) == 55) fun y15 =>
    Option.bind (r02_Kind_0 N (UInt8.toNat y12 : Int) y15) fun y23 =>
    if y23 = true then
      some (1, 0)
    else
      AM.lt ((UInt8.toNat y12 : Int) == 50) fun y34 =>
      Option.bind (r02_Kind_1 N (UInt8.toNat y12 : Int) y34) fun y42 =>
      if y42 = true then
        some (2, 0)
      else
        AM.lt ((UInt8.toNat y12 : Int) == 57) fun y53 =>
        if y53 = true then
          some (3, 0)
        else
          some (0, 0)

/-! ### humpyard/humpyardref06.Name -/

def r06_Name_1 (N : Nat) (x0 : List UInt8) (x3 : Int) : Option (Bool) :=
  Option.bind (getI x0 x3) fun y8 =>
  if (decide (97 ≤ (UInt8.toNat y8 : Int))) = true then
    Option.bind (getI x0 x3) fun y10 =>
    if (decide ((UInt8.toNat y10 : Int) ≤ 122)) = true then
      some (!true)
    else
      Option.bind (getI x0 x3) fun y15 =>
      if (decide (48 ≤ (UInt8.toNat y15 : Int))) = true then
        Option.bind (getI x0 x3) fun y17 =>
        some (!(decide ((UInt8.toNat y17 : Int) ≤ 57)))
      else
        some (!false)
  else
    Option.bind (getI x0 x3) fun y24 =>
    if (decide (48 ≤ (UInt8.toNat y24 : Int))) = true then
      Option.bind (getI x0 x3) fun y26 =>
      some (!(decide ((UInt8.toNat y26 : Int) ≤ 57)))
    else
      some (!false)

def r06_Name_0 (N : Nat) (x0 : List UInt8) : Nat → Int → Option (Sum (Unit) (Bool))
  | 0, _ => none
  | n + 1, x3 =>
    if (decide (x3 < (x0.length : Int))) = true then
      Option.bind (r06_Name_1 N x0 x3) fun y32 =>
      if y32 = true then
        some (Sum.inr false)
      else
        AM.lt (IntKind.wrap .i64 (x3 + 1)) fun y43 =>
        r06_Name_0 N x0 n y43
    else
      some (Sum.inl ())

def r06_Name_2 (N : Nat) (x0 : List UInt8) : Option (Bool) :=
  if (decide (1 ≤ (x0.length : Int))) = true then
    AM.lt (decide ((x0.length : Int) ≤ 12)) fun y56 =>
    some y56
  else
    some false

def r06_Name (N : Nat) (x0 : List UInt8) : Option (Bool) :=
  Option.bind (r06_Name_0 N x0 N 0) fun y47 =>
  match y47 with
  | Sum.inl y54 =>
    Option.bind (r06_Name_2 N x0) fun y62 =>
    some y62
  | Sum.inr y69 =>
    some y69

/-! ### humpyard/humpyardref06.Valid -/

def r06_Valid_0 (N : Nat) (x5 : Int) (x6 : Int) (x16 : Int) : Option (Int × Int) :=
  AM.lt (x16 == 2) fun y22 =>
  if y22 = true then
    some (2, x6)
  else
    AM.lt (x16 == 3) fun y29 =>
    if y29 = true then
      some (6, 120)
    else
      some (x5, x6)

def r06_Valid_1 (N : Nat) (x1 : Wagon) (x6 : Int) : Option (Bool) :=
  if (decide (x1.length < x6)) = true then
    some true
  else
    if (decide (400 < x1.length)) = true then
      some true
    else
      if (decide (x1.mass < 50)) = true then
        some true
      else
        if (decide (2000 < x1.mass)) = true then
          some true
        else
          if (decide (x1.brake < 0)) = true then
            some true
          else
            if (decide (x1.mass < x1.brake)) = true then
              some true
            else
              if (decide (x1.goods < 0)) = true then
                some true
              else
                AM.lt (decide (9 < x1.goods)) fun y79 =>
                some y79

def r06_Valid (N : Nat) (x0 : Wagon) : Option (Int) :=
  Option.bind (r02_Kind N x0.number) fun y9 =>
  if (y9.2 != 0) = true then
    some y9.2
  else
    Option.bind (r06_Valid_0 N 4 80 y9.1) fun y36 =>
    AM.lt (x0.axles != y36.1) fun y44 =>
    if y44 = true then
      some 1
    else
      Option.bind (r06_Valid_1 N x0 y36.2) fun y82 =>
      if y82 = true then
        some 2
      else
        Option.bind (r06_Name N x0.dest) fun y94 =>
        AM.lt (!y94) fun y95 =>
        if y95 = true then
          some 7
        else
          some 0

/-! ### humpyard/humpyardref06.ValidList -/

def r06_ValidList_1 (N : Nat) (x0 : List Wagon) (x3 : Int) : Nat → Int → Option (Sum (Unit) (Int))
  | 0, _ => none
  | n + 1, x5 =>
    if (decide (x5 < x3)) = true then
      Option.bind (getI x0 x5) fun y35 =>
      Option.bind (getI x0 x3) fun y42 =>
      if (y35.number == y42.number) = true then
        some (Sum.inr 8)
      else
        AM.lt (IntKind.wrap .i64 (x5 + 1)) fun y55 =>
        r06_ValidList_1 N x0 x3 n y55
    else
      some (Sum.inl ())

def r06_ValidList_0 (N : Nat) (x0 : List Wagon) : Nat → Int → Option (Sum (Unit) (Int))
  | 0, _ => none
  | n + 1, x3 =>
    if (decide (x3 < (x0.length : Int))) = true then
      Option.bind (getI x0 x3) fun y14 =>
      Option.bind (r06_Valid N y14) fun y21 =>
      if (y21 != 0) = true then
        some (Sum.inr y21)
      else
        Option.bind (r06_ValidList_1 N x0 x3 N 0) fun y59 =>
        match y59 with
        | Sum.inl y66 =>
          AM.lt (IntKind.wrap .i64 (x3 + 1)) fun y67 =>
          r06_ValidList_0 N x0 n y67
        | Sum.inr y70 =>
          some (Sum.inr y70)
    else
      some (Sum.inl ())

def r06_ValidList (N : Nat) (x0 : List Wagon) : Option (Int) :=
  if (decide (96 < (x0.length : Int))) = true then
    some 3
  else
    Option.bind (r06_ValidList_0 N x0 N 0) fun y72 =>
    match y72 with
    | Sum.inl y79 =>
      some 0
    | Sum.inr y82 =>
      some y82

/-! ### humpyard/humpyardref06.Total -/

def r06_Total_0 (N : Nat) (x0 : List Wagon) : Nat → Int → Int → Int → Int → Option (Int × Int × Int)
  | 0, _, _, _, _ => none
  | n + 1, x2, x3, x4, x7 =>
    if (decide (x7 < (x0.length : Int))) = true then
      Option.bind (getI x0 x7) fun y17 =>
      AM.lt (IntKind.wrap .i64 (x2 + y17.length)) fun y24 =>
      Option.bind (getI x0 x7) fun y27 =>
      AM.lt (IntKind.wrap .i64 (x3 + y27.mass)) fun y34 =>
      Option.bind (getI x0 x7) fun y37 =>
      AM.lt (IntKind.wrap .i64 (x4 + y37.axles)) fun y44 =>
      AM.lt (IntKind.wrap .i64 (x7 + 1)) fun y47 =>
      r06_Total_0 N x0 n y24 y34 y44 y47
    else
      some (x2, x3, x4)

def r06_Total (N : Nat) (x0 : List Wagon) : Option (Int × Int × Int × Int) :=
  Option.bind (r06_ValidList N x0) fun y3 =>
  if (y3 != 0) = true then
    some (0, 0, 0, y3)
  else
    Option.bind (r06_Total_0 N x0 N 0 0 0 0) fun y51 =>
    some (y51.1, y51.2.1, y51.2.2, 0)

/-! ### humpyard/humpyardref35.Off -/

def r35_Off_0 (N : Nat) (x0 : List Int) (x1 : Int) : Nat → Int → Option (Sum (Unit) (Bool))
  | 0, _ => none
  | n + 1, x5 =>
    if (decide (x5 < (x0.length : Int))) = true then
      Option.bind (getI x0 x5) fun y8 =>
      if (y8 == x1) = true then
        some (Sum.inr true)
      else
        AM.lt (IntKind.wrap .i64 (x5 + 1)) fun y21 =>
        r35_Off_0 N x0 x1 n y21
    else
      some (Sum.inl ())

def r35_Off (N : Nat) (x0 : List Int) (x1 : Int) : Option (Bool) :=
  Option.bind (r35_Off_0 N x0 x1 N 0) fun y25 =>
  match y25 with
  | Sum.inl y32 =>
    some false
  | Sum.inr y35 =>
    some y35

/-! ### humpyard/humpyardref35.Factor -/

def r35_Factor (N : Nat) (x0 : Int) : Option (Int) :=
  if (decide (x0 ≤ 5000)) = true then
    some 100
  else
    if (decide (7000 < x0)) = true then
      some 80
    else
      AM.lt (IntKind.wrap .i64 (100 - (IntKind.wrap .i64 (Int.tdiv (IntKind.wrap .i64 ((IntKind.wrap .i64 (x0 - 5000)) + 99)) 100)))) fun y15 =>
      some y15

/-! ### humpyard/humpyardref35.Total -/

def r35_Total_1 (N : Nat) (x0 : List Wagon) (x1 : List Int) (x10 : Int) : Option (Bool) :=
  Option.bind (getI x1 x10) fun y25 =>
  if (decide (y25 < 0)) = true then
    some true
  else
    Option.bind (getI x1 x10) fun y36 =>
    some (decide ((x0.length : Int) ≤ y36))

def r35_Total_0 (N : Nat) (x0 : List Wagon) (x1 : List Int) : Nat → Brakes → Int → Option (Sum (Brakes) (Brakes × Int))
  | 0, _, _ => none
  | n + 1, x4, x10 =>
    if (decide (x10 < (x1.length : Int))) = true then
      Option.bind (r35_Total_1 N x0 x1 x10) fun y45 =>
      if y45 = true then
        some (Sum.inr ((Brakes.mk 0 0 0 0 0 0 0), 2))
      else
        AM.lt (IntKind.wrap .i64 (x10 + 1)) fun y59 =>
        r35_Total_0 N x0 x1 n x4 y59
    else
      some (Sum.inl x4)

def r35_Total_2 (N : Nat) (x1 : List Int) : Nat → Brakes → Int → Option (Sum (Brakes) (Brakes × Int))
  | 0, _, _ => none
  | n + 1, x4, x11 =>
    if (decide (x11 < (x1.length : Int))) = true then
      Option.bind (cutI x1 0 x11) fun y78 =>
      Option.bind (getI x1 x11) fun y83 =>
      Option.bind (r35_Off N y78 y83) fun y92 =>
      if y92 = true then
        some (Sum.inr ((Brakes.mk 0 0 0 0 0 0 0), 8))
      else
        AM.lt (IntKind.wrap .i64 (x11 + 1)) fun y101 =>
        r35_Total_2 N x1 n x4 y101
    else
      some (Sum.inl x4)

def r35_Total_4 (N : Nat) (x0 : List Wagon) (x1 : List Int) (x12 : Brakes) (x13 : Int) : Option (Brakes) :=
  Option.bind (r35_Off N x1 x13) fun y131 =>
  if (!y131) = true then
    Option.bind (getI x0 x13) fun y135 =>
    some (Brakes.mk x12.length x12.axles x12.mass (IntKind.wrap .i64 (x12.braked + y135.brake)) x12.percent x12.required x12.missing)
  else
    some x12

def r35_Total_3 (N : Nat) (x0 : List Wagon) (x1 : List Int) : Nat → Brakes → Int → Option (Brakes)
  | 0, _, _ => none
  | n + 1, x12, x13 =>
    if (decide (x13 < (x0.length : Int))) = true then
      Option.bind (r35_Total_4 N x0 x1 x12 x13) fun y150 =>
      AM.lt (IntKind.wrap .i64 (x13 + 1)) fun y161 =>
      r35_Total_3 N x0 x1 n y150 y161
    else
      some x12

def r35_Total_5 (N : Nat) (x7 : Int) (x12 : Brakes) (x92 : Bool) : Option (Brakes) :=
  if x92 = true then
    Option.bind (divI (IntKind.wrap .i64 (100 * x12.braked)) x7) fun y190 =>
    some (Brakes.mk x12.length x12.axles x12.mass x12.braked (IntKind.wrap .i64 (y190)) x12.required x12.missing)
  else
    some x12

def r35_Total (N : Nat) (x0 : List Wagon) (x1 : List Int) : Option (Brakes × Int) :=
  Option.bind (r06_Total N x0) fun y9 =>
  if (y9.2.2.2 != 0) = true then
    some ((Brakes.mk 0 0 0 0 0 0 0), y9.2.2.2)
  else
    Option.bind (r35_Total_0 N x0 x1 N (Brakes.mk 0 0 0 0 0 0 0) 0) fun y63 =>
    match y63 with
    | Sum.inl y70 =>
      Option.bind (r35_Total_2 N x1 N y70 0) fun y105 =>
      match y105 with
      | Sum.inl y112 =>
        Option.bind (r35_Total_3 N x0 x1 N (Brakes.mk y9.1 y9.2.2.1 y9.2.1 0 0 0 0) 0) fun y165 =>
        Option.bind (r35_Factor N y9.1) fun y179 =>
        Option.bind (r35_Total_5 N y9.2.1 (Brakes.mk y165.length y165.axles y165.mass (IntKind.wrap .i64 (Int.tdiv (IntKind.wrap .i64 (y165.braked * y179)) 100)) y165.percent y165.required y165.missing) (decide (0 < y9.2.1))) fun y196 =>
        some (y196, 0)
      | Sum.inr y211 =>
        some y211
    | Sum.inr y214 =>
      some y214

/-! ### humpyard/humpyardref36.size -/

def r36_size (N : Nat) (x0 : Int) (x1 : Wagon) : Option (Int) :=
  AM.lt (x0 == 1) fun y11 =>
  if y11 = true then
    some x1.length
  else
    AM.lt (x0 == 2) fun y18 =>
    if y18 = true then
      some x1.axles
    else
      some x1.mass

/-! ### humpyard/humpyardref36.classes -/

def r36_classes_0 (N : Nat) (x2 : Int) (x3 : Int) (x4 : Wagon) (x5 : Wagon) : Option (Bool) :=
  if (x4.goods == x2) = true then
    if (x5.goods == x3) = true then
      some true
    else
      if (x4.goods == x3) = true then
        AM.lt (x5.goods == x2) fun y22 =>
        some y22
      else
        some false
  else
    if (x4.goods == x3) = true then
      AM.lt (x5.goods == x2) fun y30 =>
      some y30
    else
      some false

def r36_classes (N : Nat) (x0 : Wagon) (x1 : Wagon) (x2 : Int) (x3 : Int) : Option (Bool) :=
  Option.bind (r36_classes_0 N x2 x3 x0 x1) fun y36 =>
  some y36

/-! ### humpyard/humpyardref36.breaks -/

def r36_breaks_1 (N : Nat) (x12 : Int) (x13 : Bool) : Option (Bool) :=
  if x13 = true then
    some x13
  else
    AM.lt (x12 == 2) fun y18 =>
    if y18 = true then
      some y18
    else
      AM.lt (x12 == 3) fun y23 =>
      some y23

def r36_breaks_2 (N : Nat) (x1 : List Wagon) (x2 : Int) (x3 : Rule) : Nat → Int → Int → Option (Int)
  | 0, _, _ => none
  | n + 1, x7, x8 =>
    if (decide (x8 ≤ x2)) = true then
      Option.bind (getI x1 x8) fun y40 =>
      Option.bind (r36_size N x3.kind y40) fun y49 =>
      AM.lt (IntKind.wrap .i64 (x7 + y49)) fun y50 =>
      AM.lt (IntKind.wrap .i64 (x8 + 1)) fun y53 =>
      r36_breaks_2 N x1 x2 x3 n y50 y53
    else
      some x7

def r36_breaks_4 (N : Nat) (x1 : List Wagon) (x2 : Int) (x3 : Rule) (x9 : Int) : Option (Bool) :=
  Option.bind (getI x1 x9) fun y78 =>
  Option.bind (getI x1 x2) fun y85 =>
  Option.bind (r36_classes N y78 y85 x3.a x3.b) fun y94 =>
  if y94 = true then
    some (decide ((IntKind.wrap .i64 ((IntKind.wrap .i64 (x2 - x9)) - 1)) < x3.c))
  else
    some false

def r36_breaks_3 (N : Nat) (x1 : List Wagon) (x2 : Int) (x3 : Rule) : Nat → Int → Option (Sum (Unit) (Bool))
  | 0, _ => none
  | n + 1, x9 =>
    if (decide (x9 < x2)) = true then
      Option.bind (r36_breaks_4 N x1 x2 x3 x9) fun y101 =>
      if y101 = true then
        some (Sum.inr true)
      else
        AM.lt (IntKind.wrap .i64 (x9 + 1)) fun y113 =>
        r36_breaks_3 N x1 x2 x3 n y113
    else
      some (Sum.inl ())

def r36_breaks_5 (N : Nat) (x1 : List Wagon) (x2 : Int) (x3 : Rule) : Option (Bool) :=
  Option.bind (getI x1 x2) fun y131 =>
  if (y131.goods == x3.a) = true then
    AM.lt (decide (x2 < x3.b)) fun y139 =>
    some y139
  else
    some false

def r36_breaks_6 (N : Nat) (x1 : List Wagon) : Nat → Int → Int → Option (Int)
  | 0, _, _ => none
  | n + 1, x7, x10 =>
    if (decide (x10 < (x1.length : Int))) = true then
      Option.bind (getI x1 x10) fun y185 =>
      AM.lt (IntKind.wrap .i64 (x7 + y185.mass)) fun y192 =>
      AM.lt (IntKind.wrap .i64 (x10 + 1)) fun y195 =>
      r36_breaks_6 N x1 n y192 y195
    else
      some x7

def r36_breaks_7 (N : Nat) (x1 : List Wagon) (x2 : Int) (x3 : Rule) (x7 : Int) : Option (Bool) :=
  Option.bind (getI x1 x2) fun y207 =>
  if (decide (y207.mass ≤ x3.a)) = true then
    AM.lt (decide (x3.b < x7)) fun y215 =>
    some y215
  else
    some false

def r36_breaks_0 (N : Nat) (x1 : List Wagon) (x2 : Int) (x3 : Rule) (x7 : Int) (x12 : Int) : Option (Sum (Unit) (Bool)) :=
  AM.lt (x12 == 1) fun y13 =>
  Option.bind (r36_breaks_1 N x12 y13) fun y26 =>
  if y26 = true then
    Option.bind (r36_breaks_2 N x1 x2 x3 N x7 0) fun y57 =>
    AM.lt (decide (x3.a < y57)) fun y65 =>
    some (Sum.inr y65)
  else
    AM.lt (x12 == 5) fun y69 =>
    if y69 = true then
      Option.bind (r36_breaks_3 N x1 x2 x3 N 0) fun y117 =>
      match y117 with
      | Sum.inl y124 =>
        some (Sum.inl ())
      | Sum.inr y125 =>
        some (Sum.inr y125)
    else
      AM.lt (x12 == 6) fun y127 =>
      if y127 = true then
        Option.bind (r36_breaks_5 N x1 x2 x3) fun y145 =>
        some (Sum.inr y145)
      else
        AM.lt (x12 == 8) fun y153 =>
        if y153 = true then
          Option.bind (getI x1 x2) fun y157 =>
          Option.bind (getI x1 x2) fun y164 =>
          AM.lt (decide ((IntKind.wrap .i64 (x3.a * y164.axles)) < y157.mass)) fun y171 =>
          some (Sum.inr y171)
        else
          AM.lt (x12 == 9) fun y175 =>
          if y175 = true then
            AM.lt (IntKind.wrap .i64 (x2 + 1)) fun y179 =>
            Option.bind (r36_breaks_6 N x1 N x7 y179) fun y199 =>
            Option.bind (r36_breaks_7 N x1 x2 x3 y199) fun y221 =>
            some (Sum.inr y221)
          else
            some (Sum.inl ())

def r36_breaks (N : Nat) (x0 : Rule) (x1 : List Wagon) (x2 : Int) : Option (Bool) :=
  Option.bind (r36_breaks_0 N x1 x2 x0 0 x0.kind) fun y229 =>
  match y229 with
  | Sum.inl y236 =>
    some false
  | Sum.inr y239 =>
    some y239

/-! ### humpyard/humpyardref36.place -/

def r36_place_0 (N : Nat) (x3 : Rule) (x7 : Int) (x8 : Brakes) : Option (Bool) :=
  if (decide (0 < x7)) = true then
    some (decide (x8.percent < x3.a))
  else
    some false

def r36_place_3 (N : Nat) (x1 : List Wagon) (x2 : List Int) (x12 : Int) : Option (Bool) :=
  Option.bind (getI x1 x12) fun y70 =>
  if (decide (0 < y70.brake)) = true then
    Option.bind (r35_Off N x2 x12) fun y78 =>
    some (!y78)
  else
    some false

def r36_place_2 (N : Nat) (x1 : List Wagon) (x2 : List Int) (x11 : Int) (x12 : Int) : Option (Int) :=
  Option.bind (r36_place_3 N x1 x2 x12) fun y84 =>
  if y84 = true then
    AM.lt (IntKind.wrap .i64 (x11 + 1)) fun y93 =>
    some y93
  else
    some x11

def r36_place_1 (N : Nat) (x1 : List Wagon) (x2 : List Int) (x7 : Int) : Nat → Int → Int → Option (Int)
  | 0, _, _ => none
  | n + 1, x11, x12 =>
    if (decide (x12 < x7)) = true then
      Option.bind (r36_place_2 N x1 x2 x11 x12) fun y97 =>
      AM.lt (IntKind.wrap .i64 (x12 + 1)) fun y105 =>
      r36_place_1 N x1 x2 x7 n y97 y105
    else
      some x11

def r36_place_4 (N : Nat) (x1 : List Wagon) (x3 : Rule) (x7 : Int) : Nat → Int → Option (Sum (Unit) (Int))
  | 0, _ => none
  | n + 1, x13 =>
    if (decide (x13 < x7)) = true then
      Option.bind (r36_breaks N x3 x1 x13) fun y131 =>
      if y131 = true then
        some (Sum.inr x13)
      else
        AM.lt (IntKind.wrap .i64 (x13 + 1)) fun y138 =>
        r36_place_4 N x1 x3 x7 n y138
    else
      some (Sum.inl ())

def r36_place (N : Nat) (x0 : Rule) (x1 : List Wagon) (x2 : List Int) : Option (Int) :=
  AM.lt (x1.length : Int) fun y9 =>
  AM.lt (x0.kind == 4) fun y14 =>
  if y14 = true then
    Option.bind (r35_Total N x1 x2) fun y18 =>
    Option.bind (r36_place_0 N x0 y9 y18.1) fun y41 =>
    if y41 = true then
      some y9
    else
      some (-1)
  else
    AM.lt (x0.kind == 7) fun y55 =>
    if y55 = true then
      AM.lt (min x0.a y9) fun y59 =>
      AM.lt (IntKind.wrap .i64 (y9 - y59)) fun y64 =>
      Option.bind (r36_place_1 N x1 x2 y9 N 0 y64) fun y109 =>
      if (decide (y109 < (min x0.b y59))) = true then
        some y9
      else
        some (-1)
    else
      Option.bind (r36_place_4 N x1 x0 y9 N 0) fun y142 =>
      match y142 with
      | Sum.inl y149 =>
        some (-1)
      | Sum.inr y152 =>
        some y152

/-! ### humpyard/humpyardref36.Check -/

def r36_Check_0 (N : Nat) (x0 : List Rule) (x1 : List Wagon) (x2 : List Int) : Nat → Int → Option (Sum (Unit) (Int × Int × Int))
  | 0, _ => none
  | n + 1, x12 =>
    if (decide (x12 < (x0.length : Int))) = true then
      Option.bind (getI x0 x12) fun y39 =>
      Option.bind (r36_place N y39 x1 x2) fun y46 =>
      if (decide (0 ≤ y46)) = true then
        Option.bind (getI x0 x12) fun y52 =>
        some (Sum.inr (y52.number, y46, 0))
      else
        AM.lt (IntKind.wrap .i64 (x12 + 1)) fun y62 =>
        r36_Check_0 N x0 x1 x2 n y62
    else
      some (Sum.inl ())

def r36_Check (N : Nat) (x0 : List Rule) (x1 : List Wagon) (x2 : List Int) : Option (Int × Int × Int) :=
  Option.bind (r36_Valid N x0) fun y3 =>
  if (y3 != 0) = true then
    some (0, 0, y3)
  else
    Option.bind (r35_Total N x1 x2) fun y12 =>
    if (y12.2 != 0) = true then
      some (0, 0, y12.2)
    else
      Option.bind (r36_Check_0 N x0 x1 x2 N 0) fun y66 =>
      match y66 with
      | Sum.inl y73 =>
        some (0, (-1), 0)
      | Sum.inr y76 =>
        some y76

/-! ### humpyard/humpyardref36.Place -/

def r36_Place (N : Nat) (x0 : Rule) (x1 : List Wagon) (x2 : List Int) : Option (Int × Int) :=
  Option.bind (r36_valid N x0) fun y9 =>
  if (!y9) = true then
    some (0, 1)
  else
    Option.bind (r35_Total N x1 x2) fun y16 =>
    if (y16.2 != 0) = true then
      some (0, y16.2)
    else
      Option.bind (r36_place N x0 x1 x2) fun y39 =>
      some (y39, 0)

/-! ### humpyard/humpyardlaw36.exact -/

def l36_exact_1 (N : Nat) (x14 : Int) (x15 : Int) (x16 : Int) (x17 : Int) : Option (Bool) :=
  if (x14 != x16) = true then
    some true
  else
    some (x15 != x17)

def l36_exact_0 (N : Nat) (x0 : List Rule) (x1 : List Wagon) (x2 : List Int) : Nat → Int → Option (Sum (Unit) (Bool))
  | 0, _ => none
  | n + 1, x13 =>
    if (decide (x13 < (x0.length : Int))) = true then
      Option.bind (getI x0 x13) fun y14 =>
      Option.bind (rulebook_Place N y14 x1 x2) fun y21 =>
      Option.bind (getI x0 x13) fun y24 =>
      Option.bind (r36_Place N y24 x1 x2) fun y31 =>
      Option.bind (l36_exact_1 N y21.1 y21.2 y31.1 y31.2) fun y40 =>
      if y40 = true then
        some (Sum.inr false)
      else
        AM.lt (IntKind.wrap .i64 (x13 + 1)) fun y51 =>
        l36_exact_0 N x0 x1 x2 n y51
    else
      some (Sum.inl ())

def l36_exact_2 (N : Nat) (x0 : List Rule) (x7 : Int) (x8 : Int) (x9 : Int) (x10 : Int) (x11 : Int) (x12 : Int) : Option (Bool) :=
  if (x7 == x10) = true then
    if (x8 == x11) = true then
      if (x9 == x12) = true then
        Option.bind (rulebook_Valid N x0) fun y66 =>
        Option.bind (r36_Valid N x0) fun y67 =>
        AM.lt (y66 == y67) fun y68 =>
        some y68
      else
        some false
    else
      some false
  else
    some false

def l36_exact (N : Nat) (x0 : List Rule) (x1 : List Wagon) (x2 : List Int) : Option (Bool) :=
  Option.bind (rulebook_Check N x0 x1 x2) fun y3 =>
  Option.bind (r36_Check N x0 x1 x2) fun y6 =>
  Option.bind (l36_exact_0 N x0 x1 x2 N 0) fun y55 =>
  match y55 with
  | Sum.inl y62 =>
    Option.bind (l36_exact_2 N x0 y3.1 y3.2.1 y3.2.2 y6.1 y6.2.1 y6.2.2) fun y80 =>
    some y80
  | Sum.inr y87 =>
    some y87

/-! ### humpyard/humpyardlaw36.RulebookExact -/

def l36_RulebookExact_1 (N : Nat) (x10 : Int) (x11 : List Rule) : Option (Bool) :=
  if (x10 == 2) = true then
    some (decide (0 < (x11.length : Int)))
  else
    some false

def l36_RulebookExact_2 (N : Nat) (x9 : Maker) (x11 : List Rule) (x36 : Bool) : Option (Maker × List Rule) :=
  if x36 = true then
    Option.bind (Maker_Next N x9 (x11.length : Int)) fun y96 =>
    Option.bind (getI x11 y96.1) fun y106 =>
    Option.bind (getI x11 0) fun y117 =>
    Option.bind (Maker_Pick N y96.2 ([y106.number, 0, 9999, 10000, y117.number] : List Int)) fun y151 =>
    Option.bind (getI x11 y96.1) fun y163 =>
    Option.bind (Maker_Pick N y151.2 ([y163.kind, 0, 9, 10] : List Int)) fun y193 =>
    Option.bind (getI x11 y96.1) fun y212 =>
    AM.lt (x11.set ((y96.1 : Int).toNat) (Rule.mk y151.1 y212.kind y212.a y212.b y212.c)) fun y217 =>
    Option.bind (getI y217 y96.1) fun y225 =>
    AM.lt (y217.set ((y96.1 : Int).toNat) (Rule.mk y225.number y193.1 y225.a y225.b y225.c)) fun y230 =>
    Option.bind (getI y230 y96.1) fun y233 =>
    Option.bind (Maker_Pick N y193.2 ([y233.a, (-1), 1000000, 1000001] : List Int)) fun y263 =>
    Option.bind (getI y230 y96.1) fun y275 =>
    Option.bind (Maker_Pick N y263.2 ([y275.b, (-1)] : List Int)) fun y305 =>
    Option.bind (getI y230 y96.1) fun y317 =>
    Option.bind (Maker_Pick N y305.2 ([y317.c, (-1)] : List Int)) fun y347 =>
    Option.bind (getI y230 y96.1) fun y366 =>
    AM.lt (y230.set ((y96.1 : Int).toNat) (Rule.mk y366.number y366.kind y263.1 y366.b y366.c)) fun y371 =>
    Option.bind (getI y371 y96.1) fun y379 =>
    AM.lt (y371.set ((y96.1 : Int).toNat) (Rule.mk y379.number y379.kind y379.a y305.1 y379.c)) fun y384 =>
    Option.bind (getI y384 y96.1) fun y392 =>
    AM.lt (y384.set ((y96.1 : Int).toNat) (Rule.mk y392.number y392.kind y392.a y392.b y347.1)) fun y397 =>
    some (y347.2, y397)
  else
    some (x9, x11)

def l36_RulebookExact_3 (N : Nat) (x10 : Int) (x12 : List Wagon) : Option (Bool) :=
  if (x10 == 3) = true then
    some (decide (0 < (x12.length : Int)))
  else
    some false

def l36_RulebookExact_4 (N : Nat) (x9 : Maker) (x12 : List Wagon) (x13 : List Int) (x103 : Bool) : Option (Maker × List Wagon × List Int) :=
  if x103 = true then
    Option.bind (Maker_Next N x9 (x12.length : Int)) fun y447 =>
    Option.bind (getI x12 y447.1) fun y459 =>
    Option.bind (Maker_SpoilWagon N y447.2 y459) fun y468 =>
    Option.bind (getI x12 y447.1) fun y478 =>
    AM.lt (x12.set ((y447.1 : Int).toNat) y468.1) fun y489 =>
    Option.bind (Maker_Pick N y468.2 ([(-1), 0, (y489.length : Int)] : List Int)) fun y506 =>
    Option.bind (appI x13 ([y506.1] : List Int)) fun y526 =>
    some (y506.2, y489, y526)
  else
    some (x9, x12, x13)

def l36_RulebookExact_5 (N : Nat) (x1 : List Rule) (x11 : List Rule) (x12 : List Wagon) (x13 : List Int) : Option (Bool) :=
  Option.bind (l36_exact N x11 x12 x13) fun y594 =>
  if (!y594) = true then
    some true
  else
    if (decide ((x1.length : Int) < 40)) = true then
      Option.bind (l36_exact N x1 x12 x13) fun y618 =>
      some (!y618)
    else
      some false

def l36_RulebookExact_0 (N : Nat) (x1 : List Rule) : Nat → Maker → Int → Option (Sum (Unit) (Bool))
  | 0, _, _ => none
  | n + 1, x9, x10 =>
    if (decide (x10 < 4)) = true then
      Option.bind (yardgen_Rules N x9 7) fun y23 =>
      Option.bind (Maker_Wagons N y23.2 12) fun y37 =>
      Option.bind (yardgen_Off N y37.2 (y37.1.length : Int)) fun y54 =>
      Option.bind (l36_RulebookExact_1 N x10 y23.1) fun y78 =>
      Option.bind (l36_RulebookExact_2 N y54.2 y23.1 y78) fun y401 =>
      Option.bind (l36_RulebookExact_3 N x10 y37.1) fun y429 =>
      Option.bind (l36_RulebookExact_4 N y401.1 y37.1 y54.1 y429) fun y540 =>
      Option.bind (l36_RulebookExact_5 N x1 y401.2 y540.2.1 y540.2.2) fun y624 =>
      if y624 = true then
        some (Sum.inr false)
      else
        AM.lt (IntKind.wrap .i64 (x10 + 1)) fun y636 =>
        l36_RulebookExact_0 N x1 n y540.1 y636
    else
      some (Sum.inl ())

def l36_RulebookExact_6 (N : Nat) (x1 : List Rule) (x2 : List Wagon) (x3 : List Int) : Option (Bool) :=
  if (decide (40 < (x1.length : Int))) = true then
    some true
  else
    if (decide (110 < (x2.length : Int))) = true then
      some true
    else
      some (decide (110 < (x3.length : Int)))

def l36_RulebookExact_7 (N : Nat) (x1 : List Rule) (x2 : List Wagon) (x3 : List Int) : Option (Bool) :=
  Option.bind (l36_exact N x1 x2 x3) fun y670 =>
  if y670 = true then
    Option.bind (l36_sane N ) fun y672 =>
    some y672
  else
    some false

def l36_RulebookExact (N : Nat) (x0 : List Int) (x1 : List Rule) (x2 : List Wagon) (x3 : List Int) : Option (Bool) :=
  Option.bind (gen_New N x0) fun y3 =>
  Option.bind (l36_RulebookExact_0 N x1 N y3 0) fun y640 =>
  match y640 with
  | Sum.inl y647 =>
    Option.bind (l36_RulebookExact_6 N x1 x2 x3) fun y658 =>
    if y658 = true then
      Option.bind (l36_sane N ) fun y666 =>
      some y666
    else
      Option.bind (l36_RulebookExact_7 N x1 x2 x3) fun y678 =>
      some y678
  | Sum.inr y685 =>
    some y685

/-! ### humpyard/humpyardlaw36.RulebookFirst -/

def l36_RulebookFirst_1 (N : Nat) (x5 : List Wagon) (x8 : Int) (x11 : Int) : Option (Bool) :=
  if (x11 == x8) = true then
    if (decide (0 ≤ x11)) = true then
      if (decide (x11 ≤ (x5.length : Int))) = true then
        Option.bind (l36_sane N ) fun y149 =>
        some y149
      else
        some false
    else
      some false
  else
    some false

def l36_RulebookFirst_0 (N : Nat) (x4 : List Rule) (x5 : List Wagon) (x6 : List Int) (x7 : Int) (x8 : Int) : Nat → Int → Option (Sum (Unit) (Bool))
  | 0, _ => none
  | n + 1, x10 =>
    if (decide (x10 < (x4.length : Int))) = true then
      Option.bind (getI x4 x10) fun y102 =>
      Option.bind (rulebook_Place N y102 x5 x6) fun y125 =>
      if (y125.2 != 0) = true then
        some (Sum.inr false)
      else
        Option.bind (getI x4 x10) fun y134 =>
        if (y134.number == x7) = true then
          Option.bind (l36_RulebookFirst_1 N x5 x8 y125.1) fun y161 =>
          some (Sum.inr y161)
        else
          if (y125.1 != (-1)) = true then
            some (Sum.inr false)
          else
            AM.lt (IntKind.wrap .i64 (x10 + 1)) fun y175 =>
            l36_RulebookFirst_0 N x4 x5 x6 x7 x8 n y175
    else
      some (Sum.inl ())

def l36_RulebookFirst_2 (N : Nat) (x7 : Int) (x8 : Int) : Option (Bool) :=
  if (x7 == 0) = true then
    if (x8 == (-1)) = true then
      Option.bind (l36_sane N ) fun y189 =>
      some y189
    else
      some false
  else
    some false

def l36_RulebookFirst (N : Nat) (x0 : List Int) : Option (Bool) :=
  Option.bind (gen_New N x0) fun y3 =>
  Option.bind (yardgen_Rules N y3 9) fun y18 =>
  Option.bind (Maker_Wagons N y18.2 14) fun y32 =>
  Option.bind (yardgen_Off N y32.2 (y32.1.length : Int)) fun y49 =>
  Option.bind (rulebook_Check N y18.1 y32.1 y49.1) fun y88 =>
  if (y88.2.2 != 0) = true then
    some false
  else
    Option.bind (l36_RulebookFirst_0 N y18.1 y32.1 y49.1 y88.1 y88.2.1 N 0) fun y179 =>
    match y179 with
    | Sum.inl y186 =>
      Option.bind (l36_RulebookFirst_2 N y88.1 y88.2.1) fun y198 =>
      some y198
    | Sum.inr y205 =>
      some y205

/-! ### humpyard/humpyardlaw36.RulebookShortens -/

def l36_RulebookShortens_0 (N : Nat) (x8 : Int) (x9 : Int) (x10 : Int) (x11 : Int) : Option (Bool) :=
  if (x9 != 0) = true then
    some true
  else
    if (x11 != 0) = true then
      some true
    else
      if (x8 == (-1)) = true then
        some (x10 != (-1))
      else
        some false

def l36_RulebookShortens_1 (N : Nat) (x1 : Int) (x6 : List Wagon) (x8 : Int) (x10 : Int) : Option (Bool) :=
  if (decide (0 ≤ x8)) = true then
    if (decide ((x6.length : Int) ≤ x8)) = true then
      some true
    else
      if (!((x10 == (-1)) == (decide (x1 ≤ x8)))) = true then
        some true
      else
        if (x10 != (-1)) = true then
          some (x10 != x8)
        else
          some false
  else
    some false

def l36_RulebookShortens (N : Nat) (x0 : List Int) (x1 : Int) : Option (Bool) :=
  Option.bind (gen_New N x0) fun y3 =>
  Option.bind (Maker_Wagons N y3 14) fun y18 =>
  Option.bind (yardgen_Place N x1 (IntKind.wrap .i64 ((y18.1.length : Int) + 1))) fun y34 =>
  Option.bind (yardgen_Rule N y18.2 1) fun y37 =>
  Option.bind (Maker_Pick N y37.2 ([1, 2, 3, 6, 8] : List Int)) fun y72 =>
  Option.bind (rulebook_Place N (Rule.mk y37.1.number y72.1 y37.1.a y37.1.b y37.1.c) y18.1 []) fun y92 =>
  Option.bind (cutI y18.1 0 y34) fun y95 =>
  Option.bind (rulebook_Place N (Rule.mk y37.1.number y72.1 y37.1.a y37.1.b y37.1.c) y95 []) fun y109 =>
  Option.bind (l36_RulebookShortens_0 N y92.1 y92.2 y109.1 y109.2) fun y126 =>
  if y126 = true then
    some false
  else
    Option.bind (l36_RulebookShortens_1 N y34 y18.1 y92.1 y109.1) fun y156 =>
    if y156 = true then
      some false
    else
      Option.bind (l36_sane N ) fun y167 =>
      some y167

/-! ### humpyard/humpyardlaw36.RulebookSeparates -/

def l36_RulebookSeparates_2 (N : Nat) (x4 : List Wagon) (x5 : Rule) (x8 : Bool) (x9 : Int) (x10 : Int) : Option (Bool) :=
  if x8 = true then
    some true
  else
    if (x9 != x10) = true then
      Option.bind (getI x4 x9) fun y125 =>
      if (y125.goods == x5.a) = true then
        Option.bind (getI x4 x10) fun y135 =>
        if (y135.goods == x5.b) = true then
          AM.lt (decide ((IntKind.wrap .i64 ((max (IntKind.wrap .i64 (x9 - x10)) (IntKind.wrap .i64 (x10 - x9))) - 1)) < x5.c)) fun y145 =>
          some y145
        else
          some false
      else
        some false
    else
      some false

def l36_RulebookSeparates_1 (N : Nat) (x4 : List Wagon) (x5 : Rule) (x9 : Int) : Nat → Bool → Int → Option (Bool)
  | 0, _, _ => none
  | n + 1, x8, x10 =>
    if (decide (x10 < (x4.length : Int))) = true then
      Option.bind (l36_RulebookSeparates_2 N x4 x5 x8 x9 x10) fun y157 =>
      AM.lt (IntKind.wrap .i64 (x10 + 1)) fun y167 =>
      l36_RulebookSeparates_1 N x4 x5 x9 n y157 y167
    else
      some x8

def l36_RulebookSeparates_0 (N : Nat) (x4 : List Wagon) (x5 : Rule) : Nat → Bool → Int → Option (Bool)
  | 0, _, _ => none
  | n + 1, x8, x9 =>
    if (decide (x9 < (x4.length : Int))) = true then
      Option.bind (l36_RulebookSeparates_1 N x4 x5 x9 N x8 0) fun y171 =>
      AM.lt (IntKind.wrap .i64 (x9 + 1)) fun y181 =>
      l36_RulebookSeparates_0 N x4 x5 n y171 y181
    else
      some x8

def l36_RulebookSeparates_3 (N : Nat) (x4 : List Wagon) : Nat → (List Wagon) → Int → Option (List Wagon)
  | 0, _, _ => none
  | n + 1, x11, x12 =>
    if (decide (0 ≤ x12)) = true then
      Option.bind (getI x4 x12) fun y203 =>
      Option.bind (appI x11 ([y203] : List Wagon)) fun y221 =>
      AM.lt (IntKind.wrap .i64 (x12 - 1)) fun y233 =>
      l36_RulebookSeparates_3 N x4 n y221 y233
    else
      some x11

def l36_RulebookSeparates_4 (N : Nat) (x6 : Int) (x7 : Int) (x8 : Bool) (x13 : Int) (x14 : Int) (x15 : Int) (x16 : Int) : Option (Bool) :=
  if (x7 == 0) = true then
    if (x14 == 0) = true then
      if (x16 == 0) = true then
        if ((decide (0 ≤ x6)) == x8) = true then
          if (x6 == x13) = true then
            if ((decide (0 ≤ x15)) == x8) = true then
              Option.bind (l36_sane N ) fun y282 =>
              some y282
            else
              some false
          else
            some false
        else
          some false
      else
        some false
    else
      some false
  else
    some false

def l36_RulebookSeparates (N : Nat) (x0 : List Int) : Option (Bool) :=
  Option.bind (gen_New N x0) fun y3 =>
  Option.bind (Maker_Wagons N y3 14) fun y18 =>
  Option.bind (Maker_Pick N y18.2 ([0, 1, 3, 9] : List Int)) fun y46 =>
  Option.bind (Maker_Pick N y46.2 ([0, 1, 3, 9] : List Int)) fun y68 =>
  Option.bind (Maker_Next N y68.2 6) fun y78 =>
  Option.bind (rulebook_Place N (Rule.mk 1 5 y46.1 y68.1 y78.1) y18.1 []) fun y105 =>
  Option.bind (l36_RulebookSeparates_0 N y18.1 (Rule.mk 1 5 y46.1 y68.1 y78.1) N false 0) fun y185 =>
  AM.lt (IntKind.wrap .i64 ((y18.1.length : Int) - 1)) fun y197 =>
  Option.bind (l36_RulebookSeparates_3 N y18.1 N [] y197) fun y237 =>
  Option.bind (rulebook_Place N (Rule.mk 1 5 y68.1 y46.1 y78.1) y18.1 []) fun y265 =>
  Option.bind (rulebook_Place N (Rule.mk 1 5 y68.1 y46.1 y78.1) y237 []) fun y273 =>
  Option.bind (l36_RulebookSeparates_4 N y105.1 y105.2 y185 y265.1 y265.2 y273.1 y273.2) fun y303 =>
  some y303

/-! ### humpyard/humpyardlaw36.RulebookLimits -/

def l36_RulebookLimits_0 (N : Nat) (x4 : List Wagon) : Nat → (List Int) → Int → Option (List Int)
  | 0, _, _ => none
  | n + 1, x5, x6 =>
    if (decide (x6 < (x4.length : Int))) = true then
      Option.bind (getI x5 1) fun y48 =>
      Option.bind (getI x4 x6) fun y53 =>
      Option.bind (getI x5 1) fun y62 =>
      AM.lt (x5.set ((1 : Int).toNat) (IntKind.wrap .i64 (y48 + y53.length))) fun y72 =>
      Option.bind (getI y72 2) fun y75 =>
      Option.bind (getI x4 x6) fun y80 =>
      Option.bind (getI y72 2) fun y89 =>
      AM.lt (y72.set ((2 : Int).toNat) (IntKind.wrap .i64 (y75 + y80.axles))) fun y99 =>
      Option.bind (getI y99 3) fun y102 =>
      Option.bind (getI x4 x6) fun y107 =>
      Option.bind (getI y99 3) fun y116 =>
      AM.lt (y99.set ((3 : Int).toNat) (IntKind.wrap .i64 (y102 + y107.mass))) fun y126 =>
      AM.lt (IntKind.wrap .i64 (x6 + 1)) fun y129 =>
      l36_RulebookLimits_0 N x4 n y126 y129
    else
      some x5

def l36_RulebookLimits_3 (N : Nat) (x8 : Int) (x9 : Int) : Option (Bool) :=
  if (x9 != 0) = true then
    some true
  else
    some (x8 != (-1))

def l36_RulebookLimits_4 (N : Nat) (x4 : List Wagon) (x10 : Int) (x11 : Int) : Option (Bool) :=
  if (x11 != 0) = true then
    some true
  else
    some (x10 != (IntKind.wrap .i64 ((x4.length : Int) - 1)))

def l36_RulebookLimits_2 (N : Nat) (x4 : List Wagon) (x5 : List Int) (x7 : Int) : Option (Sum (Unit) (Bool)) :=
  Option.bind (getI x5 x7) fun y149 =>
  Option.bind (rulebook_Place N (Rule.mk 1 x7 y149 0 0) x4 []) fun y160 =>
  Option.bind (l36_RulebookLimits_3 N y160.1 y160.2) fun y169 =>
  if y169 = true then
    some (Sum.inr false)
  else
    if ((x4.length : Int) == 0) = true then
      some (Sum.inl ())
    else
      Option.bind (getI x5 x7) fun y187 =>
      Option.bind (rulebook_Place N (Rule.mk 1 x7 (IntKind.wrap .i64 (y187 - 1)) 0 0) x4 []) fun y198 =>
      Option.bind (l36_RulebookLimits_4 N x4 y198.1 y198.2) fun y207 =>
      if y207 = true then
        some (Sum.inr false)
      else
        some (Sum.inl ())

def l36_RulebookLimits_1 (N : Nat) (x4 : List Wagon) (x5 : List Int) : Nat → Int → Option (Sum (Unit) (Bool))
  | 0, _ => none
  | n + 1, x7 =>
    if (decide (x7 ≤ 3)) = true then
      Option.bind (l36_RulebookLimits_2 N x4 x5 x7) fun y221 =>
      match y221 with
      | Sum.inl y228 =>
        AM.lt (IntKind.wrap .i64 (x7 + 1)) fun y232 =>
        l36_RulebookLimits_1 N x4 x5 n y232
      | Sum.inr y235 =>
        some (Sum.inr y235)
    else
      some (Sum.inl ())

def l36_RulebookLimits (N : Nat) (x0 : List Int) : Option (Bool) :=
  Option.bind (gen_New N x0) fun y3 =>
  Option.bind (Maker_Wagons N y3 14) fun y18 =>
  Option.bind (l36_RulebookLimits_0 N y18.1 N (List.replicate 4 0) 0) fun y133 =>
  Option.bind (l36_RulebookLimits_1 N y18.1 y133 N 1) fun y237 =>
  match y237 with
  | Sum.inl y244 =>
    Option.bind (l36_sane N ) fun y245 =>
    some y245
  | Sum.inr y248 =>
    some y248

end Go.W
