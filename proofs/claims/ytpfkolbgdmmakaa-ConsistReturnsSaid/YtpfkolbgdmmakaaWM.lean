/- The models of the functions. -/
import Derived.Test.YtpfkolbgdmmakaaAmEq
set_option linter.unusedVariables false
set_option linter.unusedSimpArgs false
set_option maxRecDepth 100000
set_option maxHeartbeats 4000000
namespace Go.W
open Go.AM

/-- humpgen.Maker -/
structure Maker where
  l : (List Int)
  n : Int
deriving DecidableEq
def TMaker : Ty Maker where
  sz := 2
  tid := 53
  rd := fun z x cs => ∃ v0, cs = [v0, (Value.int .i64 x.n)] ∧ SlR (TInt 3 .i64) z x.l v0
  len := by rintro z x cs ⟨v0, rfl, s0⟩; rfl
  mono := by rintro z z' h x cs ⟨v0, rfl, s0⟩; exact ⟨v0, rfl, s0.mono h⟩
  one := by
    rintro z x cs ⟨v0, rfl, s0⟩ c hc
    simp only [List.mem_cons, List.not_mem_nil, or_false] at hc
    rcases hc with rfl | rfl <;> first | exact ⟨rfl, rfl⟩ | (obtain ⟨a, c, rfl⟩ := s0.len; exact ⟨rfl, rfl⟩)
/-- api.Wagon -/
structure Wagon where
  number : (List UInt8)
  length : Int
  axles : Int
  mass : Int
  brake : Int
  goods : Int
  gentle : Bool
  dest : (List UInt8)
deriving DecidableEq
def TWagon : Ty Wagon where
  sz := 8
  tid := 42
  rd := fun z x cs => cs = [(str x.number), (Value.int .i64 x.length), (Value.int .i64 x.axles), (Value.int .i64 x.mass), (Value.int .i64 x.brake), (Value.int .i64 x.goods), (Value.bool x.gentle), (str x.dest)]
  len := fun z x cs h => by rw [h]; rfl
  mono := fun z z' _ x cs h => h
  one := fun z x cs h c hc => by
    rw [h] at hc; simp only [List.mem_cons, List.not_mem_nil, or_false] at hc
    rcases hc with rfl | rfl | rfl | rfl | rfl | rfl | rfl | rfl <;> exact ⟨rfl, rfl⟩
/-- consist.reader -/
structure Reader where
  b : (List UInt8)
  at_ : Int
deriving DecidableEq
def TReader : Ty Reader where
  sz := 2
  tid := 61
  rd := fun z x cs => ∃ v0, cs = [v0, (Value.int .i64 x.at_)] ∧ SlR (TU8 5) z x.b v0
  len := by rintro z x cs ⟨v0, rfl, s0⟩; rfl
  mono := by rintro z z' h x cs ⟨v0, rfl, s0⟩; exact ⟨v0, rfl, s0.mono h⟩
  one := by
    rintro z x cs ⟨v0, rfl, s0⟩ c hc
    simp only [List.mem_cons, List.not_mem_nil, or_false] at hc
    rcases hc with rfl | rfl <;> first | exact ⟨rfl, rfl⟩ | (obtain ⟨a, c, rfl⟩ := s0.len; exact ⟨rfl, rfl⟩)

/-! ### humpyard/humpgen.New -/

def gen_New (N : Nat) (x0 : List Int) : Option (Maker) :=
  some (Maker.mk x0 0)

/-! ### (*humpyard/humpgen.Maker).Next -/

def Maker_Next_0 (N : Nat) (x0 : Maker) (x5 : Int) (x11 : Bool) : Option (Int) :=
  if x11 = true then
    Option.bind (modI x0.n (x0.l.length : Int)) fun y8 =>
    Option.bind (getI x0.l y8) fun y9 =>
    Option.bind (divI x0.n (x0.l.length : Int)) fun y15 =>
    AM.lt (IntKind.wrap .i64 (y9 + (IntKind.wrap .i64 ((IntKind.wrap .i64 (y15)) * 7919)))) fun y16 =>
    some y16
  else
    some x5

def Maker_Next_1 (N : Nat) (x1 : Int) (x5 : Int) (x51 : Bool) : Option (Int) :=
  if x51 = true then
    AM.lt (IntKind.wrap .i64 (x5 + x1)) fun y38 =>
    some y38
  else
    some x5

def Maker_Next (N : Nat) (x0 : Maker) (x1 : Int) : Option (Int × Maker) :=
  Option.bind (Maker_Next_0 N x0 0 (decide (0 < (x0.l.length : Int)))) fun y20 =>
  Option.bind (modI y20 x1) fun y32 =>
  Option.bind (Maker_Next_1 N x1 y32 (decide (y32 < 0))) fun y42 =>
  some (y42, (Maker.mk x0.l (IntKind.wrap .i64 (x0.n + 1))))

/-! ### (*humpyard/humpgen.Maker).Digits -/

def Maker_Digits_0 (N : Nat) (x1 : Int) : Nat → Maker → (List UInt8) → Int → Option (Maker × List UInt8)
  | 0, _, _, _ => none
  | n + 1, x0, x5, x6 =>
    if (decide (x6 < x1)) = true then
      Option.bind (Maker_Next N x0 10) fun y18 =>
      Option.bind (getI x5 x6) fun y28 =>
      Option.bind (toU8 (IntKind.wrap .u8 (IntKind.wrap .i64 (48 + y18.1)))) fun y39 =>
      AM.lt (x5.set ((x6 : Int).toNat) y39) fun y40 =>
      AM.lt (IntKind.wrap .i64 (x6 + 1)) fun y43 =>
      Maker_Digits_0 N x1 n y18.2 y40 y43
    else
      some (x0, x5)

def Maker_Digits (N : Nat) (x0 : Maker) (x1 : Int) : Option (List UInt8 × Maker) :=
  Option.bind (mkI 0 x1) fun y3 =>
  Option.bind (Maker_Digits_0 N x1 N x0 y3 0) fun y47 =>
  some (y47.2, y47.1)

/-! ### humpyard/humpyardref02.digits -/

def r02_digits_1 (N : Nat) (x0 : List UInt8) (x5 : Int) : Option (Bool) :=
  Option.bind (getI x0 x5) fun y14 =>
  if (decide ((UInt8.toNat y14 : Int) < 48)) = true then
    some true
  else
    Option.bind (getI x0 x5) fun y19 =>
    some (decide (57 < (UInt8.toNat y19 : Int)))

def r02_digits_0 (N : Nat) (x0 : List UInt8) (x1 : Int) : Nat → Int → Option (Sum (Unit) (Bool))
  | 0, _ => none
  | n + 1, x5 =>
    if (decide (x5 < x1)) = true then
      Option.bind (r02_digits_1 N x0 x5) fun y22 =>
      if y22 = true then
        some (Sum.inr false)
      else
        AM.lt (IntKind.wrap .i64 (x5 + 1)) fun y33 =>
        r02_digits_0 N x0 x1 n y33
    else
      some (Sum.inl ())

def r02_digits (N : Nat) (x0 : List UInt8) (x1 : Int) : Option (Bool) :=
  if ((x0.length : Int) != x1) = true then
    some false
  else
    Option.bind (r02_digits_0 N x0 x1 N 0) fun y37 =>
    match y37 with
    | Sum.inl y44 =>
      some true
    | Sum.inr y47 =>
      some y47

/-! ### humpyard/humpyardref02.sum -/

def r02_sum_1 (N : Nat) (x7 : Int) (x20 : Bool) : Option (Int) :=
  if x20 = true then
    AM.lt (IntKind.wrap .i64 (x7 * 2)) fun y17 =>
    if (decide (9 < y17)) = true then
      AM.lt (IntKind.wrap .i64 (y17 - 9)) fun y23 =>
      some y23
    else
      some y17
  else
    some x7

def r02_sum_0 (N : Nat) (x0 : List UInt8) (x1 : Int) : Nat → Int → Int → Option (Int)
  | 0, _, _ => none
  | n + 1, x5, x6 =>
    if (decide (x6 < x1)) = true then
      Option.bind (getI x0 x6) fun y10 =>
      AM.lt (IntKind.wrap .i64 (IntKind.wrap .u8 ((UInt8.toNat y10 : Int) - 48))) fun y11 =>
      Option.bind (r02_sum_1 N y11 ((Int.tmod x6 2) == 0)) fun y28 =>
      AM.lt (IntKind.wrap .i64 (x5 + y28)) fun y35 =>
      AM.lt (IntKind.wrap .i64 (x6 + 1)) fun y38 =>
      r02_sum_0 N x0 x1 n y35 y38
    else
      some x5

def r02_sum (N : Nat) (x0 : List UInt8) (x1 : Int) : Option (Int) :=
  Option.bind (r02_sum_0 N x0 x1 N 0 0) fun y42 =>
  some y42

/-! ### humpyard/humpyardref02.Digit -/

def r02_Digit (N : Nat) (x0 : List UInt8) : Option (Int × Int) :=
  Option.bind (r02_digits N x0 11) fun y3 =>
  if (!y3) = true then
    some (0, 11)
  else
    Option.bind (r02_sum N x0 11) fun y10 =>
    AM.lt (Int.tmod (IntKind.wrap .i64 (10 - (Int.tmod y10 10))) 10) fun y11 =>
    some (y11, 0)

/-! ### (*humpyard/humpgen.Maker).Number -/

def Maker_Number (N : Nat) (x0 : Maker) (x1 : Int) : Option (List UInt8 × Maker) :=
  Option.bind (Maker_Digits N x0 11) fun y3 =>
  Option.bind (appI y3.1 []) fun y13 =>
  Option.bind (getI y13 8) fun y23 =>
  Option.bind (toU8 (IntKind.wrap .u8 (IntKind.wrap .i64 (48 + (Int.tmod (IntKind.wrap .i64 (Int.tdiv x1 100)) 10))))) fun y34 =>
  AM.lt (y13.set ((8 : Int).toNat) y34) fun y35 =>
  Option.bind (getI y35 9) fun y36 =>
  Option.bind (toU8 (IntKind.wrap .u8 (IntKind.wrap .i64 (48 + (Int.tmod (IntKind.wrap .i64 (Int.tdiv x1 10)) 10))))) fun y47 =>
  AM.lt (y35.set ((9 : Int).toNat) y47) fun y48 =>
  Option.bind (getI y48 10) fun y49 =>
  Option.bind (toU8 (IntKind.wrap .u8 (IntKind.wrap .i64 (48 + (Int.tmod x1 10))))) fun y60 =>
  AM.lt (y48.set ((10 : Int).toNat) y60) fun y61 =>
  Option.bind (r02_Digit N y61) fun y64 =>
  Option.bind (toU8 (IntKind.wrap .u8 (IntKind.wrap .i64 (48 + y64.1)))) fun y67 =>
  Option.bind (appI y61 ([y67] : List UInt8)) fun y75 =>
  some (y75, y3.2)

/-! ### (*humpyard/humpgen.Maker).Pick -/

def Maker_Pick (N : Nat) (x0 : Maker) (x1 : List Int) : Option (Int × Maker) :=
  Option.bind (Maker_Next N x0 (x1.length : Int)) fun y3 =>
  Option.bind (getI x1 y3.1) fun y13 =>
  some (y13, y3.2)

/-! ### (*humpyard/humpgen.Maker).Name -/

def Maker_Name (N : Nat) (x0 : Maker) : Option (List UInt8 × Maker) :=
  Option.bind (Maker_Next N x0 10) fun y10 =>
  Option.bind (getI ([[97], [98], [99], [100], [101], [110, 111, 114, 116, 104], [115, 111, 117, 116, 104], [112, 111, 114, 116, 49], [120, 57], [97, 98, 99, 100, 101, 102, 103, 104, 105, 106, 107, 108]] : List (List UInt8)) y10.1) fun y20 =>
  some (y20, y10.2)

/-! ### (*humpyard/humpgen.Maker).Wagon -/

def Maker_Wagon_1 (N : Nat) (x26 : Int) (x27 : Bool) : Option (Bool) :=
  if x27 = true then
    some x27
  else
    AM.lt (x26 == 52) fun y126 =>
    some y126

def Maker_Wagon_0 (N : Nat) (x5 : Wagon) (x26 : Int) : Option (Wagon) :=
  AM.lt (x26 == 50) fun y121 =>
  Option.bind (Maker_Wagon_1 N x26 y121) fun y129 =>
  if y129 = true then
    some (Wagon.mk x5.number x5.length 2 x5.mass x5.brake x5.goods x5.gentle x5.dest)
  else
    AM.lt (x26 == 57) fun y148 =>
    if y148 = true then
      some (Wagon.mk x5.number (max x5.length 120) 6 x5.mass x5.brake x5.goods x5.gentle x5.dest)
    else
      some x5

def Maker_Wagon (N : Nat) (x0 : Maker) (x1 : Int) : Option (Wagon × Maker) :=
  Option.bind (Maker_Number N x0 x1) fun y10 =>
  Option.bind (Maker_Pick N y10.2 ([80, 120, 142, 199, 262, 400] : List Int)) fun y32 =>
  Option.bind (Maker_Pick N y32.2 ([50, 120, 400, 800, 2000] : List Int)) fun y54 =>
  Option.bind (Maker_Pick N y54.2 ([0, 0, 0, 1, 3, 9] : List Int)) fun y76 =>
  Option.bind (Maker_Next N y76.2 5) fun y86 =>
  Option.bind (Maker_Name N y86.2) fun y96 =>
  Option.bind (getI y10.1 4) fun y118 =>
  Option.bind (Maker_Wagon_0 N (Wagon.mk y10.1 y32.1 4 y54.1 0 y76.1 (y86.1 == 0) y96.1) (UInt8.toNat y118 : Int)) fun y161 =>
  Option.bind (Maker_Next N y96.2 5) fun y179 =>
  some ((Wagon.mk y161.number y161.length y161.axles y161.mass (IntKind.wrap .i64 (Int.tdiv (IntKind.wrap .i64 (y161.mass * y179.1)) 4)) y161.goods y161.gentle y161.dest), y179.2)

/-! ### (*humpyard/humpgen.Maker).Wagons -/

def Maker_Wagons_0 (N : Nat) : Nat → Maker → (List Wagon) → Int → Option (Maker × List Wagon)
  | 0, _, _, _ => none
  | n + 1, x0, x5, x6 =>
    if (decide (0 < x6)) = true then
      Option.bind (Maker_Wagon N x0 (x5.length : Int)) fun y20 =>
      Option.bind (appI x5 ([y20.1] : List Wagon)) fun y38 =>
      AM.lt (IntKind.wrap .i64 (x6 - 1)) fun y49 =>
      Maker_Wagons_0 N n y20.2 y38 y49
    else
      some (x0, x5)

def Maker_Wagons (N : Nat) (x0 : Maker) (x1 : Int) : Option (List Wagon × Maker) :=
  Option.bind (Maker_Next N x0 (IntKind.wrap .i64 (x1 + 1))) fun y5 =>
  Option.bind (Maker_Wagons_0 N N y5.2 [] y5.1) fun y53 =>
  some (y53.2, y53.1)

/-! ### humpyard/wagonnumber.digits -/

def wagonnumber_digits_1 (N : Nat) (x0 : List UInt8) (x5 : Int) : Option (Bool) :=
  Option.bind (getI x0 x5) fun y8 =>
  if (decide ((UInt8.toNat y8 : Int) < 48)) = true then
    some true
  else
    Option.bind (getI x0 x5) fun y13 =>
    some (decide (57 < (UInt8.toNat y13 : Int)))

def wagonnumber_digits_0 (N : Nat) (x0 : List UInt8) : Nat → Int → Option (Sum (Unit) (Bool))
  | 0, _ => none
  | n + 1, x5 =>
    if (decide (x5 < (x0.length : Int))) = true then
      Option.bind (wagonnumber_digits_1 N x0 x5) fun y16 =>
      if y16 = true then
        some (Sum.inr false)
      else
        AM.lt (IntKind.wrap .i64 (x5 + 1)) fun y27 =>
        wagonnumber_digits_0 N x0 n y27
    else
      some (Sum.inl ())

def wagonnumber_digits (N : Nat) (x0 : List UInt8) (x1 : Int) : Option (Bool) :=
  Option.bind (wagonnumber_digits_0 N x0 N 0) fun y31 =>
  match y31 with
  | Sum.inl y38 =>
    AM.lt ((x0.length : Int) == x1) fun y39 =>
    some y39
  | Sum.inr y42 =>
    some y42

/-! ### humpyard/wagonnumber.sum -/

def wagonnumber_sum_1 (N : Nat) (x5 : Int) (x19 : Bool) : Option (Int) :=
  if x19 = true then
    AM.lt (IntKind.wrap .i64 (x5 * 2)) fun y17 =>
    if (decide (9 < y17)) = true then
      AM.lt (IntKind.wrap .i64 (y17 - 9)) fun y23 =>
      some y23
    else
      some y17
  else
    some x5

def wagonnumber_sum_0 (N : Nat) (x0 : List UInt8) : Nat → Int → Int → Option (Int)
  | 0, _, _ => none
  | n + 1, x3, x4 =>
    if (decide (x4 < (x0.length : Int))) = true then
      Option.bind (getI x0 x4) fun y10 =>
      AM.lt (IntKind.wrap .i64 (IntKind.wrap .u8 ((UInt8.toNat y10 : Int) - 48))) fun y11 =>
      Option.bind (wagonnumber_sum_1 N y11 ((Int.tmod x4 2) == 0)) fun y28 =>
      AM.lt (IntKind.wrap .i64 (x3 + y28)) fun y35 =>
      AM.lt (IntKind.wrap .i64 (x4 + 1)) fun y38 =>
      wagonnumber_sum_0 N x0 n y35 y38
    else
      some x3

def wagonnumber_sum (N : Nat) (x0 : List UInt8) : Option (Int) :=
  Option.bind (wagonnumber_sum_0 N x0 N 0 0) fun y42 =>
  some y42

/-! ### humpyard/wagonnumber.check -/

def wagonnumber_check (N : Nat) (x0 : List UInt8) : Option (Int) :=
  Option.bind (wagonnumber_sum N x0) fun y3 =>
  AM.lt (Int.tmod (IntKind.wrap .i64 (10 - (Int.tmod y3 10))) 10) fun y4 =>
  some y4

/-! ### humpyard/wagonnumber.Valid -/

def wagonnumber_Valid (N : Nat) (x0 : List UInt8) : Option (Int) :=
  Option.bind (wagonnumber_digits N x0 12) fun y3 =>
  if (!y3) = true then
    some 11
  else
    Option.bind (getI x0 11) fun y10 =>
    Option.bind (cutI x0 0 11) fun y11 =>
    Option.bind (wagonnumber_check N y11) fun y13 =>
    if ((IntKind.wrap .i64 (IntKind.wrap .u8 ((UInt8.toNat y10 : Int) - 48))) != y13) = true then
      some 9
    else
      some 0

/-! ### humpyard/wagonnumber.Kind -/

def wagonnumber_Kind_0 (N : Nat) (x11 : Int) (x12 : Bool) : Option (Bool) :=
  if x12 = true then
    some x12
  else
    AM.lt (x11 == 56) fun y20 =>
    some y20

def wagonnumber_Kind_1 (N : Nat) (x11 : Int) (x15 : Bool) : Option (Bool) :=
  if x15 = true then
    some x15
  else
    AM.lt (x11 == 52) fun y39 =>
    some y39

def wagonnumber_Kind (N : Nat) (x0 : List UInt8) : Option (Int × Int) :=
  Option.bind (wagonnumber_Valid N x0) fun y3 =>
  if (y3 != 0) = true then
    some (0, y3)
  else
    Option.bind (getI x0 4) fun y12 =>
    AM.lt ((UInt8.toNat y12 : Int) == 55) fun y15 =>
    Option.bind (wagonnumber_Kind_0 N (UInt8.toNat y12 : Int) y15) fun y23 =>
    if y23 = true then
      some (1, 0)
    else
      AM.lt ((UInt8.toNat y12 : Int) == 50) fun y34 =>
      Option.bind (wagonnumber_Kind_1 N (UInt8.toNat y12 : Int) y34) fun y42 =>
      if y42 = true then
        some (2, 0)
      else
        AM.lt ((UInt8.toNat y12 : Int) == 57) fun y53 =>
        if y53 = true then
          some (3, 0)
        else
          some (0, 0)

/-! ### humpyard/consist.axles -/

def consist_axles (N : Nat) (x0 : Int) : Option (Int) :=
  AM.lt (x0 == 2) fun y5 =>
  if y5 = true then
    some 2
  else
    AM.lt (x0 == 3) fun y12 =>
    if y12 = true then
      some 6
    else
      some 4

/-! ### humpyard/consist.name -/

def consist_name_1 (N : Nat) (x4 : Int) : Option (Bool) :=
  if (decide (x4 < 97)) = true then
    if (decide (x4 < 48)) = true then
      some true
    else
      some (decide (57 < x4))
  else
    if (decide (122 < x4)) = true then
      if (decide (x4 < 48)) = true then
        some true
      else
        some (decide (57 < x4))
    else
      some false

def consist_name_0 (N : Nat) (x0 : List UInt8) : Nat → Int → Option (Sum (Unit) (Bool))
  | 0, _ => none
  | n + 1, x3 =>
    if (decide (x3 < (x0.length : Int))) = true then
      Option.bind (getI x0 x3) fun y8 =>
      AM.lt (UInt8.toNat y8 : Int) fun y9 =>
      Option.bind (consist_name_1 N y9) fun y30 =>
      if y30 = true then
        some (Sum.inr false)
      else
        AM.lt (IntKind.wrap .i64 (x3 + 1)) fun y41 =>
        consist_name_0 N x0 n y41
    else
      some (Sum.inl ())

def consist_name_2 (N : Nat) (x0 : List UInt8) : Option (Bool) :=
  if (decide (0 < (x0.length : Int))) = true then
    AM.lt (decide ((x0.length : Int) ≤ 12)) fun y54 =>
    some y54
  else
    some false

def consist_name (N : Nat) (x0 : List UInt8) : Option (Bool) :=
  Option.bind (consist_name_0 N x0 N 0) fun y45 =>
  match y45 with
  | Sum.inl y52 =>
    Option.bind (consist_name_2 N x0) fun y60 =>
    some y60
  | Sum.inr y67 =>
    some y67

/-! ### humpyard/consist.Valid -/

def consist_Valid_0 (N : Nat) (x5 : Int) (x16 : Bool) : Option (Int) :=
  if x16 = true then
    some 120
  else
    some x5

def consist_Valid_1 (N : Nat) (x1 : Wagon) (x5 : Int) : Option (Bool) :=
  if (decide (x1.length < x5)) = true then
    some true
  else
    if (decide (400 < x1.length)) = true then
      some true
    else
      if (decide (x1.mass < 50)) = true then
        some true
      else
        AM.lt (decide (2000 < x1.mass)) fun y56 =>
        some y56

def consist_Valid_2 (N : Nat) (x1 : Wagon) : Option (Bool) :=
  if (decide (x1.brake < 0)) = true then
    some true
  else
    if (decide (x1.mass < x1.brake)) = true then
      some true
    else
      if (decide (x1.goods < 0)) = true then
        some true
      else
        AM.lt (decide (9 < x1.goods)) fun y83 =>
        some y83

def consist_Valid (N : Nat) (x0 : Wagon) : Option (Int) :=
  Option.bind (wagonnumber_Kind N x0.number) fun y9 =>
  if (y9.2 != 0) = true then
    some y9.2
  else
    Option.bind (consist_Valid_0 N 80 (y9.1 == 3)) fun y26 =>
    Option.bind (consist_axles N y9.1) fun y36 =>
    AM.lt (x0.axles != y36) fun y37 =>
    if y37 = true then
      some 1
    else
      Option.bind (consist_Valid_1 N x0 y26) fun y59 =>
      if y59 = true then
        some 2
      else
        Option.bind (consist_Valid_2 N x0) fun y86 =>
        if y86 = true then
          some 2
        else
          Option.bind (consist_name N x0.dest) fun y98 =>
          AM.lt (!y98) fun y99 =>
          if y99 = true then
            some 7
          else
            some 0

/-! ### humpyard/consist.check -/

def consist_check_0 (N : Nat) (x11 : List Wagon) (x12 : Int) : Nat → (List ((List UInt8) × Bool)) → Int → Option (Sum (Unit) (Int))
  | 0, _, _ => none
  | n + 1, x3, x13 =>
    if (decide (x13 < x12)) = true then
      Option.bind (getI x11 x13) fun y22 =>
      Option.bind (consist_Valid N y22) fun y39 =>
      if (y39 != 0) = true then
        some (Sum.inr y39)
      else
        AM.lt (mpGet x3 y22.number) fun y48 =>
        if (y48.getD false) = true then
          some (Sum.inr 8)
        else
          AM.lt (mpSet x3 y22.number true) fun y55 =>
          consist_check_0 N x11 x12 n y55 (IntKind.wrap .i64 (x13 + 1))
    else
      some (Sum.inl ())

def consist_check (N : Nat) (x0 : List Wagon) : Option (Int) :=
  if (decide (96 < (x0.length : Int))) = true then
    some 3
  else
    Option.bind (consist_check_0 N x0 (x0.length : Int) N [] 0) fun y63 =>
    match y63 with
    | Sum.inl y70 =>
      some 0
    | Sum.inr y73 =>
      some y73

/-! ### humpyard/consist.two -/

def consist_two (N : Nat) (x0 : List UInt8) (x1 : Int) : Option (List UInt8) :=
  Option.bind (toU8 (IntKind.wrap .u8 (Int.fdiv x1 256))) fun y3 =>
  Option.bind (toU8 (IntKind.wrap .u8 x1)) fun y4 =>
  Option.bind (appI x0 ([y3, y4] : List UInt8)) fun y12 =>
  some y12

/-! ### humpyard/consist.Check -/

def consist_Check_0 (N : Nat) (x6 : List UInt8) (x7 : Int) : Nat → Int → Int → Option (Int)
  | 0, _, _ => none
  | n + 1, x3, x8 =>
    if (decide (x8 < x7)) = true then
      Option.bind (getI x6 x8) fun y10 =>
      AM.lt (UInt8.toNat y10 : Int) fun y16 =>
      AM.lt (Int.tmod (IntKind.wrap .i64 (x3 + (IntKind.wrap .i64 ((Int.tmod (IntKind.wrap .i64 (x8 + 1)) 65521) * (IntKind.wrap .i64 y16))))) 65521) fun y19 =>
      consist_Check_0 N x6 x7 n y19 (IntKind.wrap .i64 (x8 + 1))
    else
      some x3

def consist_Check (N : Nat) (x0 : List UInt8) : Option (Int) :=
  Option.bind (consist_Check_0 N x0 (x0.length : Int) N 0 0) fun y25 =>
  some y25

/-! ### humpyard/consist.Encode -/

def consist_Encode_1 (N : Nat) (x7 : Wagon) : Nat → (List UInt8) → Int → Option (List UInt8)
  | 0, _, _ => none
  | n + 1, x5, x8 =>
    if (decide (x8 < 12)) = true then
      Option.bind (getI x7.number x8) fun y48 =>
      Option.bind (getI x7.number (IntKind.wrap .i64 (x8 + 1))) fun y49 =>
      Option.bind (toU8 (bitsV .or .u8 (IntKind.wrap .u8 ((IntKind.wrap .u8 ((UInt8.toNat y48 : Int) - 48)) * 16)) (IntKind.wrap .u8 ((UInt8.toNat y49 : Int) - 48)))) fun y50 =>
      Option.bind (appI x5 ([y50] : List UInt8)) fun y63 =>
      AM.lt (IntKind.wrap .i64 (x8 + 2)) fun y74 =>
      consist_Encode_1 N x7 n y63 y74
    else
      some x5

def consist_Encode_2 (N : Nat) (x9 : Int) (x64 : Bool) : Option (Int) :=
  if x64 = true then
    AM.lt (IntKind.wrap .i64 (x9 + 16)) fun y168 =>
    some y168
  else
    some x9

def consist_Encode_0 (N : Nat) (x19 : List Wagon) (x20 : Int) : Nat → (List UInt8) → Int → Option (List UInt8)
  | 0, _, _ => none
  | n + 1, x5, x21 =>
    if (decide (x21 < x20)) = true then
      Option.bind (getI x19 x21) fun y26 =>
      Option.bind (consist_Encode_1 N y26 N x5 0) fun y78 =>
      Option.bind (consist_two N y78 y26.length) fun y93 =>
      Option.bind (toU8 (IntKind.wrap .u8 y26.axles)) fun y106 =>
      Option.bind (appI y93 ([y106] : List UInt8)) fun y119 =>
      Option.bind (consist_two N y119 y26.mass) fun y133 =>
      Option.bind (consist_two N y133 y26.brake) fun y149 =>
      Option.bind (consist_Encode_2 N y26.goods y26.gentle) fun y172 =>
      Option.bind (toU8 (IntKind.wrap .u8 y172)) fun y182 =>
      Option.bind (toU8 (IntKind.wrap .u8 (y26.dest.length : Int))) fun y183 =>
      Option.bind (appI y149 ([y182, y183] : List UInt8)) fun y192 =>
      Option.bind (appI y192 y26.dest) fun y203 =>
      consist_Encode_0 N x19 x20 n y203 (IntKind.wrap .i64 (x21 + 1))
    else
      some x5

def consist_Encode (N : Nat) (x0 : List Wagon) : Option (List UInt8 × Int) :=
  Option.bind (consist_check N x0) fun y3 =>
  if (y3 != 0) = true then
    some ([], y3)
  else
    Option.bind (toU8 (IntKind.wrap .u8 (x0.length : Int))) fun y12 =>
    Option.bind (consist_Encode_0 N x0 (x0.length : Int) N ([y12] : List UInt8) 0) fun y215 =>
    Option.bind (consist_Check N y215) fun y230 =>
    Option.bind (consist_two N y215 y230) fun y231 =>
    some (y231, 0)

/-! ### humpyard/consist.end -/

def consist_end_0 (N : Nat) (x0 : List UInt8) : Nat → Int → Int → Option (Sum (Int) (Int × Bool))
  | 0, _, _ => none
  | n + 1, x4, x5 =>
    Option.bind (getI x0 0) fun y13 =>
    if (decide (x5 < (IntKind.wrap .i64 (UInt8.toNat y13 : Int)))) = true then
      AM.lt (IntKind.wrap .i64 (x4 + 15)) fun y22 =>
      if (decide ((x0.length : Int) < y22)) = true then
        some (Sum.inr (0, false))
      else
        Option.bind (getI x0 (IntKind.wrap .i64 (y22 - 1))) fun y31 =>
        AM.lt (IntKind.wrap .i64 (y22 + (IntKind.wrap .i64 (UInt8.toNat y31 : Int)))) fun y37 =>
        AM.lt (IntKind.wrap .i64 (x5 + 1)) fun y40 =>
        consist_end_0 N x0 n y37 y40
    else
      some (Sum.inl x4)

def consist_end (N : Nat) (x0 : List UInt8) : Option (Int × Bool) :=
  if ((x0.length : Int) == 0) = true then
    some (0, false)
  else
    Option.bind (consist_end_0 N x0 N 1 0) fun y44 =>
    match y44 with
    | Sum.inl y51 =>
      AM.lt (IntKind.wrap .i64 (y51 + 2)) fun y52 =>
      AM.lt (decide ((IntKind.wrap .i64 (y51 + 2)) ≤ (x0.length : Int))) fun y53 =>
      some (y52, y53)
    | Sum.inr y56 =>
      some (y56.1, y56.2)

/-! ### (*humpyard/consist.reader).one -/

def reader_one (N : Nat) (x0 : Reader) : Option (Int × Reader) :=
  Option.bind (getI x0.b (IntKind.wrap .i64 ((IntKind.wrap .i64 (x0.at_ + 1)) - 1))) fun y7 =>
  AM.lt (IntKind.wrap .i64 (UInt8.toNat y7 : Int)) fun y13 =>
  some (y13, (Reader.mk x0.b (IntKind.wrap .i64 (x0.at_ + 1))))

/-! ### (*humpyard/consist.reader).two -/

def reader_two (N : Nat) (x0 : Reader) : Option (Int × Reader) :=
  Option.bind (reader_one N x0) fun y3 =>
  Option.bind (reader_one N y3.2) fun y15 =>
  AM.lt (bitsV .or .i64 (IntKind.wrap .i64 (y3.1 * 256)) y15.1) fun y25 =>
  some (y25, y15.2)

/-! ### (*humpyard/consist.reader).wagon -/

def reader_wagon_1 (N : Nat) (x6 : Bool) (x8 : Int) : Option (Bool) :=
  if x6 = true then
    if (decide ((Int.fdiv x8 16) ≤ 9)) = true then
      AM.lt (decide ((bitsV .and .i64 x8 15) ≤ 9)) fun y43 =>
      some y43
    else
      some false
  else
    some false

def reader_wagon_0 (N : Nat) : Nat → Reader → (List UInt8) → Bool → Int → Option (Reader × List UInt8 × Bool)
  | 0, _, _, _, _ => none
  | n + 1, x0, x5, x6, x7 =>
    if (decide (x7 < 12)) = true then
      Option.bind (reader_one N x0) fun y29 =>
      Option.bind (reader_wagon_1 N x6 y29.1) fun y52 =>
      Option.bind (toU8 (IntKind.wrap .u8 (IntKind.wrap .i64 (48 + (Int.fdiv y29.1 16))))) fun y69 =>
      Option.bind (toU8 (IntKind.wrap .u8 (IntKind.wrap .i64 (48 + (bitsV .and .i64 y29.1 15))))) fun y70 =>
      Option.bind (appI x5 ([y69, y70] : List UInt8)) fun y81 =>
      AM.lt (IntKind.wrap .i64 (x7 + 2)) fun y94 =>
      reader_wagon_0 N n y29.2 y81 y52 y94
    else
      some (x0, x5, x6)

def reader_wagon_2 (N : Nat) (x4 : Wagon) (x6 : Bool) (x9 : Int) : Option (Bool) :=
  if x6 = true then
    if (decide (x9 ≤ 25)) = true then
      AM.lt (decide (x4.goods ≤ 9)) fun y201 =>
      some y201
    else
      some false
  else
    some false

def reader_wagon (N : Nat) (x0 : Reader) : Option (Wagon × Bool × Reader) :=
  Option.bind (reader_wagon_0 N N x0 [] true 0) fun y98 =>
  Option.bind (reader_two N y98.1) fun y125 =>
  Option.bind (reader_one N y125.2) fun y139 =>
  Option.bind (reader_two N y139.2) fun y153 =>
  Option.bind (reader_two N y153.2) fun y167 =>
  Option.bind (reader_one N y167.2) fun y181 =>
  Option.bind (reader_wagon_2 N (Wagon.mk y98.2.1 y125.1 y139.1 y153.1 y167.1 (Int.tmod y181.1 16) (decide (16 ≤ y181.1)) []) y98.2.2 y181.1) fun y210 =>
  Option.bind (reader_one N y181.2) fun y223 =>
  Option.bind (cutI y223.2.b y223.2.at_ (IntKind.wrap .i64 (y223.2.at_ + y223.1))) fun y235 =>
  some ((Wagon.mk y98.2.1 y125.1 y139.1 y153.1 y167.1 (Int.tmod y181.1 16) (decide (16 ≤ y181.1)) y235), y210, (Reader.mk y223.2.b (IntKind.wrap .i64 (y223.2.at_ + y223.1))))

/-! ### humpyard/consist.Decode -/

def consist_Decode_1 (N : Nat) (x8 : Bool) (x11 : Bool) : Option (Bool) :=
  if x8 = true then
    some x11
  else
    some false

def consist_Decode_0 (N : Nat) (x0 : List UInt8) : Nat → Reader → (List Wagon) → Bool → Int → Option (List Wagon × Bool)
  | 0, _, _, _, _ => none
  | n + 1, x6, x7, x8, x9 =>
    Option.bind (getI x0 0) fun y68 =>
    if (decide (x9 < (IntKind.wrap .i64 (UInt8.toNat y68 : Int)))) = true then
      Option.bind (reader_wagon N x6) fun y77 =>
      Option.bind (consist_Decode_1 N x8 y77.2.1) fun y105 =>
      Option.bind (appI x7 ([y77.1] : List Wagon)) fun y126 =>
      AM.lt (IntKind.wrap .i64 (x9 + 1)) fun y137 =>
      consist_Decode_0 N x0 n y77.2.2 y126 y105 y137
    else
      some (x7, x8)

def consist_Decode (N : Nat) (x0 : List UInt8) : Option (List Wagon × Int) :=
  Option.bind (consist_end N x0) fun y3 =>
  AM.lt (!y3.2) fun y6 =>
  if y6 = true then
    some ([], 10)
  else
    AM.lt (decide (y3.1 < (x0.length : Int))) fun y13 =>
    if y13 = true then
      some ([], 11)
    else
      Option.bind (reader_two N (Reader.mk x0 (IntKind.wrap .i64 (y3.1 - 2)))) fun y32 =>
      Option.bind (cutI x0 0 (IntKind.wrap .i64 (y3.1 - 2))) fun y43 =>
      Option.bind (consist_Check N y43) fun y51 =>
      if (y32.1 != y51) = true then
        some ([], 9)
      else
        Option.bind (consist_Decode_0 N x0 N (Reader.mk y32.2.b 1) [] true 0) fun y141 =>
        if (!y141.2) = true then
          some ([], 11)
        else
          Option.bind (consist_check N y141.1) fun y162 =>
          if (y162 != 0) = true then
            some ([], y162)
          else
            some (y141.1, 0)

/-! ### humpyard/humpgen.Wagons -/

def gen_Wagons_0 (N : Nat) (x0 : List Wagon) (x1 : List Wagon) : Nat → Int → Option (Sum (Unit) (Bool))
  | 0, _ => none
  | n + 1, x5 =>
    if (decide (x5 < (x0.length : Int))) = true then
      Option.bind (getI x0 x5) fun y14 =>
      Option.bind (getI x1 x5) fun y20 =>
      if (!(decide (y14 = y20))) = true then
        some (Sum.inr false)
      else
        AM.lt (IntKind.wrap .i64 (x5 + 1)) fun y32 =>
        gen_Wagons_0 N x0 x1 n y32
    else
      some (Sum.inl ())

def gen_Wagons (N : Nat) (x0 : List Wagon) (x1 : List Wagon) : Option (Bool) :=
  if ((x0.length : Int) != (x1.length : Int)) = true then
    some false
  else
    Option.bind (gen_Wagons_0 N x0 x1 N 0) fun y36 =>
    match y36 with
    | Sum.inl y43 =>
      some true
    | Sum.inr y46 =>
      some y46

/-! ### humpyard/humpyardref06.Check -/

def r06_Check_0 (N : Nat) (x0 : List UInt8) : Nat → Int → Int → Option (Int)
  | 0, _, _ => none
  | n + 1, x3, x4 =>
    if (decide (x4 < (x0.length : Int))) = true then
      Option.bind (getI x0 x4) fun y10 =>
      AM.lt (Int.tmod (IntKind.wrap .i64 (x3 + (IntKind.wrap .i64 ((Int.tmod (IntKind.wrap .i64 (x4 + 1)) 65521) * (IntKind.wrap .i64 (UInt8.toNat y10 : Int)))))) 65521) fun y16 =>
      AM.lt (IntKind.wrap .i64 (x4 + 1)) fun y19 =>
      r06_Check_0 N x0 n y16 y19
    else
      some x3

def r06_Check (N : Nat) (x0 : List UInt8) : Option (Int) :=
  Option.bind (r06_Check_0 N x0 N 0 0) fun y23 =>
  some y23

/-! ### humpyard/humpyardlaw06.fixed -/

def l06_fixed (N : Nat) (x0 : List UInt8) : Option (List UInt8) :=
  if (decide ((x0.length : Int) < 2)) = true then
    some x0
  else
    AM.lt (IntKind.wrap .i64 ((x0.length : Int) - 2)) fun y9 =>
    Option.bind (cutI x0 0 y9) fun y12 =>
    Option.bind (r06_Check N y12) fun y17 =>
    Option.bind (cutI x0 0 y9) fun y26 =>
    Option.bind (appB ([] : List UInt8) y26) fun y31 =>
    Option.bind (toU8 (IntKind.wrap .u8 (IntKind.wrap .i64 (Int.tdiv y17 256)))) fun y38 =>
    Option.bind (toU8 (IntKind.wrap .u8 (Int.tmod y17 256))) fun y39 =>
    Option.bind (appB y31 ([y38, y39] : List UInt8)) fun y47 =>
    some y47

/-! ### humpyard/humpgen.Bytes -/

def gen_Bytes_0 (N : Nat) (x0 : List UInt8) (x1 : List UInt8) : Nat → Int → Option (Sum (Unit) (Bool))
  | 0, _ => none
  | n + 1, x5 =>
    if (decide (x5 < (x0.length : Int))) = true then
      Option.bind (getI x0 x5) fun y14 =>
      Option.bind (getI x1 x5) fun y20 =>
      if ((UInt8.toNat y14 : Int) != (UInt8.toNat y20 : Int)) = true then
        some (Sum.inr false)
      else
        AM.lt (IntKind.wrap .i64 (x5 + 1)) fun y32 =>
        gen_Bytes_0 N x0 x1 n y32
    else
      some (Sum.inl ())

def gen_Bytes (N : Nat) (x0 : List UInt8) (x1 : List UInt8) : Option (Bool) :=
  if ((x0.length : Int) != (x1.length : Int)) = true then
    some false
  else
    Option.bind (gen_Bytes_0 N x0 x1 N 0) fun y36 =>
    match y36 with
    | Sum.inl y43 =>
      some true
    | Sum.inr y46 =>
      some y46

/-! ### humpyard/humpyardlaw06.sane -/

def l06_sane_0 (N : Nat) (x1 : List UInt8) (x2 : Int) (x4 : Int) (x6 : Int) : Option (Bool) :=
  if (x2 == 0) = true then
    Option.bind (toU8 0) fun y63 =>
    Option.bind (toU8 0) fun y64 =>
    Option.bind (toU8 0) fun y65 =>
    Option.bind (gen_Bytes N x1 ([y63, y64, y65] : List UInt8)) fun y78 =>
    if y78 = true then
      Option.bind (toU8 1) fun y80 =>
      Option.bind (toU8 2) fun y81 =>
      Option.bind (toU8 3) fun y82 =>
      Option.bind (consist_Check N ([y80, y81, y82] : List UInt8)) fun y94 =>
      if (y94 == 14) = true then
        if (x4 == 11) = true then
          AM.lt (x6 == 10) fun y97 =>
          some y97
        else
          some false
      else
        some false
    else
      some false
  else
    some false

def l06_sane (N : Nat) : Option (Bool) :=
  Option.bind (consist_Encode N []) fun y3 =>
  Option.bind (toU8 0) fun y14 =>
  Option.bind (toU8 0) fun y15 =>
  Option.bind (toU8 0) fun y16 =>
  Option.bind (toU8 0) fun y17 =>
  Option.bind (consist_Decode N ([y14, y15, y16, y17] : List UInt8)) fun y28 =>
  Option.bind (toU8 0) fun y39 =>
  Option.bind (toU8 0) fun y40 =>
  Option.bind (consist_Decode N ([y39, y40] : List UInt8)) fun y51 =>
  Option.bind (l06_sane_0 N y3.1 y3.2 y28.2 y51.2) fun y112 =>
  some y112

/-! ### humpyard/humpyardlaw06.ConsistReturns -/

def l06_ConsistReturns_0 (N : Nat) (x5 : List Wagon) (x7 : Int) (x8 : List Wagon) (x9 : Int) : Option (Bool) :=
  if (x7 != 0) = true then
    some true
  else
    if (x9 != 0) = true then
      some true
    else
      Option.bind (gen_Wagons N x8 x5) fun y66 =>
      some (!y66)

def l06_ConsistReturns_3 (N : Nat) (x11 : List UInt8) (x14 : List UInt8) (x15 : Int) : Option (Bool) :=
  if (x15 != 0) = true then
    some true
  else
    Option.bind (gen_Bytes N x11 x14) fun y148 =>
    some (!y148)

def l06_ConsistReturns_2 (N : Nat) (x44 : List (List UInt8)) (x46 : Int) : Option (Sum (Unit) (Bool)) :=
  Option.bind (getI x44 x46) fun y100 =>
  if (decide (300 < (y100.length : Int))) = true then
    some (Sum.inl ())
  else
    Option.bind (consist_Decode N y100) fun y118 =>
    if (y118.2 != 0) = true then
      some (Sum.inl ())
    else
      Option.bind (consist_Encode N y118.1) fun y133 =>
      Option.bind (l06_ConsistReturns_3 N y100 y133.1 y133.2) fun y151 =>
      if y151 = true then
        some (Sum.inr false)
      else
        some (Sum.inl ())

def l06_ConsistReturns_1 (N : Nat) (x44 : List (List UInt8)) (x45 : Int) : Nat → Int → Option (Sum (Unit) (Bool))
  | 0, _ => none
  | n + 1, x46 =>
    if (decide (x46 < x45)) = true then
      Option.bind (l06_ConsistReturns_2 N x44 x46) fun y163 =>
      match y163 with
      | Sum.inl y170 =>
        l06_ConsistReturns_1 N x44 x45 n (IntKind.wrap .i64 (x46 + 1))
      | Sum.inr y174 =>
        some (Sum.inr y174)
    else
      some (Sum.inl ())

def l06_ConsistReturns (N : Nat) (x0 : List Int) (x1 : List UInt8) : Option (Bool) :=
  Option.bind (gen_New N x0) fun y3 =>
  Option.bind (Maker_Wagons N y3 10) fun y16 =>
  Option.bind (consist_Encode N y16.1) fun y36 =>
  Option.bind (consist_Decode N y36.1) fun y47 =>
  Option.bind (l06_ConsistReturns_0 N y16.1 y36.2 y47.1 y47.2) fun y69 =>
  if y69 = true then
    some false
  else
    Option.bind (l06_fixed N x1) fun y80 =>
    Option.bind (l06_ConsistReturns_1 N ([x1, y80] : List (List UInt8)) (([x1, y80] : List (List UInt8)).length : Int) N 0) fun y176 =>
    match y176 with
    | Sum.inl y183 =>
      Option.bind (l06_sane N ) fun y184 =>
      some y184
    | Sum.inr y187 =>
      some y187

/-! ### (*humpyard/humpgen.Maker).Spoil -/

def Maker_Spoil (N : Nat) (x0 : Maker) (x1 : List UInt8) : Option (List UInt8 × Maker) :=
  if (x1 == []) = true then
    Option.bind (Maker_Next N x0 256) fun y6 =>
    Option.bind (toU8 (IntKind.wrap .u8 y6.1)) fun y16 =>
    AM.lt ([y16] : List UInt8) fun y24 =>
    some (y24, y6.2)
  else
    Option.bind (Maker_Next N x0 (x1.length : Int)) fun y28 =>
    Option.bind (Maker_Next N y28.2 4) fun y40 =>
    AM.lt (y40.1 == 0) fun y52 =>
    if y52 = true then
      Option.bind (cutI x1 0 y28.1) fun y56 =>
      Option.bind (cutI x1 (IntKind.wrap .i64 (y28.1 + 1)) (x1.length : Int)) fun y57 =>
      Option.bind (appI y56 y57) fun y58 =>
      some (y58, y40.2)
    else
      AM.lt (y40.1 == 1) fun y62 =>
      if y62 = true then
        Option.bind (cutI x1 0 y28.1) fun y66 =>
        Option.bind (Maker_Next N y40.2 256) fun y69 =>
        Option.bind (toU8 (IntKind.wrap .u8 y69.1)) fun y80 =>
        Option.bind (appI y66 ([y80] : List UInt8)) fun y88 =>
        Option.bind (cutI x1 y28.1 (x1.length : Int)) fun y89 =>
        Option.bind (appI y88 y89) fun y90 =>
        some (y90, y69.2)
      else
        AM.lt (y40.1 == 2) fun y94 =>
        if y94 = true then
          Option.bind (cutI x1 0 y28.1) fun y98 =>
          Option.bind (Maker_Next N y40.2 10) fun y101 =>
          Option.bind (toU8 (IntKind.wrap .u8 (IntKind.wrap .i64 (48 + y101.1)))) fun y112 =>
          Option.bind (appI y98 ([y112] : List UInt8)) fun y120 =>
          Option.bind (cutI x1 (IntKind.wrap .i64 (y28.1 + 1)) (x1.length : Int)) fun y121 =>
          Option.bind (appI y120 y121) fun y122 =>
          some (y122, y101.2)
        else
          Option.bind (cutI x1 0 y28.1) fun y126 =>
          Option.bind (Maker_Next N y40.2 256) fun y129 =>
          Option.bind (toU8 (IntKind.wrap .u8 y129.1)) fun y140 =>
          Option.bind (appI y126 ([y140] : List UInt8)) fun y148 =>
          Option.bind (cutI x1 (IntKind.wrap .i64 (y28.1 + 1)) (x1.length : Int)) fun y149 =>
          Option.bind (appI y148 y149) fun y150 =>
          some (y150, y129.2)

/-! ### (*humpyard/humpgen.Maker).SpoilWagon -/

def Maker_SpoilWagon_0 (N : Nat) (x0 : Maker) (x3 : Wagon) (x6 : Int) : Option (Maker × Wagon) :=
  AM.lt (x6 == 0) fun y30 =>
  if y30 = true then
    Option.bind (Maker_Spoil N x0 x3.number) fun y34 =>
    some (y34.2, (Wagon.mk y34.1 x3.length x3.axles x3.mass x3.brake x3.goods x3.gentle x3.dest))
  else
    AM.lt (x6 == 1) fun y49 =>
    if y49 = true then
      Option.bind (Maker_Pick N x0 ([0, 2, 4, 6, 8, (-1)] : List Int)) fun y66 =>
      some (y66.2, (Wagon.mk x3.number x3.length y66.1 x3.mass x3.brake x3.goods x3.gentle x3.dest))
    else
      AM.lt (x6 == 2) fun y81 =>
      if y81 = true then
        Option.bind (Maker_Pick N x0 ([79, 80, 119, 401, 0, (-5)] : List Int)) fun y98 =>
        some (y98.2, (Wagon.mk x3.number y98.1 x3.axles x3.mass x3.brake x3.goods x3.gentle x3.dest))
      else
        AM.lt (x6 == 3) fun y113 =>
        if y113 = true then
          Option.bind (Maker_Pick N x0 ([49, 50, 2001, (-1)] : List Int)) fun y130 =>
          some (y130.2, (Wagon.mk x3.number x3.length x3.axles y130.1 x3.brake x3.goods x3.gentle x3.dest))
        else
          AM.lt (x6 == 4) fun y145 =>
          if y145 = true then
            Option.bind (Maker_Pick N x0 ([(-1), x3.mass, (IntKind.wrap .i64 (x3.mass + 1))] : List Int)) fun y162 =>
            some (y162.2, (Wagon.mk x3.number x3.length x3.axles x3.mass y162.1 x3.goods x3.gentle x3.dest))
          else
            AM.lt (x6 == 5) fun y177 =>
            if y177 = true then
              Option.bind (Maker_Pick N x0 ([(-1), 9, 10] : List Int)) fun y194 =>
              some (y194.2, (Wagon.mk x3.number x3.length x3.axles x3.mass x3.brake y194.1 x3.gentle x3.dest))
            else
              AM.lt (x6 == 6) fun y209 =>
              if y209 = true then
                Option.bind (Maker_Next N x0 5) fun y222 =>
                Option.bind (getI ([[], [65], [97, 32, 98], [97, 98, 99, 100, 101, 102, 103, 104, 105, 106, 107, 108, 109], [45]] : List (List UInt8)) y222.1) fun y232 =>
                some (y222.2, (Wagon.mk x3.number x3.length x3.axles x3.mass x3.brake x3.goods x3.gentle y232))
              else
                some (x0, x3)

def Maker_SpoilWagon (N : Nat) (x0 : Maker) (x1 : Wagon) : Option (Wagon × Maker) :=
  Option.bind (Maker_Next N x0 8) fun y18 =>
  Option.bind (Maker_SpoilWagon_0 N y18.2 x1 y18.1) fun y246 =>
  some (y246.2, y246.1)

/-! ### humpyard/humpyardref02.Valid -/

def r02_Valid (N : Nat) (x0 : List UInt8) : Option (Int) :=
  Option.bind (r02_digits N x0 12) fun y3 =>
  if (!y3) = true then
    some 11
  else
    Option.bind (r02_sum N x0 11) fun y11 =>
    Option.bind (getI x0 11) fun y12 =>
    if ((Int.tmod (IntKind.wrap .i64 (y11 + (IntKind.wrap .i64 (IntKind.wrap .u8 ((UInt8.toNat y12 : Int) - 48))))) 10) != 0) = true then
      some 9
    else
      some 0

/-! ### humpyard/humpyardref02.Kind -/

def r02_Kind_0 (N : Nat) (x11 : Int) (x12 : Bool) : Option (Bool) :=
  if x12 = true then
    some x12
  else
    AM.lt (x11 == 56) fun y20 =>
    some y20

def r02_Kind_1 (N : Nat) (x11 : Int) (x15 : Bool) : Option (Bool) :=
  if x15 = true then
    some x15
  else
    AM.lt (x11 == 52) fun y39 =>
    some y39

def r02_Kind (N : Nat) (x0 : List UInt8) : Option (Int × Int) :=
  Option.bind (r02_Valid N x0) fun y3 =>
  if (y3 != 0) = true then
    some (0, y3)
  else
    Option.bind (getI x0 4) fun y12 =>
    AM.lt ((UInt8.toNat y12 : Int) == 55) fun y15 =>
    Option.bind (r02_Kind_0 N (UInt8.toNat y12 : Int) y15) fun y23 =>
    if y23 = true then
      some (1, 0)
    else
      AM.lt ((UInt8.toNat y12 : Int) == 50) fun y34 =>
      Option.bind (r02_Kind_1 N (UInt8.toNat y12 : Int) y34) fun y42 =>
      if y42 = true then
        some (2, 0)
      else
        AM.lt ((UInt8.toNat y12 : Int) == 57) fun y53 =>
        if y53 = true then
          some (3, 0)
        else
          some (0, 0)

/-! ### humpyard/humpyardref06.Name -/

def r06_Name_1 (N : Nat) (x0 : List UInt8) (x3 : Int) : Option (Bool) :=
  Option.bind (getI x0 x3) fun y8 =>
  if (decide (97 ≤ (UInt8.toNat y8 : Int))) = true then
    Option.bind (getI x0 x3) fun y10 =>
    if (decide ((UInt8.toNat y10 : Int) ≤ 122)) = true then
      some (!true)
    else
      Option.bind (getI x0 x3) fun y15 =>
      if (decide (48 ≤ (UInt8.toNat y15 : Int))) = true then
        Option.bind (getI x0 x3) fun y17 =>
        some (!(decide ((UInt8.toNat y17 : Int) ≤ 57)))
      else
        some (!false)
  else
    Option.bind (getI x0 x3) fun y24 =>
    if (decide (48 ≤ (UInt8.toNat y24 : Int))) = true then
      Option.bind (getI x0 x3) fun y26 =>
      some (!(decide ((UInt8.toNat y26 : Int) ≤ 57)))
    else
      some (!false)

def r06_Name_0 (N : Nat) (x0 : List UInt8) : Nat → Int → Option (Sum (Unit) (Bool))
  | 0, _ => none
  | n + 1, x3 =>
    if (decide (x3 < (x0.length : Int))) = true then
      Option.bind (r06_Name_1 N x0 x3) fun y32 =>
      if y32 = true then
        some (Sum.inr false)
      else
        AM.lt (IntKind.wrap .i64 (x3 + 1)) fun y43 =>
        r06_Name_0 N x0 n y43
    else
      some (Sum.inl ())

def r06_Name_2 (N : Nat) (x0 : List UInt8) : Option (Bool) :=
  if (decide (1 ≤ (x0.length : Int))) = true then
    AM.lt (decide ((x0.length : Int) ≤ 12)) fun y56 =>
    some y56
  else
    some false

def r06_Name (N : Nat) (x0 : List UInt8) : Option (Bool) :=
  Option.bind (r06_Name_0 N x0 N 0) fun y47 =>
  match y47 with
  | Sum.inl y54 =>
    Option.bind (r06_Name_2 N x0) fun y62 =>
    some y62
  | Sum.inr y69 =>
    some y69

/-! ### humpyard/humpyardref06.Valid -/

def r06_Valid_0 (N : Nat) (x5 : Int) (x6 : Int) (x16 : Int) : Option (Int × Int) :=
  AM.lt (x16 == 2) fun y22 =>
  if y22 = true then
    some (2, x6)
  else
    AM.lt (x16 == 3) fun y29 =>
    if y29 = true then
      some (6, 120)
    else
      some (x5, x6)

def r06_Valid_1 (N : Nat) (x1 : Wagon) (x6 : Int) : Option (Bool) :=
  if (decide (x1.length < x6)) = true then
    some true
  else
    if (decide (400 < x1.length)) = true then
      some true
    else
      if (decide (x1.mass < 50)) = true then
        some true
      else
        if (decide (2000 < x1.mass)) = true then
          some true
        else
          if (decide (x1.brake < 0)) = true then
            some true
          else
            if (decide (x1.mass < x1.brake)) = true then
              some true
            else
              if (decide (x1.goods < 0)) = true then
                some true
              else
                AM.lt (decide (9 < x1.goods)) fun y79 =>
                some y79

def r06_Valid (N : Nat) (x0 : Wagon) : Option (Int) :=
  Option.bind (r02_Kind N x0.number) fun y9 =>
  if (y9.2 != 0) = true then
    some y9.2
  else
    Option.bind (r06_Valid_0 N 4 80 y9.1) fun y36 =>
    AM.lt (x0.axles != y36.1) fun y44 =>
    if y44 = true then
      some 1
    else
      Option.bind (r06_Valid_1 N x0 y36.2) fun y82 =>
      if y82 = true then
        some 2
      else
        Option.bind (r06_Name N x0.dest) fun y94 =>
        AM.lt (!y94) fun y95 =>
        if y95 = true then
          some 7
        else
          some 0

/-! ### humpyard/humpyardref06.ValidList -/

def r06_ValidList_1 (N : Nat) (x0 : List Wagon) (x3 : Int) : Nat → Int → Option (Sum (Unit) (Int))
  | 0, _ => none
  | n + 1, x5 =>
    if (decide (x5 < x3)) = true then
      Option.bind (getI x0 x5) fun y34 =>
      Option.bind (getI x0 x3) fun y40 =>
      if (y34.number == y40.number) = true then
        some (Sum.inr 8)
      else
        AM.lt (IntKind.wrap .i64 (x5 + 1)) fun y52 =>
        r06_ValidList_1 N x0 x3 n y52
    else
      some (Sum.inl ())

def r06_ValidList_0 (N : Nat) (x0 : List Wagon) : Nat → Int → Option (Sum (Unit) (Int))
  | 0, _ => none
  | n + 1, x3 =>
    if (decide (x3 < (x0.length : Int))) = true then
      Option.bind (getI x0 x3) fun y14 =>
      Option.bind (r06_Valid N y14) fun y20 =>
      if (y20 != 0) = true then
        some (Sum.inr y20)
      else
        Option.bind (r06_ValidList_1 N x0 x3 N 0) fun y56 =>
        match y56 with
        | Sum.inl y63 =>
          AM.lt (IntKind.wrap .i64 (x3 + 1)) fun y64 =>
          r06_ValidList_0 N x0 n y64
        | Sum.inr y67 =>
          some (Sum.inr y67)
    else
      some (Sum.inl ())

def r06_ValidList (N : Nat) (x0 : List Wagon) : Option (Int) :=
  if (decide (96 < (x0.length : Int))) = true then
    some 3
  else
    Option.bind (r06_ValidList_0 N x0 N 0) fun y69 =>
    match y69 with
    | Sum.inl y76 =>
      some 0
    | Sum.inr y79 =>
      some y79

/-! ### humpyard/humpyardref06.Encode -/

def r06_Encode_1 (N : Nat) (x7 : Wagon) : Nat → (List UInt8) → Int → Option (List UInt8)
  | 0, _, _ => none
  | n + 1, x5, x8 =>
    if (decide (x8 < 12)) = true then
      Option.bind (getI x7.number x8) fun y48 =>
      Option.bind (getI x7.number (IntKind.wrap .i64 (x8 + 1))) fun y49 =>
      Option.bind (toU8 (IntKind.wrap .u8 ((IntKind.wrap .u8 ((IntKind.wrap .u8 ((IntKind.wrap .u8 ((UInt8.toNat y48 : Int) - 48)) * 16)) + (UInt8.toNat y49 : Int))) - 48))) fun y50 =>
      Option.bind (appI x5 ([y50] : List UInt8)) fun y63 =>
      AM.lt (IntKind.wrap .i64 (x8 + 2)) fun y74 =>
      r06_Encode_1 N x7 n y63 y74
    else
      some x5

def r06_Encode_2 (N : Nat) (x9 : Int) (x54 : Bool) : Option (Int) :=
  if x54 = true then
    AM.lt (IntKind.wrap .u8 (x9 + 16)) fun y96 =>
    some y96
  else
    some x9

def r06_Encode_0 (N : Nat) (x0 : List Wagon) : Nat → (List UInt8) → Int → Option (List UInt8)
  | 0, _, _ => none
  | n + 1, x5, x6 =>
    if (decide (x6 < (x0.length : Int))) = true then
      Option.bind (getI x0 x6) fun y26 =>
      Option.bind (r06_Encode_1 N y26 N x5 0) fun y78 =>
      AM.lt (IntKind.wrap .u8 y26.goods) fun y90 =>
      Option.bind (r06_Encode_2 N y90 y26.gentle) fun y100 =>
      Option.bind (toU8 (IntKind.wrap .u8 (IntKind.wrap .i64 (Int.tdiv y26.length 256)))) fun y110 =>
      Option.bind (toU8 (IntKind.wrap .u8 (Int.tmod y26.length 256))) fun y111 =>
      Option.bind (toU8 (IntKind.wrap .u8 y26.axles)) fun y112 =>
      Option.bind (toU8 (IntKind.wrap .u8 (IntKind.wrap .i64 (Int.tdiv y26.mass 256)))) fun y113 =>
      Option.bind (toU8 (IntKind.wrap .u8 (Int.tmod y26.mass 256))) fun y114 =>
      Option.bind (toU8 (IntKind.wrap .u8 (IntKind.wrap .i64 (Int.tdiv y26.brake 256)))) fun y115 =>
      Option.bind (toU8 (IntKind.wrap .u8 (Int.tmod y26.brake 256))) fun y116 =>
      Option.bind (toU8 y100) fun y117 =>
      Option.bind (toU8 (IntKind.wrap .u8 (y26.dest.length : Int))) fun y118 =>
      Option.bind (appI y78 ([y110, y111, y112, y113, y114, y115, y116, y117, y118] : List UInt8)) fun y127 =>
      Option.bind (appI y127 y26.dest) fun y138 =>
      AM.lt (IntKind.wrap .i64 (x6 + 1)) fun y147 =>
      r06_Encode_0 N x0 n y138 y147
    else
      some x5

def r06_Encode (N : Nat) (x0 : List Wagon) : Option (List UInt8 × Int) :=
  Option.bind (r06_ValidList N x0) fun y3 =>
  if (y3 != 0) = true then
    some ([], y3)
  else
    Option.bind (toU8 (IntKind.wrap .u8 (x0.length : Int))) fun y12 =>
    Option.bind (r06_Encode_0 N x0 N ([y12] : List UInt8) 0) fun y151 =>
    Option.bind (r06_Check N y151) fun y166 =>
    Option.bind (toU8 (IntKind.wrap .u8 (IntKind.wrap .i64 (Int.tdiv y166 256)))) fun y169 =>
    Option.bind (toU8 (IntKind.wrap .u8 (Int.tmod y166 256))) fun y170 =>
    Option.bind (appI y151 ([y169, y170] : List UInt8)) fun y178 =>
    some (y178, 0)

/-! ### humpyard/consist.Total -/

def consist_Total_0 (N : Nat) (x14 : List Wagon) (x15 : Int) : Nat → Int → Int → Int → Int → Option (Int × Int × Int)
  | 0, _, _, _, _ => none
  | n + 1, x2, x3, x4, x16 =>
    if (decide (x16 < x15)) = true then
      Option.bind (getI x14 x16) fun y17 =>
      AM.lt (IntKind.wrap .i64 (x2 + y17.length)) fun y33 =>
      AM.lt (IntKind.wrap .i64 (x3 + y17.mass)) fun y36 =>
      AM.lt (IntKind.wrap .i64 (x4 + y17.axles)) fun y39 =>
      consist_Total_0 N x14 x15 n y33 y36 y39 (IntKind.wrap .i64 (x16 + 1))
    else
      some (x2, x3, x4)

def consist_Total (N : Nat) (x0 : List Wagon) : Option (Int × Int × Int × Int) :=
  Option.bind (consist_check N x0) fun y3 =>
  if (y3 != 0) = true then
    some (0, 0, 0, y3)
  else
    Option.bind (consist_Total_0 N x0 (x0.length : Int) N 0 0 0 0) fun y45 =>
    some (y45.1, y45.2.1, y45.2.2, 0)

/-! ### humpyard/humpyardref06.Total -/

def r06_Total_0 (N : Nat) (x0 : List Wagon) : Nat → Int → Int → Int → Int → Option (Int × Int × Int)
  | 0, _, _, _, _ => none
  | n + 1, x2, x3, x4, x7 =>
    if (decide (x7 < (x0.length : Int))) = true then
      Option.bind (getI x0 x7) fun y17 =>
      AM.lt (IntKind.wrap .i64 (x2 + y17.length)) fun y23 =>
      Option.bind (getI x0 x7) fun y26 =>
      AM.lt (IntKind.wrap .i64 (x3 + y26.mass)) fun y32 =>
      Option.bind (getI x0 x7) fun y35 =>
      AM.lt (IntKind.wrap .i64 (x4 + y35.axles)) fun y41 =>
      AM.lt (IntKind.wrap .i64 (x7 + 1)) fun y44 =>
      r06_Total_0 N x0 n y23 y32 y41 y44
    else
      some (x2, x3, x4)

def r06_Total (N : Nat) (x0 : List Wagon) : Option (Int × Int × Int × Int) :=
  Option.bind (r06_ValidList N x0) fun y3 =>
  if (y3 != 0) = true then
    some (0, 0, 0, y3)
  else
    Option.bind (r06_Total_0 N x0 N 0 0 0 0) fun y48 =>
    some (y48.1, y48.2.1, y48.2.2, 0)

/-! ### humpyard/humpyardlaw06.writes -/

def l06_writes_0 (N : Nat) (x0 : List Wagon) : Nat → Int → Option (Sum (Unit) (Bool))
  | 0, _ => none
  | n + 1, x15 =>
    if (decide (x15 < (x0.length : Int))) = true then
      Option.bind (getI x0 x15) fun y36 =>
      Option.bind (consist_Valid N y36) fun y43 =>
      Option.bind (getI x0 x15) fun y44 =>
      Option.bind (r06_Valid N y44) fun y51 =>
      if (y43 != y51) = true then
        some (Sum.inr false)
      else
        AM.lt (IntKind.wrap .i64 (x15 + 1)) fun y58 =>
        l06_writes_0 N x0 n y58
    else
      some (Sum.inl ())

def l06_writes_1 (N : Nat) (x3 : List UInt8) (x4 : Int) (x5 : List UInt8) (x6 : Int) (x7 : Int) (x8 : Int) (x9 : Int) (x10 : Int) (x11 : Int) (x12 : Int) (x13 : Int) (x14 : Int) : Option (Bool) :=
  Option.bind (gen_Bytes N x3 x5) fun y70 =>
  if y70 = true then
    if (x4 == x6) = true then
      if (x7 == x11) = true then
        if (x8 == x12) = true then
          if (x9 == x13) = true then
            AM.lt (x10 == x14) fun y76 =>
            some y76
          else
            some false
        else
          some false
      else
        some false
    else
      some false
  else
    some false

def l06_writes (N : Nat) (x0 : List Wagon) : Option (Bool) :=
  Option.bind (consist_Encode N x0) fun y3 =>
  Option.bind (r06_Encode N x0) fun y14 =>
  Option.bind (consist_Total N x0) fun y25 =>
  Option.bind (r06_Total N x0) fun y28 =>
  Option.bind (l06_writes_0 N x0 N 0) fun y62 =>
  match y62 with
  | Sum.inl y69 =>
    Option.bind (l06_writes_1 N y3.1 y3.2 y14.1 y14.2 y25.1 y25.2.1 y25.2.2.1 y25.2.2.2 y28.1 y28.2.1 y28.2.2.1 y28.2.2.2) fun y94 =>
    some y94
  | Sum.inr y101 =>
    some y101

/-! ### humpyard/humpyardref06.End -/

def r06_End_0 (N : Nat) (x0 : List UInt8) : Nat → Int → Int → Option (Sum (Int) (Int))
  | 0, _, _ => none
  | n + 1, x3, x4 =>
    Option.bind (getI x0 0) fun y13 =>
    if (decide (x4 < (IntKind.wrap .i64 (UInt8.toNat y13 : Int)))) = true then
      if (decide ((x0.length : Int) < (IntKind.wrap .i64 (x3 + 15)))) = true then
        some (Sum.inr (-1))
      else
        Option.bind (getI x0 (IntKind.wrap .i64 (x3 + 14))) fun y28 =>
        AM.lt (IntKind.wrap .i64 (x3 + (IntKind.wrap .i64 (15 + (IntKind.wrap .i64 (UInt8.toNat y28 : Int)))))) fun y34 =>
        if (decide ((x0.length : Int) < y34)) = true then
          some (Sum.inr (-1))
        else
          AM.lt (IntKind.wrap .i64 (x4 + 1)) fun y43 =>
          r06_End_0 N x0 n y34 y43
    else
      some (Sum.inl x3)

def r06_End (N : Nat) (x0 : List UInt8) : Option (Int) :=
  if ((x0.length : Int) == 0) = true then
    some (-1)
  else
    Option.bind (r06_End_0 N x0 N 1 0) fun y47 =>
    match y47 with
    | Sum.inl y54 =>
      if (decide ((x0.length : Int) < (IntKind.wrap .i64 (y54 + 2)))) = true then
        some (-1)
      else
        AM.lt (IntKind.wrap .i64 (y54 + 2)) fun y61 =>
        some y61
    | Sum.inr y64 =>
      some y64

/-! ### humpyard/humpyardref06.two -/

def r06_two (N : Nat) (x0 : List UInt8) : Option (Int) :=
  Option.bind (getI x0 0) fun y3 =>
  Option.bind (getI x0 1) fun y9 =>
  AM.lt (IntKind.wrap .i64 ((IntKind.wrap .i64 ((IntKind.wrap .i64 (UInt8.toNat y3 : Int)) * 256)) + (IntKind.wrap .i64 (UInt8.toNat y9 : Int)))) fun y15 =>
  some y15

/-! ### humpyard/humpyardref06.Decode -/

def r06_Decode_2 (N : Nat) (x8 : List UInt8) (x10 : Int) : Option (Bool) :=
  Option.bind (getI x8 x10) fun y70 =>
  if (decide (9 < (IntKind.wrap .u8 (Int.tdiv (UInt8.toNat y70 : Int) 16)))) = true then
    some true
  else
    Option.bind (getI x8 x10) fun y80 =>
    some (decide (9 < (Int.tmod (UInt8.toNat y80 : Int) 16)))

def r06_Decode_1 (N : Nat) (x8 : List UInt8) : Nat → (List UInt8) → Int → Option (Sum (List UInt8) (Int))
  | 0, _, _ => none
  | n + 1, x9, x10 =>
    if (decide (x10 < 6)) = true then
      Option.bind (r06_Decode_2 N x8 x10) fun y88 =>
      if y88 = true then
        some (Sum.inr 11)
      else
        Option.bind (getI x8 x10) fun y100 =>
        Option.bind (getI x8 x10) fun y106 =>
        Option.bind (toU8 (IntKind.wrap .u8 (48 + (IntKind.wrap .u8 (Int.tdiv (UInt8.toNat y100 : Int) 16))))) fun y112 =>
        Option.bind (toU8 (IntKind.wrap .u8 (48 + (Int.tmod (UInt8.toNat y106 : Int) 16)))) fun y113 =>
        Option.bind (appI x9 ([y112, y113] : List UInt8)) fun y121 =>
        AM.lt (IntKind.wrap .i64 (x10 + 1)) fun y124 =>
        r06_Decode_1 N x8 n y121 y124
    else
      some (Sum.inl x9)

def r06_Decode_3 (N : Nat) (x8 : List UInt8) : Option (Bool) :=
  Option.bind (getI x8 13) fun y137 =>
  if (decide (25 < (UInt8.toNat y137 : Int))) = true then
    some true
  else
    Option.bind (getI x8 13) fun y147 =>
    if (decide (10 ≤ (UInt8.toNat y147 : Int))) = true then
      Option.bind (getI x8 13) fun y154 =>
      some (decide ((UInt8.toNat y154 : Int) ≤ 15))
    else
      some false

def r06_Decode_0 (N : Nat) (x0 : List UInt8) : Nat → (List Wagon) → Int → Int → Option (Sum (List Wagon) (Int))
  | 0, _, _, _ => none
  | n + 1, x5, x6, x7 =>
    Option.bind (getI x0 0) fun y47 =>
    if (decide (x7 < (IntKind.wrap .i64 (UInt8.toNat y47 : Int)))) = true then
      Option.bind (cutI x0 x6 (x0.length : Int)) fun y56 =>
      Option.bind (r06_Decode_1 N y56 N [] 0) fun y128 =>
      match y128 with
      | Sum.inl y135 =>
        Option.bind (r06_Decode_3 N y56) fun y165 =>
        if y165 = true then
          some (Sum.inr 11)
        else
          Option.bind (getI y56 14) fun y177 =>
          AM.lt (IntKind.wrap .i64 (UInt8.toNat y177 : Int)) fun y183 =>
          Option.bind (cutI y56 6 (y56.length : Int)) fun y186 =>
          Option.bind (r06_two N y186) fun y193 =>
          Option.bind (getI y56 8) fun y194 =>
          Option.bind (cutI y56 9 (y56.length : Int)) fun y200 =>
          Option.bind (r06_two N y200) fun y207 =>
          Option.bind (cutI y56 11 (y56.length : Int)) fun y208 =>
          Option.bind (r06_two N y208) fun y215 =>
          Option.bind (getI y56 13) fun y216 =>
          Option.bind (getI y56 13) fun y222 =>
          Option.bind (cutI y56 15 (IntKind.wrap .i64 (15 + y183))) fun y228 =>
          Option.bind (appI x5 ([(Wagon.mk y135 y193 (IntKind.wrap .i64 (UInt8.toNat y194 : Int)) y207 y215 (IntKind.wrap .i64 (Int.tmod (UInt8.toNat y216 : Int) 16)) (decide (16 ≤ (UInt8.toNat y222 : Int))) y228)] : List Wagon)) fun y243 =>
          AM.lt (IntKind.wrap .i64 (x6 + (IntKind.wrap .i64 (15 + y183)))) fun y253 =>
          AM.lt (IntKind.wrap .i64 (x7 + 1)) fun y256 =>
          r06_Decode_0 N x0 n y243 y253 y256
      | Sum.inr y259 =>
        some (Sum.inr y259)
    else
      some (Sum.inl x5)

def r06_Decode (N : Nat) (x0 : List UInt8) : Option (List Wagon × Int) :=
  Option.bind (r06_End N x0) fun y3 =>
  AM.lt (decide (y3 < 0)) fun y6 =>
  if y6 = true then
    some ([], 10)
  else
    AM.lt (decide (y3 < (x0.length : Int))) fun y13 =>
    if y13 = true then
      some ([], 11)
    else
      Option.bind (cutI x0 (IntKind.wrap .i64 (y3 - 2)) (x0.length : Int)) fun y20 =>
      Option.bind (r06_two N y20) fun y26 =>
      Option.bind (cutI x0 0 (IntKind.wrap .i64 (y3 - 2))) fun y27 =>
      Option.bind (r06_Check N y27) fun y33 =>
      AM.lt (y26 != y33) fun y34 =>
      if y34 = true then
        some ([], 9)
      else
        Option.bind (r06_Decode_0 N x0 N [] 1 0) fun y261 =>
        match y261 with
        | Sum.inl y268 =>
          Option.bind (r06_ValidList N y268) fun y277 =>
          if (y277 != 0) = true then
            some ([], y277)
          else
            some (y268, 0)
        | Sum.inr y292 =>
          some ([], y292)

/-! ### humpyard/humpyardlaw06.reads -/

def l06_reads_0 (N : Nat) (x0 : List UInt8) (x3 : List Wagon) (x4 : Int) (x5 : List Wagon) (x6 : Int) : Option (Bool) :=
  Option.bind (gen_Wagons N x3 x5) fun y25 =>
  if y25 = true then
    if (x4 == x6) = true then
      Option.bind (consist_Check N x0) fun y28 =>
      Option.bind (r06_Check N x0) fun y29 =>
      AM.lt (y28 == y29) fun y30 =>
      some y30
    else
      some false
  else
    some false

def l06_reads (N : Nat) (x0 : List UInt8) : Option (Bool) :=
  Option.bind (consist_Decode N x0) fun y3 =>
  Option.bind (r06_Decode N x0) fun y14 =>
  Option.bind (l06_reads_0 N x0 y3.1 y3.2 y14.1 y14.2) fun y39 =>
  some y39

/-! ### (*humpyard/humpgen.Maker).SpoilBytes -/

def Maker_SpoilBytes (N : Nat) (x0 : Maker) (x1 : List UInt8) : Option (List UInt8 × Maker) :=
  Option.bind (Maker_Spoil N x0 x1) fun y3 =>
  Option.bind (appI y3.1 []) fun y13 =>
  some (y13, y3.2)

/-! ### humpyard/humpyardlaw06.ConsistExact -/

def l06_ConsistExact_1 (N : Nat) (x8 : Int) (x9 : List Wagon) : Option (Bool) :=
  if (decide (1 < x8)) = true then
    some (decide (0 < (x9.length : Int)))
  else
    some false

def l06_ConsistExact_2 (N : Nat) (x7 : Maker) (x9 : List Wagon) (x27 : Bool) : Option (Maker × List Wagon) :=
  if x27 = true then
    Option.bind (Maker_Next N x7 (x9.length : Int)) fun y56 =>
    Option.bind (getI x9 y56.1) fun y68 =>
    Option.bind (Maker_SpoilWagon N y56.2 y68) fun y77 =>
    Option.bind (getI x9 y56.1) fun y87 =>
    AM.lt (x9.set ((y56.1 : Int).toNat) y77.1) fun y98 =>
    some (y77.2, y98)
  else
    some (x7, x9)

def l06_ConsistExact_3 (N : Nat) (x8 : Int) (x9 : List Wagon) : Option (Bool) :=
  if (x8 == 4) = true then
    some (decide (0 < (x9.length : Int)))
  else
    some false

def l06_ConsistExact_4 (N : Nat) (x7 : Maker) (x9 : List Wagon) (x47 : Bool) : Option (Maker × List Wagon) :=
  if x47 = true then
    Option.bind (Maker_Next N x7 (x9.length : Int)) fun y134 =>
    Option.bind (getI x9 y134.1) fun y144 =>
    Option.bind (appI x9 ([y144] : List Wagon)) fun y161 =>
    some (y134.2, y161)
  else
    some (x7, x9)

def l06_ConsistExact_5 (N : Nat) (x7 : Maker) (x9 : List Wagon) (x11 : List UInt8) : Option (Maker × Bool) :=
  Option.bind (l06_writes N x9) fun y204 =>
  if (!y204) = true then
    some (x7, true)
  else
    Option.bind (l06_reads N x11) fun y209 =>
    if (!y209) = true then
      some (x7, true)
    else
      Option.bind (Maker_SpoilBytes N x7 x11) fun y214 =>
      Option.bind (l06_reads N y214.1) fun y227 =>
      if (!y227) = true then
        some (y214.2, true)
      else
        Option.bind (Maker_SpoilBytes N y214.2 x11) fun y232 =>
        Option.bind (l06_fixed N y232.1) fun y245 =>
        Option.bind (l06_reads N y245) fun y254 =>
        if (!y254) = true then
          some (y232.2, true)
        else
          Option.bind (Maker_Next N y232.2 (IntKind.wrap .i64 ((x11.length : Int) + 1))) fun y259 =>
          Option.bind (cutI x11 0 y259.1) fun y269 =>
          Option.bind (l06_reads N y269) fun y274 =>
          some (y259.2, (!y274))

def l06_ConsistExact_0 (N : Nat) : Nat → Maker → Int → Option (Sum (Unit) (Bool))
  | 0, _, _ => none
  | n + 1, x7, x8 =>
    if (decide (x8 < 5)) = true then
      Option.bind (Maker_Wagons N x7 6) fun y23 =>
      Option.bind (l06_ConsistExact_1 N x8 y23.1) fun y45 =>
      Option.bind (l06_ConsistExact_2 N y23.2 y23.1 y45) fun y102 =>
      Option.bind (l06_ConsistExact_3 N x8 y102.2) fun y123 =>
      Option.bind (l06_ConsistExact_4 N y102.1 y102.2 y123) fun y173 =>
      Option.bind (r06_Encode N y173.2) fun y193 =>
      Option.bind (l06_ConsistExact_5 N y173.1 y173.2 y193.1) fun y277 =>
      if y277.2 = true then
        some (Sum.inr false)
      else
        AM.lt (IntKind.wrap .i64 (x8 + 1)) fun y293 =>
        l06_ConsistExact_0 N n y277.1 y293
    else
      some (Sum.inl ())

def l06_ConsistExact_6 (N : Nat) (x1 : List Wagon) (x2 : List UInt8) : Option (Bool) :=
  if (decide (20 < (x1.length : Int))) = true then
    some true
  else
    if (decide (300 < (x2.length : Int))) = true then
      some true
    else
      Option.bind (l06_writes N x1) fun y313 =>
      if y313 = true then
        Option.bind (l06_reads N x2) fun y315 =>
        if y315 = true then
          Option.bind (l06_fixed N x2) fun y317 =>
          Option.bind (l06_reads N y317) fun y326 =>
          if y326 = true then
            Option.bind (l06_sane N ) fun y328 =>
            some y328
          else
            some false
        else
          some false
      else
        some false

def l06_ConsistExact (N : Nat) (x0 : List Int) (x1 : List Wagon) (x2 : List UInt8) : Option (Bool) :=
  Option.bind (gen_New N x0) fun y3 =>
  Option.bind (l06_ConsistExact_0 N N y3 0) fun y297 =>
  match y297 with
  | Sum.inl y304 =>
    Option.bind (l06_ConsistExact_6 N x1 x2) fun y340 =>
    some y340
  | Sum.inr y347 =>
    some y347

/-! ### humpyard/humpyardlaw06.ConsistTotals -/

def l06_ConsistTotals_0 (N : Nat) (x7 : Int) (x8 : Int) (x9 : Int) (x10 : Int) (x11 : Int) (x12 : Int) (x13 : Int) (x14 : Int) (x15 : Int) (x16 : Int) (x17 : Int) (x18 : Int) (x19 : Int) (x20 : Int) (x21 : Int) (x22 : Int) : Option (Bool) :=
  if (x10 == 0) = true then
    if (x14 == 0) = true then
      if (x18 == 0) = true then
        if (x22 == 0) = true then
          if (x7 == (IntKind.wrap .i64 (x11 + x15))) = true then
            if (x8 == (IntKind.wrap .i64 (x12 + x16))) = true then
              if (x9 == (IntKind.wrap .i64 (x13 + x17))) = true then
                if (x7 == x19) = true then
                  if (x8 == x20) = true then
                    if (x9 == x21) = true then
                      Option.bind (l06_sane N ) fun y120 =>
                      some y120
                    else
                      some false
                  else
                    some false
                else
                  some false
              else
                some false
            else
              some false
          else
            some false
        else
          some false
      else
        some false
    else
      some false
  else
    some false

def l06_ConsistTotals (N : Nat) (x0 : List Int) (x1 : Int) : Option (Bool) :=
  Option.bind (gen_New N x0) fun y3 =>
  Option.bind (Maker_Wagons N y3 12) fun y18 =>
  Option.bind (modI x1 (IntKind.wrap .i64 ((y18.1.length : Int) + 1))) fun y34 =>
  Option.bind (modI (IntKind.wrap .i64 ((IntKind.wrap .i64 (y34 + (y18.1.length : Int))) + 1)) (IntKind.wrap .i64 ((y18.1.length : Int) + 1))) fun y35 =>
  Option.bind (consist_Total N y18.1) fun y43 =>
  Option.bind (cutI y18.1 0 y35) fun y50 =>
  Option.bind (consist_Total N y50) fun y55 =>
  Option.bind (cutI y18.1 y35 (y18.1.length : Int)) fun y58 =>
  Option.bind (consist_Total N y58) fun y63 =>
  Option.bind (cutI y18.1 y35 (y18.1.length : Int)) fun y72 =>
  Option.bind (appI ([] : List Wagon) y72) fun y79 =>
  Option.bind (cutI y18.1 0 y35) fun y86 =>
  Option.bind (appI y79 y86) fun y93 =>
  Option.bind (consist_Total N y93) fun y107 =>
  Option.bind (l06_ConsistTotals_0 N y43.1 y43.2.1 y43.2.2.1 y43.2.2.2 y55.1 y55.2.1 y55.2.2.1 y55.2.2.2 y63.1 y63.2.1 y63.2.2.1 y63.2.2.2 y107.1 y107.2.1 y107.2.2.1 y107.2.2.2) fun y153 =>
  some y153

end Go.W
