/- The models of the functions. -/
import Derived.Test.YtmbppeancpipiaaAmEq
set_option linter.unusedVariables false
set_option linter.unusedSimpArgs false
set_option maxRecDepth 100000
set_option maxHeartbeats 4000000
namespace Go.W
open Go.AM

/-- humpgen.Maker -/
structure Maker where
  l : (List Int)
  n : Int
deriving DecidableEq
def TMaker : Ty Maker where
  sz := 2
  tid := 54
  rd := fun z x cs => ∃ v0, cs = [v0, (Value.int .i64 x.n)] ∧ SlR (TInt 3 .i64) z x.l v0
  len := by rintro z x cs ⟨v0, rfl, s0⟩; rfl
  mono := by rintro z z' h x cs ⟨v0, rfl, s0⟩; exact ⟨v0, rfl, s0.mono h⟩
  one := by
    rintro z x cs ⟨v0, rfl, s0⟩ c hc
    simp only [List.mem_cons, List.not_mem_nil, or_false] at hc
    rcases hc with rfl | rfl <;> first | exact ⟨rfl, rfl⟩ | (obtain ⟨a, c, rfl⟩ := s0.len; exact ⟨rfl, rfl⟩)
/-- api.Wagon -/
structure Wagon where
  number : (List UInt8)
  length : Int
  axles : Int
  mass : Int
  brake : Int
  goods : Int
  gentle : Bool
  dest : (List UInt8)
deriving DecidableEq
def TWagon : Ty Wagon where
  sz := 8
  tid := 48
  rd := fun z x cs => cs = [(str x.number), (Value.int .i64 x.length), (Value.int .i64 x.axles), (Value.int .i64 x.mass), (Value.int .i64 x.brake), (Value.int .i64 x.goods), (Value.bool x.gentle), (str x.dest)]
  len := fun z x cs h => by rw [h]; rfl
  mono := fun z z' _ x cs h => h
  one := fun z x cs h c hc => by
    rw [h] at hc; simp only [List.mem_cons, List.not_mem_nil, or_false] at hc
    rcases hc with rfl | rfl | rfl | rfl | rfl | rfl | rfl | rfl <;> exact ⟨rfl, rfl⟩
/-- api.BrakeRow -/
structure BrakeRow where
  speed : Int
  grade : Int
  percent : Int
deriving DecidableEq
def TBrakeRow : Ty BrakeRow where
  sz := 3
  tid := 31
  rd := fun z x cs => cs = [(Value.int .i64 x.speed), (Value.int .i64 x.grade), (Value.int .i64 x.percent)]
  len := fun z x cs h => by rw [h]; rfl
  mono := fun z z' _ x cs h => h
  one := fun z x cs h c hc => by
    rw [h] at hc; simp only [List.mem_cons, List.not_mem_nil, or_false] at hc
    rcases hc with rfl | rfl | rfl <;> exact ⟨rfl, rfl⟩
/-- api.Brakes -/
structure Brakes where
  length : Int
  axles : Int
  mass : Int
  braked : Int
  percent : Int
  required : Int
  missing : Int
deriving DecidableEq
def TBrakes : Ty Brakes where
  sz := 7
  tid := 33
  rd := fun z x cs => cs = [(Value.int .i64 x.length), (Value.int .i64 x.axles), (Value.int .i64 x.mass), (Value.int .i64 x.braked), (Value.int .i64 x.percent), (Value.int .i64 x.required), (Value.int .i64 x.missing)]
  len := fun z x cs h => by rw [h]; rfl
  mono := fun z z' _ x cs h => h
  one := fun z x cs h c hc => by
    rw [h] at hc; simp only [List.mem_cons, List.not_mem_nil, or_false] at hc
    rcases hc with rfl | rfl | rfl | rfl | rfl | rfl | rfl <;> exact ⟨rfl, rfl⟩

/-! ### humpyard/humpgen.New -/

def gen_New (N : Nat) (x0 : List Int) : Option (Maker) :=
  some (Maker.mk x0 0)

/-! ### (*humpyard/humpgen.Maker).Next -/

def Maker_Next_0 (N : Nat) (x0 : Maker) (x5 : Int) (x11 : Bool) : Option (Int) :=
  if x11 = true then
    Option.bind (modI x0.n (x0.l.length : Int)) fun y8 =>
    Option.bind (getI x0.l y8) fun y9 =>
    Option.bind (divI x0.n (x0.l.length : Int)) fun y15 =>
    AM.lt (IntKind.wrap .i64 (y9 + (IntKind.wrap .i64 ((IntKind.wrap .i64 (y15)) * 7919)))) fun y16 =>
    some y16
  else
    some x5

def Maker_Next_1 (N : Nat) (x1 : Int) (x5 : Int) (x51 : Bool) : Option (Int) :=
  if x51 = true then
    AM.lt (IntKind.wrap .i64 (x5 + x1)) fun y38 =>
    some y38
  else
    some x5

def Maker_Next (N : Nat) (x0 : Maker) (x1 : Int) : Option (Int × Maker) :=
  Option.bind (Maker_Next_0 N x0 0 (decide (0 < (x0.l.length : Int)))) fun y20 =>
  Option.bind (modI y20 x1) fun y32 =>
  Option.bind (Maker_Next_1 N x1 y32 (decide (y32 < 0))) fun y42 =>
  some (y42, (Maker.mk x0.l (IntKind.wrap .i64 (x0.n + 1))))

/-! ### (*humpyard/humpgen.Maker).Pick -/

def Maker_Pick (N : Nat) (x0 : Maker) (x1 : List Int) : Option (Int × Maker) :=
  Option.bind (Maker_Next N x0 (x1.length : Int)) fun y3 =>
  Option.bind (getI x1 y3.1) fun y13 =>
  some (y13, y3.2)

/-! ### (*humpyard/humpgen.Maker).Digits -/

def Maker_Digits_0 (N : Nat) (x1 : Int) : Nat → Maker → (List UInt8) → Int → Option (Maker × List UInt8)
  | 0, _, _, _ => none
  | n + 1, x0, x5, x6 =>
    if (decide (x6 < x1)) = true then
      Option.bind (Maker_Next N x0 10) fun y18 =>
      Option.bind (getI x5 x6) fun y28 =>
      Option.bind (toU8 (IntKind.wrap .u8 (IntKind.wrap .i64 (48 + y18.1)))) fun y39 =>
      AM.lt (x5.set ((x6 : Int).toNat) y39) fun y40 =>
      AM.lt (IntKind.wrap .i64 (x6 + 1)) fun y43 =>
      Maker_Digits_0 N x1 n y18.2 y40 y43
    else
      some (x0, x5)

def Maker_Digits (N : Nat) (x0 : Maker) (x1 : Int) : Option (List UInt8 × Maker) :=
  Option.bind (mkI 0 x1) fun y3 =>
  Option.bind (Maker_Digits_0 N x1 N x0 y3 0) fun y47 =>
  some (y47.2, y47.1)

/-! ### humpyard/humpyardref02.digits -/

def r02_digits_1 (N : Nat) (x0 : List UInt8) (x5 : Int) : Option (Bool) :=
  Option.bind (getI x0 x5) fun y14 =>
  if (decide ((UInt8.toNat y14 : Int) < 48)) = true then
    some true
  else
    Option.bind (getI x0 x5) fun y19 =>
    some (decide (57 < (UInt8.toNat y19 : Int)))

def r02_digits_0 (N : Nat) (x0 : List UInt8) (x1 : Int) : Nat → Int → Option (Sum (Unit) (Bool))
  | 0, _ => none
  | n + 1, x5 =>
    if (decide (x5 < x1)) = true then
      Option.bind (r02_digits_1 N x0 x5) fun y22 =>
      if y22 = true then
        some (Sum.inr false)
      else
        AM.lt (IntKind.wrap .i64 (x5 + 1)) fun y33 =>
        r02_digits_0 N x0 x1 n y33
    else
      some (Sum.inl ())

def r02_digits (N : Nat) (x0 : List UInt8) (x1 : Int) : Option (Bool) :=
  if ((x0.length : Int) != x1) = true then
    some false
  else
    Option.bind (r02_digits_0 N x0 x1 N 0) fun y37 =>
    match y37 with
    | Sum.inl y44 =>
      some true
    | Sum.inr y47 =>
      some y47

/-! ### humpyard/humpyardref02.sum -/

def r02_sum_1 (N : Nat) (x7 : Int) (x20 : Bool) : Option (Int) :=
  if x20 = true then
    AM.lt (IntKind.wrap .i64 (x7 * 2)) fun y17 =>
    if (decide (9 < y17)) = true then
      AM.lt (IntKind.wrap .i64 (y17 - 9)) fun y23 =>
      some y23
    else
      some y17
  else
    some x7

def r02_sum_0 (N : Nat) (x0 : List UInt8) (x1 : Int) : Nat → Int → Int → Option (Int)
  | 0, _, _ => none
  | n + 1, x5, x6 =>
    if (decide (x6 < x1)) = true then
      Option.bind (getI x0 x6) fun y10 =>
      AM.lt (IntKind.wrap .i64 (IntKind.wrap .u8 ((UInt8.toNat y10 : Int) - 48))) fun y11 =>
      Option.bind (r02_sum_1 N y11 ((Int.tmod x6 2) == 0)) fun y28 =>
      AM.lt (IntKind.wrap .i64 (x5 + y28)) fun y35 =>
      AM.lt (IntKind.wrap .i64 (x6 + 1)) fun y38 =>
      r02_sum_0 N x0 x1 n y35 y38
    else
      some x5

def r02_sum (N : Nat) (x0 : List UInt8) (x1 : Int) : Option (Int) :=
  Option.bind (r02_sum_0 N x0 x1 N 0 0) fun y42 =>
  some y42

/-! ### humpyard/humpyardref02.Digit -/

def r02_Digit (N : Nat) (x0 : List UInt8) : Option (Int × Int) :=
  Option.bind (r02_digits N x0 11) fun y3 =>
  if (!y3) = true then
    some (0, 11)
  else
    Option.bind (r02_sum N x0 11) fun y10 =>
    AM.lt (Int.tmod (IntKind.wrap .i64 (10 - (Int.tmod y10 10))) 10) fun y11 =>
    some (y11, 0)

/-! ### (*humpyard/humpgen.Maker).Number -/

def Maker_Number (N : Nat) (x0 : Maker) (x1 : Int) : Option (List UInt8 × Maker) :=
  Option.bind (Maker_Digits N x0 11) fun y3 =>
  Option.bind (appI y3.1 []) fun y13 =>
  Option.bind (getI y13 8) fun y23 =>
  Option.bind (toU8 (IntKind.wrap .u8 (IntKind.wrap .i64 (48 + (Int.tmod (IntKind.wrap .i64 (Int.tdiv x1 100)) 10))))) fun y34 =>
  AM.lt (y13.set ((8 : Int).toNat) y34) fun y35 =>
  Option.bind (getI y35 9) fun y36 =>
  Option.bind (toU8 (IntKind.wrap .u8 (IntKind.wrap .i64 (48 + (Int.tmod (IntKind.wrap .i64 (Int.tdiv x1 10)) 10))))) fun y47 =>
  AM.lt (y35.set ((9 : Int).toNat) y47) fun y48 =>
  Option.bind (getI y48 10) fun y49 =>
  Option.bind (toU8 (IntKind.wrap .u8 (IntKind.wrap .i64 (48 + (Int.tmod x1 10))))) fun y60 =>
  AM.lt (y48.set ((10 : Int).toNat) y60) fun y61 =>
  Option.bind (r02_Digit N y61) fun y64 =>
  Option.bind (toU8 (IntKind.wrap .u8 (IntKind.wrap .i64 (48 + y64.1)))) fun y67 =>
  Option.bind (appI y61 ([y67] : List UInt8)) fun y75 =>
  some (y75, y3.2)

/-! ### (*humpyard/humpgen.Maker).Name -/

def Maker_Name (N : Nat) (x0 : Maker) : Option (List UInt8 × Maker) :=
  Option.bind (Maker_Next N x0 10) fun y10 =>
  Option.bind (getI ([[97], [98], [99], [100], [101], [110, 111, 114, 116, 104], [115, 111, 117, 116, 104], [112, 111, 114, 116, 49], [120, 57], [97, 98, 99, 100, 101, 102, 103, 104, 105, 106, 107, 108]] : List (List UInt8)) y10.1) fun y20 =>
  some (y20, y10.2)

/-! ### (*humpyard/humpgen.Maker).Wagon -/

def Maker_Wagon_1 (N : Nat) (x26 : Int) (x27 : Bool) : Option (Bool) :=
  if x27 = true then
    some x27
  else
    AM.lt (x26 == 52) fun y126 =>
    some y126

def Maker_Wagon_0 (N : Nat) (x5 : Wagon) (x26 : Int) : Option (Wagon) :=
  AM.lt (x26 == 50) fun y121 =>
  Option.bind (Maker_Wagon_1 N x26 y121) fun y129 =>
  if y129 = true then
    some (Wagon.mk x5.number x5.length 2 x5.mass x5.brake x5.goods x5.gentle x5.dest)
  else
    AM.lt (x26 == 57) fun y148 =>
    if y148 = true then
      some (Wagon.mk x5.number (max x5.length 120) 6 x5.mass x5.brake x5.goods x5.gentle x5.dest)
    else
      some x5

def Maker_Wagon (N : Nat) (x0 : Maker) (x1 : Int) : Option (Wagon × Maker) :=
  Option.bind (Maker_Number N x0 x1) fun y10 =>
  Option.bind (Maker_Pick N y10.2 ([80, 120, 142, 199, 262, 400] : List Int)) fun y32 =>
  Option.bind (Maker_Pick N y32.2 ([50, 120, 400, 800, 2000] : List Int)) fun y54 =>
  Option.bind (Maker_Pick N y54.2 ([0, 0, 0, 1, 3, 9] : List Int)) fun y76 =>
  Option.bind (Maker_Next N y76.2 5) fun y86 =>
  Option.bind (Maker_Name N y86.2) fun y96 =>
  Option.bind (getI y10.1 4) fun y118 =>
  Option.bind (Maker_Wagon_0 N (Wagon.mk y10.1 y32.1 4 y54.1 0 y76.1 (y86.1 == 0) y96.1) (UInt8.toNat y118 : Int)) fun y161 =>
  Option.bind (Maker_Next N y96.2 5) fun y179 =>
  some ((Wagon.mk y161.number y161.length y161.axles y161.mass (IntKind.wrap .i64 (Int.tdiv (IntKind.wrap .i64 (y161.mass * y179.1)) 4)) y161.goods y161.gentle y161.dest), y179.2)

/-! ### (*humpyard/humpgen.Maker).Wagons -/

def Maker_Wagons_0 (N : Nat) : Nat → Maker → (List Wagon) → Int → Option (Maker × List Wagon)
  | 0, _, _, _ => none
  | n + 1, x0, x5, x6 =>
    if (decide (0 < x6)) = true then
      Option.bind (Maker_Wagon N x0 (x5.length : Int)) fun y20 =>
      Option.bind (appI x5 ([y20.1] : List Wagon)) fun y38 =>
      AM.lt (IntKind.wrap .i64 (x6 - 1)) fun y49 =>
      Maker_Wagons_0 N n y20.2 y38 y49
    else
      some (x0, x5)

def Maker_Wagons (N : Nat) (x0 : Maker) (x1 : Int) : Option (List Wagon × Maker) :=
  Option.bind (Maker_Next N x0 (IntKind.wrap .i64 (x1 + 1))) fun y5 =>
  Option.bind (Maker_Wagons_0 N N y5.2 [] y5.1) fun y53 =>
  some (y53.2, y53.1)

/-! ### humpyard/yardgen.Table -/

def yardgen_Table_0 (N : Nat) : Nat → Maker → (List BrakeRow) → Int → Option (Maker × List BrakeRow)
  | 0, _, _, _ => none
  | n + 1, x0, x3, x4 =>
    if (decide (0 < x4)) = true then
      Option.bind (Maker_Pick N x0 ([60, 80, 100, 120, 200] : List Int)) fun y32 =>
      Option.bind (Maker_Pick N y32.2 ([0, 50, 100, 250, 500] : List Int)) fun y54 =>
      Option.bind (Maker_Pick N y54.2 ([0, 10, 30, 50, 65, 100] : List Int)) fun y76 =>
      Option.bind (appI x3 ([(BrakeRow.mk y32.1 y54.1 y76.1)] : List BrakeRow)) fun y94 =>
      AM.lt (IntKind.wrap .i64 (x4 - 1)) fun y105 =>
      yardgen_Table_0 N n y76.2 y94 y105
    else
      some (x0, x3)

def yardgen_Table (N : Nat) (x0 : Maker) : Option (List BrakeRow × Maker) :=
  Option.bind (Maker_Next N x0 5) fun y5 =>
  Option.bind (yardgen_Table_0 N N y5.2 [] y5.1) fun y109 =>
  some (y109.2, y109.1)

/-! ### humpyard/yardgen.Off -/

def yardgen_Off_1 (N : Nat) (x0 : Maker) (x5 : List Int) (x6 : Int) : Option (Maker × List Int) :=
  Option.bind (Maker_Next N x0 4) fun y10 =>
  if (y10.1 == 0) = true then
    Option.bind (appI x5 ([x6] : List Int)) fun y31 =>
    some (y10.2, y31)
  else
    some (y10.2, x5)

def yardgen_Off_0 (N : Nat) (x1 : Int) : Nat → Maker → (List Int) → Int → Option (Maker × List Int)
  | 0, _, _, _ => none
  | n + 1, x0, x5, x6 =>
    if (decide (x6 < x1)) = true then
      Option.bind (yardgen_Off_1 N x0 x5 x6) fun y43 =>
      AM.lt (IntKind.wrap .i64 (x6 + 1)) fun y59 =>
      yardgen_Off_0 N x1 n y43.1 y43.2 y59
    else
      some (x0, x5)

def yardgen_Off (N : Nat) (x0 : Maker) (x1 : Int) : Option (List Int × Maker) :=
  Option.bind (yardgen_Off_0 N x1 N x0 [] 0) fun y63 =>
  some (y63.2, y63.1)

/-! ### humpyard/yardgen.Place -/

def yardgen_Place_0 (N : Nat) (x0 : Int) (x1 : Int) (x11 : Bool) : Option (Int) :=
  if x11 = true then
    AM.lt (IntKind.wrap .i64 (x0 + x1)) fun y15 =>
    some y15
  else
    some x0

def yardgen_Place (N : Nat) (x0 : Int) (x1 : Int) : Option (Int) :=
  if (decide (x1 < 1)) = true then
    some 0
  else
    Option.bind (modI x0 x1) fun y9 =>
    Option.bind (yardgen_Place_0 N y9 x1 (decide (y9 < 0))) fun y19 =>
    some y19

/-! ### humpyard/brake.in -/

def brake_in_0 (N : Nat) (x0 : Int) (x1 : Int) (x2 : Int) : Option (Bool) :=
  if (decide (x1 ≤ x0)) = true then
    AM.lt (decide (x0 ≤ x2)) fun y4 =>
    some y4
  else
    some false

def brake_in (N : Nat) (x0 : Int) (x1 : Int) (x2 : Int) : Option (Bool) :=
  Option.bind (brake_in_0 N x0 x1 x2) fun y10 =>
  some y10

/-! ### humpyard/brake.ValidTable -/

def brake_ValidTable_1 (N : Nat) (x4 : BrakeRow) : Option (Bool) :=
  Option.bind (brake_in N x4.speed 1 200) fun y24 =>
  if (!y24) = true then
    some true
  else
    Option.bind (brake_in N x4.grade 0 500) fun y29 =>
    if (!y29) = true then
      some true
    else
      Option.bind (brake_in N x4.percent 0 250) fun y34 =>
      some (!y34)

def brake_ValidTable_0 (N : Nat) (x5 : List BrakeRow) (x6 : Int) : Nat → Int → Option (Sum (Unit) (Bool))
  | 0, _ => none
  | n + 1, x7 =>
    if (decide (x7 < x6)) = true then
      Option.bind (getI x5 x7) fun y8 =>
      Option.bind (brake_ValidTable_1 N y8) fun y37 =>
      if y37 = true then
        some (Sum.inr false)
      else
        brake_ValidTable_0 N x5 x6 n (IntKind.wrap .i64 (x7 + 1))
    else
      some (Sum.inl ())

def brake_ValidTable (N : Nat) (x0 : List BrakeRow) : Option (Bool) :=
  Option.bind (brake_ValidTable_0 N x0 (x0.length : Int) N 0) fun y51 =>
  match y51 with
  | Sum.inl y58 =>
    AM.lt (decide ((x0.length : Int) ≤ 64)) fun y59 =>
    some y59
  | Sum.inr y62 =>
    some y62

/-! ### humpyard/brake.required -/

def brake_required_2 (N : Nat) (x1 : Int) (x2 : Int) (x8 : Int) (x9 : Bool) (x11 : BrakeRow) : Option (Bool) :=
  if (decide (x1 ≤ x11.speed)) = true then
    if (decide (x2 ≤ x11.grade)) = true then
      if (!x9) = true then
        some true
      else
        some (decide (x11.percent < x8))
    else
      some false
  else
    some false

def brake_required_1 (N : Nat) (x1 : Int) (x2 : Int) (x8 : Int) (x9 : Bool) (x12 : List BrakeRow) (x14 : Int) : Option (Int × Bool) :=
  Option.bind (getI x12 x14) fun y10 =>
  Option.bind (brake_required_2 N x1 x2 x8 x9 y10) fun y40 =>
  if y40 = true then
    some (y10.percent, true)
  else
    some (x8, x9)

def brake_required_0 (N : Nat) (x1 : Int) (x2 : Int) (x12 : List BrakeRow) (x13 : Int) : Nat → Int → Bool → Int → Option (Int × Bool)
  | 0, _, _, _ => none
  | n + 1, x8, x9, x14 =>
    if (decide (x14 < x13)) = true then
      Option.bind (brake_required_1 N x1 x2 x8 x9 x12 x14) fun y52 =>
      brake_required_0 N x1 x2 x12 x13 n y52.1 y52.2 (IntKind.wrap .i64 (x14 + 1))
    else
      some (x8, x9)

def brake_required (N : Nat) (x0 : List BrakeRow) (x1 : Int) (x2 : Int) : Option (Int × Bool) :=
  Option.bind (brake_required_0 N x1 x2 x0 (x0.length : Int) N 0 false 0) fun y62 =>
  some (y62.1, y62.2)

/-! ### humpyard/brake.Required -/

def brake_Required_0 (N : Nat) (x1 : Int) (x2 : Int) : Option (Bool) :=
  Option.bind (brake_in N x1 1 200) fun y10 =>
  if (!y10) = true then
    some true
  else
    Option.bind (brake_in N x2 0 500) fun y15 =>
    some (!y15)

def brake_Required (N : Nat) (x0 : List BrakeRow) (x1 : Int) (x2 : Int) : Option (Int × Int) :=
  Option.bind (brake_ValidTable N x0) fun y3 =>
  if (!y3) = true then
    some (0, 1)
  else
    Option.bind (brake_Required_0 N x1 x2) fun y18 =>
    if y18 = true then
      some (0, 2)
    else
      Option.bind (brake_required N x0 x1 x2) fun y29 =>
      if (!y29.2) = true then
        some (0, 15)
      else
        some (y29.1, 0)

/-! ### humpyard/brake.Factor -/

def brake_Factor (N : Nat) (x0 : Int) : Option (Int) :=
  if (decide (x0 ≤ 5000)) = true then
    some 100
  else
    if (decide (10000 < x0)) = true then
      some 80
    else
      AM.lt (max 80 (IntKind.wrap .i64 (100 - (IntKind.wrap .i64 (Int.tdiv (IntKind.wrap .i64 ((IntKind.wrap .i64 (x0 - 5000)) + 99)) 100))))) fun y15 =>
      some y15

/-! ### humpyard/wagonnumber.digits -/

def wagonnumber_digits_1 (N : Nat) (x0 : List UInt8) (x5 : Int) : Option (Bool) :=
  Option.bind (getI x0 x5) fun y8 =>
  if (decide ((UInt8.toNat y8 : Int) < 48)) = true then
    some true
  else
    Option.bind (getI x0 x5) fun y13 =>
    some (decide (57 < (UInt8.toNat y13 : Int)))

def wagonnumber_digits_0 (N : Nat) (x0 : List UInt8) : Nat → Int → Option (Sum (Unit) (Bool))
  | 0, _ => none
  | n + 1, x5 =>
    if (decide (x5 < (x0.length : Int))) = true then
      Option.bind (wagonnumber_digits_1 N x0 x5) fun y16 =>
      if y16 = true then
        some (Sum.inr false)
      else
        AM.lt (IntKind.wrap .i64 (x5 + 1)) fun y27 =>
        wagonnumber_digits_0 N x0 n y27
    else
      some (Sum.inl ())

def wagonnumber_digits (N : Nat) (x0 : List UInt8) (x1 : Int) : Option (Bool) :=
  Option.bind (wagonnumber_digits_0 N x0 N 0) fun y31 =>
  match y31 with
  | Sum.inl y38 =>
    AM.lt ((x0.length : Int) == x1) fun y39 =>
    some y39
  | Sum.inr y42 =>
    some y42

/-! ### humpyard/wagonnumber.sum -/

def wagonnumber_sum_1 (N : Nat) (x5 : Int) (x19 : Bool) : Option (Int) :=
  if x19 = true then
    AM.lt (IntKind.wrap .i64 (x5 * 2)) fun y17 =>
    if (decide (9 < y17)) = true then
      AM.lt (IntKind.wrap .i64 (y17 - 9)) fun y23 =>
      some y23
    else
      some y17
  else
    some x5

def wagonnumber_sum_0 (N : Nat) (x0 : List UInt8) : Nat → Int → Int → Option (Int)
  | 0, _, _ => none
  | n + 1, x3, x4 =>
    if (decide (x4 < (x0.length : Int))) = true then
      Option.bind (getI x0 x4) fun y10 =>
      AM.lt (IntKind.wrap .i64 (IntKind.wrap .u8 ((UInt8.toNat y10 : Int) - 48))) fun y11 =>
      Option.bind (wagonnumber_sum_1 N y11 ((Int.tmod x4 2) == 0)) fun y28 =>
      AM.lt (IntKind.wrap .i64 (x3 + y28)) fun y35 =>
      AM.lt (IntKind.wrap .i64 (x4 + 1)) fun y38 =>
      wagonnumber_sum_0 N x0 n y35 y38
    else
      some x3

def wagonnumber_sum (N : Nat) (x0 : List UInt8) : Option (Int) :=
  Option.bind (wagonnumber_sum_0 N x0 N 0 0) fun y42 =>
  some y42

/-! ### humpyard/wagonnumber.check -/

def wagonnumber_check (N : Nat) (x0 : List UInt8) : Option (Int) :=
  Option.bind (wagonnumber_sum N x0) fun y3 =>
  AM.lt (Int.tmod (IntKind.wrap .i64 (10 - (Int.tmod y3 10))) 10) fun y4 =>
  some y4

/-! ### humpyard/wagonnumber.Valid -/

def wagonnumber_Valid (N : Nat) (x0 : List UInt8) : Option (Int) :=
  Option.bind (wagonnumber_digits N x0 12) fun y3 =>
  if (!y3) = true then
    some 11
  else
    Option.bind (getI x0 11) fun y10 =>
    Option.bind (cutI x0 0 11) fun y11 =>
    Option.bind (wagonnumber_check N y11) fun y13 =>
    if ((IntKind.wrap .i64 (IntKind.wrap .u8 ((UInt8.toNat y10 : Int) - 48))) != y13) = true then
      some 9
    else
      some 0

/-! ### humpyard/wagonnumber.Kind -/

def wagonnumber_Kind_0 (N : Nat) (x11 : Int) (x12 : Bool) : Option (Bool) :=
  if x12 = true then
    some x12
  else
    AM.lt (x11 == 56) fun y20 =>
    some y20

def wagonnumber_Kind_1 (N : Nat) (x11 : Int) (x15 : Bool) : Option (Bool) :=
  if x15 = true then
    some x15
  else
    AM.lt (x11 == 52) fun y39 =>
    some y39

def wagonnumber_Kind (N : Nat) (x0 : List UInt8) : Option (Int × Int) :=
  Option.bind (wagonnumber_Valid N x0) fun y3 =>
  if (y3 != 0) = true then
    some (0, y3)
  else
    Option.bind (getI x0 4) fun y12 =>
    AM.lt ((UInt8.toNat y12 : Int) == 55) fun y15 =>
    Option.bind (wagonnumber_Kind_0 N (UInt8.toNat y12 : Int) y15) fun y23 =>
    if y23 = true then
      some (1, 0)
    else
      AM.lt ((UInt8.toNat y12 : Int) == 50) fun y34 =>
      Option.bind (wagonnumber_Kind_1 N (UInt8.toNat y12 : Int) y34) fun y42 =>
      if y42 = true then
        some (2, 0)
      else
        AM.lt ((UInt8.toNat y12 : Int) == 57) fun y53 =>
        if y53 = true then
          some (3, 0)
        else
          some (0, 0)

/-! ### humpyard/consist.axles -/

def consist_axles (N : Nat) (x0 : Int) : Option (Int) :=
  AM.lt (x0 == 2) fun y5 =>
  if y5 = true then
    some 2
  else
    AM.lt (x0 == 3) fun y12 =>
    if y12 = true then
      some 6
    else
      some 4

/-! ### humpyard/consist.name -/

def consist_name_1 (N : Nat) (x4 : Int) : Option (Bool) :=
  if (decide (x4 < 97)) = true then
    if (decide (x4 < 48)) = true then
      some true
    else
      some (decide (57 < x4))
  else
    if (decide (122 < x4)) = true then
      if (decide (x4 < 48)) = true then
        some true
      else
        some (decide (57 < x4))
    else
      some false

def consist_name_0 (N : Nat) (x0 : List UInt8) : Nat → Int → Option (Sum (Unit) (Bool))
  | 0, _ => none
  | n + 1, x3 =>
    if (decide (x3 < (x0.length : Int))) = true then
      Option.bind (getI x0 x3) fun y8 =>
      AM.lt (UInt8.toNat y8 : Int) fun y9 =>
      Option.bind (consist_name_1 N y9) fun y30 =>
      if y30 = true then
        some (Sum.inr false)
      else
        AM.lt (IntKind.wrap .i64 (x3 + 1)) fun y41 =>
        consist_name_0 N x0 n y41
    else
      some (Sum.inl ())

def consist_name_2 (N : Nat) (x0 : List UInt8) : Option (Bool) :=
  if (decide (0 < (x0.length : Int))) = true then
    AM.lt (decide ((x0.length : Int) ≤ 12)) fun y54 =>
    some y54
  else
    some false

def consist_name (N : Nat) (x0 : List UInt8) : Option (Bool) :=
  Option.bind (consist_name_0 N x0 N 0) fun y45 =>
  match y45 with
  | Sum.inl y52 =>
    Option.bind (consist_name_2 N x0) fun y60 =>
    some y60
  | Sum.inr y67 =>
    some y67

/-! ### humpyard/consist.Valid -/

def consist_Valid_0 (N : Nat) (x5 : Int) (x16 : Bool) : Option (Int) :=
  if x16 = true then
    some 120
  else
    some x5

def consist_Valid_1 (N : Nat) (x1 : Wagon) (x5 : Int) : Option (Bool) :=
  if (decide (x1.length < x5)) = true then
    some true
  else
    if (decide (400 < x1.length)) = true then
      some true
    else
      if (decide (x1.mass < 50)) = true then
        some true
      else
        AM.lt (decide (2000 < x1.mass)) fun y56 =>
        some y56

def consist_Valid_2 (N : Nat) (x1 : Wagon) : Option (Bool) :=
  if (decide (x1.brake < 0)) = true then
    some true
  else
    if (decide (x1.mass < x1.brake)) = true then
      some true
    else
      if (decide (x1.goods < 0)) = true then
        some true
      else
        AM.lt (decide (9 < x1.goods)) fun y83 =>
        some y83

def consist_Valid (N : Nat) (x0 : Wagon) : Option (Int) :=
  Option.bind (wagonnumber_Kind N x0.number) fun y9 =>
  if (y9.2 != 0) = true then
    some y9.2
  else
    Option.bind (consist_Valid_0 N 80 (y9.1 == 3)) fun y26 =>
    Option.bind (consist_axles N y9.1) fun y36 =>
    AM.lt (x0.axles != y36) fun y37 =>
    if y37 = true then
      some 1
    else
      Option.bind (consist_Valid_1 N x0 y26) fun y59 =>
      if y59 = true then
        some 2
      else
        Option.bind (consist_Valid_2 N x0) fun y86 =>
        if y86 = true then
          some 2
        else
          Option.bind (consist_name N x0.dest) fun y98 =>
          AM.lt (!y98) fun y99 =>
          if y99 = true then
            some 7
          else
            some 0

/-! ### humpyard/consist.check -/

def consist_check_0 (N : Nat) (x11 : List Wagon) (x12 : Int) : Nat → (List ((List UInt8) × Bool)) → Int → Option (Sum (Unit) (Int))
  | 0, _, _ => none
  | n + 1, x3, x13 =>
    if (decide (x13 < x12)) = true then
      Option.bind (getI x11 x13) fun y22 =>
      Option.bind (consist_Valid N y22) fun y39 =>
      if (y39 != 0) = true then
        some (Sum.inr y39)
      else
        AM.lt (mpGet x3 y22.number) fun y48 =>
        if (y48.getD false) = true then
          some (Sum.inr 8)
        else
          AM.lt (mpSet x3 y22.number true) fun y55 =>
          consist_check_0 N x11 x12 n y55 (IntKind.wrap .i64 (x13 + 1))
    else
      some (Sum.inl ())

def consist_check (N : Nat) (x0 : List Wagon) : Option (Int) :=
  if (decide (96 < (x0.length : Int))) = true then
    some 3
  else
    Option.bind (consist_check_0 N x0 (x0.length : Int) N [] 0) fun y63 =>
    match y63 with
    | Sum.inl y70 =>
      some 0
    | Sum.inr y73 =>
      some y73

/-! ### humpyard/consist.Total -/

def consist_Total_0 (N : Nat) (x14 : List Wagon) (x15 : Int) : Nat → Int → Int → Int → Int → Option (Int × Int × Int)
  | 0, _, _, _, _ => none
  | n + 1, x2, x3, x4, x16 =>
    if (decide (x16 < x15)) = true then
      Option.bind (getI x14 x16) fun y17 =>
      AM.lt (IntKind.wrap .i64 (x2 + y17.length)) fun y33 =>
      AM.lt (IntKind.wrap .i64 (x3 + y17.mass)) fun y36 =>
      AM.lt (IntKind.wrap .i64 (x4 + y17.axles)) fun y39 =>
      consist_Total_0 N x14 x15 n y33 y36 y39 (IntKind.wrap .i64 (x16 + 1))
    else
      some (x2, x3, x4)

def consist_Total (N : Nat) (x0 : List Wagon) : Option (Int × Int × Int × Int) :=
  Option.bind (consist_check N x0) fun y3 =>
  if (y3 != 0) = true then
    some (0, 0, 0, y3)
  else
    Option.bind (consist_Total_0 N x0 (x0.length : Int) N 0 0 0 0) fun y45 =>
    some (y45.1, y45.2.1, y45.2.2, 0)

/-! ### humpyard/brake.Total -/

def brake_Total_0 (N : Nat) (x0 : List Wagon) (x32 : List Int) (x33 : Int) : Nat → Brakes → Int → Option (Sum (Brakes) (Brakes × Int))
  | 0, _, _ => none
  | n + 1, x4, x34 =>
    if (decide (x34 < x33)) = true then
      Option.bind (getI x32 x34) fun y35 =>
      Option.bind (brake_in N y35 0 (IntKind.wrap .i64 ((x0.length : Int) - 1))) fun y43 =>
      if (!y43) = true then
        some (Sum.inr ((Brakes.mk 0 0 0 0 0 0 0), 2))
      else
        brake_Total_0 N x0 x32 x33 n x4 (IntKind.wrap .i64 (x34 + 1))
    else
      some (Sum.inl x4)

def brake_Total_1 (N : Nat) (x46 : List Int) (x47 : Int) : Nat → Brakes → (List Bool) → Int → Option (Sum (Brakes × List Bool) (Brakes × Int))
  | 0, _, _, _ => none
  | n + 1, x4, x10, x48 =>
    if (decide (x48 < x47)) = true then
      Option.bind (getI x46 x48) fun y72 =>
      Option.bind (getI x10 y72) fun y80 =>
      if y80 = true then
        some (Sum.inr ((Brakes.mk 0 0 0 0 0 0 0), 8))
      else
        Option.bind (getI x10 y72) fun y97 =>
        AM.lt (x10.set ((y72 : Int).toNat) true) fun y108 =>
        brake_Total_1 N x46 x47 n x4 y108 (IntKind.wrap .i64 (x48 + 1))
    else
      some (Sum.inl (x4, x10))

def brake_Total_3 (N : Nat) (x10 : List Bool) (x15 : Brakes) (x65 : List Wagon) (x67 : Int) : Option (Brakes) :=
  Option.bind (getI x65 x67) fun y144 =>
  Option.bind (getI x10 x67) fun y163 =>
  if (!y163) = true then
    some (Brakes.mk x15.length x15.axles x15.mass (IntKind.wrap .i64 (x15.braked + y144.brake)) x15.percent x15.required x15.missing)
  else
    some x15

def brake_Total_2 (N : Nat) (x10 : List Bool) (x65 : List Wagon) (x66 : Int) : Nat → Brakes → Int → Option (Brakes)
  | 0, _, _ => none
  | n + 1, x15, x67 =>
    if (decide (x67 < x66)) = true then
      Option.bind (brake_Total_3 N x10 x15 x65 x67) fun y180 =>
      brake_Total_2 N x10 x65 x66 n y180 (IntKind.wrap .i64 (x67 + 1))
    else
      some x15

def brake_Total_4 (N : Nat) (x7 : Int) (x15 : Brakes) (x92 : Bool) : Option (Brakes) :=
  if x92 = true then
    Option.bind (divI (IntKind.wrap .i64 (100 * x15.braked)) x7) fun y222 =>
    some (Brakes.mk x15.length x15.axles x15.mass x15.braked (IntKind.wrap .i64 (y222)) x15.required x15.missing)
  else
    some x15

def brake_Total (N : Nat) (x0 : List Wagon) (x1 : List Int) : Option (Brakes × Int) :=
  Option.bind (consist_Total N x0) fun y9 =>
  if (y9.2.2.2 != 0) = true then
    some ((Brakes.mk 0 0 0 0 0 0 0), y9.2.2.2)
  else
    Option.bind (mkI false (x0.length : Int)) fun y20 =>
    Option.bind (brake_Total_0 N x0 x1 (x1.length : Int) N (Brakes.mk 0 0 0 0 0 0 0) 0) fun y55 =>
    match y55 with
    | Sum.inl y62 =>
      Option.bind (brake_Total_1 N x1 (x1.length : Int) N y62 y20 0) fun y114 =>
      match y114 with
      | Sum.inl y121 =>
        Option.bind (brake_Total_2 N y121.2 x0 (x0.length : Int) N (Brakes.mk y9.1 y9.2.2.1 y9.2.1 0 0 0 0) 0) fun y197 =>
        Option.bind (brake_Factor N y9.1) fun y211 =>
        Option.bind (brake_Total_4 N y9.2.1 (Brakes.mk y197.length y197.axles y197.mass (IntKind.wrap .i64 (Int.tdiv (IntKind.wrap .i64 (y197.braked * y211)) 100)) y197.percent y197.required y197.missing) (decide (0 < y9.2.1))) fun y228 =>
        some (y228, 0)
      | Sum.inr y243 =>
        some (y243.1, y243.2)
    | Sum.inr y246 =>
      some (y246.1, y246.2)

/-! ### humpyard/brake.Sheet -/

def brake_Sheet (N : Nat) (x0 : List Wagon) (x1 : List Int) (x2 : List BrakeRow) (x3 : Int) (x4 : Int) : Option (Brakes × Int) :=
  Option.bind (brake_Total N x0 x1) fun y9 =>
  if (y9.2 != 0) = true then
    some ((Brakes.mk 0 0 0 0 0 0 0), y9.2)
  else
    Option.bind (brake_Required N x2 x3 x4) fun y34 =>
    if (y34.2 != 0) = true then
      some ((Brakes.mk 0 0 0 0 0 0 0), y34.2)
    else
      some ((Brakes.mk y9.1.length y9.1.axles y9.1.mass y9.1.braked y9.1.percent y34.1 (max 0 (IntKind.wrap .i64 ((IntKind.wrap .i64 (Int.tdiv (IntKind.wrap .i64 ((IntKind.wrap .i64 (y34.1 * y9.1.mass)) + 99)) 100)) - y9.1.braked)))), 0)

/-! ### humpyard/humpyardlaw35.sane -/

def l35_sane_0 (N : Nat) (x4 : Brakes) (x5 : Int) (x6 : Brakes) (x7 : Int) (x9 : Int) : Option (Bool) :=
  Option.bind (brake_Factor N 5000) fun y124 =>
  if (y124 == 100) = true then
    Option.bind (brake_Factor N 5001) fun y126 =>
    if (y126 == 99) = true then
      Option.bind (brake_Factor N 9000) fun y128 =>
      if (y128 == 80) = true then
        if (x5 == 0) = true then
          if (x4.percent == 56) = true then
            if (x4.required == 65) = true then
              if (x4.missing == 70) = true then
                if (x7 == 0) = true then
                  if (x6.percent == 0) = true then
                    if (x6.missing == 520) = true then
                      AM.lt (x9 == 2) fun y137 =>
                      some y137
                    else
                      some false
                  else
                    some false
                else
                  some false
              else
                some false
            else
              some false
          else
            some false
        else
          some false
      else
        some false
    else
      some false
  else
    some false

def l35_sane (N : Nat) : Option (Bool) :=
  Option.bind (gen_New N ([3] : List Int)) fun y13 =>
  Option.bind (Maker_Wagon N y13 7) fun y26 =>
  Option.bind (brake_Sheet N ([(Wagon.mk y26.1.number y26.1.length y26.1.axles 800 450 y26.1.goods y26.1.gentle y26.1.dest)] : List Wagon) [] ([(BrakeRow.mk 100 50 65), (BrakeRow.mk 200 500 90)] : List BrakeRow) 100 0) fun y77 =>
  Option.bind (brake_Sheet N ([(Wagon.mk y26.1.number y26.1.length y26.1.axles 800 450 y26.1.goods y26.1.gentle y26.1.dest)] : List Wagon) ([0] : List Int) ([(BrakeRow.mk 100 50 65), (BrakeRow.mk 200 500 90)] : List BrakeRow) 80 50) fun y104 =>
  Option.bind (brake_Required N ([(BrakeRow.mk 100 50 65), (BrakeRow.mk 200 500 90)] : List BrakeRow) 200 501) fun y121 =>
  Option.bind (l35_sane_0 N y77.1 y77.2 y104.1 y104.2 y121.2) fun y170 =>
  some y170

/-! ### (*humpyard/humpgen.Maker).Spoil -/

def Maker_Spoil (N : Nat) (x0 : Maker) (x1 : List UInt8) : Option (List UInt8 × Maker) :=
  if (x1 == []) = true then
    Option.bind (Maker_Next N x0 256) fun y6 =>
    Option.bind (toU8 (IntKind.wrap .u8 y6.1)) fun y16 =>
    AM.lt ([y16] : List UInt8) fun y24 =>
    some (y24, y6.2)
  else
    Option.bind (Maker_Next N x0 (x1.length : Int)) fun y28 =>
    Option.bind (Maker_Next N y28.2 4) fun y40 =>
    AM.lt (y40.1 == 0) fun y52 =>
    if y52 = true then
      Option.bind (cutI x1 0 y28.1) fun y56 =>
      Option.bind (cutI x1 (IntKind.wrap .i64 (y28.1 + 1)) (x1.length : Int)) fun y57 =>
      Option.bind (appI y56 y57) fun y58 =>
      some (y58, y40.2)
    else
      AM.lt (y40.1 == 1) fun y62 =>
      if y62 = true then
        Option.bind (cutI x1 0 y28.1) fun y66 =>
        Option.bind (Maker_Next N y40.2 256) fun y69 =>
        Option.bind (toU8 (IntKind.wrap .u8 y69.1)) fun y79 =>
        Option.bind (appI y66 ([y79] : List UInt8)) fun y87 =>
        Option.bind (cutI x1 y28.1 (x1.length : Int)) fun y88 =>
        Option.bind (appI y87 y88) fun y89 =>
        some (y89, y69.2)
      else
        AM.lt (y40.1 == 2) fun y93 =>
        if y93 = true then
          Option.bind (cutI x1 0 y28.1) fun y97 =>
          Option.bind (Maker_Next N y40.2 10) fun y100 =>
          Option.bind (toU8 (IntKind.wrap .u8 (IntKind.wrap .i64 (48 + y100.1)))) fun y110 =>
          Option.bind (appI y97 ([y110] : List UInt8)) fun y118 =>
          Option.bind (cutI x1 (IntKind.wrap .i64 (y28.1 + 1)) (x1.length : Int)) fun y119 =>
          Option.bind (appI y118 y119) fun y120 =>
          some (y120, y100.2)
        else
          Option.bind (cutI x1 0 y28.1) fun y124 =>
          Option.bind (Maker_Next N y40.2 256) fun y127 =>
          Option.bind (toU8 (IntKind.wrap .u8 y127.1)) fun y137 =>
          Option.bind (appI y124 ([y137] : List UInt8)) fun y145 =>
          Option.bind (cutI x1 (IntKind.wrap .i64 (y28.1 + 1)) (x1.length : Int)) fun y146 =>
          Option.bind (appI y145 y146) fun y147 =>
          some (y147, y127.2)

/-! ### (*humpyard/humpgen.Maker).SpoilWagon -/

def Maker_SpoilWagon_0 (N : Nat) (x0 : Maker) (x3 : Wagon) (x6 : Int) : Option (Maker × Wagon) :=
  AM.lt (x6 == 0) fun y30 =>
  if y30 = true then
    Option.bind (Maker_Spoil N x0 x3.number) fun y34 =>
    some (y34.2, (Wagon.mk y34.1 x3.length x3.axles x3.mass x3.brake x3.goods x3.gentle x3.dest))
  else
    AM.lt (x6 == 1) fun y49 =>
    if y49 = true then
      Option.bind (Maker_Pick N x0 ([0, 2, 4, 6, 8, (-1)] : List Int)) fun y66 =>
      some (y66.2, (Wagon.mk x3.number x3.length y66.1 x3.mass x3.brake x3.goods x3.gentle x3.dest))
    else
      AM.lt (x6 == 2) fun y81 =>
      if y81 = true then
        Option.bind (Maker_Pick N x0 ([79, 80, 119, 401, 0, (-5)] : List Int)) fun y98 =>
        some (y98.2, (Wagon.mk x3.number y98.1 x3.axles x3.mass x3.brake x3.goods x3.gentle x3.dest))
      else
        AM.lt (x6 == 3) fun y113 =>
        if y113 = true then
          Option.bind (Maker_Pick N x0 ([49, 50, 2001, (-1)] : List Int)) fun y130 =>
          some (y130.2, (Wagon.mk x3.number x3.length x3.axles y130.1 x3.brake x3.goods x3.gentle x3.dest))
        else
          AM.lt (x6 == 4) fun y145 =>
          if y145 = true then
            Option.bind (Maker_Pick N x0 ([(-1), x3.mass, (IntKind.wrap .i64 (x3.mass + 1))] : List Int)) fun y162 =>
            some (y162.2, (Wagon.mk x3.number x3.length x3.axles x3.mass y162.1 x3.goods x3.gentle x3.dest))
          else
            AM.lt (x6 == 5) fun y177 =>
            if y177 = true then
              Option.bind (Maker_Pick N x0 ([(-1), 9, 10] : List Int)) fun y194 =>
              some (y194.2, (Wagon.mk x3.number x3.length x3.axles x3.mass x3.brake y194.1 x3.gentle x3.dest))
            else
              AM.lt (x6 == 6) fun y209 =>
              if y209 = true then
                Option.bind (Maker_Next N x0 5) fun y222 =>
                Option.bind (getI ([[], [65], [97, 32, 98], [97, 98, 99, 100, 101, 102, 103, 104, 105, 106, 107, 108, 109], [45]] : List (List UInt8)) y222.1) fun y232 =>
                some (y222.2, (Wagon.mk x3.number x3.length x3.axles x3.mass x3.brake x3.goods x3.gentle y232))
              else
                some (x0, x3)

def Maker_SpoilWagon (N : Nat) (x0 : Maker) (x1 : Wagon) : Option (Wagon × Maker) :=
  Option.bind (Maker_Next N x0 8) fun y18 =>
  Option.bind (Maker_SpoilWagon_0 N y18.2 x1 y18.1) fun y246 =>
  some (y246.2, y246.1)

/-! ### humpyard/brake.Fastest -/

def brake_Fastest_2 (N : Nat) (x10 : Brakes) (x15 : Int) (x16 : Bool) : Option (Bool) :=
  if x16 = true then
    some (decide (x15 ≤ x10.percent))
  else
    some false

def brake_Fastest_1 (N : Nat) (x2 : List BrakeRow) (x3 : Int) (x10 : Brakes) (x12 : Int) (x35 : List BrakeRow) (x37 : Int) : Option (Int) :=
  Option.bind (getI x35 x37) fun y49 =>
  Option.bind (brake_required N x2 y49.speed x3) fun y66 =>
  Option.bind (brake_Fastest_2 N x10 y66.1 y66.2) fun y75 =>
  if y75 = true then
    AM.lt (max x12 y49.speed) fun y86 =>
    some y86
  else
    some x12

def brake_Fastest_0 (N : Nat) (x2 : List BrakeRow) (x3 : Int) (x10 : Brakes) (x35 : List BrakeRow) (x36 : Int) : Nat → Int → Int → Option (Int)
  | 0, _, _ => none
  | n + 1, x12, x37 =>
    if (decide (x37 < x36)) = true then
      Option.bind (brake_Fastest_1 N x2 x3 x10 x12 x35 x37) fun y90 =>
      brake_Fastest_0 N x2 x3 x10 x35 x36 n y90 (IntKind.wrap .i64 (x37 + 1))
    else
      some x12

def brake_Fastest (N : Nat) (x0 : List Wagon) (x1 : List Int) (x2 : List BrakeRow) (x3 : Int) : Option (Int × Int) :=
  Option.bind (brake_Total N x0 x1) fun y3 =>
  AM.lt (y3.2 != 0) fun y19 =>
  if y19 = true then
    some (0, y3.2)
  else
    Option.bind (brake_ValidTable N x2) fun y26 =>
    AM.lt (!y26) fun y27 =>
    if y27 = true then
      some (0, 1)
    else
      Option.bind (brake_in N x3 0 500) fun y34 =>
      AM.lt (!y34) fun y35 =>
      if y35 = true then
        some (0, 2)
      else
        Option.bind (brake_Fastest_0 N x2 x3 y3.1 x2 (x2.length : Int) N 0 0) fun y101 =>
        if (y101 == 0) = true then
          some (0, 15)
        else
          some (y101, 0)

/-! ### humpyard/humpyardref35.Off -/

def r35_Off_0 (N : Nat) (x0 : List Int) (x1 : Int) : Nat → Int → Option (Sum (Unit) (Bool))
  | 0, _ => none
  | n + 1, x5 =>
    if (decide (x5 < (x0.length : Int))) = true then
      Option.bind (getI x0 x5) fun y8 =>
      if (y8 == x1) = true then
        some (Sum.inr true)
      else
        AM.lt (IntKind.wrap .i64 (x5 + 1)) fun y20 =>
        r35_Off_0 N x0 x1 n y20
    else
      some (Sum.inl ())

def r35_Off (N : Nat) (x0 : List Int) (x1 : Int) : Option (Bool) :=
  Option.bind (r35_Off_0 N x0 x1 N 0) fun y24 =>
  match y24 with
  | Sum.inl y31 =>
    some false
  | Sum.inr y34 =>
    some y34

/-! ### humpyard/humpyardref35.Factor -/

def r35_Factor (N : Nat) (x0 : Int) : Option (Int) :=
  if (decide (x0 ≤ 5000)) = true then
    some 100
  else
    if (decide (7000 < x0)) = true then
      some 80
    else
      AM.lt (IntKind.wrap .i64 (100 - (IntKind.wrap .i64 (Int.tdiv (IntKind.wrap .i64 ((IntKind.wrap .i64 (x0 - 5000)) + 99)) 100)))) fun y15 =>
      some y15

/-! ### humpyard/humpyardref02.Valid -/

def r02_Valid (N : Nat) (x0 : List UInt8) : Option (Int) :=
  Option.bind (r02_digits N x0 12) fun y3 =>
  if (!y3) = true then
    some 11
  else
    Option.bind (r02_sum N x0 11) fun y11 =>
    Option.bind (getI x0 11) fun y12 =>
    if ((Int.tmod (IntKind.wrap .i64 (y11 + (IntKind.wrap .i64 (IntKind.wrap .u8 ((UInt8.toNat y12 : Int) - 48))))) 10) != 0) = true then
      some 9
    else
      some 0

/-! ### humpyard/humpyardref02.Kind -/

def r02_Kind_0 (N : Nat) (x11 : Int) (x12 : Bool) : Option (Bool) :=
  if x12 = true then
    some x12
  else
    AM.lt (x11 == 56) fun y20 =>
    some y20

def r02_Kind_1 (N : Nat) (x11 : Int) (x15 : Bool) : Option (Bool) :=
  if x15 = true then
    some x15
  else
    AM.lt (x11 == 52) fun y39 =>
    some y39

def r02_Kind (N : Nat) (x0 : List UInt8) : Option (Int × Int) :=
  Option.bind (r02_Valid N x0) fun y3 =>
  if (y3 != 0) = true then
    some (0, y3)
  else
    Option.bind (getI x0 4) fun y12 =>
    AM.lt ((UInt8.toNat y12 : Int) == 55) fun y15 =>
    Option.bind (r02_Kind_0 N (UInt8.toNat y12 : Int) y15) fun y23 =>
    if y23 = true then
      some (1, 0)
    else
      AM.lt ((UInt8.toNat y12 : Int) == 50) fun y34 =>
      Option.bind (r02_Kind_1 N (UInt8.toNat y12 : Int) y34) fun y42 =>
      if y42 = true then
        some (2, 0)
      else
        AM.lt ((UInt8.toNat y12 : Int) == 57) fun y53 =>
        if y53 = true then
          some (3, 0)
        else
          some (0, 0)

/-! ### humpyard/humpyardref06.Name -/

def r06_Name_1 (N : Nat) (x0 : List UInt8) (x3 : Int) : Option (Bool) :=
  Option.bind (getI x0 x3) fun y8 =>
  if (decide (97 ≤ (UInt8.toNat y8 : Int))) = true then
    Option.bind (getI x0 x3) fun y10 =>
    if (decide ((UInt8.toNat y10 : Int) ≤ 122)) = true then
      some (!true)
    else
      Option.bind (getI x0 x3) fun y15 =>
      if (decide (48 ≤ (UInt8.toNat y15 : Int))) = true then
        Option.bind (getI x0 x3) fun y17 =>
        some (!(decide ((UInt8.toNat y17 : Int) ≤ 57)))
      else
        some (!false)
  else
    Option.bind (getI x0 x3) fun y24 =>
    if (decide (48 ≤ (UInt8.toNat y24 : Int))) = true then
      Option.bind (getI x0 x3) fun y26 =>
      some (!(decide ((UInt8.toNat y26 : Int) ≤ 57)))
    else
      some (!false)

def r06_Name_0 (N : Nat) (x0 : List UInt8) : Nat → Int → Option (Sum (Unit) (Bool))
  | 0, _ => none
  | n + 1, x3 =>
    if (decide (x3 < (x0.length : Int))) = true then
      Option.bind (r06_Name_1 N x0 x3) fun y32 =>
      if y32 = true then
        some (Sum.inr false)
      else
        AM.lt (IntKind.wrap .i64 (x3 + 1)) fun y43 =>
        r06_Name_0 N x0 n y43
    else
      some (Sum.inl ())

def r06_Name_2 (N : Nat) (x0 : List UInt8) : Option (Bool) :=
  if (decide (1 ≤ (x0.length : Int))) = true then
    AM.lt (decide ((x0.length : Int) ≤ 12)) fun y56 =>
    some y56
  else
    some false

def r06_Name (N : Nat) (x0 : List UInt8) : Option (Bool) :=
  Option.bind (r06_Name_0 N x0 N 0) fun y47 =>
  match y47 with
  | Sum.inl y54 =>
    Option.bind (r06_Name_2 N x0) fun y62 =>
    some y62
  | Sum.inr y69 =>
    some y69

/-! ### humpyard/humpyardref06.Valid -/

def r06_Valid_0 (N : Nat) (x5 : Int) (x6 : Int) (x16 : Int) : Option (Int × Int) :=
  AM.lt (x16 == 2) fun y22 =>
  if y22 = true then
    some (2, x6)
  else
    AM.lt (x16 == 3) fun y29 =>
    if y29 = true then
      some (6, 120)
    else
      some (x5, x6)

def r06_Valid_1 (N : Nat) (x1 : Wagon) (x6 : Int) : Option (Bool) :=
  if (decide (x1.length < x6)) = true then
    some true
  else
    if (decide (400 < x1.length)) = true then
      some true
    else
      if (decide (x1.mass < 50)) = true then
        some true
      else
        if (decide (2000 < x1.mass)) = true then
          some true
        else
          if (decide (x1.brake < 0)) = true then
            some true
          else
            if (decide (x1.mass < x1.brake)) = true then
              some true
            else
              if (decide (x1.goods < 0)) = true then
                some true
              else
                AM.lt (decide (9 < x1.goods)) fun y79 =>
                some y79

def r06_Valid (N : Nat) (x0 : Wagon) : Option (Int) :=
  Option.bind (r02_Kind N x0.number) fun y9 =>
  if (y9.2 != 0) = true then
    some y9.2
  else
    Option.bind (r06_Valid_0 N 4 80 y9.1) fun y36 =>
    AM.lt (x0.axles != y36.1) fun y44 =>
    if y44 = true then
      some 1
    else
      Option.bind (r06_Valid_1 N x0 y36.2) fun y82 =>
      if y82 = true then
        some 2
      else
        Option.bind (r06_Name N x0.dest) fun y94 =>
        AM.lt (!y94) fun y95 =>
        if y95 = true then
          some 7
        else
          some 0

/-! ### humpyard/humpyardref06.ValidList -/

def r06_ValidList_1 (N : Nat) (x0 : List Wagon) (x3 : Int) : Nat → Int → Option (Sum (Unit) (Int))
  | 0, _ => none
  | n + 1, x5 =>
    if (decide (x5 < x3)) = true then
      Option.bind (getI x0 x5) fun y34 =>
      Option.bind (getI x0 x3) fun y40 =>
      if (y34.number == y40.number) = true then
        some (Sum.inr 8)
      else
        AM.lt (IntKind.wrap .i64 (x5 + 1)) fun y52 =>
        r06_ValidList_1 N x0 x3 n y52
    else
      some (Sum.inl ())

def r06_ValidList_0 (N : Nat) (x0 : List Wagon) : Nat → Int → Option (Sum (Unit) (Int))
  | 0, _ => none
  | n + 1, x3 =>
    if (decide (x3 < (x0.length : Int))) = true then
      Option.bind (getI x0 x3) fun y14 =>
      Option.bind (r06_Valid N y14) fun y20 =>
      if (y20 != 0) = true then
        some (Sum.inr y20)
      else
        Option.bind (r06_ValidList_1 N x0 x3 N 0) fun y56 =>
        match y56 with
        | Sum.inl y63 =>
          AM.lt (IntKind.wrap .i64 (x3 + 1)) fun y64 =>
          r06_ValidList_0 N x0 n y64
        | Sum.inr y67 =>
          some (Sum.inr y67)
    else
      some (Sum.inl ())

def r06_ValidList (N : Nat) (x0 : List Wagon) : Option (Int) :=
  if (decide (96 < (x0.length : Int))) = true then
    some 3
  else
    Option.bind (r06_ValidList_0 N x0 N 0) fun y69 =>
    match y69 with
    | Sum.inl y76 =>
      some 0
    | Sum.inr y79 =>
      some y79

/-! ### humpyard/humpyardref06.Total -/

def r06_Total_0 (N : Nat) (x0 : List Wagon) : Nat → Int → Int → Int → Int → Option (Int × Int × Int)
  | 0, _, _, _, _ => none
  | n + 1, x2, x3, x4, x7 =>
    if (decide (x7 < (x0.length : Int))) = true then
      Option.bind (getI x0 x7) fun y17 =>
      AM.lt (IntKind.wrap .i64 (x2 + y17.length)) fun y23 =>
      Option.bind (getI x0 x7) fun y26 =>
      AM.lt (IntKind.wrap .i64 (x3 + y26.mass)) fun y32 =>
      Option.bind (getI x0 x7) fun y35 =>
      AM.lt (IntKind.wrap .i64 (x4 + y35.axles)) fun y41 =>
      AM.lt (IntKind.wrap .i64 (x7 + 1)) fun y44 =>
      r06_Total_0 N x0 n y23 y32 y41 y44
    else
      some (x2, x3, x4)

def r06_Total (N : Nat) (x0 : List Wagon) : Option (Int × Int × Int × Int) :=
  Option.bind (r06_ValidList N x0) fun y3 =>
  if (y3 != 0) = true then
    some (0, 0, 0, y3)
  else
    Option.bind (r06_Total_0 N x0 N 0 0 0 0) fun y48 =>
    some (y48.1, y48.2.1, y48.2.2, 0)

/-! ### humpyard/humpyardref35.Total -/

def r35_Total_1 (N : Nat) (x0 : List Wagon) (x1 : List Int) (x10 : Int) : Option (Bool) :=
  Option.bind (getI x1 x10) fun y25 =>
  if (decide (y25 < 0)) = true then
    some true
  else
    Option.bind (getI x1 x10) fun y35 =>
    some (decide ((x0.length : Int) ≤ y35))

def r35_Total_0 (N : Nat) (x0 : List Wagon) (x1 : List Int) : Nat → Brakes → Int → Option (Sum (Brakes) (Brakes × Int))
  | 0, _, _ => none
  | n + 1, x4, x10 =>
    if (decide (x10 < (x1.length : Int))) = true then
      Option.bind (r35_Total_1 N x0 x1 x10) fun y43 =>
      if y43 = true then
        some (Sum.inr ((Brakes.mk 0 0 0 0 0 0 0), 2))
      else
        AM.lt (IntKind.wrap .i64 (x10 + 1)) fun y57 =>
        r35_Total_0 N x0 x1 n x4 y57
    else
      some (Sum.inl x4)

def r35_Total_2 (N : Nat) (x1 : List Int) : Nat → Brakes → Int → Option (Sum (Brakes) (Brakes × Int))
  | 0, _, _ => none
  | n + 1, x4, x11 =>
    if (decide (x11 < (x1.length : Int))) = true then
      Option.bind (cutI x1 0 x11) fun y76 =>
      Option.bind (getI x1 x11) fun y81 =>
      Option.bind (r35_Off N y76 y81) fun y89 =>
      if y89 = true then
        some (Sum.inr ((Brakes.mk 0 0 0 0 0 0 0), 8))
      else
        AM.lt (IntKind.wrap .i64 (x11 + 1)) fun y98 =>
        r35_Total_2 N x1 n x4 y98
    else
      some (Sum.inl x4)

def r35_Total_4 (N : Nat) (x0 : List Wagon) (x1 : List Int) (x12 : Brakes) (x13 : Int) : Option (Brakes) :=
  Option.bind (r35_Off N x1 x13) fun y128 =>
  if (!y128) = true then
    Option.bind (getI x0 x13) fun y132 =>
    some (Brakes.mk x12.length x12.axles x12.mass (IntKind.wrap .i64 (x12.braked + y132.brake)) x12.percent x12.required x12.missing)
  else
    some x12

def r35_Total_3 (N : Nat) (x0 : List Wagon) (x1 : List Int) : Nat → Brakes → Int → Option (Brakes)
  | 0, _, _ => none
  | n + 1, x12, x13 =>
    if (decide (x13 < (x0.length : Int))) = true then
      Option.bind (r35_Total_4 N x0 x1 x12 x13) fun y146 =>
      AM.lt (IntKind.wrap .i64 (x13 + 1)) fun y157 =>
      r35_Total_3 N x0 x1 n y146 y157
    else
      some x12

def r35_Total_5 (N : Nat) (x7 : Int) (x12 : Brakes) (x92 : Bool) : Option (Brakes) :=
  if x92 = true then
    Option.bind (divI (IntKind.wrap .i64 (100 * x12.braked)) x7) fun y186 =>
    some (Brakes.mk x12.length x12.axles x12.mass x12.braked (IntKind.wrap .i64 (y186)) x12.required x12.missing)
  else
    some x12

def r35_Total (N : Nat) (x0 : List Wagon) (x1 : List Int) : Option (Brakes × Int) :=
  Option.bind (r06_Total N x0) fun y9 =>
  if (y9.2.2.2 != 0) = true then
    some ((Brakes.mk 0 0 0 0 0 0 0), y9.2.2.2)
  else
    Option.bind (r35_Total_0 N x0 x1 N (Brakes.mk 0 0 0 0 0 0 0) 0) fun y61 =>
    match y61 with
    | Sum.inl y68 =>
      Option.bind (r35_Total_2 N x1 N y68 0) fun y102 =>
      match y102 with
      | Sum.inl y109 =>
        Option.bind (r35_Total_3 N x0 x1 N (Brakes.mk y9.1 y9.2.2.1 y9.2.1 0 0 0 0) 0) fun y161 =>
        Option.bind (r35_Factor N y9.1) fun y175 =>
        Option.bind (r35_Total_5 N y9.2.1 (Brakes.mk y161.length y161.axles y161.mass (IntKind.wrap .i64 (Int.tdiv (IntKind.wrap .i64 (y161.braked * y175)) 100)) y161.percent y161.required y161.missing) (decide (0 < y9.2.1))) fun y192 =>
        some (y192, 0)
      | Sum.inr y207 =>
        some (y207.1, y207.2)
    | Sum.inr y210 =>
      some (y210.1, y210.2)

/-! ### humpyard/humpyardref35.ValidTable -/

def r35_ValidTable_1 (N : Nat) (x0 : List BrakeRow) (x3 : Int) : Option (Bool) :=
  Option.bind (getI x0 x3) fun y14 =>
  if (decide (y14.speed < 1)) = true then
    some true
  else
    Option.bind (getI x0 x3) fun y24 =>
    if (decide (200 < y24.speed)) = true then
      some true
    else
      Option.bind (getI x0 x3) fun y34 =>
      if (decide (y34.grade < 0)) = true then
        some true
      else
        Option.bind (getI x0 x3) fun y44 =>
        if (decide (500 < y44.grade)) = true then
          some true
        else
          Option.bind (getI x0 x3) fun y54 =>
          if (decide (y54.percent < 0)) = true then
            some true
          else
            Option.bind (getI x0 x3) fun y64 =>
            some (decide (250 < y64.percent))

def r35_ValidTable_0 (N : Nat) (x0 : List BrakeRow) : Nat → Int → Option (Sum (Unit) (Bool))
  | 0, _ => none
  | n + 1, x3 =>
    if (decide (x3 < (x0.length : Int))) = true then
      Option.bind (r35_ValidTable_1 N x0 x3) fun y72 =>
      if y72 = true then
        some (Sum.inr false)
      else
        AM.lt (IntKind.wrap .i64 (x3 + 1)) fun y83 =>
        r35_ValidTable_0 N x0 n y83
    else
      some (Sum.inl ())

def r35_ValidTable (N : Nat) (x0 : List BrakeRow) : Option (Bool) :=
  if (decide (64 < (x0.length : Int))) = true then
    some false
  else
    Option.bind (r35_ValidTable_0 N x0 N 0) fun y87 =>
    match y87 with
    | Sum.inl y94 =>
      some true
    | Sum.inr y97 =>
      some y97

/-! ### humpyard/humpyardref35.need -/

def r35_need_2 (N : Nat) (x0 : List BrakeRow) (x1 : Int) (x2 : Int) (x8 : Int) (x9 : Bool) (x10 : Int) : Option (Bool) :=
  Option.bind (getI x0 x10) fun y10 =>
  if (decide (x1 ≤ y10.speed)) = true then
    Option.bind (getI x0 x10) fun y17 =>
    if (decide (x2 ≤ y17.grade)) = true then
      if (!x9) = true then
        some true
      else
        Option.bind (getI x0 x10) fun y28 =>
        some (decide (y28.percent < x8))
    else
      some false
  else
    some false

def r35_need_1 (N : Nat) (x0 : List BrakeRow) (x1 : Int) (x2 : Int) (x8 : Int) (x9 : Bool) (x10 : Int) : Option (Int × Bool) :=
  Option.bind (r35_need_2 N x0 x1 x2 x8 x9 x10) fun y42 =>
  if y42 = true then
    Option.bind (getI x0 x10) fun y50 =>
    some (y50.percent, true)
  else
    some (x8, x9)

def r35_need_0 (N : Nat) (x0 : List BrakeRow) (x1 : Int) (x2 : Int) : Nat → Int → Bool → Int → Option (Int × Bool)
  | 0, _, _, _ => none
  | n + 1, x8, x9, x10 =>
    if (decide (x10 < (x0.length : Int))) = true then
      Option.bind (r35_need_1 N x0 x1 x2 x8 x9 x10) fun y59 =>
      AM.lt (IntKind.wrap .i64 (x10 + 1)) fun y66 =>
      r35_need_0 N x0 x1 x2 n y59.1 y59.2 y66
    else
      some (x8, x9)

def r35_need (N : Nat) (x0 : List BrakeRow) (x1 : Int) (x2 : Int) : Option (Int × Bool) :=
  Option.bind (r35_need_0 N x0 x1 x2 N 0 false 0) fun y70 =>
  some (y70.1, y70.2)

/-! ### humpyard/humpyardref35.Required -/

def r35_Required_0 (N : Nat) (x1 : Int) (x2 : Int) : Option (Bool) :=
  if (decide (x1 < 1)) = true then
    some true
  else
    if (decide (200 < x1)) = true then
      some true
    else
      if (decide (x2 < 0)) = true then
        some true
      else
        some (decide (500 < x2))

def r35_Required (N : Nat) (x0 : List BrakeRow) (x1 : Int) (x2 : Int) : Option (Int × Int) :=
  Option.bind (r35_ValidTable N x0) fun y3 =>
  if (!y3) = true then
    some (0, 1)
  else
    Option.bind (r35_Required_0 N x1 x2) fun y24 =>
    if y24 = true then
      some (0, 2)
    else
      Option.bind (r35_need N x0 x1 x2) fun y35 =>
      if (!y35.2) = true then
        some (0, 15)
      else
        some (y35.1, 0)

/-! ### humpyard/humpyardref35.Sheet -/

def r35_Sheet (N : Nat) (x0 : List Wagon) (x1 : List Int) (x2 : List BrakeRow) (x3 : Int) (x4 : Int) : Option (Brakes × Int) :=
  Option.bind (r35_Total N x0 x1) fun y9 =>
  if (y9.2 != 0) = true then
    some ((Brakes.mk 0 0 0 0 0 0 0), y9.2)
  else
    Option.bind (r35_Required N x2 x3 x4) fun y34 =>
    if (y34.2 != 0) = true then
      some ((Brakes.mk 0 0 0 0 0 0 0), y34.2)
    else
      some ((Brakes.mk y9.1.length y9.1.axles y9.1.mass y9.1.braked y9.1.percent y34.1 (max 0 (IntKind.wrap .i64 ((IntKind.wrap .i64 (Int.tdiv (IntKind.wrap .i64 ((IntKind.wrap .i64 (y34.1 * y9.1.mass)) + 99)) 100)) - y9.1.braked)))), 0)

/-! ### humpyard/humpyardref35.Fastest -/

def r35_Fastest_0 (N : Nat) (x3 : Int) : Option (Bool) :=
  if (decide (x3 < 0)) = true then
    some true
  else
    some (decide (500 < x3))

def r35_Fastest_3 (N : Nat) (x10 : Brakes) (x14 : Int) (x15 : Bool) : Option (Bool) :=
  if x15 = true then
    some (decide (x14 ≤ x10.percent))
  else
    some false

def r35_Fastest_2 (N : Nat) (x2 : List BrakeRow) (x3 : Int) (x10 : Brakes) (x12 : Int) (x13 : Int) : Option (Int) :=
  Option.bind (getI x2 x13) fun y57 =>
  Option.bind (r35_need N x2 y57.speed x3) fun y63 =>
  Option.bind (r35_Fastest_3 N x10 y63.1 y63.2) fun y72 =>
  if y72 = true then
    Option.bind (getI x2 x13) fun y81 =>
    AM.lt (max x12 y81.speed) fun y87 =>
    some y87
  else
    some x12

def r35_Fastest_1 (N : Nat) (x2 : List BrakeRow) (x3 : Int) (x10 : Brakes) : Nat → Int → Int → Option (Int)
  | 0, _, _ => none
  | n + 1, x12, x13 =>
    if (decide (x13 < (x2.length : Int))) = true then
      Option.bind (r35_Fastest_2 N x2 x3 x10 x12 x13) fun y91 =>
      AM.lt (IntKind.wrap .i64 (x13 + 1)) fun y99 =>
      r35_Fastest_1 N x2 x3 x10 n y91 y99
    else
      some x12

def r35_Fastest (N : Nat) (x0 : List Wagon) (x1 : List Int) (x2 : List BrakeRow) (x3 : Int) : Option (Int × Int) :=
  Option.bind (r35_Total N x0 x1) fun y3 =>
  if (y3.2 != 0) = true then
    some (0, y3.2)
  else
    Option.bind (r35_ValidTable N x2) fun y25 =>
    if (!y25) = true then
      some (0, 1)
    else
      Option.bind (r35_Fastest_0 N x3) fun y38 =>
      if y38 = true then
        some (0, 2)
      else
        Option.bind (r35_Fastest_1 N x2 x3 y3.1 N 0 0) fun y103 =>
        if (y103 == 0) = true then
          some (0, 15)
        else
          some (y103, 0)

/-! ### humpyard/humpyardlaw35.exact -/

def l35_exact_0 (N : Nat) (x2 : List BrakeRow) (x11 : Brakes) (x12 : Int) (x13 : Brakes) (x14 : Int) (x15 : Int) (x16 : Int) (x17 : Int) (x18 : Int) (x19 : Brakes) (x20 : Int) (x21 : Brakes) (x22 : Int) (x23 : Int) (x24 : Int) (x25 : Int) (x26 : Int) : Option (Bool) :=
  Option.bind (brake_ValidTable N x2) fun y85 =>
  Option.bind (r35_ValidTable N x2) fun y86 =>
  if (y85 == y86) = true then
    if (decide (x11 = x13)) = true then
      if (x12 == x14) = true then
        if (x15 == x17) = true then
          if (x16 == x18) = true then
            if (decide (x19 = x21)) = true then
              if (x20 == x22) = true then
                if (x23 == x25) = true then
                  AM.lt (x24 == x26) fun y95 =>
                  some y95
                else
                  some false
              else
                some false
            else
              some false
          else
            some false
        else
          some false
      else
        some false
    else
      some false
  else
    some false

def l35_exact (N : Nat) (x0 : List Wagon) (x1 : List Int) (x2 : List BrakeRow) (x3 : Int) (x4 : Int) : Option (Bool) :=
  Option.bind (brake_Total N x0 x1) fun y3 =>
  Option.bind (r35_Total N x0 x1) fun y19 =>
  Option.bind (brake_Required N x2 x3 x4) fun y36 =>
  Option.bind (r35_Required N x2 x3 x4) fun y39 =>
  Option.bind (brake_Sheet N x0 x1 x2 x3 x4) fun y42 =>
  Option.bind (r35_Sheet N x0 x1 x2 x3 x4) fun y60 =>
  Option.bind (brake_Fastest N x0 x1 x2 x4) fun y79 =>
  Option.bind (r35_Fastest N x0 x1 x2 x4) fun y82 =>
  Option.bind (l35_exact_0 N x2 y3.1 y3.2 y19.1 y19.2 y36.1 y36.2 y39.1 y39.2 y42.1 y42.2 y60.1 y60.2 y79.1 y79.2 y82.1 y82.2) fun y122 =>
  some y122

/-! ### humpyard/humpyardlaw35.BrakeExact -/

def l35_BrakeExact_1 (N : Nat) (x14 : Int) (x15 : List Wagon) : Option (Bool) :=
  if (x14 == 2) = true then
    some (decide (0 < (x15.length : Int)))
  else
    some false

def l35_BrakeExact_2 (N : Nat) (x13 : Maker) (x15 : List Wagon) (x17 : List Int) (x41 : Bool) : Option (Maker × List Wagon × List Int) :=
  if x41 = true then
    Option.bind (Maker_Next N x13 (x15.length : Int)) fun y96 =>
    Option.bind (getI x15 y96.1) fun y108 =>
    Option.bind (Maker_SpoilWagon N y96.2 y108) fun y117 =>
    Option.bind (getI x15 y96.1) fun y127 =>
    AM.lt (x15.set ((y96.1 : Int).toNat) y117.1) fun y138 =>
    Option.bind (Maker_Pick N y117.2 ([(-1), 0, (y138.length : Int)] : List Int)) fun y155 =>
    Option.bind (appI x17 ([y155.1] : List Int)) fun y175 =>
    some (y155.2, y138, y175)
  else
    some (x13, x15, x17)

def l35_BrakeExact_3 (N : Nat) (x13 : Maker) (x16 : List BrakeRow) (x64 : Bool) : Option (Maker × List BrakeRow) :=
  if x64 = true then
    Option.bind (Maker_Pick N x13 ([0, 1, 200, 201] : List Int)) fun y230 =>
    Option.bind (Maker_Pick N y230.2 ([(-1), 0, 500, 501] : List Int)) fun y254 =>
    Option.bind (Maker_Pick N y254.2 ([(-1), 0, 250, 251] : List Int)) fun y278 =>
    Option.bind (appI x16 ([(BrakeRow.mk y230.1 y254.1 y278.1)] : List BrakeRow)) fun y298 =>
    some (y278.2, y298)
  else
    some (x13, x16)

def l35_BrakeExact_4 (N : Nat) (x4 : Int) (x5 : Int) (x13 : Maker) (x15 : List Wagon) (x16 : List BrakeRow) (x17 : List Int) : Option (Maker × Bool) :=
  Option.bind (Maker_Pick N x13 ([1, 60, 80, 81, 200, 0, 201] : List Int)) fun y349 =>
  Option.bind (Maker_Pick N y349.2 ([0, 50, 51, 500, (-1), 501] : List Int)) fun y373 =>
  Option.bind (l35_exact N x15 x17 x16 y349.1 y373.1) fun y407 =>
  if (!y407) = true then
    some (y373.2, true)
  else
    Option.bind (l35_exact N x15 x17 x16 x4 x5) fun y436 =>
    some (y373.2, (!y436))

def l35_BrakeExact_0 (N : Nat) (x4 : Int) (x5 : Int) : Nat → Maker → Int → Option (Sum (Unit) (Bool))
  | 0, _, _ => none
  | n + 1, x13, x14 =>
    if (decide (x14 < 4)) = true then
      Option.bind (Maker_Wagons N x13 40) fun y23 =>
      Option.bind (yardgen_Table N y23.2) fun y37 =>
      Option.bind (yardgen_Off N y37.2 (y23.1.length : Int)) fun y54 =>
      Option.bind (l35_BrakeExact_1 N x14 y23.1) fun y78 =>
      Option.bind (l35_BrakeExact_2 N y54.2 y23.1 y54.1 y78) fun y189 =>
      Option.bind (l35_BrakeExact_3 N y189.1 y37.1 (x14 == 3)) fun y312 =>
      Option.bind (l35_BrakeExact_4 N x4 x5 y312.1 y189.2.1 y312.2 y189.2.2) fun y439 =>
      if y439.2 = true then
        some (Sum.inr false)
      else
        AM.lt (IntKind.wrap .i64 (x14 + 1)) fun y455 =>
        l35_BrakeExact_0 N x4 x5 n y439.1 y455
    else
      some (Sum.inl ())

def l35_BrakeExact_6 (N : Nat) (x19 : Int) (x20 : Int) : Option (Bool) :=
  Option.bind (brake_Factor N x20) fun y475 =>
  Option.bind (r35_Factor N x20) fun y476 =>
  if (y475 != y476) = true then
    some true
  else
    Option.bind (brake_Factor N (IntKind.wrap .i64 ((IntKind.wrap .i64 (100 * x20)) + x19))) fun y481 =>
    Option.bind (r35_Factor N (IntKind.wrap .i64 ((IntKind.wrap .i64 (100 * x20)) + x19))) fun y482 =>
    some (y481 != y482)

def l35_BrakeExact_5 (N : Nat) (x4 : Int) : Nat → Int → Option (Sum (Unit) (Bool))
  | 0, _ => none
  | n + 1, x19 =>
    if (decide (x19 < 3)) = true then
      Option.bind (yardgen_Place N x4 40000) fun y472 =>
      Option.bind (l35_BrakeExact_6 N x19 y472) fun y485 =>
      if y485 = true then
        some (Sum.inr false)
      else
        AM.lt (IntKind.wrap .i64 (x19 + 1)) fun y496 =>
        l35_BrakeExact_5 N x4 n y496
    else
      some (Sum.inl ())

def l35_BrakeExact_7 (N : Nat) (x1 : List Wagon) (x2 : List Int) (x3 : List BrakeRow) : Option (Bool) :=
  if (decide (120 < (x1.length : Int))) = true then
    some true
  else
    if (decide (120 < (x2.length : Int))) = true then
      some true
    else
      some (decide (100 < (x3.length : Int)))

def l35_BrakeExact_8 (N : Nat) (x1 : List Wagon) (x2 : List Int) (x3 : List BrakeRow) (x4 : Int) (x5 : Int) : Option (Bool) :=
  Option.bind (l35_exact N x1 x2 x3 x4 x5) fun y530 =>
  if y530 = true then
    Option.bind (l35_sane N ) fun y532 =>
    some y532
  else
    some false

def l35_BrakeExact (N : Nat) (x0 : List Int) (x1 : List Wagon) (x2 : List Int) (x3 : List BrakeRow) (x4 : Int) (x5 : Int) : Option (Bool) :=
  Option.bind (gen_New N x0) fun y3 =>
  Option.bind (l35_BrakeExact_0 N x4 x5 N y3 0) fun y459 =>
  match y459 with
  | Sum.inl y466 =>
    Option.bind (l35_BrakeExact_5 N x4 N (-2)) fun y500 =>
    match y500 with
    | Sum.inl y507 =>
      Option.bind (l35_BrakeExact_7 N x1 x2 x3) fun y518 =>
      if y518 = true then
        Option.bind (l35_sane N ) fun y526 =>
        some y526
      else
        Option.bind (l35_BrakeExact_8 N x1 x2 x3 x4 x5) fun y538 =>
        some y538
    | Sum.inr y545 =>
      some y545
  | Sum.inr y546 =>
    some y546

end Go.W
