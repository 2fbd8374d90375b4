/- The models of the functions. -/
import Derived.Test.YthlaohffhjlkbaaAmEq
set_option linter.unusedVariables false
set_option linter.unusedSimpArgs false
set_option maxRecDepth 100000
set_option maxHeartbeats 4000000
namespace Go.W
open Go.AM

/-- api.Wagon -/
structure Wagon where
  number : (List UInt8)
  length : Int
  axles : Int
  mass : Int
  brake : Int
  goods : Int
  gentle : Bool
  dest : (List UInt8)
deriving DecidableEq
def TWagon : Ty Wagon where
  sz := 8
  tid := 30
  rd := fun z x cs => cs = [(str x.number), (Value.int .i64 x.length), (Value.int .i64 x.axles), (Value.int .i64 x.mass), (Value.int .i64 x.brake), (Value.int .i64 x.goods), (Value.bool x.gentle), (str x.dest)]
  len := fun z x cs h => by rw [h]; rfl
  mono := fun z z' _ x cs h => h
  one := fun z x cs h c hc => by
    rw [h] at hc; simp only [List.mem_cons, List.not_mem_nil, or_false] at hc
    rcases hc with rfl | rfl | rfl | rfl | rfl | rfl | rfl | rfl <;> exact ⟨rfl, rfl⟩
/-- humpgen.Maker -/
structure Maker where
  l : (List Int)
  n : Int
deriving DecidableEq
def TMaker : Ty Maker where
  sz := 2
  tid := 56
  rd := fun z x cs => ∃ v0, cs = [v0, (Value.int .i64 x.n)] ∧ SlR (TInt 3 .i64) z x.l v0
  len := by rintro z x cs ⟨v0, rfl, s0⟩; rfl
  mono := by rintro z z' h x cs ⟨v0, rfl, s0⟩; exact ⟨v0, rfl, s0.mono h⟩
  one := by
    rintro z x cs ⟨v0, rfl, s0⟩ c hc
    simp only [List.mem_cons, List.not_mem_nil, or_false] at hc
    rcases hc with rfl | rfl <;> first | exact ⟨rfl, rfl⟩ | (obtain ⟨a, c, rfl⟩ := s0.len; exact ⟨rfl, rfl⟩)

/-! ### humpyard/wheel.distance -/

def wheel_distance_0 (N : Nat) (x0 : Int) : Option (Bool) :=
  if (decide (1 ≤ x0)) = true then
    AM.lt (decide (x0 ≤ 10000)) fun y4 =>
    some y4
  else
    some false

def wheel_distance (N : Nat) (x0 : Int) : Option (Bool) :=
  Option.bind (wheel_distance_0 N x0) fun y10 =>
  some y10

/-! ### humpyard/wheel.check -/

def wheel_check_0 (N : Nat) (x0 : List Int) (x1 : List (List Int)) : Option (Bool) :=
  if (decide (768 < (x0.length : Int))) = true then
    some true
  else
    some (decide (16 < (x1.length : Int)))

def wheel_check_1 (N : Nat) (x24 : List (List Int)) (x25 : Int) : Nat → Int → Option (Sum (Unit) (Int))
  | 0, _ => none
  | n + 1, x26 =>
    if (decide (x26 < x25)) = true then
      Option.bind (getI x24 x26) fun y25 =>
      if (decide (5 < (y25.length : Int))) = true then
        some (Sum.inr 3)
      else
        wheel_check_1 N x24 x25 n (IntKind.wrap .i64 (x26 + 1))
    else
      some (Sum.inl ())

def wheel_check_2 (N : Nat) (x2 : Int) : Option (Bool) :=
  if (decide (0 ≤ x2)) = true then
    AM.lt (decide (x2 ≤ 10000)) fun y54 =>
    some y54
  else
    some false

def wheel_check_4 (N : Nat) (x9 : Bool) (x11 : Int) : Option (Bool) :=
  if x9 = true then
    Option.bind (wheel_distance N x11) fun y81 =>
    some y81
  else
    some false

def wheel_check_3 (N : Nat) (x40 : List Int) (x41 : Int) : Nat → Bool → Int → Option (Bool)
  | 0, _, _ => none
  | n + 1, x9, x42 =>
    if (decide (x42 < x41)) = true then
      Option.bind (getI x40 x42) fun y72 =>
      Option.bind (wheel_check_4 N x9 y72) fun y87 =>
      wheel_check_3 N x40 x41 n y87 (IntKind.wrap .i64 (x42 + 1))
    else
      some x9

def wheel_check_7 (N : Nat) (x9 : Bool) (x15 : Int) : Option (Bool) :=
  if x9 = true then
    Option.bind (wheel_distance N x15) fun y134 =>
    some y134
  else
    some false

def wheel_check_6 (N : Nat) (x58 : List Int) (x59 : Int) : Nat → Bool → Int → Option (Bool)
  | 0, _, _ => none
  | n + 1, x9, x60 =>
    if (decide (x60 < x59)) = true then
      Option.bind (getI x58 x60) fun y125 =>
      Option.bind (wheel_check_7 N x9 y125) fun y140 =>
      wheel_check_6 N x58 x59 n y140 (IntKind.wrap .i64 (x60 + 1))
    else
      some x9

def wheel_check_5 (N : Nat) (x52 : List (List Int)) (x53 : Int) : Nat → Bool → Int → Option (Bool)
  | 0, _, _ => none
  | n + 1, x9, x54 =>
    if (decide (x54 < x53)) = true then
      Option.bind (getI x52 x54) fun y109 =>
      Option.bind (wheel_check_6 N y109 (y109.length : Int) N x9 0) fun y150 =>
      wheel_check_5 N x52 x53 n y150 (IntKind.wrap .i64 (x54 + 1))
    else
      some x9

def wheel_check (N : Nat) (x0 : List Int) (x1 : List (List Int)) (x2 : Int) : Option (Int) :=
  Option.bind (wheel_check_0 N x0 x1) fun y9 =>
  if y9 = true then
    some 3
  else
    Option.bind (wheel_check_1 N x1 (x1.length : Int) N 0) fun y45 =>
    match y45 with
    | Sum.inl y52 =>
      Option.bind (wheel_check_2 N x2) fun y60 =>
      Option.bind (wheel_check_3 N x0 (x0.length : Int) N y60 0) fun y97 =>
      Option.bind (wheel_check_5 N x1 (x1.length : Int) N y97 0) fun y160 =>
      if (!y160) = true then
        some 2
      else
        some 0
    | Sum.inr y175 =>
      some y175

/-! ### humpyard/wheel.match -/

def wheel_match_0 (N : Nat) (x0 : List Int) (x2 : Int) (x17 : List Int) (x18 : Int) : Nat → Int → Int → Option (Sum (Int) (Int × Bool))
  | 0, _, _ => none
  | n + 1, x8, x19 =>
    if (decide (x19 < x18)) = true then
      Option.bind (getI x17 x19) fun y16 =>
      Option.bind (getI x0 x19) fun y24 =>
      Option.bind (getI x0 x19) fun y30 =>
      AM.lt (max (IntKind.wrap .i64 (y24 - y16)) (IntKind.wrap .i64 (y16 - y30))) fun y36 =>
      if (decide (x2 < y36)) = true then
        some (Sum.inr (0, false))
      else
        AM.lt (IntKind.wrap .i64 (x8 + y36)) fun y45 =>
        wheel_match_0 N x0 x2 x17 x18 n y45 (IntKind.wrap .i64 (x19 + 1))
    else
      some (Sum.inl x8)

def wheel_match (N : Nat) (x0 : List Int) (x1 : List Int) (x2 : Int) : Option (Int × Bool) :=
  if (decide ((x0.length : Int) < (x1.length : Int))) = true then
    some (0, false)
  else
    Option.bind (wheel_match_0 N x0 x2 x1 (x1.length : Int) N 0 0) fun y51 =>
    match y51 with
    | Sum.inl y58 =>
      some (y58, true)
    | Sum.inr y61 =>
      some (y61.1, y61.2)

/-! ### humpyard/wheel.Recognize -/

def wheel_Recognize_3 (N : Nat) (x11 : List Int) (x13 : Int) (x15 : List Int) (x17 : Bool) : Option (Bool) :=
  if (!x17) = true then
    some true
  else
    Option.bind (getI x11 (IntKind.wrap .i64 ((IntKind.wrap .i64 (x13 + (x15.length : Int))) + 1))) fun y94 =>
    some (decide (y94 < 0))

def wheel_Recognize_4 (N : Nat) (x11 : List Int) (x12 : List Int) (x13 : Int) (x16 : Int) : Option (Bool) :=
  Option.bind (getI x12 x13) fun y129 =>
  if (decide (y129 < 0)) = true then
    some true
  else
    Option.bind (getI x11 x13) fun y142 =>
    some (decide (x16 < y142))

def wheel_Recognize_2 (N : Nat) (x0 : List Int) (x2 : Int) (x11 : List Int) (x12 : List Int) (x13 : Int) (x48 : List (List Int)) (x50 : Int) : Option (List Int × List Int) :=
  Option.bind (getI x48 x50) fun y71 =>
  Option.bind (cutI x0 x13 (x0.length : Int)) fun y82 =>
  Option.bind (wheel_match N y82 y71 x2) fun y87 =>
  Option.bind (wheel_Recognize_3 N x11 x13 y71 y87.2) fun y105 =>
  if y105 = true then
    some (x11, x12)
  else
    Option.bind (getI x11 (IntKind.wrap .i64 ((IntKind.wrap .i64 (x13 + (y71.length : Int))) + 1))) fun y117 =>
    AM.lt (IntKind.wrap .i64 (y87.1 + y117)) fun y126 =>
    Option.bind (wheel_Recognize_4 N x11 x12 x13 y126) fun y153 =>
    if y153 = true then
      Option.bind (getI x11 x13) fun y164 =>
      AM.lt (x11.set ((x13 : Int).toNat) y126) fun y175 =>
      Option.bind (getI x12 x13) fun y176 =>
      AM.lt (x12.set ((x13 : Int).toNat) x50) fun y187 =>
      some (y175, y187)
    else
      some (x11, x12)

def wheel_Recognize_1 (N : Nat) (x0 : List Int) (x2 : Int) (x13 : Int) (x48 : List (List Int)) (x49 : Int) : Nat → (List Int) → (List Int) → Int → Option (List Int × List Int)
  | 0, _, _, _ => none
  | n + 1, x11, x12, x50 =>
    if (decide (x50 < x49)) = true then
      Option.bind (wheel_Recognize_2 N x0 x2 x11 x12 x13 x48 x50) fun y191 =>
      wheel_Recognize_1 N x0 x2 x13 x48 x49 n y191.1 y191.2 (IntKind.wrap .i64 (x50 + 1))
    else
      some (x11, x12)

def wheel_Recognize_0 (N : Nat) (x0 : List Int) (x1 : List (List Int)) (x2 : Int) : Nat → (List Int) → (List Int) → Int → Option (List Int × List Int)
  | 0, _, _, _ => none
  | n + 1, x11, x12, x13 =>
    if (decide (0 ≤ x13)) = true then
      Option.bind (getI x11 x13) fun y40 =>
      AM.lt (x11.set ((x13 : Int).toNat) (-1)) fun y51 =>
      Option.bind (getI x12 x13) fun y52 =>
      AM.lt (x12.set ((x13 : Int).toNat) (-1)) fun y63 =>
      Option.bind (wheel_Recognize_1 N x0 x2 x13 x1 (x1.length : Int) N y51 y63 0) fun y206 =>
      AM.lt (IntKind.wrap .i64 (x13 - 1)) fun y218 =>
      wheel_Recognize_0 N x0 x1 x2 n y206.1 y206.2 y218
    else
      some (x11, x12)

def wheel_Recognize_5 (N : Nat) (x1 : List (List Int)) (x10 : Int) (x12 : List Int) : Nat → (List Int) → Int → Option (List Int)
  | 0, _, _ => none
  | n + 1, x18, x19 =>
    if (decide (x19 < x10)) = true then
      Option.bind (getI x12 x19) fun y256 =>
      Option.bind (appI x18 ([y256] : List Int)) fun y274 =>
      Option.bind (getI x12 x19) fun y286 =>
      Option.bind (getI x1 y286) fun y295 =>
      AM.lt (IntKind.wrap .i64 (x19 + (IntKind.wrap .i64 ((y295.length : Int) + 1)))) fun y304 =>
      wheel_Recognize_5 N x1 x10 x12 n y274 y304
    else
      some x18

def wheel_Recognize (N : Nat) (x0 : List Int) (x1 : List (List Int)) (x2 : Int) : Option (List Int × Int × Int) :=
  Option.bind (wheel_check N x0 x1 x2) fun y3 =>
  if (y3 != 0) = true then
    some ([], 0, y3)
  else
    AM.lt (IntKind.wrap .i64 ((x0.length : Int) + 1)) fun y12 =>
    Option.bind (mkI 0 (IntKind.wrap .i64 (y12 + 1))) fun y15 =>
    Option.bind (mkI 0 (IntKind.wrap .i64 (y12 + 1))) fun y24 =>
    AM.lt (IntKind.wrap .i64 (y12 - 1)) fun y34 =>
    Option.bind (wheel_Recognize_0 N x0 x1 x2 N y15 y24 y34) fun y222 =>
    Option.bind (getI y222.1 0) fun y234 =>
    if (decide (y234 < 0)) = true then
      some ([], 0, 15)
    else
      Option.bind (wheel_Recognize_5 N x1 y12 y222.2 N [] 0) fun y308 =>
      Option.bind (getI y222.1 0) fun y320 =>
      some (y308, y320, 0)

/-! ### humpyard/wagonnumber.digits -/

def wagonnumber_digits_1 (N : Nat) (x0 : List UInt8) (x5 : Int) : Option (Bool) :=
  Option.bind (getI x0 x5) fun y8 =>
  if (decide ((UInt8.toNat y8 : Int) < 48)) = true then
    some true
  else
    Option.bind (getI x0 x5) fun y13 =>
    some (decide (57 < (UInt8.toNat y13 : Int)))

def wagonnumber_digits_0 (N : Nat) (x0 : List UInt8) : Nat → Int → Option (Sum (Unit) (Bool))
  | 0, _ => none
  | n + 1, x5 =>
    if (decide (x5 < (x0.length : Int))) = true then
      Option.bind (wagonnumber_digits_1 N x0 x5) fun y16 =>
      if y16 = true then
        some (Sum.inr false)
      else
        AM.lt (IntKind.wrap .i64 (x5 + 1)) fun y27 =>
        wagonnumber_digits_0 N x0 n y27
    else
      some (Sum.inl ())

def wagonnumber_digits (N : Nat) (x0 : List UInt8) (x1 : Int) : Option (Bool) :=
  Option.bind (wagonnumber_digits_0 N x0 N 0) fun y31 =>
  match y31 with
  | Sum.inl y38 =>
    AM.lt ((x0.length : Int) == x1) fun y39 =>
    some y39
  | Sum.inr y42 =>
    some y42

/-! ### humpyard/wagonnumber.sum -/

def wagonnumber_sum_1 (N : Nat) (x5 : Int) (x19 : Bool) : Option (Int) :=
  if x19 = true then
    AM.lt (IntKind.wrap .i64 (x5 * 2)) fun y17 =>
    if (decide (9 < y17)) = true then
      AM.lt (IntKind.wrap .i64 (y17 - 9)) fun y23 =>
      some y23
    else
      some y17
  else
    some x5

def wagonnumber_sum_0 (N : Nat) (x0 : List UInt8) : Nat → Int → Int → Option (Int)
  | 0, _, _ => none
  | n + 1, x3, x4 =>
    if (decide (x4 < (x0.length : Int))) = true then
      Option.bind (getI x0 x4) fun y10 =>
      AM.lt (IntKind.wrap .i64 (IntKind.wrap .u8 ((UInt8.toNat y10 : Int) - 48))) fun y11 =>
      Option.bind (wagonnumber_sum_1 N y11 ((Int.tmod x4 2) == 0)) fun y28 =>
      AM.lt (IntKind.wrap .i64 (x3 + y28)) fun y35 =>
      AM.lt (IntKind.wrap .i64 (x4 + 1)) fun y38 =>
      wagonnumber_sum_0 N x0 n y35 y38
    else
      some x3

def wagonnumber_sum (N : Nat) (x0 : List UInt8) : Option (Int) :=
  Option.bind (wagonnumber_sum_0 N x0 N 0 0) fun y42 =>
  some y42

/-! ### humpyard/wagonnumber.check -/

def wagonnumber_check (N : Nat) (x0 : List UInt8) : Option (Int) :=
  Option.bind (wagonnumber_sum N x0) fun y3 =>
  AM.lt (Int.tmod (IntKind.wrap .i64 (10 - (Int.tmod y3 10))) 10) fun y4 =>
  some y4

/-! ### humpyard/wagonnumber.Valid -/

def wagonnumber_Valid (N : Nat) (x0 : List UInt8) : Option (Int) :=
  Option.bind (wagonnumber_digits N x0 12) fun y3 =>
  if (!y3) = true then
    some 11
  else
    Option.bind (getI x0 11) fun y10 =>
    Option.bind (cutI x0 0 11) fun y11 =>
    Option.bind (wagonnumber_check N y11) fun y13 =>
    if ((IntKind.wrap .i64 (IntKind.wrap .u8 ((UInt8.toNat y10 : Int) - 48))) != y13) = true then
      some 9
    else
      some 0

/-! ### humpyard/wagonnumber.Kind -/

def wagonnumber_Kind_0 (N : Nat) (x11 : Int) (x12 : Bool) : Option (Bool) :=
  if x12 = true then
    some x12
  else
    AM.lt (x11 == 56) fun y20 =>
    some y20

def wagonnumber_Kind_1 (N : Nat) (x11 : Int) (x15 : Bool) : Option (Bool) :=
  if x15 = true then
    some x15
  else
    AM.lt (x11 == 52) fun y39 =>
    some y39

def wagonnumber_Kind (N : Nat) (x0 : List UInt8) : Option (Int × Int) :=
  Option.bind (wagonnumber_Valid N x0) fun y3 =>
  if (y3 != 0) = true then
    some (0, y3)
  else
    Option.bind (getI x0 4) fun y12 =>
    AM.lt ((UInt8.toNat y12 : Int) == 55) fun y15 =>
    Option.bind (wagonnumber_Kind_0 N (UInt8.toNat y12 : Int) y15) fun y23 =>
    if y23 = true then
      some (1, 0)
    else
      AM.lt ((UInt8.toNat y12 : Int) == 50) fun y34 =>
      Option.bind (wagonnumber_Kind_1 N (UInt8.toNat y12 : Int) y34) fun y42 =>
      if y42 = true then
        some (2, 0)
      else
        AM.lt ((UInt8.toNat y12 : Int) == 57) fun y53 =>
        if y53 = true then
          some (3, 0)
        else
          some (0, 0)

/-! ### humpyard/consist.axles -/

def consist_axles (N : Nat) (x0 : Int) : Option (Int) :=
  AM.lt (x0 == 2) fun y5 =>
  if y5 = true then
    some 2
  else
    AM.lt (x0 == 3) fun y12 =>
    if y12 = true then
      some 6
    else
      some 4

/-! ### humpyard/consist.name -/

def consist_name_1 (N : Nat) (x4 : Int) : Option (Bool) :=
  if (decide (x4 < 97)) = true then
    if (decide (x4 < 48)) = true then
      some true
    else
      some (decide (57 < x4))
  else
    if (decide (122 < x4)) = true then
      if (decide (x4 < 48)) = true then
        some true
      else
        some (decide (57 < x4))
    else
      some false

def consist_name_0 (N : Nat) (x0 : List UInt8) : Nat → Int → Option (Sum (Unit) (Bool))
  | 0, _ => none
  | n + 1, x3 =>
    if (decide (x3 < (x0.length : Int))) = true then
      Option.bind (getI x0 x3) fun y8 =>
      AM.lt (UInt8.toNat y8 : Int) fun y9 =>
      Option.bind (consist_name_1 N y9) fun y30 =>
      if y30 = true then
        some (Sum.inr false)
      else
        AM.lt (IntKind.wrap .i64 (x3 + 1)) fun y41 =>
        consist_name_0 N x0 n y41
    else
      some (Sum.inl ())

def consist_name_2 (N : Nat) (x0 : List UInt8) : Option (Bool) :=
  if (decide (0 < (x0.length : Int))) = true then
    AM.lt (decide ((x0.length : Int) ≤ 12)) fun y54 =>
    some y54
  else
    some false

def consist_name (N : Nat) (x0 : List UInt8) : Option (Bool) :=
  Option.bind (consist_name_0 N x0 N 0) fun y45 =>
  match y45 with
  | Sum.inl y52 =>
    Option.bind (consist_name_2 N x0) fun y60 =>
    some y60
  | Sum.inr y67 =>
    some y67

/-! ### humpyard/consist.Valid -/

def consist_Valid_0 (N : Nat) (x5 : Int) (x16 : Bool) : Option (Int) :=
  if x16 = true then
    some 120
  else
    some x5

def consist_Valid_1 (N : Nat) (x1 : Wagon) (x5 : Int) : Option (Bool) :=
  if (decide (x1.length < x5)) = true then
    some true
  else
    if (decide (400 < x1.length)) = true then
      some true
    else
      if (decide (x1.mass < 50)) = true then
        some true
      else
        AM.lt (decide (2000 < x1.mass)) fun y56 =>
        some y56

def consist_Valid_2 (N : Nat) (x1 : Wagon) : Option (Bool) :=
  if (decide (x1.brake < 0)) = true then
    some true
  else
    if (decide (x1.mass < x1.brake)) = true then
      some true
    else
      if (decide (x1.goods < 0)) = true then
        some true
      else
        AM.lt (decide (9 < x1.goods)) fun y83 =>
        some y83

def consist_Valid (N : Nat) (x0 : Wagon) : Option (Int) :=
  Option.bind (wagonnumber_Kind N x0.number) fun y9 =>
  if (y9.2 != 0) = true then
    some y9.2
  else
    Option.bind (consist_Valid_0 N 80 (y9.1 == 3)) fun y26 =>
    Option.bind (consist_axles N y9.1) fun y36 =>
    AM.lt (x0.axles != y36) fun y37 =>
    if y37 = true then
      some 1
    else
      Option.bind (consist_Valid_1 N x0 y26) fun y59 =>
      if y59 = true then
        some 2
      else
        Option.bind (consist_Valid_2 N x0) fun y86 =>
        if y86 = true then
          some 2
        else
          Option.bind (consist_name N x0.dest) fun y98 =>
          AM.lt (!y98) fun y99 =>
          if y99 = true then
            some 7
          else
            some 0

/-! ### humpyard/wheel.offsets -/

def wheel_offsets (N : Nat) (x0 : Wagon) : Option (List Int) :=
  AM.lt (IntKind.wrap .i64 (10 * x0.length)) fun y9 =>
  Option.bind (wagonnumber_Kind N x0.number) fun y12 =>
  AM.lt (y12.1 == 1) fun y17 =>
  if y17 = true then
    some ([130, 330, (IntKind.wrap .i64 (y9 - 330)), (IntKind.wrap .i64 (y9 - 130))] : List Int)
  else
    AM.lt (y12.1 == 2) fun y30 =>
    if y30 = true then
      some ([(IntKind.wrap .i64 (Int.tdiv y9 4)), (IntKind.wrap .i64 (y9 - (IntKind.wrap .i64 (Int.tdiv y9 4))))] : List Int)
    else
      AM.lt (y12.1 == 3) fun y43 =>
      if y43 = true then
        some ([120, 280, 440, (IntKind.wrap .i64 (y9 - 440)), (IntKind.wrap .i64 (y9 - 280)), (IntKind.wrap .i64 (y9 - 120))] : List Int)
      else
        some ([150, 330, (IntKind.wrap .i64 (y9 - 330)), (IntKind.wrap .i64 (y9 - 150))] : List Int)

/-! ### humpyard/wheel.Offsets -/

def wheel_Offsets (N : Nat) (x0 : Wagon) : Option (List Int × Int) :=
  Option.bind (consist_Valid N x0) fun y9 =>
  if (y9 != 0) = true then
    some ([], y9)
  else
    Option.bind (wheel_offsets N x0) fun y18 =>
    some (y18, 0)

/-! ### humpyard/humpgen.Ints -/

def gen_Ints_0 (N : Nat) (x0 : List Int) (x1 : List Int) : Nat → Int → Option (Sum (Unit) (Bool))
  | 0, _ => none
  | n + 1, x5 =>
    if (decide (x5 < (x0.length : Int))) = true then
      Option.bind (getI x0 x5) fun y14 =>
      Option.bind (getI x1 x5) fun y20 =>
      if (y14 != y20) = true then
        some (Sum.inr false)
      else
        AM.lt (IntKind.wrap .i64 (x5 + 1)) fun y32 =>
        gen_Ints_0 N x0 x1 n y32
    else
      some (Sum.inl ())

def gen_Ints (N : Nat) (x0 : List Int) (x1 : List Int) : Option (Bool) :=
  if ((x0.length : Int) != (x1.length : Int)) = true then
    some false
  else
    Option.bind (gen_Ints_0 N x0 x1 N 0) fun y36 =>
    match y36 with
    | Sum.inl y43 =>
      some true
    | Sum.inr y46 =>
      some y46

/-! ### humpyard/humpyardlaw07.sane -/

def l07_sane_0 (N : Nat) (x1 : List Int) (x2 : Int) (x3 : List Int) (x4 : Int) (x5 : Int) (x8 : Int) : Option (Bool) :=
  if (x2 == 0) = true then
    Option.bind (gen_Ints N x1 ([250, 750] : List Int)) fun y126 =>
    if y126 = true then
      if (x5 == 0) = true then
        Option.bind (gen_Ints N x3 ([0, 0] : List Int)) fun y141 =>
        if y141 = true then
          if (x4 == 0) = true then
            AM.lt (x8 == 15) fun y144 =>
            some y144
          else
            some false
        else
          some false
      else
        some false
    else
      some false
  else
    some false

def l07_sane (N : Nat) : Option (Bool) :=
  Option.bind (wheel_Offsets N (Wagon.mk ([51, 49, 56, 48, 50, 55, 55, 51, 49, 50, 51, 55]) 100 2 100 0 0 false ([97]))) fun y3 =>
  Option.bind (wheel_Recognize N ([180, 900, 180] : List Int) ([([180] : List Int), ([180, 900, 180] : List Int)] : List (List Int)) 5) fun y58 =>
  Option.bind (wheel_Recognize N ([181] : List Int) ([([180] : List Int)] : List (List Int)) 0) fun y101 =>
  Option.bind (l07_sane_0 N y3.1 y3.2 y58.1 y58.2.1 y58.2.2 y101.2.2) fun y162 =>
  some y162

/-! ### humpyard/humpgen.New -/

def gen_New (N : Nat) (x0 : List Int) : Option (Maker) :=
  some (Maker.mk x0 0)

/-! ### (*humpyard/humpgen.Maker).Next -/

def Maker_Next_0 (N : Nat) (x0 : Maker) (x5 : Int) (x11 : Bool) : Option (Int) :=
  if x11 = true then
    Option.bind (modI x0.n (x0.l.length : Int)) fun y8 =>
    Option.bind (getI x0.l y8) fun y9 =>
    Option.bind (divI x0.n (x0.l.length : Int)) fun y15 =>
    AM.lt (IntKind.wrap .i64 (y9 + (IntKind.wrap .i64 ((IntKind.wrap .i64 (y15)) * 7919)))) fun y16 =>
    some y16
  else
    some x5

def Maker_Next_1 (N : Nat) (x1 : Int) (x5 : Int) (x51 : Bool) : Option (Int) :=
  if x51 = true then
    AM.lt (IntKind.wrap .i64 (x5 + x1)) fun y38 =>
    some y38
  else
    some x5

def Maker_Next (N : Nat) (x0 : Maker) (x1 : Int) : Option (Int × Maker) :=
  Option.bind (Maker_Next_0 N x0 0 (decide (0 < (x0.l.length : Int)))) fun y20 =>
  Option.bind (modI y20 x1) fun y32 =>
  Option.bind (Maker_Next_1 N x1 y32 (decide (y32 < 0))) fun y42 =>
  some (y42, (Maker.mk x0.l (IntKind.wrap .i64 (x0.n + 1))))

/-! ### (*humpyard/humpgen.Maker).Pick -/

def Maker_Pick (N : Nat) (x0 : Maker) (x1 : List Int) : Option (Int × Maker) :=
  Option.bind (Maker_Next N x0 (x1.length : Int)) fun y3 =>
  Option.bind (getI x1 y3.1) fun y13 =>
  some (y13, y3.2)

/-! ### (*humpyard/humpgen.Maker).Digits -/

def Maker_Digits_0 (N : Nat) (x1 : Int) : Nat → Maker → (List UInt8) → Int → Option (Maker × List UInt8)
  | 0, _, _, _ => none
  | n + 1, x0, x5, x6 =>
    if (decide (x6 < x1)) = true then
      Option.bind (Maker_Next N x0 10) fun y18 =>
      Option.bind (getI x5 x6) fun y28 =>
      Option.bind (toU8 (IntKind.wrap .u8 (IntKind.wrap .i64 (48 + y18.1)))) fun y39 =>
      AM.lt (x5.set ((x6 : Int).toNat) y39) fun y40 =>
      AM.lt (IntKind.wrap .i64 (x6 + 1)) fun y43 =>
      Maker_Digits_0 N x1 n y18.2 y40 y43
    else
      some (x0, x5)

def Maker_Digits (N : Nat) (x0 : Maker) (x1 : Int) : Option (List UInt8 × Maker) :=
  Option.bind (mkI 0 x1) fun y3 =>
  Option.bind (Maker_Digits_0 N x1 N x0 y3 0) fun y47 =>
  some (y47.2, y47.1)

/-! ### humpyard/humpyardref02.digits -/

def r02_digits_1 (N : Nat) (x0 : List UInt8) (x5 : Int) : Option (Bool) :=
  Option.bind (getI x0 x5) fun y14 =>
  if (decide ((UInt8.toNat y14 : Int) < 48)) = true then
    some true
  else
    Option.bind (getI x0 x5) fun y19 =>
    some (decide (57 < (UInt8.toNat y19 : Int)))

def r02_digits_0 (N : Nat) (x0 : List UInt8) (x1 : Int) : Nat → Int → Option (Sum (Unit) (Bool))
  | 0, _ => none
  | n + 1, x5 =>
    if (decide (x5 < x1)) = true then
      Option.bind (r02_digits_1 N x0 x5) fun y22 =>
      if y22 = true then
        some (Sum.inr false)
      else
        AM.lt (IntKind.wrap .i64 (x5 + 1)) fun y33 =>
        r02_digits_0 N x0 x1 n y33
    else
      some (Sum.inl ())

def r02_digits (N : Nat) (x0 : List UInt8) (x1 : Int) : Option (Bool) :=
  if ((x0.length : Int) != x1) = true then
    some false
  else
    Option.bind (r02_digits_0 N x0 x1 N 0) fun y37 =>
    match y37 with
    | Sum.inl y44 =>
      some true
    | Sum.inr y47 =>
      some y47

/-! ### humpyard/humpyardref02.sum -/

def r02_sum_1 (N : Nat) (x7 : Int) (x20 : Bool) : Option (Int) :=
  if x20 = true then
    AM.lt (IntKind.wrap .i64 (x7 * 2)) fun y17 =>
    if (decide (9 < y17)) = true then
      AM.lt (IntKind.wrap .i64 (y17 - 9)) fun y23 =>
      some y23
    else
      some y17
  else
    some x7

def r02_sum_0 (N : Nat) (x0 : List UInt8) (x1 : Int) : Nat → Int → Int → Option (Int)
  | 0, _, _ => none
  | n + 1, x5, x6 =>
    if (decide (x6 < x1)) = true then
      Option.bind (getI x0 x6) fun y10 =>
      AM.lt (IntKind.wrap .i64 (IntKind.wrap .u8 ((UInt8.toNat y10 : Int) - 48))) fun y11 =>
      Option.bind (r02_sum_1 N y11 ((Int.tmod x6 2) == 0)) fun y28 =>
      AM.lt (IntKind.wrap .i64 (x5 + y28)) fun y35 =>
      AM.lt (IntKind.wrap .i64 (x6 + 1)) fun y38 =>
      r02_sum_0 N x0 x1 n y35 y38
    else
      some x5

def r02_sum (N : Nat) (x0 : List UInt8) (x1 : Int) : Option (Int) :=
  Option.bind (r02_sum_0 N x0 x1 N 0 0) fun y42 =>
  some y42

/-! ### humpyard/humpyardref02.Digit -/

def r02_Digit (N : Nat) (x0 : List UInt8) : Option (Int × Int) :=
  Option.bind (r02_digits N x0 11) fun y3 =>
  if (!y3) = true then
    some (0, 11)
  else
    Option.bind (r02_sum N x0 11) fun y10 =>
    AM.lt (Int.tmod (IntKind.wrap .i64 (10 - (Int.tmod y10 10))) 10) fun y11 =>
    some (y11, 0)

/-! ### (*humpyard/humpgen.Maker).Number -/

def Maker_Number (N : Nat) (x0 : Maker) (x1 : Int) : Option (List UInt8 × Maker) :=
  Option.bind (Maker_Digits N x0 11) fun y3 =>
  Option.bind (appI y3.1 []) fun y13 =>
  Option.bind (getI y13 8) fun y23 =>
  Option.bind (toU8 (IntKind.wrap .u8 (IntKind.wrap .i64 (48 + (Int.tmod (IntKind.wrap .i64 (Int.tdiv x1 100)) 10))))) fun y34 =>
  AM.lt (y13.set ((8 : Int).toNat) y34) fun y35 =>
  Option.bind (getI y35 9) fun y36 =>
  Option.bind (toU8 (IntKind.wrap .u8 (IntKind.wrap .i64 (48 + (Int.tmod (IntKind.wrap .i64 (Int.tdiv x1 10)) 10))))) fun y47 =>
  AM.lt (y35.set ((9 : Int).toNat) y47) fun y48 =>
  Option.bind (getI y48 10) fun y49 =>
  Option.bind (toU8 (IntKind.wrap .u8 (IntKind.wrap .i64 (48 + (Int.tmod x1 10))))) fun y60 =>
  AM.lt (y48.set ((10 : Int).toNat) y60) fun y61 =>
  Option.bind (r02_Digit N y61) fun y64 =>
  Option.bind (toU8 (IntKind.wrap .u8 (IntKind.wrap .i64 (48 + y64.1)))) fun y67 =>
  Option.bind (appI y61 ([y67] : List UInt8)) fun y75 =>
  some (y75, y3.2)

/-! ### (*humpyard/humpgen.Maker).Name -/

def Maker_Name (N : Nat) (x0 : Maker) : Option (List UInt8 × Maker) :=
  Option.bind (Maker_Next N x0 10) fun y10 =>
  Option.bind (getI ([[97], [98], [99], [100], [101], [110, 111, 114, 116, 104], [115, 111, 117, 116, 104], [112, 111, 114, 116, 49], [120, 57], [97, 98, 99, 100, 101, 102, 103, 104, 105, 106, 107, 108]] : List (List UInt8)) y10.1) fun y20 =>
  some (y20, y10.2)

/-! ### (*humpyard/humpgen.Maker).Wagon -/

def Maker_Wagon_1 (N : Nat) (x26 : Int) (x27 : Bool) : Option (Bool) :=
  if x27 = true then
    some x27
  else
    AM.lt (x26 == 52) fun y126 =>
    some y126

def Maker_Wagon_0 (N : Nat) (x5 : Wagon) (x26 : Int) : Option (Wagon) :=
  AM.lt (x26 == 50) fun y121 =>
  Option.bind (Maker_Wagon_1 N x26 y121) fun y129 =>
  if y129 = true then
    some (Wagon.mk x5.number x5.length 2 x5.mass x5.brake x5.goods x5.gentle x5.dest)
  else
    AM.lt (x26 == 57) fun y148 =>
    if y148 = true then
      some (Wagon.mk x5.number (max x5.length 120) 6 x5.mass x5.brake x5.goods x5.gentle x5.dest)
    else
      some x5

def Maker_Wagon (N : Nat) (x0 : Maker) (x1 : Int) : Option (Wagon × Maker) :=
  Option.bind (Maker_Number N x0 x1) fun y10 =>
  Option.bind (Maker_Pick N y10.2 ([80, 120, 142, 199, 262, 400] : List Int)) fun y32 =>
  Option.bind (Maker_Pick N y32.2 ([50, 120, 400, 800, 2000] : List Int)) fun y54 =>
  Option.bind (Maker_Pick N y54.2 ([0, 0, 0, 1, 3, 9] : List Int)) fun y76 =>
  Option.bind (Maker_Next N y76.2 5) fun y86 =>
  Option.bind (Maker_Name N y86.2) fun y96 =>
  Option.bind (getI y10.1 4) fun y118 =>
  Option.bind (Maker_Wagon_0 N (Wagon.mk y10.1 y32.1 4 y54.1 0 y76.1 (y86.1 == 0) y96.1) (UInt8.toNat y118 : Int)) fun y161 =>
  Option.bind (Maker_Next N y96.2 5) fun y179 =>
  some ((Wagon.mk y161.number y161.length y161.axles y161.mass (IntKind.wrap .i64 (Int.tdiv (IntKind.wrap .i64 (y161.mass * y179.1)) 4)) y161.goods y161.gentle y161.dest), y179.2)

/-! ### (*humpyard/humpgen.Maker).Wagons -/

def Maker_Wagons_0 (N : Nat) : Nat → Maker → (List Wagon) → Int → Option (Maker × List Wagon)
  | 0, _, _, _ => none
  | n + 1, x0, x5, x6 =>
    if (decide (0 < x6)) = true then
      Option.bind (Maker_Wagon N x0 (x5.length : Int)) fun y20 =>
      Option.bind (appI x5 ([y20.1] : List Wagon)) fun y38 =>
      AM.lt (IntKind.wrap .i64 (x6 - 1)) fun y49 =>
      Maker_Wagons_0 N n y20.2 y38 y49
    else
      some (x0, x5)

def Maker_Wagons (N : Nat) (x0 : Maker) (x1 : Int) : Option (List Wagon × Maker) :=
  Option.bind (Maker_Next N x0 (IntKind.wrap .i64 (x1 + 1))) fun y5 =>
  Option.bind (Maker_Wagons_0 N N y5.2 [] y5.1) fun y53 =>
  some (y53.2, y53.1)

/-! ### humpyard/humpyardref02.Valid -/

def r02_Valid (N : Nat) (x0 : List UInt8) : Option (Int) :=
  Option.bind (r02_digits N x0 12) fun y3 =>
  if (!y3) = true then
    some 11
  else
    Option.bind (r02_sum N x0 11) fun y11 =>
    Option.bind (getI x0 11) fun y12 =>
    if ((Int.tmod (IntKind.wrap .i64 (y11 + (IntKind.wrap .i64 (IntKind.wrap .u8 ((UInt8.toNat y12 : Int) - 48))))) 10) != 0) = true then
      some 9
    else
      some 0

/-! ### humpyard/humpyardref02.Kind -/

def r02_Kind_0 (N : Nat) (x11 : Int) (x12 : Bool) : Option (Bool) :=
  if x12 = true then
    some x12
  else
    AM.lt (x11 == 56) fun y20 =>
    some y20

def r02_Kind_1 (N : Nat) (x11 : Int) (x15 : Bool) : Option (Bool) :=
  if x15 = true then
    some x15
  else
    AM.lt (x11 == 52) fun y39 =>
    some y39

def r02_Kind (N : Nat) (x0 : List UInt8) : Option (Int × Int) :=
  Option.bind (r02_Valid N x0) fun y3 =>
  if (y3 != 0) = true then
    some (0, y3)
  else
    Option.bind (getI x0 4) fun y12 =>
    AM.lt ((UInt8.toNat y12 : Int) == 55) fun y15 =>
    Option.bind (r02_Kind_0 N (UInt8.toNat y12 : Int) y15) fun y23 =>
    if y23 = true then
      some (1, 0)
    else
      AM.lt ((UInt8.toNat y12 : Int) == 50) fun y34 =>
      Option.bind (r02_Kind_1 N (UInt8.toNat y12 : Int) y34) fun y42 =>
      if y42 = true then
        some (2, 0)
      else
        AM.lt ((UInt8.toNat y12 : Int) == 57) fun y53 =>
        if y53 = true then
          some (3, 0)
        else
          some (0, 0)

/-! ### humpyard/humpyardref06.Name -/

def r06_Name_1 (N : Nat) (x0 : List UInt8) (x3 : Int) : Option (Bool) :=
  Option.bind (getI x0 x3) fun y8 =>
  if (decide (97 ≤ (UInt8.toNat y8 : Int))) = true then
    Option.bind (getI x0 x3) fun y10 =>
    if (decide ((UInt8.toNat y10 : Int) ≤ 122)) = true then
      some (!true)
    else
      Option.bind (getI x0 x3) fun y15 =>
      if (decide (48 ≤ (UInt8.toNat y15 : Int))) = true then
        Option.bind (getI x0 x3) fun y17 =>
        some (!(decide ((UInt8.toNat y17 : Int) ≤ 57)))
      else
        some (!false)
  else
    Option.bind (getI x0 x3) fun y24 =>
    if (decide (48 ≤ (UInt8.toNat y24 : Int))) = true then
      Option.bind (getI x0 x3) fun y26 =>
      some (!(decide ((UInt8.toNat y26 : Int) ≤ 57)))
    else
      some (!false)

def r06_Name_0 (N : Nat) (x0 : List UInt8) : Nat → Int → Option (Sum (Unit) (Bool))
  | 0, _ => none
  | n + 1, x3 =>
    if (decide (x3 < (x0.length : Int))) = true then
      Option.bind (r06_Name_1 N x0 x3) fun y32 =>
      if y32 = true then
        some (Sum.inr false)
      else
        AM.lt (IntKind.wrap .i64 (x3 + 1)) fun y43 =>
        r06_Name_0 N x0 n y43
    else
      some (Sum.inl ())

def r06_Name_2 (N : Nat) (x0 : List UInt8) : Option (Bool) :=
  if (decide (1 ≤ (x0.length : Int))) = true then
    AM.lt (decide ((x0.length : Int) ≤ 12)) fun y56 =>
    some y56
  else
    some false

def r06_Name (N : Nat) (x0 : List UInt8) : Option (Bool) :=
  Option.bind (r06_Name_0 N x0 N 0) fun y47 =>
  match y47 with
  | Sum.inl y54 =>
    Option.bind (r06_Name_2 N x0) fun y62 =>
    some y62
  | Sum.inr y69 =>
    some y69

/-! ### humpyard/humpyardref06.Valid -/

def r06_Valid_0 (N : Nat) (x5 : Int) (x6 : Int) (x16 : Int) : Option (Int × Int) :=
  AM.lt (x16 == 2) fun y22 =>
  if y22 = true then
    some (2, x6)
  else
    AM.lt (x16 == 3) fun y29 =>
    if y29 = true then
      some (6, 120)
    else
      some (x5, x6)

def r06_Valid_1 (N : Nat) (x1 : Wagon) (x6 : Int) : Option (Bool) :=
  if (decide (x1.length < x6)) = true then
    some true
  else
    if (decide (400 < x1.length)) = true then
      some true
    else
      if (decide (x1.mass < 50)) = true then
        some true
      else
        if (decide (2000 < x1.mass)) = true then
          some true
        else
          if (decide (x1.brake < 0)) = true then
            some true
          else
            if (decide (x1.mass < x1.brake)) = true then
              some true
            else
              if (decide (x1.goods < 0)) = true then
                some true
              else
                AM.lt (decide (9 < x1.goods)) fun y79 =>
                some y79

def r06_Valid (N : Nat) (x0 : Wagon) : Option (Int) :=
  Option.bind (r02_Kind N x0.number) fun y9 =>
  if (y9.2 != 0) = true then
    some y9.2
  else
    Option.bind (r06_Valid_0 N 4 80 y9.1) fun y36 =>
    AM.lt (x0.axles != y36.1) fun y44 =>
    if y44 = true then
      some 1
    else
      Option.bind (r06_Valid_1 N x0 y36.2) fun y82 =>
      if y82 = true then
        some 2
      else
        Option.bind (r06_Name N x0.dest) fun y94 =>
        AM.lt (!y94) fun y95 =>
        if y95 = true then
          some 7
        else
          some 0

/-! ### humpyard/humpyardref07.Offsets -/

def r07_Offsets (N : Nat) (x0 : Wagon) : Option (List Int × Int) :=
  Option.bind (r06_Valid N x0) fun y9 =>
  if (y9 != 0) = true then
    some ([], y9)
  else
    AM.lt (IntKind.wrap .i64 (10 * x0.length)) fun y18 =>
    Option.bind (r02_Kind N x0.number) fun y21 =>
    AM.lt (y21.1 == 1) fun y26 =>
    if y26 = true then
      some (([130, 330, (IntKind.wrap .i64 (y18 - 330)), (IntKind.wrap .i64 (y18 - 130))] : List Int), 0)
    else
      AM.lt (y21.1 == 2) fun y43 =>
      if y43 = true then
        some (([(IntKind.wrap .i64 (Int.tdiv y18 4)), (IntKind.wrap .i64 (y18 - (IntKind.wrap .i64 (Int.tdiv y18 4))))] : List Int), 0)
      else
        AM.lt (y21.1 == 3) fun y60 =>
        if y60 = true then
          some (([120, 280, 440, (IntKind.wrap .i64 (y18 - 440)), (IntKind.wrap .i64 (y18 - 280)), (IntKind.wrap .i64 (y18 - 120))] : List Int), 0)
        else
          some (([150, 330, (IntKind.wrap .i64 (y18 - 330)), (IntKind.wrap .i64 (y18 - 150))] : List Int), 0)

/-! ### humpyard/humpyardref07.Distances -/

def r07_Distances_2 (N : Nat) (x4 : List Int) (x5 : Int) (x6 : Int) (x8 : List Int) (x10 : Int) (x40 : Bool) : Option (List Int) :=
  if x40 = true then
    Option.bind (getI x8 x10) fun y49 =>
    Option.bind (appI x4 ([(IntKind.wrap .i64 ((IntKind.wrap .i64 (x5 + y49)) - x6))] : List Int)) fun y62 =>
    some y62
  else
    some x4

def r07_Distances_1 (N : Nat) (x5 : Int) (x7 : Int) (x8 : List Int) : Nat → (List Int) → Int → Int → Option (List Int × Int)
  | 0, _, _, _ => none
  | n + 1, x4, x6, x10 =>
    if (decide (x10 < (x8.length : Int))) = true then
      Option.bind (r07_Distances_2 N x4 x5 x6 x8 x10 (decide (0 < (IntKind.wrap .i64 (x7 + x10))))) fun y73 =>
      Option.bind (getI x8 x10) fun y83 =>
      AM.lt (IntKind.wrap .i64 (x5 + y83)) fun y89 =>
      AM.lt (IntKind.wrap .i64 (x10 + 1)) fun y92 =>
      r07_Distances_1 N x5 x7 x8 n y73 y89 y92
    else
      some (x4, x6)

def r07_Distances_0 (N : Nat) (x0 : List Wagon) : Nat → (List Int) → Int → Int → Int → Option (Sum (List Int) (Int))
  | 0, _, _, _, _ => none
  | n + 1, x4, x5, x6, x7 =>
    if (decide (x7 < (x0.length : Int))) = true then
      Option.bind (getI x0 x7) fun y18 =>
      Option.bind (r07_Offsets N y18) fun y24 =>
      if (y24.2 != 0) = true then
        some (Sum.inr y24.2)
      else
        Option.bind (r07_Distances_1 N x5 x7 y24.1 N x4 x6 0) fun y96 =>
        Option.bind (getI x0 x7) fun y106 =>
        AM.lt (IntKind.wrap .i64 (x5 + (IntKind.wrap .i64 (10 * y106.length)))) fun y112 =>
        AM.lt (IntKind.wrap .i64 (x7 + 1)) fun y115 =>
        r07_Distances_0 N x0 n y96.1 y112 y96.2 y115
    else
      some (Sum.inl x4)

def r07_Distances (N : Nat) (x0 : List Wagon) : Option (List Int × Int) :=
  if (decide (96 < (x0.length : Int))) = true then
    some ([], 3)
  else
    Option.bind (r07_Distances_0 N x0 N [] 0 0 0) fun y119 =>
    match y119 with
    | Sum.inl y126 =>
      some (y126, 0)
    | Sum.inr y136 =>
      some ([], y136)

/-! ### humpyard/humpyardlaw07.patterns -/

def l07_patterns_1 (N : Nat) (x5 : List Int) : Nat → (List Int) → Int → Option (List Int)
  | 0, _, _ => none
  | n + 1, x7, x8 =>
    if (decide (x8 < (x5.length : Int))) = true then
      Option.bind (getI x5 x8) fun y34 =>
      Option.bind (getI x5 (IntKind.wrap .i64 (x8 - 1))) fun y40 =>
      Option.bind (appI x7 ([(IntKind.wrap .i64 (y34 - y40))] : List Int)) fun y58 =>
      AM.lt (IntKind.wrap .i64 (x8 + 1)) fun y69 =>
      l07_patterns_1 N x5 n y58 y69
    else
      some x7

def l07_patterns_0 (N : Nat) (x0 : List Wagon) : Nat → (List (List Int)) → Int → Option (List (List Int))
  | 0, _, _ => none
  | n + 1, x3, x4 =>
    if (decide (x4 < (x0.length : Int))) = true then
      Option.bind (getI x0 x4) fun y10 =>
      Option.bind (r07_Offsets N y10) fun y16 =>
      Option.bind (l07_patterns_1 N y16.1 N [] 1) fun y73 =>
      Option.bind (appI x3 ([y73] : List (List Int))) fun y96 =>
      AM.lt (IntKind.wrap .i64 (x4 + 1)) fun y106 =>
      l07_patterns_0 N x0 n y96 y106
    else
      some x3

def l07_patterns (N : Nat) (x0 : List Wagon) : Option (List (List Int)) :=
  Option.bind (l07_patterns_0 N x0 N [] 0) fun y110 =>
  some y110

/-! ### (*humpyard/humpgen.Maker).From -/

def Maker_From (N : Nat) (x0 : Maker) (x1 : Int) (x2 : Int) : Option (Int × Maker) :=
  Option.bind (Maker_Next N x0 (IntKind.wrap .i64 ((IntKind.wrap .i64 (x2 - x1)) + 1))) fun y3 =>
  AM.lt (IntKind.wrap .i64 (x1 + y3.1)) fun y13 =>
  some (y13, y3.2)

/-! ### humpyard/humpyardlaw07.WheelKnown -/

def l07_WheelKnown_0 (N : Nat) (x9 : Int) (x10 : Int) : Option (Bool) :=
  if (x10 != 0) = true then
    some true
  else
    some (x9 != 0)

def l07_WheelKnown_2 (N : Nat) (x7 : List (List Int)) (x13 : Int) : Option (Bool) :=
  if (decide (x13 < 0)) = true then
    some true
  else
    some (decide ((x7.length : Int) ≤ x13))

def l07_WheelKnown_1 (N : Nat) (x7 : List (List Int)) (x50 : List Int) (x51 : Int) : Nat → Int → Int → Option (Sum (Int) (Bool))
  | 0, _, _ => none
  | n + 1, x11, x52 =>
    if (decide (x52 < x51)) = true then
      Option.bind (getI x50 x52) fun y103 =>
      Option.bind (l07_WheelKnown_2 N x7 y103) fun y117 =>
      if y117 = true then
        some (Sum.inr false)
      else
        Option.bind (getI x7 y103) fun y129 =>
        AM.lt (IntKind.wrap .i64 (x11 + (IntKind.wrap .i64 ((y129.length : Int) + 1)))) fun y138 =>
        l07_WheelKnown_1 N x7 x50 x51 n y138 (IntKind.wrap .i64 (x52 + 1))
    else
      some (Sum.inl x11)

def l07_WheelKnown_3 (N : Nat) : Nat → Maker → (List Int) → Int → Option (List Int)
  | 0, _, _, _ => none
  | n + 1, x3, x14, x15 =>
    if (decide (x15 < (x14.length : Int))) = true then
      Option.bind (getI x14 x15) fun y175 =>
      Option.bind (Maker_From N x3 (-8) 8) fun y187 =>
      Option.bind (getI x14 x15) fun y201 =>
      AM.lt (x14.set ((x15 : Int).toNat) (max 1 (IntKind.wrap .i64 (y175 + y187.1)))) fun y215 =>
      AM.lt (IntKind.wrap .i64 (x15 + 1)) fun y218 =>
      l07_WheelKnown_3 N n y187.2 y215 y218
    else
      some x14

def l07_WheelKnown_4 (N : Nat) (x5 : List Int) (x11 : Int) (x14 : List Int) (x17 : Int) (x18 : Int) (x20 : Int) (x21 : Int) : Option (Bool) :=
  if (x11 == (IntKind.wrap .i64 ((x5.length : Int) + 1))) = true then
    if (x18 == 0) = true then
      if (x21 == 0) = true then
        if (decide (x20 ≤ x17)) = true then
          if (decide (x17 ≤ (IntKind.wrap .i64 (8 * (x14.length : Int))))) = true then
            Option.bind (l07_sane N ) fun y262 =>
            some y262
          else
            some false
        else
          some false
      else
        some false
    else
      some false
  else
    some false

def l07_WheelKnown (N : Nat) (x0 : List Int) : Option (Bool) :=
  Option.bind (gen_New N x0) fun y3 =>
  Option.bind (Maker_Wagons N y3 8) fun y18 =>
  if ((y18.1.length : Int) == 0) = true then
    Option.bind (l07_sane N ) fun y37 =>
    some y37
  else
    Option.bind (r07_Distances N y18.1) fun y45 =>
    Option.bind (l07_patterns N y18.1) fun y56 =>
    Option.bind (wheel_Recognize N y45.1 y56 0) fun y67 =>
    Option.bind (l07_WheelKnown_0 N y67.2.1 y67.2.2) fun y84 =>
    if y84 = true then
      some false
    else
      Option.bind (l07_WheelKnown_1 N y56 y67.1 (y67.1.length : Int) N 0 0) fun y144 =>
      match y144 with
      | Sum.inl y151 =>
        Option.bind (appI ([] : List Int) y45.1) fun y160 =>
        Option.bind (l07_WheelKnown_3 N N y18.2 y160 0) fun y222 =>
        Option.bind (wheel_Recognize N y222 y56 10) fun y235 =>
        Option.bind (wheel_Recognize N y222 y56 30) fun y246 =>
        Option.bind (l07_WheelKnown_4 N y45.1 y151 y222 y235.2.1 y235.2.2 y246.2.1 y246.2.2) fun y280 =>
        some y280
      | Sum.inr y287 =>
        some y287

/-! ### humpyard/humpyardref07.fit -/

def r07_fit_1 (N : Nat) (x9 : Int) (x31 : Bool) : Option (Int) :=
  if x31 = true then
    AM.lt (IntKind.wrap .i64 (0 - x9)) fun y34 =>
    some y34
  else
    some x9

def r07_fit_0 (N : Nat) (x0 : List Int) (x1 : List Int) (x2 : Int) : Nat → Int → Int → Option (Sum (Int) (Int))
  | 0, _, _ => none
  | n + 1, x7, x8 =>
    if (decide (x8 < (x1.length : Int))) = true then
      Option.bind (getI x0 x8) fun y16 =>
      Option.bind (getI x1 x8) fun y22 =>
      AM.lt (IntKind.wrap .i64 (y16 - y22)) fun y28 =>
      Option.bind (r07_fit_1 N y28 (decide (y28 < 0))) fun y38 =>
      if (decide (x2 < y38)) = true then
        some (Sum.inr (-1))
      else
        AM.lt (IntKind.wrap .i64 (x7 + y38)) fun y51 =>
        AM.lt (IntKind.wrap .i64 (x8 + 1)) fun y54 =>
        r07_fit_0 N x0 x1 x2 n y51 y54
    else
      some (Sum.inl x7)

def r07_fit (N : Nat) (x0 : List Int) (x1 : List Int) (x2 : Int) : Option (Int) :=
  if (decide ((x0.length : Int) < (x1.length : Int))) = true then
    some (-1)
  else
    Option.bind (r07_fit_0 N x0 x1 x2 N 0 0) fun y58 =>
    match y58 with
    | Sum.inl y65 =>
      some y65
    | Sum.inr y68 =>
      some y68

/-! ### humpyard/humpyardref07.Recognize -/

def r07_Recognize_0 (N : Nat) (x0 : List Int) (x1 : List (List Int)) : Option (Bool) :=
  if (decide (768 < (x0.length : Int))) = true then
    some true
  else
    some (decide (16 < (x1.length : Int)))

def r07_Recognize_1 (N : Nat) (x1 : List (List Int)) : Nat → Int → Option (Sum (Unit) (Int × Int))
  | 0, _ => none
  | n + 1, x9 =>
    if (decide (x9 < (x1.length : Int))) = true then
      Option.bind (getI x1 x9) fun y25 =>
      if (decide (5 < (y25.length : Int))) = true then
        some (Sum.inr (0, 3))
      else
        AM.lt (IntKind.wrap .i64 (x9 + 1)) fun y40 =>
        r07_Recognize_1 N x1 n y40
    else
      some (Sum.inl ())

def r07_Recognize_2 (N : Nat) (x2 : Int) : Option (Bool) :=
  if (decide (x2 < 0)) = true then
    some true
  else
    some (decide (10000 < x2))

def r07_Recognize_4 (N : Nat) (x1 : List (List Int)) (x10 : Int) (x11 : List Int) (x56 : Bool) : Option (List Int) :=
  if x56 = true then
    Option.bind (getI x1 x10) fun y79 =>
    some y79
  else
    some x11

def r07_Recognize_6 (N : Nat) (x11 : List Int) (x12 : Int) : Option (Bool) :=
  Option.bind (getI x11 x12) fun y106 =>
  if (decide (y106 < 1)) = true then
    some true
  else
    Option.bind (getI x11 x12) fun y116 =>
    some (decide (10000 < y116))

def r07_Recognize_5 (N : Nat) (x11 : List Int) : Nat → Int → Option (Sum (Unit) (Int × Int))
  | 0, _ => none
  | n + 1, x12 =>
    if (decide (x12 < (x11.length : Int))) = true then
      Option.bind (r07_Recognize_6 N x11 x12) fun y124 =>
      if y124 = true then
        some (Sum.inr (0, 2))
      else
        AM.lt (IntKind.wrap .i64 (x12 + 1)) fun y135 =>
        r07_Recognize_5 N x11 n y135
    else
      some (Sum.inl ())

def r07_Recognize_3 (N : Nat) (x0 : List Int) (x1 : List (List Int)) : Nat → Int → Option (Sum (Unit) (Int × Int))
  | 0, _ => none
  | n + 1, x10 =>
    if (decide (x10 < (x1.length : Int))) = true then
      Option.bind (r07_Recognize_4 N x1 x10 x0 (decide (0 ≤ x10))) fun y91 =>
      Option.bind (r07_Recognize_5 N y91 N 0) fun y139 =>
      match y139 with
      | Sum.inl y146 =>
        AM.lt (IntKind.wrap .i64 (x10 + 1)) fun y147 =>
        r07_Recognize_3 N x0 x1 n y147
      | Sum.inr y150 =>
        some (Sum.inr (y150.1, y150.2))
    else
      some (Sum.inl ())

def r07_Recognize_10 (N : Nat) (x14 : List Int) (x18 : Int) (x19 : Int) : Option (Bool) :=
  if (decide (x18 < 0)) = true then
    some true
  else
    Option.bind (getI x14 x19) fun y241 =>
    some (decide (y241 < 0))

def r07_Recognize_11 (N : Nat) (x14 : List Int) (x16 : Int) (x18 : Int) (x19 : Int) : Option (Bool) :=
  Option.bind (getI x14 x16) fun y264 =>
  if (decide (y264 < 0)) = true then
    some true
  else
    Option.bind (getI x14 x19) fun y277 =>
    Option.bind (getI x14 x16) fun y286 =>
    some (decide ((IntKind.wrap .i64 (x18 + y277)) < y286))

def r07_Recognize_9 (N : Nat) (x0 : List Int) (x1 : List (List Int)) (x2 : Int) (x14 : List Int) (x15 : List Int) (x16 : Int) (x17 : Int) : Option (List Int × List Int) :=
  Option.bind (cutI x0 x16 (x0.length : Int)) fun y205 =>
  Option.bind (getI x1 x17) fun y210 =>
  Option.bind (r07_fit N y205 y210 x2) fun y222 =>
  Option.bind (getI x1 x17) fun y225 =>
  AM.lt (IntKind.wrap .i64 ((IntKind.wrap .i64 (x16 + (y225.length : Int))) + 1)) fun y234 =>
  Option.bind (r07_Recognize_10 N x14 y222 y234) fun y252 =>
  if y252 = true then
    some (x14, x15)
  else
    Option.bind (r07_Recognize_11 N x14 x16 y222 y234) fun y297 =>
    if y297 = true then
      Option.bind (getI x14 y234) fun y308 =>
      Option.bind (getI x14 x16) fun y317 =>
      AM.lt (x14.set ((x16 : Int).toNat) (IntKind.wrap .i64 (y222 + y308))) fun y328 =>
      Option.bind (getI x15 x16) fun y329 =>
      AM.lt (x15.set ((x16 : Int).toNat) x17) fun y340 =>
      some (y328, y340)
    else
      some (x14, x15)

def r07_Recognize_8 (N : Nat) (x0 : List Int) (x1 : List (List Int)) (x2 : Int) (x16 : Int) : Nat → (List Int) → (List Int) → Int → Option (List Int × List Int)
  | 0, _, _, _ => none
  | n + 1, x14, x15, x17 =>
    if (decide (x17 < (x1.length : Int))) = true then
      Option.bind (r07_Recognize_9 N x0 x1 x2 x14 x15 x16 x17) fun y344 =>
      AM.lt (IntKind.wrap .i64 (x17 + 1)) fun y356 =>
      r07_Recognize_8 N x0 x1 x2 x16 n y344.1 y344.2 y356
    else
      some (x14, x15)

def r07_Recognize_7 (N : Nat) (x0 : List Int) (x1 : List (List Int)) (x2 : Int) : Nat → (List Int) → (List Int) → Int → Option (List Int × List Int)
  | 0, _, _, _ => none
  | n + 1, x14, x15, x16 =>
    if (decide (0 ≤ x16)) = true then
      Option.bind (getI x14 x16) fun y186 =>
      AM.lt (x14.set ((x16 : Int).toNat) (-1)) fun y197 =>
      Option.bind (r07_Recognize_8 N x0 x1 x2 x16 N y197 x15 0) fun y360 =>
      AM.lt (IntKind.wrap .i64 (x16 - 1)) fun y372 =>
      r07_Recognize_7 N x0 x1 x2 n y360.1 y360.2 y372
    else
      some (x14, x15)

def r07_Recognize_12 (N : Nat) (x1 : List (List Int)) (x13 : Int) (x15 : List Int) : Nat → (List Int) → Int → Option (List Int)
  | 0, _, _ => none
  | n + 1, x20, x21 =>
    if (decide (x21 < x13)) = true then
      Option.bind (getI x15 x21) fun y410 =>
      Option.bind (appI x20 ([y410] : List Int)) fun y428 =>
      Option.bind (getI x15 x21) fun y440 =>
      Option.bind (getI x1 y440) fun y449 =>
      AM.lt (IntKind.wrap .i64 (x21 + (IntKind.wrap .i64 ((y449.length : Int) + 1)))) fun y458 =>
      r07_Recognize_12 N x1 x13 x15 n y428 y458
    else
      some x20

def r07_Recognize (N : Nat) (x0 : List Int) (x1 : List (List Int)) (x2 : Int) : Option (List Int × Int × Int) :=
  Option.bind (r07_Recognize_0 N x0 x1) fun y9 =>
  if y9 = true then
    some ([], 0, 3)
  else
    Option.bind (r07_Recognize_1 N x1 N 0) fun y44 =>
    match y44 with
    | Sum.inl y51 =>
      Option.bind (r07_Recognize_2 N x2) fun y58 =>
      if y58 = true then
        some ([], 0, 2)
      else
        Option.bind (r07_Recognize_3 N x0 x1 N (-1)) fun y152 =>
        match y152 with
        | Sum.inl y159 =>
          AM.lt (IntKind.wrap .i64 ((x0.length : Int) + 1)) fun y160 =>
          Option.bind (mkI 0 (IntKind.wrap .i64 (y160 + 1))) fun y163 =>
          Option.bind (mkI 0 (IntKind.wrap .i64 (y160 + 1))) fun y170 =>
          AM.lt (IntKind.wrap .i64 (y160 - 1)) fun y180 =>
          Option.bind (r07_Recognize_7 N x0 x1 x2 N y163 y170 y180) fun y376 =>
          Option.bind (getI y376.1 0) fun y388 =>
          if (decide (y388 < 0)) = true then
            some ([], 0, 15)
          else
            Option.bind (r07_Recognize_12 N x1 y160 y376.2 N [] 0) fun y462 =>
            Option.bind (getI y376.1 0) fun y474 =>
            some (y462, y474, 0)
        | Sum.inr y489 =>
          some ([], y489.1, y489.2)
    | Sum.inr y490 =>
      some ([], y490.1, y490.2)

/-! ### humpyard/humpyardlaw07.recognizes -/

def l07_recognizes_0 (N : Nat) (x7 : List Int) (x8 : Int) (x9 : Int) (x10 : List Int) (x11 : Int) (x12 : Int) : Option (Bool) :=
  Option.bind (gen_Ints N x7 x10) fun y25 =>
  if y25 = true then
    if (x8 == x11) = true then
      AM.lt (x9 == x12) fun y28 =>
      some y28
    else
      some false
  else
    some false

def l07_recognizes (N : Nat) (x0 : List Int) (x1 : List (List Int)) (x2 : Int) : Option (Bool) :=
  Option.bind (wheel_Recognize N x0 x1 x2) fun y3 =>
  Option.bind (r07_Recognize N x0 x1 x2) fun y14 =>
  Option.bind (l07_recognizes_0 N y3.1 y3.2.1 y3.2.2 y14.1 y14.2.1 y14.2.2) fun y37 =>
  some y37

/-! ### humpyard/humpyardlaw07.WheelRecognizes -/

def l07_WheelRecognizes_1 (N : Nat) : Nat → Maker → (List Int) → Int → Option (Maker × List Int)
  | 0, _, _, _ => none
  | n + 1, x9, x11, x12 =>
    if (decide (0 < x12)) = true then
      Option.bind (Maker_Pick N x9 ([1, 2, 3, 3, 4, 5, 10000, 0] : List Int)) fun y52 =>
      Option.bind (Maker_Pick N y52.2 ([1, 1, 1, 2] : List Int)) fun y74 =>
      Option.bind (appI x11 ([(IntKind.wrap .i64 (y52.1 * y74.1))] : List Int)) fun y92 =>
      AM.lt (IntKind.wrap .i64 (x12 - 1)) fun y103 =>
      l07_WheelRecognizes_1 N n y74.2 y92 y103
    else
      some (x9, x11)

def l07_WheelRecognizes_3 (N : Nat) : Nat → Maker → (List Int) → Int → Option (Maker × List Int)
  | 0, _, _, _ => none
  | n + 1, x9, x15, x16 =>
    if (decide (0 < x16)) = true then
      Option.bind (Maker_Pick N x9 ([1, 2, 3, 4, 5] : List Int)) fun y171 =>
      Option.bind (appI x15 ([y171.1] : List Int)) fun y191 =>
      AM.lt (IntKind.wrap .i64 (x16 - 1)) fun y204 =>
      l07_WheelRecognizes_3 N n y171.2 y191 y204
    else
      some (x9, x15)

def l07_WheelRecognizes_2 (N : Nat) : Nat → Maker → (List (List Int)) → Int → Option (Maker × List (List Int))
  | 0, _, _, _ => none
  | n + 1, x9, x13, x14 =>
    if (decide (0 < x14)) = true then
      Option.bind (Maker_Next N x9 4) fun y142 =>
      Option.bind (l07_WheelRecognizes_3 N N y142.2 [] y142.1) fun y208 =>
      Option.bind (appI x13 ([y208.2] : List (List Int))) fun y244 =>
      AM.lt (IntKind.wrap .i64 (x14 - 1)) fun y256 =>
      l07_WheelRecognizes_2 N n y208.1 y244 y256
    else
      some (x9, x13)

def l07_WheelRecognizes_0 (N : Nat) : Nat → Maker → Int → Option (Sum (Unit) (Bool))
  | 0, _, _ => none
  | n + 1, x9, x10 =>
    if (decide (x10 < 5)) = true then
      Option.bind (Maker_Next N x9 9) fun y25 =>
      Option.bind (l07_WheelRecognizes_1 N N y25.2 [] y25.1) fun y107 =>
      Option.bind (Maker_Next N y107.1 5) fun y125 =>
      Option.bind (l07_WheelRecognizes_2 N N y125.2 [] y125.1) fun y260 =>
      Option.bind (Maker_Pick N y260.1 ([0, 1, 2, 4, 10000, 10001, (-1)] : List Int)) fun y292 =>
      Option.bind (l07_recognizes N y107.2 y260.2 y292.1) fun y316 =>
      if (!y316) = true then
        some (Sum.inr false)
      else
        AM.lt (IntKind.wrap .i64 (x10 + 1)) fun y323 =>
        l07_WheelRecognizes_0 N n y292.2 y323
    else
      some (Sum.inl ())

def l07_WheelRecognizes_4 (N : Nat) (x1 : List Int) (x2 : List (List Int)) : Option (Bool) :=
  if (decide (60 < (x1.length : Int))) = true then
    some true
  else
    some (decide (20 < (x2.length : Int)))

def l07_WheelRecognizes_5 (N : Nat) (x1 : List Int) (x2 : List (List Int)) (x3 : Int) : Option (Bool) :=
  Option.bind (l07_recognizes N x1 x2 x3) fun y353 =>
  if y353 = true then
    Option.bind (l07_recognizes N x1 x2 3) fun y355 =>
    if y355 = true then
      Option.bind (l07_sane N ) fun y357 =>
      some y357
    else
      some false
  else
    some false

def l07_WheelRecognizes (N : Nat) (x0 : List Int) (x1 : List Int) (x2 : List (List Int)) (x3 : Int) : Option (Bool) :=
  Option.bind (gen_New N x0) fun y3 =>
  Option.bind (l07_WheelRecognizes_0 N N y3 0) fun y327 =>
  match y327 with
  | Sum.inl y334 =>
    Option.bind (l07_WheelRecognizes_4 N x1 x2) fun y341 =>
    if y341 = true then
      Option.bind (l07_sane N ) fun y349 =>
      some y349
    else
      Option.bind (l07_WheelRecognizes_5 N x1 x2 x3) fun y366 =>
      some y366
  | Sum.inr y373 =>
    some y373

/-! ### (*humpyard/humpgen.Maker).Spoil -/

def Maker_Spoil (N : Nat) (x0 : Maker) (x1 : List UInt8) : Option (List UInt8 × Maker) :=
  if (x1 == []) = true then
    Option.bind (Maker_Next N x0 256) fun y6 =>
    Option.bind (toU8 (IntKind.wrap .u8 y6.1)) fun y16 =>
    AM.lt ([y16] : List UInt8) fun y24 =>
    some (y24, y6.2)
  else
    Option.bind (Maker_Next N x0 (x1.length : Int)) fun y28 =>
    Option.bind (Maker_Next N y28.2 4) fun y40 =>
    AM.lt (y40.1 == 0) fun y52 =>
    if y52 = true then
      Option.bind (cutI x1 0 y28.1) fun y56 =>
      Option.bind (cutI x1 (IntKind.wrap .i64 (y28.1 + 1)) (x1.length : Int)) fun y57 =>
      Option.bind (appI y56 y57) fun y58 =>
      some (y58, y40.2)
    else
      AM.lt (y40.1 == 1) fun y62 =>
      if y62 = true then
        Option.bind (cutI x1 0 y28.1) fun y66 =>
        Option.bind (Maker_Next N y40.2 256) fun y69 =>
        Option.bind (toU8 (IntKind.wrap .u8 y69.1)) fun y80 =>
        Option.bind (appI y66 ([y80] : List UInt8)) fun y88 =>
        Option.bind (cutI x1 y28.1 (x1.length : Int)) fun y89 =>
        Option.bind (appI y88 y89) fun y90 =>
        some (y90, y69.2)
      else
        AM.lt (y40.1 == 2) fun y94 =>
        if y94 = true then
          Option.bind (cutI x1 0 y28.1) fun y98 =>
          Option.bind (Maker_Next N y40.2 10) fun y101 =>
          Option.bind (toU8 (IntKind.wrap .u8 (IntKind.wrap .i64 (48 + y101.1)))) fun y112 =>
          Option.bind (appI y98 ([y112] : List UInt8)) fun y120 =>
          Option.bind (cutI x1 (IntKind.wrap .i64 (y28.1 + 1)) (x1.length : Int)) fun y121 =>
          Option.bind (appI y120 y121) fun y122 =>
          some (y122, y101.2)
        else
          Option.bind (cutI x1 0 y28.1) fun y126 =>
          Option.bind (Maker_Next N y40.2 256) fun y129 =>
          Option.bind (toU8 (IntKind.wrap .u8 y129.1)) fun y140 =>
          Option.bind (appI y126 ([y140] : List UInt8)) fun y148 =>
          Option.bind (cutI x1 (IntKind.wrap .i64 (y28.1 + 1)) (x1.length : Int)) fun y149 =>
          Option.bind (appI y148 y149) fun y150 =>
          some (y150, y129.2)

/-! ### (*humpyard/humpgen.Maker).SpoilWagon -/

def Maker_SpoilWagon_0 (N : Nat) (x0 : Maker) (x3 : Wagon) (x6 : Int) : Option (Maker × Wagon) :=
  AM.lt (x6 == 0) fun y30 =>
  if y30 = true then
    Option.bind (Maker_Spoil N x0 x3.number) fun y34 =>
    some (y34.2, (Wagon.mk y34.1 x3.length x3.axles x3.mass x3.brake x3.goods x3.gentle x3.dest))
  else
    AM.lt (x6 == 1) fun y49 =>
    if y49 = true then
      Option.bind (Maker_Pick N x0 ([0, 2, 4, 6, 8, (-1)] : List Int)) fun y66 =>
      some (y66.2, (Wagon.mk x3.number x3.length y66.1 x3.mass x3.brake x3.goods x3.gentle x3.dest))
    else
      AM.lt (x6 == 2) fun y81 =>
      if y81 = true then
        Option.bind (Maker_Pick N x0 ([79, 80, 119, 401, 0, (-5)] : List Int)) fun y98 =>
        some (y98.2, (Wagon.mk x3.number y98.1 x3.axles x3.mass x3.brake x3.goods x3.gentle x3.dest))
      else
        AM.lt (x6 == 3) fun y113 =>
        if y113 = true then
          Option.bind (Maker_Pick N x0 ([49, 50, 2001, (-1)] : List Int)) fun y130 =>
          some (y130.2, (Wagon.mk x3.number x3.length x3.axles y130.1 x3.brake x3.goods x3.gentle x3.dest))
        else
          AM.lt (x6 == 4) fun y145 =>
          if y145 = true then
            Option.bind (Maker_Pick N x0 ([(-1), x3.mass, (IntKind.wrap .i64 (x3.mass + 1))] : List Int)) fun y162 =>
            some (y162.2, (Wagon.mk x3.number x3.length x3.axles x3.mass y162.1 x3.goods x3.gentle x3.dest))
          else
            AM.lt (x6 == 5) fun y177 =>
            if y177 = true then
              Option.bind (Maker_Pick N x0 ([(-1), 9, 10] : List Int)) fun y194 =>
              some (y194.2, (Wagon.mk x3.number x3.length x3.axles x3.mass x3.brake y194.1 x3.gentle x3.dest))
            else
              AM.lt (x6 == 6) fun y209 =>
              if y209 = true then
                Option.bind (Maker_Next N x0 5) fun y222 =>
                Option.bind (getI ([[], [65], [97, 32, 98], [97, 98, 99, 100, 101, 102, 103, 104, 105, 106, 107, 108, 109], [45]] : List (List UInt8)) y222.1) fun y232 =>
                some (y222.2, (Wagon.mk x3.number x3.length x3.axles x3.mass x3.brake x3.goods x3.gentle y232))
              else
                some (x0, x3)

def Maker_SpoilWagon (N : Nat) (x0 : Maker) (x1 : Wagon) : Option (Wagon × Maker) :=
  Option.bind (Maker_Next N x0 8) fun y18 =>
  Option.bind (Maker_SpoilWagon_0 N y18.2 x1 y18.1) fun y246 =>
  some (y246.2, y246.1)

/-! ### humpyard/wheel.Distances -/

def wheel_Distances_0 (N : Nat) (x17 : List Wagon) (x18 : Int) : Nat → Int → Option (Sum (Unit) (Int))
  | 0, _ => none
  | n + 1, x19 =>
    if (decide (x19 < x18)) = true then
      Option.bind (getI x17 x19) fun y14 =>
      Option.bind (consist_Valid N y14) fun y30 =>
      if (y30 != 0) = true then
        some (Sum.inr y30)
      else
        wheel_Distances_0 N x17 x18 n (IntKind.wrap .i64 (x19 + 1))
    else
      some (Sum.inl ())

def wheel_Distances_3 (N : Nat) (x7 : List Int) (x8 : Int) (x9 : Int) (x13 : Int) (x43 : Bool) : Option (List Int) :=
  if x43 = true then
    Option.bind (appI x7 ([(IntKind.wrap .i64 ((IntKind.wrap .i64 (x8 + x13)) - x9))] : List Int)) fun y115 =>
    some y115
  else
    some x7

def wheel_Distances_2 (N : Nat) (x8 : Int) (x36 : List Int) (x37 : Int) : Nat → (List Int) → Int → Int → Option (List Int × Int)
  | 0, _, _, _ => none
  | n + 1, x7, x9, x38 =>
    if (decide (x38 < x37)) = true then
      Option.bind (getI x36 x38) fun y92 =>
      Option.bind (wheel_Distances_3 N x7 x8 x9 y92 (decide (0 ≤ x9))) fun y128 =>
      AM.lt (IntKind.wrap .i64 (x8 + y92)) fun y143 =>
      wheel_Distances_2 N x8 x36 x37 n y128 y143 (IntKind.wrap .i64 (x38 + 1))
    else
      some (x7, x9)

def wheel_Distances_1 (N : Nat) (x29 : List Wagon) (x30 : Int) : Nat → (List Int) → Int → Int → Int → Option (List Int)
  | 0, _, _, _, _ => none
  | n + 1, x7, x8, x9, x31 =>
    if (decide (x31 < x30)) = true then
      Option.bind (getI x29 x31) fun y59 =>
      Option.bind (wheel_offsets N y59) fun y76 =>
      Option.bind (wheel_Distances_2 N x8 y76 (y76.length : Int) N x7 x9 0) fun y149 =>
      AM.lt (IntKind.wrap .i64 (x8 + (IntKind.wrap .i64 (10 * y59.length)))) fun y161 =>
      wheel_Distances_1 N x29 x30 n y149.1 y161 y149.2 (IntKind.wrap .i64 (x31 + 1))
    else
      some x7

def wheel_Distances (N : Nat) (x0 : List Wagon) : Option (List Int × Int) :=
  if (decide (96 < (x0.length : Int))) = true then
    some ([], 3)
  else
    Option.bind (wheel_Distances_0 N x0 (x0.length : Int) N 0) fun y42 =>
    match y42 with
    | Sum.inl y49 =>
      Option.bind (wheel_Distances_1 N x0 (x0.length : Int) N [] 0 (-1) 0) fun y167 =>
      some (y167, 0)
    | Sum.inr y183 =>
      some ([], y183)

/-! ### humpyard/humpyardlaw07.WheelOffsets -/

def l07_WheelOffsets_2 (N : Nat) (x8 : Int) (x9 : List Wagon) : Option (Bool) :=
  if (x8 == 3) = true then
    AM.lt (decide (0 < (x9.length : Int))) fun y48 =>
    some y48
  else
    some false

def l07_WheelOffsets_3 (N : Nat) (x2 : List Wagon) (x8 : Int) : Option (Bool) :=
  if (x8 == 4) = true then
    AM.lt (decide ((x2.length : Int) ≤ 20)) fun y132 =>
    some y132
  else
    some false

def l07_WheelOffsets_1 (N : Nat) (x2 : List Wagon) (x4 : Wagon) (x7 : Maker) (x8 : Int) (x9 : List Wagon) : Option (Maker × List Wagon) :=
  Option.bind (l07_WheelOffsets_2 N x8 x9) fun y54 =>
  if y54 = true then
    Option.bind (Maker_Next N x7 (x9.length : Int)) fun y76 =>
    Option.bind (getI x9 0) fun y88 =>
    Option.bind (Maker_SpoilWagon N y76.2 y88) fun y101 =>
    Option.bind (getI x9 y76.1) fun y112 =>
    AM.lt (x9.set ((y76.1 : Int).toNat) y101.1) fun y127 =>
    some (y101.2, y127)
  else
    Option.bind (l07_WheelOffsets_3 N x2 x8) fun y138 =>
    if y138 = true then
      Option.bind (appI ([] : List Wagon) x2) fun y164 =>
      Option.bind (appI y164 ([x4] : List Wagon)) fun y187 =>
      some (x7, y187)
    else
      some (x7, x9)

def l07_WheelOffsets_4 (N : Nat) (x10 : List Int) (x11 : Int) (x12 : List Int) (x13 : Int) : Option (Bool) :=
  Option.bind (gen_Ints N x10 x12) fun y245 =>
  if (!y245) = true then
    some true
  else
    some (x11 != x13)

def l07_WheelOffsets_6 (N : Nat) (x15 : List Int) (x16 : Int) (x17 : List Int) (x18 : Int) : Option (Bool) :=
  Option.bind (gen_Ints N x15 x17) fun y305 =>
  if (!y305) = true then
    some true
  else
    some (x16 != x18)

def l07_WheelOffsets_5 (N : Nat) (x9 : List Wagon) : Nat → Int → Option (Sum (Unit) (Bool))
  | 0, _ => none
  | n + 1, x14 =>
    if (decide (x14 < (x9.length : Int))) = true then
      Option.bind (getI x9 x14) fun y271 =>
      Option.bind (wheel_Offsets N y271) fun y277 =>
      Option.bind (getI x9 x14) fun y288 =>
      Option.bind (r07_Offsets N y288) fun y294 =>
      Option.bind (l07_WheelOffsets_6 N y277.1 y277.2 y294.1 y294.2) fun y312 =>
      if y312 = true then
        some (Sum.inr false)
      else
        AM.lt (IntKind.wrap .i64 (x14 + 1)) fun y326 =>
        l07_WheelOffsets_5 N x9 n y326
    else
      some (Sum.inl ())

def l07_WheelOffsets_0 (N : Nat) (x2 : List Wagon) (x4 : Wagon) : Nat → Maker → Int → Option (Sum (Unit) (Bool))
  | 0, _, _ => none
  | n + 1, x7, x8 =>
    if (decide (x8 < 5)) = true then
      Option.bind (Maker_Wagons N x7 6) fun y30 =>
      Option.bind (l07_WheelOffsets_1 N x2 x4 y30.2 x8 y30.1) fun y200 =>
      Option.bind (wheel_Distances N y200.2) fun y223 =>
      Option.bind (r07_Distances N y200.2) fun y234 =>
      Option.bind (l07_WheelOffsets_4 N y223.1 y223.2 y234.1 y234.2) fun y252 =>
      if y252 = true then
        some (Sum.inr false)
      else
        Option.bind (l07_WheelOffsets_5 N y200.2 N 0) fun y330 =>
        match y330 with
        | Sum.inl y337 =>
          AM.lt (IntKind.wrap .i64 (x8 + 1)) fun y341 =>
          l07_WheelOffsets_0 N x2 x4 n y200.1 y341
        | Sum.inr y344 =>
          some (Sum.inr y344)
    else
      some (Sum.inl ())

def l07_WheelOffsets (N : Nat) (x0 : List Int) (x1 : Wagon) (x2 : List Wagon) : Option (Bool) :=
  Option.bind (gen_New N x0) fun y9 =>
  Option.bind (l07_WheelOffsets_0 N x2 x1 N y9 0) fun y346 =>
  match y346 with
  | Sum.inl y353 =>
    Option.bind (l07_sane N ) fun y354 =>
    some y354
  | Sum.inr y357 =>
    some y357

/-! ### humpyard/wheel.time -/

def wheel_time_0 (N : Nat) (x0 : Int) : Option (Bool) :=
  if (decide (0 ≤ x0)) = true then
    AM.lt (decide (x0 ≤ 1000000000)) fun y4 =>
    some y4
  else
    some false

def wheel_time (N : Nat) (x0 : Int) : Option (Bool) :=
  Option.bind (wheel_time_0 N x0) fun y10 =>
  some y10

/-! ### humpyard/wheel.Measure -/

def wheel_Measure_0 (N : Nat) (x2 : Int) : Option (Bool) :=
  if (decide (x2 < 1)) = true then
    some true
  else
    some (decide (10000 < x2))

def wheel_Measure_2 (N : Nat) (x0 : List Int) (x1 : List Int) (x8 : Int) : Option (Bool) :=
  Option.bind (getI x0 x8) fun y33 =>
  Option.bind (wheel_time N y33) fun y40 =>
  if (!y40) = true then
    some true
  else
    Option.bind (getI x1 x8) fun y45 =>
    Option.bind (wheel_time N y45) fun y52 =>
    if (!y52) = true then
      some true
    else
      Option.bind (getI x1 x8) fun y57 =>
      Option.bind (getI x0 x8) fun y63 =>
      if (decide (y57 ≤ y63)) = true then
        some true
      else
        if (decide (0 < x8)) = true then
          Option.bind (getI x0 x8) fun y74 =>
          Option.bind (getI x0 (IntKind.wrap .i64 (x8 - 1))) fun y80 =>
          some (decide (y74 ≤ y80))
        else
          some false

def wheel_Measure_1 (N : Nat) (x0 : List Int) (x1 : List Int) (x23 : Int) : Nat → Int → Option (Sum (Unit) (Int))
  | 0, _ => none
  | n + 1, x24 =>
    if (decide (x24 < x23)) = true then
      Option.bind (wheel_Measure_2 N x0 x1 x24) fun y91 =>
      if y91 = true then
        some (Sum.inr 1)
      else
        wheel_Measure_1 N x0 x1 x23 n (IntKind.wrap .i64 (x24 + 1))
    else
      some (Sum.inl ())

def wheel_Measure_3 (N : Nat) (x0 : List Int) (x1 : List Int) (x2 : Int) : Nat → (List Int) → Int → Option (List Int)
  | 0, _, _ => none
  | n + 1, x9, x10 =>
    if (decide ((IntKind.wrap .i64 (x10 + 1)) < (x0.length : Int))) = true then
      Option.bind (getI x0 (IntKind.wrap .i64 (x10 + 1))) fun y126 =>
      Option.bind (getI x0 x10) fun y132 =>
      Option.bind (getI x1 x10) fun y138 =>
      Option.bind (getI x0 x10) fun y144 =>
      Option.bind (divI (IntKind.wrap .i64 ((IntKind.wrap .i64 (y126 - y132)) * x2)) (IntKind.wrap .i64 (y138 - y144))) fun y150 =>
      Option.bind (appI x9 ([(IntKind.wrap .i64 (y150))] : List Int)) fun y161 =>
      AM.lt (IntKind.wrap .i64 (x10 + 1)) fun y171 =>
      wheel_Measure_3 N x0 x1 x2 n y161 y171
    else
      some x9

def wheel_Measure (N : Nat) (x0 : List Int) (x1 : List Int) (x2 : Int) : Option (List Int × Int) :=
  Option.bind (wheel_Measure_0 N x2) fun y9 =>
  if y9 = true then
    some ([], 2)
  else
    if ((x0.length : Int) != (x1.length : Int)) = true then
      some ([], 1)
    else
      Option.bind (wheel_Measure_1 N x0 x1 (x0.length : Int) N 0) fun y105 =>
      match y105 with
      | Sum.inl y112 =>
        if (decide (768 < (x0.length : Int))) = true then
          some ([], 3)
        else
          Option.bind (wheel_Measure_3 N x0 x1 x2 N [] 0) fun y175 =>
          some (y175, 0)
      | Sum.inr y191 =>
        some ([], y191)

/-! ### humpyard/humpyardref07.Measure -/

def r07_Measure_0 (N : Nat) (x2 : Int) : Option (Bool) :=
  if (decide (x2 < 1)) = true then
    some true
  else
    some (decide (10000 < x2))

def r07_Measure_2 (N : Nat) (x0 : List Int) (x1 : List Int) (x8 : Int) : Option (Bool) :=
  Option.bind (getI x0 x8) fun y31 =>
  if (decide (y31 < 0)) = true then
    some true
  else
    Option.bind (getI x0 x8) fun y41 =>
    if (decide (1000000000 < y41)) = true then
      some true
    else
      Option.bind (getI x1 x8) fun y51 =>
      if (decide (1000000000 < y51)) = true then
        some true
      else
        Option.bind (getI x1 x8) fun y61 =>
        Option.bind (getI x0 x8) fun y67 =>
        if (decide (y61 ≤ y67)) = true then
          some true
        else
          if (decide (0 < x8)) = true then
            Option.bind (getI x0 x8) fun y78 =>
            Option.bind (getI x0 (IntKind.wrap .i64 (x8 - 1))) fun y84 =>
            some (decide (y78 ≤ y84))
          else
            some false

def r07_Measure_1 (N : Nat) (x0 : List Int) (x1 : List Int) : Nat → Int → Option (Sum (Unit) (Int))
  | 0, _ => none
  | n + 1, x8 =>
    if (decide (x8 < (x0.length : Int))) = true then
      Option.bind (r07_Measure_2 N x0 x1 x8) fun y95 =>
      if y95 = true then
        some (Sum.inr 1)
      else
        AM.lt (IntKind.wrap .i64 (x8 + 1)) fun y106 =>
        r07_Measure_1 N x0 x1 n y106
    else
      some (Sum.inl ())

def r07_Measure_3 (N : Nat) (x0 : List Int) (x1 : List Int) (x2 : Int) : Nat → (List Int) → Int → Option (List Int)
  | 0, _, _ => none
  | n + 1, x9, x10 =>
    if (decide ((IntKind.wrap .i64 (x10 + 1)) < (x0.length : Int))) = true then
      Option.bind (getI x0 (IntKind.wrap .i64 (x10 + 1))) fun y131 =>
      Option.bind (getI x0 x10) fun y137 =>
      Option.bind (getI x1 x10) fun y143 =>
      Option.bind (getI x0 x10) fun y149 =>
      Option.bind (divI (IntKind.wrap .i64 ((IntKind.wrap .i64 (y131 - y137)) * x2)) (IntKind.wrap .i64 (y143 - y149))) fun y155 =>
      Option.bind (appI x9 ([(IntKind.wrap .i64 (y155))] : List Int)) fun y166 =>
      AM.lt (IntKind.wrap .i64 (x10 + 1)) fun y176 =>
      r07_Measure_3 N x0 x1 x2 n y166 y176
    else
      some x9

def r07_Measure (N : Nat) (x0 : List Int) (x1 : List Int) (x2 : Int) : Option (List Int × Int) :=
  Option.bind (r07_Measure_0 N x2) fun y9 =>
  if y9 = true then
    some ([], 2)
  else
    if ((x0.length : Int) != (x1.length : Int)) = true then
      some ([], 1)
    else
      Option.bind (r07_Measure_1 N x0 x1 N 0) fun y110 =>
      match y110 with
      | Sum.inl y117 =>
        if (decide (768 < (x0.length : Int))) = true then
          some ([], 3)
        else
          Option.bind (r07_Measure_3 N x0 x1 x2 N [] 0) fun y180 =>
          some (y180, 0)
      | Sum.inr y196 =>
        some ([], y196)

/-! ### humpyard/humpyardlaw07.WheelMeasures -/

def l07_WheelMeasures_1 (N : Nat) (x11 : List Int) (x12 : Int) (x13 : List Int) (x14 : Int) : Option (Bool) :=
  Option.bind (gen_Ints N x11 x13) fun y28 =>
  if (!y28) = true then
    some true
  else
    some (x12 != x14)

def l07_WheelMeasures_0 (N : Nat) (x1 : List Int) (x2 : List Int) (x3 : Int) (x27 : Bool) : Option (Sum (Unit) (Bool)) :=
  if x27 = true then
    Option.bind (wheel_Measure N x1 x2 x3) fun y6 =>
    Option.bind (r07_Measure N x1 x2 x3) fun y17 =>
    Option.bind (l07_WheelMeasures_1 N y6.1 y6.2 y17.1 y17.2) fun y35 =>
    if y35 = true then
      some (Sum.inr false)
    else
      some (Sum.inl ())
  else
    some (Sum.inl ())

def l07_WheelMeasures_2 (N : Nat) (x4 : Int) (x15 : List Int) : Nat → Int → (List Int) → (List Int) → Int → Option (List Int × List Int)
  | 0, _, _, _, _ => none
  | n + 1, x17, x18, x19, x20 =>
    if (decide (x20 < (x15.length : Int))) = true then
      Option.bind (getI x15 x20) fun y128 =>
      AM.lt (IntKind.wrap .i64 (x17 + (IntKind.wrap .i64 (y128 * x4)))) fun y134 =>
      Option.bind (appI x18 ([y134] : List Int)) fun y145 =>
      Option.bind (appI x19 ([(IntKind.wrap .i64 (y134 + (IntKind.wrap .i64 (100 * x4))))] : List Int)) fun y162 =>
      AM.lt (IntKind.wrap .i64 (x20 + 1)) fun y173 =>
      l07_WheelMeasures_2 N x4 x15 n y134 y145 y162 y173
    else
      some (x18, x19)

def l07_WheelMeasures_3 (N : Nat) (x15 : List Int) (x16 : Int) (x21 : List Int) : Option (Bool) :=
  if (x16 == 0) = true then
    Option.bind (gen_Ints N x21 x15) fun y211 =>
    if y211 = true then
      Option.bind (l07_sane N ) fun y213 =>
      some y213
    else
      some false
  else
    some false

def l07_WheelMeasures (N : Nat) (x0 : List Int) (x1 : List Int) (x2 : List Int) (x3 : Int) (x4 : Int) : Option (Bool) :=
  Option.bind (l07_WheelMeasures_0 N x1 x2 x3 (decide ((IntKind.wrap .i64 ((x1.length : Int) + (x2.length : Int))) ≤ 200))) fun y47 =>
  match y47 with
  | Sum.inl y54 =>
    Option.bind (gen_New N x0) fun y55 =>
    Option.bind (Maker_Wagons N y55 8) fun y68 =>
    Option.bind (wheel_Distances N y68.1) fun y86 =>
    AM.lt (IntKind.wrap .i64 (1 + (Int.tmod (IntKind.wrap .i64 ((Int.tmod x4 20) + 20)) 20))) fun y97 =>
    if (y86.2 != 0) = true then
      some false
    else
      Option.bind (l07_WheelMeasures_2 N y97 y86.1 N 1000 ([1000] : List Int) ([(IntKind.wrap .i64 (1000 + (IntKind.wrap .i64 (100 * y97))))] : List Int) 0) fun y177 =>
      Option.bind (wheel_Measure N y177.1 y177.2 100) fun y199 =>
      Option.bind (l07_WheelMeasures_3 N y86.1 y199.2 y199.1) fun y222 =>
      some y222
  | Sum.inr y229 =>
    some y229

end Go.W
