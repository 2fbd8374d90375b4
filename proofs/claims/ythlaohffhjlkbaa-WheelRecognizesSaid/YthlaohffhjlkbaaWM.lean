/- The models of the functions. -/
import Derived.Test.YthlaohffhjlkbaaAmMap
set_option linter.unusedVariables false
set_option linter.unusedSimpArgs false
set_option maxRecDepth 100000
set_option maxHeartbeats 4000000
namespace Go.W
open Go.AM

/-- api.Wagon -/
structure Wagon where
  number : (List UInt8)
  length : Int
  axles : Int
  mass : Int
  brake : Int
  goods : Int
  gentle : Bool
  dest : (List UInt8)
def TWagon : Ty Wagon where
  sz := 8
  tid := 30
  rd := fun z x cs => cs = [(str x.number), (Value.int .i64 x.length), (Value.int .i64 x.axles), (Value.int .i64 x.mass), (Value.int .i64 x.brake), (Value.int .i64 x.goods), (Value.bool x.gentle), (str x.dest)]
  len := fun z x cs h => by rw [h]; rfl
  mono := fun z z' _ x cs h => h
  one := fun z x cs h c hc => by
    rw [h] at hc; simp only [List.mem_cons, List.not_mem_nil, or_false] at hc
    rcases hc with rfl | rfl | rfl | rfl | rfl | rfl | rfl | rfl <;> exact ⟨rfl, rfl⟩
/-- humpgen.Maker -/
structure Maker where
  l : (List Int)
  n : Int
def TMaker : Ty Maker where
  sz := 2
  tid := 56
  rd := fun z x cs => ∃ v0, cs = [v0, (Value.int .i64 x.n)] ∧ SlR (TInt 3 .i64) z x.l v0
  len := by rintro z x cs ⟨v0, rfl, s0⟩; rfl
  mono := by rintro z z' h x cs ⟨v0, rfl, s0⟩; exact ⟨v0, rfl, s0.mono h⟩
  one := by
    rintro z x cs ⟨v0, rfl, s0⟩ c hc
    simp only [List.mem_cons, List.not_mem_nil, or_false] at hc
    rcases hc with rfl | rfl <;> first | exact ⟨rfl, rfl⟩ | (obtain ⟨a, c, rfl⟩ := s0.len; exact ⟨rfl, rfl⟩)

/-! ### humpyard/wheel.distance -/

def wheel_distance_0 (N : Nat) (x0 : Int) : Option (Bool) :=
  if (decide (1 ≤ x0)) = true then
    AM.lt (decide (x0 ≤ 10000)) fun y4 =>
    some y4
  else
    some false

def wheel_distance (N : Nat) (x0 : Int) : Option (Bool) :=
  Option.bind (wheel_distance_0 N x0) fun y10 =>
  some y10

/-! ### humpyard/wheel.check -/

def wheel_check_0 (N : Nat) (x0 : List Int) (x1 : List (List Int)) : Option (Bool) :=
  if (decide (768 < (x0.length : Int))) = true then
    some true
  else
    some (decide (16 < (x1.length : Int)))

def wheel_check_1 (N : Nat) (x24 : List (List Int)) (x25 : Int) : Nat → Int → Option (Sum (Unit) (Int))
  | 0, _ => none
  | n + 1, x26 =>
    if (decide (x26 < x25)) = true then
      Option.bind (getI x24 x26) fun y25 =>
      if (decide (5 < (y25.length : Int))) = true then
        some (Sum.inr 3)
      else
        wheel_check_1 N x24 x25 n (IntKind.wrap .i64 (x26 + 1))
    else
      some (Sum.inl ())

def wheel_check_2 (N : Nat) (x2 : Int) : Option (Bool) :=
  if (decide (0 ≤ x2)) = true then
    AM.lt (decide (x2 ≤ 10000)) fun y54 =>
    some y54
  else
    some false

def wheel_check_4 (N : Nat) (x9 : Bool) (x11 : Int) : Option (Bool) :=
  if x9 = true then
    Option.bind (wheel_distance N x11) fun y81 =>
    some y81
  else
    some false

def wheel_check_3 (N : Nat) (x40 : List Int) (x41 : Int) : Nat → Bool → Int → Option (Bool)
  | 0, _, _ => none
  | n + 1, x9, x42 =>
    if (decide (x42 < x41)) = true then
      Option.bind (getI x40 x42) fun y72 =>
      Option.bind (wheel_check_4 N x9 y72) fun y87 =>
      wheel_check_3 N x40 x41 n y87 (IntKind.wrap .i64 (x42 + 1))
    else
      some x9

def wheel_check_7 (N : Nat) (x9 : Bool) (x15 : Int) : Option (Bool) :=
  if x9 = true then
    Option.bind (wheel_distance N x15) fun y134 =>
    some y134
  else
    some false

def wheel_check_6 (N : Nat) (x58 : List Int) (x59 : Int) : Nat → Bool → Int → Option (Bool)
  | 0, _, _ => none
  | n + 1, x9, x60 =>
    if (decide (x60 < x59)) = true then
      Option.bind (getI x58 x60) fun y125 =>
      Option.bind (wheel_check_7 N x9 y125) fun y140 =>
      wheel_check_6 N x58 x59 n y140 (IntKind.wrap .i64 (x60 + 1))
    else
      some x9

def wheel_check_5 (N : Nat) (x52 : List (List Int)) (x53 : Int) : Nat → Bool → Int → Option (Bool)
  | 0, _, _ => none
  | n + 1, x9, x54 =>
    if (decide (x54 < x53)) = true then
      Option.bind (getI x52 x54) fun y109 =>
      Option.bind (wheel_check_6 N y109 (y109.length : Int) N x9 0) fun y150 =>
      wheel_check_5 N x52 x53 n y150 (IntKind.wrap .i64 (x54 + 1))
    else
      some x9

def wheel_check (N : Nat) (x0 : List Int) (x1 : List (List Int)) (x2 : Int) : Option (Int) :=
  Option.bind (wheel_check_0 N x0 x1) fun y9 =>
  if y9 = true then
    some 3
  else
    Option.bind (wheel_check_1 N x1 (x1.length : Int) N 0) fun y45 =>
    match y45 with
    | Sum.inl y52 =>
      Option.bind (wheel_check_2 N x2) fun y60 =>
      Option.bind (wheel_check_3 N x0 (x0.length : Int) N y60 0) fun y97 =>
      Option.bind (wheel_check_5 N x1 (x1.length : Int) N y97 0) fun y160 =>
      if (!y160) = true then
        some 2
      else
        some 0
    | Sum.inr y175 =>
      some y175

/-! ### humpyard/wheel.match -/

def wheel_match_0 (N : Nat) (x0 : List Int) (x2 : Int) (x17 : List Int) (x18 : Int) : Nat → Int → Int → Option (Sum (Int) (Int × Bool))
  | 0, _, _ => none
  | n + 1, x8, x19 =>
    if (decide (x19 < x18)) = true then
      Option.bind (getI x17 x19) fun y16 =>
      Option.bind (getI x0 x19) fun y24 =>
      Option.bind (getI x0 x19) fun y30 =>
      AM.lt (max (IntKind.wrap .i64 (y24 - y16)) (IntKind.wrap .i64 (y16 - y30))) fun y36 =>
      if (decide (x2 < y36)) = true then
        some (Sum.inr (0, false))
      else
        AM.lt (IntKind.wrap .i64 (x8 + y36)) fun y45 =>
        wheel_match_0 N x0 x2 x17 x18 n y45 (IntKind.wrap .i64 (x19 + 1))
    else
      some (Sum.inl x8)

def wheel_match (N : Nat) (x0 : List Int) (x1 : List Int) (x2 : Int) : Option (Int × Bool) :=
  if (decide ((x0.length : Int) < (x1.length : Int))) = true then
    some (0, false)
  else
    Option.bind (wheel_match_0 N x0 x2 x1 (x1.length : Int) N 0 0) fun y51 =>
    match y51 with
    | Sum.inl y58 =>
      some (y58, true)
    | Sum.inr y61 =>
      some (y61.1, y61.2)

/-! ### humpyard/wheel.Recognize -/

def wheel_Recognize_3 (N : Nat) (x11 : List Int) (x13 : Int) (x15 : List Int) (x17 : Bool) : Option (Bool) :=
  if (!x17) = true then
    some true
  else
    Option.bind (getI x11 (IntKind.wrap .i64 ((IntKind.wrap .i64 (x13 + (x15.length : Int))) + 1))) fun y94 =>
    some (decide (y94 < 0))

def wheel_Recognize_4 (N : Nat) (x11 : List Int) (x12 : List Int) (x13 : Int) (x16 : Int) : Option (Bool) :=
  Option.bind (getI x12 x13) fun y129 =>
  if (decide (y129 < 0)) = true then
    some true
  else
    Option.bind (getI x11 x13) fun y142 =>
    some (decide (x16 < y142))

def wheel_Recognize_2 (N : Nat) (x0 : List Int) (x2 : Int) (x11 : List Int) (x12 : List Int) (x13 : Int) (x48 : List (List Int)) (x50 : Int) : Option (List Int × List Int) :=
  Option.bind (getI x48 x50) fun y71 =>
  Option.bind (cutI x0 x13 (x0.length : Int)) fun y82 =>
  Option.bind (wheel_match N y82 y71 x2) fun y87 =>
  Option.bind (wheel_Recognize_3 N x11 x13 y71 y87.2) fun y105 =>
  if y105 = true then
    some (x11, x12)
  else
    Option.bind (getI x11 (IntKind.wrap .i64 ((IntKind.wrap .i64 (x13 + (y71.length : Int))) + 1))) fun y117 =>
    AM.lt (IntKind.wrap .i64 (y87.1 + y117)) fun y126 =>
    Option.bind (wheel_Recognize_4 N x11 x12 x13 y126) fun y153 =>
    if y153 = true then
      Option.bind (getI x11 x13) fun y164 =>
      AM.lt (x11.set ((x13 : Int).toNat) y126) fun y175 =>
      Option.bind (getI x12 x13) fun y176 =>
      AM.lt (x12.set ((x13 : Int).toNat) x50) fun y187 =>
      some (y175, y187)
    else
      some (x11, x12)

def wheel_Recognize_1 (N : Nat) (x0 : List Int) (x2 : Int) (x13 : Int) (x48 : List (List Int)) (x49 : Int) : Nat → (List Int) → (List Int) → Int → Option (List Int × List Int)
  | 0, _, _, _ => none
  | n + 1, x11, x12, x50 =>
    if (decide (x50 < x49)) = true then
      Option.bind (wheel_Recognize_2 N x0 x2 x11 x12 x13 x48 x50) fun y191 =>
      wheel_Recognize_1 N x0 x2 x13 x48 x49 n y191.1 y191.2 (IntKind.wrap .i64 (x50 + 1))
    else
      some (x11, x12)

def wheel_Recognize_0 (N : Nat) (x0 : List Int) (x1 : List (List Int)) (x2 : Int) : Nat → (List Int) → (List Int) → Int → Option (List Int × List Int)
  | 0, _, _, _ => none
  | n + 1, x11, x12, x13 =>
    if (decide (0 ≤ x13)) = true then
      Option.bind (getI x11 x13) fun y40 =>
      AM.lt (x11.set ((x13 : Int).toNat) (-1)) fun y51 =>
      Option.bind (getI x12 x13) fun y52 =>
      AM.lt (x12.set ((x13 : Int).toNat) (-1)) fun y63 =>
      Option.bind (wheel_Recognize_1 N x0 x2 x13 x1 (x1.length : Int) N y51 y63 0) fun y206 =>
      AM.lt (IntKind.wrap .i64 (x13 - 1)) fun y218 =>
      wheel_Recognize_0 N x0 x1 x2 n y206.1 y206.2 y218
    else
      some (x11, x12)

def wheel_Recognize_5 (N : Nat) (x1 : List (List Int)) (x10 : Int) (x12 : List Int) : Nat → (List Int) → Int → Option (List Int)
  | 0, _, _ => none
  | n + 1, x18, x19 =>
    if (decide (x19 < x10)) = true then
      Option.bind (getI x12 x19) fun y256 =>
      Option.bind (appI x18 ([y256] : List Int)) fun y274 =>
      Option.bind (getI x12 x19) fun y286 =>
      Option.bind (getI x1 y286) fun y295 =>
      AM.lt (IntKind.wrap .i64 (x19 + (IntKind.wrap .i64 ((y295.length : Int) + 1)))) fun y304 =>
      wheel_Recognize_5 N x1 x10 x12 n y274 y304
    else
      some x18

def wheel_Recognize (N : Nat) (x0 : List Int) (x1 : List (List Int)) (x2 : Int) : Option (List Int × Int × Int) :=
  Option.bind (wheel_check N x0 x1 x2) fun y3 =>
  if (y3 != 0) = true then
    some ([], 0, y3)
  else
    AM.lt (IntKind.wrap .i64 ((x0.length : Int) + 1)) fun y12 =>
    Option.bind (mkI 0 (IntKind.wrap .i64 (y12 + 1))) fun y15 =>
    Option.bind (mkI 0 (IntKind.wrap .i64 (y12 + 1))) fun y24 =>
    AM.lt (IntKind.wrap .i64 (y12 - 1)) fun y34 =>
    Option.bind (wheel_Recognize_0 N x0 x1 x2 N y15 y24 y34) fun y222 =>
    Option.bind (getI y222.1 0) fun y234 =>
    if (decide (y234 < 0)) = true then
      some ([], 0, 15)
    else
      Option.bind (wheel_Recognize_5 N x1 y12 y222.2 N [] 0) fun y308 =>
      Option.bind (getI y222.1 0) fun y320 =>
      some (y308, y320, 0)

/-! ### humpyard/wagonnumber.digits -/

def wagonnumber_digits_1 (N : Nat) (x0 : List UInt8) (x5 : Int) : Option (Bool) :=
  Option.bind (getI x0 x5) fun y8 =>
  if (decide ((UInt8.toNat y8 : Int) < 48)) = true then
    some true
  else
    Option.bind (getI x0 x5) fun y13 =>
    some (decide (57 < (UInt8.toNat y13 : Int)))

def wagonnumber_digits_0 (N : Nat) (x0 : List UInt8) : Nat → Int → Option (Sum (Unit) (Bool))
  | 0, _ => none
  | n + 1, x5 =>
    if (decide (x5 < (x0.length : Int))) = true then
      Option.bind (wagonnumber_digits_1 N x0 x5) fun y16 =>
      if y16 = true then
        some (Sum.inr false)
      else
        AM.lt (IntKind.wrap .i64 (x5 + 1)) fun y27 =>
        wagonnumber_digits_0 N x0 n y27
    else
      some (Sum.inl ())

def wagonnumber_digits (N : Nat) (x0 : List UInt8) (x1 : Int) : Option (Bool) :=
  Option.bind (wagonnumber_digits_0 N x0 N 0) fun y31 =>
  match y31 with
  | Sum.inl y38 =>
    AM.lt ((x0.length : Int) == x1) fun y39 =>
    some y39
  | Sum.inr y42 =>
    some y42

/-! ### humpyard/wagonnumber.sum -/

def wagonnumber_sum_1 (N : Nat) (x5 : Int) (x19 : Bool) : Option (Int) :=
  if x19 = true then
    AM.lt (IntKind.wrap .i64 (x5 * 2)) fun y17 =>
    if (decide (9 < y17)) = true then
      AM.lt (IntKind.wrap .i64 (y17 - 9)) fun y23 =>
      some y23
    else
      some y17
  else
    some x5

def wagonnumber_sum_0 (N : Nat) (x0 : List UInt8) : Nat → Int → Int → Option (Int)
  | 0, _, _ => none
  | n + 1, x3, x4 =>
    if (decide (x4 < (x0.length : Int))) = true then
      Option.bind (getI x0 x4) fun y10 =>
      AM.lt (IntKind.wrap .i64 (IntKind.wrap .u8 ((UInt8.toNat y10 : Int) - 48))) fun y11 =>
      Option.bind (wagonnumber_sum_1 N y11 ((Int.tmod x4 2) == 0)) fun y28 =>
      AM.lt (IntKind.wrap .i64 (x3 + y28)) fun y35 =>
      AM.lt (IntKind.wrap .i64 (x4 + 1)) fun y38 =>
      wagonnumber_sum_0 N x0 n y35 y38
    else
      some x3

def wagonnumber_sum (N : Nat) (x0 : List UInt8) : Option (Int) :=
  Option.bind (wagonnumber_sum_0 N x0 N 0 0) fun y42 =>
  some y42

/-! ### humpyard/wagonnumber.check -/

def wagonnumber_check (N : Nat) (x0 : List UInt8) : Option (Int) :=
  Option.bind (wagonnumber_sum N x0) fun y3 =>
  AM.lt (Int.tmod (IntKind.wrap .i64 (10 - (Int.tmod y3 10))) 10) fun y4 =>
  some y4

/-! ### humpyard/wagonnumber.Valid -/

def wagonnumber_Valid (N : Nat) (x0 : List UInt8) : Option (Int) :=
  Option.bind (wagonnumber_digits N x0 12) fun y3 =>
  if (!y3) = true then
    some 11
  else
    Option.bind (getI x0 11) fun y10 =>
    Option.bind (cutI x0 0 11) fun y11 =>
    Option.bind (wagonnumber_check N y11) fun y12 =>
    if ((IntKind.wrap .i64 (IntKind.wrap .u8 ((UInt8.toNat y10 : Int) - 48))) != y12) = true then
      some 9
    else
      some 0

/-! ### humpyard/wagonnumber.Kind -/

def wagonnumber_Kind_0 (N : Nat) (x11 : Int) (x12 : Bool) : Option (Bool) :=
  if x12 = true then
    some x12
  else
    AM.lt (x11 == 56) fun y20 =>
    some y20

def wagonnumber_Kind_1 (N : Nat) (x11 : Int) (x15 : Bool) : Option (Bool) :=
  if x15 = true then
    some x15
  else
    AM.lt (x11 == 52) fun y39 =>
    some y39

def wagonnumber_Kind (N : Nat) (x0 : List UInt8) : Option (Int × Int) :=
  Option.bind (wagonnumber_Valid N x0) fun y3 =>
  if (y3 != 0) = true then
    some (0, y3)
  else
    Option.bind (getI x0 4) fun y12 =>
    AM.lt ((UInt8.toNat y12 : Int) == 55) fun y15 =>
    Option.bind (wagonnumber_Kind_0 N (UInt8.toNat y12 : Int) y15) fun y23 =>
    if y23 = true then
      some (1, 0)
    else
      AM.lt ((UInt8.toNat y12 : Int) == 50) fun y34 =>
      Option.bind (wagonnumber_Kind_1 N (UInt8.toNat y12 : Int) y34) fun y42 =>
      if y42 = true then
        some (2, 0)
      else
        AM.lt ((UInt8.toNat y12 : Int) == 57) fun y53 =>
        if y53 = true then
          some (3, 0)
        else
          some (0, 0)

/-! ### humpyard/consist.axles -/

def consist_axles (N : Nat) (x0 : Int) : Option (Int) :=
  AM.lt (x0 == 2) fun y5 =>
  if y5 = true then
    some 2
  else
    AM.lt (x0 == 3) fun y12 =>
    if y12 = true then
      some 6
    else
      some 4

/-! ### humpyard/consist.name -/

def consist_name_1 (N : Nat) (x4 : Int) : Option (Bool) :=
  if (decide (x4 < 97)) = true then
    if (decide (x4 < 48)) = true then
      some true
    else
      some (decide (57 < x4))
  else
    if (decide (122 < x4)) = true then
      if (decide (x4 < 48)) = true then
        some true
      else
        some (decide (57 < x4))
    else
      some false

def consist_name_0 (N : Nat) (x0 : List UInt8) : Nat → Int → Option (Sum (Unit) (Bool))
  | 0, _ => none
  | n + 1, x3 =>
    if (decide (x3 < (x0.length : Int))) = true then
      Option.bind (getI x0 x3) fun y8 =>
      AM.lt (UInt8.toNat y8 : Int) fun y9 =>
      Option.bind (consist_name_1 N y9) fun y30 =>
      if y30 = true then
        some (Sum.inr false)
      else
        AM.lt (IntKind.wrap .i64 (x3 + 1)) fun y41 =>
        consist_name_0 N x0 n y41
    else
      some (Sum.inl ())

def consist_name_2 (N : Nat) (x0 : List UInt8) : Option (Bool) :=
  if (decide (0 < (x0.length : Int))) = true then
    AM.lt (decide ((x0.length : Int) ≤ 12)) fun y54 =>
    some y54
  else
    some false

def consist_name (N : Nat) (x0 : List UInt8) : Option (Bool) :=
  Option.bind (consist_name_0 N x0 N 0) fun y45 =>
  match y45 with
  | Sum.inl y52 =>
    Option.bind (consist_name_2 N x0) fun y60 =>
    some y60
  | Sum.inr y67 =>
    some y67

/-! ### humpyard/consist.Valid -/

def consist_Valid_0 (N : Nat) (x5 : Int) (x16 : Bool) : Option (Int) :=
  if x16 = true then
    some 120
  else
    some x5

def consist_Valid_1 (N : Nat) (x1 : Wagon) (x5 : Int) : Option (Bool) :=
  if (decide (x1.length < x5)) = true then
    some true
  else
    if (decide (400 < x1.length)) = true then
      some true
    else
      if (decide (x1.mass < 50)) = true then
        some true
      else
        AM.lt (decide (2000 < x1.mass)) fun y55 =>
        some y55

def consist_Valid_2 (N : Nat) (x1 : Wagon) : Option (Bool) :=
  if (decide (x1.brake < 0)) = true then
    some true
  else
    if (decide (x1.mass < x1.brake)) = true then
      some true
    else
      if (decide (x1.goods < 0)) = true then
        some true
      else
        AM.lt (decide (9 < x1.goods)) fun y82 =>
        some y82

def consist_Valid (N : Nat) (x0 : Wagon) : Option (Int) :=
  Option.bind (wagonnumber_Kind N x0.number) fun y9 =>
  if (y9.2 != 0) = true then
    some y9.2
  else
    Option.bind (consist_Valid_0 N 80 (y9.1 == 3)) fun y26 =>
    Option.bind (consist_axles N y9.1) fun y35 =>
    AM.lt (x0.axles != y35) fun y36 =>
    if y36 = true then
      some 1
    else
      Option.bind (consist_Valid_1 N x0 y26) fun y58 =>
      if y58 = true then
        some 2
      else
        Option.bind (consist_Valid_2 N x0) fun y85 =>
        if y85 = true then
          some 2
        else
          Option.bind (consist_name N x0.dest) fun y97 =>
          AM.lt (!y97) fun y98 =>
          if y98 = true then
            some 7
          else
            some 0

/-! ### humpyard/wheel.offsets -/

def wheel_offsets (N : Nat) (x0 : Wagon) : Option (List Int) :=
  AM.lt (IntKind.wrap .i64 (10 * x0.length)) fun y9 =>
  Option.bind (wagonnumber_Kind N x0.number) fun y12 =>
  AM.lt (y12.1 == 1) fun y17 =>
  if y17 = true then
    some ([130, 330, (IntKind.wrap .i64 (y9 - 330)), (IntKind.wrap .i64 (y9 - 130))] : List Int)
  else
    AM.lt (y12.1 == 2) fun y34 =>
    if y34 = true then
      some ([(IntKind.wrap .i64 (Int.tdiv y9 4)), (IntKind.wrap .i64 (y9 - (IntKind.wrap .i64 (Int.tdiv y9 4))))] : List Int)
    else
      AM.lt (y12.1 == 3) fun y51 =>
      if y51 = true then
        some ([120, 280, 440, (IntKind.wrap .i64 (y9 - 440)), (IntKind.wrap .i64 (y9 - 280)), (IntKind.wrap .i64 (y9 - 120))] : List Int)
      else
        some ([150, 330, (IntKind.wrap .i64 (y9 - 330)), (IntKind.wrap .i64 (y9 - 150))] : List Int)

/-! ### humpyard/wheel.Offsets -/

def wheel_Offsets (N : Nat) (x0 : Wagon) : Option (List Int × Int) :=
  Option.bind (consist_Valid N x0) fun y9 =>
  if (y9 != 0) = true then
    some ([], y9)
  else
    Option.bind (wheel_offsets N x0) fun y18 =>
    some (y18, 0)

/-! ### humpyard/humpgen.Ints -/

def gen_Ints_0 (N : Nat) (x0 : List Int) (x1 : List Int) : Nat → Int → Option (Sum (Unit) (Bool))
  | 0, _ => none
  | n + 1, x5 =>
    if (decide (x5 < (x0.length : Int))) = true then
      Option.bind (getI x0 x5) fun y14 =>
      Option.bind (getI x1 x5) fun y20 =>
      if (y14 != y20) = true then
        some (Sum.inr false)
      else
        AM.lt (IntKind.wrap .i64 (x5 + 1)) fun y32 =>
        gen_Ints_0 N x0 x1 n y32
    else
      some (Sum.inl ())

def gen_Ints (N : Nat) (x0 : List Int) (x1 : List Int) : Option (Bool) :=
  if ((x0.length : Int) != (x1.length : Int)) = true then
    some false
  else
    Option.bind (gen_Ints_0 N x0 x1 N 0) fun y36 =>
    match y36 with
    | Sum.inl y43 =>
      some true
    | Sum.inr y46 =>
      some y46

/-! ### humpyard/humpyardlaw07.sane -/

def l07_sane_0 (N : Nat) (x1 : List Int) (x2 : Int) (x3 : List Int) (x4 : Int) (x5 : Int) (x8 : Int) : Option (Bool) :=
  if (x2 == 0) = true then
    Option.bind (gen_Ints N x1 ([250, 750] : List Int)) fun y126 =>
    if y126 = true then
      if (x5 == 0) = true then
        Option.bind (gen_Ints N x3 ([0, 0] : List Int)) fun y141 =>
        if y141 = true then
          if (x4 == 0) = true then
            AM.lt (x8 == 15) fun y144 =>
            some y144
          else
            some false
        else
          some false
      else
        some false
    else
      some false
  else
    some false

def l07_sane (N : Nat) : Option (Bool) :=
  Option.bind (wheel_Offsets N (Wagon.mk ([51, 49, 56, 48, 50, 55, 55, 51, 49, 50, 51, 55]) 100 2 100 0 0 false ([97]))) fun y3 =>
  Option.bind (wheel_Recognize N ([180, 900, 180] : List Int) ([([180] : List Int), ([180, 900, 180] : List Int)] : List (List Int)) 5) fun y58 =>
  Option.bind (wheel_Recognize N ([181] : List Int) ([([180] : List Int)] : List (List Int)) 0) fun y101 =>
  Option.bind (l07_sane_0 N y3.1 y3.2 y58.1 y58.2.1 y58.2.2 y101.2.2) fun y162 =>
  some y162

/-! ### humpyard/humpgen.New -/

def gen_New (N : Nat) (x0 : List Int) : Option (Maker) :=
  some (Maker.mk x0 0)

/-! ### (*humpyard/humpgen.Maker).Next -/

def Maker_Next_0 (N : Nat) (x0 : Maker) (x5 : Int) (x11 : Bool) : Option (Int) :=
  if x11 = true then
    Option.bind (modI x0.n (x0.l.length : Int)) fun y8 =>
    Option.bind (getI x0.l y8) fun y9 =>
    Option.bind (divI x0.n (x0.l.length : Int)) fun y15 =>
    AM.lt (IntKind.wrap .i64 (y9 + (IntKind.wrap .i64 ((IntKind.wrap .i64 (y15)) * 7919)))) fun y16 =>
    some y16
  else
    some x5

def Maker_Next_1 (N : Nat) (x1 : Int) (x5 : Int) (x51 : Bool) : Option (Int) :=
  if x51 = true then
    AM.lt (IntKind.wrap .i64 (x5 + x1)) fun y38 =>
    some y38
  else
    some x5

def Maker_Next (N : Nat) (x0 : Maker) (x1 : Int) : Option (Int × Maker) :=
  Option.bind (Maker_Next_0 N x0 0 (decide (0 < (x0.l.length : Int)))) fun y20 =>
  Option.bind (modI y20 x1) fun y32 =>
  Option.bind (Maker_Next_1 N x1 y32 (decide (y32 < 0))) fun y42 =>
  some (y42, (Maker.mk x0.l (IntKind.wrap .i64 (x0.n + 1))))

/-! ### (*humpyard/humpgen.Maker).Pick -/

def Maker_Pick (N : Nat) (x0 : Maker) (x1 : List Int) : Option (Int × Maker) :=
  Option.bind (Maker_Next N x0 (x1.length : Int)) fun y3 =>
  Option.bind (getI x1 y3.1) fun y13 =>
  some (y13, y3.2)

/-! ### humpyard/humpyardref07.fit -/

def r07_fit_1 (N : Nat) (x9 : Int) (x31 : Bool) : Option (Int) :=
  if x31 = true then
    AM.lt (IntKind.wrap .i64 (0 - x9)) fun y34 =>
    some y34
  else
    some x9

def r07_fit_0 (N : Nat) (x0 : List Int) (x1 : List Int) (x2 : Int) : Nat → Int → Int → Option (Sum (Int) (Int))
  | 0, _, _ => none
  | n + 1, x7, x8 =>
    if (decide (x8 < (x1.length : Int))) = true then
      Option.bind (getI x0 x8) fun y16 =>
      Option.bind (getI x1 x8) fun y22 =>
      AM.lt (IntKind.wrap .i64 (y16 - y22)) fun y28 =>
      Option.bind (r07_fit_1 N y28 (decide (y28 < 0))) fun y38 =>
      if (decide (x2 < y38)) = true then
        some (Sum.inr (-1))
      else
        AM.lt (IntKind.wrap .i64 (x7 + y38)) fun y51 =>
        AM.lt (IntKind.wrap .i64 (x8 + 1)) fun y54 =>
        r07_fit_0 N x0 x1 x2 n y51 y54
    else
      some (Sum.inl x7)

def r07_fit (N : Nat) (x0 : List Int) (x1 : List Int) (x2 : Int) : Option (Int) :=
  if (decide ((x0.length : Int) < (x1.length : Int))) = true then
    some (-1)
  else
    Option.bind (r07_fit_0 N x0 x1 x2 N 0 0) fun y58 =>
    match y58 with
    | Sum.inl y65 =>
      some y65
    | Sum.inr y68 =>
      some y68

/-! ### humpyard/humpyardref07.Recognize -/

def r07_Recognize_0 (N : Nat) (x0 : List Int) (x1 : List (List Int)) : Option (Bool) :=
  if (decide (768 < (x0.length : Int))) = true then
    some true
  else
    some (decide (16 < (x1.length : Int)))

def r07_Recognize_1 (N : Nat) (x1 : List (List Int)) : Nat → Int → Option (Sum (Unit) (Int × Int))
  | 0, _ => none
  | n + 1, x9 =>
    if (decide (x9 < (x1.length : Int))) = true then
      Option.bind (getI x1 x9) fun y25 =>
      if (decide (5 < (y25.length : Int))) = true then
        some (Sum.inr (0, 3))
      else
        AM.lt (IntKind.wrap .i64 (x9 + 1)) fun y40 =>
        r07_Recognize_1 N x1 n y40
    else
      some (Sum.inl ())

def r07_Recognize_2 (N : Nat) (x2 : Int) : Option (Bool) :=
  if (decide (x2 < 0)) = true then
    some true
  else
    some (decide (10000 < x2))

def r07_Recognize_4 (N : Nat) (x1 : List (List Int)) (x10 : Int) (x11 : List Int) (x56 : Bool) : Option (List Int) :=
  if x56 = true then
    Option.bind (getI x1 x10) fun y79 =>
    some y79
  else
    some x11

def r07_Recognize_6 (N : Nat) (x11 : List Int) (x12 : Int) : Option (Bool) :=
  Option.bind (getI x11 x12) fun y106 =>
  if (decide (y106 < 1)) = true then
    some true
  else
    Option.bind (getI x11 x12) fun y116 =>
    some (decide (10000 < y116))

def r07_Recognize_5 (N : Nat) (x11 : List Int) : Nat → Int → Option (Sum (Unit) (Int × Int))
  | 0, _ => none
  | n + 1, x12 =>
    if (decide (x12 < (x11.length : Int))) = true then
      Option.bind (r07_Recognize_6 N x11 x12) fun y124 =>
      if y124 = true then
        some (Sum.inr (0, 2))
      else
        AM.lt (IntKind.wrap .i64 (x12 + 1)) fun y135 =>
        r07_Recognize_5 N x11 n y135
    else
      some (Sum.inl ())

def r07_Recognize_3 (N : Nat) (x0 : List Int) (x1 : List (List Int)) : Nat → Int → Option (Sum (Unit) (Int × Int))
  | 0, _ => none
  | n + 1, x10 =>
    if (decide (x10 < (x1.length : Int))) = true then
      Option.bind (r07_Recognize_4 N x1 x10 x0 (decide (0 ≤ x10))) fun y91 =>
      Option.bind (r07_Recognize_5 N y91 N 0) fun y139 =>
      match y139 with
      | Sum.inl y146 =>
        AM.lt (IntKind.wrap .i64 (x10 + 1)) fun y147 =>
        r07_Recognize_3 N x0 x1 n y147
      | Sum.inr y150 =>
        some (Sum.inr (y150.1, y150.2))
    else
      some (Sum.inl ())

def r07_Recognize_10 (N : Nat) (x14 : List Int) (x18 : Int) (x19 : Int) : Option (Bool) :=
  if (decide (x18 < 0)) = true then
    some true
  else
    Option.bind (getI x14 x19) fun y240 =>
    some (decide (y240 < 0))

def r07_Recognize_11 (N : Nat) (x14 : List Int) (x16 : Int) (x18 : Int) (x19 : Int) : Option (Bool) :=
  Option.bind (getI x14 x16) fun y263 =>
  if (decide (y263 < 0)) = true then
    some true
  else
    Option.bind (getI x14 x19) fun y276 =>
    Option.bind (getI x14 x16) fun y285 =>
    some (decide ((IntKind.wrap .i64 (x18 + y276)) < y285))

def r07_Recognize_9 (N : Nat) (x0 : List Int) (x1 : List (List Int)) (x2 : Int) (x14 : List Int) (x15 : List Int) (x16 : Int) (x17 : Int) : Option (List Int × List Int) :=
  Option.bind (cutI x0 x16 (x0.length : Int)) fun y205 =>
  Option.bind (getI x1 x17) fun y210 =>
  Option.bind (r07_fit N y205 y210 x2) fun y221 =>
  Option.bind (getI x1 x17) fun y224 =>
  AM.lt (IntKind.wrap .i64 ((IntKind.wrap .i64 (x16 + (y224.length : Int))) + 1)) fun y233 =>
  Option.bind (r07_Recognize_10 N x14 y221 y233) fun y251 =>
  if y251 = true then
    some (x14, x15)
  else
    Option.bind (r07_Recognize_11 N x14 x16 y221 y233) fun y296 =>
    if y296 = true then
      Option.bind (getI x14 y233) fun y307 =>
      Option.bind (getI x14 x16) fun y316 =>
      AM.lt (x14.set ((x16 : Int).toNat) (IntKind.wrap .i64 (y221 + y307))) fun y327 =>
      Option.bind (getI x15 x16) fun y328 =>
      AM.lt (x15.set ((x16 : Int).toNat) x17) fun y339 =>
      some (y327, y339)
    else
      some (x14, x15)

def r07_Recognize_8 (N : Nat) (x0 : List Int) (x1 : List (List Int)) (x2 : Int) (x16 : Int) : Nat → (List Int) → (List Int) → Int → Option (List Int × List Int)
  | 0, _, _, _ => none
  | n + 1, x14, x15, x17 =>
    if (decide (x17 < (x1.length : Int))) = true then
      Option.bind (r07_Recognize_9 N x0 x1 x2 x14 x15 x16 x17) fun y343 =>
      AM.lt (IntKind.wrap .i64 (x17 + 1)) fun y355 =>
      r07_Recognize_8 N x0 x1 x2 x16 n y343.1 y343.2 y355
    else
      some (x14, x15)

def r07_Recognize_7 (N : Nat) (x0 : List Int) (x1 : List (List Int)) (x2 : Int) : Nat → (List Int) → (List Int) → Int → Option (List Int × List Int)
  | 0, _, _, _ => none
  | n + 1, x14, x15, x16 =>
    if (decide (0 ≤ x16)) = true then
      Option.bind (getI x14 x16) fun y186 =>
      AM.lt (x14.set ((x16 : Int).toNat) (-1)) fun y197 =>
      Option.bind (r07_Recognize_8 N x0 x1 x2 x16 N y197 x15 0) fun y359 =>
      AM.lt (IntKind.wrap .i64 (x16 - 1)) fun y371 =>
      r07_Recognize_7 N x0 x1 x2 n y359.1 y359.2 y371
    else
      some (x14, x15)

def r07_Recognize_12 (N : Nat) (x1 : List (List Int)) (x13 : Int) (x15 : List Int) : Nat → (List Int) → Int → Option (List Int)
  | 0, _, _ => none
  | n + 1, x20, x21 =>
    if (decide (x21 < x13)) = true then
      Option.bind (getI x15 x21) fun y409 =>
      Option.bind (appI x20 ([y409] : List Int)) fun y427 =>
      Option.bind (getI x15 x21) fun y439 =>
      Option.bind (getI x1 y439) fun y448 =>
      AM.lt (IntKind.wrap .i64 (x21 + (IntKind.wrap .i64 ((y448.length : Int) + 1)))) fun y457 =>
      r07_Recognize_12 N x1 x13 x15 n y427 y457
    else
      some x20

def r07_Recognize (N : Nat) (x0 : List Int) (x1 : List (List Int)) (x2 : Int) : Option (List Int × Int × Int) :=
  Option.bind (r07_Recognize_0 N x0 x1) fun y9 =>
  if y9 = true then
    some ([], 0, 3)
  else
    Option.bind (r07_Recognize_1 N x1 N 0) fun y44 =>
    match y44 with
    | Sum.inl y51 =>
      Option.bind (r07_Recognize_2 N x2) fun y58 =>
      if y58 = true then
        some ([], 0, 2)
      else
        Option.bind (r07_Recognize_3 N x0 x1 N (-1)) fun y152 =>
        match y152 with
        | Sum.inl y159 =>
          AM.lt (IntKind.wrap .i64 ((x0.length : Int) + 1)) fun y160 =>
          Option.bind (mkI 0 (IntKind.wrap .i64 (y160 + 1))) fun y163 =>
          Option.bind (mkI 0 (IntKind.wrap .i64 (y160 + 1))) fun y170 =>
          AM.lt (IntKind.wrap .i64 (y160 - 1)) fun y180 =>
          Option.bind (r07_Recognize_7 N x0 x1 x2 N y163 y170 y180) fun y375 =>
          Option.bind (getI y375.1 0) fun y387 =>
          if (decide (y387 < 0)) = true then
            some ([], 0, 15)
          else
            Option.bind (r07_Recognize_12 N x1 y160 y375.2 N [] 0) fun y461 =>
            Option.bind (getI y375.1 0) fun y473 =>
            some (y461, y473, 0)
        | Sum.inr y488 =>
          some ([], y488.1, y488.2)
    | Sum.inr y489 =>
      some ([], y489.1, y489.2)

/-! ### humpyard/humpyardlaw07.recognizes -/

def l07_recognizes_0 (N : Nat) (x7 : List Int) (x8 : Int) (x9 : Int) (x10 : List Int) (x11 : Int) (x12 : Int) : Option (Bool) :=
  Option.bind (gen_Ints N x7 x10) fun y25 =>
  if y25 = true then
    if (x8 == x11) = true then
      AM.lt (x9 == x12) fun y28 =>
      some y28
    else
      some false
  else
    some false

def l07_recognizes (N : Nat) (x0 : List Int) (x1 : List (List Int)) (x2 : Int) : Option (Bool) :=
  Option.bind (wheel_Recognize N x0 x1 x2) fun y3 =>
  Option.bind (r07_Recognize N x0 x1 x2) fun y14 =>
  Option.bind (l07_recognizes_0 N y3.1 y3.2.1 y3.2.2 y14.1 y14.2.1 y14.2.2) fun y37 =>
  some y37

/-! ### humpyard/humpyardlaw07.WheelRecognizes -/

def l07_WheelRecognizes_1 (N : Nat) : Nat → Maker → (List Int) → Int → Option (Maker × List Int)
  | 0, _, _, _ => none
  | n + 1, x9, x11, x12 =>
    if (decide (0 < x12)) = true then
      Option.bind (Maker_Pick N x9 ([1, 2, 3, 3, 4, 5, 10000, 0] : List Int)) fun y52 =>
      Option.bind (Maker_Pick N y52.2 ([1, 1, 1, 2] : List Int)) fun y74 =>
      Option.bind (appI x11 ([(IntKind.wrap .i64 (y52.1 * y74.1))] : List Int)) fun y92 =>
      AM.lt (IntKind.wrap .i64 (x12 - 1)) fun y103 =>
      l07_WheelRecognizes_1 N n y74.2 y92 y103
    else
      some (x9, x11)

def l07_WheelRecognizes_3 (N : Nat) : Nat → Maker → (List Int) → Int → Option (Maker × List Int)
  | 0, _, _, _ => none
  | n + 1, x9, x15, x16 =>
    if (decide (0 < x16)) = true then
      Option.bind (Maker_Pick N x9 ([1, 2, 3, 4, 5] : List Int)) fun y171 =>
      Option.bind (appI x15 ([y171.1] : List Int)) fun y191 =>
      AM.lt (IntKind.wrap .i64 (x16 - 1)) fun y204 =>
      l07_WheelRecognizes_3 N n y171.2 y191 y204
    else
      some (x9, x15)

def l07_WheelRecognizes_2 (N : Nat) : Nat → Maker → (List (List Int)) → Int → Option (Maker × List (List Int))
  | 0, _, _, _ => none
  | n + 1, x9, x13, x14 =>
    if (decide (0 < x14)) = true then
      Option.bind (Maker_Next N x9 4) fun y142 =>
      Option.bind (l07_WheelRecognizes_3 N N y142.2 [] y142.1) fun y208 =>
      Option.bind (appI x13 ([y208.2] : List (List Int))) fun y244 =>
      AM.lt (IntKind.wrap .i64 (x14 - 1)) fun y256 =>
      l07_WheelRecognizes_2 N n y208.1 y244 y256
    else
      some (x9, x13)

def l07_WheelRecognizes_0 (N : Nat) : Nat → Maker → Int → Option (Sum (Unit) (Bool))
  | 0, _, _ => none
  | n + 1, x9, x10 =>
    if (decide (x10 < 5)) = true then
      Option.bind (Maker_Next N x9 9) fun y25 =>
      Option.bind (l07_WheelRecognizes_1 N N y25.2 [] y25.1) fun y107 =>
      Option.bind (Maker_Next N y107.1 5) fun y125 =>
      Option.bind (l07_WheelRecognizes_2 N N y125.2 [] y125.1) fun y260 =>
      Option.bind (Maker_Pick N y260.1 ([0, 1, 2, 4, 10000, 10001, (-1)] : List Int)) fun y292 =>
      Option.bind (l07_recognizes N y107.2 y260.2 y292.1) fun y316 =>
      if (!y316) = true then
        some (Sum.inr false)
      else
        AM.lt (IntKind.wrap .i64 (x10 + 1)) fun y323 =>
        l07_WheelRecognizes_0 N n y292.2 y323
    else
      some (Sum.inl ())

def l07_WheelRecognizes_4 (N : Nat) (x1 : List Int) (x2 : List (List Int)) : Option (Bool) :=
  if (decide (60 < (x1.length : Int))) = true then
    some true
  else
    some (decide (20 < (x2.length : Int)))

def l07_WheelRecognizes_5 (N : Nat) (x1 : List Int) (x2 : List (List Int)) (x3 : Int) : Option (Bool) :=
  Option.bind (l07_recognizes N x1 x2 x3) fun y353 =>
  if y353 = true then
    Option.bind (l07_recognizes N x1 x2 3) fun y355 =>
    if y355 = true then
      Option.bind (l07_sane N ) fun y357 =>
      some y357
    else
      some false
  else
    some false

def l07_WheelRecognizes (N : Nat) (x0 : List Int) (x1 : List Int) (x2 : List (List Int)) (x3 : Int) : Option (Bool) :=
  Option.bind (gen_New N x0) fun y3 =>
  Option.bind (l07_WheelRecognizes_0 N N y3 0) fun y327 =>
  match y327 with
  | Sum.inl y334 =>
    Option.bind (l07_WheelRecognizes_4 N x1 x2) fun y341 =>
    if y341 = true then
      Option.bind (l07_sane N ) fun y349 =>
      some y349
    else
      Option.bind (l07_WheelRecognizes_5 N x1 x2 x3) fun y366 =>
      some y366
  | Sum.inr y373 =>
    some y373

end Go.W
