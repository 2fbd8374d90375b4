/- WM -/
import Derived.Test.YtaoioacomnnhdaaMc
section
set_option linter.unusedVariables false
set_option linter.unusedSimpArgs false
set_option maxRecDepth 100000
set_option maxHeartbeats 1000000
namespace Go.W
open Go.AM
noncomputable section
/-- api.Rule -/
structure Rule where
  number : Int
  kind : Int
  a : Int
  b : Int
  c : Int
deriving DecidableEq
/-- api.Wagon -/
structure Wagon where
  number : (List UInt8)
  length : Int
  axles : Int
  mass : Int
  brake : Int
  goods : Int
  gentle : Bool
  dest : (List UInt8)
deriving DecidableEq
/-- humpgen.Maker -/
structure Maker where
  l : (List Int)
  n : Int
deriving DecidableEq
/-- api.Brakes -/
structure Brakes where
  length : Int
  axles : Int
  mass : Int
  braked : Int
  percent : Int
  required : Int
  missing : Int
deriving DecidableEq
/-- rulebook.train -/
structure Train where
  l : (List Wagon)
  off : (List Int)
  total : Brakes
deriving DecidableEq
/-! ### humpyard/humpgen.New -/
def gen_New (N : Nat) (x0 : List Int) : Option Maker :=
  some (Maker.mk x0 0)
/-! ### (*humpyard/humpgen.Maker).Next -/
def Maker_Next_0 (N : Nat) (x0 : Maker) (x5 : Int) (x11 : Bool) : Option Int :=
  if x11 = true then
    Option.bind (modI x0.n (x0.l.length : Int)) fun y1 =>
    Option.bind (getI x0.l y1) fun y2 =>
    Option.bind (divI x0.n (x0.l.length : Int)) fun y3 =>
    AM.lt (IntKind.wrap .i64 (y2 + (IntKind.wrap .i64 ((IntKind.wrap .i64 (y3)) * 7919)))) fun y4 =>
    some y4
  else
    some x5
def Maker_Next_1 (N : Nat) (x1 : Int) (x5 : Int) (x51 : Bool) : Option Int :=
  if x51 = true then
    AM.lt (IntKind.wrap .i64 (x5 + x1)) fun y7 =>
    some y7
  else
    some x5
def Maker_Next (N : Nat) (x0 : Maker) (x1 : Int) : Option (Int × Maker) :=
  Option.bind (Maker_Next_0 N x0 0 (decide (0 < (x0.l.length : Int)))) fun y5 =>
  Option.bind (modI y5 x1) fun y6 =>
  Option.bind (Maker_Next_1 N x1 y6 (decide (y6 < 0))) fun y8 =>
  some (y8, (Maker.mk x0.l (IntKind.wrap .i64 (x0.n + 1))))
/-! ### (*humpyard/humpgen.Maker).Pick -/
def Maker_Pick (N : Nat) (x0 : Maker) (x1 : List Int) : Option (Int × Maker) :=
  Option.bind (Maker_Next N x0 (x1.length : Int)) fun y1 =>
  Option.bind (getI x1 y1.1) fun y2 =>
  some (y2, y1.2)
/-! ### humpyard/yardgen.Rule -/
def yardgen_Rule_0 (N : Nat) (x0 : Maker) (x5 : Rule) (x12 : Int) : Option (Maker × Rule) :=
  AM.lt (x12 == 1) fun y2 =>
  if y2 = true then
    Option.bind (Maker_Pick N x0 ([0, 262, 700, 1500, 10000] : List Int)) fun y3 =>
    some (y3.2, (Rule.mk x5.number x5.kind y3.1 x5.b x5.c))
  else
    AM.lt (x12 == 2) fun y4 =>
    if y4 = true then
      Option.bind (Maker_Pick N x0 ([3, 8, 16, 40] : List Int)) fun y5 =>
      some (y5.2, (Rule.mk x5.number x5.kind y5.1 x5.b x5.c))
    else
      AM.lt (x12 == 3) fun y6 =>
      if y6 = true then
        Option.bind (Maker_Pick N x0 ([400, 1600, 4000, 20000] : List Int)) fun y7 =>
        some (y7.2, (Rule.mk x5.number x5.kind y7.1 x5.b x5.c))
      else
        AM.lt (x12 == 4) fun y8 =>
        if y8 = true then
          Option.bind (Maker_Pick N x0 ([0, 30, 50, 80] : List Int)) fun y9 =>
          some (y9.2, (Rule.mk x5.number x5.kind y9.1 x5.b x5.c))
        else
          AM.lt (x12 == 5) fun y10 =>
          if y10 = true then
            Option.bind (Maker_Pick N x0 ([1, 3, 9] : List Int)) fun y11 =>
            Option.bind (Maker_Pick N y11.2 ([0, 1, 3] : List Int)) fun y12 =>
            Option.bind (Maker_Next N y12.2 4) fun y13 =>
            some (y13.2, (Rule.mk x5.number x5.kind y11.1 y12.1 y13.1))
          else
            AM.lt (x12 == 6) fun y14 =>
            if y14 = true then
              Option.bind (Maker_Pick N x0 ([0, 1, 3] : List Int)) fun y15 =>
              Option.bind (Maker_Next N y15.2 4) fun y16 =>
              some (y16.2, (Rule.mk x5.number x5.kind y15.1 y16.1 x5.c))
            else
              AM.lt (x12 == 7) fun y17 =>
              if y17 = true then
                Option.bind (Maker_Next N x0 5) fun y18 =>
                Option.bind (Maker_Next N y18.2 4) fun y19 =>
                some (y19.2, (Rule.mk x5.number x5.kind y18.1 y19.1 x5.c))
              else
                AM.lt (x12 == 8) fun y20 =>
                if y20 = true then
                  Option.bind (Maker_Pick N x0 ([50, 200, 500] : List Int)) fun y21 =>
                  some (y21.2, (Rule.mk x5.number x5.kind y21.1 x5.b x5.c))
                else
                  Option.bind (Maker_Pick N x0 ([100, 400] : List Int)) fun y22 =>
                  Option.bind (Maker_Pick N y22.2 ([0, 800, 3000] : List Int)) fun y23 =>
                  some (y23.2, (Rule.mk x5.number x5.kind y22.1 y23.1 x5.c))
def yardgen_Rule (N : Nat) (x0 : Maker) (x1 : Int) : Option (Rule × Maker) :=
  Option.bind (Maker_Next N x0 9) fun y1 =>
  Option.bind (yardgen_Rule_0 N y1.2 (Rule.mk x1 (IntKind.wrap .i64 (1 + y1.1)) 0 0 0) (IntKind.wrap .i64 (1 + y1.1))) fun y24 =>
  some (y24.2, y24.1)
/-! ### humpyard/yardgen.Rules -/
def yardgen_Rules_0 (N : Nat) : Nat → Maker → (List Rule) → Int → Option (Maker × List Rule)
  | 0, _, _, _ => none
  | n + 1, x0, x5, x6 =>
    if (decide (0 < x6)) = true then
      Option.bind (Maker_Next N x0 9) fun y2 =>
      Option.bind (yardgen_Rule N y2.2 (IntKind.wrap .i64 ((IntKind.wrap .i64 ((IntKind.wrap .i64 (10 * (x5.length : Int))) + 1)) + y2.1))) fun y3 =>
      Option.bind (appI x5 ([y3.1] : List Rule)) fun y4 =>
      AM.lt (IntKind.wrap .i64 (x6 - 1)) fun y5 =>
      yardgen_Rules_0 N n y3.2 y4 y5
    else
      some (x0, x5)
def yardgen_Rules (N : Nat) (x0 : Maker) (x1 : Int) : Option (List Rule × Maker) :=
  Option.bind (Maker_Next N x0 (IntKind.wrap .i64 (x1 + 1))) fun y1 =>
  Option.bind (yardgen_Rules_0 N N y1.2 [] y1.1) fun y6 =>
  some (y6.2, y6.1)
/-! ### (*humpyard/humpgen.Maker).Digits -/
def Maker_Digits_0 (N : Nat) (x1 : Int) : Nat → Maker → (List UInt8) → Int → Option (Maker × List UInt8)
  | 0, _, _, _ => none
  | n + 1, x0, x5, x6 =>
    if (decide (x6 < x1)) = true then
      Option.bind (Maker_Next N x0 10) fun y2 =>
      Option.bind (getI x5 x6) fun y3 =>
      Option.bind (getI x5 x6) fun y4 =>
      Option.bind (toU8 (IntKind.wrap .u8 ((IntKind.wrap .i64 (48 + y2.1))))) fun y5 =>
      AM.lt (x5.set ((x6 : Int).toNat) y5) fun y6 =>
      AM.lt (IntKind.wrap .i64 (x6 + 1)) fun y7 =>
      Maker_Digits_0 N x1 n y2.2 y6 y7
    else
      some (x0, x5)
def Maker_Digits (N : Nat) (x0 : Maker) (x1 : Int) : Option (List UInt8 × Maker) :=
  Option.bind (mkI 0 x1) fun y1 =>
  Option.bind (Maker_Digits_0 N x1 N x0 y1 0) fun y8 =>
  some (y8.2, y8.1)
/-! ### humpyard/humpyardref02.digits -/
def r02_digits_1 (N : Nat) (x0 : List UInt8) (x5 : Int) : Option Bool :=
  Option.bind (getI x0 x5) fun y1 =>
  if (decide ((UInt8.toNat y1 : Int) < 48)) = true then
    some true
  else
    Option.bind (getI x0 x5) fun y2 =>
    some (decide (57 < (UInt8.toNat y2 : Int)))
def r02_digits_0 (N : Nat) (x0 : List UInt8) (x1 : Int) : Nat → Int → Option (Sum (Unit) (Bool))
  | 0, _ => none
  | n + 1, x5 =>
    if (decide (x5 < x1)) = true then
      Option.bind (r02_digits_1 N x0 x5) fun y3 =>
      if y3 = true then
        some (Sum.inr false)
      else
        AM.lt (IntKind.wrap .i64 (x5 + 1)) fun y4 =>
        r02_digits_0 N x0 x1 n y4
    else
      some (Sum.inl ())
def r02_digits (N : Nat) (x0 : List UInt8) (x1 : Int) : Option Bool :=
  if ((x0.length : Int) != x1) = true then
    some false
  else
    Option.bind (r02_digits_0 N x0 x1 N 0) fun y5 =>
    match y5 with
    | Sum.inl y6 =>
      some true
    | Sum.inr y7 =>
      some y7
/-! ### humpyard/humpyardref02.sum -/
def r02_sum_1 (N : Nat) (x7 : Int) (x20 : Bool) : Option Int :=
  if x20 = true then
    AM.lt (IntKind.wrap .i64 (x7 * 2)) fun y3 =>
    if (decide (9 < y3)) = true then
      AM.lt (IntKind.wrap .i64 (y3 - 9)) fun y4 =>
      some y4
    else
      some y3
  else
    some x7
def r02_sum_0 (N : Nat) (x0 : List UInt8) (x1 : Int) : Nat → Int → Int → Option Int
  | 0, _, _ => none
  | n + 1, x5, x6 =>
    if (decide (x6 < x1)) = true then
      Option.bind (getI x0 x6) fun y1 =>
      AM.lt (IntKind.wrap .i64 ((IntKind.wrap .u8 ((UInt8.toNat y1 : Int) - 48)))) fun y2 =>
      Option.bind (r02_sum_1 N y2 ((Int.tmod x6 2) == 0)) fun y5 =>
      AM.lt (IntKind.wrap .i64 (x5 + y5)) fun y6 =>
      AM.lt (IntKind.wrap .i64 (x6 + 1)) fun y7 =>
      r02_sum_0 N x0 x1 n y6 y7
    else
      some x5
def r02_sum (N : Nat) (x0 : List UInt8) (x1 : Int) : Option Int :=
  Option.bind (r02_sum_0 N x0 x1 N 0 0) fun y8 =>
  some y8
/-! ### humpyard/humpyardref02.Digit -/
def r02_Digit (N : Nat) (x0 : List UInt8) : Option (Int × Int) :=
  Option.bind (r02_digits N x0 11) fun y1 =>
  if (!y1) = true then
    some (0, 11)
  else
    Option.bind (r02_sum N x0 11) fun y2 =>
    AM.lt (Int.tmod (IntKind.wrap .i64 (10 - (Int.tmod y2 10))) 10) fun y3 =>
    some (y3, 0)
/-! ### (*humpyard/humpgen.Maker).Number -/
def Maker_Number (N : Nat) (x0 : Maker) (x1 : Int) : Option (List UInt8 × Maker) :=
  Option.bind (Maker_Digits N x0 11) fun y1 =>
  Option.bind (appI y1.1 []) fun y2 =>
  Option.bind (getI y2 8) fun y3 =>
  Option.bind (getI y2 8) fun y4 =>
  Option.bind (toU8 (IntKind.wrap .u8 ((IntKind.wrap .i64 (48 + (Int.tmod (IntKind.wrap .i64 (Int.tdiv x1 100)) 10)))))) fun y5 =>
  AM.lt (y2.set ((8 : Int).toNat) y5) fun y6 =>
  Option.bind (getI y6 9) fun y7 =>
  Option.bind (getI y6 9) fun y8 =>
  Option.bind (toU8 (IntKind.wrap .u8 ((IntKind.wrap .i64 (48 + (Int.tmod (IntKind.wrap .i64 (Int.tdiv x1 10)) 10)))))) fun y9 =>
  AM.lt (y6.set ((9 : Int).toNat) y9) fun y10 =>
  Option.bind (getI y10 10) fun y11 =>
  Option.bind (getI y10 10) fun y12 =>
  Option.bind (toU8 (IntKind.wrap .u8 ((IntKind.wrap .i64 (48 + (Int.tmod x1 10)))))) fun y13 =>
  AM.lt (y10.set ((10 : Int).toNat) y13) fun y14 =>
  Option.bind (r02_Digit N y14) fun y15 =>
  Option.bind (toU8 (IntKind.wrap .u8 ((IntKind.wrap .i64 (48 + y15.1))))) fun y16 =>
  Option.bind (appI y14 ([y16] : List UInt8)) fun y17 =>
  some (y17, y1.2)
/-! ### (*humpyard/humpgen.Maker).Name -/
def Maker_Name (N : Nat) (x0 : Maker) : Option (List UInt8 × Maker) :=
  Option.bind (Maker_Next N x0 10) fun y1 =>
  Option.bind (getI ([[97], [98], [99], [100], [101], [110, 111, 114, 116, 104], [115, 111, 117, 116, 104], [112, 111, 114, 116, 49], [120, 57], [97, 98, 99, 100, 101, 102, 103, 104, 105, 106, 107, 108]] : List (List UInt8)) y1.1) fun y2 =>
  Option.bind (getI ([[97], [98], [99], [100], [101], [110, 111, 114, 116, 104], [115, 111, 117, 116, 104], [112, 111, 114, 116, 49], [120, 57], [97, 98, 99, 100, 101, 102, 103, 104, 105, 106, 107, 108]] : List (List UInt8)) y1.1) fun y3 =>
  some (y3, y1.2)
/-! ### (*humpyard/humpgen.Maker).Wagon -/
def Maker_Wagon_1 (N : Nat) (x26 : Int) (x27 : Bool) : Option Bool :=
  if x27 = true then
    some x27
  else
    AM.lt (x26 == 52) fun y9 =>
    some y9
def Maker_Wagon_0 (N : Nat) (x5 : Wagon) (x26 : Int) : Option Wagon :=
  AM.lt (x26 == 50) fun y8 =>
  Option.bind (Maker_Wagon_1 N x26 y8) fun y10 =>
  if y10 = true then
    some (Wagon.mk x5.number x5.length 2 x5.mass x5.brake x5.goods x5.gentle x5.dest)
  else
    AM.lt (x26 == 57) fun y11 =>
    if y11 = true then
      some (Wagon.mk x5.number (max x5.length 120) 6 x5.mass x5.brake x5.goods x5.gentle x5.dest)
    else
      some x5
def Maker_Wagon (N : Nat) (x0 : Maker) (x1 : Int) : Option (Wagon × Maker) :=
  Option.bind (Maker_Number N x0 x1) fun y1 =>
  Option.bind (Maker_Pick N y1.2 ([80, 120, 142, 199, 262, 400] : List Int)) fun y2 =>
  Option.bind (Maker_Pick N y2.2 ([50, 120, 400, 800, 2000] : List Int)) fun y3 =>
  Option.bind (Maker_Pick N y3.2 ([0, 0, 0, 1, 3, 9] : List Int)) fun y4 =>
  Option.bind (Maker_Next N y4.2 5) fun y5 =>
  Option.bind (Maker_Name N y5.2) fun y6 =>
  Option.bind (getI y1.1 4) fun y7 =>
  Option.bind (Maker_Wagon_0 N (Wagon.mk y1.1 y2.1 4 y3.1 0 y4.1 (y5.1 == 0) y6.1) (UInt8.toNat y7 : Int)) fun y12 =>
  Option.bind (Maker_Next N y6.2 5) fun y13 =>
  some ((Wagon.mk y12.number y12.length y12.axles y12.mass (IntKind.wrap .i64 (Int.tdiv (IntKind.wrap .i64 (y12.mass * y13.1)) 4)) y12.goods y12.gentle y12.dest), y13.2)
/-! ### (*humpyard/humpgen.Maker).Wagons -/
def Maker_Wagons_0 (N : Nat) : Nat → Maker → (List Wagon) → Int → Option (Maker × List Wagon)
  | 0, _, _, _ => none
  | n + 1, x0, x5, x6 =>
    if (decide (0 < x6)) = true then
      Option.bind (Maker_Wagon N x0 (x5.length : Int)) fun y2 =>
      Option.bind (appI x5 ([y2.1] : List Wagon)) fun y3 =>
      AM.lt (IntKind.wrap .i64 (x6 - 1)) fun y4 =>
      Maker_Wagons_0 N n y2.2 y3 y4
    else
      some (x0, x5)
def Maker_Wagons (N : Nat) (x0 : Maker) (x1 : Int) : Option (List Wagon × Maker) :=
  Option.bind (Maker_Next N x0 (IntKind.wrap .i64 (x1 + 1))) fun y1 =>
  Option.bind (Maker_Wagons_0 N N y1.2 [] y1.1) fun y5 =>
  some (y5.2, y5.1)
/-! ### humpyard/yardgen.Off -/
def yardgen_Off_1 (N : Nat) (x0 : Maker) (x5 : List Int) (x6 : Int) : Option (Maker × List Int) :=
  Option.bind (Maker_Next N x0 4) fun y1 =>
  if (y1.1 == 0) = true then
    Option.bind (appI x5 ([x6] : List Int)) fun y2 =>
    some (y1.2, y2)
  else
    some (y1.2, x5)
def yardgen_Off_0 (N : Nat) (x1 : Int) : Nat → Maker → (List Int) → Int → Option (Maker × List Int)
  | 0, _, _, _ => none
  | n + 1, x0, x5, x6 =>
    if (decide (x6 < x1)) = true then
      Option.bind (yardgen_Off_1 N x0 x5 x6) fun y3 =>
      AM.lt (IntKind.wrap .i64 (x6 + 1)) fun y4 =>
      yardgen_Off_0 N x1 n y3.1 y3.2 y4
    else
      some (x0, x5)
def yardgen_Off (N : Nat) (x0 : Maker) (x1 : Int) : Option (List Int × Maker) :=
  Option.bind (yardgen_Off_0 N x1 N x0 [] 0) fun y5 =>
  some (y5.2, y5.1)
/-! ### (*humpyard/humpgen.Maker).Spoil -/
def Maker_Spoil (N : Nat) (x0 : Maker) (x1 : List UInt8) : Option (List UInt8 × Maker) :=
  if (x1 == []) = true then
    Option.bind (Maker_Next N x0 256) fun y1 =>
    Option.bind (toU8 (IntKind.wrap .u8 (y1.1))) fun y2 =>
    AM.lt ([y2] : List UInt8) fun y3 =>
    some (y3, y1.2)
  else
    Option.bind (Maker_Next N x0 (x1.length : Int)) fun y4 =>
    Option.bind (Maker_Next N y4.2 4) fun y5 =>
    AM.lt (y5.1 == 0) fun y6 =>
    if y6 = true then
      Option.bind (cutI x1 0 y4.1) fun y7 =>
      Option.bind (cutI x1 (IntKind.wrap .i64 (y4.1 + 1)) (x1.length : Int)) fun y8 =>
      Option.bind (appI y7 y8) fun y9 =>
      some (y9, y5.2)
    else
      AM.lt (y5.1 == 1) fun y10 =>
      if y10 = true then
        Option.bind (cutI x1 0 y4.1) fun y11 =>
        Option.bind (Maker_Next N y5.2 256) fun y12 =>
        Option.bind (toU8 (IntKind.wrap .u8 (y12.1))) fun y13 =>
        Option.bind (appI y11 ([y13] : List UInt8)) fun y14 =>
        Option.bind (cutI x1 y4.1 (x1.length : Int)) fun y15 =>
        Option.bind (appI y14 y15) fun y16 =>
        some (y16, y12.2)
      else
        AM.lt (y5.1 == 2) fun y17 =>
        if y17 = true then
          Option.bind (cutI x1 0 y4.1) fun y18 =>
          Option.bind (Maker_Next N y5.2 10) fun y19 =>
          Option.bind (toU8 (IntKind.wrap .u8 ((IntKind.wrap .i64 (48 + y19.1))))) fun y20 =>
          Option.bind (appI y18 ([y20] : List UInt8)) fun y21 =>
          Option.bind (cutI x1 (IntKind.wrap .i64 (y4.1 + 1)) (x1.length : Int)) fun y22 =>
          Option.bind (appI y21 y22) fun y23 =>
          some (y23, y19.2)
        else
          Option.bind (cutI x1 0 y4.1) fun y24 =>
          Option.bind (Maker_Next N y5.2 256) fun y25 =>
          Option.bind (toU8 (IntKind.wrap .u8 (y25.1))) fun y26 =>
          Option.bind (appI y24 ([y26] : List UInt8)) fun y27 =>
          Option.bind (cutI x1 (IntKind.wrap .i64 (y4.1 + 1)) (x1.length : Int)) fun y28 =>
          Option.bind (appI y27 y28) fun y29 =>
          some (y29, y25.2)
/-! ### (*humpyard/humpgen.Maker).SpoilWagon -/
def Maker_SpoilWagon_0 (N : Nat) (x0 : Maker) (x3 : Wagon) (x6 : Int) : Option (Maker × Wagon) :=
  AM.lt (x6 == 0) fun y2 =>
  if y2 = true then
    Option.bind (Maker_Spoil N x0 x3.number) fun y3 =>
    some (y3.2, (Wagon.mk y3.1 x3.length x3.axles x3.mass x3.brake x3.goods x3.gentle x3.dest))
  else
    AM.lt (x6 == 1) fun y4 =>
    if y4 = true then
      Option.bind (Maker_Pick N x0 ([0, 2, 4, 6, 8, (-1)] : List Int)) fun y5 =>
      some (y5.2, (Wagon.mk x3.number x3.length y5.1 x3.mass x3.brake x3.goods x3.gentle x3.dest))
    else
      AM.lt (x6 == 2) fun y6 =>
      if y6 = true then
        Option.bind (Maker_Pick N x0 ([79, 80, 119, 401, 0, (-5)] : List Int)) fun y7 =>
        some (y7.2, (Wagon.mk x3.number y7.1 x3.axles x3.mass x3.brake x3.goods x3.gentle x3.dest))
      else
        AM.lt (x6 == 3) fun y8 =>
        if y8 = true then
          Option.bind (Maker_Pick N x0 ([49, 50, 2001, (-1)] : List Int)) fun y9 =>
          some (y9.2, (Wagon.mk x3.number x3.length x3.axles y9.1 x3.brake x3.goods x3.gentle x3.dest))
        else
          AM.lt (x6 == 4) fun y10 =>
          if y10 = true then
            Option.bind (Maker_Pick N x0 ([(-1), x3.mass, (IntKind.wrap .i64 (x3.mass + 1))] : List Int)) fun y11 =>
            some (y11.2, (Wagon.mk x3.number x3.length x3.axles x3.mass y11.1 x3.goods x3.gentle x3.dest))
          else
            AM.lt (x6 == 5) fun y12 =>
            if y12 = true then
              Option.bind (Maker_Pick N x0 ([(-1), 9, 10] : List Int)) fun y13 =>
              some (y13.2, (Wagon.mk x3.number x3.length x3.axles x3.mass x3.brake y13.1 x3.gentle x3.dest))
            else
              AM.lt (x6 == 6) fun y14 =>
              if y14 = true then
                Option.bind (Maker_Next N x0 5) fun y15 =>
                Option.bind (getI ([[], [65], [97, 32, 98], [97, 98, 99, 100, 101, 102, 103, 104, 105, 106, 107, 108, 109], [45]] : List (List UInt8)) y15.1) fun y16 =>
                Option.bind (getI ([[], [65], [97, 32, 98], [97, 98, 99, 100, 101, 102, 103, 104, 105, 106, 107, 108, 109], [45]] : List (List UInt8)) y15.1) fun y17 =>
                some (y15.2, (Wagon.mk x3.number x3.length x3.axles x3.mass x3.brake x3.goods x3.gentle y17))
              else
                some (x0, x3)
def Maker_SpoilWagon (N : Nat) (x0 : Maker) (x1 : Wagon) : Option (Wagon × Maker) :=
  Option.bind (Maker_Next N x0 8) fun y1 =>
  Option.bind (Maker_SpoilWagon_0 N y1.2 x1 y1.1) fun y18 =>
  some (y18.2, y18.1)
/-! ### humpyard/rulebook.valid -/
def rulebook_valid_1 (N : Nat) (x4 : Int) : Option Bool :=
  if (decide (x4 < 0)) = true then
    some true
  else
    some (decide (1000000 < x4))
def rulebook_valid_0 (N : Nat) (x11 : List Int) (x12 : Int) : Nat → Int → Option (Sum (Unit) (Bool))
  | 0, _ => none
  | n + 1, x13 =>
    if (decide (x13 < x12)) = true then
      Option.bind (getI x11 x13) fun y1 =>
      Option.bind (getI x11 x13) fun y2 =>
      Option.bind (rulebook_valid_1 N y2) fun y3 =>
      if y3 = true then
        some (Sum.inr false)
      else
        rulebook_valid_0 N x11 x12 n (IntKind.wrap .i64 (x13 + 1))
    else
      some (Sum.inl ())
def rulebook_valid_2 (N : Nat) (x1 : Rule) : Option Bool :=
  if (decide (1 ≤ x1.number)) = true then
    if (decide (x1.number ≤ 9999)) = true then
      if (decide (1 ≤ x1.kind)) = true then
        AM.lt (decide (x1.kind ≤ 9)) fun y6 =>
        some y6
      else
        some false
    else
      some false
  else
    some false
def rulebook_valid (N : Nat) (x0 : Rule) : Option Bool :=
  Option.bind (rulebook_valid_0 N ([x0.a, x0.b, x0.c] : List Int) (([x0.a, x0.b, x0.c] : List Int).length : Int) N 0) fun y4 =>
  match y4 with
  | Sum.inl y5 =>
    Option.bind (rulebook_valid_2 N x0) fun y7 =>
    some y7
  | Sum.inr y8 =>
    some y8
/-! ### humpyard/rulebook.Valid$1 -/
def rulebook_Valid_1 (N : Nat) (x0 : Rule) (x1 : Rule) : Option Bool :=
  AM.lt (x0.number == x1.number) fun y1 =>
  some y1
/-! ### slices.IndexFunc[[]humpyard/api.Rule,humpyard/api.Rule] -/
def slices_IndexFunc_api_Rule_api_Rule__rulebook_Valid_1_0 (N : Nat) (x0 : List Rule) (x1 : Rule) (x7 : Int) : Nat → Int → Option (Sum (Unit) (Int))
  | 0, _ => none
  | n + 1, x8 =>
    if (decide (x8 < x7)) = true then
      Option.bind (getI x0 x8) fun y1 =>
      Option.bind (rulebook_Valid_1 N y1 x1) fun y2 =>
      if y2 = true then
        some (Sum.inr x8)
      else
        slices_IndexFunc_api_Rule_api_Rule__rulebook_Valid_1_0 N x0 x1 x7 n (IntKind.wrap .i64 (x8 + 1))
    else
      some (Sum.inl ())
def slices_IndexFunc_api_Rule_api_Rule__rulebook_Valid_1 (N : Nat) (x0 : List Rule) (x1 : Rule) : Option Int :=
  Option.bind (slices_IndexFunc_api_Rule_api_Rule__rulebook_Valid_1_0 N x0 x1 (x0.length : Int) N 0) fun y3 =>
  match y3 with
  | Sum.inl y4 =>
    some (-1)
  | Sum.inr y5 =>
    some y5
/-! ### slices.ContainsFunc[[]humpyard/api.Rule,humpyard/api.Rule] -/
def slices_ContainsFunc_api_Rule_api_Rule__rulebook_Valid_1 (N : Nat) (x0 : List Rule) (x1 : Rule) : Option Bool :=
  Option.bind (slices_IndexFunc_api_Rule_api_Rule__rulebook_Valid_1 N x0 x1) fun y1 =>
  AM.lt (decide (0 ≤ y1)) fun y2 =>
  some y2
/-! ### humpyard/rulebook.Valid -/
def rulebook_Valid_0 (N : Nat) (x0 : List Rule) (x8 : List Rule) (x9 : Int) : Nat → Int → Option (Sum (Unit) (Int))
  | 0, _ => none
  | n + 1, x10 =>
    if (decide (x10 < x9)) = true then
      Option.bind (getI x8 x10) fun y1 =>
      Option.bind (rulebook_valid N y1) fun y2 =>
      if (!y2) = true then
        some (Sum.inr 1)
      else
        Option.bind (cutI x0 0 x10) fun y3 =>
        Option.bind (slices_ContainsFunc_api_Rule_api_Rule__rulebook_Valid_1 N y3 y1) fun y4 =>
        if y4 = true then
          some (Sum.inr 8)
        else
          rulebook_Valid_0 N x0 x8 x9 n (IntKind.wrap .i64 (x10 + 1))
    else
      some (Sum.inl ())
def rulebook_Valid (N : Nat) (x0 : List Rule) : Option Int :=
  if (decide (32 < (x0.length : Int))) = true then
    some 3
  else
    Option.bind (rulebook_Valid_0 N x0 x0 (x0.length : Int) N 0) fun y5 =>
    match y5 with
    | Sum.inl y6 =>
      some 0
    | Sum.inr y7 =>
      some y7
/-! ### humpyard/wagonnumber.digits -/
def wagonnumber_digits_1 (N : Nat) (x0 : List UInt8) (x5 : Int) : Option Bool :=
  Option.bind (getI x0 x5) fun y1 =>
  if (decide ((UInt8.toNat y1 : Int) < 48)) = true then
    some true
  else
    Option.bind (getI x0 x5) fun y2 =>
    some (decide (57 < (UInt8.toNat y2 : Int)))
def wagonnumber_digits_0 (N : Nat) (x0 : List UInt8) : Nat → Int → Option (Sum (Unit) (Bool))
  | 0, _ => none
  | n + 1, x5 =>
    if (decide (x5 < (x0.length : Int))) = true then
      Option.bind (wagonnumber_digits_1 N x0 x5) fun y3 =>
      if y3 = true then
        some (Sum.inr false)
      else
        AM.lt (IntKind.wrap .i64 (x5 + 1)) fun y4 =>
        wagonnumber_digits_0 N x0 n y4
    else
      some (Sum.inl ())
def wagonnumber_digits (N : Nat) (x0 : List UInt8) (x1 : Int) : Option Bool :=
  Option.bind (wagonnumber_digits_0 N x0 N 0) fun y5 =>
  match y5 with
  | Sum.inl y6 =>
    AM.lt ((x0.length : Int) == x1) fun y7 =>
    some y7
  | Sum.inr y8 =>
    some y8
/-! ### humpyard/wagonnumber.sum -/
def wagonnumber_sum_1 (N : Nat) (x5 : Int) (x19 : Bool) : Option Int :=
  if x19 = true then
    AM.lt (IntKind.wrap .i64 (x5 * 2)) fun y3 =>
    if (decide (9 < y3)) = true then
      AM.lt (IntKind.wrap .i64 (y3 - 9)) fun y4 =>
      some y4
    else
      some y3
  else
    some x5
def wagonnumber_sum_0 (N : Nat) (x0 : List UInt8) : Nat → Int → Int → Option Int
  | 0, _, _ => none
  | n + 1, x3, x4 =>
    if (decide (x4 < (x0.length : Int))) = true then
      Option.bind (getI x0 x4) fun y1 =>
      AM.lt (IntKind.wrap .i64 ((IntKind.wrap .u8 ((UInt8.toNat y1 : Int) - 48)))) fun y2 =>
      Option.bind (wagonnumber_sum_1 N y2 ((Int.tmod x4 2) == 0)) fun y5 =>
      AM.lt (IntKind.wrap .i64 (x3 + y5)) fun y6 =>
      AM.lt (IntKind.wrap .i64 (x4 + 1)) fun y7 =>
      wagonnumber_sum_0 N x0 n y6 y7
    else
      some x3
def wagonnumber_sum (N : Nat) (x0 : List UInt8) : Option Int :=
  Option.bind (wagonnumber_sum_0 N x0 N 0 0) fun y8 =>
  some y8
/-! ### humpyard/wagonnumber.check -/
def wagonnumber_check (N : Nat) (x0 : List UInt8) : Option Int :=
  Option.bind (wagonnumber_sum N x0) fun y1 =>
  AM.lt (Int.tmod (IntKind.wrap .i64 (10 - (Int.tmod y1 10))) 10) fun y2 =>
  some y2
/-! ### humpyard/wagonnumber.Valid -/
def wagonnumber_Valid (N : Nat) (x0 : List UInt8) : Option Int :=
  Option.bind (wagonnumber_digits N x0 12) fun y1 =>
  if (!y1) = true then
    some 11
  else
    Option.bind (getI x0 11) fun y2 =>
    Option.bind (cutI x0 0 11) fun y3 =>
    Option.bind (wagonnumber_check N y3) fun y4 =>
    if ((IntKind.wrap .i64 ((IntKind.wrap .u8 ((UInt8.toNat y2 : Int) - 48)))) != y4) = true then
      some 9
    else
      some 0
/-! ### humpyard/wagonnumber.Kind -/
def wagonnumber_Kind_0 (N : Nat) (x11 : Int) (x12 : Bool) : Option Bool :=
  if x12 = true then
    some x12
  else
    AM.lt (x11 == 56) fun y4 =>
    some y4
def wagonnumber_Kind_1 (N : Nat) (x11 : Int) (x15 : Bool) : Option Bool :=
  if x15 = true then
    some x15
  else
    AM.lt (x11 == 52) fun y7 =>
    some y7
def wagonnumber_Kind (N : Nat) (x0 : List UInt8) : Option (Int × Int) :=
  Option.bind (wagonnumber_Valid N x0) fun y1 =>
  if (y1 != 0) = true then
    some (0, y1)
  else
    Option.bind (getI x0 4) fun y2 =>
    AM.lt ((UInt8.toNat y2 : Int) == 55) fun y3 =>
    Option.bind (wagonnumber_Kind_0 N (UInt8.toNat y2 : Int) y3) fun y5 =>
    if y5 = true then
      some (1, 0)
    else
      AM.lt ((UInt8.toNat y2 : Int) == 50) fun y6 =>
      Option.bind (wagonnumber_Kind_1 N (UInt8.toNat y2 : Int) y6) fun y8 =>
      if y8 = true then
        some (2, 0)
      else
        AM.lt ((UInt8.toNat y2 : Int) == 57) fun y9 =>
        if y9 = true then
          some (3, 0)
        else
          some (0, 0)
/-! ### humpyard/consist.axles -/
def consist_axles (N : Nat) (x0 : Int) : Option Int :=
  AM.lt (x0 == 2) fun y1 =>
  if y1 = true then
    some 2
  else
    AM.lt (x0 == 3) fun y2 =>
    if y2 = true then
      some 6
    else
      some 4
/-! ### humpyard/consist.name -/
def consist_name_1 (N : Nat) (x4 : Int) : Option Bool :=
  if (decide (x4 < 97)) = true then
    if (decide (x4 < 48)) = true then
      some true
    else
      some (decide (57 < x4))
  else
    if (decide (122 < x4)) = true then
      if (decide (x4 < 48)) = true then
        some true
      else
        some (decide (57 < x4))
    else
      some false
def consist_name_0 (N : Nat) (x0 : List UInt8) : Nat → Int → Option (Sum (Unit) (Bool))
  | 0, _ => none
  | n + 1, x3 =>
    if (decide (x3 < (x0.length : Int))) = true then
      Option.bind (getI x0 x3) fun y1 =>
      AM.lt (UInt8.toNat y1 : Int) fun y2 =>
      Option.bind (consist_name_1 N y2) fun y3 =>
      if y3 = true then
        some (Sum.inr false)
      else
        AM.lt (IntKind.wrap .i64 (x3 + 1)) fun y4 =>
        consist_name_0 N x0 n y4
    else
      some (Sum.inl ())
def consist_name_2 (N : Nat) (x0 : List UInt8) : Option Bool :=
  if (decide (0 < (x0.length : Int))) = true then
    AM.lt (decide ((x0.length : Int) ≤ 12)) fun y7 =>
    some y7
  else
    some false
def consist_name (N : Nat) (x0 : List UInt8) : Option Bool :=
  Option.bind (consist_name_0 N x0 N 0) fun y5 =>
  match y5 with
  | Sum.inl y6 =>
    Option.bind (consist_name_2 N x0) fun y8 =>
    some y8
  | Sum.inr y9 =>
    some y9
/-! ### humpyard/consist.Valid -/
def consist_Valid_0 (N : Nat) (x5 : Int) (x16 : Bool) : Option Int :=
  if x16 = true then
    some 120
  else
    some x5
def consist_Valid_1 (N : Nat) (x1 : Wagon) (x5 : Int) : Option Bool :=
  if (decide (x1.length < x5)) = true then
    some true
  else
    if (decide (400 < x1.length)) = true then
      some true
    else
      if (decide (x1.mass < 50)) = true then
        some true
      else
        AM.lt (decide (2000 < x1.mass)) fun y5 =>
        some y5
def consist_Valid_2 (N : Nat) (x1 : Wagon) : Option Bool :=
  if (decide (x1.brake < 0)) = true then
    some true
  else
    if (decide (x1.mass < x1.brake)) = true then
      some true
    else
      if (decide (x1.goods < 0)) = true then
        some true
      else
        AM.lt (decide (9 < x1.goods)) fun y7 =>
        some y7
def consist_Valid (N : Nat) (x0 : Wagon) : Option Int :=
  Option.bind (wagonnumber_Kind N x0.number) fun y1 =>
  if (y1.2 != 0) = true then
    some y1.2
  else
    Option.bind (consist_Valid_0 N 80 (y1.1 == 3)) fun y2 =>
    Option.bind (consist_axles N y1.1) fun y3 =>
    AM.lt (x0.axles != y3) fun y4 =>
    if y4 = true then
      some 1
    else
      Option.bind (consist_Valid_1 N x0 y2) fun y6 =>
      if y6 = true then
        some 2
      else
        Option.bind (consist_Valid_2 N x0) fun y8 =>
        if y8 = true then
          some 2
        else
          Option.bind (consist_name N x0.dest) fun y9 =>
          AM.lt (!y9) fun y10 =>
          if y10 = true then
            some 7
          else
            some 0
/-! ### humpyard/consist.check -/
def consist_check_0 (N : Nat) (x11 : List Wagon) (x12 : Int) : Nat → (List ((List UInt8) × Bool)) → Int → Option (Sum (Unit) (Int))
  | 0, _, _ => none
  | n + 1, x3, x13 =>
    if (decide (x13 < x12)) = true then
      Option.bind (getI x11 x13) fun y1 =>
      Option.bind (consist_Valid N y1) fun y2 =>
      if (y2 != 0) = true then
        some (Sum.inr y2)
      else
        AM.lt (mpGet x3 y1.number) fun y3 =>
        if (y3.getD false) = true then
          some (Sum.inr 8)
        else
          AM.lt (mpSet x3 y1.number true) fun y4 =>
          consist_check_0 N x11 x12 n y4 (IntKind.wrap .i64 (x13 + 1))
    else
      some (Sum.inl ())
def consist_check (N : Nat) (x0 : List Wagon) : Option Int :=
  if (decide (96 < (x0.length : Int))) = true then
    some 3
  else
    Option.bind (consist_check_0 N x0 (x0.length : Int) N [] 0) fun y5 =>
    match y5 with
    | Sum.inl y6 =>
      some 0
    | Sum.inr y7 =>
      some y7
/-! ### humpyard/consist.Total -/
def consist_Total_0 (N : Nat) (x14 : List Wagon) (x15 : Int) : Nat → Int → Int → Int → Int → Option (Int × Int × Int)
  | 0, _, _, _, _ => none
  | n + 1, x2, x3, x4, x16 =>
    if (decide (x16 < x15)) = true then
      Option.bind (getI x14 x16) fun y2 =>
      AM.lt (IntKind.wrap .i64 (x2 + y2.length)) fun y3 =>
      AM.lt (IntKind.wrap .i64 (x3 + y2.mass)) fun y4 =>
      AM.lt (IntKind.wrap .i64 (x4 + y2.axles)) fun y5 =>
      consist_Total_0 N x14 x15 n y3 y4 y5 (IntKind.wrap .i64 (x16 + 1))
    else
      some (x2, x3, x4)
def consist_Total (N : Nat) (x0 : List Wagon) : Option (Int × Int × Int × Int) :=
  Option.bind (consist_check N x0) fun y1 =>
  if (y1 != 0) = true then
    some (0, 0, 0, y1)
  else
    Option.bind (consist_Total_0 N x0 (x0.length : Int) N 0 0 0 0) fun y6 =>
    some (y6.1, y6.2.1, y6.2.2, 0)
/-! ### humpyard/brake.in -/
def brake_in_0 (N : Nat) (x0 : Int) (x1 : Int) (x2 : Int) : Option Bool :=
  if (decide (x1 ≤ x0)) = true then
    AM.lt (decide (x0 ≤ x2)) fun y1 =>
    some y1
  else
    some false
def brake_in (N : Nat) (x0 : Int) (x1 : Int) (x2 : Int) : Option Bool :=
  Option.bind (brake_in_0 N x0 x1 x2) fun y2 =>
  some y2
/-! ### humpyard/brake.Factor -/
def brake_Factor (N : Nat) (x0 : Int) : Option Int :=
  if (decide (x0 ≤ 5000)) = true then
    some 100
  else
    if (decide (10000 < x0)) = true then
      some 80
    else
      AM.lt (max 80 (IntKind.wrap .i64 (100 - (IntKind.wrap .i64 (Int.tdiv (IntKind.wrap .i64 ((IntKind.wrap .i64 (x0 - 5000)) + 99)) 100))))) fun y1 =>
      some y1
/-! ### humpyard/brake.Total -/
def brake_Total_0 (N : Nat) (x0 : List Wagon) (x32 : List Int) (x33 : Int) : Nat → Brakes → Int → Option (Sum (Brakes) (Brakes × Int))
  | 0, _, _ => none
  | n + 1, x4, x34 =>
    if (decide (x34 < x33)) = true then
      Option.bind (getI x32 x34) fun y3 =>
      Option.bind (brake_in N y3 0 (IntKind.wrap .i64 ((x0.length : Int) - 1))) fun y4 =>
      if (!y4) = true then
        some (Sum.inr ((Brakes.mk 0 0 0 0 0 0 0), 2))
      else
        brake_Total_0 N x0 x32 x33 n x4 (IntKind.wrap .i64 (x34 + 1))
    else
      some (Sum.inl x4)
def brake_Total_1 (N : Nat) (x46 : List Int) (x47 : Int) : Nat → Brakes → (List Bool) → Int → Option (Sum (Brakes × List Bool) (Brakes × Int))
  | 0, _, _, _ => none
  | n + 1, x4, x10, x48 =>
    if (decide (x48 < x47)) = true then
      Option.bind (getI x46 x48) fun y7 =>
      Option.bind (getI x10 y7) fun y8 =>
      Option.bind (getI x10 y7) fun y9 =>
      if y9 = true then
        some (Sum.inr ((Brakes.mk 0 0 0 0 0 0 0), 8))
      else
        Option.bind (getI x10 y7) fun y10 =>
        Option.bind (getI x10 y7) fun y11 =>
        AM.lt (x10.set ((y7 : Int).toNat) true) fun y12 =>
        brake_Total_1 N x46 x47 n x4 y12 (IntKind.wrap .i64 (x48 + 1))
    else
      some (Sum.inl (x4, x10))
def brake_Total_3 (N : Nat) (x10 : List Bool) (x15 : Brakes) (x65 : List Wagon) (x67 : Int) : Option Brakes :=
  Option.bind (getI x65 x67) fun y15 =>
  Option.bind (getI x10 x67) fun y16 =>
  Option.bind (getI x10 x67) fun y17 =>
  if (!y17) = true then
    some (Brakes.mk x15.length x15.axles x15.mass (IntKind.wrap .i64 (x15.braked + y15.brake)) x15.percent x15.required x15.missing)
  else
    some x15
def brake_Total_2 (N : Nat) (x10 : List Bool) (x65 : List Wagon) (x66 : Int) : Nat → Brakes → Int → Option Brakes
  | 0, _, _ => none
  | n + 1, x15, x67 =>
    if (decide (x67 < x66)) = true then
      Option.bind (brake_Total_3 N x10 x15 x65 x67) fun y18 =>
      brake_Total_2 N x10 x65 x66 n y18 (IntKind.wrap .i64 (x67 + 1))
    else
      some x15
def brake_Total_4 (N : Nat) (x7 : Int) (x15 : Brakes) (x92 : Bool) : Option Brakes :=
  if x92 = true then
    Option.bind (divI (IntKind.wrap .i64 (100 * x15.braked)) x7) fun y21 =>
    some (Brakes.mk x15.length x15.axles x15.mass x15.braked (IntKind.wrap .i64 (y21)) x15.required x15.missing)
  else
    some x15
def brake_Total (N : Nat) (x0 : List Wagon) (x1 : List Int) : Option (Brakes × Int) :=
  Option.bind (consist_Total N x0) fun y1 =>
  if (y1.2.2.2 != 0) = true then
    some ((Brakes.mk 0 0 0 0 0 0 0), y1.2.2.2)
  else
    Option.bind (mkI false (x0.length : Int)) fun y2 =>
    Option.bind (brake_Total_0 N x0 x1 (x1.length : Int) N (Brakes.mk 0 0 0 0 0 0 0) 0) fun y5 =>
    match y5 with
    | Sum.inl y6 =>
      Option.bind (brake_Total_1 N x1 (x1.length : Int) N y6 y2 0) fun y13 =>
      match y13 with
      | Sum.inl y14 =>
        Option.bind (brake_Total_2 N y14.2 x0 (x0.length : Int) N (Brakes.mk y1.1 y1.2.2.1 y1.2.1 0 0 0 0) 0) fun y19 =>
        Option.bind (brake_Factor N y1.1) fun y20 =>
        Option.bind (brake_Total_4 N y1.2.1 (Brakes.mk y19.length y19.axles y19.mass (IntKind.wrap .i64 (Int.tdiv (IntKind.wrap .i64 (y19.braked * y20)) 100)) y19.percent y19.required y19.missing) (decide (0 < y1.2.1))) fun y22 =>
        some (y22, 0)
      | Sum.inr y23 =>
        some (y23.1, y23.2)
    | Sum.inr y24 =>
      some (y24.1, y24.2)
/-! ### (humpyard/rulebook.train).place$1 -/
def rulebook_train_place_1 (N : Nat) (x0 : Wagon) : Option Int :=
  some x0.length
/-! ### (humpyard/rulebook.train).beyond -/
def train_beyond__rulebook_train_place_1_0 (N : Nat) (x1 : Int) (x11 : List Wagon) (x12 : Int) : Nat → Int → Int → Option (Sum (Unit) (Int))
  | 0, _, _ => none
  | n + 1, x7, x13 =>
    if (decide (x13 < x12)) = true then
      Option.bind (getI x11 x13) fun y1 =>
      Option.bind (rulebook_train_place_1 N y1) fun y2 =>
      AM.lt (IntKind.wrap .i64 (x7 + y2)) fun y3 =>
      if (decide (x1 < y3)) = true then
        some (Sum.inr x13)
      else
        train_beyond__rulebook_train_place_1_0 N x1 x11 x12 n y3 (IntKind.wrap .i64 (x13 + 1))
    else
      some (Sum.inl ())
def train_beyond__rulebook_train_place_1 (N : Nat) (x0 : Train) (x1 : Int) : Option Int :=
  Option.bind (train_beyond__rulebook_train_place_1_0 N x1 x0.l (x0.l.length : Int) N 0 0) fun y4 =>
  match y4 with
  | Sum.inl y5 =>
    some (-1)
  | Sum.inr y6 =>
    some y6
/-! ### (humpyard/rulebook.train).place$2 -/
def rulebook_train_place_2 (N : Nat) (x0 : Wagon) : Option Int :=
  some x0.axles
/-! ### (humpyard/rulebook.train).beyond -/
def train_beyond__rulebook_train_place_2_0 (N : Nat) (x1 : Int) (x11 : List Wagon) (x12 : Int) : Nat → Int → Int → Option (Sum (Unit) (Int))
  | 0, _, _ => none
  | n + 1, x7, x13 =>
    if (decide (x13 < x12)) = true then
      Option.bind (getI x11 x13) fun y1 =>
      Option.bind (rulebook_train_place_2 N y1) fun y2 =>
      AM.lt (IntKind.wrap .i64 (x7 + y2)) fun y3 =>
      if (decide (x1 < y3)) = true then
        some (Sum.inr x13)
      else
        train_beyond__rulebook_train_place_2_0 N x1 x11 x12 n y3 (IntKind.wrap .i64 (x13 + 1))
    else
      some (Sum.inl ())
def train_beyond__rulebook_train_place_2 (N : Nat) (x0 : Train) (x1 : Int) : Option Int :=
  Option.bind (train_beyond__rulebook_train_place_2_0 N x1 x0.l (x0.l.length : Int) N 0 0) fun y4 =>
  match y4 with
  | Sum.inl y5 =>
    some (-1)
  | Sum.inr y6 =>
    some y6
/-! ### (humpyard/rulebook.train).place$3 -/
def rulebook_train_place_3 (N : Nat) (x0 : Wagon) : Option Int :=
  some x0.mass
/-! ### (humpyard/rulebook.train).beyond -/
def train_beyond__rulebook_train_place_3_0 (N : Nat) (x1 : Int) (x11 : List Wagon) (x12 : Int) : Nat → Int → Int → Option (Sum (Unit) (Int))
  | 0, _, _ => none
  | n + 1, x7, x13 =>
    if (decide (x13 < x12)) = true then
      Option.bind (getI x11 x13) fun y1 =>
      Option.bind (rulebook_train_place_3 N y1) fun y2 =>
      AM.lt (IntKind.wrap .i64 (x7 + y2)) fun y3 =>
      if (decide (x1 < y3)) = true then
        some (Sum.inr x13)
      else
        train_beyond__rulebook_train_place_3_0 N x1 x11 x12 n y3 (IntKind.wrap .i64 (x13 + 1))
    else
      some (Sum.inl ())
def train_beyond__rulebook_train_place_3 (N : Nat) (x0 : Train) (x1 : Int) : Option Int :=
  Option.bind (train_beyond__rulebook_train_place_3_0 N x1 x0.l (x0.l.length : Int) N 0 0) fun y4 =>
  match y4 with
  | Sum.inl y5 =>
    some (-1)
  | Sum.inr y6 =>
    some y6
/-! ### (humpyard/rulebook.train).end -/
def train_end (N : Nat) (x0 : Train) (x1 : Bool) : Option Int :=
  if x1 = true then
    AM.lt (x0.l.length : Int) fun y1 =>
    some y1
  else
    some (-1)
/-! ### (humpyard/rulebook.train).apart -/
def train_apart_1 (N : Nat) (x2 : Int) (x4 : Rule) (x7 : Int) (x8 : Int) (x9 : Int) : Option Bool :=
  if (decide ((IntKind.wrap .i64 ((IntKind.wrap .i64 (x2 - x7)) - 1)) < x4.c)) = true then
    if (x8 == x4.a) = true then
      if (x9 == x4.b) = true then
        some true
      else
        if (x8 == x4.b) = true then
          some (x9 == x4.a)
        else
          some false
    else
      if (x8 == x4.b) = true then
        some (x9 == x4.a)
      else
        some false
  else
    some false
def train_apart_0 (N : Nat) (x2 : Int) (x3 : Train) (x4 : Rule) (x10 : Int) : Nat → Int → Option (Sum (Unit) (Bool))
  | 0, _ => none
  | n + 1, x11 =>
    if (decide (x11 < x10)) = true then
      Option.bind (getI x3.l x11) fun y1 =>
      Option.bind (getI x3.l x2) fun y2 =>
      Option.bind (train_apart_1 N x2 x4 x11 y1.goods y2.goods) fun y3 =>
      if y3 = true then
        some (Sum.inr true)
      else
        train_apart_0 N x2 x3 x4 x10 n (IntKind.wrap .i64 (x11 + 1))
    else
      some (Sum.inl ())
def train_apart (N : Nat) (x0 : Train) (x1 : Rule) (x2 : Int) : Option Bool :=
  Option.bind (train_apart_0 N x2 x0 x1 x2 N 0) fun y4 =>
  match y4 with
  | Sum.inl y5 =>
    some false
  | Sum.inr y6 =>
    some y6
/-! ### (humpyard/rulebook.train).place$4 -/
def rulebook_train_place_4 (N : Nat) (x0 : Int) (x2 : Train) (x3 : Rule) : Option Bool :=
  Option.bind (train_apart N x2 x3 x0) fun y1 =>
  some y1
/-! ### (humpyard/rulebook.train).first -/
def train_first__rulebook_train_place_4_0 (N : Nat) (x1 : Train × Rule) (x8 : List Wagon) (x9 : Int) : Nat → Int → Option (Sum (Unit) (Int))
  | 0, _ => none
  | n + 1, x10 =>
    if (decide (x10 < x9)) = true then
      Option.bind (getI x8 x10) fun y1 =>
      Option.bind (rulebook_train_place_4 N x10 x1.1 x1.2) fun y2 =>
      if y2 = true then
        some (Sum.inr x10)
      else
        train_first__rulebook_train_place_4_0 N x1 x8 x9 n (IntKind.wrap .i64 (x10 + 1))
    else
      some (Sum.inl ())
def train_first__rulebook_train_place_4 (N : Nat) (x0 : Train) (x1 : Train × Rule) : Option Int :=
  Option.bind (train_first__rulebook_train_place_4_0 N (x1.1, x1.2) x0.l (x0.l.length : Int) N 0) fun y3 =>
  match y3 with
  | Sum.inl y4 =>
    some (-1)
  | Sum.inr y5 =>
    some y5
/-! ### (humpyard/rulebook.train).place$5 -/
def rulebook_train_place_5_0 (N : Nat) (x0 : Int) (x2 : Rule) (x4 : Wagon) : Option Bool :=
  if (x4.goods == x2.a) = true then
    AM.lt (decide (x0 < x2.b)) fun y1 =>
    some y1
  else
    some false
def rulebook_train_place_5 (N : Nat) (x0 : Int) (x1 : Wagon) (x2 : Rule) : Option Bool :=
  Option.bind (rulebook_train_place_5_0 N x0 x2 x1) fun y2 =>
  some y2
/-! ### (humpyard/rulebook.train).first -/
def train_first__rulebook_train_place_5_0 (N : Nat) (x1 : Rule) (x8 : List Wagon) (x9 : Int) : Nat → Int → Option (Sum (Unit) (Int))
  | 0, _ => none
  | n + 1, x10 =>
    if (decide (x10 < x9)) = true then
      Option.bind (getI x8 x10) fun y1 =>
      Option.bind (rulebook_train_place_5 N x10 y1 x1) fun y2 =>
      if y2 = true then
        some (Sum.inr x10)
      else
        train_first__rulebook_train_place_5_0 N x1 x8 x9 n (IntKind.wrap .i64 (x10 + 1))
    else
      some (Sum.inl ())
def train_first__rulebook_train_place_5 (N : Nat) (x0 : Train) (x1 : Rule) : Option Int :=
  Option.bind (train_first__rulebook_train_place_5_0 N x1 x0.l (x0.l.length : Int) N 0) fun y3 =>
  match y3 with
  | Sum.inl y4 =>
    some (-1)
  | Sum.inr y5 =>
    some y5
/-! ### slices.Index[[]int,int] -/
def slices_Index_int_int_0 (N : Nat) (x0 : List Int) (x1 : Int) (x7 : Int) : Nat → Int → Option (Sum (Unit) (Int))
  | 0, _ => none
  | n + 1, x8 =>
    if (decide (x8 < x7)) = true then
      Option.bind (getI x0 x8) fun y1 =>
      if (x1 == y1) = true then
        some (Sum.inr x8)
      else
        slices_Index_int_int_0 N x0 x1 x7 n (IntKind.wrap .i64 (x8 + 1))
    else
      some (Sum.inl ())
def slices_Index_int_int (N : Nat) (x0 : List Int) (x1 : Int) : Option Int :=
  Option.bind (slices_Index_int_int_0 N x0 x1 (x0.length : Int) N 0) fun y2 =>
  match y2 with
  | Sum.inl y3 =>
    some (-1)
  | Sum.inr y4 =>
    some y4
/-! ### slices.Contains[[]int,int] -/
def slices_Contains_int_int (N : Nat) (x0 : List Int) (x1 : Int) : Option Bool :=
  Option.bind (slices_Index_int_int N x0 x1) fun y1 =>
  AM.lt (decide (0 ≤ y1)) fun y2 =>
  some y2
/-! ### (humpyard/rulebook.train).tail -/
def train_tail_2 (N : Nat) (x2 : Train) (x7 : Int) : Option Bool :=
  Option.bind (getI x2.l x7) fun y3 =>
  if (decide (0 < y3.brake)) = true then
    Option.bind (slices_Contains_int_int N x2.off x7) fun y4 =>
    some (!y4)
  else
    some false
def train_tail_1 (N : Nat) (x2 : Train) (x6 : Int) (x7 : Int) : Option Int :=
  Option.bind (train_tail_2 N x2 x7) fun y5 =>
  if y5 = true then
    AM.lt (IntKind.wrap .i64 (x6 + 1)) fun y6 =>
    some y6
  else
    some x6
def train_tail_0 (N : Nat) (x2 : Train) : Nat → Int → Int → Option Int
  | 0, _, _ => none
  | n + 1, x6, x7 =>
    if (decide (x7 < (x2.l.length : Int))) = true then
      Option.bind (train_tail_1 N x2 x6 x7) fun y7 =>
      AM.lt (IntKind.wrap .i64 (x7 + 1)) fun y8 =>
      train_tail_0 N x2 n y7 y8
    else
      some x6
def train_tail (N : Nat) (x0 : Train) (x1 : Rule) : Option Bool :=
  AM.lt (min x1.a (x0.l.length : Int)) fun y1 =>
  AM.lt (IntKind.wrap .i64 ((x0.l.length : Int) - y1)) fun y2 =>
  Option.bind (train_tail_0 N x0 N 0 y2) fun y9 =>
  AM.lt (decide (y9 < (min x1.b y1))) fun y10 =>
  some y10
/-! ### (humpyard/rulebook.train).place$6 -/
def rulebook_train_place_6 (N : Nat) (x1 : Wagon) (x2 : Rule) : Option Bool :=
  AM.lt (decide ((IntKind.wrap .i64 (x2.a * x1.axles)) < x1.mass)) fun y1 =>
  some y1
/-! ### (humpyard/rulebook.train).first -/
def train_first__rulebook_train_place_6_0 (N : Nat) (x1 : Rule) (x8 : List Wagon) (x9 : Int) : Nat → Int → Option (Sum (Unit) (Int))
  | 0, _ => none
  | n + 1, x10 =>
    if (decide (x10 < x9)) = true then
      Option.bind (getI x8 x10) fun y1 =>
      Option.bind (rulebook_train_place_6 N y1 x1) fun y2 =>
      if y2 = true then
        some (Sum.inr x10)
      else
        train_first__rulebook_train_place_6_0 N x1 x8 x9 n (IntKind.wrap .i64 (x10 + 1))
    else
      some (Sum.inl ())
def train_first__rulebook_train_place_6 (N : Nat) (x0 : Train) (x1 : Rule) : Option Int :=
  Option.bind (train_first__rulebook_train_place_6_0 N x1 x0.l (x0.l.length : Int) N 0) fun y3 =>
  match y3 with
  | Sum.inl y4 =>
    some (-1)
  | Sum.inr y5 =>
    some y5
/-! ### (humpyard/rulebook.train).behind -/
def train_behind_0 (N : Nat) (x12 : List Wagon) (x13 : Int) : Nat → Int → Int → Option Int
  | 0, _, _ => none
  | n + 1, x5, x14 =>
    if (decide (x14 < x13)) = true then
      Option.bind (getI x12 x14) fun y2 =>
      AM.lt (IntKind.wrap .i64 (x5 + y2.mass)) fun y3 =>
      train_behind_0 N x12 x13 n y3 (IntKind.wrap .i64 (x14 + 1))
    else
      some x5
def train_behind (N : Nat) (x0 : Train) (x1 : Int) : Option Int :=
  Option.bind (cutI x0.l (IntKind.wrap .i64 (x1 + 1)) (x0.l.length : Int)) fun y1 =>
  Option.bind (train_behind_0 N y1 (y1.length : Int) N 0 0) fun y4 =>
  some y4
/-! ### (humpyard/rulebook.train).place$7 -/
def rulebook_train_place_7_0 (N : Nat) (x0 : Int) (x2 : Rule) (x3 : Train) (x5 : Wagon) : Option Bool :=
  if (decide (x5.mass ≤ x2.a)) = true then
    Option.bind (train_behind N x3 x0) fun y1 =>
    AM.lt (decide (x2.b < y1)) fun y2 =>
    some y2
  else
    some false
def rulebook_train_place_7 (N : Nat) (x0 : Int) (x1 : Wagon) (x2 : Rule) (x3 : Train) : Option Bool :=
  Option.bind (rulebook_train_place_7_0 N x0 x2 x3 x1) fun y3 =>
  some y3
/-! ### (humpyard/rulebook.train).first -/
def train_first__rulebook_train_place_7_0 (N : Nat) (x1 : Rule × Train) (x8 : List Wagon) (x9 : Int) : Nat → Int → Option (Sum (Unit) (Int))
  | 0, _ => none
  | n + 1, x10 =>
    if (decide (x10 < x9)) = true then
      Option.bind (getI x8 x10) fun y1 =>
      Option.bind (rulebook_train_place_7 N x10 y1 x1.1 x1.2) fun y2 =>
      if y2 = true then
        some (Sum.inr x10)
      else
        train_first__rulebook_train_place_7_0 N x1 x8 x9 n (IntKind.wrap .i64 (x10 + 1))
    else
      some (Sum.inl ())
def train_first__rulebook_train_place_7 (N : Nat) (x0 : Train) (x1 : Rule × Train) : Option Int :=
  Option.bind (train_first__rulebook_train_place_7_0 N (x1.1, x1.2) x0.l (x0.l.length : Int) N 0) fun y3 =>
  match y3 with
  | Sum.inl y4 =>
    some (-1)
  | Sum.inr y5 =>
    some y5
/-! ### (humpyard/rulebook.train).place -/
def train_place_0 (N : Nat) (x2 : Train) (x3 : Rule) : Option Int :=
  if (decide (0 < (x2.l.length : Int))) = true then
    Option.bind (train_end N x2 (decide (x2.total.percent < x3.a))) fun y8 =>
    some y8
  else
    Option.bind (train_end N x2 false) fun y9 =>
    some y9
def train_place (N : Nat) (x0 : Train) (x1 : Rule) : Option Int :=
  AM.lt (x1.kind == 1) fun y1 =>
  if y1 = true then
    Option.bind (train_beyond__rulebook_train_place_1 N x0 x1.a) fun y2 =>
    some y2
  else
    AM.lt (x1.kind == 2) fun y3 =>
    if y3 = true then
      Option.bind (train_beyond__rulebook_train_place_2 N x0 x1.a) fun y4 =>
      some y4
    else
      AM.lt (x1.kind == 3) fun y5 =>
      if y5 = true then
        Option.bind (train_beyond__rulebook_train_place_3 N x0 x1.a) fun y6 =>
        some y6
      else
        AM.lt (x1.kind == 4) fun y7 =>
        if y7 = true then
          Option.bind (train_place_0 N x0 x1) fun y10 =>
          some y10
        else
          AM.lt (x1.kind == 5) fun y11 =>
          if y11 = true then
            Option.bind (train_first__rulebook_train_place_4 N x0 (x0, x1)) fun y12 =>
            some y12
          else
            AM.lt (x1.kind == 6) fun y13 =>
            if y13 = true then
              Option.bind (train_first__rulebook_train_place_5 N x0 x1) fun y14 =>
              some y14
            else
              AM.lt (x1.kind == 7) fun y15 =>
              if y15 = true then
                Option.bind (train_tail N x0 x1) fun y16 =>
                Option.bind (train_end N x0 y16) fun y17 =>
                some y17
              else
                AM.lt (x1.kind == 8) fun y18 =>
                if y18 = true then
                  Option.bind (train_first__rulebook_train_place_6 N x0 x1) fun y19 =>
                  some y19
                else
                  Option.bind (train_first__rulebook_train_place_7 N x0 (x1, x0)) fun y20 =>
                  some y20
/-! ### humpyard/rulebook.Check -/
def rulebook_Check_0 (N : Nat) (x10 : Train) (x31 : List Rule) (x32 : Int) : Nat → Int → Option (Sum (Unit) (Int × Int × Int))
  | 0, _ => none
  | n + 1, x33 =>
    if (decide (x33 < x32)) = true then
      Option.bind (getI x31 x33) fun y3 =>
      Option.bind (train_place N x10 y3) fun y4 =>
      if (decide (0 ≤ y4)) = true then
        some (Sum.inr (y3.number, y4, 0))
      else
        rulebook_Check_0 N x10 x31 x32 n (IntKind.wrap .i64 (x33 + 1))
    else
      some (Sum.inl ())
def rulebook_Check (N : Nat) (x0 : List Rule) (x1 : List Wagon) (x2 : List Int) : Option (Int × Int × Int) :=
  Option.bind (rulebook_Valid N x0) fun y1 =>
  if (y1 != 0) = true then
    some (0, 0, y1)
  else
    Option.bind (brake_Total N x1 x2) fun y2 =>
    if (y2.2 != 0) = true then
      some (0, 0, y2.2)
    else
      Option.bind (rulebook_Check_0 N (Train.mk x1 x2 y2.1) x0 (x0.length : Int) N 0) fun y5 =>
      match y5 with
      | Sum.inl y6 =>
        some (0, (-1), 0)
      | Sum.inr y7 =>
        some (y7.1, y7.2.1, y7.2.2)
/-! ### humpyard/humpyardref36.valid -/
def r36_valid_0 (N : Nat) (x1 : Rule) : Option Bool :=
  if (decide (x1.number < 1)) = true then
    some true
  else
    if (decide (9999 < x1.number)) = true then
      some true
    else
      if (decide (x1.kind < 1)) = true then
        some true
      else
        some (decide (9 < x1.kind))
def r36_valid_1 (N : Nat) (x1 : Rule) : Option Bool :=
  if (decide (0 ≤ x1.a)) = true then
    if (decide (x1.a ≤ 1000000)) = true then
      if (decide (0 ≤ x1.b)) = true then
        if (decide (x1.b ≤ 1000000)) = true then
          if (decide (0 ≤ x1.c)) = true then
            AM.lt (decide (x1.c ≤ 1000000)) fun y2 =>
            some y2
          else
            some false
        else
          some false
      else
        some false
    else
      some false
  else
    some false
def r36_valid (N : Nat) (x0 : Rule) : Option Bool :=
  Option.bind (r36_valid_0 N x0) fun y1 =>
  if y1 = true then
    some false
  else
    Option.bind (r36_valid_1 N x0) fun y3 =>
    some y3
/-! ### humpyard/humpyardref36.Valid -/
def r36_Valid_1 (N : Nat) (x0 : List Rule) (x3 : Int) : Nat → Int → Option (Sum (Unit) (Int))
  | 0, _ => none
  | n + 1, x4 =>
    if (decide (x4 < x3)) = true then
      Option.bind (getI x0 x4) fun y3 =>
      Option.bind (getI x0 x3) fun y4 =>
      if (y3.number == y4.number) = true then
        some (Sum.inr 8)
      else
        AM.lt (IntKind.wrap .i64 (x4 + 1)) fun y5 =>
        r36_Valid_1 N x0 x3 n y5
    else
      some (Sum.inl ())
def r36_Valid_0 (N : Nat) (x0 : List Rule) : Nat → Int → Option (Sum (Unit) (Int))
  | 0, _ => none
  | n + 1, x3 =>
    if (decide (x3 < (x0.length : Int))) = true then
      Option.bind (getI x0 x3) fun y1 =>
      Option.bind (r36_valid N y1) fun y2 =>
      if (!y2) = true then
        some (Sum.inr 1)
      else
        Option.bind (r36_Valid_1 N x0 x3 N 0) fun y6 =>
        match y6 with
        | Sum.inl y7 =>
          AM.lt (IntKind.wrap .i64 (x3 + 1)) fun y8 =>
          r36_Valid_0 N x0 n y8
        | Sum.inr y9 =>
          some (Sum.inr y9)
    else
      some (Sum.inl ())
def r36_Valid (N : Nat) (x0 : List Rule) : Option Int :=
  if (decide (32 < (x0.length : Int))) = true then
    some 3
  else
    Option.bind (r36_Valid_0 N x0 N 0) fun y10 =>
    match y10 with
    | Sum.inl y11 =>
      some 0
    | Sum.inr y12 =>
      some y12
/-! ### humpyard/humpyardref02.Valid -/
def r02_Valid (N : Nat) (x0 : List UInt8) : Option Int :=
  Option.bind (r02_digits N x0 12) fun y1 =>
  if (!y1) = true then
    some 11
  else
    Option.bind (r02_sum N x0 11) fun y2 =>
    Option.bind (getI x0 11) fun y3 =>
    if ((Int.tmod (IntKind.wrap .i64 (y2 + (IntKind.wrap .i64 ((IntKind.wrap .u8 ((UInt8.toNat y3 : Int) - 48)))))) 10) != 0) = true then
      some 9
    else
      some 0
/-! ### humpyard/humpyardref02.Kind -/
def r02_Kind_0 (N : Nat) (x11 : Int) (x12 : Bool) : Option Bool :=
  if x12 = true then
    some x12
  else
    AM.lt (x11 == 56) fun y4 =>
    some y4
def r02_Kind_1 (N : Nat) (x11 : Int) (x15 : Bool) : Option Bool :=
  if x15 = true then
    some x15
  else
    AM.lt (x11 == 52) fun y7 =>
    some y7
def r02_Kind (N : Nat) (x0 : List UInt8) : Option (Int × Int) :=
  Option.bind (r02_Valid N x0) fun y1 =>
  if (y1 != 0) = true then
    some (0, y1)
  else
    Option.bind (getI x0 4) fun y2 =>
    AM.lt ((UInt8.toNat y2 : Int) == 55) fun y3 =>
    Option.bind (r02_Kind_0 N (UInt8.toNat y2 : Int) y3) fun y5 =>
    if y5 = true then
      some (1, 0)
    else
      AM.lt ((UInt8.toNat y2 : Int) == 50) fun y6 =>
      Option.bind (r02_Kind_1 N (UInt8.toNat y2 : Int) y6) fun y8 =>
      if y8 = true then
        some (2, 0)
      else
        AM.lt ((UInt8.toNat y2 : Int) == 57) fun y9 =>
        if y9 = true then
          some (3, 0)
        else
          some (0, 0)
/-! ### humpyard/humpyardref06.Name -/
def r06_Name_1 (N : Nat) (x0 : List UInt8) (x3 : Int) : Option Bool :=
  Option.bind (getI x0 x3) fun y1 =>
  if (decide (97 ≤ (UInt8.toNat y1 : Int))) = true then
    Option.bind (getI x0 x3) fun y2 =>
    if (decide ((UInt8.toNat y2 : Int) ≤ 122)) = true then
      some (!true)
    else
      Option.bind (getI x0 x3) fun y3 =>
      if (decide (48 ≤ (UInt8.toNat y3 : Int))) = true then
        Option.bind (getI x0 x3) fun y4 =>
        some (!(decide ((UInt8.toNat y4 : Int) ≤ 57)))
      else
        some (!false)
  else
    Option.bind (getI x0 x3) fun y5 =>
    if (decide (48 ≤ (UInt8.toNat y5 : Int))) = true then
      Option.bind (getI x0 x3) fun y6 =>
      some (!(decide ((UInt8.toNat y6 : Int) ≤ 57)))
    else
      some (!false)
def r06_Name_0 (N : Nat) (x0 : List UInt8) : Nat → Int → Option (Sum (Unit) (Bool))
  | 0, _ => none
  | n + 1, x3 =>
    if (decide (x3 < (x0.length : Int))) = true then
      Option.bind (r06_Name_1 N x0 x3) fun y7 =>
      if y7 = true then
        some (Sum.inr false)
      else
        AM.lt (IntKind.wrap .i64 (x3 + 1)) fun y8 =>
        r06_Name_0 N x0 n y8
    else
      some (Sum.inl ())
def r06_Name_2 (N : Nat) (x0 : List UInt8) : Option Bool :=
  if (decide (1 ≤ (x0.length : Int))) = true then
    AM.lt (decide ((x0.length : Int) ≤ 12)) fun y11 =>
    some y11
  else
    some false
def r06_Name (N : Nat) (x0 : List UInt8) : Option Bool :=
  Option.bind (r06_Name_0 N x0 N 0) fun y9 =>
  match y9 with
  | Sum.inl y10 =>
    Option.bind (r06_Name_2 N x0) fun y12 =>
    some y12
  | Sum.inr y13 =>
    some y13
/-! ### humpyard/humpyardref06.Valid -/
def r06_Valid_0 (N : Nat) (x5 : Int) (x6 : Int) (x16 : Int) : Option (Int × Int) :=
  AM.lt (x16 == 2) fun y2 =>
  if y2 = true then
    some (2, x6)
  else
    AM.lt (x16 == 3) fun y3 =>
    if y3 = true then
      some (6, 120)
    else
      some (x5, x6)
def r06_Valid_1 (N : Nat) (x1 : Wagon) (x6 : Int) : Option Bool :=
  if (decide (x1.length < x6)) = true then
    some true
  else
    if (decide (400 < x1.length)) = true then
      some true
    else
      if (decide (x1.mass < 50)) = true then
        some true
      else
        if (decide (2000 < x1.mass)) = true then
          some true
        else
          if (decide (x1.brake < 0)) = true then
            some true
          else
            if (decide (x1.mass < x1.brake)) = true then
              some true
            else
              if (decide (x1.goods < 0)) = true then
                some true
              else
                AM.lt (decide (9 < x1.goods)) fun y6 =>
                some y6
def r06_Valid (N : Nat) (x0 : Wagon) : Option Int :=
  Option.bind (r02_Kind N x0.number) fun y1 =>
  if (y1.2 != 0) = true then
    some y1.2
  else
    Option.bind (r06_Valid_0 N 4 80 y1.1) fun y4 =>
    AM.lt (x0.axles != y4.1) fun y5 =>
    if y5 = true then
      some 1
    else
      Option.bind (r06_Valid_1 N x0 y4.2) fun y7 =>
      if y7 = true then
        some 2
      else
        Option.bind (r06_Name N x0.dest) fun y8 =>
        AM.lt (!y8) fun y9 =>
        if y9 = true then
          some 7
        else
          some 0
/-! ### humpyard/humpyardref06.ValidList -/
def r06_ValidList_1 (N : Nat) (x0 : List Wagon) (x3 : Int) : Nat → Int → Option (Sum (Unit) (Int))
  | 0, _ => none
  | n + 1, x5 =>
    if (decide (x5 < x3)) = true then
      Option.bind (getI x0 x5) fun y3 =>
      Option.bind (getI x0 x3) fun y4 =>
      if (y3.number == y4.number) = true then
        some (Sum.inr 8)
      else
        AM.lt (IntKind.wrap .i64 (x5 + 1)) fun y5 =>
        r06_ValidList_1 N x0 x3 n y5
    else
      some (Sum.inl ())
def r06_ValidList_0 (N : Nat) (x0 : List Wagon) : Nat → Int → Option (Sum (Unit) (Int))
  | 0, _ => none
  | n + 1, x3 =>
    if (decide (x3 < (x0.length : Int))) = true then
      Option.bind (getI x0 x3) fun y1 =>
      Option.bind (r06_Valid N y1) fun y2 =>
      if (y2 != 0) = true then
        some (Sum.inr y2)
      else
        Option.bind (r06_ValidList_1 N x0 x3 N 0) fun y6 =>
        match y6 with
        | Sum.inl y7 =>
          AM.lt (IntKind.wrap .i64 (x3 + 1)) fun y8 =>
          r06_ValidList_0 N x0 n y8
        | Sum.inr y9 =>
          some (Sum.inr y9)
    else
      some (Sum.inl ())
def r06_ValidList (N : Nat) (x0 : List Wagon) : Option Int :=
  if (decide (96 < (x0.length : Int))) = true then
    some 3
  else
    Option.bind (r06_ValidList_0 N x0 N 0) fun y10 =>
    match y10 with
    | Sum.inl y11 =>
      some 0
    | Sum.inr y12 =>
      some y12
/-! ### humpyard/humpyardref06.Total -/
def r06_Total_0 (N : Nat) (x0 : List Wagon) : Nat → Int → Int → Int → Int → Option (Int × Int × Int)
  | 0, _, _, _, _ => none
  | n + 1, x2, x3, x4, x7 =>
    if (decide (x7 < (x0.length : Int))) = true then
      Option.bind (getI x0 x7) fun y2 =>
      AM.lt (IntKind.wrap .i64 (x2 + y2.length)) fun y3 =>
      Option.bind (getI x0 x7) fun y4 =>
      AM.lt (IntKind.wrap .i64 (x3 + y4.mass)) fun y5 =>
      Option.bind (getI x0 x7) fun y6 =>
      AM.lt (IntKind.wrap .i64 (x4 + y6.axles)) fun y7 =>
      AM.lt (IntKind.wrap .i64 (x7 + 1)) fun y8 =>
      r06_Total_0 N x0 n y3 y5 y7 y8
    else
      some (x2, x3, x4)
def r06_Total (N : Nat) (x0 : List Wagon) : Option (Int × Int × Int × Int) :=
  Option.bind (r06_ValidList N x0) fun y1 =>
  if (y1 != 0) = true then
    some (0, 0, 0, y1)
  else
    Option.bind (r06_Total_0 N x0 N 0 0 0 0) fun y9 =>
    some (y9.1, y9.2.1, y9.2.2, 0)
/-! ### humpyard/humpyardref35.Off -/
def r35_Off_0 (N : Nat) (x0 : List Int) (x1 : Int) : Nat → Int → Option (Sum (Unit) (Bool))
  | 0, _ => none
  | n + 1, x5 =>
    if (decide (x5 < (x0.length : Int))) = true then
      Option.bind (getI x0 x5) fun y1 =>
      if (y1 == x1) = true then
        some (Sum.inr true)
      else
        AM.lt (IntKind.wrap .i64 (x5 + 1)) fun y2 =>
        r35_Off_0 N x0 x1 n y2
    else
      some (Sum.inl ())
def r35_Off (N : Nat) (x0 : List Int) (x1 : Int) : Option Bool :=
  Option.bind (r35_Off_0 N x0 x1 N 0) fun y3 =>
  match y3 with
  | Sum.inl y4 =>
    some false
  | Sum.inr y5 =>
    some y5
/-! ### humpyard/humpyardref35.Factor -/
def r35_Factor (N : Nat) (x0 : Int) : Option Int :=
  if (decide (x0 ≤ 5000)) = true then
    some 100
  else
    if (decide (7000 < x0)) = true then
      some 80
    else
      AM.lt (IntKind.wrap .i64 (100 - (IntKind.wrap .i64 (Int.tdiv (IntKind.wrap .i64 ((IntKind.wrap .i64 (x0 - 5000)) + 99)) 100)))) fun y1 =>
      some y1
/-! ### humpyard/humpyardref35.Total -/
def r35_Total_1 (N : Nat) (x0 : List Wagon) (x1 : List Int) (x10 : Int) : Option Bool :=
  Option.bind (getI x1 x10) fun y2 =>
  if (decide (y2 < 0)) = true then
    some true
  else
    Option.bind (getI x1 x10) fun y3 =>
    some (decide ((x0.length : Int) ≤ y3))
def r35_Total_0 (N : Nat) (x0 : List Wagon) (x1 : List Int) : Nat → Brakes → Int → Option (Sum (Brakes) (Brakes × Int))
  | 0, _, _ => none
  | n + 1, x4, x10 =>
    if (decide (x10 < (x1.length : Int))) = true then
      Option.bind (r35_Total_1 N x0 x1 x10) fun y4 =>
      if y4 = true then
        some (Sum.inr ((Brakes.mk 0 0 0 0 0 0 0), 2))
      else
        AM.lt (IntKind.wrap .i64 (x10 + 1)) fun y5 =>
        r35_Total_0 N x0 x1 n x4 y5
    else
      some (Sum.inl x4)
def r35_Total_2 (N : Nat) (x1 : List Int) : Nat → Brakes → Int → Option (Sum (Brakes) (Brakes × Int))
  | 0, _, _ => none
  | n + 1, x4, x11 =>
    if (decide (x11 < (x1.length : Int))) = true then
      Option.bind (cutI x1 0 x11) fun y8 =>
      Option.bind (getI x1 x11) fun y9 =>
      Option.bind (r35_Off N y8 y9) fun y10 =>
      if y10 = true then
        some (Sum.inr ((Brakes.mk 0 0 0 0 0 0 0), 8))
      else
        AM.lt (IntKind.wrap .i64 (x11 + 1)) fun y11 =>
        r35_Total_2 N x1 n x4 y11
    else
      some (Sum.inl x4)
def r35_Total_4 (N : Nat) (x0 : List Wagon) (x1 : List Int) (x12 : Brakes) (x13 : Int) : Option Brakes :=
  Option.bind (r35_Off N x1 x13) fun y14 =>
  if (!y14) = true then
    Option.bind (getI x0 x13) fun y15 =>
    some (Brakes.mk x12.length x12.axles x12.mass (IntKind.wrap .i64 (x12.braked + y15.brake)) x12.percent x12.required x12.missing)
  else
    some x12
def r35_Total_3 (N : Nat) (x0 : List Wagon) (x1 : List Int) : Nat → Brakes → Int → Option Brakes
  | 0, _, _ => none
  | n + 1, x12, x13 =>
    if (decide (x13 < (x0.length : Int))) = true then
      Option.bind (r35_Total_4 N x0 x1 x12 x13) fun y16 =>
      AM.lt (IntKind.wrap .i64 (x13 + 1)) fun y17 =>
      r35_Total_3 N x0 x1 n y16 y17
    else
      some x12
def r35_Total_5 (N : Nat) (x7 : Int) (x12 : Brakes) (x92 : Bool) : Option Brakes :=
  if x92 = true then
    Option.bind (divI (IntKind.wrap .i64 (100 * x12.braked)) x7) fun y20 =>
    some (Brakes.mk x12.length x12.axles x12.mass x12.braked (IntKind.wrap .i64 (y20)) x12.required x12.missing)
  else
    some x12
def r35_Total (N : Nat) (x0 : List Wagon) (x1 : List Int) : Option (Brakes × Int) :=
  Option.bind (r06_Total N x0) fun y1 =>
  if (y1.2.2.2 != 0) = true then
    some ((Brakes.mk 0 0 0 0 0 0 0), y1.2.2.2)
  else
    Option.bind (r35_Total_0 N x0 x1 N (Brakes.mk 0 0 0 0 0 0 0) 0) fun y6 =>
    match y6 with
    | Sum.inl y7 =>
      Option.bind (r35_Total_2 N x1 N y7 0) fun y12 =>
      match y12 with
      | Sum.inl y13 =>
        Option.bind (r35_Total_3 N x0 x1 N (Brakes.mk y1.1 y1.2.2.1 y1.2.1 0 0 0 0) 0) fun y18 =>
        Option.bind (r35_Factor N y1.1) fun y19 =>
        Option.bind (r35_Total_5 N y1.2.1 (Brakes.mk y18.length y18.axles y18.mass (IntKind.wrap .i64 (Int.tdiv (IntKind.wrap .i64 (y18.braked * y19)) 100)) y18.percent y18.required y18.missing) (decide (0 < y1.2.1))) fun y21 =>
        some (y21, 0)
      | Sum.inr y22 =>
        some (y22.1, y22.2)
    | Sum.inr y23 =>
      some (y23.1, y23.2)
/-! ### humpyard/humpyardref36.size -/
def r36_size (N : Nat) (x0 : Int) (x1 : Wagon) : Option Int :=
  AM.lt (x0 == 1) fun y1 =>
  if y1 = true then
    some x1.length
  else
    AM.lt (x0 == 2) fun y2 =>
    if y2 = true then
      some x1.axles
    else
      some x1.mass
/-! ### humpyard/humpyardref36.classes -/
def r36_classes_0 (N : Nat) (x2 : Int) (x3 : Int) (x4 : Wagon) (x5 : Wagon) : Option Bool :=
  if (x4.goods == x2) = true then
    if (x5.goods == x3) = true then
      some true
    else
      if (x4.goods == x3) = true then
        AM.lt (x5.goods == x2) fun y1 =>
        some y1
      else
        some false
  else
    if (x4.goods == x3) = true then
      AM.lt (x5.goods == x2) fun y2 =>
      some y2
    else
      some false
def r36_classes (N : Nat) (x0 : Wagon) (x1 : Wagon) (x2 : Int) (x3 : Int) : Option Bool :=
  Option.bind (r36_classes_0 N x2 x3 x0 x1) fun y3 =>
  some y3
/-! ### humpyard/humpyardref36.breaks -/
def r36_breaks_1 (N : Nat) (x12 : Int) (x13 : Bool) : Option Bool :=
  if x13 = true then
    some x13
  else
    AM.lt (x12 == 2) fun y2 =>
    if y2 = true then
      some y2
    else
      AM.lt (x12 == 3) fun y3 =>
      some y3
def r36_breaks_2 (N : Nat) (x1 : List Wagon) (x2 : Int) (x3 : Rule) : Nat → Int → Int → Option Int
  | 0, _, _ => none
  | n + 1, x7, x8 =>
    if (decide (x8 ≤ x2)) = true then
      Option.bind (getI x1 x8) fun y5 =>
      Option.bind (r36_size N x3.kind y5) fun y6 =>
      AM.lt (IntKind.wrap .i64 (x7 + y6)) fun y7 =>
      AM.lt (IntKind.wrap .i64 (x8 + 1)) fun y8 =>
      r36_breaks_2 N x1 x2 x3 n y7 y8
    else
      some x7
def r36_breaks_4 (N : Nat) (x1 : List Wagon) (x2 : Int) (x3 : Rule) (x9 : Int) : Option Bool :=
  Option.bind (getI x1 x9) fun y12 =>
  Option.bind (getI x1 x2) fun y13 =>
  Option.bind (r36_classes N y12 y13 x3.a x3.b) fun y14 =>
  if y14 = true then
    some (decide ((IntKind.wrap .i64 ((IntKind.wrap .i64 (x2 - x9)) - 1)) < x3.c))
  else
    some false
def r36_breaks_3 (N : Nat) (x1 : List Wagon) (x2 : Int) (x3 : Rule) : Nat → Int → Option (Sum (Unit) (Bool))
  | 0, _ => none
  | n + 1, x9 =>
    if (decide (x9 < x2)) = true then
      Option.bind (r36_breaks_4 N x1 x2 x3 x9) fun y15 =>
      if y15 = true then
        some (Sum.inr true)
      else
        AM.lt (IntKind.wrap .i64 (x9 + 1)) fun y16 =>
        r36_breaks_3 N x1 x2 x3 n y16
    else
      some (Sum.inl ())
def r36_breaks_5 (N : Nat) (x1 : List Wagon) (x2 : Int) (x3 : Rule) : Option Bool :=
  Option.bind (getI x1 x2) fun y21 =>
  if (y21.goods == x3.a) = true then
    AM.lt (decide (x2 < x3.b)) fun y22 =>
    some y22
  else
    some false
def r36_breaks_6 (N : Nat) (x1 : List Wagon) : Nat → Int → Int → Option Int
  | 0, _, _ => none
  | n + 1, x7, x10 =>
    if (decide (x10 < (x1.length : Int))) = true then
      Option.bind (getI x1 x10) fun y30 =>
      AM.lt (IntKind.wrap .i64 (x7 + y30.mass)) fun y31 =>
      AM.lt (IntKind.wrap .i64 (x10 + 1)) fun y32 =>
      r36_breaks_6 N x1 n y31 y32
    else
      some x7
def r36_breaks_7 (N : Nat) (x1 : List Wagon) (x2 : Int) (x3 : Rule) (x7 : Int) : Option Bool :=
  Option.bind (getI x1 x2) fun y34 =>
  if (decide (y34.mass ≤ x3.a)) = true then
    AM.lt (decide (x3.b < x7)) fun y35 =>
    some y35
  else
    some false
def r36_breaks_0 (N : Nat) (x1 : List Wagon) (x2 : Int) (x3 : Rule) (x7 : Int) (x12 : Int) : Option (Sum (Unit) (Bool)) :=
  AM.lt (x12 == 1) fun y1 =>
  Option.bind (r36_breaks_1 N x12 y1) fun y4 =>
  if y4 = true then
    Option.bind (r36_breaks_2 N x1 x2 x3 N x7 0) fun y9 =>
    AM.lt (decide (x3.a < y9)) fun y10 =>
    some (Sum.inr y10)
  else
    AM.lt (x12 == 5) fun y11 =>
    if y11 = true then
      Option.bind (r36_breaks_3 N x1 x2 x3 N 0) fun y17 =>
      match y17 with
      | Sum.inl y18 =>
        some (Sum.inl ())
      | Sum.inr y19 =>
        some (Sum.inr y19)
    else
      AM.lt (x12 == 6) fun y20 =>
      if y20 = true then
        Option.bind (r36_breaks_5 N x1 x2 x3) fun y23 =>
        some (Sum.inr y23)
      else
        AM.lt (x12 == 8) fun y24 =>
        if y24 = true then
          Option.bind (getI x1 x2) fun y25 =>
          Option.bind (getI x1 x2) fun y26 =>
          AM.lt (decide ((IntKind.wrap .i64 (x3.a * y26.axles)) < y25.mass)) fun y27 =>
          some (Sum.inr y27)
        else
          AM.lt (x12 == 9) fun y28 =>
          if y28 = true then
            AM.lt (IntKind.wrap .i64 (x2 + 1)) fun y29 =>
            Option.bind (r36_breaks_6 N x1 N x7 y29) fun y33 =>
            Option.bind (r36_breaks_7 N x1 x2 x3 y33) fun y36 =>
            some (Sum.inr y36)
          else
            some (Sum.inl ())
def r36_breaks (N : Nat) (x0 : Rule) (x1 : List Wagon) (x2 : Int) : Option Bool :=
  Option.bind (r36_breaks_0 N x1 x2 x0 0 x0.kind) fun y37 =>
  match y37 with
  | Sum.inl y38 =>
    some false
  | Sum.inr y39 =>
    some y39
/-! ### humpyard/humpyardref36.place -/
def r36_place_0 (N : Nat) (x3 : Rule) (x7 : Int) (x8 : Brakes) : Option Bool :=
  if (decide (0 < x7)) = true then
    some (decide (x8.percent < x3.a))
  else
    some false
def r36_place_3 (N : Nat) (x1 : List Wagon) (x2 : List Int) (x12 : Int) : Option Bool :=
  Option.bind (getI x1 x12) fun y8 =>
  if (decide (0 < y8.brake)) = true then
    Option.bind (r35_Off N x2 x12) fun y9 =>
    some (!y9)
  else
    some false
def r36_place_2 (N : Nat) (x1 : List Wagon) (x2 : List Int) (x11 : Int) (x12 : Int) : Option Int :=
  Option.bind (r36_place_3 N x1 x2 x12) fun y10 =>
  if y10 = true then
    AM.lt (IntKind.wrap .i64 (x11 + 1)) fun y11 =>
    some y11
  else
    some x11
def r36_place_1 (N : Nat) (x1 : List Wagon) (x2 : List Int) (x7 : Int) : Nat → Int → Int → Option Int
  | 0, _, _ => none
  | n + 1, x11, x12 =>
    if (decide (x12 < x7)) = true then
      Option.bind (r36_place_2 N x1 x2 x11 x12) fun y12 =>
      AM.lt (IntKind.wrap .i64 (x12 + 1)) fun y13 =>
      r36_place_1 N x1 x2 x7 n y12 y13
    else
      some x11
def r36_place_4 (N : Nat) (x1 : List Wagon) (x3 : Rule) (x7 : Int) : Nat → Int → Option (Sum (Unit) (Int))
  | 0, _ => none
  | n + 1, x13 =>
    if (decide (x13 < x7)) = true then
      Option.bind (r36_breaks N x3 x1 x13) fun y15 =>
      if y15 = true then
        some (Sum.inr x13)
      else
        AM.lt (IntKind.wrap .i64 (x13 + 1)) fun y16 =>
        r36_place_4 N x1 x3 x7 n y16
    else
      some (Sum.inl ())
def r36_place (N : Nat) (x0 : Rule) (x1 : List Wagon) (x2 : List Int) : Option Int :=
  AM.lt (x1.length : Int) fun y1 =>
  AM.lt (x0.kind == 4) fun y2 =>
  if y2 = true then
    Option.bind (r35_Total N x1 x2) fun y3 =>
    Option.bind (r36_place_0 N x0 y1 y3.1) fun y4 =>
    if y4 = true then
      some y1
    else
      some (-1)
  else
    AM.lt (x0.kind == 7) fun y5 =>
    if y5 = true then
      AM.lt (min x0.a y1) fun y6 =>
      AM.lt (IntKind.wrap .i64 (y1 - y6)) fun y7 =>
      Option.bind (r36_place_1 N x1 x2 y1 N 0 y7) fun y14 =>
      if (decide (y14 < (min x0.b y6))) = true then
        some y1
      else
        some (-1)
    else
      Option.bind (r36_place_4 N x1 x0 y1 N 0) fun y17 =>
      match y17 with
      | Sum.inl y18 =>
        some (-1)
      | Sum.inr y19 =>
        some y19
/-! ### humpyard/humpyardref36.Check -/
def r36_Check_0 (N : Nat) (x0 : List Rule) (x1 : List Wagon) (x2 : List Int) : Nat → Int → Option (Sum (Unit) (Int × Int × Int))
  | 0, _ => none
  | n + 1, x12 =>
    if (decide (x12 < (x0.length : Int))) = true then
      Option.bind (getI x0 x12) fun y3 =>
      Option.bind (r36_place N y3 x1 x2) fun y4 =>
      if (decide (0 ≤ y4)) = true then
        Option.bind (getI x0 x12) fun y5 =>
        some (Sum.inr (y5.number, y4, 0))
      else
        AM.lt (IntKind.wrap .i64 (x12 + 1)) fun y6 =>
        r36_Check_0 N x0 x1 x2 n y6
    else
      some (Sum.inl ())
def r36_Check (N : Nat) (x0 : List Rule) (x1 : List Wagon) (x2 : List Int) : Option (Int × Int × Int) :=
  Option.bind (r36_Valid N x0) fun y1 =>
  if (y1 != 0) = true then
    some (0, 0, y1)
  else
    Option.bind (r35_Total N x1 x2) fun y2 =>
    if (y2.2 != 0) = true then
      some (0, 0, y2.2)
    else
      Option.bind (r36_Check_0 N x0 x1 x2 N 0) fun y7 =>
      match y7 with
      | Sum.inl y8 =>
        some (0, (-1), 0)
      | Sum.inr y9 =>
        some (y9.1, y9.2.1, y9.2.2)
/-! ### humpyard/rulebook.Place -/
def rulebook_Place (N : Nat) (x0 : Rule) (x1 : List Wagon) (x2 : List Int) : Option (Int × Int) :=
  Option.bind (rulebook_valid N x0) fun y1 =>
  if (!y1) = true then
    some (0, 1)
  else
    Option.bind (brake_Total N x1 x2) fun y2 =>
    if (y2.2 != 0) = true then
      some (0, y2.2)
    else
      Option.bind (train_place N (Train.mk x1 x2 y2.1) x0) fun y3 =>
      some (y3, 0)
/-! ### humpyard/humpyardref36.Place -/
def r36_Place (N : Nat) (x0 : Rule) (x1 : List Wagon) (x2 : List Int) : Option (Int × Int) :=
  Option.bind (r36_valid N x0) fun y1 =>
  if (!y1) = true then
    some (0, 1)
  else
    Option.bind (r35_Total N x1 x2) fun y2 =>
    if (y2.2 != 0) = true then
      some (0, y2.2)
    else
      Option.bind (r36_place N x0 x1 x2) fun y3 =>
      some (y3, 0)
/-! ### humpyard/humpyardlaw36.exact -/
def l36_exact_1 (N : Nat) (x14 : Int) (x15 : Int) (x16 : Int) (x17 : Int) : Option Bool :=
  if (x14 != x16) = true then
    some true
  else
    some (x15 != x17)
def l36_exact_0 (N : Nat) (x0 : List Rule) (x1 : List Wagon) (x2 : List Int) : Nat → Int → Option (Sum (Unit) (Bool))
  | 0, _ => none
  | n + 1, x13 =>
    if (decide (x13 < (x0.length : Int))) = true then
      Option.bind (getI x0 x13) fun y3 =>
      Option.bind (rulebook_Place N y3 x1 x2) fun y4 =>
      Option.bind (getI x0 x13) fun y5 =>
      Option.bind (r36_Place N y5 x1 x2) fun y6 =>
      Option.bind (l36_exact_1 N y4.1 y4.2 y6.1 y6.2) fun y7 =>
      if y7 = true then
        some (Sum.inr false)
      else
        AM.lt (IntKind.wrap .i64 (x13 + 1)) fun y8 =>
        l36_exact_0 N x0 x1 x2 n y8
    else
      some (Sum.inl ())
def l36_exact_2 (N : Nat) (x0 : List Rule) (x7 : Int) (x8 : Int) (x9 : Int) (x10 : Int) (x11 : Int) (x12 : Int) : Option Bool :=
  if (x7 == x10) = true then
    if (x8 == x11) = true then
      if (x9 == x12) = true then
        Option.bind (rulebook_Valid N x0) fun y11 =>
        Option.bind (r36_Valid N x0) fun y12 =>
        AM.lt (y11 == y12) fun y13 =>
        some y13
      else
        some false
    else
      some false
  else
    some false
def l36_exact (N : Nat) (x0 : List Rule) (x1 : List Wagon) (x2 : List Int) : Option Bool :=
  Option.bind (rulebook_Check N x0 x1 x2) fun y1 =>
  Option.bind (r36_Check N x0 x1 x2) fun y2 =>
  Option.bind (l36_exact_0 N x0 x1 x2 N 0) fun y9 =>
  match y9 with
  | Sum.inl y10 =>
    Option.bind (l36_exact_2 N x0 y1.1 y1.2.1 y1.2.2 y2.1 y2.2.1 y2.2.2) fun y14 =>
    some y14
  | Sum.inr y15 =>
    some y15
/-! ### humpyard/humpyardlaw36.wagon -/
def l36_wagon (N : Nat) (x0 : Int) (x1 : Int) : Option Wagon :=
  Option.bind (gen_New N ([7] : List Int)) fun y1 =>
  Option.bind (Maker_Wagon N y1 x0) fun y2 =>
  some (Wagon.mk y2.1.number y2.1.length y2.1.axles y2.1.mass y2.1.brake x1 y2.1.gentle y2.1.dest)
/-! ### humpyard/humpyardlaw36.sane -/
def l36_sane_0 (N : Nat) (x2 : List Rule) (x3 : Int) (x4 : Int) (x5 : Int) (x6 : Int) (x7 : Int) (x8 : Int) (x9 : Int) (x10 : Int) : Option Bool :=
  if (x5 == 0) = true then
    if (x3 == 9) = true then
      if (x4 == 3) = true then
        if (x8 == 0) = true then
          if (x6 == 0) = true then
            if (x7 == (-1)) = true then
              if (x10 == 0) = true then
                if (x9 == 1) = true then
                  Option.bind (getI x2 0) fun y11 =>
                  Option.bind (getI x2 0) fun y12 =>
                  Option.bind (appI x2 ([y12] : List Rule)) fun y13 =>
                  Option.bind (rulebook_Valid N y13) fun y14 =>
                  AM.lt (y14 == 8) fun y15 =>
                  some y15
                else
                  some false
              else
                some false
            else
              some false
          else
            some false
        else
          some false
      else
        some false
    else
      some false
  else
    some false
def l36_sane (N : Nat) : Option Bool :=
  Option.bind (l36_wagon N 1 0) fun y1 =>
  Option.bind (l36_wagon N 2 3) fun y2 =>
  Option.bind (l36_wagon N 3 0) fun y3 =>
  Option.bind (l36_wagon N 4 1) fun y4 =>
  Option.bind (rulebook_Check N ([(Rule.mk 5 5 1 3 1), (Rule.mk 9 5 1 3 2)] : List Rule) ([y1, y2, y3, y4] : List Wagon) []) fun y5 =>
  Option.bind (cutI ([(Rule.mk 5 5 1 3 1), (Rule.mk 9 5 1 3 2)] : List Rule) 0 1) fun y6 =>
  Option.bind (rulebook_Check N (List.take 1 ([(Rule.mk 5 5 1 3 1), (Rule.mk 9 5 1 3 2)] : List Rule)) ([y1, y2, y3, y4] : List Wagon) []) fun y7 =>
  Option.bind (getI ([y1, y2, y3, y4] : List Wagon) 0) fun y8 =>
  Option.bind (getI ([y1, y2, y3, y4] : List Wagon) 0) fun y9 =>
  Option.bind (rulebook_Place N (Rule.mk 1 2 y9.axles 0 0) ([y1, y2, y3, y4] : List Wagon) []) fun y10 =>
  Option.bind (l36_sane_0 N ([(Rule.mk 5 5 1 3 1), (Rule.mk 9 5 1 3 2)] : List Rule) y5.1 y5.2.1 y5.2.2 y7.1 y7.2.1 y7.2.2 y10.1 y10.2) fun y16 =>
  some y16
/-! ### humpyard/humpyardlaw36.RulebookExact -/
def l36_RulebookExact_1 (N : Nat) (x10 : Int) (x11 : List Rule) : Option Bool :=
  if (x10 == 2) = true then
    some (decide (0 < (x11.length : Int)))
  else
    some false
def l36_RulebookExact_2 (N : Nat) (x9 : Maker) (x11 : List Rule) (x36 : Bool) : Option (Maker × List Rule) :=
  if x36 = true then
    Option.bind (Maker_Next N x9 (x11.length : Int)) fun y6 =>
    Option.bind (getI x11 y6.1) fun y7 =>
    Option.bind (getI x11 y6.1) fun y8 =>
    Option.bind (getI x11 0) fun y9 =>
    Option.bind (getI x11 0) fun y10 =>
    Option.bind (Maker_Pick N y6.2 ([y8.number, 0, 9999, 10000, y10.number] : List Int)) fun y11 =>
    Option.bind (getI x11 y6.1) fun y12 =>
    Option.bind (Maker_Pick N y11.2 ([y12.kind, 0, 9, 10] : List Int)) fun y13 =>
    Option.bind (getI x11 y6.1) fun y14 =>
    AM.lt (x11.set ((y6.1 : Int).toNat) (Rule.mk y11.1 y14.kind y14.a y14.b y14.c)) fun y15 =>
    Option.bind (getI y15 y6.1) fun y16 =>
    AM.lt (y15.set ((y6.1 : Int).toNat) (Rule.mk y16.number y13.1 y16.a y16.b y16.c)) fun y17 =>
    Option.bind (getI y17 y6.1) fun y18 =>
    Option.bind (Maker_Pick N y13.2 ([y18.a, (-1), 1000000, 1000001] : List Int)) fun y19 =>
    Option.bind (getI y17 y6.1) fun y20 =>
    Option.bind (Maker_Pick N y19.2 ([y20.b, (-1)] : List Int)) fun y21 =>
    Option.bind (getI y17 y6.1) fun y22 =>
    Option.bind (Maker_Pick N y21.2 ([y22.c, (-1)] : List Int)) fun y23 =>
    Option.bind (getI y17 y6.1) fun y24 =>
    AM.lt (y17.set ((y6.1 : Int).toNat) (Rule.mk y24.number y24.kind y19.1 y24.b y24.c)) fun y25 =>
    Option.bind (getI y25 y6.1) fun y26 =>
    AM.lt (y25.set ((y6.1 : Int).toNat) (Rule.mk y26.number y26.kind y26.a y21.1 y26.c)) fun y27 =>
    Option.bind (getI y27 y6.1) fun y28 =>
    AM.lt (y27.set ((y6.1 : Int).toNat) (Rule.mk y28.number y28.kind y28.a y28.b y23.1)) fun y29 =>
    some (y23.2, y29)
  else
    some (x9, x11)
def l36_RulebookExact_3 (N : Nat) (x10 : Int) (x12 : List Wagon) : Option Bool :=
  if (x10 == 3) = true then
    some (decide (0 < (x12.length : Int)))
  else
    some false
def l36_RulebookExact_4 (N : Nat) (x9 : Maker) (x12 : List Wagon) (x13 : List Int) (x103 : Bool) : Option (Maker × List Wagon × List Int) :=
  if x103 = true then
    Option.bind (Maker_Next N x9 (x12.length : Int)) fun y32 =>
    Option.bind (getI x12 y32.1) fun y33 =>
    Option.bind (getI x12 y32.1) fun y34 =>
    Option.bind (Maker_SpoilWagon N y32.2 y34) fun y35 =>
    Option.bind (getI x12 y32.1) fun y36 =>
    Option.bind (getI x12 y32.1) fun y37 =>
    AM.lt (x12.set ((y32.1 : Int).toNat) y35.1) fun y38 =>
    Option.bind (Maker_Pick N y35.2 ([(-1), 0, (y38.length : Int)] : List Int)) fun y39 =>
    Option.bind (appI x13 ([y39.1] : List Int)) fun y40 =>
    some (y39.2, y38, y40)
  else
    some (x9, x12, x13)
def l36_RulebookExact_5 (N : Nat) (x1 : List Rule) (x11 : List Rule) (x12 : List Wagon) (x13 : List Int) : Option Bool :=
  Option.bind (l36_exact N x11 x12 x13) fun y42 =>
  if (!y42) = true then
    some true
  else
    if (decide ((x1.length : Int) < 40)) = true then
      Option.bind (l36_exact N x1 x12 x13) fun y43 =>
      some (!y43)
    else
      some false
def l36_RulebookExact_0 (N : Nat) (x1 : List Rule) : Nat → Maker → Int → Option (Sum (Unit) (Bool))
  | 0, _, _ => none
  | n + 1, x9, x10 =>
    if (decide (x10 < 4)) = true then
      Option.bind (yardgen_Rules N x9 7) fun y2 =>
      Option.bind (Maker_Wagons N y2.2 12) fun y3 =>
      Option.bind (yardgen_Off N y3.2 (y3.1.length : Int)) fun y4 =>
      Option.bind (l36_RulebookExact_1 N x10 y2.1) fun y5 =>
      Option.bind (l36_RulebookExact_2 N y4.2 y2.1 y5) fun y30 =>
      Option.bind (l36_RulebookExact_3 N x10 y3.1) fun y31 =>
      Option.bind (l36_RulebookExact_4 N y30.1 y3.1 y4.1 y31) fun y41 =>
      Option.bind (l36_RulebookExact_5 N x1 y30.2 y41.2.1 y41.2.2) fun y44 =>
      if y44 = true then
        some (Sum.inr false)
      else
        AM.lt (IntKind.wrap .i64 (x10 + 1)) fun y45 =>
        l36_RulebookExact_0 N x1 n y41.1 y45
    else
      some (Sum.inl ())
def l36_RulebookExact_6 (N : Nat) (x1 : List Rule) (x2 : List Wagon) (x3 : List Int) : Option Bool :=
  if (decide (40 < (x1.length : Int))) = true then
    some true
  else
    if (decide (110 < (x2.length : Int))) = true then
      some true
    else
      some (decide (110 < (x3.length : Int)))
def l36_RulebookExact_7 (N : Nat) (x1 : List Rule) (x2 : List Wagon) (x3 : List Int) : Option Bool :=
  Option.bind (l36_exact N x1 x2 x3) fun y50 =>
  if y50 = true then
    Option.bind (l36_sane N) fun y51 =>
    some y51
  else
    some false
def l36_RulebookExact (N : Nat) (x0 : List Int) (x1 : List Rule) (x2 : List Wagon) (x3 : List Int) : Option Bool :=
  Option.bind (gen_New N x0) fun y1 =>
  Option.bind (l36_RulebookExact_0 N x1 N y1 0) fun y46 =>
  match y46 with
  | Sum.inl y47 =>
    Option.bind (l36_RulebookExact_6 N x1 x2 x3) fun y48 =>
    if y48 = true then
      Option.bind (l36_sane N) fun y49 =>
      some y49
    else
      Option.bind (l36_RulebookExact_7 N x1 x2 x3) fun y52 =>
      some y52
  | Sum.inr y53 =>
    some y53
end
end Go.W
end
