/- WM WS W1 WLib LBas LRp1 LRp2 LRp3 -/
import Derived.Test.YtnmaanodnakopaaProg
import Derived.WalkKit
import Derived.IntWalk
import Derived.Test.YtnmaanodnakopaaMd
section
set_option linter.unusedVariables false
set_option linter.unusedSimpArgs false
set_option maxRecDepth 100000
set_option maxHeartbeats 1000000
namespace Go.W
open Go.AM
noncomputable section
structure Maker where
  l : (List Int)
  n : Int
deriving DecidableEq
structure Item where
  train : Int
  block : Int
  round : Int
  length : Int
deriving DecidableEq
structure Disorder where
  items : (List Item)
  homes : (List Int)
  tracks : (List (List Int))
deriving DecidableEq
structure Spot where
  track : Int
  place : Int
deriving DecidableEq
structure Scene where
  d : Disorder
  at_ : (List Spot)
  round : (List Int)
deriving DecidableEq
structure Pull where
  item : Int
  reason : Int
  because : Int
  round : Int
deriving DecidableEq
structure Job where
  items : (List Item)
  weight : Int
deriving DecidableEq
structure Plan where
  steps : Int
  codes : (List Int)
deriving DecidableEq
structure Sorted where
  trains : (List (List Int))
  moves : Int
deriving DecidableEq
structure Yard where
  steps : (List (List Int))
  trains : (List (List Int))
  moves : Int
  pushes : Int
deriving DecidableEq
def zbX (N : Nat) (x0 : List Int) : Option Maker :=
  some (Maker.mk x0 0)
def zbE_0 (N : Nat) (x0 : Maker) (x5 : Int) (x11 : Bool) : Option Int :=
  if x11 = true then
    Option.bind (modI x0.n (x0.l.length : Int)) fun y1 =>
    Option.bind (getI x0.l y1) fun y2 =>
    Option.bind (divI x0.n (x0.l.length : Int)) fun y3 =>
    AM.lt (IntKind.wrap .i64 (y2 + (IntKind.wrap .i64 ((IntKind.wrap .i64 (y3)) * 7919)))) fun y4 =>
    some y4
  else
    some x5
def zbE_1 (N : Nat) (x1 : Int) (x5 : Int) (x51 : Bool) : Option Int :=
  if x51 = true then
    AM.lt (IntKind.wrap .i64 (x5 + x1)) fun y7 =>
    some y7
  else
    some x5
def zbE (N : Nat) (x0 : Maker) (x1 : Int) : Option (Int × Maker) :=
  Option.bind (zbE_0 N x0 0 (decide (0 < (x0.l.length : Int)))) fun y5 =>
  Option.bind (modI y5 x1) fun y6 =>
  Option.bind (zbE_1 N x1 y6 (decide (y6 < 0))) fun y8 =>
  some (y8, (Maker.mk x0.l (IntKind.wrap .i64 (x0.n + 1))))
def zbF (N : Nat) (x0 : Maker) (x1 : List Int) : Option (Int × Maker) :=
  Option.bind (zbE N x0 (x1.length : Int)) fun y1 =>
  Option.bind (getI x1 y1.1) fun y2 =>
  some (y2, y1.2)
def zaK_0 (N : Nat) (x6 : Int) : Nat → Disorder → (List Int) → (List (List Int)) → Option (Disorder × List Int × List (List Int))
  | 0, _, _, _ => none
  | n + 1, x7, x2007001, x2007002 =>
    if (decide ((x2007001.length : Int) < x6)) = true then
      Option.bind (appI x2007001 ([(x2007001.length : Int)] : List Int)) fun y6 =>
      zaK_0 N x6 n (Disorder.mk [] [] []) y6 x2007002
    else
      some ((Disorder.mk [] [] []), x2007001, x2007002)
def zaK_2 (N : Nat) (x5 : Int) (x6 : Int) : Nat → Int → (List Int) → (List (List Int)) → Option (List Int × List (List Int))
  | 0, _, _, _ => none
  | n + 1, x8, x2007001, x2007002 =>
    if (decide (x8 < x6)) = true then
      Option.bind (getI x2007001 x8) fun y9 =>
      Option.bind (getI x2007001 x8) fun y10 =>
      AM.lt (x2007001.set ((x8 : Int).toNat) (IntKind.wrap .i64 ((IntKind.wrap .i64 (x5 - 1)) - x8))) fun y11 =>
      AM.lt (IntKind.wrap .i64 (x8 + 1)) fun y12 =>
      zaK_2 N x5 x6 n y12 y11 x2007002
    else
      some (x2007001, x2007002)
def zaK_1 (N : Nat) (x5 : Int) (x6 : Int) (x41 : Bool) (x2007001 : List Int) (x2007002 : List (List Int)) : Option (List Int × List (List Int)) :=
  if x41 = true then
    Option.bind (zaK_2 N x5 x6 N 0 x2007001 x2007002) fun y13 =>
    some (y13.1, y13.2)
  else
    some (x2007001, x2007002)
def zaK_4 (N : Nat) (x0 : Maker) (x9 : Int) : Option (Maker × Bool) :=
  if (decide (0 < x9)) = true then
    Option.bind (zbE N x0 5) fun y23 =>
    some (y23.2, (decide (0 < y23.1)))
  else
    some (x0, false)
def zaK_5 (N : Nat) (x0 : Maker) (x10 : List Int) (x12 : Int) (x13 : Item) (x88 : Bool) : Option (Maker × List Int × Item) :=
  if x88 = true then
    Option.bind (getI x10 x12) fun y25 =>
    Option.bind (getI x10 x12) fun y26 =>
    Option.bind (zbE N x0 2) fun y27 =>
    Option.bind (getI x10 x12) fun y28 =>
    Option.bind (getI x10 x12) fun y29 =>
    AM.lt (x10.set ((x12 : Int).toNat) (min 31 (IntKind.wrap .i64 (y26 + y27.1)))) fun y30 =>
    some (y27.2, y30, (Item.mk x13.train (min 31 (IntKind.wrap .i64 (y26 + y27.1))) x13.round x13.length))
  else
    some (x0, x10, x13)
def zaK_6 (N : Nat) (x0 : Maker) (x9 : Int) : Option (Maker × Bool) :=
  if (decide (x9 < 2)) = true then
    Option.bind (zbE N x0 4) fun y32 =>
    some (y32.2, (y32.1 == 0))
  else
    some (x0, false)
def zaK_7 (N : Nat) (x0 : Maker) (x5 : Int) (x14 : Int) (x109 : Bool) : Option (Maker × Int) :=
  if x109 = true then
    Option.bind (zbE N x0 x5) fun y34 =>
    some (y34.2, y34.1)
  else
    some (x0, x14)
def zaK_3 (N : Nat) (x5 : Int) (x6 : Int) (x9 : Int) (x2007001 : List Int) : Nat → Maker → Disorder → (List Int) → Int → (List Item) → (List (List Int)) → Option (Maker × Disorder × List Item × List (List Int))
  | 0, _, _, _, _, _, _ => none
  | n + 1, x0, x7, x10, x11, x2007000, x2007002 =>
    if (decide (0 < x11)) = true then
      Option.bind (zbE N x0 x6) fun y18 =>
      Option.bind (zbE N y18.2 4) fun y19 =>
      Option.bind (zbF N y19.2 ([80, 142, 262] : List Int)) fun y20 =>
      Option.bind (getI x2007001 y18.1) fun y21 =>
      Option.bind (getI x2007001 y18.1) fun y22 =>
      Option.bind (zaK_4 N y20.2 x9) fun y24 =>
      Option.bind (zaK_5 N y24.1 x10 y18.1 (Item.mk y18.1 y19.1 0 y20.1) y24.2) fun y31 =>
      Option.bind (zaK_6 N y31.1 x9) fun y33 =>
      Option.bind (zaK_7 N y33.1 x5 y22 y33.2) fun y35 =>
      Option.bind (getI x2007002 y35.2) fun y36 =>
      Option.bind (getI x2007002 y35.2) fun y37 =>
      Option.bind (appI y37 ([(x2007000.length : Int)] : List Int)) fun y38 =>
      Option.bind (getI x2007002 y35.2) fun y39 =>
      if y35.2 = y35.2 then
        Option.bind (getI x2007002 y35.2) fun y40 =>
        Option.bind (appI x2007000 ([y31.2.2] : List Item)) fun y41 =>
        AM.lt (IntKind.wrap .i64 (x11 - 1)) fun y42 =>
        zaK_3 N x5 x6 x9 x2007001 n y35.1 (Disorder.mk [] [] []) y31.2.1 y42 y41 (x2007002.set ((y35.2 : Int).toNat) y38)
      else
        none
    else
      some (x0, (Disorder.mk [] [] []), x2007000, x2007002)
def zaK (N : Nat) (x0 : Maker) (x1 : Int) : Option (Disorder × Maker) :=
  Option.bind (zbE N x0 4) fun y1 =>
  AM.lt (IntKind.wrap .i64 (2 + y1.1)) fun y2 =>
  Option.bind (mkI ([] : List Int) y2) fun y3 =>
  Option.bind (zbE N y1.2 (min 3 y2)) fun y4 =>
  AM.lt (IntKind.wrap .i64 (1 + y4.1)) fun y5 =>
  Option.bind (zaK_0 N y5 N (Disorder.mk [] [] []) [] y3) fun y7 =>
  Option.bind (zbE N y4.2 2) fun y8 =>
  Option.bind (zaK_1 N y2 y5 (y8.1 == 0) y7.2.1 y7.2.2) fun y14 =>
  Option.bind (zbE N y8.2 3) fun y15 =>
  Option.bind (mkI 0 y5) fun y16 =>
  Option.bind (zbE N y15.2 (IntKind.wrap .i64 (x1 + 1))) fun y17 =>
  Option.bind (zaK_3 N y2 y5 y15.1 y14.1 N y17.2 (Disorder.mk [] [] []) y16 y17.1 [] y14.2) fun y43 =>
  some ((Disorder.mk y43.2.2.1 y14.1 (List.map (fun (z : List Int) => z) y43.2.2.2)), y43.1)
def zaE_0 (N : Nat) (x0 : List Int) (x1 : Int) (x7 : Int) : Nat → Int → Option (Sum (Unit) (Int))
  | 0, _ => none
  | n + 1, x8 =>
    if (decide (x8 < x7)) = true then
      Option.bind (getI x0 x8) fun y1 =>
      if (x1 == y1) = true then
        some (Sum.inr x8)
      else
        zaE_0 N x0 x1 x7 n (IntKind.wrap .i64 (x8 + 1))
    else
      some (Sum.inl ())
def zaE (N : Nat) (x0 : List Int) (x1 : Int) : Option Int :=
  Option.bind (zaE_0 N x0 x1 (x0.length : Int) N 0) fun y2 =>
  match y2 with
  | Sum.inl y3 =>
    some (-1)
  | Sum.inr y4 =>
    some y4
def zaC (N : Nat) (x0 : List Int) (x1 : Int) : Option Bool :=
  Option.bind (zaE N x0 x1) fun y1 =>
  AM.lt (decide (0 ≤ y1)) fun y2 =>
  some y2
def zaX_2 (N : Nat) (x4 : List Spot) (x5 : List Bool) (x10 : Int) : Option Bool :=
  if (decide (x10 < 0)) = true then
    some true
  else
    if (decide ((x4.length : Int) ≤ x10)) = true then
      some true
    else
      Option.bind (getI x5 x10) fun y5 =>
      Option.bind (getI x5 x10) fun y6 =>
      some y6
def zaX_1 (N : Nat) (x7 : Int) (x27 : List Int) (x28 : Int) : Nat → (List Spot) → (List Bool) → Int → Int → Option (Sum (List Spot × List Bool × Int) (Bool))
  | 0, _, _, _, _ => none
  | n + 1, x4, x5, x6, x29 =>
    if (decide (x29 < x28)) = true then
      Option.bind (getI x27 x29) fun y4 =>
      Option.bind (zaX_2 N x4 x5 y4) fun y7 =>
      if y7 = true then
        some (Sum.inr false)
      else
        Option.bind (getI x4 y4) fun y8 =>
        Option.bind (getI x4 y4) fun y9 =>
        AM.lt (x4.set ((y4 : Int).toNat) (Spot.mk x7 x29)) fun y10 =>
        Option.bind (getI x5 y4) fun y11 =>
        Option.bind (getI x5 y4) fun y12 =>
        AM.lt (x5.set ((y4 : Int).toNat) true) fun y13 =>
        AM.lt (IntKind.wrap .i64 (x6 + 1)) fun y14 =>
        zaX_1 N x7 x27 x28 n y10 y13 y14 (IntKind.wrap .i64 (x29 + 1))
    else
      some (Sum.inl (x4, x5, x6))
def zaX_0 (N : Nat) (x20 : List (List Int)) (x21 : Int) : Nat → (List Spot) → (List Bool) → Int → Int → Option (Sum (List Spot × Int) (Bool))
  | 0, _, _, _, _ => none
  | n + 1, x4, x5, x6, x22 =>
    if (decide (x22 < x21)) = true then
      Option.bind (getI x20 x22) fun y3 =>
      Option.bind (zaX_1 N x22 y3 (y3.length : Int) N x4 x5 x6 0) fun y15 =>
      match y15 with
      | Sum.inl y16 =>
        zaX_0 N x20 x21 n y16.1 y16.2.1 y16.2.2 (IntKind.wrap .i64 (x22 + 1))
      | Sum.inr y17 =>
        some (Sum.inr y17)
    else
      some (Sum.inl (x4, x6))
def zaX (N : Nat) (x0 : Disorder) : Option (List Spot × Bool) :=
  Option.bind (mkI (Spot.mk 0 0) (x0.items.length : Int)) fun y1 =>
  Option.bind (mkI false (x0.items.length : Int)) fun y2 =>
  Option.bind (zaX_0 N x0.tracks (x0.tracks.length : Int) N y1 y2 0 0) fun y18 =>
  match y18 with
  | Sum.inl y19 =>
    AM.lt (y19.2 == (y19.1.length : Int)) fun y20 =>
    some (y19.1, y20)
  | Sum.inr y21 =>
    some ([], y21)
def zaU_0 (N : Nat) (x1 : Disorder) : Option Bool :=
  if (decide (96 < (x1.items.length : Int))) = true then
    some true
  else
    if (decide (16 < (x1.homes.length : Int))) = true then
      some true
    else
      some (decide (24 < (x1.tracks.length : Int)))
def zaU_2 (N : Nat) (x1 : Disorder) (x3 : Int) (x4 : Int) : Option Bool :=
  if (decide (x4 < 0)) = true then
    some true
  else
    if (decide ((x1.tracks.length : Int) ≤ x4)) = true then
      some true
    else
      Option.bind (cutI x1.homes 0 x3) fun y3 =>
      Option.bind (zaC N y3 x4) fun y4 =>
      some y4
def zaU_1 (N : Nat) (x1 : Disorder) (x26 : List Int) (x27 : Int) : Nat → Int → Option (Sum (Unit) (Bool))
  | 0, _ => none
  | n + 1, x28 =>
    if (decide (x28 < x27)) = true then
      Option.bind (getI x26 x28) fun y2 =>
      Option.bind (zaU_2 N x1 x28 y2) fun y5 =>
      if y5 = true then
        some (Sum.inr false)
      else
        zaU_1 N x1 x26 x27 n (IntKind.wrap .i64 (x28 + 1))
    else
      some (Sum.inl ())
def zaU_4 (N : Nat) (x1 : Disorder) (x6 : Item) : Option Bool :=
  if (decide (x6.train < 0)) = true then
    some true
  else
    if (decide ((x1.homes.length : Int) ≤ x6.train)) = true then
      some true
    else
      if (decide (x6.block < 0)) = true then
        some true
      else
        if (decide (32 ≤ x6.block)) = true then
          some true
        else
          if (x6.round != 0) = true then
            some true
          else
            if (decide (x6.length < 1)) = true then
              some true
            else
              some (decide (400 < x6.length))
def zaU_3 (N : Nat) (x1 : Disorder) (x52 : List Item) (x53 : Int) : Nat → Int → Option (Sum (Unit) (Bool))
  | 0, _ => none
  | n + 1, x54 =>
    if (decide (x54 < x53)) = true then
      Option.bind (getI x52 x54) fun y8 =>
      Option.bind (zaU_4 N x1 y8) fun y9 =>
      if y9 = true then
        some (Sum.inr false)
      else
        zaU_3 N x1 x52 x53 n (IntKind.wrap .i64 (x54 + 1))
    else
      some (Sum.inl ())
def zaU (N : Nat) (x0 : Disorder) : Option Bool :=
  Option.bind (zaU_0 N x0) fun y1 =>
  if y1 = true then
    some false
  else
    Option.bind (zaU_1 N x0 x0.homes (x0.homes.length : Int) N 0) fun y6 =>
    match y6 with
    | Sum.inl y7 =>
      Option.bind (zaU_3 N x0 x0.items (x0.items.length : Int) N 0) fun y10 =>
      match y10 with
      | Sum.inl y11 =>
        Option.bind (zaX N x0) fun y12 =>
        some y12.2
      | Sum.inr y13 =>
        some y13
    | Sum.inr y14 =>
      some y14
def zbC_0 (N : Nat) (x24 : Int) : Nat → Int → (List Int) → Option (List Int)
  | 0, _, _ => none
  | n + 1, x25, x2003004 =>
    if (decide (x25 < x24)) = true then
      Option.bind (getI x2003004 x25) fun y3 =>
      Option.bind (getI x2003004 x25) fun y4 =>
      AM.lt (x2003004.set ((x25 : Int).toNat) (-1)) fun y5 =>
      zbC_0 N x24 n (IntKind.wrap .i64 (x25 + 1)) y5
    else
      some x2003004
def zbC (N : Nat) (x0 : Disorder) : Option (Scene × List Spot × List Int) :=
  Option.bind (mkI 0 (x0.items.length : Int)) fun y1 =>
  Option.bind (zaX N x0) fun y2 =>
  Option.bind (zbC_0 N (y1.length : Int) N 0 y1) fun y6 =>
  some ((Scene.mk x0 [] []), y2.1, y6)
def zbL (N : Nat) (x0 : Scene) (x1 : Int) : Option Bool :=
  Option.bind (getI x0.at_ x1) fun y1 =>
  Option.bind (getI x0.d.items x1) fun y2 =>
  Option.bind (getI x0.d.homes y2.train) fun y3 =>
  AM.lt (y1.track == y3) fun y4 =>
  some y4
def zbD_0 (N : Nat) (x0 : Scene) (x1 : Int) (x2 : Int) : Option Bool :=
  Option.bind (getI x0.d.items x1) fun y1 =>
  Option.bind (getI x0.d.items x2) fun y2 =>
  if (y1.train == y2.train) = true then
    Option.bind (getI x0.d.items x1) fun y3 =>
    Option.bind (getI x0.d.items x2) fun y4 =>
    AM.lt (decide (y3.block < y4.block)) fun y5 =>
    some y5
  else
    some false
def zbD (N : Nat) (x0 : Scene) (x1 : Int) (x2 : Int) : Option Bool :=
  Option.bind (zbD_0 N x0 x1 x2) fun y6 =>
  some y6
def zaY_0 (N : Nat) (x0 : Scene) (x1 : Int) (x2 : Int) : Option Bool :=
  Option.bind (getI x0.at_ x1) fun y1 =>
  Option.bind (getI x0.at_ x2) fun y2 =>
  if (y1.track == y2.track) = true then
    Option.bind (getI x0.at_ x1) fun y3 =>
    Option.bind (getI x0.at_ x2) fun y4 =>
    AM.lt (decide (y4.place < y3.place)) fun y5 =>
    some y5
  else
    some false
def zaY (N : Nat) (x0 : Scene) (x1 : Int) (x2 : Int) : Option Bool :=
  Option.bind (zaY_0 N x0 x1 x2) fun y6 =>
  some y6
def zaZ_0 (N : Nat) (x0 : Scene) (x1 : Int) (x2 : Int) : Option Bool :=
  Option.bind (getI x0.round x1) fun y1 =>
  if (decide (0 ≤ y1)) = true then
    Option.bind (getI x0.round x1) fun y2 =>
    AM.lt (decide (y2 < x2)) fun y3 =>
    some y3
  else
    some false
def zaZ (N : Nat) (x0 : Scene) (x1 : Int) (x2 : Int) : Option Bool :=
  Option.bind (zaZ_0 N x0 x1 x2) fun y4 =>
  some y4
def zaP_0 (N : Nat) (x0 : Scene) (x1 : Int) (x3 : Int) : Option Bool :=
  if (x3 == (-1)) = true then
    Option.bind (zbL N x0 x1) fun y1 =>
    AM.lt (!y1) fun y2 =>
    some y2
  else
    some false
def zaP_1 (N : Nat) (x0 : Scene) (x3 : Int) : Option Bool :=
  if (decide (x3 < 0)) = true then
    some true
  else
    some (decide ((x0.d.items.length : Int) ≤ x3))
def zaP_2 (N : Nat) (x2 : Int) (x4 : Int) : Option Bool :=
  if (x2 == 3) = true then
    AM.lt (x4 == 0) fun y5 =>
    some y5
  else
    some false
def zaP_3 (N : Nat) (x0 : Scene) (x1 : Int) (x3 : Int) : Option Bool :=
  Option.bind (zbL N x0 x1) fun y7 =>
  if y7 = true then
    Option.bind (zbD N x0 x3 x1) fun y8 =>
    if y8 = true then
      Option.bind (zaY N x0 x3 x1) fun y9 =>
      some y9
    else
      some false
  else
    some false
def zaP_4 (N : Nat) (x0 : Scene) (x1 : Int) (x3 : Int) (x4 : Int) : Option Bool :=
  Option.bind (zbD N x0 x3 x1) fun y12 =>
  if y12 = true then
    Option.bind (zaZ N x0 x3 x4) fun y13 =>
    some y13
  else
    some false
def zaP_5 (N : Nat) (x0 : Scene) (x1 : Int) (x3 : Int) (x4 : Int) : Option Bool :=
  Option.bind (zaY N x0 x1 x3) fun y16 =>
  if y16 = true then
    Option.bind (zaZ N x0 x3 x4) fun y17 =>
    some y17
  else
    some false
def zaP (N : Nat) (x0 : Scene) (x1 : Int) (x2 : Int) (x3 : Int) (x4 : Int) : Option Bool :=
  if (x2 == 1) = true then
    Option.bind (zaP_0 N x0 x1 x3) fun y3 =>
    some y3
  else
    Option.bind (zaP_1 N x0 x3) fun y4 =>
    if y4 = true then
      some false
    else
      Option.bind (zaP_2 N x2 x4) fun y6 =>
      if y6 = true then
        Option.bind (zaP_3 N x0 x1 x3) fun y10 =>
        some y10
      else
        AM.lt (x2 == 3) fun y11 =>
        if y11 = true then
          Option.bind (zaP_4 N x0 x1 x3 x4) fun y14 =>
          some y14
        else
          AM.lt (x2 == 2) fun y15 =>
          if y15 = true then
            Option.bind (zaP_5 N x0 x1 x3 x4) fun y18 =>
            some y18
          else
            some false
def zbQ_0 (N : Nat) (x0 : Scene) (x1 : Int) (x6 : Pull) (x8 : List Int) (x14 : Bool) : Option (Sum (Pull × List Int) (Pull × Bool)) :=
  if x14 = true then
    Option.bind (zbL N x0 x1) fun y1 =>
    if (!y1) = true then
      some (Sum.inr ((Pull.mk x1 1 (-1) 0), true))
    else
      Option.bind (cutI x8 1 (x8.length : Int)) fun y2 =>
      some (Sum.inl (x6, y2))
  else
    some (Sum.inl (x6, x8))
def zbQ_2 (N : Nat) (x0 : Scene) (x1 : Int) (x2 : Int) (x10 : Int) (x34 : Int) : Nat → Pull → Int → Option (Sum (Pull) (Pull × Bool))
  | 0, _, _ => none
  | n + 1, x6, x35 =>
    if (decide (x35 < x34)) = true then
      Option.bind (zaP N x0 x1 x10 x35 x2) fun y6 =>
      if y6 = true then
        some (Sum.inr ((Pull.mk x1 x10 x35 x2), true))
      else
        zbQ_2 N x0 x1 x2 x10 x34 n x6 (IntKind.wrap .i64 (x35 + 1))
    else
      some (Sum.inl x6)
def zbQ_1 (N : Nat) (x0 : Scene) (x1 : Int) (x2 : Int) (x23 : List Int) (x24 : Int) : Nat → Pull → Int → Option (Sum (Pull) (Pull × Bool))
  | 0, _, _ => none
  | n + 1, x6, x25 =>
    if (decide (x25 < x24)) = true then
      Option.bind (getI x23 x25) fun y5 =>
      Option.bind (zbQ_2 N x0 x1 x2 y5 (x0.d.items.length : Int) N x6 0) fun y7 =>
      match y7 with
      | Sum.inl y8 =>
        zbQ_1 N x0 x1 x2 x23 x24 n y8 (IntKind.wrap .i64 (x25 + 1))
      | Sum.inr y9 =>
        some (Sum.inr (y9.1, y9.2))
    else
      some (Sum.inl x6)
def zbQ (N : Nat) (x0 : Scene) (x1 : Int) (x2 : Int) : Option (Pull × Bool) :=
  Option.bind (zbQ_0 N x0 x1 (Pull.mk 0 0 0 0) ([2, 3] : List Int) (x2 == 0)) fun y3 =>
  match y3 with
  | Sum.inl y4 =>
    Option.bind (zbQ_1 N x0 x1 x2 y4.2 (y4.2.length : Int) N y4.1 0) fun y10 =>
    match y10 with
    | Sum.inl y11 =>
      some ((Pull.mk 0 0 0 0), false)
    | Sum.inr y12 =>
      some (y12.1, y12.2)
  | Sum.inr y13 =>
    some (y13.1, y13.2)
def zaQ (N : Nat) (x0 : Int) : Option Bool :=
  AM.lt (x0 != x0) fun y1 =>
  some y1
def zaL (N : Nat) (x0 : Int) (x1 : Int) : Option Int :=
  Option.bind (zaQ N x0) fun y1 =>
  Option.bind (zaQ N x1) fun y2 =>
  if y1 = true then
    if y2 = true then
      some 0
    else
      some (-1)
  else
    if y2 = true then
      some 1
    else
      if (decide (x0 < x1)) = true then
        some (-1)
      else
        if (decide (x1 < x0)) = true then
          some 1
        else
          some 0
def zaG (N : Nat) (x0 : Pull) (x1 : Pull) : Option Int :=
  Option.bind (zaL N x0.item x1.item) fun y1 =>
  some y1
def zaT_2 (N : Nat) (x4 : Scene) (x5 : List Pull) (x6 : Int) (x25 : Int) (x2004003 : List Spot) (x2004004 : List Int) : Option (List Pull) :=
  Option.bind (getI x2004004 x25) fun y4 =>
  Option.bind (getI x2004004 x25) fun y5 =>
  if (decide (0 ≤ y5)) = true then
    some x5
  else
    Option.bind (zbQ N (Scene.mk x4.d x2004003 x2004004) x25 x6) fun y6 =>
    if y6.2 = true then
      Option.bind (appI x5 ([y6.1] : List Pull)) fun y7 =>
      some y7
    else
      some x5
def zaT_1 (N : Nat) (x4 : Scene) (x6 : Int) (x24 : Int) (x2004003 : List Spot) (x2004004 : List Int) : Nat → (List Pull) → Int → Option (List Pull)
  | 0, _, _ => none
  | n + 1, x5, x25 =>
    if (decide (x25 < x24)) = true then
      Option.bind (zaT_2 N (Scene.mk x4.d [] []) x5 x6 x25 x2004003 x2004004) fun y8 =>
      zaT_1 N x4 x6 x24 x2004003 x2004004 n y8 (IntKind.wrap .i64 (x25 + 1))
    else
      some x5
def zaT_3 (N : Nat) (x5 : List Pull) (x6 : Int) (x51 : Nat × Nat) (x52 : Int) : Nat → Int → (List Int) → Option (List Int)
  | 0, _, _ => none
  | n + 1, x53, x2004004 =>
    if (decide (x53 < x52)) = true then
      Option.bind (getI (List.drop x51.1 (List.take x51.2 x5)) x53) fun y11 =>
      Option.bind (getI x5 ((x51.1 : Int) + x53)) fun y12 =>
      Option.bind (getI x2004004 y12.item) fun y13 =>
      Option.bind (getI x2004004 y12.item) fun y14 =>
      AM.lt (x2004004.set ((y12.item : Int).toNat) x6) fun y15 =>
      zaT_3 N x5 x6 x51 x52 n (IntKind.wrap .i64 (x53 + 1)) y15
    else
      some x2004004
def zaT_4 (N : Nat) (x5 : List Pull) (x6 : Int) (x7 : Int) : Option Bool :=
  if (decide (0 < x6)) = true then
    some ((x5.length : Int) == x7)
  else
    some false
def zaT_0 (N : Nat) (x1 : Disorder) (x4 : Scene) (x2004003 : List Spot) : Nat → (List Pull) → Int → (List Int) → Option (List Pull)
  | 0, _, _, _ => none
  | n + 1, x5, x6, x2004004 =>
    AM.lt (x5.length : Int) fun y3 =>
    Option.bind (zaT_1 N (Scene.mk x4.d [] []) x6 (x1.items.length : Int) x2004003 x2004004 N x5 0) fun y9 =>
    Option.bind (cutI y9 y3 (y9.length : Int)) fun y10 =>
    Option.bind (zaT_3 N y9 x6 (Int.toNat y3, Int.toNat (y9.length : Int)) ((List.drop (Int.toNat y3) (List.take (Int.toNat (y9.length : Int)) y9)).length : Int) N 0 x2004004) fun y16 =>
    Option.bind (zaT_4 N y9 x6 y3) fun y17 =>
    if y17 = true then
      some y9
    else
      AM.lt (IntKind.wrap .i64 (x6 + 1)) fun y18 =>
      zaT_0 N x1 x4 x2004003 n y9 y18 y16
def zaT (N : Nat) (x0 : Disorder) : Option (List Pull × Int) :=
  Option.bind (zaU N x0) fun y1 =>
  if (!y1) = true then
    some ([], 1)
  else
    Option.bind (zbC N x0) fun y2 =>
    Option.bind (zaT_0 N x0 (Scene.mk y2.1.d [] []) y2.2.1 N [] 0 y2.2.2) fun y19 =>
    Option.bind (@srtI Pull ⟨(Pull.mk 0 0 0 0)⟩ (fun (a b : Pull) => cmpI a.item b.item) y19) fun y20 =>
    some (y20, 0)
def zaV_1 (N : Nat) (x2 : Disorder) (x7 : Pull) (x2005004 : List Int) : Option Bool :=
  if (decide (x7.item < 0)) = true then
    some true
  else
    if (decide ((x2.items.length : Int) ≤ x7.item)) = true then
      some true
    else
      Option.bind (getI x2005004 x7.item) fun y3 =>
      Option.bind (getI x2005004 x7.item) fun y4 =>
      if (decide (0 ≤ y4)) = true then
        some true
      else
        some (decide (x7.round < 0))
def zaV_0 (N : Nat) (x2 : Disorder) (x16 : List Pull) (x17 : Int) : Nat → Int → (List Int) → Option (Sum (List Int) (Bool))
  | 0, _, _ => none
  | n + 1, x18, x2005004 =>
    if (decide (x18 < x17)) = true then
      Option.bind (getI x16 x18) fun y2 =>
      Option.bind (zaV_1 N x2 y2 x2005004) fun y5 =>
      if y5 = true then
        some (Sum.inr false)
      else
        Option.bind (getI x2005004 y2.item) fun y6 =>
        Option.bind (getI x2005004 y2.item) fun y7 =>
        AM.lt (x2005004.set ((y2.item : Int).toNat) y2.round) fun y8 =>
        zaV_0 N x2 x16 x17 n (IntKind.wrap .i64 (x18 + 1)) y8
    else
      some (Sum.inl x2005004)
def zaV_2 (N : Nat) (x5 : Scene) (x59 : List Pull) (x60 : Int) (x2005003 : List Spot) (x2005004 : List Int) : Nat → Int → Option (Sum (Unit) (Bool))
  | 0, _ => none
  | n + 1, x61 =>
    if (decide (x61 < x60)) = true then
      Option.bind (getI x59 x61) fun y11 =>
      Option.bind (zaP N (Scene.mk x5.d x2005003 x2005004) y11.item y11.reason y11.because y11.round) fun y12 =>
      if (!y12) = true then
        some (Sum.inr false)
      else
        zaV_2 N x5 x59 x60 x2005003 x2005004 n (IntKind.wrap .i64 (x61 + 1))
    else
      some (Sum.inl ())
def zaV_6 (N : Nat) (x5 : Scene) (x10 : Int) (x12 : Int) (x80 : List Int) (x2005003 : List Spot) : Option Bool :=
  Option.bind (zbL N (Scene.mk x5.d x2005003 x80) x10) fun y17 =>
  if y17 = true then
    Option.bind (zbD N (Scene.mk x5.d x2005003 x80) x12 x10) fun y18 =>
    if y18 = true then
      Option.bind (zaY N (Scene.mk x5.d x2005003 x80) x12 x10) fun y19 =>
      some y19
    else
      some false
  else
    some false
def zaV_7 (N : Nat) (x5 : Scene) (x10 : Int) (x12 : Int) (x13 : Bool) (x80 : List Int) (x2005003 : List Spot) : Option Bool :=
  Option.bind (zbL N (Scene.mk x5.d x2005003 x80) x10) fun y21 =>
  if (!y21) = true then
    some true
  else
    if x13 = true then
      some true
    else
      Option.bind (getI x80 x12) fun y22 =>
      Option.bind (getI x80 x12) fun y23 =>
      if (decide (0 ≤ y23)) = true then
        Option.bind (zbD N (Scene.mk x5.d x2005003 x80) x12 x10) fun y24 =>
        if y24 = true then
          some true
        else
          Option.bind (zaY N (Scene.mk x5.d x2005003 x80) x10 x12) fun y25 =>
          some y25
      else
        some false
def zaV_5 (N : Nat) (x5 : Scene) (x10 : Int) (x80 : List Int) (x91 : Int) (x2005003 : List Spot) : Nat → Int → Option (Sum (Unit) (Bool))
  | 0, _ => none
  | n + 1, x92 =>
    if (decide (x92 < x91)) = true then
      Option.bind (zaV_6 N (Scene.mk x5.d [] []) x10 x92 x80 x2005003) fun y20 =>
      Option.bind (zaV_7 N (Scene.mk x5.d [] []) x10 x92 y20 x80 x2005003) fun y26 =>
      if y26 = true then
        some (Sum.inr false)
      else
        zaV_5 N x5 x10 x80 x91 x2005003 n (IntKind.wrap .i64 (x92 + 1))
    else
      some (Sum.inl ())
def zaV_4 (N : Nat) (x2 : Disorder) (x5 : Scene) (x80 : List Int) (x82 : Int) (x2005003 : List Spot) : Option (Sum (Unit) (Bool)) :=
  Option.bind (getI x80 x82) fun y15 =>
  Option.bind (getI x80 x82) fun y16 =>
  if (decide (0 ≤ y16)) = true then
    some (Sum.inl ())
  else
    Option.bind (zaV_5 N (Scene.mk x5.d [] []) x82 x80 (x2.items.length : Int) x2005003 N 0) fun y27 =>
    match y27 with
    | Sum.inl y28 =>
      some (Sum.inl ())
    | Sum.inr y29 =>
      some (Sum.inr y29)
def zaV_3 (N : Nat) (x2 : Disorder) (x5 : Scene) (x80 : List Int) (x81 : Int) (x2005003 : List Spot) : Nat → Int → Option (Sum (Unit) (Bool))
  | 0, _ => none
  | n + 1, x82 =>
    if (decide (x82 < x81)) = true then
      Option.bind (zaV_4 N x2 (Scene.mk x5.d [] []) x80 x82 x2005003) fun y30 =>
      match y30 with
      | Sum.inl y31 =>
        zaV_3 N x2 x5 x80 x81 x2005003 n (IntKind.wrap .i64 (x82 + 1))
      | Sum.inr y32 =>
        some (Sum.inr y32)
    else
      some (Sum.inl ())
def zaV (N : Nat) (x0 : Disorder) (x1 : List Pull) : Option Bool :=
  Option.bind (zbC N x0) fun y1 =>
  Option.bind (zaV_0 N x0 x1 (x1.length : Int) N 0 y1.2.2) fun y9 =>
  match y9 with
  | Sum.inl y10 =>
    Option.bind (zaV_2 N (Scene.mk y1.1.d [] []) x1 (x1.length : Int) y1.2.1 y10 N 0) fun y13 =>
    match y13 with
    | Sum.inl y14 =>
      Option.bind (zaV_3 N x0 (Scene.mk y1.1.d [] []) y10 (y10.length : Int) y1.2.1 N 0) fun y33 =>
      match y33 with
      | Sum.inl y34 =>
        some true
      | Sum.inr y35 =>
        some y35
    | Sum.inr y36 =>
      some y36
  | Sum.inr y37 =>
    some y37
def zaS (N : Nat) (x0 : Disorder) (x1 : List Pull) : Option (Bool × Int) :=
  Option.bind (zaU N x0) fun y1 =>
  if (!y1) = true then
    some (false, 1)
  else
    Option.bind (zaV N x0 x1) fun y2 =>
    some (y2, 0)
def zaR_0 (N : Nat) (x0 : Int) (x1 : Int) (x11 : Bool) : Option Int :=
  if x11 = true then
    AM.lt (IntKind.wrap .i64 (x0 + x1)) fun y2 =>
    some y2
  else
    some x0
def zaR (N : Nat) (x0 : Int) (x1 : Int) : Option Int :=
  if (decide (x1 < 1)) = true then
    some 0
  else
    Option.bind (modI x0 x1) fun y1 =>
    Option.bind (zaR_0 N y1 x1 (decide (y1 < 0))) fun y3 =>
    some y3
def zbJ_0 (N : Nat) (x0 : List Pull) (x1 : Int) : Nat → Int → Option (Sum (Unit) (Bool))
  | 0, _ => none
  | n + 1, x5 =>
    if (decide (x5 < (x0.length : Int))) = true then
      Option.bind (getI x0 x5) fun y1 =>
      if (y1.item == x1) = true then
        some (Sum.inr true)
      else
        AM.lt (IntKind.wrap .i64 (x5 + 1)) fun y2 =>
        zbJ_0 N x0 x1 n y2
    else
      some (Sum.inl ())
def zbJ (N : Nat) (x0 : List Pull) (x1 : Int) : Option Bool :=
  Option.bind (zbJ_0 N x0 x1 N 0) fun y3 =>
  match y3 with
  | Sum.inl y4 =>
    some false
  | Sum.inr y5 =>
    some y5
def zaI_0 (N : Nat) (x0 : List Pull) (x1 : List Pull) : Nat → Int → Option (Sum (Unit) (Bool))
  | 0, _ => none
  | n + 1, x5 =>
    if (decide (x5 < (x0.length : Int))) = true then
      Option.bind (getI x0 x5) fun y1 =>
      Option.bind (getI x1 x5) fun y2 =>
      if (!(decide (y1 = y2))) = true then
        some (Sum.inr false)
      else
        AM.lt (IntKind.wrap .i64 (x5 + 1)) fun y3 =>
        zaI_0 N x0 x1 n y3
    else
      some (Sum.inl ())
def zaI (N : Nat) (x0 : List Pull) (x1 : List Pull) : Option Bool :=
  if ((x0.length : Int) != (x1.length : Int)) = true then
    some false
  else
    Option.bind (zaI_0 N x0 x1 N 0) fun y4 =>
    match y4 with
    | Sum.inl y5 =>
      some true
    | Sum.inr y6 =>
      some y6
def zbR_0 (N : Nat) (x3 : List Pull) (x4 : Int) (x5 : List Pull) (x6 : Int) (x7 : Bool) (x8 : Int) : Option Bool :=
  if (x4 == 0) = true then
    Option.bind (zaI N x3 ([(Pull.mk 0 3 1 0), (Pull.mk 1 2 0 1)] : List Pull)) fun y4 =>
    if y4 = true then
      if (x6 == 0) = true then
        Option.bind (zaI N x5 ([(Pull.mk 0 3 1 1), (Pull.mk 1 1 (-1) 0)] : List Pull)) fun y5 =>
        if y5 = true then
          if (x8 == 0) = true then
            some x7
          else
            some false
        else
          some false
      else
        some false
    else
      some false
  else
    some false
def zbR (N : Nat) : Option Bool :=
  Option.bind (zaT N (Disorder.mk ([(Item.mk 0 1 0 100), (Item.mk 0 0 0 100)] : List Item) ([0] : List Int) ([([0, 1] : List Int)] : List (List Int)))) fun y1 =>
  Option.bind (zaT N (Disorder.mk ([(Item.mk 0 2 0 100), (Item.mk 0 1 0 100)] : List Item) ([0] : List Int) ([([0] : List Int), ([1] : List Int)] : List (List Int)))) fun y2 =>
  Option.bind (zaS N (Disorder.mk ([(Item.mk 0 2 0 100), (Item.mk 0 1 0 100)] : List Item) ([0] : List Int) ([([0] : List Int), ([1] : List Int)] : List (List Int))) y2.1) fun y3 =>
  Option.bind (zbR_0 N y1.1 y1.2 y2.1 y2.2 y3.1 y3.2) fun y6 =>
  some y6
def zaJ_0 (N : Nat) (x8 : Int) (x9 : Bool) (x10 : Int) : Option Bool :=
  if (x8 != 0) = true then
    some true
  else
    if (x10 != 0) = true then
      some true
    else
      some (!x9)
def zaJ_2 (N : Nat) (x9 : Bool) (x10 : Int) : Option Bool :=
  if (x10 != 0) = true then
    some true
  else
    some x9
def zaJ_1 (N : Nat) (x1 : Int) (x6 : Disorder) (x7 : List Pull) (x43 : Bool) : Option (Sum (Unit) (Bool)) :=
  if x43 = true then
    Option.bind (zaR N x1 (x7.length : Int)) fun y6 =>
    Option.bind (cutI x7 0 y6) fun y7 =>
    Option.bind (appI ([] : List Pull) y7) fun y8 =>
    Option.bind (cutI x7 (IntKind.wrap .i64 (y6 + 1)) (x7.length : Int)) fun y9 =>
    Option.bind (appI y8 y9) fun y10 =>
    Option.bind (zaS N x6 y10) fun y11 =>
    Option.bind (zaJ_2 N y11.1 y11.2) fun y12 =>
    if y12 = true then
      some (Sum.inr false)
    else
      some (Sum.inl ())
  else
    some (Sum.inl ())
def zaJ_6 (N : Nat) (x9 : Bool) (x10 : Int) : Option Bool :=
  if (x10 != 0) = true then
    some true
  else
    some x9
def zaJ_5 (N : Nat) (x1 : Int) (x6 : Disorder) (x7 : List Pull) (x13 : Int) : Nat → Int → Option (Sum (Unit) (Bool))
  | 0, _ => none
  | n + 1, x14 =>
    if (decide (x14 ≤ 3)) = true then
      Option.bind (appI ([] : List Pull) x7) fun y16 =>
      Option.bind (zaR N x1 (IntKind.wrap .i64 ((x6.items.length : Int) + 1))) fun y17 =>
      Option.bind (appI y16 ([(Pull.mk x13 x14 (IntKind.wrap .i64 (y17 - 1)) 9)] : List Pull)) fun y18 =>
      Option.bind (zaS N x6 y18) fun y19 =>
      Option.bind (zaJ_6 N y19.1 y19.2) fun y20 =>
      if y20 = true then
        some (Sum.inr false)
      else
        AM.lt (IntKind.wrap .i64 (x14 + 1)) fun y21 =>
        zaJ_5 N x1 x6 x7 x13 n y21
    else
      some (Sum.inl ())
def zaJ_4 (N : Nat) (x1 : Int) (x6 : Disorder) (x7 : List Pull) (x13 : Int) : Option (Sum (Unit) (Bool)) :=
  Option.bind (zbJ N x7 x13) fun y15 =>
  if y15 = true then
    some (Sum.inl ())
  else
    Option.bind (zaJ_5 N x1 x6 x7 x13 N 1) fun y22 =>
    match y22 with
    | Sum.inl y23 =>
      some (Sum.inl ())
    | Sum.inr y24 =>
      some (Sum.inr y24)
def zaJ_3 (N : Nat) (x1 : Int) (x6 : Disorder) (x7 : List Pull) : Nat → Int → Option (Sum (Unit) (Bool))
  | 0, _ => none
  | n + 1, x13 =>
    if (decide (x13 < (x6.items.length : Int))) = true then
      Option.bind (zaJ_4 N x1 x6 x7 x13) fun y25 =>
      match y25 with
      | Sum.inl y26 =>
        AM.lt (IntKind.wrap .i64 (x13 + 1)) fun y27 =>
        zaJ_3 N x1 x6 x7 n y27
      | Sum.inr y28 =>
        some (Sum.inr y28)
    else
      some (Sum.inl ())
def zaJ (N : Nat) (x0 : List Int) (x1 : Int) : Option Bool :=
  Option.bind (zbX N x0) fun y1 =>
  Option.bind (zaK N y1 14) fun y2 =>
  Option.bind (zaT N y2.1) fun y3 =>
  Option.bind (zaS N y2.1 y3.1) fun y4 =>
  Option.bind (zaJ_0 N y3.2 y4.1 y4.2) fun y5 =>
  if y5 = true then
    some false
  else
    Option.bind (zaJ_1 N x1 y2.1 y3.1 (decide (0 < (y3.1.length : Int)))) fun y13 =>
    match y13 with
    | Sum.inl y14 =>
      Option.bind (zaJ_3 N x1 y2.1 y3.1 N 0) fun y29 =>
      match y29 with
      | Sum.inl y30 =>
        Option.bind (zbR N) fun y31 =>
        some y31
      | Sum.inr y32 =>
        some y32
    | Sum.inr y33 =>
      some y33
def zbG_2 (N : Nat) (x1 : Int) (x3 : Disorder) (x7 : Int) (x8 : Bool) (x9 : Int) : Option Bool :=
  if x8 = true then
    Option.bind (getI x3.tracks x7) fun y2 =>
    Option.bind (getI y2 x9) fun y3 =>
    some (y3 == x1)
  else
    some false
def zbG_3 (N : Nat) (x2 : Int) (x3 : Disorder) (x7 : Int) (x8 : Bool) (x9 : Int) : Option Bool :=
  if x8 = true then
    some true
  else
    Option.bind (getI x3.tracks x7) fun y5 =>
    Option.bind (getI y5 x9) fun y6 =>
    AM.lt (y6 == x2) fun y7 =>
    some y7
def zbG_1 (N : Nat) (x1 : Int) (x2 : Int) (x3 : Disorder) (x7 : Int) : Nat → Bool → Int → Option (Sum (Unit) (Bool))
  | 0, _, _ => none
  | n + 1, x8, x9 =>
    Option.bind (getI x3.tracks x7) fun y1 =>
    if (decide (x9 < (y1.length : Int))) = true then
      Option.bind (zbG_2 N x1 x3 x7 x8 x9) fun y4 =>
      if y4 = true then
        some (Sum.inr true)
      else
        Option.bind (zbG_3 N x2 x3 x7 x8 x9) fun y8 =>
        AM.lt (IntKind.wrap .i64 (x9 + 1)) fun y9 =>
        zbG_1 N x1 x2 x3 x7 n y8 y9
    else
      some (Sum.inl ())
def zbG_0 (N : Nat) (x1 : Int) (x2 : Int) (x3 : Disorder) : Nat → Int → Option (Sum (Unit) (Bool))
  | 0, _ => none
  | n + 1, x7 =>
    if (decide (x7 < (x3.tracks.length : Int))) = true then
      Option.bind (zbG_1 N x1 x2 x3 x7 N false 0) fun y10 =>
      match y10 with
      | Sum.inl y11 =>
        AM.lt (IntKind.wrap .i64 (x7 + 1)) fun y12 =>
        zbG_0 N x1 x2 x3 n y12
      | Sum.inr y13 =>
        some (Sum.inr y13)
    else
      some (Sum.inl ())
def zbG (N : Nat) (x0 : Disorder) (x1 : Int) (x2 : Int) : Option Bool :=
  Option.bind (zbG_0 N x1 x2 x0 N 0) fun y14 =>
  match y14 with
  | Sum.inl y15 =>
    some false
  | Sum.inr y16 =>
    some y16
def zaM_1 (N : Nat) (x1 : List Int) (x10 : Int) : Option Bool :=
  if (decide (x10 < (x1.length : Int))) = true then
    some (decide (x10 < 12))
  else
    some false
def zaM_2 (N : Nat) (x1 : List Int) (x9 : List Bool) (x10 : Int) : Option (List Bool) :=
  if (decide (0 < (x9.length : Int))) = true then
    Option.bind (getI x1 x10) fun y6 =>
    Option.bind (zaR N y6 (x9.length : Int)) fun y7 =>
    Option.bind (getI x9 y7) fun y8 =>
    Option.bind (getI x9 y7) fun y9 =>
    AM.lt (x9.set ((y7 : Int).toNat) true) fun y10 =>
    some y10
  else
    some x9
def zaM_0 (N : Nat) (x1 : List Int) : Nat → (List Bool) → Int → Option (List Bool)
  | 0, _, _ => none
  | n + 1, x9, x10 =>
    Option.bind (zaM_1 N x1 x10) fun y5 =>
    if y5 = true then
      Option.bind (zaM_2 N x1 x9 x10) fun y11 =>
      AM.lt (IntKind.wrap .i64 (x10 + 1)) fun y12 =>
      zaM_0 N x1 n y11 y12
    else
      some x9
def zaM_5 (N : Nat) (x6 : Disorder) (x9 : List Bool) (x11 : Int) (x13 : Int) : Option (List Bool) :=
  Option.bind (getI x9 x13) fun y17 =>
  Option.bind (getI x9 x13) fun y18 =>
  if y18 = true then
    Option.bind (getI x9 x13) fun y19 =>
    Option.bind (getI x9 x13) fun y20 =>
    AM.lt (x9.set ((x13 : Int).toNat) true) fun y21 =>
    some y21
  else
    Option.bind (getI x6.items x13) fun y22 =>
    Option.bind (getI x6.homes y22.train) fun y23 =>
    Option.bind (getI x9 x13) fun y24 =>
    Option.bind (getI x9 x13) fun y25 =>
    AM.lt (x9.set ((x13 : Int).toNat) (y23 != x11)) fun y26 =>
    some y26
def zaM_4 (N : Nat) (x6 : Disorder) (x11 : Int) : Nat → (List Bool) → Int → Option (List Bool)
  | 0, _, _ => none
  | n + 1, x9, x12 =>
    Option.bind (getI x6.tracks x11) fun y14 =>
    if (decide (x12 < (y14.length : Int))) = true then
      Option.bind (getI x6.tracks x11) fun y15 =>
      Option.bind (getI y15 x12) fun y16 =>
      Option.bind (zaM_5 N x6 x9 x11 y16) fun y27 =>
      AM.lt (IntKind.wrap .i64 (x12 + 1)) fun y28 =>
      zaM_4 N x6 x11 n y27 y28
    else
      some x9
def zaM_3 (N : Nat) (x6 : Disorder) : Nat → (List Bool) → Int → Option (List Bool)
  | 0, _, _ => none
  | n + 1, x9, x11 =>
    if (decide (x11 < (x6.tracks.length : Int))) = true then
      Option.bind (zaM_4 N x6 x11 N x9 0) fun y29 =>
      AM.lt (IntKind.wrap .i64 (x11 + 1)) fun y30 =>
      zaM_3 N x6 n y29 y30
    else
      some x9
def zaM_9 (N : Nat) (x9 : List Bool) (x15 : Int) (x16 : Int) : Option Bool :=
  if (decide (x16 < (x9.length : Int))) = true then
    Option.bind (getI x9 x15) fun y32 =>
    Option.bind (getI x9 x15) fun y33 =>
    some (!y33)
  else
    some false
def zaM_11 (N : Nat) (x6 : Disorder) (x15 : Int) (x16 : Int) : Option Bool :=
  Option.bind (getI x6.items x16) fun y35 =>
  Option.bind (getI x6.items x15) fun y36 =>
  if (y35.train == y36.train) = true then
    Option.bind (getI x6.items x16) fun y37 =>
    Option.bind (getI x6.items x15) fun y38 =>
    AM.lt (decide (y37.block < y38.block)) fun y39 =>
    some y39
  else
    some false
def zaM_12 (N : Nat) (x6 : Disorder) (x9 : List Bool) (x15 : Int) (x16 : Int) (x17 : Bool) : Option Bool :=
  Option.bind (getI x9 x16) fun y41 =>
  Option.bind (getI x9 x16) fun y42 =>
  if y42 = true then
    Option.bind (zbG N x6 x15 x16) fun y43 =>
    if y43 = true then
      some true
    else
      if x17 = true then
        some true
      else
        if x17 = true then
          Option.bind (zbG N x6 x16 x15) fun y44 =>
          some y44
        else
          some false
  else
    if x17 = true then
      Option.bind (zbG N x6 x16 x15) fun y45 =>
      some y45
    else
      some false
def zaM_10 (N : Nat) (x6 : Disorder) (x9 : List Bool) (x14 : Bool) (x15 : Int) (x16 : Int) : Option (List Bool × Bool) :=
  Option.bind (zaM_11 N x6 x15 x16) fun y40 =>
  Option.bind (zaM_12 N x6 x9 x15 x16 y40) fun y46 =>
  if y46 = true then
    Option.bind (getI x9 x15) fun y47 =>
    Option.bind (getI x9 x15) fun y48 =>
    AM.lt (x9.set ((x15 : Int).toNat) true) fun y49 =>
    some (y49, true)
  else
    some (x9, x14)
def zaM_8 (N : Nat) (x6 : Disorder) (x15 : Int) : Nat → (List Bool) → Bool → Int → Option (List Bool × Bool)
  | 0, _, _, _ => none
  | n + 1, x9, x14, x16 =>
    Option.bind (zaM_9 N x9 x15 x16) fun y34 =>
    if y34 = true then
      Option.bind (zaM_10 N x6 x9 x14 x15 x16) fun y50 =>
      AM.lt (IntKind.wrap .i64 (x16 + 1)) fun y51 =>
      zaM_8 N x6 x15 n y50.1 y50.2 y51
    else
      some (x9, x14)
def zaM_7 (N : Nat) (x6 : Disorder) : Nat → (List Bool) → Bool → Int → Option (List Bool × Bool)
  | 0, _, _, _ => none
  | n + 1, x9, x14, x15 =>
    if (decide (x15 < (x9.length : Int))) = true then
      Option.bind (zaM_8 N x6 x15 N x9 x14 0) fun y52 =>
      AM.lt (IntKind.wrap .i64 (x15 + 1)) fun y53 =>
      zaM_7 N x6 n y52.1 y52.2 y53
    else
      some (x9, x14)
def zaM_6 (N : Nat) (x6 : Disorder) : Nat → (List Bool) → Bool → Option (List Bool)
  | 0, _, _ => none
  | n + 1, x9, x14 =>
    if x14 = true then
      Option.bind (zaM_7 N x6 N x9 false 0) fun y54 =>
      zaM_6 N x6 n y54.1 y54.2
    else
      some x9
def zaM_14 (N : Nat) (x7 : List Pull) (x9 : List Bool) (x18 : Int) : Option Bool :=
  Option.bind (getI x7 x18) fun y56 =>
  Option.bind (getI x7 x18) fun y57 =>
  if (decide (y57.item < 0)) = true then
    some true
  else
    Option.bind (getI x7 x18) fun y58 =>
    Option.bind (getI x7 x18) fun y59 =>
    if (decide ((x9.length : Int) ≤ y59.item)) = true then
      some true
    else
      Option.bind (getI x7 x18) fun y60 =>
      Option.bind (getI x7 x18) fun y61 =>
      Option.bind (getI x9 y61.item) fun y62 =>
      Option.bind (getI x9 y61.item) fun y63 =>
      some (!y63)
def zaM_13 (N : Nat) (x7 : List Pull) (x9 : List Bool) : Nat → Int → Option (Sum (Unit) (Bool))
  | 0, _ => none
  | n + 1, x18 =>
    if (decide (x18 < (x7.length : Int))) = true then
      Option.bind (zaM_14 N x7 x9 x18) fun y64 =>
      if y64 = true then
        some (Sum.inr false)
      else
        AM.lt (IntKind.wrap .i64 (x18 + 1)) fun y65 =>
        zaM_13 N x7 x9 n y65
    else
      some (Sum.inl ())
def zaM_16 (N : Nat) (x9 : List Bool) (x19 : Int) (x20 : Int) : Option Int :=
  Option.bind (getI x9 x20) fun y68 =>
  Option.bind (getI x9 x20) fun y69 =>
  if y69 = true then
    AM.lt (IntKind.wrap .i64 (x19 + 1)) fun y70 =>
    some y70
  else
    some x19
def zaM_15 (N : Nat) (x9 : List Bool) : Nat → Int → Int → Option Int
  | 0, _, _ => none
  | n + 1, x19, x20 =>
    if (decide (x20 < (x9.length : Int))) = true then
      Option.bind (zaM_16 N x9 x19 x20) fun y71 =>
      AM.lt (IntKind.wrap .i64 (x20 + 1)) fun y72 =>
      zaM_15 N x9 n y71 y72
    else
      some x19
def zaM_17 (N : Nat) (x1 : List Int) (x7 : List Pull) (x19 : Int) : Option Bool :=
  if (decide (0 < (x1.length : Int))) = true then
    Option.bind (zbR N) fun y74 =>
    some y74
  else
    if (x19 == (x7.length : Int)) = true then
      Option.bind (zbR N) fun y75 =>
      some y75
    else
      some false
def zaM (N : Nat) (x0 : List Int) (x1 : List Int) : Option Bool :=
  Option.bind (zbX N x0) fun y1 =>
  Option.bind (zaK N y1 12) fun y2 =>
  Option.bind (zaT N y2.1) fun y3 =>
  if (y3.2 != 0) = true then
    some false
  else
    Option.bind (mkI false (y2.1.items.length : Int)) fun y4 =>
    Option.bind (zaM_0 N x1 N y4 0) fun y13 =>
    Option.bind (zaM_3 N y2.1 N y13 0) fun y31 =>
    Option.bind (zaM_6 N y2.1 N y31 true) fun y55 =>
    Option.bind (zaM_13 N y3.1 y55 N 0) fun y66 =>
    match y66 with
    | Sum.inl y67 =>
      Option.bind (zaM_15 N y55 N 0 0) fun y73 =>
      Option.bind (zaM_17 N x1 y3.1 y73) fun y76 =>
      some y76
    | Sum.inr y77 =>
      some y77
def zaH (N : Nat) (x0 : Pull) (x1 : Int) : Option Bool :=
  AM.lt (x0.item == x1) fun y1 =>
  some y1
def zaB_0 (N : Nat) (x0 : List Pull) (x1 : Int) (x7 : Int) : Nat → Int → Option (Sum (Unit) (Int))
  | 0, _ => none
  | n + 1, x8 =>
    if (decide (x8 < x7)) = true then
      Option.bind (getI x0 x8) fun y1 =>
      Option.bind (zaH N y1 x1) fun y2 =>
      if y2 = true then
        some (Sum.inr x8)
      else
        zaB_0 N x0 x1 x7 n (IntKind.wrap .i64 (x8 + 1))
    else
      some (Sum.inl ())
def zaB (N : Nat) (x0 : List Pull) (x1 : Int) : Option Int :=
  Option.bind (zaB_0 N x0 x1 (x0.length : Int) N 0) fun y3 =>
  match y3 with
  | Sum.inl y4 =>
    some (-1)
  | Sum.inr y5 =>
    some y5
def zaA (N : Nat) (x0 : List Pull) (x1 : Int) : Option Bool :=
  Option.bind (zaB N x0 x1) fun y1 =>
  AM.lt (decide (0 ≤ y1)) fun y2 =>
  some y2
def zaW_2 (N : Nat) (x1 : List Pull) (x2 : Bool) (x7 : List (List Int)) (x8 : Int) (x24 : List Int) (x26 : Int) : Option (List (List Int)) :=
  Option.bind (getI x24 x26) fun y3 =>
  Option.bind (zaA N x1 y3) fun y4 =>
  if (!(y4 == x2)) = true then
    Option.bind (getI x7 x8) fun y5 =>
    Option.bind (getI x7 x8) fun y6 =>
    Option.bind (appI y6 ([y3] : List Int)) fun y7 =>
    Option.bind (getI x7 x8) fun y8 =>
    if x8 = x8 then
      Option.bind (getI x7 x8) fun y9 =>
      some (x7.set ((x8 : Int).toNat) y7)
    else
      none
  else
    some x7
def zaW_1 (N : Nat) (x1 : List Pull) (x2 : Bool) (x8 : Int) (x24 : List Int) (x25 : Int) : Nat → (List (List Int)) → Int → Option (List (List Int))
  | 0, _, _ => none
  | n + 1, x7, x26 =>
    if (decide (x26 < x25)) = true then
      Option.bind (zaW_2 N x1 x2 x7 x8 x24 x26) fun y10 =>
      zaW_1 N x1 x2 x8 x24 x25 n y10 (IntKind.wrap .i64 (x26 + 1))
    else
      some x7
def zaW_0 (N : Nat) (x1 : List Pull) (x2 : Bool) (x17 : List (List Int)) (x18 : Int) : Nat → (List (List Int)) → Int → Option (List (List Int))
  | 0, _, _ => none
  | n + 1, x7, x19 =>
    if (decide (x19 < x18)) = true then
      Option.bind (getI x17 x19) fun y2 =>
      Option.bind (zaW_1 N x1 x2 x19 y2 (y2.length : Int) N x7 0) fun y11 =>
      zaW_0 N x1 x2 x17 x18 n y11 (IntKind.wrap .i64 (x19 + 1))
    else
      some x7
def zaW (N : Nat) (x0 : Disorder) (x1 : List Pull) (x2 : Bool) : Option (List (List Int)) :=
  Option.bind (mkI ([] : List Int) (x0.tracks.length : Int)) fun y1 =>
  Option.bind (zaW_0 N x1 x2 x0.tracks (x0.tracks.length : Int) N y1 0) fun y12 =>
  some y12
def zbB (N : Nat) (x0 : Disorder) (x1 : List Pull) : Option (List (List Int) × Int) :=
  Option.bind (zaS N x0 x1) fun y1 =>
  AM.lt (y1.2 != 0) fun y2 =>
  if y2 = true then
    some ([], y1.2)
  else
    AM.lt (!y1.1) fun y3 =>
    if y3 = true then
      some ([], 17)
    else
      Option.bind (zaW N x0 x1 true) fun y4 =>
      some ((List.map (fun (z : List Int) => z) y4), 0)
def zaO_0 (N : Nat) (x4 : Disorder) (x7 : List (List Int)) (x8 : Int) : Option Bool :=
  if (x8 != 0) = true then
    some true
  else
    some ((x7.length : Int) != (x4.tracks.length : Int))
def zaO_3 (N : Nat) (x4 : Disorder) (x7 : List (List Int)) (x10 : Int) (x11 : Int) (x12 : Int) : Option Bool :=
  Option.bind (getI x4.tracks x10) fun y12 =>
  if (decide ((y12.length : Int) ≤ x11)) = true then
    some true
  else
    Option.bind (getI x4.tracks x10) fun y13 =>
    Option.bind (getI y13 x11) fun y14 =>
    if (x12 != y14) = true then
      some true
    else
      Option.bind (getI x4.items x12) fun y15 =>
      Option.bind (getI x4.homes y15.train) fun y16 =>
      if (y16 != x10) = true then
        some true
      else
        if (decide (0 < x11)) = true then
          Option.bind (getI x7 x10) fun y17 =>
          Option.bind (getI y17 (IntKind.wrap .i64 (x11 - 1))) fun y18 =>
          Option.bind (getI x4.items y18) fun y19 =>
          Option.bind (getI x4.items x12) fun y20 =>
          some (decide (y20.block < y19.block))
        else
          some false
def zaO_2 (N : Nat) (x4 : Disorder) (x7 : List (List Int)) (x10 : Int) : Nat → Int → Option (Sum (Unit) (Bool))
  | 0, _ => none
  | n + 1, x11 =>
    Option.bind (getI x7 x10) fun y9 =>
    if (decide (x11 < (y9.length : Int))) = true then
      Option.bind (getI x7 x10) fun y10 =>
      Option.bind (getI y10 x11) fun y11 =>
      Option.bind (zaO_3 N x4 x7 x10 x11 y11) fun y21 =>
      if y21 = true then
        some (Sum.inr false)
      else
        AM.lt (IntKind.wrap .i64 (x11 + 1)) fun y22 =>
        zaO_2 N x4 x7 x10 n y22
    else
      some (Sum.inl ())
def zaO_1 (N : Nat) (x4 : Disorder) (x7 : List (List Int)) : Nat → Int → Int → Option (Sum (Int) (Bool))
  | 0, _, _ => none
  | n + 1, x9, x10 =>
    if (decide (x10 < (x7.length : Int))) = true then
      Option.bind (getI x7 x10) fun y7 =>
      AM.lt (IntKind.wrap .i64 (x9 + (y7.length : Int))) fun y8 =>
      Option.bind (zaO_2 N x4 x7 x10 N 0) fun y23 =>
      match y23 with
      | Sum.inl y24 =>
        AM.lt (IntKind.wrap .i64 (x10 + 1)) fun y25 =>
        zaO_1 N x4 x7 n y8 y25
      | Sum.inr y26 =>
        some (Sum.inr y26)
    else
      some (Sum.inl x9)
def zaO_4 (N : Nat) (x4 : Disorder) (x9 : Int) : Option Bool :=
  if (x9 == (x4.items.length : Int)) = true then
    Option.bind (zbR N) fun y29 =>
    some y29
  else
    some false
def zaO (N : Nat) (x0 : List Int) : Option Bool :=
  Option.bind (zbX N x0) fun y1 =>
  Option.bind (zaK N y1 14) fun y2 =>
  Option.bind (zaT N y2.1) fun y3 =>
  Option.bind (zbB N y2.1 y3.1) fun y4 =>
  Option.bind (zaO_0 N y2.1 y4.1 y4.2) fun y5 =>
  if y5 = true then
    some false
  else
    AM.lt (y3.1.length : Int) fun y6 =>
    Option.bind (zaO_1 N y2.1 y4.1 N y6 0) fun y27 =>
    match y27 with
    | Sum.inl y28 =>
      Option.bind (zaO_4 N y2.1 y28) fun y30 =>
      some y30
    | Sum.inr y31 =>
      some y31
def zaF_0 (N : Nat) (x6 : Bool) : Option Unit :=
  if x6 = true then
    none
  else
    some ()
def zaF_1 (N : Nat) (x1 : Int) (x16 : Bool) : Option (List Int) :=
  if x16 = true then
    if (decide (0 < x1)) = true then
      Option.bind (mkI 0 x1) fun y3 =>
      Option.bind (cutI y3 0 (([] : List Int).length : Int)) fun y4 =>
      some y4
    else
      none
  else
    some []
def zaF (N : Nat) (x1 : Int) : Option (List Int) :=
  Option.bind (zaF_0 N (decide (x1 < 0))) fun y1 =>
  AM.lt (IntKind.wrap .i64 (x1 - (IntKind.wrap .i64 (0 - (([] : List Int).length : Int))))) fun y2 =>
  Option.bind (zaF_1 N y2 (decide (0 < y2))) fun y5 =>
  some y5
def zaD_1 (N : Nat) (x3 : Int) (x9 : List (List Int)) (x11 : Int) : Option Int :=
  Option.bind (getI x9 x11) fun y1 =>
  AM.lt (IntKind.wrap .i64 (x3 + (y1.length : Int))) fun y2 =>
  if (decide (y2 < 0)) = true then
    none
  else
    some y2
def zaD_0 (N : Nat) (x9 : List (List Int)) (x10 : Int) : Nat → Int → Int → Option Int
  | 0, _, _ => none
  | n + 1, x3, x11 =>
    if (decide (x11 < x10)) = true then
      Option.bind (zaD_1 N x3 x9 x11) fun y3 =>
      zaD_0 N x9 x10 n y3 (IntKind.wrap .i64 (x11 + 1))
    else
      some x3
def zaD_2 (N : Nat) (x25 : List (List Int)) (x26 : Int) : Nat → (List Int) → Int → Option (List Int)
  | 0, _, _ => none
  | n + 1, x6, x27 =>
    if (decide (x27 < x26)) = true then
      Option.bind (getI x25 x27) fun y6 =>
      Option.bind (appI x6 y6) fun y7 =>
      zaD_2 N x25 x26 n y7 (IntKind.wrap .i64 (x27 + 1))
    else
      some x6
def zaD (N : Nat) (x0 : List (List Int)) : Option (List Int) :=
  Option.bind (zaD_0 N x0 (x0.length : Int) N 0 0) fun y4 =>
  Option.bind (zaF N y4) fun y5 =>
  Option.bind (zaD_2 N x0 (x0.length : Int) N y5 0) fun y8 =>
  some y8
def zbZ_0 (N : Nat) (x0 : Int) (x1 : Int) (x2 : Int) : Option Bool :=
  if (decide (x1 ≤ x0)) = true then
    AM.lt (decide (x0 ≤ x2)) fun y1 =>
    some y1
  else
    some false
def zbZ (N : Nat) (x0 : Int) (x1 : Int) (x2 : Int) : Option Bool :=
  Option.bind (zbZ_0 N x0 x1 x2) fun y2 =>
  some y2
def zbM_1 (N : Nat) (x4 : Item) : Option Bool :=
  Option.bind (zbZ N x4.train 0 15) fun y3 =>
  if (!y3) = true then
    some true
  else
    Option.bind (zbZ N x4.block 0 31) fun y4 =>
    if (!y4) = true then
      some true
    else
      Option.bind (zbZ N x4.round 0 12) fun y5 =>
      if (!y5) = true then
        some true
      else
        Option.bind (zbZ N x4.length 1 400) fun y6 =>
        some (!y6)
def zbM_2 (N : Nat) (x1 : Job) (x3 : Int) (x4 : Item) : Option Bool :=
  if (decide (0 < x3)) = true then
    Option.bind (getI x1.items (IntKind.wrap .i64 (x3 - 1))) fun y8 =>
    some (decide (x4.round < y8.round))
  else
    some false
def zbM_0 (N : Nat) (x1 : Job) (x14 : List Item) (x15 : Int) : Nat → Int → Option (Sum (Unit) (Int))
  | 0, _ => none
  | n + 1, x16 =>
    if (decide (x16 < x15)) = true then
      Option.bind (getI x14 x16) fun y2 =>
      Option.bind (zbM_1 N y2) fun y7 =>
      if y7 = true then
        some (Sum.inr 2)
      else
        Option.bind (zbM_2 N x1 x16 y2) fun y9 =>
        if y9 = true then
          some (Sum.inr 12)
        else
          zbM_0 N x1 x14 x15 n (IntKind.wrap .i64 (x16 + 1))
    else
      some (Sum.inl ())
def zbM (N : Nat) (x0 : Job) : Option Int :=
  if (decide (96 < (x0.items.length : Int))) = true then
    some 3
  else
    Option.bind (zbZ N x0.weight 0 12) fun y1 =>
    if (!y1) = true then
      some 2
    else
      Option.bind (zbM_0 N x0 x0.items (x0.items.length : Int) N 0) fun y10 =>
      match y10 with
      | Sum.inl y11 =>
        some 0
      | Sum.inr y12 =>
        some y12
def zbK_0 (N : Nat) (x2 : Int) : Option Bool :=
  if (decide (x2 < 0)) = true then
    some true
  else
    AM.lt (decide (12 < x2)) fun y3 =>
    some y3
def zbK_1 (N : Nat) (x3 : Disorder) (x11 : List Int) (x46 : Int) : Nat → Job → Int → (List Item) → Option (Job × List Item)
  | 0, _, _, _ => none
  | n + 1, x12, x47, x2012000 =>
    if (decide (x47 < x46)) = true then
      Option.bind (getI x11 x47) fun y8 =>
      Option.bind (getI x11 x47) fun y9 =>
      Option.bind (getI x3.items y9) fun y10 =>
      Option.bind (appI x2012000 ([y10] : List Item)) fun y11 =>
      zbK_1 N x3 x11 x46 n (Job.mk [] x12.weight) (IntKind.wrap .i64 (x47 + 1)) y11
    else
      some ((Job.mk [] x12.weight), x2012000)
def zbK (N : Nat) (x0 : Disorder) (x1 : List Pull) (x2 : Int) : Option (Job × List Int × Int) :=
  Option.bind (zaS N x0 x1) fun y1 =>
  AM.lt (y1.2 != 0) fun y2 =>
  if y2 = true then
    some ((Job.mk [] 0), [], y1.2)
  else
    Option.bind (zbK_0 N x2) fun y4 =>
    if y4 = true then
      some ((Job.mk [] 0), [], 2)
    else
      AM.lt (!y1.1) fun y5 =>
      if y5 = true then
        some ((Job.mk [] 0), [], 17)
      else
        Option.bind (zaW N x0 x1 false) fun y6 =>
        Option.bind (zaD N (List.map (fun (z : List Int) => z) y6)) fun y7 =>
        Option.bind (zbK_1 N x0 y7 (y7.length : Int) N (Job.mk [] x2) 0 []) fun y12 =>
        Option.bind (zbM N (Job.mk y12.2 y12.1.weight)) fun y13 =>
        if (y13 != 0) = true then
          some ((Job.mk [] 0), [], y13)
        else
          some ((Job.mk y12.2 y12.1.weight), y7, 0)
def zbN_0 (N : Nat) (x1 : Job) : Option Bool :=
  if (decide (x1.weight < 0)) = true then
    some true
  else
    some (decide (12 < x1.weight))
def zbN_2 (N : Nat) (x4 : Item) : Option Bool :=
  if (decide (x4.train < 0)) = true then
    some true
  else
    if (decide (16 ≤ x4.train)) = true then
      some true
    else
      if (decide (x4.block < 0)) = true then
        some true
      else
        if (decide (32 ≤ x4.block)) = true then
          some true
        else
          if (decide (x4.round < 0)) = true then
            some true
          else
            if (decide (13 ≤ x4.round)) = true then
              some true
            else
              if (decide (x4.length < 1)) = true then
                some true
              else
                some (decide (400 < x4.length))
def zbN_3 (N : Nat) (x1 : Job) (x3 : Int) (x4 : Item) : Option Bool :=
  if (decide (0 < x3)) = true then
    Option.bind (getI x1.items (IntKind.wrap .i64 (x3 - 1))) fun y4 =>
    some (decide (x4.round < y4.round))
  else
    some false
def zbN_1 (N : Nat) (x1 : Job) : Nat → Int → Option (Sum (Unit) (Int))
  | 0, _ => none
  | n + 1, x3 =>
    if (decide (x3 < (x1.items.length : Int))) = true then
      Option.bind (getI x1.items x3) fun y2 =>
      Option.bind (zbN_2 N y2) fun y3 =>
      if y3 = true then
        some (Sum.inr 2)
      else
        Option.bind (zbN_3 N x1 x3 y2) fun y5 =>
        if y5 = true then
          some (Sum.inr 12)
        else
          AM.lt (IntKind.wrap .i64 (x3 + 1)) fun y6 =>
          zbN_1 N x1 n y6
    else
      some (Sum.inl ())
def zbN (N : Nat) (x0 : Job) : Option Int :=
  if (decide (96 < (x0.items.length : Int))) = true then
    some 3
  else
    Option.bind (zbN_0 N x0) fun y1 =>
    if y1 = true then
      some 2
    else
      Option.bind (zbN_1 N x0 N 0) fun y7 =>
      match y7 with
      | Sum.inl y8 =>
        some 0
      | Sum.inr y9 =>
        some y9
def zbT_0 (N : Nat) (x7 : Item) (x8 : Item) : Option Bool :=
  if (x7.train != x8.train) = true then
    some true
  else
    AM.lt (decide (x8.block ≤ x7.block)) fun y3 =>
    some y3
def zbT (N : Nat) (x0 : Job) (x1 : Int) (x2 : Int) : Option Int :=
  Option.bind (getI x0.items x1) fun y1 =>
  Option.bind (getI x0.items x2) fun y2 =>
  Option.bind (zbT_0 N y1 y2) fun y4 =>
  if y4 = true then
    some 0
  else
    AM.lt (decide (x2 < x1)) fun y5 =>
    if y5 = true then
      some 2
    else
      some 1
def zbH (N : Nat) (x0 : Job) (x1 : Int) (x2 : Int) : Option Int :=
  Option.bind (zbT N x0 x1 x2) fun y1 =>
  AM.lt (IntKind.wrap .i64 (Int.tdiv y1 2)) fun y2 =>
  some y2
def zbS_1 (N : Nat) (x1 : List Int) (x2 : Int) (x3 : Job) (x7 : Int) (x8 : Int) : Option Int :=
  Option.bind (zbT N x3 x8 x2) fun y1 =>
  if (decide (0 < y1)) = true then
    Option.bind (getI x1 x8) fun y2 =>
    Option.bind (zbH N x3 x8 x2) fun y3 =>
    AM.lt (max x7 (IntKind.wrap .i64 (y2 + y3))) fun y4 =>
    some y4
  else
    some x7
def zbS_0 (N : Nat) (x1 : List Int) (x2 : Int) (x3 : Job) : Nat → Int → Int → Option Int
  | 0, _, _ => none
  | n + 1, x7, x8 =>
    if (decide (x8 < (x3.items.length : Int))) = true then
      Option.bind (zbS_1 N x1 x2 x3 x7 x8) fun y5 =>
      AM.lt (IntKind.wrap .i64 (x8 + 1)) fun y6 =>
      zbS_0 N x1 x2 x3 n y5 y6
    else
      some x7
def zbS (N : Nat) (x0 : Job) (x1 : List Int) (x2 : Int) : Option Int :=
  Option.bind (zbS_0 N x1 x2 x0 N 0 0) fun y7 =>
  some y7
def zbW_0 (N : Nat) (x0 : Int) (x1 : Int) : Option Bool :=
  if (decide (0 ≤ x0)) = true then
    if (decide (x0 < 13)) = true then
      if (decide (0 ≤ x1)) = true then
        AM.lt (decide (x1 ≤ 12)) fun y1 =>
        some y1
      else
        some false
    else
      some false
  else
    some false
def zbW (N : Nat) (x0 : Int) (x1 : Int) : Option Bool :=
  Option.bind (zbW_0 N x0 x1) fun y2 =>
  some y2
def zcA_0 (N : Nat) (x0 : Int) (x1 : Int) (x2 : Int) : Option Bool :=
  Option.bind (zbW N x1 x2) fun y1 =>
  if (!y1) = true then
    some true
  else
    if (decide (x0 < 0)) = true then
      some true
    else
      if (decide (4096 ≤ x0)) = true then
        some true
      else
        Option.bind (shN .i64 x1) fun y2 =>
        Option.bind (modI x0 (IntKind.wrap .i64 (1 * ((2 ^ y2 : Nat) : Int)))) fun y3 =>
        Option.bind (shN .i64 x1) fun y4 =>
        some (y3 != (IntKind.wrap .i64 ((IntKind.wrap .i64 (1 * ((2 ^ y4 : Nat) : Int))) - 1)))
def zcA_1 (N : Nat) : Nat → Int → Int → Option Int
  | 0, _, _ => none
  | n + 1, x7, x8 =>
    if (decide (0 < x8)) = true then
      AM.lt (IntKind.wrap .i64 (x7 + (Int.tmod x8 2))) fun y8 =>
      AM.lt (IntKind.wrap .i64 (Int.tdiv x8 2)) fun y9 =>
      zcA_1 N n y8 y9
    else
      some x7
def zcA (N : Nat) (x0 : Int) (x1 : Int) (x2 : Int) : Option Bool :=
  Option.bind (zcA_0 N x0 x1 x2) fun y5 =>
  if y5 = true then
    some false
  else
    Option.bind (shN .i64 x1) fun y6 =>
    AM.lt (Int.fdiv x0 ((2 ^ y6 : Nat) : Int)) fun y7 =>
    Option.bind (zcA_1 N N 0 y7) fun y10 =>
    AM.lt (decide (y10 ≤ x2)) fun y11 =>
    some y11
def zbV_0 (N : Nat) (x0 : Int) (x1 : Int) (x2 : Int) : Option Bool :=
  Option.bind (zbW N x1 x2) fun y1 =>
  if (!y1) = true then
    some true
  else
    some (decide (x0 < 0))
def zbV_1 (N : Nat) (x1 : Int) (x2 : Int) : Nat → Int → Option (Sum (Unit) (Int × Int))
  | 0, _ => none
  | n + 1, x8 =>
    if (decide (x8 < 4096)) = true then
      Option.bind (zcA N x8 x1 x2) fun y3 =>
      if y3 = true then
        some (Sum.inr (x8, 0))
      else
        AM.lt (IntKind.wrap .i64 (x8 + 1)) fun y4 =>
        zbV_1 N x1 x2 n y4
    else
      some (Sum.inl ())
def zbV (N : Nat) (x0 : Int) (x1 : Int) (x2 : Int) : Option (Int × Int) :=
  Option.bind (zbV_0 N x0 x1 x2) fun y2 =>
  if y2 = true then
    some (0, 2)
  else
    Option.bind (zbV_1 N x1 x2 N x0) fun y5 =>
    match y5 with
    | Sum.inl y6 =>
      some (0, 15)
    | Sum.inr y7 =>
      some (y7.1, y7.2)
def zbU_0 (N : Nat) : Nat → Int → Int → Option Int
  | 0, _, _ => none
  | n + 1, x0, x3 =>
    if (decide (0 < x0)) = true then
      AM.lt (IntKind.wrap .i64 (x3 + 1)) fun y1 =>
      AM.lt (IntKind.wrap .i64 (Int.tdiv x0 2)) fun y2 =>
      zbU_0 N n y2 y1
    else
      some x3
def zbU (N : Nat) (x0 : Int) : Option Int :=
  Option.bind (zbU_0 N N x0 0) fun y3 =>
  some y3
def zbO_2 (N : Nat) (x1 : Job) (x2 : Plan) (x5 : List Int) (x6 : Int) (x7 : Int) (x8 : Int) : Option (Sum (Plan × List Int × Int) (Plan × Int)) :=
  Option.bind (getI x1.items x8) fun y3 =>
  if (y3.block != x7) = true then
    some (Sum.inl (x2, x5, x6))
  else
    Option.bind (zbS N x1 x5 x8) fun y4 =>
    Option.bind (getI x1.items x8) fun y5 =>
    Option.bind (zbV N y4 y5.round x1.weight) fun y6 =>
    if (y6.2 != 0) = true then
      some (Sum.inr ((Plan.mk 0 []), y6.2))
    else
      Option.bind (getI x5 x8) fun y7 =>
      Option.bind (getI x5 x8) fun y8 =>
      AM.lt (x5.set ((x8 : Int).toNat) y6.1) fun y9 =>
      AM.lt (max x6 y6.1) fun y10 =>
      some (Sum.inl (x2, y9, y10))
def zbO_1 (N : Nat) (x1 : Job) (x7 : Int) : Nat → Plan → (List Int) → Int → Int → Option (Sum (Plan × List Int × Int) (Plan × Int))
  | 0, _, _, _, _ => none
  | n + 1, x2, x5, x6, x8 =>
    if (decide (x8 < (x5.length : Int))) = true then
      Option.bind (zbO_2 N x1 x2 x5 x6 x7 x8) fun y11 =>
      match y11 with
      | Sum.inl y12 =>
        AM.lt (IntKind.wrap .i64 (x8 + 1)) fun y13 =>
        zbO_1 N x1 x7 n y12.1 y12.2.1 y12.2.2 y13
      | Sum.inr y14 =>
        some (Sum.inr (y14.1, y14.2))
    else
      some (Sum.inl (x2, x5, x6))
def zbO_0 (N : Nat) (x1 : Job) : Nat → Plan → (List Int) → Int → Int → Option (Sum (Plan × List Int × Int) (Plan × Int))
  | 0, _, _, _, _ => none
  | n + 1, x2, x5, x6, x7 =>
    if (decide (x7 < 32)) = true then
      Option.bind (zbO_1 N x1 x7 N x2 x5 x6 0) fun y15 =>
      match y15 with
      | Sum.inl y16 =>
        AM.lt (IntKind.wrap .i64 (x7 + 1)) fun y17 =>
        zbO_0 N x1 n y16.1 y16.2.1 y16.2.2 y17
      | Sum.inr y18 =>
        some (Sum.inr (y18.1, y18.2))
    else
      some (Sum.inl (x2, x5, x6))
def zbO (N : Nat) (x0 : Job) : Option (Plan × Int) :=
  Option.bind (zbN N x0) fun y1 =>
  if (y1 != 0) = true then
    some ((Plan.mk 0 []), y1)
  else
    Option.bind (mkI 0 (x0.items.length : Int)) fun y2 =>
    Option.bind (zbO_0 N x0 N (Plan.mk 0 []) y2 0 0) fun y19 =>
    match y19 with
    | Sum.inl y20 =>
      Option.bind (zbU N y20.2.2) fun y21 =>
      some ((Plan.mk y21 y20.2.1), 0)
    | Sum.inr y22 =>
      some (y22.1, y22.2)
def zbP_0 (N : Nat) (x2 : Job) (x3 : Plan) : Option Bool :=
  if (decide (x3.steps < 0)) = true then
    some true
  else
    if (decide (12 < x3.steps)) = true then
      some true
    else
      some ((x3.codes.length : Int) != (x2.items.length : Int))
def zbP_2 (N : Nat) (x2 : Job) (x3 : Plan) (x6 : Int) : Option Bool :=
  Option.bind (getI x3.codes x6) fun y3 =>
  Option.bind (shN .i64 x3.steps) fun y4 =>
  if (decide ((IntKind.wrap .i64 (1 * ((2 ^ y4 : Nat) : Int))) ≤ y3)) = true then
    some true
  else
    Option.bind (getI x3.codes x6) fun y5 =>
    Option.bind (getI x2.items x6) fun y6 =>
    Option.bind (zcA N y5 y6.round x2.weight) fun y7 =>
    some (!y7)
def zbP_1 (N : Nat) (x2 : Job) (x3 : Plan) : Nat → Int → Option (Sum (Unit) (Int))
  | 0, _ => none
  | n + 1, x6 =>
    if (decide (x6 < (x3.codes.length : Int))) = true then
      Option.bind (zbP_2 N x2 x3 x6) fun y8 =>
      if y8 = true then
        some (Sum.inr 1)
      else
        AM.lt (IntKind.wrap .i64 (x6 + 1)) fun y9 =>
        zbP_1 N x2 x3 n y9
    else
      some (Sum.inl ())
def zbP (N : Nat) (x0 : Job) (x1 : Plan) : Option Int :=
  Option.bind (zbN N x0) fun y1 =>
  if (y1 != 0) = true then
    some y1
  else
    Option.bind (zbP_0 N x0 x1) fun y2 =>
    if y2 = true then
      some 1
    else
      Option.bind (zbP_1 N x0 x1 N 0) fun y10 =>
      match y10 with
      | Sum.inl y11 =>
        some 0
      | Sum.inr y12 =>
        some y12
def zbI_0 (N : Nat) (x1 : Job) : Nat → Int → Int → Option Int
  | 0, _, _ => none
  | n + 1, x3, x4 =>
    if (decide (x4 < (x1.items.length : Int))) = true then
      Option.bind (getI x1.items x4) fun y1 =>
      AM.lt (max x3 (IntKind.wrap .i64 (y1.train + 1))) fun y2 =>
      AM.lt (IntKind.wrap .i64 (x4 + 1)) fun y3 =>
      zbI_0 N x1 n y2 y3
    else
      some x3
def zbI (N : Nat) (x0 : Job) : Option Int :=
  Option.bind (zbI_0 N x0 N 0 0) fun y4 =>
  some y4
def zbA_0 (N : Nat) (x3 : Int) (x7 : Plan) : Nat → Int → (List (List Int)) → (List (List Int)) → Option (Sum (List (List Int) × List (List Int)) (List (List Int) × List (List Int)))
  | 0, _, _, _ => none
  | n + 1, x10, x2000000, x2000001 =>
    if (decide (x10 < x7.steps)) = true then
      Option.bind (getI x7.codes x3) fun y1 =>
      Option.bind (shN .i64 x10) fun y2 =>
      if ((bitsV .and .i64 (Int.fdiv y1 ((2 ^ y2 : Nat) : Int)) 1) == 1) = true then
        Option.bind (getI x2000000 x10) fun y3 =>
        Option.bind (getI x2000000 x10) fun y4 =>
        Option.bind (appI y4 ([x3] : List Int)) fun y5 =>
        Option.bind (getI x2000000 x10) fun y6 =>
        if x10 = x10 then
          Option.bind (getI x2000000 x10) fun y7 =>
          some (Sum.inr ((x2000000.set ((x10 : Int).toNat) y5), x2000001))
        else
          none
      else
        AM.lt (IntKind.wrap .i64 (x10 + 1)) fun y8 =>
        zbA_0 N x3 x7 n y8 x2000000 x2000001
    else
      some (Sum.inl (x2000000, x2000001))
def zbA (N : Nat) (x0 : Yard) (x1 : Job) (x2 : Plan) (x3 : Int) (x4 : Int) (x2000000 : List (List Int)) (x2000001 : List (List Int)) : Option (Yard × List (List Int) × List (List Int)) :=
  Option.bind (zbA_0 N x3 x2 N x4 x2000000 x2000001) fun y9 =>
  match y9 with
  | Sum.inl y10 =>
    Option.bind (getI x1.items x3) fun y11 =>
    Option.bind (getI y10.2 y11.train) fun y12 =>
    Option.bind (getI y10.2 y11.train) fun y13 =>
    Option.bind (appI y13 ([x3] : List Int)) fun y14 =>
    Option.bind (getI y10.2 y11.train) fun y15 =>
    if y11.train = y11.train then
      Option.bind (getI y10.2 y11.train) fun y16 =>
      some ((Yard.mk [] [] (IntKind.wrap .i64 (x0.moves + 1)) x0.pushes), y10.1, (y10.2.set ((y11.train : Int).toNat) y14))
    else
      none
  | Sum.inr y17 =>
    some ((Yard.mk [] [] (IntKind.wrap .i64 (x0.moves + 1)) x0.pushes), y17.1, y17.2)
def zcB_3 (N : Nat) (x3 : Job) (x4 : Plan) (x8 : Int) (x10 : List Int) : Nat → Yard → Int → (List (List Int)) → (List (List Int)) → Option (Yard × List (List Int) × List (List Int))
  | 0, _, _, _, _ => none
  | n + 1, x7, x11, x2007000, x2007001 =>
    if (decide (x11 < (x10.length : Int))) = true then
      Option.bind (getI x10 x11) fun y8 =>
      Option.bind (zbA N (Yard.mk [] [] x7.moves x7.pushes) x3 x4 y8 x8 x2007000 x2007001) fun y9 =>
      AM.lt (IntKind.wrap .i64 (x11 + 1)) fun y10 =>
      zcB_3 N x3 x4 x8 x10 n (Yard.mk [] [] y9.1.moves y9.1.pushes) y10 y9.2.1 y9.2.2
    else
      some ((Yard.mk [] [] x7.moves x7.pushes), x2007000, x2007001)
def zcB_2 (N : Nat) (x3 : Job) (x4 : Plan) (x7 : Yard) (x8 : Int) (x28 : Bool) (x2007000 : List (List Int)) (x2007001 : List (List Int)) : Option (Yard × List (List Int) × List (List Int)) :=
  if x28 = true then
    Option.bind (getI x2007000 (IntKind.wrap .i64 (x8 - 1))) fun y4 =>
    Option.bind (getI x2007000 (IntKind.wrap .i64 (x8 - 1))) fun y5 =>
    Option.bind (getI x2007000 (IntKind.wrap .i64 (x8 - 1))) fun y6 =>
    if (IntKind.wrap .i64 (x8 - 1)) = (IntKind.wrap .i64 (x8 - 1)) then
      Option.bind (getI x2007000 (IntKind.wrap .i64 (x8 - 1))) fun y7 =>
      Option.bind (zcB_3 N x3 x4 x8 y5 N (Yard.mk [] [] x7.moves x7.pushes) 0 (x2007000.set (((IntKind.wrap .i64 (x8 - 1)) : Int).toNat) []) x2007001) fun y11 =>
      some ((Yard.mk [] [] y11.1.moves y11.1.pushes), y11.2.1, y11.2.2)
    else
      none
  else
    some ((Yard.mk [] [] x7.moves x7.pushes), x2007000, x2007001)
def zcB_5 (N : Nat) (x3 : Job) (x4 : Plan) (x7 : Yard) (x8 : Int) (x12 : Int) (x2007000 : List (List Int)) (x2007001 : List (List Int)) : Option (Yard × List (List Int) × List (List Int)) :=
  Option.bind (getI x3.items x12) fun y13 =>
  if (y13.round == x8) = true then
    Option.bind (zbA N (Yard.mk [] [] x7.moves x7.pushes) x3 x4 x12 x8 x2007000 x2007001) fun y14 =>
    some ((Yard.mk [] [] y14.1.moves y14.1.pushes), y14.2.1, y14.2.2)
  else
    some ((Yard.mk [] [] x7.moves x7.pushes), x2007000, x2007001)
def zcB_4 (N : Nat) (x3 : Job) (x4 : Plan) (x8 : Int) : Nat → Yard → Int → (List (List Int)) → (List (List Int)) → Option (Yard × List (List Int) × List (List Int))
  | 0, _, _, _, _ => none
  | n + 1, x7, x12, x2007000, x2007001 =>
    if (decide (x12 < (x3.items.length : Int))) = true then
      Option.bind (zcB_5 N x3 x4 (Yard.mk [] [] x7.moves x7.pushes) x8 x12 x2007000 x2007001) fun y15 =>
      AM.lt (IntKind.wrap .i64 (x12 + 1)) fun y16 =>
      zcB_4 N x3 x4 x8 n (Yard.mk [] [] y15.1.moves y15.1.pushes) y16 y15.2.1 y15.2.2
    else
      some ((Yard.mk [] [] x7.moves x7.pushes), x2007000, x2007001)
def zcB_1 (N : Nat) (x3 : Job) (x4 : Plan) (x7 : Yard) (x8 : Int) (x2007000 : List (List Int)) (x2007001 : List (List Int)) : Option (Yard × List (List Int) × List (List Int)) :=
  Option.bind (zcB_2 N x3 x4 (Yard.mk [] [] x7.moves x7.pushes) x8 (decide (0 < x8)) x2007000 x2007001) fun y12 =>
  Option.bind (zcB_4 N x3 x4 x8 N (Yard.mk [] [] y12.1.moves y12.1.pushes) 0 y12.2.1 y12.2.2) fun y17 =>
  if (decide (x7.moves < y17.1.moves)) = true then
    some ((Yard.mk [] [] y17.1.moves (IntKind.wrap .i64 (y17.1.pushes + 1))), y17.2.1, y17.2.2)
  else
    some ((Yard.mk [] [] y17.1.moves y17.1.pushes), y17.2.1, y17.2.2)
def zcB_0 (N : Nat) (x2 : Int) (x3 : Job) (x4 : Plan) : Nat → Yard → Int → (List (List Int)) → (List (List Int)) → Option (Yard × List (List Int) × List (List Int))
  | 0, _, _, _, _ => none
  | n + 1, x7, x8, x2007000, x2007001 =>
    if (decide (x8 ≤ x2)) = true then
      Option.bind (zcB_1 N x3 x4 (Yard.mk [] [] x7.moves x7.pushes) x8 x2007000 x2007001) fun y18 =>
      AM.lt (IntKind.wrap .i64 (x8 + 1)) fun y19 =>
      zcB_0 N x2 x3 x4 n (Yard.mk [] [] y18.1.moves y18.1.pushes) y19 y18.2.1 y18.2.2
    else
      some ((Yard.mk [] [] x7.moves x7.pushes), x2007000, x2007001)
def zcB (N : Nat) (x0 : Job) (x1 : Plan) (x2 : Int) : Option Yard :=
  Option.bind (mkI ([] : List Int) x1.steps) fun y1 =>
  Option.bind (zbI N x0) fun y2 =>
  Option.bind (mkI ([] : List Int) y2) fun y3 =>
  Option.bind (zcB_0 N x2 x0 x1 N (Yard.mk [] [] 0 0) 0 y1 y3) fun y20 =>
  some (Yard.mk (List.map (fun (z : List Int) => z) y20.2.1) (List.map (fun (z : List Int) => z) y20.2.2) y20.1.moves y20.1.pushes)
def zbY (N : Nat) (x0 : Job) (x1 : Plan) : Option (Sorted × Int) :=
  Option.bind (zbP N x0 x1) fun y1 =>
  if (y1 != 0) = true then
    some ((Sorted.mk [] 0), y1)
  else
    Option.bind (zcB N x0 x1 x1.steps) fun y2 =>
    some ((Sorted.mk y2.trains y2.moves), 0)
def zaN_0 (N : Nat) (x4 : Disorder) (x5 : List Pull) (x7 : List (List Int)) (x8 : Int) (x9 : Job) (x10 : List Int) (x11 : Int) : Option Bool :=
  if (x8 != 0) = true then
    some true
  else
    if (x11 != 0) = true then
      some true
    else
      if ((x10.length : Int) != (x5.length : Int)) = true then
        some true
      else
        if ((x9.items.length : Int) != (x5.length : Int)) = true then
          some true
        else
          some ((x7.length : Int) != (x4.tracks.length : Int))
def zaN_1 (N : Nat) (x13 : Int) (x15 : Int) : Option Bool :=
  if (x13 != 0) = true then
    some true
  else
    some (x15 != 0)
def zaN_4 (N : Nat) (x10 : List Int) (x14 : Sorted) (x17 : Int) : Nat → (List Int) → Int → Option (List Int)
  | 0, _, _ => none
  | n + 1, x18, x19 =>
    Option.bind (getI x14.trains x17) fun y14 =>
    if (decide (x19 < (y14.length : Int))) = true then
      Option.bind (getI x14.trains x17) fun y15 =>
      Option.bind (getI y15 x19) fun y16 =>
      Option.bind (getI x10 y16) fun y17 =>
      Option.bind (getI x10 y16) fun y18 =>
      Option.bind (appI x18 ([y18] : List Int)) fun y19 =>
      AM.lt (IntKind.wrap .i64 (x19 + 1)) fun y20 =>
      zaN_4 N x10 x14 x17 n y19 y20
    else
      some x18
def zaN_3 (N : Nat) (x10 : List Int) (x14 : Sorted) (x17 : Int) (x18 : List Int) (x116 : Bool) : Option (List Int) :=
  if x116 = true then
    Option.bind (zaN_4 N x10 x14 x17 N x18 0) fun y21 =>
    some y21
  else
    some x18
def zaN_6 (N : Nat) (x4 : Disorder) (x16 : List Bool) (x17 : Int) (x18 : List Int) (x20 : Int) (x21 : Int) : Option Bool :=
  if (decide (x21 < 0)) = true then
    some true
  else
    if (decide ((x16.length : Int) ≤ x21)) = true then
      some true
    else
      Option.bind (getI x16 x21) fun y25 =>
      Option.bind (getI x16 x21) fun y26 =>
      if y26 = true then
        some true
      else
        Option.bind (getI x4.items x21) fun y27 =>
        if (y27.train != x17) = true then
          some true
        else
          if (decide (0 < x20)) = true then
            Option.bind (getI x18 (IntKind.wrap .i64 (x20 - 1))) fun y28 =>
            Option.bind (getI x18 (IntKind.wrap .i64 (x20 - 1))) fun y29 =>
            Option.bind (getI x4.items y29) fun y30 =>
            Option.bind (getI x4.items x21) fun y31 =>
            some (decide (y31.block < y30.block))
          else
            some false
def zaN_5 (N : Nat) (x4 : Disorder) (x17 : Int) (x18 : List Int) : Nat → (List Bool) → Int → Option (Sum (List Bool) (Bool))
  | 0, _, _ => none
  | n + 1, x16, x20 =>
    if (decide (x20 < (x18.length : Int))) = true then
      Option.bind (getI x18 x20) fun y23 =>
      Option.bind (getI x18 x20) fun y24 =>
      Option.bind (zaN_6 N x4 x16 x17 x18 x20 y24) fun y32 =>
      if y32 = true then
        some (Sum.inr false)
      else
        Option.bind (getI x16 y24) fun y33 =>
        Option.bind (getI x16 y24) fun y34 =>
        AM.lt (x16.set ((y24 : Int).toNat) true) fun y35 =>
        AM.lt (IntKind.wrap .i64 (x20 + 1)) fun y36 =>
        zaN_5 N x4 x17 x18 n y35 y36
    else
      some (Sum.inl x16)
def zaN_2 (N : Nat) (x4 : Disorder) (x7 : List (List Int)) (x10 : List Int) (x14 : Sorted) : Nat → (List Bool) → Int → Option (Sum (List Bool) (Bool))
  | 0, _, _ => none
  | n + 1, x16, x17 =>
    if (decide (x17 < (x4.homes.length : Int))) = true then
      Option.bind (getI x4.homes x17) fun y11 =>
      Option.bind (getI x7 y11) fun y12 =>
      Option.bind (appI ([] : List Int) y12) fun y13 =>
      Option.bind (zaN_3 N x10 x14 x17 y13 (decide (x17 < (x14.trains.length : Int)))) fun y22 =>
      Option.bind (zaN_5 N x4 x17 y22 N x16 0) fun y37 =>
      match y37 with
      | Sum.inl y38 =>
        AM.lt (IntKind.wrap .i64 (x17 + 1)) fun y39 =>
        zaN_2 N x4 x7 x10 x14 n y38 y39
      | Sum.inr y40 =>
        some (Sum.inr y40)
    else
      some (Sum.inl x16)
def zaN_7 (N : Nat) (x16 : List Bool) : Nat → Int → Option (Sum (Unit) (Bool))
  | 0, _ => none
  | n + 1, x22 =>
    if (decide (x22 < (x16.length : Int))) = true then
      Option.bind (getI x16 x22) fun y43 =>
      Option.bind (getI x16 x22) fun y44 =>
      if (!y44) = true then
        some (Sum.inr false)
      else
        AM.lt (IntKind.wrap .i64 (x22 + 1)) fun y45 =>
        zaN_7 N x16 n y45
    else
      some (Sum.inl ())
def zaN (N : Nat) (x0 : List Int) : Option Bool :=
  Option.bind (zbX N x0) fun y1 =>
  Option.bind (zaK N y1 14) fun y2 =>
  Option.bind (zaT N y2.1) fun y3 =>
  Option.bind (zbB N y2.1 y3.1) fun y4 =>
  Option.bind (zbK N y2.1 y3.1 12) fun y5 =>
  Option.bind (zaN_0 N y2.1 y3.1 y4.1 y4.2 y5.1 y5.2.1 y5.2.2) fun y6 =>
  if y6 = true then
    some false
  else
    Option.bind (zbO N y5.1) fun y7 =>
    Option.bind (zbY N y5.1 y7.1) fun y8 =>
    Option.bind (zaN_1 N y7.2 y8.2) fun y9 =>
    if y9 = true then
      some false
    else
      Option.bind (mkI false (y2.1.items.length : Int)) fun y10 =>
      Option.bind (zaN_2 N y2.1 y4.1 y5.2.1 y8.1 N y10 0) fun y41 =>
      match y41 with
      | Sum.inl y42 =>
        Option.bind (zaN_7 N y42 N 0) fun y46 =>
        match y46 with
        | Sum.inl y47 =>
          Option.bind (zbR N) fun y48 =>
          some y48
        | Sum.inr y49 =>
          some y49
      | Sum.inr y50 =>
        some y50
end
end Go.W
end
section
set_option linter.unusedVariables false
set_option linter.unusedSimpArgs false
set_option maxRecDepth 100000
set_option maxHeartbeats 1000000
namespace Go.W
open Go.AM Go.Proofs Go.Sort Go.Shelf Go.RowKit Go.Lib
def sortL28_ren : Go.Shelf.Ren := ⟨fun | 6 => 28 | 15 => 57 | 14 => 56 | 28 => 87 | 29 => 88 | 20 => 79 | 21 => 80 | 22 => 81 | 23 => 82 | 24 => 83 | 25 => 84 | 26 => 85 | 27 => 86 | 46 => 91 | 47 => 92 | 48 => 93 | 49 => 94 | 50 => 95 | 57 => 96 | n => n, fun | 22 => 30 | 24 => 39 | 25 => 79 | 3 => 3 | 39 => 104 | 0 => 0 | 53 => 131 | 55 => 133 | 4 => 4 | 46 => 124 | 45 => 123 | 50 => 128 | 5 => 5 | 9 => 9 | 66 => 137 | 70 => 141 | 76 => 143 | 77 => 144 | n => n, fun | n => n⟩
theorem sortL28 : Go.Proofs.SlLaysF0.n6 Try.prog sortL28_ren := {
  mixed := by kernel_rfl,
  f6 := ⟨Try.f28.name, by decide, Try.func28.trans (congrArg some (by kernel_rfl))⟩,
  f14 := ⟨Try.f56.name, by decide, Try.func56.trans (congrArg some (by kernel_rfl))⟩,
  f15 := Try.func57.trans (congrArg some (by kernel_rfl)),
  f20 := ⟨Try.f79.name, by decide, Try.func79.trans (congrArg some (by kernel_rfl))⟩,
  f21 := ⟨Try.f80.name, by decide, Try.func80.trans (congrArg some (by kernel_rfl))⟩,
  f22 := ⟨Try.f81.name, by decide, Try.func81.trans (congrArg some (by kernel_rfl))⟩,
  f23 := ⟨Try.f82.name, by decide, Try.func82.trans (congrArg some (by kernel_rfl))⟩,
  f24 := ⟨Try.f83.name, by decide, Try.func83.trans (congrArg some (by kernel_rfl))⟩,
  f25 := ⟨Try.f84.name, by decide, Try.func84.trans (congrArg some (by kernel_rfl))⟩,
  f26 := ⟨Try.f85.name, by decide, Try.func85.trans (congrArg some (by kernel_rfl))⟩,
  f27 := ⟨Try.f86.name, by decide, Try.func86.trans (congrArg some (by kernel_rfl))⟩,
  f28 := Try.func87.trans (congrArg some (by kernel_rfl)),
  f29 := Try.func88.trans (congrArg some (by kernel_rfl)),
  f46 := ⟨Try.f91.name, by decide, Try.func91.trans (congrArg some (by kernel_rfl))⟩,
  f47 := Try.func92.trans (congrArg some (by kernel_rfl)),
  f48 := Try.func93.trans (congrArg some (by kernel_rfl)),
  f49 := ⟨Try.f94.name, by decide, Try.func94.trans (congrArg some (by kernel_rfl))⟩,
  f50 := ⟨Try.f95.name, by decide, Try.func95.trans (congrArg some (by kernel_rfl))⟩,
  f57 := ⟨Try.f96.name, by decide, Try.func96.trans (congrArg some (by kernel_rfl))⟩,
  t0 := Try.underlying0,
  a0 := Try.isAgg0,
  z0 := Try.sizeOf0,
  v0 := Try.zeroValue0,
  t3 := Try.underlying3,
  a3 := Try.isAgg3,
  z3 := Try.sizeOf3,
  v3 := Try.zeroValue3,
  t4 := Try.underlying4,
  a4 := Try.isAgg4,
  z4 := Try.sizeOf4,
  v4 := Try.zeroValue4,
  t5 := Try.underlying5,
  a5 := Try.isAgg5,
  z5 := Try.sizeOf5,
  v5 := Try.zeroValue5,
  t9 := Try.underlying9,
  a9 := Try.isAgg9,
  z9 := Try.sizeOf9,
  v9 := Try.zeroValue9,
  t22 := Try.underlying30,
  a22 := Try.isAgg30,
  z22 := Try.sizeOf30,
  v22 := Try.zeroValue30,
  t25 := Try.underlying79,
  a25 := Try.isAgg79,
  z25 := Try.sizeOf79,
  v25 := Try.zeroValue79,
  t39 := Try.underlying104,
  a39 := Try.isAgg104,
  z39 := Try.sizeOf104,
  v39 := Try.zeroValue104,
  t45 := Try.underlying123,
  a45 := Try.isAgg123,
  z45 := Try.sizeOf123,
  v45 := Try.zeroValue123,
  t46 := Try.underlying124,
  a46 := Try.isAgg124,
  z46 := Try.sizeOf124,
  v46 := Try.zeroValue124,
  t50 := Try.underlying128,
  a50 := Try.isAgg128,
  z50 := Try.sizeOf128,
  v50 := Try.zeroValue128,
  t53 := Try.underlying131,
  a53 := Try.isAgg131,
  z53 := Try.sizeOf131,
  v53 := Try.zeroValue131,
  t55 := Try.underlying133,
  a55 := Try.isAgg133,
  z55 := Try.sizeOf133,
  v55 := Try.zeroValue133,
  t66 := Try.underlying137,
  a66 := Try.isAgg137,
  z66 := Try.sizeOf137,
  v66 := Try.zeroValue137,
  t70 := Try.underlying141,
  a70 := Try.isAgg141,
  z70 := Try.sizeOf141,
  v70 := Try.zeroValue141,
  t76 := Try.underlying143,
  a76 := Try.isAgg143,
  z76 := Try.sizeOf143,
  v76 := Try.zeroValue143,
  t77 := Try.underlying144,
  a77 := Try.isAgg144,
  z77 := Try.sizeOf144,
  v77 := Try.zeroValue144 }
def cmpL30_ren : Go.Shelf.Ren := ⟨fun | 5 => 30 | 7 => 58 | n => n, fun | 22 => 3 | 3 => 3 | 4 => 4 | n => n, fun | n => n⟩
theorem cmpL30 : Go.Proofs.SlLaysC2.n5 Try.prog cmpL30_ren := {
  mixed := by kernel_rfl,
  f5 := ⟨Try.f30.name, by decide, Try.func30.trans (congrArg some (by kernel_rfl))⟩,
  f7 := ⟨Try.f58.name, by decide, Try.func58.trans (congrArg some (by kernel_rfl))⟩,
  t3 := Try.underlying3,
  a3 := Try.isAgg3,
  z3 := Try.sizeOf3,
  v3 := Try.zeroValue3,
  t4 := Try.underlying4,
  a4 := Try.isAgg4,
  z4 := Try.sizeOf4,
  v4 := Try.zeroValue4,
  t22 := Try.underlying3,
  a22 := Try.isAgg3,
  z22 := Try.sizeOf3,
  v22 := Try.zeroValue3 }
set_option maxHeartbeats 1000000 in
theorem clos29 (x y : Pull) (W : World) : Calls Try.prog 29 #[.agg #[.int .i64 x.item, .int .i64 x.reason, .int .i64 x.because, .int .i64 x.round], .agg #[.int .i64 y.item, .int .i64 y.reason, .int .i64 y.because, .int .i64 y.round]] W fun e w' => e = .returned (.int .i64 (cmpI x.item y.item)) ∧ ∃ q os', w' = grow (W.drewN q) os' := by
  have hcon := fun W' => AnyG.cmp_Compare_int cmpL30 x.item y.item W'
  change ∀ W', Calls Try.prog 30 _ _ _ at hcon
  unfold cmpI
  generalize Lib.compareInt x.item y.item = r at hcon ⊢
  go_enter Try.func29, Try.ntmps29
  go_wp2_with (go_at_call 30; refine (hcon _).mono ?_; rintro e w' ⟨rfl, rfl⟩)
  go_ret
  exact ⟨rfl, 0, _, by rw [alloc_eq_grow, alloc_eq_grow, grow_grow]; rfl⟩
end Go.W
end
section
set_option linter.unusedVariables false
set_option linter.unusedSimpArgs false
set_option maxRecDepth 100000
set_option maxHeartbeats 1000000
namespace Go.W
noncomputable section
open Go.AM Go.Proofs
def Ty3 : Ty Int := TyOf 3 [.int .i64] fun x => (x, ())
def Ty4 : Ty Bool := TyOf 4 [.bool] fun x => (x, ())
def Ty22 : Ty (List Int) := TyOf 22 [.sl Int Ty3] fun x => (x, ())
def Ty44 : Ty Item := TyOf 44 [.int .i64, .int .i64, .int .i64, .int .i64] fun x => (x.train, x.block, x.round, x.length, ())
def Ty25 : Ty (List Item) := TyOf 25 [.sl Item Ty44] fun x => (x, ())
def Ty26 : Ty (List (List Int)) := TyOf 26 [.sl (List Int) Ty22] fun x => (x, ())
def Ty28 : Ty Disorder := TyOf 28 [.sl Item Ty44, .sl Int Ty3, .sl (List Int) Ty22] fun x => (x.items, x.homes, x.tracks, ())
def Ty39 : Ty Pull := TyOf 39 [.int .i64, .int .i64, .int .i64, .int .i64] fun x => (x.item, x.reason, x.because, x.round, ())
def Ty57 : Ty Job := TyOf 57 [.sl Item Ty44, .int .i64] fun x => (x.items, x.weight, ())
def Ty61 : Ty Plan := TyOf 61 [.int .i64, .sl Int Ty3] fun x => (x.steps, x.codes, ())
def Ty65 : Ty Sorted := TyOf 65 [.sl (List Int) Ty22, .int .i64] fun x => (x.trains, x.moves, ())
def Ty69 : Ty Maker := TyOf 69 [.sl Int Ty3, .int .i64] fun x => (x.l, x.n, ())
def Ty121 : Ty Spot := TyOf 121 [.int .i64, .int .i64] fun x => (x.track, x.place, ())
def Ty73 : Ty (List Spot) := TyOf 73 [.sl Spot Ty121] fun x => (x, ())
def Ty75 : Ty Scene := TyOf 75 [.sl Item Ty44, .sl Int Ty3, .sl (List Int) Ty22, .sl Spot Ty121, .sl Int Ty3] fun x => (x.d.items, x.d.homes, x.d.tracks, x.at_, x.round, ())
def Ty96 : Ty Yard := TyOf 96 [.sl (List Int) Ty22, .sl (List Int) Ty22, .int .i64, .int .i64] fun x => (x.steps, x.trains, x.moves, x.pushes, ())
structure TE where
  α : Type
  T : Ty α
  kc : α → List Value
def tabL : Nat → TE
  | 3 => ⟨Int, Ty3, kInt .i64⟩
  | 4 => ⟨Bool, Ty4, kBool⟩
  | 22 => ⟨(List Int), Ty22, fun _ => []⟩
  | 44 => ⟨Item, Ty44, fun _ => []⟩
  | 25 => ⟨(List Item), Ty25, fun _ => []⟩
  | 26 => ⟨(List (List Int)), Ty26, fun _ => []⟩
  | 28 => ⟨Disorder, Ty28, fun _ => []⟩
  | 39 => ⟨Pull, Ty39, fun _ => []⟩
  | 57 => ⟨Job, Ty57, fun _ => []⟩
  | 61 => ⟨Plan, Ty61, fun _ => []⟩
  | 65 => ⟨Sorted, Ty65, fun _ => []⟩
  | 69 => ⟨Maker, Ty69, fun _ => []⟩
  | 121 => ⟨Spot, Ty121, fun _ => []⟩
  | 73 => ⟨(List Spot), Ty73, fun _ => []⟩
  | 75 => ⟨Scene, Ty75, fun _ => []⟩
  | 96 => ⟨Yard, Ty96, fun _ => []⟩
  | _ => ⟨Bool, TBool 4, kBool⟩
def D (t : Nat) : Type := (tabL t).α
def G : Tab D := ⟨fun t => (tabL t).T, fun t => (tabL t).kc⟩
def ti3 : TI Try.prog G 3 := tiOf [.int .i64] (fun (x : Int) => (x, ())) (fun y => (y.1 : Int)) (fun _ => rfl) (fun _ => rfl) (0 : Int) Try.t3 (.int .i64 0) rfl Try.type3 rfl rfl rfl rfl rfl rfl (fun z => ⟨rfl, trivial⟩) rfl
def ti4 : TI Try.prog G 4 := tiOf [.bool] (fun (x : Bool) => (x, ())) (fun y => (y.1 : Bool)) (fun _ => rfl) (fun _ => rfl) (false : Bool) Try.t4 (.bool false) rfl Try.type4 rfl rfl rfl rfl rfl rfl (fun z => ⟨rfl, trivial⟩) rfl
def ti22 : TI Try.prog G 22 := tiOf [.sl 3] (fun (x : (List Int)) => (x, ())) (fun y => (y.1 : (List Int))) (fun _ => rfl) (fun _ => rfl) ([] : (List Int)) Try.t22 (.slice none 0 0) rfl Try.type22 rfl rfl rfl rfl rfl rfl (fun z => ⟨.inl ⟨rfl, rfl⟩, trivial⟩) rfl
def ti44 : TI Try.prog G 44 := tiOf [.int .i64, .int .i64, .int .i64, .int .i64] (fun (x : Item) => (x.train, x.block, x.round, x.length, ())) (fun y => ((Item.mk y.1 y.2.1 y.2.2.1 y.2.2.2.1) : Item)) (fun _ => rfl) (fun _ => rfl) ((Item.mk 0 0 0 0) : Item) Try.t44 (.agg #[.int .i64 0, .int .i64 0, .int .i64 0, .int .i64 0]) rfl Try.type44 rfl rfl rfl rfl rfl rfl (fun z => ⟨rfl, rfl, rfl, rfl, trivial⟩) rfl
def ti25 : TI Try.prog G 25 := tiOf [.sl 44] (fun (x : (List Item)) => (x, ())) (fun y => (y.1 : (List Item))) (fun _ => rfl) (fun _ => rfl) ([] : (List Item)) Try.t25 (.slice none 0 0) rfl Try.type25 rfl rfl rfl rfl rfl rfl (fun z => ⟨.inl ⟨rfl, rfl⟩, trivial⟩) rfl
def ti26 : TI Try.prog G 26 := tiOf [.sl 22] (fun (x : (List (List Int))) => (x, ())) (fun y => (y.1 : (List (List Int)))) (fun _ => rfl) (fun _ => rfl) ([] : (List (List Int))) Try.t26 (.slice none 0 0) rfl Try.type26 rfl rfl rfl rfl rfl rfl (fun z => ⟨.inl ⟨rfl, rfl⟩, trivial⟩) rfl
def ti28 : TI Try.prog G 28 := tiOf [.sl 44, .sl 3, .sl 22] (fun (x : Disorder) => (x.items, x.homes, x.tracks, ())) (fun y => ((Disorder.mk y.1 y.2.1 y.2.2.1) : Disorder)) (fun _ => rfl) (fun _ => rfl) ((Disorder.mk [] [] []) : Disorder) Try.t28 (.agg #[.slice none 0 0, .slice none 0 0, .slice none 0 0]) rfl Try.type28 rfl rfl rfl rfl rfl rfl (fun z => ⟨.inl ⟨rfl, rfl⟩, .inl ⟨rfl, rfl⟩, .inl ⟨rfl, rfl⟩, trivial⟩) rfl
def ti39 : TI Try.prog G 39 := tiOf [.int .i64, .int .i64, .int .i64, .int .i64] (fun (x : Pull) => (x.item, x.reason, x.because, x.round, ())) (fun y => ((Pull.mk y.1 y.2.1 y.2.2.1 y.2.2.2.1) : Pull)) (fun _ => rfl) (fun _ => rfl) ((Pull.mk 0 0 0 0) : Pull) Try.t39 (.agg #[.int .i64 0, .int .i64 0, .int .i64 0, .int .i64 0]) rfl Try.type39 rfl rfl rfl rfl rfl rfl (fun z => ⟨rfl, rfl, rfl, rfl, trivial⟩) rfl
def ti57 : TI Try.prog G 57 := tiOf [.sl 44, .int .i64] (fun (x : Job) => (x.items, x.weight, ())) (fun y => ((Job.mk y.1 y.2.1) : Job)) (fun _ => rfl) (fun _ => rfl) ((Job.mk [] 0) : Job) Try.t57 (.agg #[.slice none 0 0, .int .i64 0]) rfl Try.type57 rfl rfl rfl rfl rfl rfl (fun z => ⟨.inl ⟨rfl, rfl⟩, rfl, trivial⟩) rfl
def ti61 : TI Try.prog G 61 := tiOf [.int .i64, .sl 3] (fun (x : Plan) => (x.steps, x.codes, ())) (fun y => ((Plan.mk y.1 y.2.1) : Plan)) (fun _ => rfl) (fun _ => rfl) ((Plan.mk 0 []) : Plan) Try.t61 (.agg #[.int .i64 0, .slice none 0 0]) rfl Try.type61 rfl rfl rfl rfl rfl rfl (fun z => ⟨rfl, .inl ⟨rfl, rfl⟩, trivial⟩) rfl
def ti65 : TI Try.prog G 65 := tiOf [.sl 22, .int .i64] (fun (x : Sorted) => (x.trains, x.moves, ())) (fun y => ((Sorted.mk y.1 y.2.1) : Sorted)) (fun _ => rfl) (fun _ => rfl) ((Sorted.mk [] 0) : Sorted) Try.t65 (.agg #[.slice none 0 0, .int .i64 0]) rfl Try.type65 rfl rfl rfl rfl rfl rfl (fun z => ⟨.inl ⟨rfl, rfl⟩, rfl, trivial⟩) rfl
def ti69 : TI Try.prog G 69 := tiOf [.sl 3, .int .i64] (fun (x : Maker) => (x.l, x.n, ())) (fun y => ((Maker.mk y.1 y.2.1) : Maker)) (fun _ => rfl) (fun _ => rfl) ((Maker.mk [] 0) : Maker) Try.t69 (.agg #[.slice none 0 0, .int .i64 0]) rfl Try.type69 rfl rfl rfl rfl rfl rfl (fun z => ⟨.inl ⟨rfl, rfl⟩, rfl, trivial⟩) rfl
def ti121 : TI Try.prog G 121 := tiOf [.int .i64, .int .i64] (fun (x : Spot) => (x.track, x.place, ())) (fun y => ((Spot.mk y.1 y.2.1) : Spot)) (fun _ => rfl) (fun _ => rfl) ((Spot.mk 0 0) : Spot) Try.t121 (.agg #[.int .i64 0, .int .i64 0]) rfl Try.type121 rfl rfl rfl rfl rfl rfl (fun z => ⟨rfl, rfl, trivial⟩) rfl
def ti73 : TI Try.prog G 73 := tiOf [.sl 121] (fun (x : (List Spot)) => (x, ())) (fun y => (y.1 : (List Spot))) (fun _ => rfl) (fun _ => rfl) ([] : (List Spot)) Try.t73 (.slice none 0 0) rfl Try.type73 rfl rfl rfl rfl rfl rfl (fun z => ⟨.inl ⟨rfl, rfl⟩, trivial⟩) rfl
def ti75 : TI Try.prog G 75 := tiOf [.sl 44, .sl 3, .sl 22, .sl 121, .sl 3] (fun (x : Scene) => (x.d.items, x.d.homes, x.d.tracks, x.at_, x.round, ())) (fun y => ((Scene.mk (Disorder.mk y.1 y.2.1 y.2.2.1) y.2.2.2.1 y.2.2.2.2.1) : Scene)) (fun _ => rfl) (fun _ => rfl) ((Scene.mk (Disorder.mk [] [] []) [] []) : Scene) Try.t75 (.agg #[.slice none 0 0, .slice none 0 0, .slice none 0 0, .slice none 0 0, .slice none 0 0]) rfl Try.type75 rfl rfl rfl rfl rfl rfl (fun z => ⟨.inl ⟨rfl, rfl⟩, .inl ⟨rfl, rfl⟩, .inl ⟨rfl, rfl⟩, .inl ⟨rfl, rfl⟩, .inl ⟨rfl, rfl⟩, trivial⟩) rfl
def ti96 : TI Try.prog G 96 := tiOf [.sl 22, .sl 22, .int .i64, .int .i64] (fun (x : Yard) => (x.steps, x.trains, x.moves, x.pushes, ())) (fun y => ((Yard.mk y.1 y.2.1 y.2.2.1 y.2.2.2.1) : Yard)) (fun _ => rfl) (fun _ => rfl) ((Yard.mk [] [] 0 0) : Yard) Try.t96 (.agg #[.slice none 0 0, .slice none 0 0, .int .i64 0, .int .i64 0]) rfl Try.type96 rfl rfl rfl rfl rfl rfl (fun z => ⟨.inl ⟨rfl, rfl⟩, .inl ⟨rfl, rfl⟩, rfl, rfl, trivial⟩) rfl
def qi39 : QI Try.prog G 39 := qiOf [.int .i64, .int .i64, .int .i64, .int .i64] (fun (x : Pull) => (x.item, x.reason, x.because, x.round, ())) (fun y => ((Pull.mk y.1 y.2.1 y.2.2.1 y.2.2.2.1) : Pull)) (fun _ => rfl) _ (fun (x y : Pull) => decide (x = y)) rfl (fun (x y : Pull) => decide_eq_true_iff) Try.underlying39 (by kernel_rfl) (by kernel_rfl) (by kernel_rfl)
def si28_29 : SI Try.prog G := siOf (t := 39) [.int .i64, .int .i64, .int .i64, .int .i64] (fun (x : Pull) => (x.item, x.reason, x.because, x.round, ())) rfl rfl ((Pull.mk 0 0 0 0) : Pull) (fun (x : Pull) => x.item) sortL28 28 29 rfl (by kernel_rfl) Try.isAgg39 Try.sizeOf39 (Go.Proofs.enters_of Try.func29 (by kernel_rfl) rfl) rfl clos29
def ni22_3 : NI Try.prog G 22 3 := ⟨fun xs => xs, rfl, rfl, fun _ _ _ h => ⟨h, trivial⟩, Try.t22, Try.type22, rfl, rfl, rfl, Try.underlying22, rfl⟩
def X0 : Ev Try.prog D where
  G := G
  S := [si28_29]
  I := fun t => match t with | 3 => some ti3 | 4 => some ti4 | 22 => some ti22 | 44 => some ti44 | 25 => some ti25 | 26 => some ti26 | 28 => some ti28 | 39 => some ti39 | 57 => some ti57 | 61 => some ti61 | 65 => some ti65 | 69 => some ti69 | 121 => some ti121 | 73 => some ti73 | 75 => some ti75 | 96 => some ti96 | _ => none
  A := fun _ => none
  J := fun _ _ => none
  B := fun _ => none
  Q := fun t => match t with | 39 => some qi39 | _ => none
  N := fun e t => match e, t with | 22, 3 => some ni22_3 | _, _ => none
  F := fun _ _ _ => false
  C := fun _ _ _ _ _ => none
def fs0 (N : Nat) : List (FE D) := []
theorem all0 (N : Nat) : ∀ y ∈ fs0 N, CallOk X0 y.d y.F := fun y h => absurd h (by simp [fs0])
def X00 (N : Nat) : Ev Try.prog D := X0.with (fs0 N)
theorem cok0 (N : Nat) : COk (X00 N) := COk.of (all0 N)
def u0_zbX (N : Nat) : List (Pc D) := []
theorem oku0_zbX (N : Nat) : ∀ u ∈ u0_zbX N, PcOk (X00 N) (bodyOf Try.f8) u := pc_nil
def dzbX : FD D := { f := 8, np := 1, ins := [.v 0 (.sl 3)], fx := [], rcv := none, rk := 0, outs := [.o 2 (.box 69)], ofx := [(2, .box 0 0)], rvs := [.tmp 2], flat := false }
def FzbX (N : Nat) : dzbX.F := fun r x => zbX N x.1
theorem ozbX (N : Nat) : FOk Try.prog (X00 N) dzbX (FzbX N) := ⟨⟨Try.f8, _, Try.func8, rfl, by kernel_rfl, by kernel_rfl, rfl, FC.of (cok0 N) (us := u0_zbX N) (fun u h _ => oku0_zbX N u h) (fun r x => by kernel_rfl)⟩, by kernel_rfl, by kernel_rfl, by kernel_rfl, by kernel_rfl⟩
def fs1 (N : Nat) : List (FE D) := ⟨dzbX, FzbX N⟩ :: fs0 N
theorem all1 (N : Nat) : ∀ y ∈ fs1 N, CallOk X0 y.d y.F := all_cons (x := ⟨dzbX, FzbX N⟩) (ozbX N) (all0 N)
def X1 (N : Nat) : Ev Try.prog D := X0.with (fs1 N)
theorem cok1 (N : Nat) : COk (X1 N) := COk.of (all1 N)
def u0_zbE (N : Nat) : List (Pc D) := []
theorem oku0_zbE (N : Nat) : ∀ u ∈ u0_zbE N, PcOk (X1 N) (bodyOf Try.f18) u := pc_nil
def PzbE_0 : PD D := { path := [1, 1, 0, 1], ins := [.o 0 (.recv 69), .v 5 (.int .i64), .v 11 .bool], fx := [(0, .box 0 0)], ks := [1], exs := [⟨.normal, [.v 5 (.int .i64)], []⟩], keep := [0, 1] }
def FzbE_0 (N : Nat) : PzbE_0.F := fun x => zbE_0 N x.1 x.2.1 x.2.2.1
theorem czbE_0 (N : Nat) : CC (X1 N) (bodyOf Try.f18) PzbE_0 (FzbE_0 N) := CC.of (cok1 N) (us := u0_zbE N) (fun u h _ => oku0_zbE N u h) (fun x => by kernel_rfl)
def uzbE_0 (N : Nat) : List (Pc D) := PzbE_0.pc (X1 N) (FzbE_0 N) :: u0_zbE N
theorem okuzbE_0 (N : Nat) : ∀ u ∈ uzbE_0 N, PcOk (X1 N) (bodyOf Try.f18) u := pc_cons ((czbE_0 N).pc (by kernel_rfl)) (oku0_zbE N)
def PzbE_1 : PD D := { path := [1, 1, 1, 1, 1, 0, 1], ins := [.o 0 (.recv 69), .v 1 (.int .i64), .v 5 (.int .i64), .v 51 .bool], fx := [(0, .box 0 0)], ks := [1], exs := [⟨.normal, [.v 5 (.int .i64)], []⟩], keep := [0] }
def FzbE_1 (N : Nat) : PzbE_1.F := fun x => zbE_1 N x.2.1 x.2.2.1 x.2.2.2.1
theorem czbE_1 (N : Nat) : CC (X1 N) (bodyOf Try.f18) PzbE_1 (FzbE_1 N) := CC.of (cok1 N) (us := uzbE_0 N) (fun u h _ => okuzbE_0 N u h) (fun x => by kernel_rfl)
def uzbE_1 (N : Nat) : List (Pc D) := PzbE_1.pc (X1 N) (FzbE_1 N) :: uzbE_0 N
theorem okuzbE_1 (N : Nat) : ∀ u ∈ uzbE_1 N, PcOk (X1 N) (bodyOf Try.f18) u := pc_cons ((czbE_1 N).pc (by kernel_rfl)) (okuzbE_0 N)
def dzbE : FD D := { f := 18, np := 2, ins := [.v 1 (.int .i64)], fx := [], rcv := some (0, 69), rk := 2, outs := [.v 4 (.int .i64), .u 0 (.recv 69)], ofx := [], rvs := [.tmp 4], flat := false }
def FzbE (N : Nat) : dzbE.F := fun r x => zbE N r x.1
theorem ozbE (N : Nat) : FOk Try.prog (X1 N) dzbE (FzbE N) := ⟨⟨Try.f18, _, Try.func18, rfl, by kernel_rfl, by kernel_rfl, rfl, FC.of (cok1 N) (us := uzbE_1 N) (fun u h _ => okuzbE_1 N u h) (fun r x => by kernel_rfl)⟩, by kernel_rfl, by kernel_rfl, by kernel_rfl, by kernel_rfl⟩
def fs2 (N : Nat) : List (FE D) := ⟨dzbE, FzbE N⟩ :: fs1 N
theorem all2 (N : Nat) : ∀ y ∈ fs2 N, CallOk X0 y.d y.F := all_cons (x := ⟨dzbE, FzbE N⟩) (ozbE N) (all1 N)
def X2 (N : Nat) : Ev Try.prog D := X0.with (fs2 N)
theorem cok2 (N : Nat) : COk (X2 N) := COk.of (all2 N)
def u0_zbF (N : Nat) : List (Pc D) := []
theorem oku0_zbF (N : Nat) : ∀ u ∈ u0_zbF N, PcOk (X2 N) (bodyOf Try.f19) u := pc_nil
def dzbF : FD D := { f := 19, np := 2, ins := [.v 1 (.sl 3)], fx := [], rcv := some (0, 69), rk := 2, outs := [.v 4 (.int .i64), .u 0 (.recv 69)], ofx := [], rvs := [.tmp 4], flat := false }
def FzbF (N : Nat) : dzbF.F := fun r x => zbF N r x.1
theorem ozbF (N : Nat) : FOk Try.prog (X2 N) dzbF (FzbF N) := ⟨⟨Try.f19, _, Try.func19, rfl, by kernel_rfl, by kernel_rfl, rfl, FC.of (cok2 N) (us := u0_zbF N) (fun u h _ => oku0_zbF N u h) (fun r x => by kernel_rfl)⟩, by kernel_rfl, by kernel_rfl, by kernel_rfl, by kernel_rfl⟩
def fs3 (N : Nat) : List (FE D) := ⟨dzbF, FzbF N⟩ :: fs2 N
theorem all3 (N : Nat) : ∀ y ∈ fs3 N, CallOk X0 y.d y.F := all_cons (x := ⟨dzbF, FzbF N⟩) (ozbF N) (all2 N)
def X3 (N : Nat) : Ev Try.prog D := X0.with (fs3 N)
theorem cok3 (N : Nat) : COk (X3 N) := COk.of (all3 N)
def Y3 (N : Nat) : Ev Try.prog D := (X3 N).cuts fun x lo hi => match x, lo, hi with | .tmp 18, some (.tmp 18), some (.tmp 18) => 3 | _, _, _ => 0
theorem coky3 (N : Nat) : COk (Y3 N) := COk.cuts (cok3 N)
def u0_zaK (N : Nat) : List (Pc D) := []
theorem oku0_zaK (N : Nat) : ∀ u ∈ u0_zaK N, PcOk (Y3 N) (bodyOf Try.f9) u := pc_nil
def PzaK_0 : PD D := { path := [1, 1, 1, 0, 1, 0], ins := [.o 0 (.recv 69), .o 4 (.box 28), .v 6 (.int .i64), .o 7 (.bx 28 [(0, 3), (1, 4), (2, 5)]), .o 2007000 (.sl 44), .o 2007001 (.sl 3), .o 2007002 (.ne 22 3)], fx := [(0, .box 0 0), (4, .box 1 0), (7, .box 2 0)], ks := [1, 1, 2, 1, 0, 2], exs := [⟨.exit 0, [.u 2 (.bx 28 [(0, 3), (1, 6), (2, 5)]), .o 2007001 (.sl 3), .u 5 (.ne 22 3)], []⟩], keep := [0, 1, 4, 5, 6, 7] }
def FzaK_0 (N n : Nat) : PzaK_0.F := fun x => zaK_0 N x.2.2.1 n x.2.2.2.1 x.2.2.2.2.2.1 x.2.2.2.2.2.2.1
theorem czaK_0 (N n : Nat) : CC (Y3 N) (bodyOf Try.f9) PzaK_0 (FzaK_0 N n) := CC.loop (coky3 N) (us := u0_zaK N) (c := sub (bodyOf Try.f9) [1, 1, 1, 0, 1, 0, 0]) (by kernel_rfl) (by kernel_rfl) (fun u h _ => oku0_zaK N u h) (fun x => rfl) (fun n x => by kernel_rfl) n
def uzaK_0 (N : Nat) : List (Pc D) := PzaK_0.pc (Y3 N) (FzaK_0 N N) :: u0_zaK N
theorem okuzaK_0 (N : Nat) : ∀ u ∈ uzaK_0 N, PcOk (Y3 N) (bodyOf Try.f9) u := pc_cons ((czaK_0 N N).pc (by kernel_rfl)) (oku0_zaK N)
def PzaK_2 : PD D := { path := [1, 1, 1, 1, 0, 1, 0, 1, 0], ins := [.o 0 (.recv 69), .o 4 (.box 28), .v 5 (.int .i64), .v 6 (.int .i64), .o 7 (.bx 28 [(0, 3), (1, 4), (2, 5)]), .v 8 (.int .i64), .o 2007000 (.sl 44), .o 2007001 (.sl 3), .o 2007002 (.ne 22 3)], fx := [(0, .box 0 0), (4, .box 1 0), (7, .box 2 0)], ks := [1, 1, 1, 1, 2, 2], exs := [⟨.exit 2, [.u 4 (.sl 3), .u 5 (.ne 22 3)], []⟩], keep := [0, 1, 4, 5, 6, 7] }
def FzaK_2 (N n : Nat) : PzaK_2.F := fun x => zaK_2 N x.2.2.1 x.2.2.2.1 n x.2.2.2.2.2.1 x.2.2.2.2.2.2.2.1 x.2.2.2.2.2.2.2.2.1
theorem czaK_2 (N n : Nat) : CC (Y3 N) (bodyOf Try.f9) PzaK_2 (FzaK_2 N n) := CC.loop (coky3 N) (us := uzaK_0 N) (c := sub (bodyOf Try.f9) [1, 1, 1, 1, 0, 1, 0, 1, 0, 0]) (by kernel_rfl) (by kernel_rfl) (fun u h _ => okuzaK_0 N u h) (fun x => rfl) (fun n x => by kernel_rfl) n
def uzaK_2 (N : Nat) : List (Pc D) := PzaK_2.pc (Y3 N) (FzaK_2 N N) :: uzaK_0 N
theorem okuzaK_2 (N : Nat) : ∀ u ∈ uzaK_2 N, PcOk (Y3 N) (bodyOf Try.f9) u := pc_cons ((czaK_2 N N).pc (by kernel_rfl)) (okuzaK_0 N)
def PzaK_1 : PD D := { path := [1, 1, 1, 1, 0, 1], ins := [.o 0 (.recv 69), .o 4 (.box 28), .v 5 (.int .i64), .v 6 (.int .i64), .o 7 (.bx 28 [(0, 3), (1, 4), (2, 5)]), .v 41 .bool, .o 2007000 (.sl 44), .o 2007001 (.sl 3), .o 2007002 (.ne 22 3)], fx := [(0, .box 0 0), (4, .box 1 0), (7, .box 2 0)], ks := [1, 1, 1, 1, 2, 2], exs := [⟨.normal, [.u 4 (.sl 3), .u 5 (.ne 22 3)], []⟩], keep := [0, 1, 4, 5, 6, 7] }
def FzaK_1 (N : Nat) : PzaK_1.F := fun x => zaK_1 N x.2.2.1 x.2.2.2.1 x.2.2.2.2.2.1 x.2.2.2.2.2.2.2.1 x.2.2.2.2.2.2.2.2.1
theorem czaK_1 (N : Nat) : CC (Y3 N) (bodyOf Try.f9) PzaK_1 (FzaK_1 N) := CC.of (coky3 N) (us := uzaK_2 N) (fun u h _ => okuzaK_2 N u h) (fun x => by kernel_rfl)
def uzaK_1 (N : Nat) : List (Pc D) := PzaK_1.pc (Y3 N) (FzaK_1 N) :: uzaK_2 N
theorem okuzaK_1 (N : Nat) : ∀ u ∈ uzaK_1 N, PcOk (Y3 N) (bodyOf Try.f9) u := pc_cons ((czaK_1 N).pc (by kernel_rfl)) (okuzaK_2 N)
def PzaK_4 : PD D := { path := [1, 1, 1, 1, 1, 1, 1, 0, 1, 0, 0, 1, 0, 0, 1, 1, 1, 0, 0], ins := [.o 0 (.recv 69), .o 4 (.box 28), .o 7 (.bx 28 [(0, 5), (1, 6), (2, 7)]), .v 9 (.int .i64), .o 10 (.sl 3), .o 13 (.box 44), .o 2007000 (.sl 44), .o 2007001 (.sl 3), .o 2007002 (.ne 22 3)], fx := [(0, .box 0 0), (4, .box 1 0), (7, .box 2 0), (10, .c (.own 3)), (13, .box 4 0)], ks := [2, 1, 1, 1, 1, 1, 1, 1], exs := [⟨.normal, [.u 0 (.recv 69), .v 88 .bool], []⟩], keep := [0, 4, 5, 6, 7, 9, 10, 11, 12, 13, 14] }
def FzaK_4 (N : Nat) : PzaK_4.F := fun x => zaK_4 N x.1 x.2.2.2.1
theorem czaK_4 (N : Nat) : CC (Y3 N) (bodyOf Try.f9) PzaK_4 (FzaK_4 N) := CC.of (coky3 N) (us := uzaK_1 N) (fun u h _ => okuzaK_1 N u h) (fun x => by kernel_rfl)
def uzaK_4 (N : Nat) : List (Pc D) := PzaK_4.pc (Y3 N) (FzaK_4 N) :: uzaK_1 N
theorem okuzaK_4 (N : Nat) : ∀ u ∈ uzaK_4 N, PcOk (Y3 N) (bodyOf Try.f9) u := pc_cons ((czaK_4 N).pc (by kernel_rfl)) (okuzaK_1 N)
def PzaK_5 : PD D := { path := [1, 1, 1, 1, 1, 1, 1, 0, 1, 0, 0, 1, 0, 0, 1, 1, 1, 0, 1], ins := [.o 0 (.recv 69), .o 4 (.box 28), .o 7 (.bx 28 [(0, 5), (1, 6), (2, 7)]), .o 10 (.sl 3), .v 12 (.int .i64), .o 13 (.box 44), .v 88 .bool, .o 2007000 (.sl 44), .o 2007001 (.sl 3), .o 2007002 (.ne 22 3)], fx := [(0, .box 0 0), (4, .box 1 0), (7, .box 2 0), (10, .c (.own 3)), (13, .box 4 0)], ks := [2, 1, 1, 2, 2, 1, 1, 1], exs := [⟨.normal, [.u 0 (.recv 69), .u 3 (.sl 3), .u 4 (.box 44)], []⟩], keep := [0, 4, 5, 6, 7, 9, 10, 11, 13, 14] }
def FzaK_5 (N : Nat) : PzaK_5.F := fun x => zaK_5 N x.1 x.2.2.2.1 x.2.2.2.2.1 x.2.2.2.2.2.1 x.2.2.2.2.2.2.1
theorem czaK_5 (N : Nat) : CC (Y3 N) (bodyOf Try.f9) PzaK_5 (FzaK_5 N) := CC.of (coky3 N) (us := uzaK_4 N) (fun u h _ => okuzaK_4 N u h) (fun x => by kernel_rfl)
def uzaK_5 (N : Nat) : List (Pc D) := PzaK_5.pc (Y3 N) (FzaK_5 N) :: uzaK_4 N
theorem okuzaK_5 (N : Nat) : ∀ u ∈ uzaK_5 N, PcOk (Y3 N) (bodyOf Try.f9) u := pc_cons ((czaK_5 N).pc (by kernel_rfl)) (okuzaK_4 N)
def PzaK_6 : PD D := { path := [1, 1, 1, 1, 1, 1, 1, 0, 1, 0, 0, 1, 0, 0, 1, 1, 1, 1, 0, 0], ins := [.o 0 (.recv 69), .o 4 (.box 28), .o 7 (.bx 28 [(0, 5), (1, 6), (2, 7)]), .v 9 (.int .i64), .o 10 (.sl 3), .o 13 (.box 44), .o 2007000 (.sl 44), .o 2007001 (.sl 3), .o 2007002 (.ne 22 3)], fx := [(0, .box 0 0), (4, .box 1 0), (7, .box 2 0), (10, .c (.own 3)), (13, .box 4 0)], ks := [2, 1, 1, 1, 1, 1, 1, 1], exs := [⟨.normal, [.u 0 (.recv 69), .v 109 .bool], []⟩], keep := [0, 4, 5, 6, 7, 9, 10, 11, 13, 14] }
def FzaK_6 (N : Nat) : PzaK_6.F := fun x => zaK_6 N x.1 x.2.2.2.1
theorem czaK_6 (N : Nat) : CC (Y3 N) (bodyOf Try.f9) PzaK_6 (FzaK_6 N) := CC.of (coky3 N) (us := uzaK_5 N) (fun u h _ => okuzaK_5 N u h) (fun x => by kernel_rfl)
def uzaK_6 (N : Nat) : List (Pc D) := PzaK_6.pc (Y3 N) (FzaK_6 N) :: uzaK_5 N
theorem okuzaK_6 (N : Nat) : ∀ u ∈ uzaK_6 N, PcOk (Y3 N) (bodyOf Try.f9) u := pc_cons ((czaK_6 N).pc (by kernel_rfl)) (okuzaK_5 N)
def PzaK_7 : PD D := { path := [1, 1, 1, 1, 1, 1, 1, 0, 1, 0, 0, 1, 0, 0, 1, 1, 1, 1, 0, 1], ins := [.o 0 (.recv 69), .o 4 (.box 28), .v 5 (.int .i64), .o 7 (.bx 28 [(0, 5), (1, 6), (2, 7)]), .o 10 (.sl 3), .o 13 (.box 44), .v 14 (.int .i64), .v 109 .bool, .o 2007000 (.sl 44), .o 2007001 (.sl 3), .o 2007002 (.ne 22 3)], fx := [(0, .box 0 0), (4, .box 1 0), (7, .box 2 0), (10, .c (.own 3)), (13, .box 4 0)], ks := [2, 1, 1, 1, 1, 1, 1, 1], exs := [⟨.normal, [.u 0 (.recv 69), .v 14 (.int .i64)], []⟩], keep := [0, 4, 5, 6, 7, 9, 10, 11, 13] }
def FzaK_7 (N : Nat) : PzaK_7.F := fun x => zaK_7 N x.1 x.2.2.1 x.2.2.2.2.2.2.1 x.2.2.2.2.2.2.2.1
theorem czaK_7 (N : Nat) : CC (Y3 N) (bodyOf Try.f9) PzaK_7 (FzaK_7 N) := CC.of (coky3 N) (us := uzaK_6 N) (fun u h _ => okuzaK_6 N u h) (fun x => by kernel_rfl)
def uzaK_7 (N : Nat) : List (Pc D) := PzaK_7.pc (Y3 N) (FzaK_7 N) :: uzaK_6 N
theorem okuzaK_7 (N : Nat) : ∀ u ∈ uzaK_7 N, PcOk (Y3 N) (bodyOf Try.f9) u := pc_cons ((czaK_7 N).pc (by kernel_rfl)) (okuzaK_6 N)
def PzaK_3 : PD D := { path := [1, 1, 1, 1, 1, 1, 1, 0, 1, 0], ins := [.o 0 (.recv 69), .o 4 (.box 28), .v 5 (.int .i64), .v 6 (.int .i64), .o 7 (.bx 28 [(0, 4), (1, 5), (2, 6)]), .v 9 (.int .i64), .o 10 (.sl 3), .v 11 (.int .i64), .o 2007000 (.sl 44), .o 2007001 (.sl 3), .o 2007002 (.ne 22 3)], fx := [(0, .box 0 0), (4, .box 1 0), (7, .box 2 0), (10, .c (.own 3))], ks := [2, 1, 2, 0, 0, 1, 2], exs := [⟨.exit 4, [.u 0 (.recv 69), .u 2 (.bx 28 [(0, 7), (1, 5), (2, 6)]), .o 2007000 (.sl 44), .u 6 (.ne 22 3)], []⟩], keep := [0, 4, 7] }
def FzaK_3 (N n : Nat) : PzaK_3.F := fun x => zaK_3 N x.2.2.1 x.2.2.2.1 x.2.2.2.2.2.1 x.2.2.2.2.2.2.2.2.2.1 n x.1 x.2.2.2.2.1 x.2.2.2.2.2.2.1 x.2.2.2.2.2.2.2.1 x.2.2.2.2.2.2.2.2.1 x.2.2.2.2.2.2.2.2.2.2.1
theorem czaK_3 (N n : Nat) : CC (Y3 N) (bodyOf Try.f9) PzaK_3 (FzaK_3 N n) := CC.loop (coky3 N) (us := uzaK_7 N) (c := sub (bodyOf Try.f9) [1, 1, 1, 1, 1, 1, 1, 0, 1, 0, 0]) (by kernel_rfl) (by kernel_rfl) (fun u h _ => okuzaK_7 N u h) (fun x => rfl) (fun n x => by kernel_rfl) n
def uzaK_3 (N : Nat) : List (Pc D) := PzaK_3.pc (Y3 N) (FzaK_3 N N) :: uzaK_7 N
theorem okuzaK_3 (N : Nat) : ∀ u ∈ uzaK_3 N, PcOk (Y3 N) (bodyOf Try.f9) u := pc_cons ((czaK_3 N N).pc (by kernel_rfl)) (okuzaK_7 N)
def dzaK : FD D := { f := 9, np := 2, ins := [.v 1 (.int .i64)], fx := [], rcv := some (0, 69), rk := 2, outs := [.v 1000000 (.agg 28), .u 0 (.recv 69)], ofx := [], rvs := [.cell 4 28], flat := false }
def FzaK (N : Nat) : dzaK.F := fun r x => zaK N r x.1
theorem ozaK (N : Nat) : FOk Try.prog (Y3 N) dzaK (FzaK N) := ⟨⟨Try.f9, _, Try.func9, rfl, by kernel_rfl, by kernel_rfl, rfl, FC.of (coky3 N) (us := uzaK_3 N) (fun u h _ => okuzaK_3 N u h) (fun r x => by kernel_rfl)⟩, by kernel_rfl, by kernel_rfl, by kernel_rfl, by kernel_rfl⟩
def fs4 (N : Nat) : List (FE D) := ⟨dzaK, FzaK N⟩ :: fs3 N
theorem all4 (N : Nat) : ∀ y ∈ fs4 N, CallOk X0 y.d y.F := all_call (x := ⟨dzaK, FzaK N⟩) ((ozaK N).call.cuts) (all3 N)
def X4 (N : Nat) : Ev Try.prog D := X0.with (fs4 N)
theorem cok4 (N : Nat) : COk (X4 N) := COk.of (all4 N)
def u0_zaE (N : Nat) : List (Pc D) := []
theorem oku0_zaE (N : Nat) : ∀ u ∈ u0_zaE N, PcOk (X4 N) (bodyOf Try.f77) u := pc_nil
def PzaE_0 : PD D := { path := [1, 0, 1, 0], ins := [.v 0 (.sl 3), .v 1 (.int .i64), .v 7 (.int .i64), .v 8 (.int .i64)], fx := [], ks := [], exs := [⟨.exit 0, [], []⟩, ⟨.ret, [.v 4 (.int .i64)], []⟩], keep := [] }
def FzaE_0 (N n : Nat) : PzaE_0.F := fun x => zaE_0 N x.1 x.2.1 x.2.2.1 n x.2.2.2.1
theorem czaE_0 (N n : Nat) : CC (X4 N) (bodyOf Try.f77) PzaE_0 (FzaE_0 N n) := CC.loop (cok4 N) (us := u0_zaE N) (c := sub (bodyOf Try.f77) [1, 0, 1, 0, 0]) (by kernel_rfl) (by kernel_rfl) (fun u h _ => oku0_zaE N u h) (fun x => rfl) (fun n x => by kernel_rfl) n
def uzaE_0 (N : Nat) : List (Pc D) := PzaE_0.pc (X4 N) (FzaE_0 N N) :: u0_zaE N
theorem okuzaE_0 (N : Nat) : ∀ u ∈ uzaE_0 N, PcOk (X4 N) (bodyOf Try.f77) u := pc_cons ((czaE_0 N N).pc (by kernel_rfl)) (oku0_zaE N)
def dzaE : FD D := { f := 77, np := 2, ins := [.v 0 (.sl 3), .v 1 (.int .i64)], fx := [], rcv := none, rk := 0, outs := [.v 4 (.int .i64)], ofx := [], rvs := [.tmp 4], flat := true }
def FzaE (N : Nat) : dzaE.F := fun r x => zaE N x.1 x.2.1
theorem ozaE (N : Nat) : FOk Try.prog (X4 N) dzaE (FzaE N) := ⟨⟨Try.f77, _, Try.func77, rfl, by kernel_rfl, by kernel_rfl, rfl, FC.of (cok4 N) (us := uzaE_0 N) (fun u h _ => okuzaE_0 N u h) (fun r x => by kernel_rfl)⟩, by kernel_rfl, by kernel_rfl, by kernel_rfl, by kernel_rfl⟩
def fs5 (N : Nat) : List (FE D) := ⟨dzaE, FzaE N⟩ :: fs4 N
theorem all5 (N : Nat) : ∀ y ∈ fs5 N, CallOk X0 y.d y.F := all_cons (x := ⟨dzaE, FzaE N⟩) (ozaE N) (all4 N)
def X5 (N : Nat) : Ev Try.prog D := X0.with (fs5 N)
theorem cok5 (N : Nat) : COk (X5 N) := COk.of (all5 N)
def u0_zaC (N : Nat) : List (Pc D) := []
theorem oku0_zaC (N : Nat) : ∀ u ∈ u0_zaC N, PcOk (X5 N) (bodyOf Try.f52) u := pc_nil
def dzaC : FD D := { f := 52, np := 2, ins := [.v 0 (.sl 3), .v 1 (.int .i64)], fx := [], rcv := none, rk := 0, outs := [.v 4 .bool], ofx := [], rvs := [.tmp 4], flat := true }
def FzaC (N : Nat) : dzaC.F := fun r x => zaC N x.1 x.2.1
theorem ozaC (N : Nat) : FOk Try.prog (X5 N) dzaC (FzaC N) := ⟨⟨Try.f52, _, Try.func52, rfl, by kernel_rfl, by kernel_rfl, rfl, FC.of (cok5 N) (us := u0_zaC N) (fun u h _ => oku0_zaC N u h) (fun r x => by kernel_rfl)⟩, by kernel_rfl, by kernel_rfl, by kernel_rfl, by kernel_rfl⟩
def fs6 (N : Nat) : List (FE D) := ⟨dzaC, FzaC N⟩ :: fs5 N
theorem all6 (N : Nat) : ∀ y ∈ fs6 N, CallOk X0 y.d y.F := all_cons (x := ⟨dzaC, FzaC N⟩) (ozaC N) (all5 N)
def X6 (N : Nat) : Ev Try.prog D := X0.with (fs6 N)
theorem cok6 (N : Nat) : COk (X6 N) := COk.of (all6 N)
def u0_zaX (N : Nat) : List (Pc D) := []
theorem oku0_zaX (N : Nat) : ∀ u ∈ u0_zaX N, PcOk (X6 N) (bodyOf Try.f53) u := pc_nil
def PzaX_2 : PD D := { path := [1, 1, 1, 1, 0, 1, 0, 0, 1, 1, 0, 0, 1, 1, 0, 0, 1, 1, 0, 0, 1, 0, 0], ins := [.o 4 (.sl 121), .o 5 (.sl 4), .v 10 (.int .i64)], fx := [(4, .c (.own 0)), (5, .c (.own 1))], ks := [1, 1], exs := [⟨.normal, [.v 47 .bool], []⟩], keep := [4, 5, 6, 7, 9, 10, 20, 21, 22, 27, 28, 29] }
def FzaX_2 (N : Nat) : PzaX_2.F := fun x => zaX_2 N x.1 x.2.1 x.2.2.1
theorem czaX_2 (N : Nat) : CC (X6 N) (bodyOf Try.f53) PzaX_2 (FzaX_2 N) := CC.of (cok6 N) (us := u0_zaX N) (fun u h _ => oku0_zaX N u h) (fun x => by kernel_rfl)
def uzaX_2 (N : Nat) : List (Pc D) := PzaX_2.pc (X6 N) (FzaX_2 N) :: u0_zaX N
theorem okuzaX_2 (N : Nat) : ∀ u ∈ uzaX_2 N, PcOk (X6 N) (bodyOf Try.f53) u := pc_cons ((czaX_2 N).pc (by kernel_rfl)) (oku0_zaX N)
def PzaX_1 : PD D := { path := [1, 1, 1, 1, 0, 1, 0, 0, 1, 1, 0, 0, 1, 1, 0], ins := [.o 4 (.sl 121), .o 5 (.sl 4), .v 6 (.int .i64), .v 7 (.int .i64), .v 27 (.sl 3), .v 28 (.int .i64), .v 29 (.int .i64)], fx := [(4, .c (.own 0)), (5, .c (.own 1))], ks := [2, 2], exs := [⟨.exit 2, [.u 0 (.sl 121), .u 1 (.sl 4), .v 6 (.int .i64)], []⟩, ⟨.ret, [.v 3 .bool], [(2, .c .nilS)]⟩], keep := [4, 5, 20, 21, 22] }
def FzaX_1 (N n : Nat) : PzaX_1.F := fun x => zaX_1 N x.2.2.2.1 x.2.2.2.2.1 x.2.2.2.2.2.1 n x.1 x.2.1 x.2.2.1 x.2.2.2.2.2.2.1
theorem czaX_1 (N n : Nat) : CC (X6 N) (bodyOf Try.f53) PzaX_1 (FzaX_1 N n) := CC.loop (cok6 N) (us := uzaX_2 N) (c := sub (bodyOf Try.f53) [1, 1, 1, 1, 0, 1, 0, 0, 1, 1, 0, 0, 1, 1, 0, 0]) (by kernel_rfl) (by kernel_rfl) (fun u h _ => okuzaX_2 N u h) (fun x => rfl) (fun n x => by kernel_rfl) n
def uzaX_1 (N : Nat) : List (Pc D) := PzaX_1.pc (X6 N) (FzaX_1 N N) :: uzaX_2 N
theorem okuzaX_1 (N : Nat) : ∀ u ∈ uzaX_1 N, PcOk (X6 N) (bodyOf Try.f53) u := pc_cons ((czaX_1 N N).pc (by kernel_rfl)) (okuzaX_2 N)
def PzaX_0 : PD D := { path := [1, 1, 1, 1, 0, 1, 0], ins := [.o 4 (.sl 121), .o 5 (.sl 4), .v 6 (.int .i64), .v 20 (.sl 22), .v 21 (.int .i64), .v 22 (.int .i64)], fx := [(4, .c (.own 0)), (5, .c (.own 1))], ks := [0, 0], exs := [⟨.exit 0, [.o 4 (.sl 121), .v 6 (.int .i64)], [(4, .c (.own 2))]⟩, ⟨.ret, [.v 3 .bool], [(2, .c .nilS)]⟩], keep := [4] }
def FzaX_0 (N n : Nat) : PzaX_0.F := fun x => zaX_0 N x.2.2.2.1 x.2.2.2.2.1 n x.1 x.2.1 x.2.2.1 x.2.2.2.2.2.1
theorem czaX_0 (N n : Nat) : CC (X6 N) (bodyOf Try.f53) PzaX_0 (FzaX_0 N n) := CC.loop (cok6 N) (us := uzaX_1 N) (c := sub (bodyOf Try.f53) [1, 1, 1, 1, 0, 1, 0, 0]) (by kernel_rfl) (by kernel_rfl) (fun u h _ => okuzaX_1 N u h) (fun x => rfl) (fun n x => by kernel_rfl) n
def uzaX_0 (N : Nat) : List (Pc D) := PzaX_0.pc (X6 N) (FzaX_0 N N) :: uzaX_1 N
theorem okuzaX_0 (N : Nat) : ∀ u ∈ uzaX_0 N, PcOk (X6 N) (bodyOf Try.f53) u := pc_cons ((czaX_0 N N).pc (by kernel_rfl)) (okuzaX_1 N)
def dzaX : FD D := { f := 53, np := 1, ins := [.v 0 (.agg 28)], fx := [], rcv := none, rk := 0, outs := [.o 2 (.sl 121), .v 3 .bool], ofx := [(2, .c (.own 0))], rvs := [.tmp 2, .tmp 3], flat := false }
def FzaX (N : Nat) : dzaX.F := fun r x => zaX N x.1
theorem ozaX (N : Nat) : FOk Try.prog (X6 N) dzaX (FzaX N) := ⟨⟨Try.f53, _, Try.func53, rfl, by kernel_rfl, by kernel_rfl, rfl, FC.of (cok6 N) (us := uzaX_0 N) (fun u h _ => okuzaX_0 N u h) (fun r x => by kernel_rfl)⟩, by kernel_rfl, by kernel_rfl, by kernel_rfl, by kernel_rfl⟩
def fs7 (N : Nat) : List (FE D) := ⟨dzaX, FzaX N⟩ :: fs6 N
theorem all7 (N : Nat) : ∀ y ∈ fs7 N, CallOk X0 y.d y.F := all_cons (x := ⟨dzaX, FzaX N⟩) (ozaX N) (all6 N)
def X7 (N : Nat) : Ev Try.prog D := X0.with (fs7 N)
theorem cok7 (N : Nat) : COk (X7 N) := COk.of (all7 N)
def u0_zaU (N : Nat) : List (Pc D) := []
theorem oku0_zaU (N : Nat) : ∀ u ∈ u0_zaU N, PcOk (X7 N) (bodyOf Try.f25) u := pc_nil
def PzaU_0 : PD D := { path := [1, 0, 0], ins := [.o 1 (.box 28)], fx := [(1, .box 0 0)], ks := [1], exs := [⟨.normal, [.v 24 .bool], []⟩], keep := [1] }
def FzaU_0 (N : Nat) : PzaU_0.F := fun x => zaU_0 N x.1
theorem czaU_0 (N : Nat) : CC (X7 N) (bodyOf Try.f25) PzaU_0 (FzaU_0 N) := CC.of (cok7 N) (us := u0_zaU N) (fun u h _ => oku0_zaU N u h) (fun x => by kernel_rfl)
def uzaU_0 (N : Nat) : List (Pc D) := PzaU_0.pc (X7 N) (FzaU_0 N) :: u0_zaU N
theorem okuzaU_0 (N : Nat) : ∀ u ∈ uzaU_0 N, PcOk (X7 N) (bodyOf Try.f25) u := pc_cons ((czaU_0 N).pc (by kernel_rfl)) (oku0_zaU N)
def PzaU_2 : PD D := { path := [1, 1, 0, 1, 0, 0, 1, 1, 0, 0, 1, 0], ins := [.o 1 (.box 28), .v 3 (.int .i64), .v 4 (.int .i64)], fx := [(1, .box 0 0)], ks := [1], exs := [⟨.normal, [.v 49 .bool], []⟩], keep := [1, 26, 27, 28] }
def FzaU_2 (N : Nat) : PzaU_2.F := fun x => zaU_2 N x.1 x.2.1 x.2.2.1
theorem czaU_2 (N : Nat) : CC (X7 N) (bodyOf Try.f25) PzaU_2 (FzaU_2 N) := CC.of (cok7 N) (us := uzaU_0 N) (fun u h _ => okuzaU_0 N u h) (fun x => by kernel_rfl)
def uzaU_2 (N : Nat) : List (Pc D) := PzaU_2.pc (X7 N) (FzaU_2 N) :: uzaU_0 N
theorem okuzaU_2 (N : Nat) : ∀ u ∈ uzaU_2 N, PcOk (X7 N) (bodyOf Try.f25) u := pc_cons ((czaU_2 N).pc (by kernel_rfl)) (okuzaU_0 N)
def PzaU_1 : PD D := { path := [1, 1, 0, 1, 0], ins := [.o 1 (.box 28), .v 26 (.sl 3), .v 27 (.int .i64), .v 28 (.int .i64)], fx := [(1, .box 0 0)], ks := [1], exs := [⟨.exit 0, [], []⟩, ⟨.ret, [.v 2 .bool], []⟩], keep := [1] }
def FzaU_1 (N n : Nat) : PzaU_1.F := fun x => zaU_1 N x.1 x.2.1 x.2.2.1 n x.2.2.2.1
theorem czaU_1 (N n : Nat) : CC (X7 N) (bodyOf Try.f25) PzaU_1 (FzaU_1 N n) := CC.loop (cok7 N) (us := uzaU_2 N) (c := sub (bodyOf Try.f25) [1, 1, 0, 1, 0, 0]) (by kernel_rfl) (by kernel_rfl) (fun u h _ => okuzaU_2 N u h) (fun x => rfl) (fun n x => by kernel_rfl) n
def uzaU_1 (N : Nat) : List (Pc D) := PzaU_1.pc (X7 N) (FzaU_1 N N) :: uzaU_2 N
theorem okuzaU_1 (N : Nat) : ∀ u ∈ uzaU_1 N, PcOk (X7 N) (bodyOf Try.f25) u := pc_cons ((czaU_1 N N).pc (by kernel_rfl)) (okuzaU_2 N)
def PzaU_4 : PD D := { path := [1, 1, 1, 0, 1, 0, 0, 1, 1, 0, 0, 1, 0], ins := [.o 1 (.box 28), .o 6 (.box 44)], fx := [(1, .box 0 0), (6, .box 1 0)], ks := [1, 1], exs := [⟨.normal, [.v 93 .bool], []⟩], keep := [1, 52, 53, 54] }
def FzaU_4 (N : Nat) : PzaU_4.F := fun x => zaU_4 N x.1 x.2.1
theorem czaU_4 (N : Nat) : CC (X7 N) (bodyOf Try.f25) PzaU_4 (FzaU_4 N) := CC.of (cok7 N) (us := uzaU_1 N) (fun u h _ => okuzaU_1 N u h) (fun x => by kernel_rfl)
def uzaU_4 (N : Nat) : List (Pc D) := PzaU_4.pc (X7 N) (FzaU_4 N) :: uzaU_1 N
theorem okuzaU_4 (N : Nat) : ∀ u ∈ uzaU_4 N, PcOk (X7 N) (bodyOf Try.f25) u := pc_cons ((czaU_4 N).pc (by kernel_rfl)) (okuzaU_1 N)
def PzaU_3 : PD D := { path := [1, 1, 1, 0, 1, 0], ins := [.o 1 (.box 28), .v 52 (.sl 44), .v 53 (.int .i64), .v 54 (.int .i64)], fx := [(1, .box 0 0)], ks := [1], exs := [⟨.exit 2, [], []⟩, ⟨.ret, [.v 2 .bool], []⟩], keep := [1] }
def FzaU_3 (N n : Nat) : PzaU_3.F := fun x => zaU_3 N x.1 x.2.1 x.2.2.1 n x.2.2.2.1
theorem czaU_3 (N n : Nat) : CC (X7 N) (bodyOf Try.f25) PzaU_3 (FzaU_3 N n) := CC.loop (cok7 N) (us := uzaU_4 N) (c := sub (bodyOf Try.f25) [1, 1, 1, 0, 1, 0, 0]) (by kernel_rfl) (by kernel_rfl) (fun u h _ => okuzaU_4 N u h) (fun x => rfl) (fun n x => by kernel_rfl) n
def uzaU_3 (N : Nat) : List (Pc D) := PzaU_3.pc (X7 N) (FzaU_3 N N) :: uzaU_4 N
theorem okuzaU_3 (N : Nat) : ∀ u ∈ uzaU_3 N, PcOk (X7 N) (bodyOf Try.f25) u := pc_cons ((czaU_3 N N).pc (by kernel_rfl)) (okuzaU_4 N)
def dzaU : FD D := { f := 25, np := 1, ins := [.v 0 (.agg 28)], fx := [], rcv := none, rk := 0, outs := [.v 2 .bool], ofx := [], rvs := [.tmp 2], flat := true }
def FzaU (N : Nat) : dzaU.F := fun r x => zaU N x.1
theorem ozaU (N : Nat) : FOk Try.prog (X7 N) dzaU (FzaU N) := ⟨⟨Try.f25, _, Try.func25, rfl, by kernel_rfl, by kernel_rfl, rfl, FC.of (cok7 N) (us := uzaU_3 N) (fun u h _ => okuzaU_3 N u h) (fun r x => by kernel_rfl)⟩, by kernel_rfl, by kernel_rfl, by kernel_rfl, by kernel_rfl⟩
def fs8 (N : Nat) : List (FE D) := ⟨dzaU, FzaU N⟩ :: fs7 N
theorem all8 (N : Nat) : ∀ y ∈ fs8 N, CallOk X0 y.d y.F := all_cons (x := ⟨dzaU, FzaU N⟩) (ozaU N) (all7 N)
def X8 (N : Nat) : Ev Try.prog D := X0.with (fs8 N)
theorem cok8 (N : Nat) : COk (X8 N) := COk.of (all8 N)
def u0_zbC (N : Nat) : List (Pc D) := []
theorem oku0_zbC (N : Nat) : ∀ u ∈ u0_zbC N, PcOk (X8 N) (bodyOf Try.f26) u := pc_nil
def PzbC_0 : PD D := { path := [1, 1, 1, 0, 1, 0], ins := [.o 3 (.bx 75 [(3, 1), (4, 2)]), .v 24 (.int .i64), .v 25 (.int .i64), .o 2003003 (.sl 121), .o 2003004 (.sl 3)], fx := [(3, .box 0 0)], ks := [1, 1, 2], exs := [⟨.exit 0, [.u 2 (.sl 3)], []⟩], keep := [3] }
def FzbC_0 (N n : Nat) : PzbC_0.F := fun x => zbC_0 N x.2.1 n x.2.2.1 x.2.2.2.2.1
theorem czbC_0 (N n : Nat) : CC (X8 N) (bodyOf Try.f26) PzbC_0 (FzbC_0 N n) := CC.loop (cok8 N) (us := u0_zbC N) (c := sub (bodyOf Try.f26) [1, 1, 1, 0, 1, 0, 0]) (by kernel_rfl) (by kernel_rfl) (fun u h _ => oku0_zbC N u h) (fun x => rfl) (fun n x => by kernel_rfl) n
def uzbC_0 (N : Nat) : List (Pc D) := PzbC_0.pc (X8 N) (FzbC_0 N N) :: u0_zbC N
theorem okuzbC_0 (N : Nat) : ∀ u ∈ uzbC_0 N, PcOk (X8 N) (bodyOf Try.f26) u := pc_cons ((czbC_0 N N).pc (by kernel_rfl)) (oku0_zbC N)
def dzbC : FD D := { f := 26, np := 1, ins := [.v 0 (.agg 28)], fx := [], rcv := none, rk := 0, outs := [.o 2 (.bx 75 [(3, 1), (4, 2)]), .o 2002003 (.sl 121), .o 2002004 (.sl 3)], ofx := [(2, .box 0 0)], rvs := [.tmp 2], flat := false }
def FzbC (N : Nat) : dzbC.F := fun r x => zbC N x.1
theorem ozbC (N : Nat) : FOk Try.prog (X8 N) dzbC (FzbC N) := ⟨⟨Try.f26, _, Try.func26, rfl, by kernel_rfl, by kernel_rfl, rfl, FC.of (cok8 N) (us := uzbC_0 N) (fun u h _ => okuzbC_0 N u h) (fun r x => by kernel_rfl)⟩, by kernel_rfl, by kernel_rfl, by kernel_rfl, by kernel_rfl⟩
def fs9 (N : Nat) : List (FE D) := ⟨dzbC, FzbC N⟩ :: fs8 N
theorem all9 (N : Nat) : ∀ y ∈ fs9 N, CallOk X0 y.d y.F := all_cons (x := ⟨dzbC, FzbC N⟩) (ozbC N) (all8 N)
def X9 (N : Nat) : Ev Try.prog D := X0.with (fs9 N)
theorem cok9 (N : Nat) : COk (X9 N) := COk.of (all9 N)
def u0_zbL (N : Nat) : List (Pc D) := []
theorem oku0_zbL (N : Nat) : ∀ u ∈ u0_zbL N, PcOk (X9 N) (bodyOf Try.f54) u := pc_nil
def dzbL : FD D := { f := 54, np := 2, ins := [.v 0 (.rp 75), .v 1 (.int .i64)], fx := [], rcv := none, rk := 0, outs := [.v 4 .bool], ofx := [], rvs := [.tmp 4], flat := true }
def FzbL (N : Nat) : dzbL.F := fun r x => zbL N x.1 x.2.1
theorem ozbL (N : Nat) : FOk Try.prog (X9 N) dzbL (FzbL N) := ⟨⟨Try.f54, _, Try.func54, rfl, by kernel_rfl, by kernel_rfl, rfl, FC.of (cok9 N) (us := u0_zbL N) (fun u h _ => oku0_zbL N u h) (fun r x => by kernel_rfl)⟩, by kernel_rfl, by kernel_rfl, by kernel_rfl, by kernel_rfl⟩
def fs10 (N : Nat) : List (FE D) := ⟨dzbL, FzbL N⟩ :: fs9 N
theorem all10 (N : Nat) : ∀ y ∈ fs10 N, CallOk X0 y.d y.F := all_cons (x := ⟨dzbL, FzbL N⟩) (ozbL N) (all9 N)
def X10 (N : Nat) : Ev Try.prog D := X0.with (fs10 N)
theorem cok10 (N : Nat) : COk (X10 N) := COk.of (all10 N)
def u0_zbD (N : Nat) : List (Pc D) := []
theorem oku0_zbD (N : Nat) : ∀ u ∈ u0_zbD N, PcOk (X10 N) (bodyOf Try.f59) u := pc_nil
def PzbD_0 : PD D := { path := [1, 0], ins := [.v 0 (.rp 75), .v 1 (.int .i64), .v 2 (.int .i64)], fx := [], ks := [], exs := [⟨.normal, [.v 6 .bool], []⟩], keep := [] }
def FzbD_0 (N : Nat) : PzbD_0.F := fun x => zbD_0 N x.1 x.2.1 x.2.2.1
theorem czbD_0 (N : Nat) : CC (X10 N) (bodyOf Try.f59) PzbD_0 (FzbD_0 N) := CC.of (cok10 N) (us := u0_zbD N) (fun u h _ => oku0_zbD N u h) (fun x => by kernel_rfl)
def uzbD_0 (N : Nat) : List (Pc D) := PzbD_0.pc (X10 N) (FzbD_0 N) :: u0_zbD N
theorem okuzbD_0 (N : Nat) : ∀ u ∈ uzbD_0 N, PcOk (X10 N) (bodyOf Try.f59) u := pc_cons ((czbD_0 N).pc (by kernel_rfl)) (oku0_zbD N)
def dzbD : FD D := { f := 59, np := 3, ins := [.v 0 (.rp 75), .v 1 (.int .i64), .v 2 (.int .i64)], fx := [], rcv := none, rk := 0, outs := [.v 6 .bool], ofx := [], rvs := [.tmp 6], flat := true }
def FzbD (N : Nat) : dzbD.F := fun r x => zbD N x.1 x.2.1 x.2.2.1
theorem ozbD (N : Nat) : FOk Try.prog (X10 N) dzbD (FzbD N) := ⟨⟨Try.f59, _, Try.func59, rfl, by kernel_rfl, by kernel_rfl, rfl, FC.of (cok10 N) (us := uzbD_0 N) (fun u h _ => okuzbD_0 N u h) (fun r x => by kernel_rfl)⟩, by kernel_rfl, by kernel_rfl, by kernel_rfl, by kernel_rfl⟩
def fs11 (N : Nat) : List (FE D) := ⟨dzbD, FzbD N⟩ :: fs10 N
theorem all11 (N : Nat) : ∀ y ∈ fs11 N, CallOk X0 y.d y.F := all_cons (x := ⟨dzbD, FzbD N⟩) (ozbD N) (all10 N)
def X11 (N : Nat) : Ev Try.prog D := X0.with (fs11 N)
theorem cok11 (N : Nat) : COk (X11 N) := COk.of (all11 N)
def u0_zaY (N : Nat) : List (Pc D) := []
theorem oku0_zaY (N : Nat) : ∀ u ∈ u0_zaY N, PcOk (X11 N) (bodyOf Try.f60) u := pc_nil
def PzaY_0 : PD D := { path := [1, 0], ins := [.v 0 (.rp 75), .v 1 (.int .i64), .v 2 (.int .i64)], fx := [], ks := [], exs := [⟨.normal, [.v 6 .bool], []⟩], keep := [] }
def FzaY_0 (N : Nat) : PzaY_0.F := fun x => zaY_0 N x.1 x.2.1 x.2.2.1
theorem czaY_0 (N : Nat) : CC (X11 N) (bodyOf Try.f60) PzaY_0 (FzaY_0 N) := CC.of (cok11 N) (us := u0_zaY N) (fun u h _ => oku0_zaY N u h) (fun x => by kernel_rfl)
def uzaY_0 (N : Nat) : List (Pc D) := PzaY_0.pc (X11 N) (FzaY_0 N) :: u0_zaY N
theorem okuzaY_0 (N : Nat) : ∀ u ∈ uzaY_0 N, PcOk (X11 N) (bodyOf Try.f60) u := pc_cons ((czaY_0 N).pc (by kernel_rfl)) (oku0_zaY N)
def dzaY : FD D := { f := 60, np := 3, ins := [.v 0 (.rp 75), .v 1 (.int .i64), .v 2 (.int .i64)], fx := [], rcv := none, rk := 0, outs := [.v 6 .bool], ofx := [], rvs := [.tmp 6], flat := true }
def FzaY (N : Nat) : dzaY.F := fun r x => zaY N x.1 x.2.1 x.2.2.1
theorem ozaY (N : Nat) : FOk Try.prog (X11 N) dzaY (FzaY N) := ⟨⟨Try.f60, _, Try.func60, rfl, by kernel_rfl, by kernel_rfl, rfl, FC.of (cok11 N) (us := uzaY_0 N) (fun u h _ => okuzaY_0 N u h) (fun r x => by kernel_rfl)⟩, by kernel_rfl, by kernel_rfl, by kernel_rfl, by kernel_rfl⟩
def fs12 (N : Nat) : List (FE D) := ⟨dzaY, FzaY N⟩ :: fs11 N
theorem all12 (N : Nat) : ∀ y ∈ fs12 N, CallOk X0 y.d y.F := all_cons (x := ⟨dzaY, FzaY N⟩) (ozaY N) (all11 N)
def X12 (N : Nat) : Ev Try.prog D := X0.with (fs12 N)
theorem cok12 (N : Nat) : COk (X12 N) := COk.of (all12 N)
def u0_zaZ (N : Nat) : List (Pc D) := []
theorem oku0_zaZ (N : Nat) : ∀ u ∈ u0_zaZ N, PcOk (X12 N) (bodyOf Try.f78) u := pc_nil
def PzaZ_0 : PD D := { path := [1, 0], ins := [.v 0 (.rp 75), .v 1 (.int .i64), .v 2 (.int .i64)], fx := [], ks := [], exs := [⟨.normal, [.v 6 .bool], []⟩], keep := [] }
def FzaZ_0 (N : Nat) : PzaZ_0.F := fun x => zaZ_0 N x.1 x.2.1 x.2.2.1
theorem czaZ_0 (N : Nat) : CC (X12 N) (bodyOf Try.f78) PzaZ_0 (FzaZ_0 N) := CC.of (cok12 N) (us := u0_zaZ N) (fun u h _ => oku0_zaZ N u h) (fun x => by kernel_rfl)
def uzaZ_0 (N : Nat) : List (Pc D) := PzaZ_0.pc (X12 N) (FzaZ_0 N) :: u0_zaZ N
theorem okuzaZ_0 (N : Nat) : ∀ u ∈ uzaZ_0 N, PcOk (X12 N) (bodyOf Try.f78) u := pc_cons ((czaZ_0 N).pc (by kernel_rfl)) (oku0_zaZ N)
def dzaZ : FD D := { f := 78, np := 3, ins := [.v 0 (.rp 75), .v 1 (.int .i64), .v 2 (.int .i64)], fx := [], rcv := none, rk := 0, outs := [.v 6 .bool], ofx := [], rvs := [.tmp 6], flat := true }
def FzaZ (N : Nat) : dzaZ.F := fun r x => zaZ N x.1 x.2.1 x.2.2.1
theorem ozaZ (N : Nat) : FOk Try.prog (X12 N) dzaZ (FzaZ N) := ⟨⟨Try.f78, _, Try.func78, rfl, by kernel_rfl, by kernel_rfl, rfl, FC.of (cok12 N) (us := uzaZ_0 N) (fun u h _ => okuzaZ_0 N u h) (fun r x => by kernel_rfl)⟩, by kernel_rfl, by kernel_rfl, by kernel_rfl, by kernel_rfl⟩
def fs13 (N : Nat) : List (FE D) := ⟨dzaZ, FzaZ N⟩ :: fs12 N
theorem all13 (N : Nat) : ∀ y ∈ fs13 N, CallOk X0 y.d y.F := all_cons (x := ⟨dzaZ, FzaZ N⟩) (ozaZ N) (all12 N)
def X13 (N : Nat) : Ev Try.prog D := X0.with (fs13 N)
theorem cok13 (N : Nat) : COk (X13 N) := COk.of (all13 N)
def u0_zaP (N : Nat) : List (Pc D) := []
theorem oku0_zaP (N : Nat) : ∀ u ∈ u0_zaP N, PcOk (X13 N) (bodyOf Try.f55) u := pc_nil
def PzaP_0 : PD D := { path := [1, 0, 1, 0, 0], ins := [.v 0 (.rp 75), .v 1 (.int .i64), .v 3 (.int .i64)], fx := [], ks := [], exs := [⟨.normal, [.v 10 .bool], []⟩], keep := [] }
def FzaP_0 (N : Nat) : PzaP_0.F := fun x => zaP_0 N x.1 x.2.1 x.2.2.1
theorem czaP_0 (N : Nat) : CC (X13 N) (bodyOf Try.f55) PzaP_0 (FzaP_0 N) := CC.of (cok13 N) (us := u0_zaP N) (fun u h _ => oku0_zaP N u h) (fun x => by kernel_rfl)
def uzaP_0 (N : Nat) : List (Pc D) := PzaP_0.pc (X13 N) (FzaP_0 N) :: u0_zaP N
theorem okuzaP_0 (N : Nat) : ∀ u ∈ uzaP_0 N, PcOk (X13 N) (bodyOf Try.f55) u := pc_cons ((czaP_0 N).pc (by kernel_rfl)) (oku0_zaP N)
def PzaP_1 : PD D := { path := [1, 1, 0, 0], ins := [.v 0 (.rp 75), .v 3 (.int .i64)], fx := [], ks := [], exs := [⟨.normal, [.v 32 .bool], []⟩], keep := [0, 1, 2, 3, 4] }
def FzaP_1 (N : Nat) : PzaP_1.F := fun x => zaP_1 N x.1 x.2.1
theorem czaP_1 (N : Nat) : CC (X13 N) (bodyOf Try.f55) PzaP_1 (FzaP_1 N) := CC.of (cok13 N) (us := uzaP_0 N) (fun u h _ => okuzaP_0 N u h) (fun x => by kernel_rfl)
def uzaP_1 (N : Nat) : List (Pc D) := PzaP_1.pc (X13 N) (FzaP_1 N) :: uzaP_0 N
theorem okuzaP_1 (N : Nat) : ∀ u ∈ uzaP_1 N, PcOk (X13 N) (bodyOf Try.f55) u := pc_cons ((czaP_1 N).pc (by kernel_rfl)) (okuzaP_0 N)
def PzaP_2 : PD D := { path := [1, 1, 1, 0, 0, 0], ins := [.v 2 (.int .i64), .v 4 (.int .i64)], fx := [], ks := [], exs := [⟨.normal, [.v 33 .bool], []⟩], keep := [0, 1, 2, 3, 4] }
def FzaP_2 (N : Nat) : PzaP_2.F := fun x => zaP_2 N x.1 x.2.1
theorem czaP_2 (N : Nat) : CC (X13 N) (bodyOf Try.f55) PzaP_2 (FzaP_2 N) := CC.of (cok13 N) (us := uzaP_1 N) (fun u h _ => okuzaP_1 N u h) (fun x => by kernel_rfl)
def uzaP_2 (N : Nat) : List (Pc D) := PzaP_2.pc (X13 N) (FzaP_2 N) :: uzaP_1 N
theorem okuzaP_2 (N : Nat) : ∀ u ∈ uzaP_2 N, PcOk (X13 N) (bodyOf Try.f55) u := pc_cons ((czaP_2 N).pc (by kernel_rfl)) (okuzaP_1 N)
def PzaP_3 : PD D := { path := [1, 1, 1, 0, 0, 1, 0, 0], ins := [.v 0 (.rp 75), .v 1 (.int .i64), .v 3 (.int .i64)], fx := [], ks := [], exs := [⟨.normal, [.v 10 .bool], []⟩], keep := [] }
def FzaP_3 (N : Nat) : PzaP_3.F := fun x => zaP_3 N x.1 x.2.1 x.2.2.1
theorem czaP_3 (N : Nat) : CC (X13 N) (bodyOf Try.f55) PzaP_3 (FzaP_3 N) := CC.of (cok13 N) (us := uzaP_2 N) (fun u h _ => okuzaP_2 N u h) (fun x => by kernel_rfl)
def uzaP_3 (N : Nat) : List (Pc D) := PzaP_3.pc (X13 N) (FzaP_3 N) :: uzaP_2 N
theorem okuzaP_3 (N : Nat) : ∀ u ∈ uzaP_3 N, PcOk (X13 N) (bodyOf Try.f55) u := pc_cons ((czaP_3 N).pc (by kernel_rfl)) (okuzaP_2 N)
def PzaP_4 : PD D := { path := [1, 1, 1, 0, 0, 1, 1, 1, 0, 0], ins := [.v 0 (.rp 75), .v 1 (.int .i64), .v 3 (.int .i64), .v 4 (.int .i64)], fx := [], ks := [], exs := [⟨.normal, [.v 10 .bool], []⟩], keep := [] }
def FzaP_4 (N : Nat) : PzaP_4.F := fun x => zaP_4 N x.1 x.2.1 x.2.2.1 x.2.2.2.1
theorem czaP_4 (N : Nat) : CC (X13 N) (bodyOf Try.f55) PzaP_4 (FzaP_4 N) := CC.of (cok13 N) (us := uzaP_3 N) (fun u h _ => okuzaP_3 N u h) (fun x => by kernel_rfl)
def uzaP_4 (N : Nat) : List (Pc D) := PzaP_4.pc (X13 N) (FzaP_4 N) :: uzaP_3 N
theorem okuzaP_4 (N : Nat) : ∀ u ∈ uzaP_4 N, PcOk (X13 N) (bodyOf Try.f55) u := pc_cons ((czaP_4 N).pc (by kernel_rfl)) (okuzaP_3 N)
def PzaP_5 : PD D := { path := [1, 1, 1, 0, 0, 1, 1, 1, 1, 1, 0, 0], ins := [.v 0 (.rp 75), .v 1 (.int .i64), .v 3 (.int .i64), .v 4 (.int .i64)], fx := [], ks := [], exs := [⟨.normal, [.v 10 .bool], []⟩], keep := [] }
def FzaP_5 (N : Nat) : PzaP_5.F := fun x => zaP_5 N x.1 x.2.1 x.2.2.1 x.2.2.2.1
theorem czaP_5 (N : Nat) : CC (X13 N) (bodyOf Try.f55) PzaP_5 (FzaP_5 N) := CC.of (cok13 N) (us := uzaP_4 N) (fun u h _ => okuzaP_4 N u h) (fun x => by kernel_rfl)
def uzaP_5 (N : Nat) : List (Pc D) := PzaP_5.pc (X13 N) (FzaP_5 N) :: uzaP_4 N
theorem okuzaP_5 (N : Nat) : ∀ u ∈ uzaP_5 N, PcOk (X13 N) (bodyOf Try.f55) u := pc_cons ((czaP_5 N).pc (by kernel_rfl)) (okuzaP_4 N)
def dzaP : FD D := { f := 55, np := 5, ins := [.v 0 (.rp 75), .v 1 (.int .i64), .v 2 (.int .i64), .v 3 (.int .i64), .v 4 (.int .i64)], fx := [], rcv := none, rk := 0, outs := [.v 10 .bool], ofx := [], rvs := [.tmp 10], flat := true }
def FzaP (N : Nat) : dzaP.F := fun r x => zaP N x.1 x.2.1 x.2.2.1 x.2.2.2.1 x.2.2.2.2.1
theorem ozaP (N : Nat) : FOk Try.prog (X13 N) dzaP (FzaP N) := ⟨⟨Try.f55, _, Try.func55, rfl, by kernel_rfl, by kernel_rfl, rfl, FC.of (cok13 N) (us := uzaP_5 N) (fun u h _ => okuzaP_5 N u h) (fun r x => by kernel_rfl)⟩, by kernel_rfl, by kernel_rfl, by kernel_rfl, by kernel_rfl⟩
def fs14 (N : Nat) : List (FE D) := ⟨dzaP, FzaP N⟩ :: fs13 N
theorem all14 (N : Nat) : ∀ y ∈ fs14 N, CallOk X0 y.d y.F := all_cons (x := ⟨dzaP, FzaP N⟩) (ozaP N) (all13 N)
def X14 (N : Nat) : Ev Try.prog D := X0.with (fs14 N)
theorem cok14 (N : Nat) : COk (X14 N) := COk.of (all14 N)
def u0_zbQ (N : Nat) : List (Pc D) := []
theorem oku0_zbQ (N : Nat) : ∀ u ∈ u0_zbQ N, PcOk (X14 N) (bodyOf Try.f27) u := pc_nil
def PzbQ_0 : PD D := { path := [1, 1, 0, 1], ins := [.v 0 (.rp 75), .v 1 (.int .i64), .o 6 (.box 39), .o 8 (.sl 3), .v 14 .bool], fx := [(6, .box 0 0), (8, .c (.own 1))], ks := [2, 0], exs := [⟨.normal, [.u 0 (.box 39), .v 8 (.sl 3)], []⟩, ⟨.ret, [.u 0 (.box 39), .v 7 .bool], []⟩], keep := [0, 1, 2, 6] }
def FzbQ_0 (N : Nat) : PzbQ_0.F := fun x => zbQ_0 N x.1 x.2.1 x.2.2.1 x.2.2.2.1 x.2.2.2.2.1
theorem czbQ_0 (N : Nat) : CC (X14 N) (bodyOf Try.f27) PzbQ_0 (FzbQ_0 N) := CC.of (cok14 N) (us := u0_zbQ N) (fun u h _ => oku0_zbQ N u h) (fun x => by kernel_rfl)
def uzbQ_0 (N : Nat) : List (Pc D) := PzbQ_0.pc (X14 N) (FzbQ_0 N) :: u0_zbQ N
theorem okuzbQ_0 (N : Nat) : ∀ u ∈ uzbQ_0 N, PcOk (X14 N) (bodyOf Try.f27) u := pc_cons ((czbQ_0 N).pc (by kernel_rfl)) (oku0_zbQ N)
def PzbQ_2 : PD D := { path := [1, 1, 1, 0, 1, 0, 0, 1, 1, 0, 0, 1, 1, 0], ins := [.v 0 (.rp 75), .v 1 (.int .i64), .v 2 (.int .i64), .o 6 (.box 39), .v 10 (.int .i64), .v 34 (.int .i64), .v 35 (.int .i64)], fx := [(6, .box 0 0)], ks := [2], exs := [⟨.exit 2, [.u 0 (.box 39)], []⟩, ⟨.ret, [.u 0 (.box 39), .v 7 .bool], []⟩], keep := [0, 1, 2, 6, 23, 24, 25] }
def FzbQ_2 (N n : Nat) : PzbQ_2.F := fun x => zbQ_2 N x.1 x.2.1 x.2.2.1 x.2.2.2.2.1 x.2.2.2.2.2.1 n x.2.2.2.1 x.2.2.2.2.2.2.1
theorem czbQ_2 (N n : Nat) : CC (X14 N) (bodyOf Try.f27) PzbQ_2 (FzbQ_2 N n) := CC.loop (cok14 N) (us := uzbQ_0 N) (c := sub (bodyOf Try.f27) [1, 1, 1, 0, 1, 0, 0, 1, 1, 0, 0, 1, 1, 0, 0]) (by kernel_rfl) (by kernel_rfl) (fun u h _ => okuzbQ_0 N u h) (fun x => rfl) (fun n x => by kernel_rfl) n
def uzbQ_2 (N : Nat) : List (Pc D) := PzbQ_2.pc (X14 N) (FzbQ_2 N N) :: uzbQ_0 N
theorem okuzbQ_2 (N : Nat) : ∀ u ∈ uzbQ_2 N, PcOk (X14 N) (bodyOf Try.f27) u := pc_cons ((czbQ_2 N N).pc (by kernel_rfl)) (okuzbQ_0 N)
def PzbQ_1 : PD D := { path := [1, 1, 1, 0, 1, 0], ins := [.v 0 (.rp 75), .v 1 (.int .i64), .v 2 (.int .i64), .o 6 (.box 39), .v 23 (.sl 3), .v 24 (.int .i64), .v 25 (.int .i64)], fx := [(6, .box 0 0)], ks := [2], exs := [⟨.exit 0, [.u 0 (.box 39)], []⟩, ⟨.ret, [.u 0 (.box 39), .v 7 .bool], []⟩], keep := [6] }
def FzbQ_1 (N n : Nat) : PzbQ_1.F := fun x => zbQ_1 N x.1 x.2.1 x.2.2.1 x.2.2.2.2.1 x.2.2.2.2.2.1 n x.2.2.2.1 x.2.2.2.2.2.2.1
theorem czbQ_1 (N n : Nat) : CC (X14 N) (bodyOf Try.f27) PzbQ_1 (FzbQ_1 N n) := CC.loop (cok14 N) (us := uzbQ_2 N) (c := sub (bodyOf Try.f27) [1, 1, 1, 0, 1, 0, 0]) (by kernel_rfl) (by kernel_rfl) (fun u h _ => okuzbQ_2 N u h) (fun x => rfl) (fun n x => by kernel_rfl) n
def uzbQ_1 (N : Nat) : List (Pc D) := PzbQ_1.pc (X14 N) (FzbQ_1 N N) :: uzbQ_2 N
theorem okuzbQ_1 (N : Nat) : ∀ u ∈ uzbQ_1 N, PcOk (X14 N) (bodyOf Try.f27) u := pc_cons ((czbQ_1 N N).pc (by kernel_rfl)) (okuzbQ_2 N)
def dzbQ : FD D := { f := 27, np := 3, ins := [.v 0 (.rp 75), .v 1 (.int .i64), .v 2 (.int .i64)], fx := [], rcv := none, rk := 0, outs := [.v 1000000 (.agg 39), .v 7 .bool], ofx := [], rvs := [.cell 6 39, .tmp 7], flat := true }
def FzbQ (N : Nat) : dzbQ.F := fun r x => zbQ N x.1 x.2.1 x.2.2.1
theorem ozbQ (N : Nat) : FOk Try.prog (X14 N) dzbQ (FzbQ N) := ⟨⟨Try.f27, _, Try.func27, rfl, by kernel_rfl, by kernel_rfl, rfl, FC.of (cok14 N) (us := uzbQ_1 N) (fun u h _ => okuzbQ_1 N u h) (fun r x => by kernel_rfl)⟩, by kernel_rfl, by kernel_rfl, by kernel_rfl, by kernel_rfl⟩
def fs15 (N : Nat) : List (FE D) := ⟨dzbQ, FzbQ N⟩ :: fs14 N
theorem all15 (N : Nat) : ∀ y ∈ fs15 N, CallOk X0 y.d y.F := all_cons (x := ⟨dzbQ, FzbQ N⟩) (ozbQ N) (all14 N)
def X15 (N : Nat) : Ev Try.prog D := X0.with (fs15 N)
theorem cok15 (N : Nat) : COk (X15 N) := COk.of (all15 N)
def u0_zaQ (N : Nat) : List (Pc D) := []
theorem oku0_zaQ (N : Nat) : ∀ u ∈ u0_zaQ N, PcOk (X15 N) (bodyOf Try.f58) u := pc_nil
def dzaQ : FD D := { f := 58, np := 1, ins := [.v 0 (.int .i64)], fx := [], rcv := none, rk := 0, outs := [.v 2 .bool], ofx := [], rvs := [.tmp 2], flat := true }
def FzaQ (N : Nat) : dzaQ.F := fun r x => zaQ N x.1
theorem ozaQ (N : Nat) : FOk Try.prog (X15 N) dzaQ (FzaQ N) := ⟨⟨Try.f58, _, Try.func58, rfl, by kernel_rfl, by kernel_rfl, rfl, FC.of (cok15 N) (us := u0_zaQ N) (fun u h _ => oku0_zaQ N u h) (fun r x => by kernel_rfl)⟩, by kernel_rfl, by kernel_rfl, by kernel_rfl, by kernel_rfl⟩
def fs16 (N : Nat) : List (FE D) := ⟨dzaQ, FzaQ N⟩ :: fs15 N
theorem all16 (N : Nat) : ∀ y ∈ fs16 N, CallOk X0 y.d y.F := all_cons (x := ⟨dzaQ, FzaQ N⟩) (ozaQ N) (all15 N)
def X16 (N : Nat) : Ev Try.prog D := X0.with (fs16 N)
theorem cok16 (N : Nat) : COk (X16 N) := COk.of (all16 N)
def u0_zaL (N : Nat) : List (Pc D) := []
theorem oku0_zaL (N : Nat) : ∀ u ∈ u0_zaL N, PcOk (X16 N) (bodyOf Try.f30) u := pc_nil
def dzaL : FD D := { f := 30, np := 2, ins := [.v 0 (.int .i64), .v 1 (.int .i64)], fx := [], rcv := none, rk := 0, outs := [.v 4 (.int .i64)], ofx := [], rvs := [.tmp 4], flat := true }
def FzaL (N : Nat) : dzaL.F := fun r x => zaL N x.1 x.2.1
theorem ozaL (N : Nat) : FOk Try.prog (X16 N) dzaL (FzaL N) := ⟨⟨Try.f30, _, Try.func30, rfl, by kernel_rfl, by kernel_rfl, rfl, FC.of (cok16 N) (us := u0_zaL N) (fun u h _ => oku0_zaL N u h) (fun r x => by kernel_rfl)⟩, by kernel_rfl, by kernel_rfl, by kernel_rfl, by kernel_rfl⟩
def fs17 (N : Nat) : List (FE D) := ⟨dzaL, FzaL N⟩ :: fs16 N
theorem all17 (N : Nat) : ∀ y ∈ fs17 N, CallOk X0 y.d y.F := all_cons (x := ⟨dzaL, FzaL N⟩) (ozaL N) (all16 N)
def X17 (N : Nat) : Ev Try.prog D := X0.with (fs17 N)
theorem cok17 (N : Nat) : COk (X17 N) := COk.of (all17 N)
def u0_zaG (N : Nat) : List (Pc D) := []
theorem oku0_zaG (N : Nat) : ∀ u ∈ u0_zaG N, PcOk (X17 N) (bodyOf Try.f29) u := pc_nil
def dzaG : FD D := { f := 29, np := 2, ins := [.v 0 (.agg 39), .v 1 (.agg 39)], fx := [], rcv := none, rk := 0, outs := [.v 4 (.int .i64)], ofx := [], rvs := [.tmp 4], flat := true }
def FzaG (N : Nat) : dzaG.F := fun r x => zaG N x.1 x.2.1
theorem ozaG (N : Nat) : FOk Try.prog (X17 N) dzaG (FzaG N) := ⟨⟨Try.f29, _, Try.func29, rfl, by kernel_rfl, by kernel_rfl, rfl, FC.of (cok17 N) (us := u0_zaG N) (fun u h _ => oku0_zaG N u h) (fun r x => by kernel_rfl)⟩, by kernel_rfl, by kernel_rfl, by kernel_rfl, by kernel_rfl⟩
def fs18 (N : Nat) : List (FE D) := ⟨dzaG, FzaG N⟩ :: fs17 N
theorem all18 (N : Nat) : ∀ y ∈ fs18 N, CallOk X0 y.d y.F := all_cons (x := ⟨dzaG, FzaG N⟩) (ozaG N) (all17 N)
def X18 (N : Nat) : Ev Try.prog D := X0.with (fs18 N)
theorem cok18 (N : Nat) : COk (X18 N) := COk.of (all18 N)
def Y18 (N : Nat) : Ev Try.prog D := (X18 N).cuts fun x lo hi => match x, lo, hi with | .tmp 49, some (.tmp 50), none => 1 | _, _, _ => 0
theorem coky18 (N : Nat) : COk (Y18 N) := COk.cuts (cok18 N)
def u0_zaT (N : Nat) : List (Pc D) := []
theorem oku0_zaT (N : Nat) : ∀ u ∈ u0_zaT N, PcOk (Y18 N) (bodyOf Try.f10) u := pc_nil
def PzaT_2 : PD D := { path := [1, 1, 1, 1, 0, 1, 0, 0, 0, 0, 1, 0, 1, 0, 0, 1, 1, 0], ins := [.o 1 (.box 28), .o 4 (.bx 75 [(3, 3), (4, 4)]), .o 5 (.sl 39), .v 6 (.int .i64), .v 25 (.int .i64), .o 2004003 (.sl 121), .o 2004004 (.sl 3)], fx := [(1, .box 0 0), (4, .box 1 0), (5, .c (.own 2))], ks := [1, 1, 0, 1, 1], exs := [⟨.normal, [.o 5 (.sl 39)], [(5, .c (.own 5))]⟩], keep := [1, 4, 6, 7, 24, 25] }
def FzaT_2 (N : Nat) : PzaT_2.F := fun x => zaT_2 N x.2.1 x.2.2.1 x.2.2.2.1 x.2.2.2.2.1 x.2.2.2.2.2.1 x.2.2.2.2.2.2.1
theorem czaT_2 (N : Nat) : CC (Y18 N) (bodyOf Try.f10) PzaT_2 (FzaT_2 N) := CC.of (coky18 N) (us := u0_zaT N) (fun u h _ => oku0_zaT N u h) (fun x => by kernel_rfl)
def uzaT_2 (N : Nat) : List (Pc D) := PzaT_2.pc (Y18 N) (FzaT_2 N) :: u0_zaT N
theorem okuzaT_2 (N : Nat) : ∀ u ∈ uzaT_2 N, PcOk (Y18 N) (bodyOf Try.f10) u := pc_cons ((czaT_2 N).pc (by kernel_rfl)) (oku0_zaT N)
def PzaT_1 : PD D := { path := [1, 1, 1, 1, 0, 1, 0, 0, 0, 0, 1, 0, 1, 0], ins := [.o 1 (.box 28), .o 4 (.bx 75 [(3, 3), (4, 4)]), .o 5 (.sl 39), .v 6 (.int .i64), .v 24 (.int .i64), .v 25 (.int .i64), .o 2004003 (.sl 121), .o 2004004 (.sl 3)], fx := [(1, .box 0 0), (4, .box 1 0), (5, .c (.own 2))], ks := [1, 1, 0, 1, 1], exs := [⟨.exit 2, [.o 5 (.sl 39)], [(5, .c (.own 5))]⟩], keep := [1, 4, 6, 7] }
def FzaT_1 (N n : Nat) : PzaT_1.F := fun x => zaT_1 N x.2.1 x.2.2.2.1 x.2.2.2.2.1 x.2.2.2.2.2.2.1 x.2.2.2.2.2.2.2.1 n x.2.2.1 x.2.2.2.2.2.1
theorem czaT_1 (N n : Nat) : CC (Y18 N) (bodyOf Try.f10) PzaT_1 (FzaT_1 N n) := CC.loop (coky18 N) (us := uzaT_2 N) (c := sub (bodyOf Try.f10) [1, 1, 1, 1, 0, 1, 0, 0, 0, 0, 1, 0, 1, 0, 0]) (by kernel_rfl) (by kernel_rfl) (fun u h _ => okuzaT_2 N u h) (fun x => rfl) (fun n x => by kernel_rfl) n
def uzaT_1 (N : Nat) : List (Pc D) := PzaT_1.pc (Y18 N) (FzaT_1 N N) :: uzaT_2 N
theorem okuzaT_1 (N : Nat) : ∀ u ∈ uzaT_1 N, PcOk (Y18 N) (bodyOf Try.f10) u := pc_cons ((czaT_1 N N).pc (by kernel_rfl)) (okuzaT_2 N)
def PzaT_3 : PD D := { path := [1, 1, 1, 1, 0, 1, 0, 0, 0, 0, 1, 1, 0, 1, 0], ins := [.o 1 (.box 28), .o 4 (.bx 75 [(3, 3), (4, 4)]), .o 5 (.sl 39), .v 6 (.int .i64), .v 51 (.cut 2 39), .v 52 (.int .i64), .v 53 (.int .i64), .o 2004003 (.sl 121), .o 2004004 (.sl 3)], fx := [(1, .box 0 0), (4, .box 1 0), (5, .c (.own 2))], ks := [1, 1, 1, 1, 2], exs := [⟨.exit 4, [.u 4 (.sl 3)], []⟩], keep := [1, 4, 5, 6, 7] }
def FzaT_3 (N n : Nat) : PzaT_3.F := fun x => zaT_3 N x.2.2.1 x.2.2.2.1 x.2.2.2.2.1 x.2.2.2.2.2.1 n x.2.2.2.2.2.2.1 x.2.2.2.2.2.2.2.2.1
theorem czaT_3 (N n : Nat) : CC (Y18 N) (bodyOf Try.f10) PzaT_3 (FzaT_3 N n) := CC.loop (coky18 N) (us := uzaT_1 N) (c := sub (bodyOf Try.f10) [1, 1, 1, 1, 0, 1, 0, 0, 0, 0, 1, 1, 0, 1, 0, 0]) (by kernel_rfl) (by kernel_rfl) (fun u h _ => okuzaT_1 N u h) (fun x => rfl) (fun n x => by kernel_rfl) n
def uzaT_3 (N : Nat) : List (Pc D) := PzaT_3.pc (Y18 N) (FzaT_3 N N) :: uzaT_1 N
theorem okuzaT_3 (N : Nat) : ∀ u ∈ uzaT_3 N, PcOk (Y18 N) (bodyOf Try.f10) u := pc_cons ((czaT_3 N N).pc (by kernel_rfl)) (okuzaT_1 N)
def PzaT_4 : PD D := { path := [1, 1, 1, 1, 0, 1, 0, 0, 0, 0, 1, 1, 1, 0], ins := [.o 1 (.box 28), .o 4 (.bx 75 [(3, 3), (4, 4)]), .o 5 (.sl 39), .v 6 (.int .i64), .v 7 (.int .i64), .o 2004003 (.sl 121), .o 2004004 (.sl 3)], fx := [(1, .box 0 0), (4, .box 1 0), (5, .c (.own 2))], ks := [1, 1, 1, 1, 1], exs := [⟨.normal, [.v 73 .bool], []⟩], keep := [1, 4, 5, 6] }
def FzaT_4 (N : Nat) : PzaT_4.F := fun x => zaT_4 N x.2.2.1 x.2.2.2.1 x.2.2.2.2.1
theorem czaT_4 (N : Nat) : CC (Y18 N) (bodyOf Try.f10) PzaT_4 (FzaT_4 N) := CC.of (coky18 N) (us := uzaT_3 N) (fun u h _ => okuzaT_3 N u h) (fun x => by kernel_rfl)
def uzaT_4 (N : Nat) : List (Pc D) := PzaT_4.pc (Y18 N) (FzaT_4 N) :: uzaT_3 N
theorem okuzaT_4 (N : Nat) : ∀ u ∈ uzaT_4 N, PcOk (Y18 N) (bodyOf Try.f10) u := pc_cons ((czaT_4 N).pc (by kernel_rfl)) (okuzaT_3 N)
def PzaT_0 : PD D := { path := [1, 1, 1, 1, 0, 1, 0], ins := [.o 1 (.box 28), .o 4 (.bx 75 [(3, 3), (4, 4)]), .o 5 (.sl 39), .v 6 (.int .i64), .o 2004003 (.sl 121), .o 2004004 (.sl 3)], fx := [(1, .box 0 0), (4, .box 1 0), (5, .c (.own 2))], ks := [1, 1, 0, 1, 2], exs := [⟨.exit 0, [.o 5 (.sl 39)], [(5, .c (.own 5))]⟩], keep := [] }
def FzaT_0 (N n : Nat) : PzaT_0.F := fun x => zaT_0 N x.1 x.2.1 x.2.2.2.2.1 n x.2.2.1 x.2.2.2.1 x.2.2.2.2.2.1
theorem czaT_0 (N n : Nat) : CC (Y18 N) (bodyOf Try.f10) PzaT_0 (FzaT_0 N n) := CC.loop (coky18 N) (us := uzaT_4 N) (c := sub (bodyOf Try.f10) [1, 1, 1, 1, 0, 1, 0, 0]) (by kernel_rfl) (by kernel_rfl) (fun u h _ => okuzaT_4 N u h) (fun x => rfl) (fun n x => by kernel_rfl) n
def uzaT_0 (N : Nat) : List (Pc D) := PzaT_0.pc (Y18 N) (FzaT_0 N N) :: uzaT_4 N
theorem okuzaT_0 (N : Nat) : ∀ u ∈ uzaT_0 N, PcOk (Y18 N) (bodyOf Try.f10) u := pc_cons ((czaT_0 N N).pc (by kernel_rfl)) (okuzaT_4 N)
def dzaT : FD D := { f := 10, np := 1, ins := [.v 0 (.agg 28)], fx := [], rcv := none, rk := 0, outs := [.o 2 (.sl 39), .v 3 (.int .i64)], ofx := [(2, .c (.own 0))], rvs := [.tmp 2, .tmp 3], flat := false }
def FzaT (N : Nat) : dzaT.F := fun r x => zaT N x.1
theorem ozaT (N : Nat) : FOk Try.prog (Y18 N) dzaT (FzaT N) := ⟨⟨Try.f10, _, Try.func10, rfl, by kernel_rfl, by kernel_rfl, rfl, FC.of (coky18 N) (us := uzaT_0 N) (fun u h _ => okuzaT_0 N u h) (fun r x => by kernel_rfl)⟩, by kernel_rfl, by kernel_rfl, by kernel_rfl, by kernel_rfl⟩
def fs19 (N : Nat) : List (FE D) := ⟨dzaT, FzaT N⟩ :: fs18 N
theorem all19 (N : Nat) : ∀ y ∈ fs19 N, CallOk X0 y.d y.F := all_call (x := ⟨dzaT, FzaT N⟩) ((ozaT N).call.cuts) (all18 N)
def X19 (N : Nat) : Ev Try.prog D := X0.with (fs19 N)
theorem cok19 (N : Nat) : COk (X19 N) := COk.of (all19 N)
def u0_zaV (N : Nat) : List (Pc D) := []
theorem oku0_zaV (N : Nat) : ∀ u ∈ u0_zaV N, PcOk (X19 N) (bodyOf Try.f31) u := pc_nil
def PzaV_1 : PD D := { path := [1, 1, 0, 1, 0, 0, 1, 1, 0, 0, 1, 0, 0], ins := [.o 2 (.box 28), .o 5 (.bx 75 [(3, 3), (4, 4)]), .o 7 (.box 39), .o 2005003 (.sl 121), .o 2005004 (.sl 3)], fx := [(2, .box 0 0), (5, .box 1 0), (7, .box 2 0)], ks := [1, 1, 1, 1, 1], exs := [⟨.normal, [.v 48 .bool], []⟩], keep := [1, 2, 5, 7, 16, 17, 18] }
def FzaV_1 (N : Nat) : PzaV_1.F := fun x => zaV_1 N x.1 x.2.2.1 x.2.2.2.2.1
theorem czaV_1 (N : Nat) : CC (X19 N) (bodyOf Try.f31) PzaV_1 (FzaV_1 N) := CC.of (cok19 N) (us := u0_zaV N) (fun u h _ => oku0_zaV N u h) (fun x => by kernel_rfl)
def uzaV_1 (N : Nat) : List (Pc D) := PzaV_1.pc (X19 N) (FzaV_1 N) :: u0_zaV N
theorem okuzaV_1 (N : Nat) : ∀ u ∈ uzaV_1 N, PcOk (X19 N) (bodyOf Try.f31) u := pc_cons ((czaV_1 N).pc (by kernel_rfl)) (oku0_zaV N)
def PzaV_0 : PD D := { path := [1, 1, 0, 1, 0], ins := [.o 2 (.box 28), .o 5 (.bx 75 [(3, 2), (4, 3)]), .v 16 (.sl 39), .v 17 (.int .i64), .v 18 (.int .i64), .o 2005003 (.sl 121), .o 2005004 (.sl 3)], fx := [(2, .box 0 0), (5, .box 1 0)], ks := [1, 1, 1, 2], exs := [⟨.exit 0, [.u 3 (.sl 3)], []⟩, ⟨.ret, [.v 4 .bool], []⟩], keep := [1, 2, 5] }
def FzaV_0 (N n : Nat) : PzaV_0.F := fun x => zaV_0 N x.1 x.2.2.1 x.2.2.2.1 n x.2.2.2.2.1 x.2.2.2.2.2.2.1
theorem czaV_0 (N n : Nat) : CC (X19 N) (bodyOf Try.f31) PzaV_0 (FzaV_0 N n) := CC.loop (cok19 N) (us := uzaV_1 N) (c := sub (bodyOf Try.f31) [1, 1, 0, 1, 0, 0]) (by kernel_rfl) (by kernel_rfl) (fun u h _ => okuzaV_1 N u h) (fun x => rfl) (fun n x => by kernel_rfl) n
def uzaV_0 (N : Nat) : List (Pc D) := PzaV_0.pc (X19 N) (FzaV_0 N N) :: uzaV_1 N
theorem okuzaV_0 (N : Nat) : ∀ u ∈ uzaV_0 N, PcOk (X19 N) (bodyOf Try.f31) u := pc_cons ((czaV_0 N N).pc (by kernel_rfl)) (okuzaV_1 N)
def PzaV_2 : PD D := { path := [1, 1, 1, 0, 1, 0], ins := [.o 2 (.box 28), .o 5 (.bx 75 [(3, 2), (4, 3)]), .v 59 (.sl 39), .v 60 (.int .i64), .v 61 (.int .i64), .o 2005003 (.sl 121), .o 2005004 (.sl 3)], fx := [(2, .box 0 0), (5, .box 1 0)], ks := [1, 1, 1, 1], exs := [⟨.exit 2, [], []⟩, ⟨.ret, [.v 4 .bool], []⟩], keep := [2, 5] }
def FzaV_2 (N n : Nat) : PzaV_2.F := fun x => zaV_2 N x.2.1 x.2.2.1 x.2.2.2.1 x.2.2.2.2.2.1 x.2.2.2.2.2.2.1 n x.2.2.2.2.1
theorem czaV_2 (N n : Nat) : CC (X19 N) (bodyOf Try.f31) PzaV_2 (FzaV_2 N n) := CC.loop (cok19 N) (us := uzaV_0 N) (c := sub (bodyOf Try.f31) [1, 1, 1, 0, 1, 0, 0]) (by kernel_rfl) (by kernel_rfl) (fun u h _ => okuzaV_0 N u h) (fun x => rfl) (fun n x => by kernel_rfl) n
def uzaV_2 (N : Nat) : List (Pc D) := PzaV_2.pc (X19 N) (FzaV_2 N N) :: uzaV_0 N
theorem okuzaV_2 (N : Nat) : ∀ u ∈ uzaV_2 N, PcOk (X19 N) (bodyOf Try.f31) u := pc_cons ((czaV_2 N N).pc (by kernel_rfl)) (okuzaV_0 N)
def PzaV_6 : PD D := { path := [1, 1, 1, 1, 0, 1, 0, 0, 1, 1, 0, 0, 1, 1, 1, 0, 0, 1, 1, 0, 0, 1, 0], ins := [.o 2 (.box 28), .o 5 (.bx 75 [(3, 3), (4, 2)]), .v 10 (.int .i64), .v 12 (.int .i64), .o 80 (.sl 3), .o 2005003 (.sl 121)], fx := [(2, .box 0 0), (5, .box 1 0), (80, .c (.own 2))], ks := [1, 1, 1, 1], exs := [⟨.normal, [.v 13 .bool], []⟩], keep := [2, 5, 10, 12, 80, 81, 82, 91, 92] }
def FzaV_6 (N : Nat) : PzaV_6.F := fun x => zaV_6 N x.2.1 x.2.2.1 x.2.2.2.1 x.2.2.2.2.1 x.2.2.2.2.2.1
theorem czaV_6 (N : Nat) : CC (X19 N) (bodyOf Try.f31) PzaV_6 (FzaV_6 N) := CC.of (cok19 N) (us := uzaV_2 N) (fun u h _ => okuzaV_2 N u h) (fun x => by kernel_rfl)
def uzaV_6 (N : Nat) : List (Pc D) := PzaV_6.pc (X19 N) (FzaV_6 N) :: uzaV_2 N
theorem okuzaV_6 (N : Nat) : ∀ u ∈ uzaV_6 N, PcOk (X19 N) (bodyOf Try.f31) u := pc_cons ((czaV_6 N).pc (by kernel_rfl)) (okuzaV_2 N)
def PzaV_7 : PD D := { path := [1, 1, 1, 1, 0, 1, 0, 0, 1, 1, 0, 0, 1, 1, 1, 0, 0, 1, 1, 0, 0, 1, 1, 0], ins := [.o 2 (.box 28), .o 5 (.bx 75 [(3, 3), (4, 2)]), .v 10 (.int .i64), .v 12 (.int .i64), .v 13 .bool, .o 80 (.sl 3), .o 2005003 (.sl 121)], fx := [(2, .box 0 0), (5, .box 1 0), (80, .c (.own 2))], ks := [1, 1, 1, 1], exs := [⟨.normal, [.v 138 .bool], []⟩], keep := [2, 5, 10, 80, 81, 82, 91, 92] }
def FzaV_7 (N : Nat) : PzaV_7.F := fun x => zaV_7 N x.2.1 x.2.2.1 x.2.2.2.1 x.2.2.2.2.1 x.2.2.2.2.2.1 x.2.2.2.2.2.2.1
theorem czaV_7 (N : Nat) : CC (X19 N) (bodyOf Try.f31) PzaV_7 (FzaV_7 N) := CC.of (cok19 N) (us := uzaV_6 N) (fun u h _ => okuzaV_6 N u h) (fun x => by kernel_rfl)
def uzaV_7 (N : Nat) : List (Pc D) := PzaV_7.pc (X19 N) (FzaV_7 N) :: uzaV_6 N
theorem okuzaV_7 (N : Nat) : ∀ u ∈ uzaV_7 N, PcOk (X19 N) (bodyOf Try.f31) u := pc_cons ((czaV_7 N).pc (by kernel_rfl)) (okuzaV_6 N)
def PzaV_5 : PD D := { path := [1, 1, 1, 1, 0, 1, 0, 0, 1, 1, 0, 0, 1, 1, 1, 0], ins := [.o 2 (.box 28), .o 5 (.bx 75 [(3, 3), (4, 2)]), .v 10 (.int .i64), .o 80 (.sl 3), .v 91 (.int .i64), .v 92 (.int .i64), .o 2005003 (.sl 121)], fx := [(2, .box 0 0), (5, .box 1 0), (80, .c (.own 2))], ks := [1, 1, 1, 1], exs := [⟨.exit 6, [], []⟩, ⟨.ret, [.v 4 .bool], []⟩], keep := [2, 5, 80, 81, 82] }
def FzaV_5 (N n : Nat) : PzaV_5.F := fun x => zaV_5 N x.2.1 x.2.2.1 x.2.2.2.1 x.2.2.2.2.1 x.2.2.2.2.2.2.1 n x.2.2.2.2.2.1
theorem czaV_5 (N n : Nat) : CC (X19 N) (bodyOf Try.f31) PzaV_5 (FzaV_5 N n) := CC.loop (cok19 N) (us := uzaV_7 N) (c := sub (bodyOf Try.f31) [1, 1, 1, 1, 0, 1, 0, 0, 1, 1, 0, 0, 1, 1, 1, 0, 0]) (by kernel_rfl) (by kernel_rfl) (fun u h _ => okuzaV_7 N u h) (fun x => rfl) (fun n x => by kernel_rfl) n
def uzaV_5 (N : Nat) : List (Pc D) := PzaV_5.pc (X19 N) (FzaV_5 N N) :: uzaV_7 N
theorem okuzaV_5 (N : Nat) : ∀ u ∈ uzaV_5 N, PcOk (X19 N) (bodyOf Try.f31) u := pc_cons ((czaV_5 N N).pc (by kernel_rfl)) (okuzaV_7 N)
def PzaV_4 : PD D := { path := [1, 1, 1, 1, 0, 1, 0, 0, 1, 1, 0], ins := [.o 2 (.box 28), .o 5 (.bx 75 [(3, 3), (4, 2)]), .o 80 (.sl 3), .v 82 (.int .i64), .o 2005003 (.sl 121)], fx := [(2, .box 0 0), (5, .box 1 0), (80, .c (.own 2))], ks := [1, 1, 1, 1], exs := [⟨.normal, [], []⟩, ⟨.ret, [.v 4 .bool], []⟩], keep := [2, 5, 80, 81, 82] }
def FzaV_4 (N : Nat) : PzaV_4.F := fun x => zaV_4 N x.1 x.2.1 x.2.2.1 x.2.2.2.1 x.2.2.2.2.1
theorem czaV_4 (N : Nat) : CC (X19 N) (bodyOf Try.f31) PzaV_4 (FzaV_4 N) := CC.of (cok19 N) (us := uzaV_5 N) (fun u h _ => okuzaV_5 N u h) (fun x => by kernel_rfl)
def uzaV_4 (N : Nat) : List (Pc D) := PzaV_4.pc (X19 N) (FzaV_4 N) :: uzaV_5 N
theorem okuzaV_4 (N : Nat) : ∀ u ∈ uzaV_4 N, PcOk (X19 N) (bodyOf Try.f31) u := pc_cons ((czaV_4 N).pc (by kernel_rfl)) (okuzaV_5 N)
def PzaV_3 : PD D := { path := [1, 1, 1, 1, 0, 1, 0], ins := [.o 2 (.box 28), .o 5 (.bx 75 [(3, 3), (4, 2)]), .o 80 (.sl 3), .v 81 (.int .i64), .v 82 (.int .i64), .o 2005003 (.sl 121)], fx := [(2, .box 0 0), (5, .box 1 0), (80, .c (.own 2))], ks := [1, 1, 1, 1], exs := [⟨.exit 4, [], []⟩, ⟨.ret, [.v 4 .bool], []⟩], keep := [] }
def FzaV_3 (N n : Nat) : PzaV_3.F := fun x => zaV_3 N x.1 x.2.1 x.2.2.1 x.2.2.2.1 x.2.2.2.2.2.1 n x.2.2.2.2.1
theorem czaV_3 (N n : Nat) : CC (X19 N) (bodyOf Try.f31) PzaV_3 (FzaV_3 N n) := CC.loop (cok19 N) (us := uzaV_4 N) (c := sub (bodyOf Try.f31) [1, 1, 1, 1, 0, 1, 0, 0]) (by kernel_rfl) (by kernel_rfl) (fun u h _ => okuzaV_4 N u h) (fun x => rfl) (fun n x => by kernel_rfl) n
def uzaV_3 (N : Nat) : List (Pc D) := PzaV_3.pc (X19 N) (FzaV_3 N N) :: uzaV_4 N
theorem okuzaV_3 (N : Nat) : ∀ u ∈ uzaV_3 N, PcOk (X19 N) (bodyOf Try.f31) u := pc_cons ((czaV_3 N N).pc (by kernel_rfl)) (okuzaV_4 N)
def dzaV : FD D := { f := 31, np := 2, ins := [.v 0 (.agg 28), .v 1 (.sl 39)], fx := [], rcv := none, rk := 0, outs := [.v 4 .bool], ofx := [], rvs := [.tmp 4], flat := true }
def FzaV (N : Nat) : dzaV.F := fun r x => zaV N x.1 x.2.1
theorem ozaV (N : Nat) : FOk Try.prog (X19 N) dzaV (FzaV N) := ⟨⟨Try.f31, _, Try.func31, rfl, by kernel_rfl, by kernel_rfl, rfl, FC.of (cok19 N) (us := uzaV_3 N) (fun u h _ => okuzaV_3 N u h) (fun r x => by kernel_rfl)⟩, by kernel_rfl, by kernel_rfl, by kernel_rfl, by kernel_rfl⟩
def fs20 (N : Nat) : List (FE D) := ⟨dzaV, FzaV N⟩ :: fs19 N
theorem all20 (N : Nat) : ∀ y ∈ fs20 N, CallOk X0 y.d y.F := all_cons (x := ⟨dzaV, FzaV N⟩) (ozaV N) (all19 N)
def X20 (N : Nat) : Ev Try.prog D := X0.with (fs20 N)
theorem cok20 (N : Nat) : COk (X20 N) := COk.of (all20 N)
def u0_zaS (N : Nat) : List (Pc D) := []
theorem oku0_zaS (N : Nat) : ∀ u ∈ u0_zaS N, PcOk (X20 N) (bodyOf Try.f11) u := pc_nil
def dzaS : FD D := { f := 11, np := 2, ins := [.v 0 (.agg 28), .v 1 (.sl 39)], fx := [], rcv := none, rk := 0, outs := [.v 4 .bool, .v 5 (.int .i64)], ofx := [], rvs := [.tmp 4, .tmp 5], flat := true }
def FzaS (N : Nat) : dzaS.F := fun r x => zaS N x.1 x.2.1
theorem ozaS (N : Nat) : FOk Try.prog (X20 N) dzaS (FzaS N) := ⟨⟨Try.f11, _, Try.func11, rfl, by kernel_rfl, by kernel_rfl, rfl, FC.of (cok20 N) (us := u0_zaS N) (fun u h _ => oku0_zaS N u h) (fun r x => by kernel_rfl)⟩, by kernel_rfl, by kernel_rfl, by kernel_rfl, by kernel_rfl⟩
def fs21 (N : Nat) : List (FE D) := ⟨dzaS, FzaS N⟩ :: fs20 N
theorem all21 (N : Nat) : ∀ y ∈ fs21 N, CallOk X0 y.d y.F := all_cons (x := ⟨dzaS, FzaS N⟩) (ozaS N) (all20 N)
def X21 (N : Nat) : Ev Try.prog D := X0.with (fs21 N)
theorem cok21 (N : Nat) : COk (X21 N) := COk.of (all21 N)
def u0_zaH (N : Nat) : List (Pc D) := []
theorem oku0_zaH (N : Nat) : ∀ u ∈ u0_zaH N, PcOk (X21 N) (bodyOf Try.f62) u := pc_nil
def dzaH : FD D := { f := 62, np := 2, ins := [.v 0 (.agg 39), .v 1 (.rp 3)], fx := [], rcv := none, rk := 0, outs := [.v 3 .bool], ofx := [], rvs := [.tmp 3], flat := true }
def FzaH (N : Nat) : dzaH.F := fun r x => zaH N x.1 x.2.1
theorem ozaH (N : Nat) : FOk Try.prog (X21 N) dzaH (FzaH N) := ⟨⟨Try.f62, _, Try.func62, rfl, by kernel_rfl, by kernel_rfl, rfl, FC.of (cok21 N) (us := u0_zaH N) (fun u h _ => oku0_zaH N u h) (fun r x => by kernel_rfl)⟩, by kernel_rfl, by kernel_rfl, by kernel_rfl, by kernel_rfl⟩
def fs22 (N : Nat) : List (FE D) := ⟨dzaH, FzaH N⟩ :: fs21 N
theorem all22 (N : Nat) : ∀ y ∈ fs22 N, CallOk X0 y.d y.F := all_cons (x := ⟨dzaH, FzaH N⟩) (ozaH N) (all21 N)
def X22 (N : Nat) : Ev Try.prog D := X0.with (fs22 N)
theorem cok22 (N : Nat) : COk (X22 N) := COk.of (all22 N)
def u0_zaB (N : Nat) : List (Pc D) := []
theorem oku0_zaB (N : Nat) : ∀ u ∈ u0_zaB N, PcOk (X22 N) (bodyOf Try.f89) u := pc_nil
def PzaB_0 : PD D := { path := [1, 0, 1, 0], ins := [.v 0 (.sl 39), .v 1 (.fn 62 [3]), .v 7 (.int .i64), .v 8 (.int .i64)], fx := [], ks := [], exs := [⟨.exit 0, [], []⟩, ⟨.ret, [.v 4 (.int .i64)], []⟩], keep := [] }
def FzaB_0 (N n : Nat) : PzaB_0.F := fun x => zaB_0 N x.1 x.2.1.1 x.2.2.1 n x.2.2.2.1
theorem czaB_0 (N n : Nat) : CC (X22 N) (bodyOf Try.f89) PzaB_0 (FzaB_0 N n) := CC.loop (cok22 N) (us := u0_zaB N) (c := sub (bodyOf Try.f89) [1, 0, 1, 0, 0]) (by kernel_rfl) (by kernel_rfl) (fun u h _ => oku0_zaB N u h) (fun x => rfl) (fun n x => by kernel_rfl) n
def uzaB_0 (N : Nat) : List (Pc D) := PzaB_0.pc (X22 N) (FzaB_0 N N) :: u0_zaB N
theorem okuzaB_0 (N : Nat) : ∀ u ∈ uzaB_0 N, PcOk (X22 N) (bodyOf Try.f89) u := pc_cons ((czaB_0 N N).pc (by kernel_rfl)) (oku0_zaB N)
def dzaB : FD D := { f := 89, np := 2, ins := [.v 0 (.sl 39), .v 1 (.fn 62 [3])], fx := [], rcv := none, rk := 0, outs := [.v 4 (.int .i64)], ofx := [], rvs := [.tmp 4], flat := true }
def FzaB (N : Nat) : dzaB.F := fun r x => zaB N x.1 x.2.1.1
theorem ozaB (N : Nat) : FOk Try.prog (X22 N) dzaB (FzaB N) := ⟨⟨Try.f89, _, Try.func89, rfl, by kernel_rfl, by kernel_rfl, rfl, FC.of (cok22 N) (us := uzaB_0 N) (fun u h _ => okuzaB_0 N u h) (fun r x => by kernel_rfl)⟩, by kernel_rfl, by kernel_rfl, by kernel_rfl, by kernel_rfl⟩
def fs23 (N : Nat) : List (FE D) := ⟨dzaB, FzaB N⟩ :: fs22 N
theorem all23 (N : Nat) : ∀ y ∈ fs23 N, CallOk X0 y.d y.F := all_cons (x := ⟨dzaB, FzaB N⟩) (ozaB N) (all22 N)
def X23 (N : Nat) : Ev Try.prog D := X0.with (fs23 N)
theorem cok23 (N : Nat) : COk (X23 N) := COk.of (all23 N)
def u0_zaA (N : Nat) : List (Pc D) := []
theorem oku0_zaA (N : Nat) : ∀ u ∈ u0_zaA N, PcOk (X23 N) (bodyOf Try.f61) u := pc_nil
def dzaA : FD D := { f := 61, np := 2, ins := [.v 0 (.sl 39), .v 1 (.fn 62 [3])], fx := [], rcv := none, rk := 0, outs := [.v 4 .bool], ofx := [], rvs := [.tmp 4], flat := true }
def FzaA (N : Nat) : dzaA.F := fun r x => zaA N x.1 x.2.1.1
theorem ozaA (N : Nat) : FOk Try.prog (X23 N) dzaA (FzaA N) := ⟨⟨Try.f61, _, Try.func61, rfl, by kernel_rfl, by kernel_rfl, rfl, FC.of (cok23 N) (us := u0_zaA N) (fun u h _ => oku0_zaA N u h) (fun r x => by kernel_rfl)⟩, by kernel_rfl, by kernel_rfl, by kernel_rfl, by kernel_rfl⟩
def fs24 (N : Nat) : List (FE D) := ⟨dzaA, FzaA N⟩ :: fs23 N
theorem all24 (N : Nat) : ∀ y ∈ fs24 N, CallOk X0 y.d y.F := all_cons (x := ⟨dzaA, FzaA N⟩) (ozaA N) (all23 N)
def X24 (N : Nat) : Ev Try.prog D := X0.with (fs24 N)
theorem cok24 (N : Nat) : COk (X24 N) := COk.of (all24 N)
def Y24 (N : Nat) : Ev Try.prog D := (X24 N).cuts fun x lo hi => match x, lo, hi with | .tmp 14, some (.tmp 14), some (.tmp 14) => 3 | _, _, _ => 0
theorem coky24 (N : Nat) : COk (Y24 N) := COk.cuts (cok24 N)
def u0_zaW (N : Nat) : List (Pc D) := []
theorem oku0_zaW (N : Nat) : ∀ u ∈ u0_zaW N, PcOk (Y24 N) (bodyOf Try.f33) u := pc_nil
def PzaW_2 : PD D := { path := [1, 1, 0, 1, 0, 0, 1, 1, 0, 0, 1, 1, 0, 0, 1, 1, 0], ins := [.v 1 (.sl 39), .v 2 .bool, .o 7 (.ne 22 3), .v 8 (.int .i64), .v 24 (.sl 3), .v 26 (.int .i64)], fx := [(7, .c (.own 0))], ks := [2], exs := [⟨.normal, [.u 0 (.ne 22 3)], []⟩], keep := [1, 2, 7, 8, 17, 18, 19, 24, 25, 26] }
def FzaW_2 (N : Nat) : PzaW_2.F := fun x => zaW_2 N x.1 x.2.1 x.2.2.1 x.2.2.2.1 x.2.2.2.2.1 x.2.2.2.2.2.1
theorem czaW_2 (N : Nat) : CC (Y24 N) (bodyOf Try.f33) PzaW_2 (FzaW_2 N) := CC.of (coky24 N) (us := u0_zaW N) (fun u h _ => oku0_zaW N u h) (fun x => by kernel_rfl)
def uzaW_2 (N : Nat) : List (Pc D) := PzaW_2.pc (Y24 N) (FzaW_2 N) :: u0_zaW N
theorem okuzaW_2 (N : Nat) : ∀ u ∈ uzaW_2 N, PcOk (Y24 N) (bodyOf Try.f33) u := pc_cons ((czaW_2 N).pc (by kernel_rfl)) (oku0_zaW N)
def PzaW_1 : PD D := { path := [1, 1, 0, 1, 0, 0, 1, 1, 0, 0, 1, 1, 0], ins := [.v 1 (.sl 39), .v 2 .bool, .o 7 (.ne 22 3), .v 8 (.int .i64), .v 24 (.sl 3), .v 25 (.int .i64), .v 26 (.int .i64)], fx := [(7, .c (.own 0))], ks := [2], exs := [⟨.exit 2, [.u 0 (.ne 22 3)], []⟩], keep := [1, 2, 7, 17, 18, 19] }
def FzaW_1 (N n : Nat) : PzaW_1.F := fun x => zaW_1 N x.1 x.2.1 x.2.2.2.1 x.2.2.2.2.1 x.2.2.2.2.2.1 n x.2.2.1 x.2.2.2.2.2.2.1
theorem czaW_1 (N n : Nat) : CC (Y24 N) (bodyOf Try.f33) PzaW_1 (FzaW_1 N n) := CC.loop (coky24 N) (us := uzaW_2 N) (c := sub (bodyOf Try.f33) [1, 1, 0, 1, 0, 0, 1, 1, 0, 0, 1, 1, 0, 0]) (by kernel_rfl) (by kernel_rfl) (fun u h _ => okuzaW_2 N u h) (fun x => rfl) (fun n x => by kernel_rfl) n
def uzaW_1 (N : Nat) : List (Pc D) := PzaW_1.pc (Y24 N) (FzaW_1 N N) :: uzaW_2 N
theorem okuzaW_1 (N : Nat) : ∀ u ∈ uzaW_1 N, PcOk (Y24 N) (bodyOf Try.f33) u := pc_cons ((czaW_1 N N).pc (by kernel_rfl)) (okuzaW_2 N)
def PzaW_0 : PD D := { path := [1, 1, 0, 1, 0], ins := [.v 1 (.sl 39), .v 2 .bool, .o 7 (.ne 22 3), .v 17 (.sl 22), .v 18 (.int .i64), .v 19 (.int .i64)], fx := [(7, .c (.own 0))], ks := [2], exs := [⟨.exit 0, [.u 0 (.ne 22 3)], []⟩], keep := [7] }
def FzaW_0 (N n : Nat) : PzaW_0.F := fun x => zaW_0 N x.1 x.2.1 x.2.2.2.1 x.2.2.2.2.1 n x.2.2.1 x.2.2.2.2.2.1
theorem czaW_0 (N n : Nat) : CC (Y24 N) (bodyOf Try.f33) PzaW_0 (FzaW_0 N n) := CC.loop (coky24 N) (us := uzaW_1 N) (c := sub (bodyOf Try.f33) [1, 1, 0, 1, 0, 0]) (by kernel_rfl) (by kernel_rfl) (fun u h _ => okuzaW_1 N u h) (fun x => rfl) (fun n x => by kernel_rfl) n
def uzaW_0 (N : Nat) : List (Pc D) := PzaW_0.pc (Y24 N) (FzaW_0 N N) :: uzaW_1 N
theorem okuzaW_0 (N : Nat) : ∀ u ∈ uzaW_0 N, PcOk (Y24 N) (bodyOf Try.f33) u := pc_cons ((czaW_0 N N).pc (by kernel_rfl)) (okuzaW_1 N)
def dzaW : FD D := { f := 33, np := 3, ins := [.v 0 (.agg 28), .v 1 (.sl 39), .v 2 .bool], fx := [], rcv := none, rk := 0, outs := [.o 6 (.ne 22 3)], ofx := [(6, .c (.own 0))], rvs := [.tmp 6], flat := false }
def FzaW (N : Nat) : dzaW.F := fun r x => zaW N x.1 x.2.1 x.2.2.1
theorem ozaW (N : Nat) : FOk Try.prog (Y24 N) dzaW (FzaW N) := ⟨⟨Try.f33, _, Try.func33, rfl, by kernel_rfl, by kernel_rfl, rfl, FC.of (coky24 N) (us := uzaW_0 N) (fun u h _ => okuzaW_0 N u h) (fun r x => by kernel_rfl)⟩, by kernel_rfl, by kernel_rfl, by kernel_rfl, by kernel_rfl⟩
def fs25 (N : Nat) : List (FE D) := ⟨dzaW, FzaW N⟩ :: fs24 N
theorem all25 (N : Nat) : ∀ y ∈ fs25 N, CallOk X0 y.d y.F := all_call (x := ⟨dzaW, FzaW N⟩) ((ozaW N).call.cuts) (all24 N)
def X25 (N : Nat) : Ev Try.prog D := X0.with (fs25 N)
theorem cok25 (N : Nat) : COk (X25 N) := COk.of (all25 N)
def u0_zbB (N : Nat) : List (Pc D) := []
theorem oku0_zbB (N : Nat) : ∀ u ∈ u0_zbB N, PcOk (X25 N) (bodyOf Try.f16) u := pc_nil
def dzbB : FD D := { f := 16, np := 2, ins := [.v 0 (.agg 28), .v 1 (.sl 39)], fx := [], rcv := none, rk := 0, outs := [.v 4 (.sl 22), .v 5 (.int .i64)], ofx := [], rvs := [.tmp 4, .tmp 5], flat := false }
def FzbB (N : Nat) : dzbB.F := fun r x => zbB N x.1 x.2.1
theorem ozbB (N : Nat) : FOk Try.prog (X25 N) dzbB (FzbB N) := ⟨⟨Try.f16, _, Try.func16, rfl, by kernel_rfl, by kernel_rfl, rfl, FC.of (cok25 N) (us := u0_zbB N) (fun u h _ => oku0_zbB N u h) (fun r x => by kernel_rfl)⟩, by kernel_rfl, by kernel_rfl, by kernel_rfl, by kernel_rfl⟩
def fs26 (N : Nat) : List (FE D) := ⟨dzbB, FzbB N⟩ :: fs25 N
theorem all26 (N : Nat) : ∀ y ∈ fs26 N, CallOk X0 y.d y.F := all_cons (x := ⟨dzbB, FzbB N⟩) (ozbB N) (all25 N)
def X26 (N : Nat) : Ev Try.prog D := X0.with (fs26 N)
theorem cok26 (N : Nat) : COk (X26 N) := COk.of (all26 N)
def Y26 (N : Nat) : Ev Try.prog D := (X26 N).cuts fun x lo hi => match x, lo, hi with | .tmp 17, none, some (.tmp 19) => 1 | .tmp 22, none, some (.tmp 24) => 2 | _, _, _ => 0
theorem coky26 (N : Nat) : COk (Y26 N) := COk.cuts (cok26 N)
def u0_zaF (N : Nat) : List (Pc D) := []
theorem oku0_zaF (N : Nat) : ∀ u ∈ u0_zaF N, PcOk (Y26 N) (bodyOf Try.f69) u := pc_nil
def PzaF_0 : PD D := { path := [1, 0, 1], ins := [.v 6 .bool], fx := [], ks := [], exs := [⟨.normal, [], []⟩], keep := [0, 1] }
def FzaF_0 (N : Nat) : PzaF_0.F := fun x => zaF_0 N x.1
theorem czaF_0 (N : Nat) : CC (Y26 N) (bodyOf Try.f69) PzaF_0 (FzaF_0 N) := CC.of (coky26 N) (us := u0_zaF N) (fun u h _ => oku0_zaF N u h) (fun x => by kernel_rfl)
def uzaF_0 (N : Nat) : List (Pc D) := PzaF_0.pc (Y26 N) (FzaF_0 N) :: u0_zaF N
theorem okuzaF_0 (N : Nat) : ∀ u ∈ uzaF_0 N, PcOk (Y26 N) (bodyOf Try.f69) u := pc_cons ((czaF_0 N).pc (by kernel_rfl)) (oku0_zaF N)
def PzaF_1 : PD D := { path := [1, 1, 0, 1, 1], ins := [.v 1 (.int .i64), .v 16 .bool], fx := [(0, .c .nilS)], ks := [], exs := [⟨.normal, [.o 0 (.sl 3)], [(0, .c (.own 0))]⟩], keep := [] }
def FzaF_1 (N : Nat) : PzaF_1.F := fun x => zaF_1 N x.1 x.2.1
theorem czaF_1 (N : Nat) : CC (Y26 N) (bodyOf Try.f69) PzaF_1 (FzaF_1 N) := CC.of (coky26 N) (us := uzaF_0 N) (fun u h _ => okuzaF_0 N u h) (fun x => by kernel_rfl)
def uzaF_1 (N : Nat) : List (Pc D) := PzaF_1.pc (Y26 N) (FzaF_1 N) :: uzaF_0 N
theorem okuzaF_1 (N : Nat) : ∀ u ∈ uzaF_1 N, PcOk (Y26 N) (bodyOf Try.f69) u := pc_cons ((czaF_1 N).pc (by kernel_rfl)) (okuzaF_0 N)
def dzaF : FD D := { f := 69, np := 2, ins := [.v 1 (.int .i64)], fx := [(0, .c .nilS)], rcv := none, rk := 0, outs := [.o 4 (.sl 3)], ofx := [(4, .c (.own 0))], rvs := [.tmp 4], flat := false }
def FzaF (N : Nat) : dzaF.F := fun r x => zaF N x.1
theorem ozaF (N : Nat) : FOk Try.prog (Y26 N) dzaF (FzaF N) := ⟨⟨Try.f69, _, Try.func69, rfl, by kernel_rfl, by kernel_rfl, rfl, FC.of (coky26 N) (us := uzaF_1 N) (fun u h _ => okuzaF_1 N u h) (fun r x => by kernel_rfl)⟩, by kernel_rfl, by kernel_rfl, by kernel_rfl, by kernel_rfl⟩
def fs27 (N : Nat) : List (FE D) := ⟨dzaF, FzaF N⟩ :: fs26 N
theorem all27 (N : Nat) : ∀ y ∈ fs27 N, CallOk X0 y.d y.F := all_call (x := ⟨dzaF, FzaF N⟩) ((ozaF N).call.cuts) (all26 N)
def X27 (N : Nat) : Ev Try.prog D := X0.with (fs27 N)
theorem cok27 (N : Nat) : COk (X27 N) := COk.of (all27 N)
def u0_zaD (N : Nat) : List (Pc D) := []
theorem oku0_zaD (N : Nat) : ∀ u ∈ u0_zaD N, PcOk (X27 N) (bodyOf Try.f44) u := pc_nil
def PzaD_1 : PD D := { path := [1, 1, 0, 1, 0, 0, 1, 1, 0], ins := [.v 3 (.int .i64), .v 9 (.sl 22), .v 11 (.int .i64)], fx := [], ks := [], exs := [⟨.normal, [.v 3 (.int .i64)], []⟩], keep := [0, 9, 10, 11] }
def FzaD_1 (N : Nat) : PzaD_1.F := fun x => zaD_1 N x.1 x.2.1 x.2.2.1
theorem czaD_1 (N : Nat) : CC (X27 N) (bodyOf Try.f44) PzaD_1 (FzaD_1 N) := CC.of (cok27 N) (us := u0_zaD N) (fun u h _ => oku0_zaD N u h) (fun x => by kernel_rfl)
def uzaD_1 (N : Nat) : List (Pc D) := PzaD_1.pc (X27 N) (FzaD_1 N) :: u0_zaD N
theorem okuzaD_1 (N : Nat) : ∀ u ∈ uzaD_1 N, PcOk (X27 N) (bodyOf Try.f44) u := pc_cons ((czaD_1 N).pc (by kernel_rfl)) (oku0_zaD N)
def PzaD_0 : PD D := { path := [1, 1, 0, 1, 0], ins := [.v 3 (.int .i64), .v 9 (.sl 22), .v 10 (.int .i64), .v 11 (.int .i64)], fx := [], ks := [], exs := [⟨.exit 0, [.v 3 (.int .i64)], []⟩], keep := [0] }
def FzaD_0 (N n : Nat) : PzaD_0.F := fun x => zaD_0 N x.2.1 x.2.2.1 n x.1 x.2.2.2.1
theorem czaD_0 (N n : Nat) : CC (X27 N) (bodyOf Try.f44) PzaD_0 (FzaD_0 N n) := CC.loop (cok27 N) (us := uzaD_1 N) (c := sub (bodyOf Try.f44) [1, 1, 0, 1, 0, 0]) (by kernel_rfl) (by kernel_rfl) (fun u h _ => okuzaD_1 N u h) (fun x => rfl) (fun n x => by kernel_rfl) n
def uzaD_0 (N : Nat) : List (Pc D) := PzaD_0.pc (X27 N) (FzaD_0 N N) :: uzaD_1 N
theorem okuzaD_0 (N : Nat) : ∀ u ∈ uzaD_0 N, PcOk (X27 N) (bodyOf Try.f44) u := pc_cons ((czaD_0 N N).pc (by kernel_rfl)) (okuzaD_1 N)
def PzaD_2 : PD D := { path := [1, 1, 1, 1, 0, 1, 0], ins := [.o 6 (.sl 3), .v 25 (.sl 22), .v 26 (.int .i64), .v 27 (.int .i64)], fx := [(6, .c (.own 0))], ks := [0], exs := [⟨.exit 2, [.o 6 (.sl 3)], [(6, .c (.own 1))]⟩], keep := [] }
def FzaD_2 (N n : Nat) : PzaD_2.F := fun x => zaD_2 N x.2.1 x.2.2.1 n x.1 x.2.2.2.1
theorem czaD_2 (N n : Nat) : CC (X27 N) (bodyOf Try.f44) PzaD_2 (FzaD_2 N n) := CC.loop (cok27 N) (us := uzaD_0 N) (c := sub (bodyOf Try.f44) [1, 1, 1, 1, 0, 1, 0, 0]) (by kernel_rfl) (by kernel_rfl) (fun u h _ => okuzaD_0 N u h) (fun x => rfl) (fun n x => by kernel_rfl) n
def uzaD_2 (N : Nat) : List (Pc D) := PzaD_2.pc (X27 N) (FzaD_2 N N) :: uzaD_0 N
theorem okuzaD_2 (N : Nat) : ∀ u ∈ uzaD_2 N, PcOk (X27 N) (bodyOf Try.f44) u := pc_cons ((czaD_2 N N).pc (by kernel_rfl)) (okuzaD_0 N)
def dzaD : FD D := { f := 44, np := 1, ins := [.v 0 (.sl 22)], fx := [], rcv := none, rk := 0, outs := [.o 2 (.sl 3)], ofx := [(2, .c (.own 0))], rvs := [.tmp 2], flat := false }
def FzaD (N : Nat) : dzaD.F := fun r x => zaD N x.1
theorem ozaD (N : Nat) : FOk Try.prog (X27 N) dzaD (FzaD N) := ⟨⟨Try.f44, _, Try.func44, rfl, by kernel_rfl, by kernel_rfl, rfl, FC.of (cok27 N) (us := uzaD_2 N) (fun u h _ => okuzaD_2 N u h) (fun r x => by kernel_rfl)⟩, by kernel_rfl, by kernel_rfl, by kernel_rfl, by kernel_rfl⟩
def fs28 (N : Nat) : List (FE D) := ⟨dzaD, FzaD N⟩ :: fs27 N
theorem all28 (N : Nat) : ∀ y ∈ fs28 N, CallOk X0 y.d y.F := all_cons (x := ⟨dzaD, FzaD N⟩) (ozaD N) (all27 N)
def X28 (N : Nat) : Ev Try.prog D := X0.with (fs28 N)
theorem cok28 (N : Nat) : COk (X28 N) := COk.of (all28 N)
def u0_zbZ (N : Nat) : List (Pc D) := []
theorem oku0_zbZ (N : Nat) : ∀ u ∈ u0_zbZ N, PcOk (X28 N) (bodyOf Try.f70) u := pc_nil
def PzbZ_0 : PD D := { path := [1, 0], ins := [.v 0 (.int .i64), .v 1 (.int .i64), .v 2 (.int .i64)], fx := [], ks := [], exs := [⟨.normal, [.v 6 .bool], []⟩], keep := [] }
def FzbZ_0 (N : Nat) : PzbZ_0.F := fun x => zbZ_0 N x.1 x.2.1 x.2.2.1
theorem czbZ_0 (N : Nat) : CC (X28 N) (bodyOf Try.f70) PzbZ_0 (FzbZ_0 N) := CC.of (cok28 N) (us := u0_zbZ N) (fun u h _ => oku0_zbZ N u h) (fun x => by kernel_rfl)
def uzbZ_0 (N : Nat) : List (Pc D) := PzbZ_0.pc (X28 N) (FzbZ_0 N) :: u0_zbZ N
theorem okuzbZ_0 (N : Nat) : ∀ u ∈ uzbZ_0 N, PcOk (X28 N) (bodyOf Try.f70) u := pc_cons ((czbZ_0 N).pc (by kernel_rfl)) (oku0_zbZ N)
def dzbZ : FD D := { f := 70, np := 3, ins := [.v 0 (.int .i64), .v 1 (.int .i64), .v 2 (.int .i64)], fx := [], rcv := none, rk := 0, outs := [.v 6 .bool], ofx := [], rvs := [.tmp 6], flat := true }
def FzbZ (N : Nat) : dzbZ.F := fun r x => zbZ N x.1 x.2.1 x.2.2.1
theorem ozbZ (N : Nat) : FOk Try.prog (X28 N) dzbZ (FzbZ N) := ⟨⟨Try.f70, _, Try.func70, rfl, by kernel_rfl, by kernel_rfl, rfl, FC.of (cok28 N) (us := uzbZ_0 N) (fun u h _ => okuzbZ_0 N u h) (fun r x => by kernel_rfl)⟩, by kernel_rfl, by kernel_rfl, by kernel_rfl, by kernel_rfl⟩
def fs29 (N : Nat) : List (FE D) := ⟨dzbZ, FzbZ N⟩ :: fs28 N
theorem all29 (N : Nat) : ∀ y ∈ fs29 N, CallOk X0 y.d y.F := all_cons (x := ⟨dzbZ, FzbZ N⟩) (ozbZ N) (all28 N)
def X29 (N : Nat) : Ev Try.prog D := X0.with (fs29 N)
theorem cok29 (N : Nat) : COk (X29 N) := COk.of (all29 N)
def u0_zbM (N : Nat) : List (Pc D) := []
theorem oku0_zbM (N : Nat) : ∀ u ∈ u0_zbM N, PcOk (X29 N) (bodyOf Try.f45) u := pc_nil
def PzbM_1 : PD D := { path := [1, 1, 1, 0, 1, 0, 0, 1, 1, 0, 0, 1, 0, 0], ins := [.o 1 (.box 57), .o 4 (.box 44)], fx := [(1, .box 0 0), (4, .box 1 0)], ks := [1, 1], exs := [⟨.normal, [.v 42 .bool], []⟩], keep := [1, 3, 4, 14, 15, 16] }
def FzbM_1 (N : Nat) : PzbM_1.F := fun x => zbM_1 N x.2.1
theorem czbM_1 (N : Nat) : CC (X29 N) (bodyOf Try.f45) PzbM_1 (FzbM_1 N) := CC.of (cok29 N) (us := u0_zbM N) (fun u h _ => oku0_zbM N u h) (fun x => by kernel_rfl)
def uzbM_1 (N : Nat) : List (Pc D) := PzbM_1.pc (X29 N) (FzbM_1 N) :: u0_zbM N
theorem okuzbM_1 (N : Nat) : ∀ u ∈ uzbM_1 N, PcOk (X29 N) (bodyOf Try.f45) u := pc_cons ((czbM_1 N).pc (by kernel_rfl)) (oku0_zbM N)
def PzbM_2 : PD D := { path := [1, 1, 1, 0, 1, 0, 0, 1, 1, 0, 0, 1, 1, 0], ins := [.o 1 (.box 57), .v 3 (.int .i64), .o 4 (.box 44)], fx := [(1, .box 0 0), (4, .box 1 0)], ks := [1, 1], exs := [⟨.normal, [.v 56 .bool], []⟩], keep := [1, 14, 15, 16] }
def FzbM_2 (N : Nat) : PzbM_2.F := fun x => zbM_2 N x.1 x.2.1 x.2.2.1
theorem czbM_2 (N : Nat) : CC (X29 N) (bodyOf Try.f45) PzbM_2 (FzbM_2 N) := CC.of (cok29 N) (us := uzbM_1 N) (fun u h _ => okuzbM_1 N u h) (fun x => by kernel_rfl)
def uzbM_2 (N : Nat) : List (Pc D) := PzbM_2.pc (X29 N) (FzbM_2 N) :: uzbM_1 N
theorem okuzbM_2 (N : Nat) : ∀ u ∈ uzbM_2 N, PcOk (X29 N) (bodyOf Try.f45) u := pc_cons ((czbM_2 N).pc (by kernel_rfl)) (okuzbM_1 N)
def PzbM_0 : PD D := { path := [1, 1, 1, 0, 1, 0], ins := [.o 1 (.box 57), .v 14 (.sl 44), .v 15 (.int .i64), .v 16 (.int .i64)], fx := [(1, .box 0 0)], ks := [1], exs := [⟨.exit 0, [], []⟩, ⟨.ret, [.v 2 (.int .i64)], []⟩], keep := [] }
def FzbM_0 (N n : Nat) : PzbM_0.F := fun x => zbM_0 N x.1 x.2.1 x.2.2.1 n x.2.2.2.1
theorem czbM_0 (N n : Nat) : CC (X29 N) (bodyOf Try.f45) PzbM_0 (FzbM_0 N n) := CC.loop (cok29 N) (us := uzbM_2 N) (c := sub (bodyOf Try.f45) [1, 1, 1, 0, 1, 0, 0]) (by kernel_rfl) (by kernel_rfl) (fun u h _ => okuzbM_2 N u h) (fun x => rfl) (fun n x => by kernel_rfl) n
def uzbM_0 (N : Nat) : List (Pc D) := PzbM_0.pc (X29 N) (FzbM_0 N N) :: uzbM_2 N
theorem okuzbM_0 (N : Nat) : ∀ u ∈ uzbM_0 N, PcOk (X29 N) (bodyOf Try.f45) u := pc_cons ((czbM_0 N N).pc (by kernel_rfl)) (okuzbM_2 N)
def dzbM : FD D := { f := 45, np := 1, ins := [.v 0 (.agg 57)], fx := [], rcv := none, rk := 0, outs := [.v 2 (.int .i64)], ofx := [], rvs := [.tmp 2], flat := true }
def FzbM (N : Nat) : dzbM.F := fun r x => zbM N x.1
theorem ozbM (N : Nat) : FOk Try.prog (X29 N) dzbM (FzbM N) := ⟨⟨Try.f45, _, Try.func45, rfl, by kernel_rfl, by kernel_rfl, rfl, FC.of (cok29 N) (us := uzbM_0 N) (fun u h _ => okuzbM_0 N u h) (fun r x => by kernel_rfl)⟩, by kernel_rfl, by kernel_rfl, by kernel_rfl, by kernel_rfl⟩
def fs30 (N : Nat) : List (FE D) := ⟨dzbM, FzbM N⟩ :: fs29 N
theorem all30 (N : Nat) : ∀ y ∈ fs30 N, CallOk X0 y.d y.F := all_cons (x := ⟨dzbM, FzbM N⟩) (ozbM N) (all29 N)
def X30 (N : Nat) : Ev Try.prog D := X0.with (fs30 N)
theorem cok30 (N : Nat) : COk (X30 N) := COk.of (all30 N)
def u0_zbK (N : Nat) : List (Pc D) := []
theorem oku0_zbK (N : Nat) : ∀ u ∈ u0_zbK N, PcOk (X30 N) (bodyOf Try.f22) u := pc_nil
def PzbK_0 : PD D := { path := [1, 1, 0, 0, 1, 1, 0], ins := [.v 2 (.int .i64), .o 3 (.box 28), .o 6 (.box 57)], fx := [(3, .box 0 0), (6, .box 1 0)], ks := [1, 1], exs := [⟨.normal, [.v 27 .bool], []⟩], keep := [1, 2, 3, 6, 9] }
def FzbK_0 (N : Nat) : PzbK_0.F := fun x => zbK_0 N x.1
theorem czbK_0 (N : Nat) : CC (X30 N) (bodyOf Try.f22) PzbK_0 (FzbK_0 N) := CC.of (cok30 N) (us := u0_zbK N) (fun u h _ => oku0_zbK N u h) (fun x => by kernel_rfl)
def uzbK_0 (N : Nat) : List (Pc D) := PzbK_0.pc (X30 N) (FzbK_0 N) :: u0_zbK N
theorem okuzbK_0 (N : Nat) : ∀ u ∈ uzbK_0 N, PcOk (X30 N) (bodyOf Try.f22) u := pc_cons ((czbK_0 N).pc (by kernel_rfl)) (oku0_zbK N)
def PzbK_1 : PD D := { path := [1, 1, 1, 1, 1, 0, 1, 0], ins := [.o 3 (.box 28), .o 6 (.box 57), .o 11 (.sl 3), .o 12 (.bx 57 [(0, 4)]), .v 46 (.int .i64), .v 47 (.int .i64), .o 2012000 (.sl 44)], fx := [(3, .box 0 0), (6, .box 1 0), (11, .c (.own 2)), (12, .box 3 0), (45, .c (.own 2))], ks := [1, 1, 1, 2, 0], exs := [⟨.exit 1, [.u 3 (.bx 57 [(0, 5)]), .o 2012000 (.sl 44)], []⟩], keep := [6, 11, 12] }
def FzbK_1 (N n : Nat) : PzbK_1.F := fun x => zbK_1 N x.1 x.2.2.1 x.2.2.2.2.1 n x.2.2.2.1 x.2.2.2.2.2.1 x.2.2.2.2.2.2.1
theorem czbK_1 (N n : Nat) : CC (X30 N) (bodyOf Try.f22) PzbK_1 (FzbK_1 N n) := CC.loop (cok30 N) (us := uzbK_0 N) (c := sub (bodyOf Try.f22) [1, 1, 1, 1, 1, 0, 1, 0, 0]) (by kernel_rfl) (by kernel_rfl) (fun u h _ => okuzbK_0 N u h) (fun x => rfl) (fun n x => by kernel_rfl) n
def uzbK_1 (N : Nat) : List (Pc D) := PzbK_1.pc (X30 N) (FzbK_1 N N) :: uzbK_0 N
theorem okuzbK_1 (N : Nat) : ∀ u ∈ uzbK_1 N, PcOk (X30 N) (bodyOf Try.f22) u := pc_cons ((czbK_1 N N).pc (by kernel_rfl)) (okuzbK_0 N)
def dzbK : FD D := { f := 22, np := 3, ins := [.v 0 (.agg 28), .v 1 (.sl 39), .v 2 (.int .i64)], fx := [], rcv := none, rk := 0, outs := [.v 1000000 (.agg 57), .o 7 (.sl 3), .v 8 (.int .i64)], ofx := [(7, .c (.own 0))], rvs := [.cell 6 57, .tmp 7, .tmp 8], flat := false }
def FzbK (N : Nat) : dzbK.F := fun r x => zbK N x.1 x.2.1 x.2.2.1
theorem ozbK (N : Nat) : FOk Try.prog (X30 N) dzbK (FzbK N) := ⟨⟨Try.f22, _, Try.func22, rfl, by kernel_rfl, by kernel_rfl, rfl, FC.of (cok30 N) (us := uzbK_1 N) (fun u h _ => okuzbK_1 N u h) (fun r x => by kernel_rfl)⟩, by kernel_rfl, by kernel_rfl, by kernel_rfl, by kernel_rfl⟩
def fs31 (N : Nat) : List (FE D) := ⟨dzbK, FzbK N⟩ :: fs30 N
theorem all31 (N : Nat) : ∀ y ∈ fs31 N, CallOk X0 y.d y.F := all_cons (x := ⟨dzbK, FzbK N⟩) (ozbK N) (all30 N)
def X31 (N : Nat) : Ev Try.prog D := X0.with (fs31 N)
theorem cok31 (N : Nat) : COk (X31 N) := COk.of (all31 N)
def u0_zbN (N : Nat) : List (Pc D) := []
theorem oku0_zbN (N : Nat) : ∀ u ∈ u0_zbN N, PcOk (X31 N) (bodyOf Try.f46) u := pc_nil
def PzbN_0 : PD D := { path := [1, 1, 0, 0], ins := [.o 1 (.box 57)], fx := [(1, .box 0 0)], ks := [1], exs := [⟨.normal, [.v 16 .bool], []⟩], keep := [1] }
def FzbN_0 (N : Nat) : PzbN_0.F := fun x => zbN_0 N x.1
theorem czbN_0 (N : Nat) : CC (X31 N) (bodyOf Try.f46) PzbN_0 (FzbN_0 N) := CC.of (cok31 N) (us := u0_zbN N) (fun u h _ => oku0_zbN N u h) (fun x => by kernel_rfl)
def uzbN_0 (N : Nat) : List (Pc D) := PzbN_0.pc (X31 N) (FzbN_0 N) :: u0_zbN N
theorem okuzbN_0 (N : Nat) : ∀ u ∈ uzbN_0 N, PcOk (X31 N) (bodyOf Try.f46) u := pc_cons ((czbN_0 N).pc (by kernel_rfl)) (oku0_zbN N)
def PzbN_2 : PD D := { path := [1, 1, 1, 0, 1, 0, 0, 1, 0, 0, 1, 0, 0], ins := [.o 1 (.box 57), .o 4 (.box 44)], fx := [(1, .box 0 0), (4, .box 1 0)], ks := [1, 1], exs := [⟨.normal, [.v 66 .bool], []⟩], keep := [1, 3, 4] }
def FzbN_2 (N : Nat) : PzbN_2.F := fun x => zbN_2 N x.2.1
theorem czbN_2 (N : Nat) : CC (X31 N) (bodyOf Try.f46) PzbN_2 (FzbN_2 N) := CC.of (cok31 N) (us := uzbN_0 N) (fun u h _ => okuzbN_0 N u h) (fun x => by kernel_rfl)
def uzbN_2 (N : Nat) : List (Pc D) := PzbN_2.pc (X31 N) (FzbN_2 N) :: uzbN_0 N
theorem okuzbN_2 (N : Nat) : ∀ u ∈ uzbN_2 N, PcOk (X31 N) (bodyOf Try.f46) u := pc_cons ((czbN_2 N).pc (by kernel_rfl)) (okuzbN_0 N)
def PzbN_3 : PD D := { path := [1, 1, 1, 0, 1, 0, 0, 1, 0, 0, 1, 1, 0], ins := [.o 1 (.box 57), .v 3 (.int .i64), .o 4 (.box 44)], fx := [(1, .box 0 0), (4, .box 1 0)], ks := [1, 1], exs := [⟨.normal, [.v 80 .bool], []⟩], keep := [1, 3] }
def FzbN_3 (N : Nat) : PzbN_3.F := fun x => zbN_3 N x.1 x.2.1 x.2.2.1
theorem czbN_3 (N : Nat) : CC (X31 N) (bodyOf Try.f46) PzbN_3 (FzbN_3 N) := CC.of (cok31 N) (us := uzbN_2 N) (fun u h _ => okuzbN_2 N u h) (fun x => by kernel_rfl)
def uzbN_3 (N : Nat) : List (Pc D) := PzbN_3.pc (X31 N) (FzbN_3 N) :: uzbN_2 N
theorem okuzbN_3 (N : Nat) : ∀ u ∈ uzbN_3 N, PcOk (X31 N) (bodyOf Try.f46) u := pc_cons ((czbN_3 N).pc (by kernel_rfl)) (okuzbN_2 N)
def PzbN_1 : PD D := { path := [1, 1, 1, 0, 1, 0], ins := [.o 1 (.box 57), .v 3 (.int .i64)], fx := [(1, .box 0 0)], ks := [1], exs := [⟨.exit 0, [], []⟩, ⟨.ret, [.v 2 (.int .i64)], []⟩], keep := [] }
def FzbN_1 (N n : Nat) : PzbN_1.F := fun x => zbN_1 N x.1 n x.2.1
theorem czbN_1 (N n : Nat) : CC (X31 N) (bodyOf Try.f46) PzbN_1 (FzbN_1 N n) := CC.loop (cok31 N) (us := uzbN_3 N) (c := sub (bodyOf Try.f46) [1, 1, 1, 0, 1, 0, 0]) (by kernel_rfl) (by kernel_rfl) (fun u h _ => okuzbN_3 N u h) (fun x => rfl) (fun n x => by kernel_rfl) n
def uzbN_1 (N : Nat) : List (Pc D) := PzbN_1.pc (X31 N) (FzbN_1 N N) :: uzbN_3 N
theorem okuzbN_1 (N : Nat) : ∀ u ∈ uzbN_1 N, PcOk (X31 N) (bodyOf Try.f46) u := pc_cons ((czbN_1 N N).pc (by kernel_rfl)) (okuzbN_3 N)
def dzbN : FD D := { f := 46, np := 1, ins := [.v 0 (.agg 57)], fx := [], rcv := none, rk := 0, outs := [.v 2 (.int .i64)], ofx := [], rvs := [.tmp 2], flat := true }
def FzbN (N : Nat) : dzbN.F := fun r x => zbN N x.1
theorem ozbN (N : Nat) : FOk Try.prog (X31 N) dzbN (FzbN N) := ⟨⟨Try.f46, _, Try.func46, rfl, by kernel_rfl, by kernel_rfl, rfl, FC.of (cok31 N) (us := uzbN_1 N) (fun u h _ => okuzbN_1 N u h) (fun r x => by kernel_rfl)⟩, by kernel_rfl, by kernel_rfl, by kernel_rfl, by kernel_rfl⟩
def fs32 (N : Nat) : List (FE D) := ⟨dzbN, FzbN N⟩ :: fs31 N
theorem all32 (N : Nat) : ∀ y ∈ fs32 N, CallOk X0 y.d y.F := all_cons (x := ⟨dzbN, FzbN N⟩) (ozbN N) (all31 N)
def X32 (N : Nat) : Ev Try.prog D := X0.with (fs32 N)
theorem cok32 (N : Nat) : COk (X32 N) := COk.of (all32 N)
def u0_zbT (N : Nat) : List (Pc D) := []
theorem oku0_zbT (N : Nat) : ∀ u ∈ u0_zbT N, PcOk (X32 N) (bodyOf Try.f73) u := pc_nil
def PzbT_0 : PD D := { path := [1, 1, 0, 0, 0], ins := [.o 7 (.box 44), .o 8 (.box 44)], fx := [(7, .box 0 0), (8, .box 1 0)], ks := [1, 1], exs := [⟨.normal, [.v 19 .bool], []⟩], keep := [1, 2] }
def FzbT_0 (N : Nat) : PzbT_0.F := fun x => zbT_0 N x.1 x.2.1
theorem czbT_0 (N : Nat) : CC (X32 N) (bodyOf Try.f73) PzbT_0 (FzbT_0 N) := CC.of (cok32 N) (us := u0_zbT N) (fun u h _ => oku0_zbT N u h) (fun x => by kernel_rfl)
def uzbT_0 (N : Nat) : List (Pc D) := PzbT_0.pc (X32 N) (FzbT_0 N) :: u0_zbT N
theorem okuzbT_0 (N : Nat) : ∀ u ∈ uzbT_0 N, PcOk (X32 N) (bodyOf Try.f73) u := pc_cons ((czbT_0 N).pc (by kernel_rfl)) (oku0_zbT N)
def dzbT : FD D := { f := 73, np := 3, ins := [.v 0 (.agg 57), .v 1 (.int .i64), .v 2 (.int .i64)], fx := [], rcv := none, rk := 0, outs := [.v 6 (.int .i64)], ofx := [], rvs := [.tmp 6], flat := true }
def FzbT (N : Nat) : dzbT.F := fun r x => zbT N x.1 x.2.1 x.2.2.1
theorem ozbT (N : Nat) : FOk Try.prog (X32 N) dzbT (FzbT N) := ⟨⟨Try.f73, _, Try.func73, rfl, by kernel_rfl, by kernel_rfl, rfl, FC.of (cok32 N) (us := uzbT_0 N) (fun u h _ => okuzbT_0 N u h) (fun r x => by kernel_rfl)⟩, by kernel_rfl, by kernel_rfl, by kernel_rfl, by kernel_rfl⟩
def fs33 (N : Nat) : List (FE D) := ⟨dzbT, FzbT N⟩ :: fs32 N
theorem all33 (N : Nat) : ∀ y ∈ fs33 N, CallOk X0 y.d y.F := all_cons (x := ⟨dzbT, FzbT N⟩) (ozbT N) (all32 N)
def X33 (N : Nat) : Ev Try.prog D := X0.with (fs33 N)
theorem cok33 (N : Nat) : COk (X33 N) := COk.of (all33 N)
def u0_zbH (N : Nat) : List (Pc D) := []
theorem oku0_zbH (N : Nat) : ∀ u ∈ u0_zbH N, PcOk (X33 N) (bodyOf Try.f74) u := pc_nil
def dzbH : FD D := { f := 74, np := 3, ins := [.v 0 (.agg 57), .v 1 (.int .i64), .v 2 (.int .i64)], fx := [], rcv := none, rk := 0, outs := [.v 6 (.int .i64)], ofx := [], rvs := [.tmp 6], flat := true }
def FzbH (N : Nat) : dzbH.F := fun r x => zbH N x.1 x.2.1 x.2.2.1
theorem ozbH (N : Nat) : FOk Try.prog (X33 N) dzbH (FzbH N) := ⟨⟨Try.f74, _, Try.func74, rfl, by kernel_rfl, by kernel_rfl, rfl, FC.of (cok33 N) (us := u0_zbH N) (fun u h _ => oku0_zbH N u h) (fun r x => by kernel_rfl)⟩, by kernel_rfl, by kernel_rfl, by kernel_rfl, by kernel_rfl⟩
def fs34 (N : Nat) : List (FE D) := ⟨dzbH, FzbH N⟩ :: fs33 N
theorem all34 (N : Nat) : ∀ y ∈ fs34 N, CallOk X0 y.d y.F := all_cons (x := ⟨dzbH, FzbH N⟩) (ozbH N) (all33 N)
def X34 (N : Nat) : Ev Try.prog D := X0.with (fs34 N)
theorem cok34 (N : Nat) : COk (X34 N) := COk.of (all34 N)
def u0_zbS (N : Nat) : List (Pc D) := []
theorem oku0_zbS (N : Nat) : ∀ u ∈ u0_zbS N, PcOk (X34 N) (bodyOf Try.f48) u := pc_nil
def PzbS_1 : PD D := { path := [1, 1, 0, 1, 0, 0, 1, 0], ins := [.v 1 (.sl 3), .v 2 (.int .i64), .o 3 (.box 57), .v 7 (.int .i64), .v 8 (.int .i64)], fx := [(3, .box 0 0)], ks := [1], exs := [⟨.normal, [.v 7 (.int .i64)], []⟩], keep := [1, 2, 3, 8] }
def FzbS_1 (N : Nat) : PzbS_1.F := fun x => zbS_1 N x.1 x.2.1 x.2.2.1 x.2.2.2.1 x.2.2.2.2.1
theorem czbS_1 (N : Nat) : CC (X34 N) (bodyOf Try.f48) PzbS_1 (FzbS_1 N) := CC.of (cok34 N) (us := u0_zbS N) (fun u h _ => oku0_zbS N u h) (fun x => by kernel_rfl)
def uzbS_1 (N : Nat) : List (Pc D) := PzbS_1.pc (X34 N) (FzbS_1 N) :: u0_zbS N
theorem okuzbS_1 (N : Nat) : ∀ u ∈ uzbS_1 N, PcOk (X34 N) (bodyOf Try.f48) u := pc_cons ((czbS_1 N).pc (by kernel_rfl)) (oku0_zbS N)
def PzbS_0 : PD D := { path := [1, 1, 0, 1, 0], ins := [.v 1 (.sl 3), .v 2 (.int .i64), .o 3 (.box 57), .v 7 (.int .i64), .v 8 (.int .i64)], fx := [(3, .box 0 0)], ks := [1], exs := [⟨.exit 0, [.v 7 (.int .i64)], []⟩], keep := [] }
def FzbS_0 (N n : Nat) : PzbS_0.F := fun x => zbS_0 N x.1 x.2.1 x.2.2.1 n x.2.2.2.1 x.2.2.2.2.1
theorem czbS_0 (N n : Nat) : CC (X34 N) (bodyOf Try.f48) PzbS_0 (FzbS_0 N n) := CC.loop (cok34 N) (us := uzbS_1 N) (c := sub (bodyOf Try.f48) [1, 1, 0, 1, 0, 0]) (by kernel_rfl) (by kernel_rfl) (fun u h _ => okuzbS_1 N u h) (fun x => rfl) (fun n x => by kernel_rfl) n
def uzbS_0 (N : Nat) : List (Pc D) := PzbS_0.pc (X34 N) (FzbS_0 N N) :: uzbS_1 N
theorem okuzbS_0 (N : Nat) : ∀ u ∈ uzbS_0 N, PcOk (X34 N) (bodyOf Try.f48) u := pc_cons ((czbS_0 N N).pc (by kernel_rfl)) (okuzbS_1 N)
def dzbS : FD D := { f := 48, np := 3, ins := [.v 0 (.agg 57), .v 1 (.sl 3), .v 2 (.int .i64)], fx := [], rcv := none, rk := 0, outs := [.v 6 (.int .i64)], ofx := [], rvs := [.tmp 6], flat := true }
def FzbS (N : Nat) : dzbS.F := fun r x => zbS N x.1 x.2.1 x.2.2.1
theorem ozbS (N : Nat) : FOk Try.prog (X34 N) dzbS (FzbS N) := ⟨⟨Try.f48, _, Try.func48, rfl, by kernel_rfl, by kernel_rfl, rfl, FC.of (cok34 N) (us := uzbS_0 N) (fun u h _ => okuzbS_0 N u h) (fun r x => by kernel_rfl)⟩, by kernel_rfl, by kernel_rfl, by kernel_rfl, by kernel_rfl⟩
def fs35 (N : Nat) : List (FE D) := ⟨dzbS, FzbS N⟩ :: fs34 N
theorem all35 (N : Nat) : ∀ y ∈ fs35 N, CallOk X0 y.d y.F := all_cons (x := ⟨dzbS, FzbS N⟩) (ozbS N) (all34 N)
def X35 (N : Nat) : Ev Try.prog D := X0.with (fs35 N)
theorem cok35 (N : Nat) : COk (X35 N) := COk.of (all35 N)
def u0_zbW (N : Nat) : List (Pc D) := []
theorem oku0_zbW (N : Nat) : ∀ u ∈ u0_zbW N, PcOk (X35 N) (bodyOf Try.f71) u := pc_nil
def PzbW_0 : PD D := { path := [1, 0], ins := [.v 0 (.int .i64), .v 1 (.int .i64)], fx := [], ks := [], exs := [⟨.normal, [.v 4 .bool], []⟩], keep := [] }
def FzbW_0 (N : Nat) : PzbW_0.F := fun x => zbW_0 N x.1 x.2.1
theorem czbW_0 (N : Nat) : CC (X35 N) (bodyOf Try.f71) PzbW_0 (FzbW_0 N) := CC.of (cok35 N) (us := u0_zbW N) (fun u h _ => oku0_zbW N u h) (fun x => by kernel_rfl)
def uzbW_0 (N : Nat) : List (Pc D) := PzbW_0.pc (X35 N) (FzbW_0 N) :: u0_zbW N
theorem okuzbW_0 (N : Nat) : ∀ u ∈ uzbW_0 N, PcOk (X35 N) (bodyOf Try.f71) u := pc_cons ((czbW_0 N).pc (by kernel_rfl)) (oku0_zbW N)
def dzbW : FD D := { f := 71, np := 2, ins := [.v 0 (.int .i64), .v 1 (.int .i64)], fx := [], rcv := none, rk := 0, outs := [.v 4 .bool], ofx := [], rvs := [.tmp 4], flat := true }
def FzbW (N : Nat) : dzbW.F := fun r x => zbW N x.1 x.2.1
theorem ozbW (N : Nat) : FOk Try.prog (X35 N) dzbW (FzbW N) := ⟨⟨Try.f71, _, Try.func71, rfl, by kernel_rfl, by kernel_rfl, rfl, FC.of (cok35 N) (us := uzbW_0 N) (fun u h _ => okuzbW_0 N u h) (fun r x => by kernel_rfl)⟩, by kernel_rfl, by kernel_rfl, by kernel_rfl, by kernel_rfl⟩
def fs36 (N : Nat) : List (FE D) := ⟨dzbW, FzbW N⟩ :: fs35 N
theorem all36 (N : Nat) : ∀ y ∈ fs36 N, CallOk X0 y.d y.F := all_cons (x := ⟨dzbW, FzbW N⟩) (ozbW N) (all35 N)
def X36 (N : Nat) : Ev Try.prog D := X0.with (fs36 N)
theorem cok36 (N : Nat) : COk (X36 N) := COk.of (all36 N)
def u0_zcA (N : Nat) : List (Pc D) := []
theorem oku0_zcA (N : Nat) : ∀ u ∈ u0_zcA N, PcOk (X36 N) (bodyOf Try.f72) u := pc_nil
def PzcA_0 : PD D := { path := [1, 0, 0], ins := [.v 0 (.int .i64), .v 1 (.int .i64), .v 2 (.int .i64)], fx := [], ks := [], exs := [⟨.normal, [.v 30 .bool], []⟩], keep := [0, 1, 2] }
def FzcA_0 (N : Nat) : PzcA_0.F := fun x => zcA_0 N x.1 x.2.1 x.2.2.1
theorem czcA_0 (N : Nat) : CC (X36 N) (bodyOf Try.f72) PzcA_0 (FzcA_0 N) := CC.of (cok36 N) (us := u0_zcA N) (fun u h _ => oku0_zcA N u h) (fun x => by kernel_rfl)
def uzcA_0 (N : Nat) : List (Pc D) := PzcA_0.pc (X36 N) (FzcA_0 N) :: u0_zcA N
theorem okuzcA_0 (N : Nat) : ∀ u ∈ uzcA_0 N, PcOk (X36 N) (bodyOf Try.f72) u := pc_cons ((czcA_0 N).pc (by kernel_rfl)) (oku0_zcA N)
def PzcA_1 : PD D := { path := [1, 1, 1, 0, 1, 0], ins := [.v 7 (.int .i64), .v 8 (.int .i64)], fx := [], ks := [], exs := [⟨.exit 0, [.v 7 (.int .i64)], []⟩], keep := [2] }
def FzcA_1 (N n : Nat) : PzcA_1.F := fun x => zcA_1 N n x.1 x.2.1
theorem czcA_1 (N n : Nat) : CC (X36 N) (bodyOf Try.f72) PzcA_1 (FzcA_1 N n) := CC.loop (cok36 N) (us := uzcA_0 N) (c := sub (bodyOf Try.f72) [1, 1, 1, 0, 1, 0, 0]) (by kernel_rfl) (by kernel_rfl) (fun u h _ => okuzcA_0 N u h) (fun x => rfl) (fun n x => by kernel_rfl) n
def uzcA_1 (N : Nat) : List (Pc D) := PzcA_1.pc (X36 N) (FzcA_1 N N) :: uzcA_0 N
theorem okuzcA_1 (N : Nat) : ∀ u ∈ uzcA_1 N, PcOk (X36 N) (bodyOf Try.f72) u := pc_cons ((czcA_1 N N).pc (by kernel_rfl)) (okuzcA_0 N)
def dzcA : FD D := { f := 72, np := 3, ins := [.v 0 (.int .i64), .v 1 (.int .i64), .v 2 (.int .i64)], fx := [], rcv := none, rk := 0, outs := [.v 6 .bool], ofx := [], rvs := [.tmp 6], flat := true }
def FzcA (N : Nat) : dzcA.F := fun r x => zcA N x.1 x.2.1 x.2.2.1
theorem ozcA (N : Nat) : FOk Try.prog (X36 N) dzcA (FzcA N) := ⟨⟨Try.f72, _, Try.func72, rfl, by kernel_rfl, by kernel_rfl, rfl, FC.of (cok36 N) (us := uzcA_1 N) (fun u h _ => okuzcA_1 N u h) (fun r x => by kernel_rfl)⟩, by kernel_rfl, by kernel_rfl, by kernel_rfl, by kernel_rfl⟩
def fs37 (N : Nat) : List (FE D) := ⟨dzcA, FzcA N⟩ :: fs36 N
theorem all37 (N : Nat) : ∀ y ∈ fs37 N, CallOk X0 y.d y.F := all_cons (x := ⟨dzcA, FzcA N⟩) (ozcA N) (all36 N)
def X37 (N : Nat) : Ev Try.prog D := X0.with (fs37 N)
theorem cok37 (N : Nat) : COk (X37 N) := COk.of (all37 N)
def u0_zbV (N : Nat) : List (Pc D) := []
theorem oku0_zbV (N : Nat) : ∀ u ∈ u0_zbV N, PcOk (X37 N) (bodyOf Try.f47) u := pc_nil
def PzbV_0 : PD D := { path := [1, 0, 0], ins := [.v 0 (.int .i64), .v 1 (.int .i64), .v 2 (.int .i64)], fx := [], ks := [], exs := [⟨.normal, [.v 16 .bool], []⟩], keep := [0, 1, 2] }
def FzbV_0 (N : Nat) : PzbV_0.F := fun x => zbV_0 N x.1 x.2.1 x.2.2.1
theorem czbV_0 (N : Nat) : CC (X37 N) (bodyOf Try.f47) PzbV_0 (FzbV_0 N) := CC.of (cok37 N) (us := u0_zbV N) (fun u h _ => oku0_zbV N u h) (fun x => by kernel_rfl)
def uzbV_0 (N : Nat) : List (Pc D) := PzbV_0.pc (X37 N) (FzbV_0 N) :: u0_zbV N
theorem okuzbV_0 (N : Nat) : ∀ u ∈ uzbV_0 N, PcOk (X37 N) (bodyOf Try.f47) u := pc_cons ((czbV_0 N).pc (by kernel_rfl)) (oku0_zbV N)
def PzbV_1 : PD D := { path := [1, 1, 0, 1, 0], ins := [.v 1 (.int .i64), .v 2 (.int .i64), .v 8 (.int .i64)], fx := [], ks := [], exs := [⟨.exit 0, [], []⟩, ⟨.ret, [.v 6 (.int .i64), .v 7 (.int .i64)], []⟩], keep := [] }
def FzbV_1 (N n : Nat) : PzbV_1.F := fun x => zbV_1 N x.1 x.2.1 n x.2.2.1
theorem czbV_1 (N n : Nat) : CC (X37 N) (bodyOf Try.f47) PzbV_1 (FzbV_1 N n) := CC.loop (cok37 N) (us := uzbV_0 N) (c := sub (bodyOf Try.f47) [1, 1, 0, 1, 0, 0]) (by kernel_rfl) (by kernel_rfl) (fun u h _ => okuzbV_0 N u h) (fun x => rfl) (fun n x => by kernel_rfl) n
def uzbV_1 (N : Nat) : List (Pc D) := PzbV_1.pc (X37 N) (FzbV_1 N N) :: uzbV_0 N
theorem okuzbV_1 (N : Nat) : ∀ u ∈ uzbV_1 N, PcOk (X37 N) (bodyOf Try.f47) u := pc_cons ((czbV_1 N N).pc (by kernel_rfl)) (okuzbV_0 N)
def dzbV : FD D := { f := 47, np := 3, ins := [.v 0 (.int .i64), .v 1 (.int .i64), .v 2 (.int .i64)], fx := [], rcv := none, rk := 0, outs := [.v 6 (.int .i64), .v 7 (.int .i64)], ofx := [], rvs := [.tmp 6, .tmp 7], flat := true }
def FzbV (N : Nat) : dzbV.F := fun r x => zbV N x.1 x.2.1 x.2.2.1
theorem ozbV (N : Nat) : FOk Try.prog (X37 N) dzbV (FzbV N) := ⟨⟨Try.f47, _, Try.func47, rfl, by kernel_rfl, by kernel_rfl, rfl, FC.of (cok37 N) (us := uzbV_1 N) (fun u h _ => okuzbV_1 N u h) (fun r x => by kernel_rfl)⟩, by kernel_rfl, by kernel_rfl, by kernel_rfl, by kernel_rfl⟩
def fs38 (N : Nat) : List (FE D) := ⟨dzbV, FzbV N⟩ :: fs37 N
theorem all38 (N : Nat) : ∀ y ∈ fs38 N, CallOk X0 y.d y.F := all_cons (x := ⟨dzbV, FzbV N⟩) (ozbV N) (all37 N)
def X38 (N : Nat) : Ev Try.prog D := X0.with (fs38 N)
theorem cok38 (N : Nat) : COk (X38 N) := COk.of (all38 N)
def u0_zbU (N : Nat) : List (Pc D) := []
theorem oku0_zbU (N : Nat) : ∀ u ∈ u0_zbU N, PcOk (X38 N) (bodyOf Try.f49) u := pc_nil
def PzbU_0 : PD D := { path := [1, 1, 0, 0], ins := [.v 0 (.int .i64), .v 3 (.int .i64)], fx := [], ks := [], exs := [⟨.exit 0, [.v 3 (.int .i64)], []⟩], keep := [] }
def FzbU_0 (N n : Nat) : PzbU_0.F := fun x => zbU_0 N n x.1 x.2.1
theorem czbU_0 (N n : Nat) : CC (X38 N) (bodyOf Try.f49) PzbU_0 (FzbU_0 N n) := CC.loop (cok38 N) (us := u0_zbU N) (c := sub (bodyOf Try.f49) [1, 1, 0, 0, 0]) (by kernel_rfl) (by kernel_rfl) (fun u h _ => oku0_zbU N u h) (fun x => rfl) (fun n x => by kernel_rfl) n
def uzbU_0 (N : Nat) : List (Pc D) := PzbU_0.pc (X38 N) (FzbU_0 N N) :: u0_zbU N
theorem okuzbU_0 (N : Nat) : ∀ u ∈ uzbU_0 N, PcOk (X38 N) (bodyOf Try.f49) u := pc_cons ((czbU_0 N N).pc (by kernel_rfl)) (oku0_zbU N)
def dzbU : FD D := { f := 49, np := 1, ins := [.v 0 (.int .i64)], fx := [], rcv := none, rk := 0, outs := [.v 2 (.int .i64)], ofx := [], rvs := [.tmp 2], flat := true }
def FzbU (N : Nat) : dzbU.F := fun r x => zbU N x.1
theorem ozbU (N : Nat) : FOk Try.prog (X38 N) dzbU (FzbU N) := ⟨⟨Try.f49, _, Try.func49, rfl, by kernel_rfl, by kernel_rfl, rfl, FC.of (cok38 N) (us := uzbU_0 N) (fun u h _ => okuzbU_0 N u h) (fun r x => by kernel_rfl)⟩, by kernel_rfl, by kernel_rfl, by kernel_rfl, by kernel_rfl⟩
def fs39 (N : Nat) : List (FE D) := ⟨dzbU, FzbU N⟩ :: fs38 N
theorem all39 (N : Nat) : ∀ y ∈ fs39 N, CallOk X0 y.d y.F := all_cons (x := ⟨dzbU, FzbU N⟩) (ozbU N) (all38 N)
def X39 (N : Nat) : Ev Try.prog D := X0.with (fs39 N)
theorem cok39 (N : Nat) : COk (X39 N) := COk.of (all39 N)
def u0_zbO (N : Nat) : List (Pc D) := []
theorem oku0_zbO (N : Nat) : ∀ u ∈ u0_zbO N, PcOk (X39 N) (bodyOf Try.f23) u := pc_nil
def PzbO_2 : PD D := { path := [1, 1, 1, 1, 0, 1, 0, 0, 1, 0, 0, 1, 0, 0, 1, 0], ins := [.o 1 (.box 57), .o 2 (.box 61), .o 5 (.sl 3), .v 6 (.int .i64), .v 7 (.int .i64), .v 8 (.int .i64)], fx := [(1, .box 0 0), (2, .box 1 0), (5, .c (.own 2))], ks := [1, 2, 2], exs := [⟨.normal, [.u 1 (.box 61), .u 2 (.sl 3), .v 6 (.int .i64)], []⟩, ⟨.ret, [.u 1 (.box 61), .v 3 (.int .i64)], []⟩], keep := [1, 2, 5, 7, 8] }
def FzbO_2 (N : Nat) : PzbO_2.F := fun x => zbO_2 N x.1 x.2.1 x.2.2.1 x.2.2.2.1 x.2.2.2.2.1 x.2.2.2.2.2.1
theorem czbO_2 (N : Nat) : CC (X39 N) (bodyOf Try.f23) PzbO_2 (FzbO_2 N) := CC.of (cok39 N) (us := u0_zbO N) (fun u h _ => oku0_zbO N u h) (fun x => by kernel_rfl)
def uzbO_2 (N : Nat) : List (Pc D) := PzbO_2.pc (X39 N) (FzbO_2 N) :: u0_zbO N
theorem okuzbO_2 (N : Nat) : ∀ u ∈ uzbO_2 N, PcOk (X39 N) (bodyOf Try.f23) u := pc_cons ((czbO_2 N).pc (by kernel_rfl)) (oku0_zbO N)
def PzbO_1 : PD D := { path := [1, 1, 1, 1, 0, 1, 0, 0, 1, 0, 0, 1, 0], ins := [.o 1 (.box 57), .o 2 (.box 61), .o 5 (.sl 3), .v 6 (.int .i64), .v 7 (.int .i64), .v 8 (.int .i64)], fx := [(1, .box 0 0), (2, .box 1 0), (5, .c (.own 2))], ks := [1, 2, 0], exs := [⟨.exit 2, [.u 1 (.box 61), .o 5 (.sl 3), .v 6 (.int .i64)], [(5, .c (.own 3))]⟩, ⟨.ret, [.u 1 (.box 61), .v 3 (.int .i64)], []⟩], keep := [1, 2, 5, 7] }
def FzbO_1 (N n : Nat) : PzbO_1.F := fun x => zbO_1 N x.1 x.2.2.2.2.1 n x.2.1 x.2.2.1 x.2.2.2.1 x.2.2.2.2.2.1
theorem czbO_1 (N n : Nat) : CC (X39 N) (bodyOf Try.f23) PzbO_1 (FzbO_1 N n) := CC.loop (cok39 N) (us := uzbO_2 N) (c := sub (bodyOf Try.f23) [1, 1, 1, 1, 0, 1, 0, 0, 1, 0, 0, 1, 0, 0]) (by kernel_rfl) (by kernel_rfl) (fun u h _ => okuzbO_2 N u h) (fun x => rfl) (fun n x => by kernel_rfl) n
def uzbO_1 (N : Nat) : List (Pc D) := PzbO_1.pc (X39 N) (FzbO_1 N N) :: uzbO_2 N
theorem okuzbO_1 (N : Nat) : ∀ u ∈ uzbO_1 N, PcOk (X39 N) (bodyOf Try.f23) u := pc_cons ((czbO_1 N N).pc (by kernel_rfl)) (okuzbO_2 N)
def PzbO_0 : PD D := { path := [1, 1, 1, 1, 0, 1, 0], ins := [.o 1 (.box 57), .o 2 (.box 61), .o 5 (.sl 3), .v 6 (.int .i64), .v 7 (.int .i64)], fx := [(1, .box 0 0), (2, .box 1 0), (5, .c (.own 2))], ks := [1, 2, 0], exs := [⟨.exit 0, [.u 1 (.box 61), .o 5 (.sl 3), .v 6 (.int .i64)], [(5, .c (.own 3))]⟩, ⟨.ret, [.u 1 (.box 61), .v 3 (.int .i64)], []⟩], keep := [2, 5] }
def FzbO_0 (N n : Nat) : PzbO_0.F := fun x => zbO_0 N x.1 n x.2.1 x.2.2.1 x.2.2.2.1 x.2.2.2.2.1
theorem czbO_0 (N n : Nat) : CC (X39 N) (bodyOf Try.f23) PzbO_0 (FzbO_0 N n) := CC.loop (cok39 N) (us := uzbO_1 N) (c := sub (bodyOf Try.f23) [1, 1, 1, 1, 0, 1, 0, 0]) (by kernel_rfl) (by kernel_rfl) (fun u h _ => okuzbO_1 N u h) (fun x => rfl) (fun n x => by kernel_rfl) n
def uzbO_0 (N : Nat) : List (Pc D) := PzbO_0.pc (X39 N) (FzbO_0 N N) :: uzbO_1 N
theorem okuzbO_0 (N : Nat) : ∀ u ∈ uzbO_0 N, PcOk (X39 N) (bodyOf Try.f23) u := pc_cons ((czbO_0 N N).pc (by kernel_rfl)) (okuzbO_1 N)
def dzbO : FD D := { f := 23, np := 1, ins := [.v 0 (.agg 57)], fx := [], rcv := none, rk := 0, outs := [.v 1000000 (.agg 61), .v 3 (.int .i64)], ofx := [], rvs := [.cell 2 61, .tmp 3], flat := false }
def FzbO (N : Nat) : dzbO.F := fun r x => zbO N x.1
theorem ozbO (N : Nat) : FOk Try.prog (X39 N) dzbO (FzbO N) := ⟨⟨Try.f23, _, Try.func23, rfl, by kernel_rfl, by kernel_rfl, rfl, FC.of (cok39 N) (us := uzbO_0 N) (fun u h _ => okuzbO_0 N u h) (fun r x => by kernel_rfl)⟩, by kernel_rfl, by kernel_rfl, by kernel_rfl, by kernel_rfl⟩
def fs40 (N : Nat) : List (FE D) := ⟨dzbO, FzbO N⟩ :: fs39 N
theorem all40 (N : Nat) : ∀ y ∈ fs40 N, CallOk X0 y.d y.F := all_cons (x := ⟨dzbO, FzbO N⟩) (ozbO N) (all39 N)
def X40 (N : Nat) : Ev Try.prog D := X0.with (fs40 N)
theorem cok40 (N : Nat) : COk (X40 N) := COk.of (all40 N)
def u0_zbP (N : Nat) : List (Pc D) := []
theorem oku0_zbP (N : Nat) : ∀ u ∈ u0_zbP N, PcOk (X40 N) (bodyOf Try.f50) u := pc_nil
def PzbP_0 : PD D := { path := [1, 1, 0, 0], ins := [.o 2 (.box 57), .o 3 (.box 61)], fx := [(2, .box 0 0), (3, .box 1 0)], ks := [1, 1], exs := [⟨.normal, [.v 28 .bool], []⟩], keep := [2, 3] }
def FzbP_0 (N : Nat) : PzbP_0.F := fun x => zbP_0 N x.1 x.2.1
theorem czbP_0 (N : Nat) : CC (X40 N) (bodyOf Try.f50) PzbP_0 (FzbP_0 N) := CC.of (cok40 N) (us := u0_zbP N) (fun u h _ => oku0_zbP N u h) (fun x => by kernel_rfl)
def uzbP_0 (N : Nat) : List (Pc D) := PzbP_0.pc (X40 N) (FzbP_0 N) :: u0_zbP N
theorem okuzbP_0 (N : Nat) : ∀ u ∈ uzbP_0 N, PcOk (X40 N) (bodyOf Try.f50) u := pc_cons ((czbP_0 N).pc (by kernel_rfl)) (oku0_zbP N)
def PzbP_2 : PD D := { path := [1, 1, 1, 0, 1, 0, 0, 1, 0, 0, 0], ins := [.o 2 (.box 57), .o 3 (.box 61), .v 6 (.int .i64)], fx := [(2, .box 0 0), (3, .box 1 0)], ks := [1, 1], exs := [⟨.normal, [.v 61 .bool], []⟩], keep := [2, 3, 6] }
def FzbP_2 (N : Nat) : PzbP_2.F := fun x => zbP_2 N x.1 x.2.1 x.2.2.1
theorem czbP_2 (N : Nat) : CC (X40 N) (bodyOf Try.f50) PzbP_2 (FzbP_2 N) := CC.of (cok40 N) (us := uzbP_0 N) (fun u h _ => okuzbP_0 N u h) (fun x => by kernel_rfl)
def uzbP_2 (N : Nat) : List (Pc D) := PzbP_2.pc (X40 N) (FzbP_2 N) :: uzbP_0 N
theorem okuzbP_2 (N : Nat) : ∀ u ∈ uzbP_2 N, PcOk (X40 N) (bodyOf Try.f50) u := pc_cons ((czbP_2 N).pc (by kernel_rfl)) (okuzbP_0 N)
def PzbP_1 : PD D := { path := [1, 1, 1, 0, 1, 0], ins := [.o 2 (.box 57), .o 3 (.box 61), .v 6 (.int .i64)], fx := [(2, .box 0 0), (3, .box 1 0)], ks := [1, 1], exs := [⟨.exit 0, [], []⟩, ⟨.ret, [.v 4 (.int .i64)], []⟩], keep := [] }
def FzbP_1 (N n : Nat) : PzbP_1.F := fun x => zbP_1 N x.1 x.2.1 n x.2.2.1
theorem czbP_1 (N n : Nat) : CC (X40 N) (bodyOf Try.f50) PzbP_1 (FzbP_1 N n) := CC.loop (cok40 N) (us := uzbP_2 N) (c := sub (bodyOf Try.f50) [1, 1, 1, 0, 1, 0, 0]) (by kernel_rfl) (by kernel_rfl) (fun u h _ => okuzbP_2 N u h) (fun x => rfl) (fun n x => by kernel_rfl) n
def uzbP_1 (N : Nat) : List (Pc D) := PzbP_1.pc (X40 N) (FzbP_1 N N) :: uzbP_2 N
theorem okuzbP_1 (N : Nat) : ∀ u ∈ uzbP_1 N, PcOk (X40 N) (bodyOf Try.f50) u := pc_cons ((czbP_1 N N).pc (by kernel_rfl)) (okuzbP_2 N)
def dzbP : FD D := { f := 50, np := 2, ins := [.v 0 (.agg 57), .v 1 (.agg 61)], fx := [], rcv := none, rk := 0, outs := [.v 4 (.int .i64)], ofx := [], rvs := [.tmp 4], flat := true }
def FzbP (N : Nat) : dzbP.F := fun r x => zbP N x.1 x.2.1
theorem ozbP (N : Nat) : FOk Try.prog (X40 N) dzbP (FzbP N) := ⟨⟨Try.f50, _, Try.func50, rfl, by kernel_rfl, by kernel_rfl, rfl, FC.of (cok40 N) (us := uzbP_1 N) (fun u h _ => okuzbP_1 N u h) (fun r x => by kernel_rfl)⟩, by kernel_rfl, by kernel_rfl, by kernel_rfl, by kernel_rfl⟩
def fs41 (N : Nat) : List (FE D) := ⟨dzbP, FzbP N⟩ :: fs40 N
theorem all41 (N : Nat) : ∀ y ∈ fs41 N, CallOk X0 y.d y.F := all_cons (x := ⟨dzbP, FzbP N⟩) (ozbP N) (all40 N)
def X41 (N : Nat) : Ev Try.prog D := X0.with (fs41 N)
theorem cok41 (N : Nat) : COk (X41 N) := COk.of (all41 N)
def u0_zbI (N : Nat) : List (Pc D) := []
theorem oku0_zbI (N : Nat) : ∀ u ∈ u0_zbI N, PcOk (X41 N) (bodyOf Try.f75) u := pc_nil
def PzbI_0 : PD D := { path := [1, 1, 0, 1, 0], ins := [.o 1 (.box 57), .v 3 (.int .i64), .v 4 (.int .i64)], fx := [(1, .box 0 0)], ks := [1], exs := [⟨.exit 0, [.v 3 (.int .i64)], []⟩], keep := [] }
def FzbI_0 (N n : Nat) : PzbI_0.F := fun x => zbI_0 N x.1 n x.2.1 x.2.2.1
theorem czbI_0 (N n : Nat) : CC (X41 N) (bodyOf Try.f75) PzbI_0 (FzbI_0 N n) := CC.loop (cok41 N) (us := u0_zbI N) (c := sub (bodyOf Try.f75) [1, 1, 0, 1, 0, 0]) (by kernel_rfl) (by kernel_rfl) (fun u h _ => oku0_zbI N u h) (fun x => rfl) (fun n x => by kernel_rfl) n
def uzbI_0 (N : Nat) : List (Pc D) := PzbI_0.pc (X41 N) (FzbI_0 N N) :: u0_zbI N
theorem okuzbI_0 (N : Nat) : ∀ u ∈ uzbI_0 N, PcOk (X41 N) (bodyOf Try.f75) u := pc_cons ((czbI_0 N N).pc (by kernel_rfl)) (oku0_zbI N)
def dzbI : FD D := { f := 75, np := 1, ins := [.v 0 (.agg 57)], fx := [], rcv := none, rk := 0, outs := [.v 2 (.int .i64)], ofx := [], rvs := [.tmp 2], flat := true }
def FzbI (N : Nat) : dzbI.F := fun r x => zbI N x.1
theorem ozbI (N : Nat) : FOk Try.prog (X41 N) dzbI (FzbI N) := ⟨⟨Try.f75, _, Try.func75, rfl, by kernel_rfl, by kernel_rfl, rfl, FC.of (cok41 N) (us := uzbI_0 N) (fun u h _ => okuzbI_0 N u h) (fun r x => by kernel_rfl)⟩, by kernel_rfl, by kernel_rfl, by kernel_rfl, by kernel_rfl⟩
def fs42 (N : Nat) : List (FE D) := ⟨dzbI, FzbI N⟩ :: fs41 N
theorem all42 (N : Nat) : ∀ y ∈ fs42 N, CallOk X0 y.d y.F := all_cons (x := ⟨dzbI, FzbI N⟩) (ozbI N) (all41 N)
def X42 (N : Nat) : Ev Try.prog D := X0.with (fs42 N)
theorem cok42 (N : Nat) : COk (X42 N) := COk.of (all42 N)
def u0_zbA (N : Nat) : List (Pc D) := []
theorem oku0_zbA (N : Nat) : ∀ u ∈ u0_zbA N, PcOk (X42 N) (bodyOf Try.f76) u := pc_nil
def PzbA_0 : PD D := { path := [1, 1, 0, 1, 0], ins := [.o 100000000 (.box 57), .o 100000001 (.box 61), .o 100000002 (.box 96), .o 0 (.bx 96 [(0, 6), (1, 7)]), .v 3 (.int .i64), .o 6 (.box 57), .o 7 (.box 61), .v 10 (.int .i64), .o 2000000 (.ne 22 3), .o 2000001 (.ne 22 3)], fx := [(0, .box 3 0), (6, .box 4 0), (7, .box 5 0)], ks := [1, 1, 1, 1, 1, 1, 2, 2], exs := [⟨.exit 0, [.u 6 (.ne 22 3), .u 7 (.ne 22 3)], []⟩, ⟨.ret, [.u 6 (.ne 22 3), .u 7 (.ne 22 3)], []⟩], keep := [0, 3, 6] }
def FzbA_0 (N n : Nat) : PzbA_0.F := fun x => zbA_0 N x.2.2.2.2.1 x.2.2.2.2.2.2.1 n x.2.2.2.2.2.2.2.1 x.2.2.2.2.2.2.2.2.1 x.2.2.2.2.2.2.2.2.2.1
theorem czbA_0 (N n : Nat) : CC (X42 N) (bodyOf Try.f76) PzbA_0 (FzbA_0 N n) := CC.loop (cok42 N) (us := u0_zbA N) (c := sub (bodyOf Try.f76) [1, 1, 0, 1, 0, 0]) (by kernel_rfl) (by kernel_rfl) (fun u h _ => oku0_zbA N u h) (fun x => rfl) (fun n x => by kernel_rfl) n
def uzbA_0 (N : Nat) : List (Pc D) := PzbA_0.pc (X42 N) (FzbA_0 N N) :: u0_zbA N
theorem okuzbA_0 (N : Nat) : ∀ u ∈ uzbA_0 N, PcOk (X42 N) (bodyOf Try.f76) u := pc_cons ((czbA_0 N N).pc (by kernel_rfl)) (oku0_zbA N)
def dzbA : GD D := { f := 76, np := 5, ins := [.o 100000000 (.box 57), .o 100000001 (.box 61), .o 100000002 (.box 96), .o 0 (.bx 96 [(0, 4), (1, 5)]), .v 1 (.agg 57), .v 2 (.agg 61), .v 3 (.int .i64), .v 4 (.int .i64), .o 2000000 (.ne 22 3), .o 2000001 (.ne 22 3)], fx := [(0, .box 3 0)], ks := [1, 1, 1, 2, 2, 2], outs := [.u 3 (.bx 96 [(0, 4), (1, 5)]), .u 4 (.ne 22 3), .u 5 (.ne 22 3)], ofx := [], res := [] }
def FzbA (N : Nat) : dzbA.pd.F := fun x => zbA N x.2.2.2.1 x.2.2.2.2.1 x.2.2.2.2.2.1 x.2.2.2.2.2.2.1 x.2.2.2.2.2.2.2.1 x.2.2.2.2.2.2.2.2.1 x.2.2.2.2.2.2.2.2.2.1
theorem ozbA (N : Nat) : GOk Try.prog (X42 N) dzbA (FzbA N) := ⟨⟨Try.f76, _, Try.func76, rfl, by kernel_rfl, by kernel_rfl, rfl, by kernel_rfl, CCn.of (cok42 N) (us := uzbA_0 N) (fun u h _ => okuzbA_0 N u h) (fun x => by kernel_rfl)⟩⟩
def fs43 (N : Nat) : List (FE D) := fs42 N
theorem all43 (N : Nat) : ∀ y ∈ fs43 N, CallOk X0 y.d y.F := all42 N
def gs43 (N : Nat) : List (GE D) := ⟨dzbA, FzbA N⟩ :: []
theorem gall43 (N : Nat) : ∀ y ∈ gs43 N, CallG X0 y.d y.F := all_gen0 (x := ⟨dzbA, FzbA N⟩) (ozbA N).call.base (gen_nil)
def X43 (N : Nat) : Ev Try.prog D := (X0.with (fs43 N)).gen (gs43 N)
theorem cok43 (N : Nat) : COk (X43 N) := COk.gen0 (COk.of (all43 N)) (gall43 N)
def Y43 (N : Nat) : Ev Try.prog D := (X43 N).cuts fun x lo hi => match x, lo, hi with | .tmp 14, some (.tmp 14), some (.tmp 14) => 3 | .tmp 17, some (.tmp 17), some (.tmp 17) => 3 | .tmp 33, none, none => 4 | _, _, _ => 0
theorem coky43 (N : Nat) : COk (Y43 N) := COk.cuts (cok43 N)
def u0_zcB (N : Nat) : List (Pc D) := []
theorem oku0_zcB (N : Nat) : ∀ u ∈ u0_zcB N, PcOk (Y43 N) (bodyOf Try.f51) u := pc_nil
def PzcB_3 : PD D := { path := [1, 1, 0, 1, 0, 0, 1, 0, 0, 1, 0, 1, 0, 1, 1, 1, 0], ins := [.o 3 (.box 57), .o 4 (.box 61), .o 6 (.box 96), .o 7 (.bx 96 [(0, 4), (1, 5)]), .v 8 (.int .i64), .v 10 (.sl 3), .v 11 (.int .i64), .o 2007000 (.ne 22 3), .o 2007001 (.ne 22 3)], fx := [(3, .box 0 0), (4, .box 1 0), (6, .box 2 0), (7, .box 3 0)], ks := [1, 1, 1, 2, 2, 2], exs := [⟨.exit 2, [.u 3 (.bx 96 [(0, 4), (1, 5)]), .u 4 (.ne 22 3), .u 5 (.ne 22 3)], []⟩], keep := [2, 3, 4, 6, 7, 8, 9] }
def FzcB_3 (N n : Nat) : PzcB_3.F := fun x => zcB_3 N x.1 x.2.1 x.2.2.2.2.1 x.2.2.2.2.2.1 n x.2.2.2.1 x.2.2.2.2.2.2.1 x.2.2.2.2.2.2.2.1 x.2.2.2.2.2.2.2.2.1
theorem czcB_3 (N n : Nat) : CC (Y43 N) (bodyOf Try.f51) PzcB_3 (FzcB_3 N n) := CC.loop (coky43 N) (us := u0_zcB N) (c := sub (bodyOf Try.f51) [1, 1, 0, 1, 0, 0, 1, 0, 0, 1, 0, 1, 0, 1, 1, 1, 0, 0]) (by kernel_rfl) (by kernel_rfl) (fun u h _ => oku0_zcB N u h) (fun x => rfl) (fun n x => by kernel_rfl) n
def uzcB_3 (N : Nat) : List (Pc D) := PzcB_3.pc (Y43 N) (FzcB_3 N N) :: u0_zcB N
theorem okuzcB_3 (N : Nat) : ∀ u ∈ uzcB_3 N, PcOk (Y43 N) (bodyOf Try.f51) u := pc_cons ((czcB_3 N N).pc (by kernel_rfl)) (oku0_zcB N)
def PzcB_2 : PD D := { path := [1, 1, 0, 1, 0, 0, 1, 0, 0, 1, 0, 1], ins := [.o 3 (.box 57), .o 4 (.box 61), .o 6 (.box 96), .o 7 (.bx 96 [(0, 4), (1, 5)]), .v 8 (.int .i64), .v 28 .bool, .o 2007000 (.ne 22 3), .o 2007001 (.ne 22 3)], fx := [(3, .box 0 0), (4, .box 1 0), (6, .box 2 0), (7, .box 3 0)], ks := [1, 1, 1, 2, 2, 2], exs := [⟨.normal, [.u 3 (.bx 96 [(0, 4), (1, 5)]), .u 4 (.ne 22 3), .u 5 (.ne 22 3)], []⟩], keep := [2, 3, 4, 6, 7, 8, 9] }
def FzcB_2 (N : Nat) : PzcB_2.F := fun x => zcB_2 N x.1 x.2.1 x.2.2.2.1 x.2.2.2.2.1 x.2.2.2.2.2.1 x.2.2.2.2.2.2.1 x.2.2.2.2.2.2.2.1
theorem czcB_2 (N : Nat) : CC (Y43 N) (bodyOf Try.f51) PzcB_2 (FzcB_2 N) := CC.of (coky43 N) (us := uzcB_3 N) (fun u h _ => okuzcB_3 N u h) (fun x => by kernel_rfl)
def uzcB_2 (N : Nat) : List (Pc D) := PzcB_2.pc (Y43 N) (FzcB_2 N) :: uzcB_3 N
theorem okuzcB_2 (N : Nat) : ∀ u ∈ uzcB_2 N, PcOk (Y43 N) (bodyOf Try.f51) u := pc_cons ((czcB_2 N).pc (by kernel_rfl)) (okuzcB_3 N)
def PzcB_5 : PD D := { path := [1, 1, 0, 1, 0, 0, 1, 0, 0, 1, 1, 0, 1, 0, 0, 1, 0], ins := [.o 3 (.box 57), .o 4 (.box 61), .o 6 (.box 96), .o 7 (.bx 96 [(0, 4), (1, 5)]), .v 8 (.int .i64), .v 12 (.int .i64), .o 2007000 (.ne 22 3), .o 2007001 (.ne 22 3)], fx := [(3, .box 0 0), (4, .box 1 0), (6, .box 2 0), (7, .box 3 0)], ks := [1, 1, 1, 2, 2, 2], exs := [⟨.normal, [.u 3 (.bx 96 [(0, 4), (1, 5)]), .u 4 (.ne 22 3), .u 5 (.ne 22 3)], []⟩], keep := [2, 3, 4, 6, 7, 8, 9, 12] }
def FzcB_5 (N : Nat) : PzcB_5.F := fun x => zcB_5 N x.1 x.2.1 x.2.2.2.1 x.2.2.2.2.1 x.2.2.2.2.2.1 x.2.2.2.2.2.2.1 x.2.2.2.2.2.2.2.1
theorem czcB_5 (N : Nat) : CC (Y43 N) (bodyOf Try.f51) PzcB_5 (FzcB_5 N) := CC.of (coky43 N) (us := uzcB_2 N) (fun u h _ => okuzcB_2 N u h) (fun x => by kernel_rfl)
def uzcB_5 (N : Nat) : List (Pc D) := PzcB_5.pc (Y43 N) (FzcB_5 N) :: uzcB_2 N
theorem okuzcB_5 (N : Nat) : ∀ u ∈ uzcB_5 N, PcOk (Y43 N) (bodyOf Try.f51) u := pc_cons ((czcB_5 N).pc (by kernel_rfl)) (okuzcB_2 N)
def PzcB_4 : PD D := { path := [1, 1, 0, 1, 0, 0, 1, 0, 0, 1, 1, 0, 1, 0], ins := [.o 3 (.box 57), .o 4 (.box 61), .o 6 (.box 96), .o 7 (.bx 96 [(0, 4), (1, 5)]), .v 8 (.int .i64), .v 12 (.int .i64), .o 2007000 (.ne 22 3), .o 2007001 (.ne 22 3)], fx := [(3, .box 0 0), (4, .box 1 0), (6, .box 2 0), (7, .box 3 0)], ks := [1, 1, 1, 2, 2, 2], exs := [⟨.exit 4, [.u 3 (.bx 96 [(0, 4), (1, 5)]), .u 4 (.ne 22 3), .u 5 (.ne 22 3)], []⟩], keep := [2, 3, 4, 6, 7, 8, 9] }
def FzcB_4 (N n : Nat) : PzcB_4.F := fun x => zcB_4 N x.1 x.2.1 x.2.2.2.2.1 n x.2.2.2.1 x.2.2.2.2.2.1 x.2.2.2.2.2.2.1 x.2.2.2.2.2.2.2.1
theorem czcB_4 (N n : Nat) : CC (Y43 N) (bodyOf Try.f51) PzcB_4 (FzcB_4 N n) := CC.loop (coky43 N) (us := uzcB_5 N) (c := sub (bodyOf Try.f51) [1, 1, 0, 1, 0, 0, 1, 0, 0, 1, 1, 0, 1, 0, 0]) (by kernel_rfl) (by kernel_rfl) (fun u h _ => okuzcB_5 N u h) (fun x => rfl) (fun n x => by kernel_rfl) n
def uzcB_4 (N : Nat) : List (Pc D) := PzcB_4.pc (Y43 N) (FzcB_4 N N) :: uzcB_5 N
theorem okuzcB_4 (N : Nat) : ∀ u ∈ uzcB_4 N, PcOk (Y43 N) (bodyOf Try.f51) u := pc_cons ((czcB_4 N N).pc (by kernel_rfl)) (okuzcB_5 N)
def PzcB_1 : PD D := { path := [1, 1, 0, 1, 0, 0, 1, 0], ins := [.o 3 (.box 57), .o 4 (.box 61), .o 6 (.box 96), .o 7 (.bx 96 [(0, 4), (1, 5)]), .v 8 (.int .i64), .o 2007000 (.ne 22 3), .o 2007001 (.ne 22 3)], fx := [(3, .box 0 0), (4, .box 1 0), (6, .box 2 0), (7, .box 3 0)], ks := [1, 1, 1, 2, 2, 2], exs := [⟨.normal, [.u 3 (.bx 96 [(0, 4), (1, 5)]), .u 4 (.ne 22 3), .u 5 (.ne 22 3)], []⟩], keep := [2, 3, 4, 6, 7, 8] }
def FzcB_1 (N : Nat) : PzcB_1.F := fun x => zcB_1 N x.1 x.2.1 x.2.2.2.1 x.2.2.2.2.1 x.2.2.2.2.2.1 x.2.2.2.2.2.2.1
theorem czcB_1 (N : Nat) : CC (Y43 N) (bodyOf Try.f51) PzcB_1 (FzcB_1 N) := CC.of (coky43 N) (us := uzcB_4 N) (fun u h _ => okuzcB_4 N u h) (fun x => by kernel_rfl)
def uzcB_1 (N : Nat) : List (Pc D) := PzcB_1.pc (Y43 N) (FzcB_1 N) :: uzcB_4 N
theorem okuzcB_1 (N : Nat) : ∀ u ∈ uzcB_1 N, PcOk (Y43 N) (bodyOf Try.f51) u := pc_cons ((czcB_1 N).pc (by kernel_rfl)) (okuzcB_4 N)
def PzcB_0 : PD D := { path := [1, 1, 0, 1, 0], ins := [.v 2 (.int .i64), .o 3 (.box 57), .o 4 (.box 61), .o 6 (.box 96), .o 7 (.bx 96 [(0, 4), (1, 5)]), .v 8 (.int .i64), .o 2007000 (.ne 22 3), .o 2007001 (.ne 22 3)], fx := [(3, .box 0 0), (4, .box 1 0), (6, .box 2 0), (7, .box 3 0)], ks := [1, 1, 1, 2, 2, 2], exs := [⟨.exit 0, [.u 3 (.bx 96 [(0, 4), (1, 5)]), .u 4 (.ne 22 3), .u 5 (.ne 22 3)], []⟩], keep := [6, 7] }
def FzcB_0 (N n : Nat) : PzcB_0.F := fun x => zcB_0 N x.1 x.2.1 x.2.2.1 n x.2.2.2.2.1 x.2.2.2.2.2.1 x.2.2.2.2.2.2.1 x.2.2.2.2.2.2.2.1
theorem czcB_0 (N n : Nat) : CC (Y43 N) (bodyOf Try.f51) PzcB_0 (FzcB_0 N n) := CC.loop (coky43 N) (us := uzcB_1 N) (c := sub (bodyOf Try.f51) [1, 1, 0, 1, 0, 0]) (by kernel_rfl) (by kernel_rfl) (fun u h _ => okuzcB_1 N u h) (fun x => rfl) (fun n x => by kernel_rfl) n
def uzcB_0 (N : Nat) : List (Pc D) := PzcB_0.pc (Y43 N) (FzcB_0 N N) :: uzcB_1 N
theorem okuzcB_0 (N : Nat) : ∀ u ∈ uzcB_0 N, PcOk (Y43 N) (bodyOf Try.f51) u := pc_cons ((czcB_0 N N).pc (by kernel_rfl)) (okuzcB_1 N)
def dzcB : FD D := { f := 51, np := 3, ins := [.v 0 (.agg 57), .v 1 (.agg 61), .v 2 (.int .i64)], fx := [], rcv := none, rk := 0, outs := [.v 1000000 (.agg 96)], ofx := [], rvs := [.cell 6 96], flat := false }
def FzcB (N : Nat) : dzcB.F := fun r x => zcB N x.1 x.2.1 x.2.2.1
theorem ozcB (N : Nat) : FOk Try.prog (Y43 N) dzcB (FzcB N) := ⟨⟨Try.f51, _, Try.func51, rfl, by kernel_rfl, by kernel_rfl, rfl, FC.of (coky43 N) (us := uzcB_0 N) (fun u h _ => okuzcB_0 N u h) (fun r x => by kernel_rfl)⟩, by kernel_rfl, by kernel_rfl, by kernel_rfl, by kernel_rfl⟩
def fs44 (N : Nat) : List (FE D) := ⟨dzcB, FzcB N⟩ :: fs43 N
theorem all44 (N : Nat) : ∀ y ∈ fs44 N, CallOk X0 y.d y.F := all_call0 (x := ⟨dzcB, FzcB N⟩) (CallOk.ch (CallOk.ch (CallOk.ch (ozcB N).call))) (all43 N)
def gs44 (N : Nat) : List (GE D) := gs43 N
theorem gall44 (N : Nat) : ∀ y ∈ gs44 N, CallG X0 y.d y.F := gall43 N
def X44 (N : Nat) : Ev Try.prog D := (X0.with (fs44 N)).gen (gs44 N)
theorem cok44 (N : Nat) : COk (X44 N) := COk.gen0 (COk.of (all44 N)) (gall44 N)
def u0_zbY (N : Nat) : List (Pc D) := []
theorem oku0_zbY (N : Nat) : ∀ u ∈ u0_zbY N, PcOk (X44 N) (bodyOf Try.f24) u := pc_nil
def dzbY : FD D := { f := 24, np := 2, ins := [.v 0 (.agg 57), .v 1 (.agg 61)], fx := [], rcv := none, rk := 0, outs := [.v 1000000 (.agg 65), .v 5 (.int .i64)], ofx := [], rvs := [.cell 4 65, .tmp 5], flat := false }
def FzbY (N : Nat) : dzbY.F := fun r x => zbY N x.1 x.2.1
theorem ozbY (N : Nat) : FOk Try.prog (X44 N) dzbY (FzbY N) := ⟨⟨Try.f24, _, Try.func24, rfl, by kernel_rfl, by kernel_rfl, rfl, FC.of (cok44 N) (us := u0_zbY N) (fun u h _ => oku0_zbY N u h) (fun r x => by kernel_rfl)⟩, by kernel_rfl, by kernel_rfl, by kernel_rfl, by kernel_rfl⟩
def fs45 (N : Nat) : List (FE D) := ⟨dzbY, FzbY N⟩ :: fs44 N
theorem all45 (N : Nat) : ∀ y ∈ fs45 N, CallOk X0 y.d y.F := all_call0 (x := ⟨dzbY, FzbY N⟩) (CallOk.ch (CallOk.ch (ozbY N).call)) (all44 N)
def gs45 (N : Nat) : List (GE D) := gs44 N
theorem gall45 (N : Nat) : ∀ y ∈ gs45 N, CallG X0 y.d y.F := gall44 N
def X45 (N : Nat) : Ev Try.prog D := (X0.with (fs45 N)).gen (gs45 N)
theorem cok45 (N : Nat) : COk (X45 N) := COk.gen0 (COk.of (all45 N)) (gall45 N)
def u0_zaI (N : Nat) : List (Pc D) := []
theorem oku0_zaI (N : Nat) : ∀ u ∈ u0_zaI N, PcOk (X45 N) (bodyOf Try.f32) u := pc_nil
def PzaI_0 : PD D := { path := [1, 1, 0, 1, 0], ins := [.v 0 (.sl 39), .v 1 (.sl 39), .v 5 (.int .i64)], fx := [], ks := [], exs := [⟨.exit 0, [], []⟩, ⟨.ret, [.v 4 .bool], []⟩], keep := [] }
def FzaI_0 (N n : Nat) : PzaI_0.F := fun x => zaI_0 N x.1 x.2.1 n x.2.2.1
theorem czaI_0 (N n : Nat) : CC (X45 N) (bodyOf Try.f32) PzaI_0 (FzaI_0 N n) := CC.loop (cok45 N) (us := u0_zaI N) (c := sub (bodyOf Try.f32) [1, 1, 0, 1, 0, 0]) (by kernel_rfl) (by kernel_rfl) (fun u h _ => oku0_zaI N u h) (fun x => rfl) (fun n x => by kernel_rfl) n
def uzaI_0 (N : Nat) : List (Pc D) := PzaI_0.pc (X45 N) (FzaI_0 N N) :: u0_zaI N
theorem okuzaI_0 (N : Nat) : ∀ u ∈ uzaI_0 N, PcOk (X45 N) (bodyOf Try.f32) u := pc_cons ((czaI_0 N N).pc (by kernel_rfl)) (oku0_zaI N)
def dzaI : FD D := { f := 32, np := 2, ins := [.v 0 (.sl 39), .v 1 (.sl 39)], fx := [], rcv := none, rk := 0, outs := [.v 4 .bool], ofx := [], rvs := [.tmp 4], flat := true }
def FzaI (N : Nat) : dzaI.F := fun r x => zaI N x.1 x.2.1
theorem ozaI (N : Nat) : FOk Try.prog (X45 N) dzaI (FzaI N) := ⟨⟨Try.f32, _, Try.func32, rfl, by kernel_rfl, by kernel_rfl, rfl, FC.of (cok45 N) (us := uzaI_0 N) (fun u h _ => okuzaI_0 N u h) (fun r x => by kernel_rfl)⟩, by kernel_rfl, by kernel_rfl, by kernel_rfl, by kernel_rfl⟩
def fs46 (N : Nat) : List (FE D) := ⟨dzaI, FzaI N⟩ :: fs45 N
theorem all46 (N : Nat) : ∀ y ∈ fs46 N, CallOk X0 y.d y.F := all_call0 (x := ⟨dzaI, FzaI N⟩) (CallOk.ch (CallOk.ch (ozaI N).call)) (all45 N)
def gs46 (N : Nat) : List (GE D) := gs45 N
theorem gall46 (N : Nat) : ∀ y ∈ gs46 N, CallG X0 y.d y.F := gall45 N
def X46 (N : Nat) : Ev Try.prog D := (X0.with (fs46 N)).gen (gs46 N)
theorem cok46 (N : Nat) : COk (X46 N) := COk.gen0 (COk.of (all46 N)) (gall46 N)
def u0_zbR (N : Nat) : List (Pc D) := []
theorem oku0_zbR (N : Nat) : ∀ u ∈ u0_zbR N, PcOk (X46 N) (bodyOf Try.f14) u := pc_nil
def PzbR_0 : PD D := { path := [1, 1, 1, 1, 1, 1, 0], ins := [.o 3 (.sl 39), .v 4 (.int .i64), .o 5 (.sl 39), .v 6 (.int .i64), .v 7 .bool, .v 8 (.int .i64)], fx := [(3, .c (.own 0)), (5, .c (.own 1))], ks := [1, 1], exs := [⟨.normal, [.v 0 .bool], []⟩], keep := [] }
def FzbR_0 (N : Nat) : PzbR_0.F := fun x => zbR_0 N x.1 x.2.1 x.2.2.1 x.2.2.2.1 x.2.2.2.2.1 x.2.2.2.2.2.1
theorem czbR_0 (N : Nat) : CC (X46 N) (bodyOf Try.f14) PzbR_0 (FzbR_0 N) := CC.of (cok46 N) (us := u0_zbR N) (fun u h _ => oku0_zbR N u h) (fun x => by kernel_rfl)
def uzbR_0 (N : Nat) : List (Pc D) := PzbR_0.pc (X46 N) (FzbR_0 N) :: u0_zbR N
theorem okuzbR_0 (N : Nat) : ∀ u ∈ uzbR_0 N, PcOk (X46 N) (bodyOf Try.f14) u := pc_cons ((czbR_0 N).pc (by kernel_rfl)) (oku0_zbR N)
def dzbR : FD D := { f := 14, np := 0, ins := [], fx := [], rcv := none, rk := 0, outs := [.v 0 .bool], ofx := [], rvs := [.tmp 0], flat := true }
def FzbR (N : Nat) : dzbR.F := fun r x => zbR N
theorem ozbR (N : Nat) : FOk Try.prog (X46 N) dzbR (FzbR N) := ⟨⟨Try.f14, _, Try.func14, rfl, by kernel_rfl, by kernel_rfl, rfl, FC.of (cok46 N) (us := uzbR_0 N) (fun u h _ => okuzbR_0 N u h) (fun r x => by kernel_rfl)⟩, by kernel_rfl, by kernel_rfl, by kernel_rfl, by kernel_rfl⟩
def fs47 (N : Nat) : List (FE D) := ⟨dzbR, FzbR N⟩ :: fs46 N
theorem all47 (N : Nat) : ∀ y ∈ fs47 N, CallOk X0 y.d y.F := all_call0 (x := ⟨dzbR, FzbR N⟩) (CallOk.ch (CallOk.ch (ozbR N).call)) (all46 N)
def gs47 (N : Nat) : List (GE D) := gs46 N
theorem gall47 (N : Nat) : ∀ y ∈ gs47 N, CallG X0 y.d y.F := gall46 N
def X47 (N : Nat) : Ev Try.prog D := (X0.with (fs47 N)).gen (gs47 N)
theorem cok47 (N : Nat) : COk (X47 N) := COk.gen0 (COk.of (all47 N)) (gall47 N)
def u0_zaN (N : Nat) : List (Pc D) := []
theorem oku0_zaN (N : Nat) : ∀ u ∈ u0_zaN N, PcOk (X47 N) (bodyOf Try.f7) u := pc_nil
def PzaN_0 : PD D := { path := [1, 1, 1, 1, 1, 1, 0, 0], ins := [.o 4 (.box 28), .v 5 (.sl 39), .v 7 (.sl 22), .v 8 (.int .i64), .o 9 (.box 57), .o 10 (.sl 3), .v 11 (.int .i64)], fx := [(4, .box 0 0), (9, .box 1 0), (10, .c (.own 2))], ks := [1, 1, 1], exs := [⟨.normal, [.v 73 .bool], []⟩], keep := [4, 7, 9, 10] }
def FzaN_0 (N : Nat) : PzaN_0.F := fun x => zaN_0 N x.1 x.2.1 x.2.2.1 x.2.2.2.1 x.2.2.2.2.1 x.2.2.2.2.2.1 x.2.2.2.2.2.2.1
theorem czaN_0 (N : Nat) : CC (X47 N) (bodyOf Try.f7) PzaN_0 (FzaN_0 N) := CC.of (cok47 N) (us := u0_zaN N) (fun u h _ => oku0_zaN N u h) (fun x => by kernel_rfl)
def uzaN_0 (N : Nat) : List (Pc D) := PzaN_0.pc (X47 N) (FzaN_0 N) :: u0_zaN N
theorem okuzaN_0 (N : Nat) : ∀ u ∈ uzaN_0 N, PcOk (X47 N) (bodyOf Try.f7) u := pc_cons ((czaN_0 N).pc (by kernel_rfl)) (oku0_zaN N)
def PzaN_1 : PD D := { path := [1, 1, 1, 1, 1, 1, 1, 1, 1, 0, 0], ins := [.o 4 (.box 28), .o 10 (.sl 3), .v 13 (.int .i64), .o 14 (.box 65), .v 15 (.int .i64)], fx := [(4, .box 0 0), (10, .c (.own 1)), (14, .box 2 0)], ks := [1, 1, 1], exs := [⟨.normal, [.v 90 .bool], []⟩], keep := [4, 7, 10, 14] }
def FzaN_1 (N : Nat) : PzaN_1.F := fun x => zaN_1 N x.2.2.1 x.2.2.2.2.1
theorem czaN_1 (N : Nat) : CC (X47 N) (bodyOf Try.f7) PzaN_1 (FzaN_1 N) := CC.of (cok47 N) (us := uzaN_0 N) (fun u h _ => okuzaN_0 N u h) (fun x => by kernel_rfl)
def uzaN_1 (N : Nat) : List (Pc D) := PzaN_1.pc (X47 N) (FzaN_1 N) :: uzaN_0 N
theorem okuzaN_1 (N : Nat) : ∀ u ∈ uzaN_1 N, PcOk (X47 N) (bodyOf Try.f7) u := pc_cons ((czaN_1 N).pc (by kernel_rfl)) (okuzaN_0 N)
def PzaN_4 : PD D := { path := [1, 1, 1, 1, 1, 1, 1, 1, 1, 1, 1, 0, 1, 0, 0, 1, 0, 0, 1, 0, 1, 0, 1, 0], ins := [.o 4 (.box 28), .o 10 (.sl 3), .o 14 (.box 65), .o 16 (.sl 4), .v 17 (.int .i64), .o 18 (.sl 3), .v 19 (.int .i64)], fx := [(4, .box 0 0), (10, .c (.own 1)), (14, .box 2 0), (16, .c (.own 3)), (18, .c (.own 4))], ks := [1, 1, 1, 1, 0], exs := [⟨.exit 2, [.o 18 (.sl 3)], [(18, .c (.own 5))]⟩], keep := [4, 7, 10, 14, 16, 17] }
def FzaN_4 (N n : Nat) : PzaN_4.F := fun x => zaN_4 N x.2.1 x.2.2.1 x.2.2.2.2.1 n x.2.2.2.2.2.1 x.2.2.2.2.2.2.1
theorem czaN_4 (N n : Nat) : CC (X47 N) (bodyOf Try.f7) PzaN_4 (FzaN_4 N n) := CC.loop (cok47 N) (us := uzaN_1 N) (c := sub (bodyOf Try.f7) [1, 1, 1, 1, 1, 1, 1, 1, 1, 1, 1, 0, 1, 0, 0, 1, 0, 0, 1, 0, 1, 0, 1, 0, 0]) (by kernel_rfl) (by kernel_rfl) (fun u h _ => okuzaN_1 N u h) (fun x => rfl) (fun n x => by kernel_rfl) n
def uzaN_4 (N : Nat) : List (Pc D) := PzaN_4.pc (X47 N) (FzaN_4 N N) :: uzaN_1 N
theorem okuzaN_4 (N : Nat) : ∀ u ∈ uzaN_4 N, PcOk (X47 N) (bodyOf Try.f7) u := pc_cons ((czaN_4 N N).pc (by kernel_rfl)) (okuzaN_1 N)
def PzaN_3 : PD D := { path := [1, 1, 1, 1, 1, 1, 1, 1, 1, 1, 1, 0, 1, 0, 0, 1, 0, 0, 1, 0, 1], ins := [.o 4 (.box 28), .o 10 (.sl 3), .o 14 (.box 65), .o 16 (.sl 4), .v 17 (.int .i64), .o 18 (.sl 3), .v 116 .bool], fx := [(4, .box 0 0), (10, .c (.own 1)), (14, .box 2 0), (16, .c (.own 3)), (18, .c (.own 4))], ks := [1, 1, 1, 1, 0], exs := [⟨.normal, [.o 18 (.sl 3)], [(18, .c (.own 5))]⟩], keep := [4, 7, 10, 14, 16, 17] }
def FzaN_3 (N : Nat) : PzaN_3.F := fun x => zaN_3 N x.2.1 x.2.2.1 x.2.2.2.2.1 x.2.2.2.2.2.1 x.2.2.2.2.2.2.1
theorem czaN_3 (N : Nat) : CC (X47 N) (bodyOf Try.f7) PzaN_3 (FzaN_3 N) := CC.of (cok47 N) (us := uzaN_4 N) (fun u h _ => okuzaN_4 N u h) (fun x => by kernel_rfl)
def uzaN_3 (N : Nat) : List (Pc D) := PzaN_3.pc (X47 N) (FzaN_3 N) :: uzaN_4 N
theorem okuzaN_3 (N : Nat) : ∀ u ∈ uzaN_3 N, PcOk (X47 N) (bodyOf Try.f7) u := pc_cons ((czaN_3 N).pc (by kernel_rfl)) (okuzaN_4 N)
def PzaN_6 : PD D := { path := [1, 1, 1, 1, 1, 1, 1, 1, 1, 1, 1, 0, 1, 0, 0, 1, 0, 0, 1, 1, 1, 0, 0, 1, 0, 0, 1, 0, 0], ins := [.o 4 (.box 28), .o 10 (.sl 3), .o 14 (.box 65), .o 16 (.sl 4), .v 17 (.int .i64), .o 18 (.sl 3), .v 20 (.int .i64), .v 21 (.int .i64)], fx := [(4, .box 0 0), (10, .c (.own 1)), (14, .box 2 0), (16, .c (.own 3)), (18, .c (.own 4))], ks := [1, 1, 1, 1, 1], exs := [⟨.normal, [.v 197 .bool], []⟩], keep := [4, 7, 10, 14, 16, 17, 18, 20, 21] }
def FzaN_6 (N : Nat) : PzaN_6.F := fun x => zaN_6 N x.1 x.2.2.2.1 x.2.2.2.2.1 x.2.2.2.2.2.1 x.2.2.2.2.2.2.1 x.2.2.2.2.2.2.2.1
theorem czaN_6 (N : Nat) : CC (X47 N) (bodyOf Try.f7) PzaN_6 (FzaN_6 N) := CC.of (cok47 N) (us := uzaN_3 N) (fun u h _ => okuzaN_3 N u h) (fun x => by kernel_rfl)
def uzaN_6 (N : Nat) : List (Pc D) := PzaN_6.pc (X47 N) (FzaN_6 N) :: uzaN_3 N
theorem okuzaN_6 (N : Nat) : ∀ u ∈ uzaN_6 N, PcOk (X47 N) (bodyOf Try.f7) u := pc_cons ((czaN_6 N).pc (by kernel_rfl)) (okuzaN_3 N)
def PzaN_5 : PD D := { path := [1, 1, 1, 1, 1, 1, 1, 1, 1, 1, 1, 0, 1, 0, 0, 1, 0, 0, 1, 1, 1, 0], ins := [.o 4 (.box 28), .o 10 (.sl 3), .o 14 (.box 65), .o 16 (.sl 4), .v 17 (.int .i64), .o 18 (.sl 3), .v 20 (.int .i64)], fx := [(4, .box 0 0), (10, .c (.own 1)), (14, .box 2 0), (16, .c (.own 3)), (18, .c (.own 4))], ks := [1, 1, 1, 2, 1], exs := [⟨.exit 4, [.u 3 (.sl 4)], []⟩, ⟨.ret, [.v 2 .bool], []⟩], keep := [4, 7, 10, 14, 16, 17] }
def FzaN_5 (N n : Nat) : PzaN_5.F := fun x => zaN_5 N x.1 x.2.2.2.2.1 x.2.2.2.2.2.1 n x.2.2.2.1 x.2.2.2.2.2.2.1
theorem czaN_5 (N n : Nat) : CC (X47 N) (bodyOf Try.f7) PzaN_5 (FzaN_5 N n) := CC.loop (cok47 N) (us := uzaN_6 N) (c := sub (bodyOf Try.f7) [1, 1, 1, 1, 1, 1, 1, 1, 1, 1, 1, 0, 1, 0, 0, 1, 0, 0, 1, 1, 1, 0, 0]) (by kernel_rfl) (by kernel_rfl) (fun u h _ => okuzaN_6 N u h) (fun x => rfl) (fun n x => by kernel_rfl) n
def uzaN_5 (N : Nat) : List (Pc D) := PzaN_5.pc (X47 N) (FzaN_5 N N) :: uzaN_6 N
theorem okuzaN_5 (N : Nat) : ∀ u ∈ uzaN_5 N, PcOk (X47 N) (bodyOf Try.f7) u := pc_cons ((czaN_5 N N).pc (by kernel_rfl)) (okuzaN_6 N)
def PzaN_2 : PD D := { path := [1, 1, 1, 1, 1, 1, 1, 1, 1, 1, 1, 0, 1, 0], ins := [.o 4 (.box 28), .v 7 (.sl 22), .o 10 (.sl 3), .o 14 (.box 65), .o 16 (.sl 4), .v 17 (.int .i64)], fx := [(4, .box 0 0), (10, .c (.own 1)), (14, .box 2 0), (16, .c (.own 3))], ks := [1, 1, 1, 0], exs := [⟨.exit 0, [.o 16 (.sl 4)], [(16, .c (.own 4))]⟩, ⟨.ret, [.v 2 .bool], []⟩], keep := [16] }
def FzaN_2 (N n : Nat) : PzaN_2.F := fun x => zaN_2 N x.1 x.2.1 x.2.2.1 x.2.2.2.1 n x.2.2.2.2.1 x.2.2.2.2.2.1
theorem czaN_2 (N n : Nat) : CC (X47 N) (bodyOf Try.f7) PzaN_2 (FzaN_2 N n) := CC.loop (cok47 N) (us := uzaN_5 N) (c := sub (bodyOf Try.f7) [1, 1, 1, 1, 1, 1, 1, 1, 1, 1, 1, 0, 1, 0, 0]) (by kernel_rfl) (by kernel_rfl) (fun u h _ => okuzaN_5 N u h) (fun x => rfl) (fun n x => by kernel_rfl) n
def uzaN_2 (N : Nat) : List (Pc D) := PzaN_2.pc (X47 N) (FzaN_2 N N) :: uzaN_5 N
theorem okuzaN_2 (N : Nat) : ∀ u ∈ uzaN_2 N, PcOk (X47 N) (bodyOf Try.f7) u := pc_cons ((czaN_2 N N).pc (by kernel_rfl)) (okuzaN_5 N)
def PzaN_7 : PD D := { path := [1, 1, 1, 1, 1, 1, 1, 1, 1, 1, 1, 1, 0, 1, 0], ins := [.o 16 (.sl 4), .v 22 (.int .i64)], fx := [(16, .c (.own 0))], ks := [1], exs := [⟨.exit 6, [], []⟩, ⟨.ret, [.v 2 .bool], []⟩], keep := [] }
def FzaN_7 (N n : Nat) : PzaN_7.F := fun x => zaN_7 N x.1 n x.2.1
theorem czaN_7 (N n : Nat) : CC (X47 N) (bodyOf Try.f7) PzaN_7 (FzaN_7 N n) := CC.loop (cok47 N) (us := uzaN_2 N) (c := sub (bodyOf Try.f7) [1, 1, 1, 1, 1, 1, 1, 1, 1, 1, 1, 1, 0, 1, 0, 0]) (by kernel_rfl) (by kernel_rfl) (fun u h _ => okuzaN_2 N u h) (fun x => rfl) (fun n x => by kernel_rfl) n
def uzaN_7 (N : Nat) : List (Pc D) := PzaN_7.pc (X47 N) (FzaN_7 N N) :: uzaN_2 N
theorem okuzaN_7 (N : Nat) : ∀ u ∈ uzaN_7 N, PcOk (X47 N) (bodyOf Try.f7) u := pc_cons ((czaN_7 N N).pc (by kernel_rfl)) (okuzaN_2 N)
def dzaN : FD D := { f := 7, np := 1, ins := [.v 0 (.sl 3)], fx := [], rcv := none, rk := 0, outs := [.v 2 .bool], ofx := [], rvs := [.tmp 2], flat := true }
def FzaN (N : Nat) : dzaN.F := fun r x => zaN N x.1
theorem ozaN (N : Nat) : FOk Try.prog (X47 N) dzaN (FzaN N) := ⟨⟨Try.f7, _, Try.func7, rfl, by kernel_rfl, by kernel_rfl, rfl, FC.of (cok47 N) (us := uzaN_7 N) (fun u h _ => okuzaN_7 N u h) (fun r x => by kernel_rfl)⟩, by kernel_rfl, by kernel_rfl, by kernel_rfl, by kernel_rfl⟩
def fs48 (N : Nat) : List (FE D) := ⟨dzaN, FzaN N⟩ :: fs47 N
theorem all48 (N : Nat) : ∀ y ∈ fs48 N, CallOk X0 y.d y.F := all_call0 (x := ⟨dzaN, FzaN N⟩) (CallOk.ch (CallOk.ch (ozaN N).call)) (all47 N)
def gs48 (N : Nat) : List (GE D) := gs47 N
theorem gall48 (N : Nat) : ∀ y ∈ gs48 N, CallG X0 y.d y.F := gall47 N
def X48 (N : Nat) : Ev Try.prog D := (X0.with (fs48 N)).gen (gs48 N)
theorem cok48 (N : Nat) : COk (X48 N) := COk.gen0 (COk.of (all48 N)) (gall48 N)
end
end Go.W
end
section
set_option linter.unusedVariables false
set_option linter.unusedSimpArgs false
namespace Go.W
open Go.AM
theorem w64 {n : Int} (h : -9223372036854775808 ≤ n) (h' : n ≤ 9223372036854775807) : IntKind.wrap .i64 n = n := by rw [IntKind.wrap_i64]; omega
theorem w8 {n : Int} (h : 0 ≤ n) (h' : n ≤ 255) : IntKind.wrap .u8 n = n := by rw [IntKind.wrap_u8]; omega
theorem wrap64_lo (n : Int) : -9223372036854775808 ≤ IntKind.wrap .i64 n ∧ IntKind.wrap .i64 n ≤ 9223372036854775807 := by rw [IntKind.wrap_i64]; omega
theorem lt_def {α β : Type} (x : α) (f : α → Option β) : AM.lt x f = f x := rfl
theorem bind_some' {α β : Type} (x : α) (f : α → Option β) : Option.bind (some x) f = f x := rfl
theorem getI_ok {α : Type} {xs : List α} {i : Int} (h0 : 0 ≤ i) (h1 : i < xs.length) : ∃ x, getI xs i = some x ∧ x ∈ xs ∧ xs[i.toNat]? = some x := by
  have hlt : i.toNat < xs.length := by omega
  exact ⟨xs[i.toNat], by simp [getI, h0, hlt], by simp, by simp [hlt]⟩
def Mk (c : Int) (s : Maker) : Prop := 0 ≤ s.n ∧ s.n ≤ c
theorem next_ok (N : Nat) {c : Int} {s : Maker} (k : Int) (hk : 1 ≤ k) (hk2 : k ≤ 1000000) (hs : Mk c s) (hc : c ≤ 1000000000000) : ∃ r s', zbE N s k = some (r, s') ∧ 0 ≤ r ∧ r < k ∧ Mk (c + 1) s' := by
  obtain ⟨h0, h1⟩ := hs
  have h15 : ∃ y, zbE_0 N s 0 (decide (0 < (s.l.length : Int))) = some y := by
    unfold zbE_0
    by_cases hl : 0 < (s.l.length : Int)
    · rw [if_pos (by simpa using hl)]
      have hne : (s.l.length : Int) ≠ 0 := by omega
      have hm : modI s.n s.l.length = some (s.n.tmod s.l.length) := by unfold modI; rw [if_neg hne]
      have hd : divI s.n s.l.length = some (s.n.tdiv s.l.length) := by unfold divI; rw [if_neg hne]
      have hr0 : 0 ≤ s.n.tmod s.l.length := Int.tmod_nonneg _ h0
      have hr1 : s.n.tmod s.l.length < s.l.length := Int.tmod_lt_of_pos _ hl
      obtain ⟨x, hx, _, _⟩ := getI_ok hr0 hr1
      rw [hm, bind_some', hx, bind_some', hd, bind_some', lt_def]
      exact ⟨_, rfl⟩
    · rw [if_neg (by simpa using hl)]
      exact ⟨_, rfl⟩
  obtain ⟨y, hy⟩ := h15
  unfold zbE
  rw [hy, bind_some']
  have hm : modI y k = some (y.tmod k) := by simp [modI]; omega
  have hlt : y.tmod k < k := Int.tmod_lt_of_pos _ (by omega)
  have hgt : -k < y.tmod k := by
    have := Int.lt_tmod_of_pos y (by omega : 0 < k)
    omega
  have hn : IntKind.wrap .i64 (s.n + 1) = s.n + 1 := w64 (by omega) (by omega)
  simp only [hm, bind_some', hn]
  unfold zbE_1
  by_cases hneg : y.tmod k < 0
  · rw [if_pos (by simpa using hneg), lt_def, bind_some', w64 (by omega) (by omega)]
    exact ⟨_, _, rfl, by omega, by omega, by constructor <;> simp <;> omega⟩
  · rw [if_neg (by simpa using hneg), bind_some']
    exact ⟨_, _, rfl, by omega, by omega, by constructor <;> simp <;> omega⟩
theorem pick_ok (N : Nat) {c : Int} {s : Maker} (l : List Int) (hl : 1 ≤ l.length) (hl2 : l.length ≤ 1000) (hs : Mk c s) (hc : c ≤ 1000000000000) : ∃ x s', zbF N s l = some (x, s') ∧ x ∈ l ∧ Mk (c + 1) s' := by
  obtain ⟨r, s', h1, h2, h3, h4⟩ := next_ok N (s := s) (c := c) (l.length : Int) (by omega) (by omega) hs hc
  obtain ⟨x, hx, hm, _⟩ := getI_ok h2 h3
  unfold zbF
  rw [h1, bind_some']
  simp only [hx, bind_some']
  exact ⟨x, s', rfl, hm, h4⟩
end Go.W
end
section
set_option linter.unusedVariables false
set_option linter.unusedSimpArgs false
namespace Go.W
open Go.AM
theorem getI_nat {α : Type} {xs : List α} {i : Nat} {x : α} (h : xs[i]? = some x) : getI xs (i : Int) = some x := by simp [getI, h]
theorem at_lt {α : Type} {xs : List α} {i : Nat} (h : i < xs.length) : xs[i]? = some xs[i] := by simp [h]
theorem drop_at {α : Type} {xs : List α} {i : Nat} {x : α} (h : xs[i]? = some x) : xs.drop i = x :: xs.drop (i + 1) := by
  obtain ⟨hlt, rfl⟩ := List.getElem?_eq_some_iff.1 h
  exact List.drop_eq_getElem_cons hlt
theorem w64s {i : Nat} (h : i < 9223372036854775807) : IntKind.wrap .i64 ((i : Int) + 1) = ((i + 1 : Nat) : Int) := by rw [w64 (by omega) (by omega)]; omega
theorem w64p {i : Nat} (h : i < 9223372036854775807) : IntKind.wrap .i64 (((i + 1 : Nat) : Int) - 1) = (i : Int) := by rw [w64 (by omega) (by omega)]; omega
theorem bne00 : ((0 : Int) != 0) = false := rfl
theorem dpos {a b : Int} (h : a < b) : decide (a < b) = true := decide_eq_true h
theorem dneg {a b : Int} (h : ¬ a < b) : ¬ decide (a < b) = true := by simpa using h
theorem lpos {a b : Int} (h : a ≤ b) : decide (a ≤ b) = true := decide_eq_true h
theorem lneg {a b : Int} (h : ¬ a ≤ b) : ¬ decide (a ≤ b) = true := by simpa using h
theorem appI_ok {α : Type} {xs ys : List α} (h : xs.length + ys.length ≤ 4294967296) : appI xs ys = some (xs ++ ys) := if_pos h
theorem cutI_drop {α : Type} {xs : List α} {i : Nat} (h : i ≤ xs.length) : cutI xs (i : Int) (xs.length : Int) = some (xs.drop i) := by
  unfold cutI; rw [if_pos (by omega)]; simp
theorem cutI_take {α : Type} {xs : List α} {i : Nat} (h : i ≤ xs.length) : cutI xs 0 (i : Int) = some (xs.take i) := by
  unfold cutI; rw [if_pos (by omega)]; simp
theorem Mk.le {c c' : Int} {s : Maker} (h : Mk c s) (hc : c ≤ c') : Mk c' s := ⟨h.1, Int.le_trans h.2 hc⟩
theorem mk0 (t : List Int) : Mk 0 (Maker.mk t 0) := ⟨by simp, by simp⟩
def res {α β : Type} (p : Nat → α → Bool) (out : Nat → α → β) : Nat → List α → Sum Unit β
  | _, [] => .inl ()
  | i, x :: xs => if p i x = true then .inr (out i x) else res p out (i + 1) xs
theorem first_gen {α β : Type} {l : List α} (p : Nat → α → Bool) (out : Nat → α → β) (F : Nat → Int → Option (Sum Unit β)) (h0 : ∀ n, F (n + 1) (l.length : Int) = some (.inl ()))
    (h1 : ∀ (n i : Nat) (x : α), l[i]? = some x → F (n + 1) (i : Int) = if p i x = true then some (.inr (out i x)) else F n ((i + 1 : Nat) : Int)) : ∀ (k n i : Nat), k < n → i + k = l.length → F n (i : Int) = some (res p out i (l.drop i))
  | k, 0, i, hn, _ => by omega
  | 0, n + 1, i, hn, hi => by
    obtain rfl : i = l.length := by omega
    rw [h0, List.drop_length, res]
  | k + 1, n + 1, i, hn, hi => by
    have hlt : i < l.length := by omega
    rw [h1 n i _ (at_lt hlt), drop_at (at_lt hlt), res]
    split
    · rfl
    · exact first_gen p out F h0 h1 k n (i + 1) (by omega) (by omega)
def fold {α σ : Type} (g : Nat → α → σ → σ) : Nat → List α → σ → σ
  | _, [], s => s
  | i, x :: xs, s => fold g (i + 1) xs (g i x s)
theorem fold_gen {α σ β : Type} {l : List α} (g : Nat → α → σ → σ) (fin : σ → β) (I : Nat → σ → Prop) (F : Nat → σ → Int → Option β) (h0 : ∀ n s, I l.length s → F (n + 1) s (l.length : Int) = some (fin s))
    (h1 : ∀ (n i : Nat) (x : α) (s : σ), l[i]? = some x → I i s → F (n + 1) s (i : Int) = F n (g i x s) ((i + 1 : Nat) : Int) ∧ I (i + 1) (g i x s)) : ∀ (k n i : Nat) (s : σ), k < n → i + k = l.length → I i s → F n s (i : Int) = some (fin (fold g i (l.drop i) s)) ∧ I l.length (fold g i (l.drop i) s)
  | k, 0, i, s, hn, _, _ => by omega
  | 0, n + 1, i, s, hn, hi, hI => by
    obtain rfl : i = l.length := by omega
    rw [h0 n s hI, List.drop_length, fold]
    exact ⟨rfl, hI⟩
  | k + 1, n + 1, i, s, hn, hi, hI => by
    have hlt : i < l.length := by omega
    obtain ⟨g1, g2⟩ := h1 n i _ s (at_lt hlt) hI
    rw [g1, drop_at (at_lt hlt), fold]
    exact fold_gen g fin I F h0 h1 k n (i + 1) _ (by omega) (by omega) g2
def firstI {α : Type} (p : Nat → α → Bool) : Nat → List α → Int
  | _, [] => -1
  | i, x :: xs => if p i x = true then (i : Int) else firstI p (i + 1) xs
theorem res_first {α : Type} (p : Nat → α → Bool) : ∀ (l : List α) (i : Nat), res p (fun i _ => (i : Int)) i l = .inl () ∧ firstI p i l = -1 ∨ res p (fun i _ => (i : Int)) i l = .inr (firstI p i l) ∧ 0 ≤ firstI p i l
  | [], i => .inl ⟨rfl, rfl⟩
  | x :: xs, i => by
    rw [res, firstI]
    by_cases h : p i x = true
    · rw [if_pos h, if_pos h]; exact .inr ⟨rfl, by omega⟩
    · rw [if_neg h, if_neg h]; exact res_first p xs (i + 1)
theorem firstI_spec {α : Type} (p : Nat → α → Bool) : ∀ (l : List α) (i : Nat), (firstI p i l = -1 ∧ ∀ (j : Nat) (x : α), l[j]? = some x → p (i + j) x = false) ∨
    ∃ (j : Nat) (x : α), firstI p i l = ((i + j : Nat) : Int) ∧ l[j]? = some x ∧ p (i + j) x = true ∧ ∀ (j' : Nat) (y : α), j' < j → l[j']? = some y → p (i + j') y = false
  | [], i => .inl ⟨rfl, fun j x h => by simp at h⟩
  | x :: xs, i => by
    rw [firstI]
    by_cases h : p i x = true
    · rw [if_pos h]
      exact .inr ⟨0, x, by simp, by simp, by simpa using h, fun j' y hj => by omega⟩
    · rw [if_neg h]
      have h' : p i x = false := by simpa using h
      rcases firstI_spec p xs (i + 1) with ⟨h1, h2⟩ | ⟨j, y, h1, h2, h3, h4⟩
      · refine .inl ⟨h1, fun j y hj => ?_⟩
        cases j with
        | zero => simp at hj; subst hj; exact h'
        | succ j => have := h2 j y (by simpa using hj); rwa [show i + 1 + j = i + (j + 1) by omega] at this
      · refine .inr ⟨j + 1, y, by rw [h1]; omega, by simpa using h2, by rwa [show i + 1 + j = i + (j + 1) by omega] at h3, fun j' z hj hz => ?_⟩
        cases j' with
        | zero => simp at hz; subst hz; exact h'
        | succ j' => have := h4 j' z (by omega) (by simpa using hz); rwa [show i + 1 + j' = i + (j' + 1) by omega] at this
theorem firstI_congr {α : Type} {p q : Nat → α → Bool} : ∀ {l : List α} {i : Nat}, (∀ (j : Nat) (x : α), l[j]? = some x → p (i + j) x = q (i + j) x) → firstI p i l = firstI q i l
  | [], i, _ => rfl
  | x :: xs, i, h => by
    have h0 := h 0 x (by simp)
    rw [Nat.add_zero] at h0
    rw [firstI, firstI, h0, firstI_congr (i := i + 1) fun j y hj => ?_]
    have := h (j + 1) y (by simpa using hj)
    rwa [show i + 1 + j = i + (j + 1) by omega]
theorem mpGet_set {α β : Type} [DecidableEq α] (m : List (α × β)) (a k : α) (b : β) : mpGet (mpSet m a b) k = if a = k then some b else mpGet m k := by
  induction m with
  | nil => simp [mpSet, mpGet]
  | cons p m ih =>
    simp only [mpSet]
    by_cases h : p.1 = a
    · rw [if_pos h]
      simp only [mpGet]
      by_cases h2 : a = k
      · simp [h, h2]
      · simp [h, h2]
    · rw [if_neg h]
      simp only [mpGet, ih]
      by_cases h2 : p.1 = k
      · have : ¬ a = k := fun h3 => h (h2.trans h3.symm)
        simp [h2, this]
      · simp [h2]
end Go.W
end
section
set_option linter.unusedVariables false
set_option linter.unusedSimpArgs false
namespace Go.W
open Go.AM
def posD (ts : List (List Int)) (t p : Nat) : Option Int := (ts[t]?).bind fun l => l[p]?
def totD (ts : List (List Int)) (t : Nat) : Nat := ((ts.take t).map List.length).sum
structure TkOk (ts : List (List Int)) (n : Nat) : Prop where
  rg : ∀ t p i, posD ts t p = some i → 0 ≤ i ∧ i < n
  inj : ∀ t p t' p' i, posD ts t p = some i → posD ts t' p' = some i → t = t' ∧ p = p'
  all : ∀ x, x < n → ∃ t p, posD ts t p = some (x : Int)
  tot : totD ts ts.length = n
structure DOk (d : Disorder) : Prop where
  li : d.items.length ≤ 96
  lh : d.homes.length ≤ 16
  lt : d.tracks.length ≤ 24
  hm : ∀ h ∈ d.homes, 0 ≤ h ∧ h < d.tracks.length
  hd : d.homes.Nodup
  it : ∀ x ∈ d.items, 0 ≤ x.train ∧ x.train < d.homes.length ∧ 0 ≤ x.block ∧ x.block < 32 ∧ x.round = 0 ∧ 1 ≤ x.length ∧ x.length ≤ 400
  tk : TkOk d.tracks d.items.length
theorem tot_succ {ts : List (List Int)} {t : Nat} {l : List Int} (h : ts[t]? = some l) : totD ts (t + 1) = totD ts t + l.length := by
  unfold totD
  rw [List.take_add_one, h]
  simp
theorem tot_le {ts : List (List Int)} : ∀ (k t : Nat), totD ts t ≤ totD ts (t + k)
  | 0, t => Nat.le_refl _
  | k + 1, t => by
    have h1 := tot_le (ts := ts) k t
    cases hl : ts[t + k]? with
    | some l => have := tot_succ hl; rw [show t + (k + 1) = t + k + 1 by omega]; omega
    | none =>
      have : totD ts (t + k + 1) = totD ts (t + k) := by
        unfold totD
        rw [List.take_add_one, hl]; simp
      rw [show t + (k + 1) = t + k + 1 by omega]; omega
theorem tot_all (ts : List (List Int)) : totD ts ts.length = (ts.map List.length).sum := by unfold totD; rw [List.take_of_length_le (Nat.le_refl _)]
theorem tot_set {l : List Int} {x : Int} : ∀ {ts : List (List Int)} {t : Nat}, ts[t]? = some l → totD (ts.set t (l ++ [x])) (ts.set t (l ++ [x])).length = totD ts ts.length + 1 := by
  intro ts
  induction ts with
  | nil => intro t h; simp at h
  | cons a ts ih =>
    intro t h
    rw [tot_all, tot_all]
    cases t with
    | zero => simp at h; subst h; simp; omega
    | succ t =>
      have := ih (t := t) (by simpa using h)
      rw [tot_all, tot_all] at this
      simp only [List.set_cons_succ, List.map_cons, List.sum_cons]
      rw [this]; omega
theorem pos_set {ts : List (List Int)} {l : List Int} {x : Int} {t : Nat} (h : ts[t]? = some l) (t' p' : Nat) : posD (ts.set t (l ++ [x])) t' p' = if t' = t ∧ p' = l.length then some x else posD ts t' p' := by
  have hlt := (List.getElem?_eq_some_iff.1 h).1
  unfold posD
  by_cases ht : t' = t
  · subst ht
    rw [List.getElem?_set_self hlt, h]
    simp only [Option.bind_some, true_and]
    by_cases hp : p' < l.length
    · rw [List.getElem?_append_left hp, if_neg (by omega)]
    · rw [List.getElem?_append_right (by omega)]
      by_cases hp2 : p' = l.length
      · subst hp2; simp
      · rw [if_neg hp2, List.getElem?_eq_none (by simp; omega), List.getElem?_eq_none (by omega)]
  · rw [List.getElem?_set_ne (fun e => ht e.symm), if_neg (fun e => ht e.1)]
theorem TkOk.add {ts : List (List Int)} {n t : Nat} {l : List Int} (h : TkOk ts n) (hl : ts[t]? = some l) : TkOk (ts.set t (l ++ [(n : Int)])) (n + 1) where
  rg := fun t' p' i hi => by
    rw [pos_set hl] at hi
    split at hi
    · cases hi; omega
    · have := h.rg _ _ _ hi; omega
  inj := fun t1 p1 t2 p2 i h1 h2 => by
    rw [pos_set hl] at h1 h2
    split at h1
    · cases h1
      split at h2
      · omega
      · have := h.rg _ _ _ h2; omega
    · split at h2
      · cases h2
        have := h.rg _ _ _ h1; omega
      · exact h.inj _ _ _ _ _ h1 h2
  all := fun x hx => by
    by_cases hxn : x = n
    · subst hxn
      exact ⟨t, l.length, by rw [pos_set hl, if_pos ⟨rfl, rfl⟩]⟩
    · obtain ⟨t', p', h'⟩ := h.all x (by omega)
      refine ⟨t', p', ?_⟩
      rw [pos_set hl]
      split
      · rename_i hh
        obtain ⟨rfl, rfl⟩ := hh
        unfold posD at h'
        rw [hl] at h'
        simp at h'
      · exact h'
  tot := by rw [tot_set hl, h.tot]
theorem tk_nil (k : Nat) : TkOk (List.replicate k []) 0 where
  rg := fun t p i h => by
    unfold posD at h
    rw [List.getElem?_replicate] at h
    split at h <;> simp at h
  inj := fun t p t' p' i h => by
    unfold posD at h
    rw [List.getElem?_replicate] at h
    split at h <;> simp at h
  all := fun x hx => by omega
  tot := by rw [tot_all]; simp
theorem mkI_ok {α : Type} {x : α} {n : Int} (h0 : 0 ≤ n) (h1 : n ≤ 4294967296) : mkI x n = some (List.replicate n.toNat x) := by
  unfold mkI; rw [if_pos (by constructor <;> assumption)]
theorem dis0 (N : Nat) (x6 : Int) (h6 : 0 ≤ x6 ∧ x6 ≤ 16) (d : Disorder) (ts : List (List Int)) : ∀ (k n : Nat) (hs : List Int), k < n → (hs.length : Int) + k = x6 → (∀ (i : Nat) (h : Int), hs[i]? = some h → h = i) →
    ∃ d' hs', zaK_0 N x6 n d hs ts = some (d', hs', ts) ∧ (hs'.length : Int) = x6 ∧ ∀ (i : Nat) (h : Int), hs'[i]? = some h → h = i
  | k, 0, hs, h, _, _ => by omega
  | 0, n + 1, hs, h, hl, hi => by
    unfold zaK_0
    rw [if_neg (by simp; omega)]
    exact ⟨_, hs, rfl, by omega, hi⟩
  | k + 1, n + 1, hs, h, hl, hi => by
    unfold zaK_0
    rw [if_pos (by simp; omega), appI_ok (by simp; omega), bind_some']
    obtain ⟨d', hs', g1, g2, g3⟩ := dis0 N x6 h6 (Disorder.mk [] [] []) ts k n (hs ++ [(hs.length : Int)]) (by omega) (by simp; omega) (fun i h' hh => by
      by_cases hlt : i < hs.length
      · rw [List.getElem?_append_left hlt] at hh; exact hi i h' hh
      · rw [List.getElem?_append_right (by omega)] at hh
        have := (List.getElem?_eq_some_iff.1 hh).1
        simp at this
        have : i = hs.length := by omega
        subst this
        simp at hh
        exact hh.symm)
    exact ⟨d', hs', g1, g2, g3⟩
theorem dis2 (N : Nat) (x5 x6 : Int) (h5 : 2 ≤ x5 ∧ x5 ≤ 5) (h6 : 0 ≤ x6 ∧ x6 ≤ x5) (ts : List (List Int)) : ∀ (k n i : Nat) (hs : List Int), k < n → (i : Int) + k = x6 → (hs.length : Int) = x6 → (∀ (j : Nat) (h : Int), hs[j]? = some h → h = if j < i then x5 - 1 - j else j) →
    ∃ hs', zaK_2 N x5 x6 n i hs ts = some (hs', ts) ∧ (hs'.length : Int) = x6 ∧ ∀ (j : Nat) (h : Int), hs'[j]? = some h → h = x5 - 1 - j
  | k, 0, i, hs, h, _, _, _ => by omega
  | 0, n + 1, i, hs, h, hk, hl, hi => by
    unfold zaK_2
    rw [if_neg (by simp; omega)]
    refine ⟨hs, rfl, hl, fun j h' hh => ?_⟩
    have := (List.getElem?_eq_some_iff.1 hh).1
    rw [hi j h' hh, if_pos (by omega)]
  | k + 1, n + 1, i, hs, h, hk, hl, hi => by
    unfold zaK_2
    have hlt : i < hs.length := by omega
    rw [if_pos (by simp; omega), getI_nat (at_lt hlt), bind_some', bind_some', lt_def, lt_def, w64s (by omega), w64 (n := x5 - 1) (by omega) (by omega), w64 (n := x5 - 1 - i) (by omega) (by omega)]
    refine dis2 N x5 x6 h5 h6 ts k n (i + 1) _ (by omega) (by omega) (by simp; omega) fun j h' hh => ?_
    rw [Int.toNat_natCast, List.getElem?_set] at hh
    by_cases hij : i = j
    · subst hij
      rw [if_pos rfl, if_pos hlt] at hh
      cases hh
      rw [if_pos (by omega)]
    · rw [if_neg hij] at hh
      rw [hi j h' hh]
      by_cases hj : j < i
      · rw [if_pos hj, if_pos (by omega)]
      · rw [if_neg hj, if_neg (by omega)]
structure HmOk (hs : List Int) (nt : Nat) : Prop where
  len : 1 ≤ hs.length ∧ hs.length ≤ 3
  rg : ∀ h ∈ hs, 0 ≤ h ∧ h < nt
  nd : hs.Nodup
theorem hm_of {hs : List Int} {nt : Nat} (hl : 1 ≤ hs.length ∧ hs.length ≤ 3) (f : Nat → Int) (hf : ∀ (j : Nat) (h : Int), hs[j]? = some h → h = f j) (hr : ∀ j, j < hs.length → 0 ≤ f j ∧ f j < nt) (hi : ∀ i j, i < hs.length → j < hs.length → f i = f j → i = j) : HmOk hs nt where
  len := hl
  rg := fun h hh => by
    obtain ⟨j, hj, he⟩ := List.mem_iff_getElem.1 hh
    have := hf j h (by rw [List.getElem?_eq_getElem hj, he])
    rw [this]; exact hr j hj
  nd := List.pairwise_iff_getElem.2 fun i j hi' hj hij hh => by
    have h1 := hf i _ (at_lt hi')
    have h2 := hf j _ (at_lt hj)
    have := hi i j hi' hj (by rw [← h1, ← h2, hh])
    omega
structure DI (c : Int) (hs : List Int) (nt : Nat) (k : Maker) (its : List Item) (ts : List (List Int)) (bl : List Int) : Prop where
  mkr : Mk c k
  tk : TkOk ts its.length
  tl : ts.length = nt
  it : ∀ x ∈ its, 0 ≤ x.train ∧ x.train < hs.length ∧ 0 ≤ x.block ∧ x.block < 32 ∧ x.round = 0 ∧ 1 ≤ x.length ∧ x.length ≤ 400
  bll : bl.length = hs.length
  br : ∀ b ∈ bl, 0 ≤ b ∧ b ≤ 31
theorem mem_set {α : Type} {l : List α} {i : Nat} {a b : α} (h : b ∈ l.set i a) : b = a ∨ b ∈ l := by
  have := List.mem_or_eq_of_mem_set h
  exact this.symm
theorem dis3 (N : Nat) {hs : List Int} {nt : Nat} (hH : HmOk hs nt) (hnt : 2 ≤ nt ∧ nt ≤ 5) (x9 : Int) (C : Int) (hC : C ≤ 1000000) : ∀ (k n : Nat) (c : Int) (kk : Maker) (d : Disorder) (bl : List Int) (its : List Item) (ts : List (List Int)), k < n → c + 8 * k ≤ C → its.length + k ≤ 96 → DI c hs nt kk its ts bl →
    ∃ kk' d' its' ts', zaK_3 N nt hs.length x9 hs n kk d bl k its ts = some (kk', d', its', ts') ∧ Mk C kk' ∧ TkOk ts' its'.length ∧ ts'.length = nt ∧ its'.length ≤ its.length + k ∧ ∀ x ∈ its', 0 ≤ x.train ∧ x.train < hs.length ∧ 0 ≤ x.block ∧ x.block < 32 ∧ x.round = 0 ∧ 1 ≤ x.length ∧ x.length ≤ 400
  | k, 0, c, kk, d, bl, its, ts, h, _, _, _ => by omega
  | 0, n + 1, c, kk, d, bl, its, ts, h, hc, hi, hD => by
    unfold zaK_3
    rw [if_neg (by simp)]
    exact ⟨kk, _, its, ts, rfl, hD.mkr.le (by omega), hD.tk, hD.tl, by omega, hD.it⟩
  | k + 1, n + 1, c, kk, d, bl, its, ts, h, hc, hi, hD => by
    unfold zaK_3
    rw [if_pos (by simp)]
    obtain ⟨t1, k1, e1, b1, b2, m1⟩ := next_ok N (hs.length : Int) (by have := hH.len; omega) (by have := hH.len; omega) hD.mkr (by omega)
    rw [e1, bind_some']
    obtain ⟨t2, k2, e2, c1, c2, m2⟩ := next_ok N 4 (by omega) (by omega) m1 (by omega)
    simp only [e2, bind_some']
    obtain ⟨t3, k3, e3, d1, m3⟩ := pick_ok N [80, 142, 262] (by simp) (by simp) m2 (by omega)
    simp only [e3, bind_some']
    obtain ⟨j1, rfl⟩ := Int.eq_ofNat_of_zero_le b1
    have hj1 : j1 < hs.length := by omega
    have hb1 : j1 < bl.length := by rw [hD.bll]; exact hj1
    have hhome := hH.rg _ (List.getElem_mem hj1)
    rw [getI_nat (at_lt hj1), bind_some', bind_some']
    have p4 : ∃ k4 b4, zaK_4 N k3 x9 = some (k4, b4) ∧ Mk (c + 4) k4 := by
      unfold zaK_4
      split
      · obtain ⟨t, k', e, _, _, m⟩ := next_ok N 5 (by omega) (by omega) m3 (by omega)
        rw [e, bind_some']
        exact ⟨_, _, rfl, m.le (by omega)⟩
      · exact ⟨_, _, rfl, m3.le (by omega)⟩
    obtain ⟨k4, b4, e4, m4⟩ := p4
    simp only [e4, bind_some']
    have hlen : 1 ≤ t3 ∧ t3 ≤ 400 := by simp at d1; omega
    have p5 : ∃ k5 bl5 it5, zaK_5 N k4 bl (j1 : Int) (Item.mk j1 t2 0 t3) b4 = some (k5, bl5, it5) ∧ Mk (c + 5) k5 ∧ bl5.length = hs.length ∧ (∀ b ∈ bl5, 0 ≤ b ∧ b ≤ 31) ∧ (0 ≤ it5.train ∧ it5.train < hs.length ∧ 0 ≤ it5.block ∧ it5.block < 32 ∧ it5.round = 0 ∧ 1 ≤ it5.length ∧ it5.length ≤ 400) := by
      unfold zaK_5
      split
      · have hb := hD.br _ (List.getElem_mem hb1)
        rw [getI_nat (at_lt hb1), bind_some', bind_some']
        obtain ⟨t, k', e, q1, q2, m⟩ := next_ok N 2 (by omega) (by omega) m4 (by omega)
        simp only [e, bind_some', lt_def]
        have hw : IntKind.wrap .i64 (bl[j1] + t) = bl[j1] + t := w64 (by omega) (by omega)
        rw [hw]
        refine ⟨_, _, _, rfl, m.le (by omega), by simp [hD.bll], fun b hb' => ?_, ?_⟩
        · rcases mem_set hb' with rfl | hb'
          · omega
          · exact hD.br b hb'
        · simp only
          refine ⟨by omega, by omega, by omega, by omega, trivial, hlen⟩
      · exact ⟨_, _, _, rfl, m4.le (by omega), hD.bll, hD.br, by simp only; exact ⟨by omega, by omega, by omega, by omega, trivial, hlen⟩⟩
    obtain ⟨k5, bl5, it5, e5, m5, l5, r5, v5⟩ := p5
    simp only [e5, bind_some']
    have p6 : ∃ k6 b6, zaK_6 N k5 x9 = some (k6, b6) ∧ Mk (c + 6) k6 := by
      unfold zaK_6
      split
      · obtain ⟨t, k', e, _, _, m⟩ := next_ok N 4 (by omega) (by omega) m5 (by omega)
        rw [e, bind_some']
        exact ⟨_, _, rfl, m.le (by omega)⟩
      · exact ⟨_, _, rfl, m5.le (by omega)⟩
    obtain ⟨k6, b6, e6, m6⟩ := p6
    simp only [e6, bind_some']
    have p7 : ∃ k7 on, zaK_7 N k6 (nt : Int) hs[j1] b6 = some (k7, on) ∧ Mk (c + 7) k7 ∧ 0 ≤ on ∧ on < nt := by
      unfold zaK_7
      split
      · obtain ⟨t, k', e, q1, q2, m⟩ := next_ok N (nt : Int) (by omega) (by omega) m6 (by omega)
        rw [e, bind_some']
        exact ⟨_, _, rfl, m.le (by omega), q1, q2⟩
      · exact ⟨_, _, rfl, m6.le (by omega), hhome⟩
    obtain ⟨k7, on, e7, m7, o1, o2⟩ := p7
    simp only [e7, bind_some']
    obtain ⟨j2, rfl⟩ := Int.eq_ofNat_of_zero_le o1
    have hj2 : j2 < ts.length := by rw [hD.tl]; omega
    have hl2 := at_lt hj2
    have hlen2 : (ts[j2]).length ≤ 96 := by
      have h1 := tot_succ hl2
      have h2 := tot_le (ts := ts) (ts.length - (j2 + 1)) (j2 + 1)
      rw [show j2 + 1 + (ts.length - (j2 + 1)) = ts.length by omega, hD.tk.tot] at h2
      omega
    rw [getI_nat hl2, bind_some', bind_some', appI_ok (by simp; omega), bind_some', bind_some', if_pos trivial, bind_some', appI_ok (by simp; omega), bind_some', lt_def, w64p (by omega), Int.toNat_natCast]
    obtain ⟨kk', d', its', ts', g1, g2, g3, g4, g5, g6⟩ := dis3 N hH hnt x9 C hC k n (c + 8) k7 (Disorder.mk [] [] []) bl5 (its ++ [it5]) (ts.set j2 (ts[j2] ++ [(its.length : Int)])) (by omega) (by omega) (by simp; omega)
      ⟨m7.le (by omega), by rw [List.length_append]; exact hD.tk.add hl2, by simp [hD.tl], fun x hx => by
        rcases List.mem_append.1 hx with hx | hx
        · exact hD.it x hx
        · simp at hx; subst hx; exact v5, l5, r5⟩
    exact ⟨kk', d', its', ts', g1, g2, g3, g4, by simp at g5; omega, g6⟩
theorem made_dis2 (N : Nat) (hN : 100 ≤ N) {c : Int} (hc : c ≤ 100000) {s : Maker} (hs : Mk c s) (n : Int) (hn : 0 ≤ n ∧ n ≤ 90) : ∃ d s', zaK N s n = some (d, s') ∧ DOk d ∧ Mk (c + 1000) s' ∧ (d.items.length : Int) ≤ n ∧ 1 ≤ d.homes.length ∧ 1 ≤ d.tracks.length := by
  unfold zaK
  obtain ⟨r1, k1, e1, a1, a2, m1⟩ := next_ok N 4 (by omega) (by omega) hs (by omega)
  rw [e1, bind_some', lt_def]
  simp only
  rw [w64 (n := 2 + r1) (by omega) (by omega), mkI_ok (by omega) (by omega), bind_some']
  obtain ⟨r2, k2, e2, b1, b2, m2⟩ := next_ok N (min 3 (2 + r1)) (by omega) (by omega) m1 (by omega)
  rw [e2, bind_some', lt_def]
  simp only
  rw [w64 (n := 1 + r2) (by omega) (by omega)]
  obtain ⟨d0, hs0, f1, f2, f3⟩ := dis0 N (1 + r2) (by omega) (Disorder.mk [] [] []) (List.replicate (2 + r1).toNat []) (1 + r2).toNat N [] (by omega) (by simp; omega) (by simp)
  rw [f1, bind_some']
  obtain ⟨r3, k3, e3, c1, c2, m3⟩ := next_ok N 2 (by omega) (by omega) m2 (by omega)
  simp only [e3, bind_some']
  obtain ⟨nt, hnt⟩ := Int.eq_ofNat_of_zero_le (show 0 ≤ 2 + r1 by omega)
  have p1 : ∃ hs1, zaK_1 N (2 + r1) (1 + r2) (r3 == 0) hs0 (List.replicate (2 + r1).toNat []) = some (hs1, List.replicate (2 + r1).toNat []) ∧ (hs1.length : Int) = 1 + r2 ∧ HmOk hs1 nt := by
    unfold zaK_1
    split
    · obtain ⟨hs', g1, g2, g3⟩ := dis2 N (2 + r1) (1 + r2) (by omega) (by omega) (List.replicate (2 + r1).toNat []) (1 + r2).toNat N 0 hs0 (by omega) (by omega) f2 (fun j h hh => by rw [if_neg (by omega)]; exact f3 j h hh)
      have g1 : zaK_2 N (2 + r1) (1 + r2) N 0 hs0 (List.replicate (2 + r1).toNat []) = _ := g1
      rw [g1, bind_some']
      exact ⟨hs', rfl, g2, hm_of (by omega) _ g3 (fun j hj => by omega) (fun i j _ _ h => by omega)⟩
    · exact ⟨hs0, rfl, f2, hm_of (by omega) (fun j => j) f3 (fun j hj => by omega) (fun i j _ _ h => by omega)⟩
  obtain ⟨hs1, q1, q2, hH⟩ := p1
  rw [q1, bind_some']
  obtain ⟨r4, k4, e4, _, _, m4⟩ := next_ok N 3 (by omega) (by omega) m3 (by omega)
  simp only [e4, bind_some']
  rw [mkI_ok (by omega) (by omega), bind_some', w64 (n := n + 1) (by omega) (by omega)]
  obtain ⟨r5, k5, e5, i1, i2, m5⟩ := next_ok N (n + 1) (by omega) (by omega) m4 (by omega)
  simp only [e5, bind_some']
  obtain ⟨j5, rfl⟩ := Int.eq_ofNat_of_zero_le i1
  obtain ⟨kk', d', its', ts', g1, g2, g3, g4, g5, g6⟩ := dis3 N hH (by omega) r4 (c + 1000) (by omega) j5 N (c + 1 + 1 + 1 + 1 + 1) k5 (Disorder.mk [] [] []) (List.replicate (1 + r2).toNat 0) [] (List.replicate (2 + r1).toNat []) (by omega) (by omega) (by simp; omega)
    ⟨m5, tk_nil _, by simp; omega, by simp, by simp; omega, fun b hb => by have := List.eq_of_mem_replicate hb; omega⟩
  rw [hnt, ← q2] at g1
  rw [hnt, ← q2, g1, bind_some']
  refine ⟨_, _, rfl, ⟨by simp at g5 ⊢; omega, by have := hH.len; simp; omega, by simp; omega, fun h hh => ?_, hH.nd, g6, ?_⟩, g2, by simp at g5 ⊢; omega, hH.len.1, by simp; omega⟩
  · have := hH.rg h hh; simp; omega
  · simpa using g3
theorem made_dis (N : Nat) (hN : 100 ≤ N) {s : Maker} (hs : Mk 0 s) (n : Int) (hn : 0 ≤ n ∧ n ≤ 90) : ∃ d s', zaK N s n = some (d, s') ∧ DOk d ∧ Mk 1000 s' ∧ (d.items.length : Int) ≤ n ∧ 1 ≤ d.homes.length ∧ 1 ≤ d.tracks.length := made_dis2 N hN (by omega) hs n hn
end Go.W
end
section
set_option linter.unusedVariables false
set_option linter.unusedSimpArgs false
namespace Go.W
open Go.AM
theorem idx_ok (N : Nat) (xs : List Int) (v : Int) (hN : xs.length < N) (hx : xs.length < 1000) : zaE N xs v = some (firstI (fun _ x => v == x) 0 xs) := by
  unfold zaE
  have h := first_gen (l := xs) (fun _ x => v == x) (fun i _ => (i : Int)) (zaE_0 N xs v (xs.length : Int)) (fun n => by unfold zaE_0; rw [if_neg (by simp)]) (fun n i x hx' => by
    have hi := (List.getElem?_eq_some_iff.1 hx').1
    rw [zaE_0, if_pos (by simp; omega), getI_nat hx', bind_some', w64s (by omega)]) xs.length N 0 hN (by omega)
  have h : zaE_0 N xs v (xs.length : Int) N 0 = _ := h
  rw [h, bind_some', List.drop_zero]
  rcases res_first (fun (_ : Nat) x => v == x) xs 0 with ⟨h1, h2⟩ | ⟨h1, h2⟩
  · rw [h1, h2]
  · rw [h1]
theorem con_ok (N : Nat) (xs : List Int) (v : Int) (hN : xs.length < N) (hx : xs.length < 1000) : zaC N xs v = some (decide (v ∈ xs)) := by
  unfold zaC
  rw [idx_ok N xs v hN hx, bind_some', lt_def]
  congr 1
  rcases firstI_spec (fun _ x => v == x) xs 0 with ⟨h1, h2⟩ | ⟨j, x, h1, h2, h3, h4⟩
  · rw [h1]
    symm
    rw [show (decide ((0 : Int) ≤ -1)) = false from rfl, decide_eq_false_iff_not]
    intro hm
    obtain ⟨j, hj, he⟩ := List.mem_iff_getElem.1 hm
    have := h2 j v (by rw [List.getElem?_eq_getElem hj, he])
    simp at this
  · rw [h1, decide_eq_true (by omega)]
    symm
    rw [decide_eq_true_iff]
    have : v = x := by simpa using h3
    rw [this]; exact List.mem_of_getElem? h2
structure AtOk (d : Disorder) (at' : List Spot) : Prop where
  len : at'.length = d.items.length
  ps : ∀ (t p x : Nat), posD d.tracks t p = some (x : Int) → at'[x]? = some (Spot.mk t p)
structure SpI (ts : List (List Int)) (n t j : Nat) (at' : List Spot) (seen : List Bool) : Prop where
  l1 : at'.length = n
  l2 : seen.length = n
  ps : ∀ (t' p x : Nat), posD ts t' p = some (x : Int) → (t' < t ∨ (t' = t ∧ p < j)) → at'[x]? = some (Spot.mk t' p)
  sn : ∀ (x : Nat), seen[x]? = some true → ∃ t' p, posD ts t' p = some (x : Int) ∧ (t' < t ∨ (t' = t ∧ p < j))
theorem SpI.step {ts : List (List Int)} {n t j : Nat} {at' : List Spot} {seen : List Bool} (h : SpI ts n t j at' seen) (hT : TkOk ts n) {x : Nat} (hx : posD ts t j = some (x : Int)) : seen[x]? = some false ∧ SpI ts n t (j + 1) (at'.set x (Spot.mk t j)) (seen.set x true) := by
  have hr := hT.rg _ _ _ hx
  have hxn : x < seen.length := by rw [h.l2]; omega
  refine ⟨?_, ⟨by simp [h.l1], by simp [h.l2], fun t' p y hy hlt => ?_, fun y hy => ?_⟩⟩
  · rw [at_lt hxn]
    cases hs : seen[x] with
    | false => rfl
    | true =>
      obtain ⟨t', p, h1, h2⟩ := h.sn x (by rw [at_lt hxn, hs])
      have := hT.inj _ _ _ _ _ hx h1
      omega
  · rw [List.getElem?_set]
    by_cases hxy : x = y
    · subst hxy
      obtain ⟨rfl, rfl⟩ := hT.inj _ _ _ _ _ hx hy
      rw [if_pos rfl, if_pos (by rw [h.l1]; omega)]
    · rw [if_neg hxy]
      refine h.ps t' p y hy ?_
      rcases hlt with hlt | ⟨rfl, hlt⟩
      · exact .inl hlt
      · by_cases hpj : p = j
        · subst hpj; rw [hx] at hy; cases hy; exact absurd rfl hxy
        · exact .inr ⟨rfl, by omega⟩
  · rw [List.getElem?_set] at hy
    by_cases hxy : x = y
    · subst hxy
      exact ⟨t, j, hx, .inr ⟨rfl, by omega⟩⟩
    · rw [if_neg hxy] at hy
      obtain ⟨t', p, h1, h2⟩ := h.sn y hy
      exact ⟨t', p, h1, by omega⟩
theorem spots1 (N : Nat) {ts : List (List Int)} {n t : Nat} {l : List Int} (hT : TkOk ts n) (hl : ts[t]? = some l) (hn : n ≤ 1000) (hll : l.length ≤ 1000) : ∀ (k m j : Nat) (at' : List Spot) (seen : List Bool) (c : Nat), k < m → j + k = l.length → c + k ≤ 1000 → SpI ts n t j at' seen →
    ∃ at2 seen2, zaX_1 N (t : Int) l (l.length : Int) m at' seen (c : Int) (j : Int) = some (.inl (at2, seen2, ((c + k : Nat) : Int))) ∧ SpI ts n t l.length at2 seen2
  | k, 0, j, at', seen, c, h, _, _, _ => by omega
  | 0, m + 1, j, at', seen, c, h, hj, hc, hI => by
    unfold zaX_1
    rw [if_neg (by simp; omega)]
    exact ⟨at', seen, rfl, by rw [show l.length = j by omega]; exact hI⟩
  | k + 1, m + 1, j, at', seen, c, h, hj, hc, hI => by
    unfold zaX_1
    have hlt : j < l.length := by omega
    have hp : posD ts t j = some l[j] := by unfold posD; rw [hl]; exact at_lt hlt
    obtain ⟨r0, r1⟩ := hT.rg _ _ _ hp
    obtain ⟨x, hx⟩ := Int.eq_ofNat_of_zero_le r0
    rw [hx] at hp r1
    obtain ⟨s1, s2⟩ := hI.step hT hp
    have hxa : x < at'.length := by rw [hI.l1]; omega
    have h2 : zaX_2 N at' seen (x : Int) = some false := by
      unfold zaX_2
      rw [if_neg (by simp), if_neg (by simp; omega), getI_nat s1, bind_some', bind_some']
    rw [if_pos (by simp; omega), getI_nat (at_lt hlt), bind_some', hx, h2, bind_some', if_neg (by simp), getI_nat (at_lt hxa), bind_some', bind_some', lt_def, getI_nat s1, bind_some', bind_some', lt_def, lt_def, Int.toNat_natCast, w64s (by omega), w64s (by omega)]
    obtain ⟨a2, b2, g1, g2⟩ := spots1 N hT hl hn hll k m (j + 1) _ _ (c + 1) (by omega) (by omega) (by omega) s2
    exact ⟨a2, b2, by rw [g1, show c + 1 + k = c + (k + 1) by omega], g2⟩
theorem SpI.next {ts : List (List Int)} {n t : Nat} {l : List Int} {at' : List Spot} {seen : List Bool} (hl : ts[t]? = some l) (h : SpI ts n t l.length at' seen) : SpI ts n (t + 1) 0 at' seen where
  l1 := h.l1
  l2 := h.l2
  ps := fun t' p x hx hlt => by
    refine h.ps t' p x hx ?_
    rcases hlt with hlt | hlt
    · by_cases ht : t' = t
      · subst ht
        refine .inr ⟨rfl, ?_⟩
        unfold posD at hx
        rw [hl] at hx
        exact (List.getElem?_eq_some_iff.1 hx).1
      · exact .inl (by omega)
    · omega
  sn := fun x hx => by
    obtain ⟨t', p, h1, h2⟩ := h.sn x hx
    exact ⟨t', p, h1, by omega⟩
theorem spots0 (N : Nat) {ts : List (List Int)} {n : Nat} (hN : n < N) (hT : TkOk ts n) (hn : n ≤ 1000) (hts : ts.length < 1000) : ∀ (k m t : Nat) (at' : List Spot) (seen : List Bool), k < m → t + k = ts.length → SpI ts n t 0 at' seen →
    ∃ at2 seen2, zaX_0 N ts (ts.length : Int) m at' seen (totD ts t : Int) (t : Int) = some (.inl (at2, (totD ts ts.length : Int))) ∧ SpI ts n ts.length 0 at2 seen2
  | k, 0, t, at', seen, h, _, _ => by omega
  | 0, m + 1, t, at', seen, h, ht, hI => by
    unfold zaX_0
    obtain rfl : t = ts.length := by omega
    rw [if_neg (by simp)]
    exact ⟨at', seen, rfl, hI⟩
  | k + 1, m + 1, t, at', seen, h, ht, hI => by
    unfold zaX_0
    have hlt : t < ts.length := by omega
    have hl := at_lt hlt
    have htot := tot_succ hl
    have hle := tot_le (ts := ts) (ts.length - (t + 1)) (t + 1)
    rw [show t + 1 + (ts.length - (t + 1)) = ts.length by omega, hT.tot] at hle
    rw [if_pos (by simp; omega), getI_nat hl, bind_some']
    obtain ⟨a2, b2, g1, g2⟩ := spots1 N hT hl hn (by omega) ts[t].length N 0 at' seen (totD ts t) (by omega) (by omega) (by omega) hI
    have g1 : zaX_1 N (t : Int) ts[t] (ts[t].length : Int) N at' seen (totD ts t : Int) 0 = _ := g1
    rw [g1, bind_some']
    simp only
    rw [w64s (by omega), ← htot]
    exact spots0 N hN hT hn hts k m (t + 1) a2 b2 (by omega) (by omega) (g2.next hl)
theorem spots_ok (N : Nat) (hN : 200 ≤ N) {d : Disorder} (hT : TkOk d.tracks d.items.length) (hn : d.items.length ≤ 96) (ht : d.tracks.length ≤ 100) : ∃ at', zaX N d = some (at', true) ∧ AtOk d at' := by
  unfold zaX
  rw [mkI_ok (by omega) (by omega), bind_some', mkI_ok (by omega) (by omega), bind_some']
  obtain ⟨a2, b2, g1, g2⟩ := spots0 N (by omega) hT (by omega) (by omega) d.tracks.length N 0 (List.replicate (d.items.length : Int).toNat (Spot.mk 0 0)) (List.replicate (d.items.length : Int).toNat false) (by omega) (by omega)
    ⟨by simp, by simp, fun t' p x _ h => by omega, fun x hx => by
      rw [List.getElem?_replicate] at hx
      split at hx <;> simp at hx⟩
  have h0 : totD d.tracks 0 = 0 := by simp [totD]
  rw [h0] at g1
  have g1 : zaX_0 N d.tracks (d.tracks.length : Int) N (List.replicate (d.items.length : Int).toNat (Spot.mk 0 0)) (List.replicate (d.items.length : Int).toNat false) 0 0 = _ := g1
  rw [g1, bind_some', hT.tot]
  simp only
  rw [lt_def, g2.l1]
  refine ⟨a2, by simp, g2.l1, fun t p x hx => g2.ps t p x hx (.inl ?_)⟩
  unfold posD at hx
  cases h : d.tracks[t]? with
  | none => rw [h] at hx; cases hx
  | some l => exact (List.getElem?_eq_some_iff.1 h).1
theorem valid_ok (N : Nat) (hN : 200 ≤ N) {d : Disorder} (hD : DOk d) : zaU N d = some true := by
  unfold zaU
  have h0 : zaU_0 N d = some false := by
    unfold zaU_0
    have := hD.li; have := hD.lh; have := hD.lt
    rw [if_neg (by simp; omega), if_neg (by simp; omega)]
    simp; omega
  have h1 := first_gen (l := d.homes) (fun _ _ => false) (fun _ _ => false) (zaU_1 N d d.homes (d.homes.length : Int)) (fun n => by unfold zaU_1; rw [if_neg (by simp)]) (fun n i x hx => by
    have hi := (List.getElem?_eq_some_iff.1 hx).1
    have hlh := hD.lh
    have hr := hD.hm x (List.mem_of_getElem? hx)
    have h2 : zaU_2 N d (i : Int) x = some false := by
      unfold zaU_2
      rw [if_neg (by simp; omega), if_neg (by simp; omega), cutI_take (by omega), bind_some', con_ok N _ _ (by simp; omega) (by simp; omega), bind_some']
      congr 1
      rw [decide_eq_false_iff_not]
      intro hm
      obtain ⟨j, hj, he⟩ := List.mem_iff_getElem.1 hm
      rw [List.getElem_take] at he
      rw [List.length_take] at hj
      have hx' := (List.getElem?_eq_some_iff.1 hx).2
      have := (List.pairwise_iff_getElem.1 hD.hd) j i (by omega) hi (by omega)
      exact this (he.trans hx'.symm)
    rw [zaU_1, if_pos (by simp; omega), getI_nat hx, bind_some', h2, bind_some', if_neg (by simp), if_neg (by simp), w64s (by omega)]) d.homes.length N 0 (by have := hD.lh; omega) (by omega)
  have hres : ∀ {α β : Type} (o : Nat → α → β) (i : Nat) (l : List α), res (fun _ _ => false) o i l = .inl () := by
    intro α β o i l
    induction l generalizing i with
    | nil => rfl
    | cons x l ih => rw [res, if_neg (by simp), ih]
  have h1 : zaU_1 N d d.homes (d.homes.length : Int) N 0 = _ := h1
  rw [hres] at h1
  have h3 := first_gen (l := d.items) (fun _ _ => false) (fun _ _ => false) (zaU_3 N d d.items (d.items.length : Int)) (fun n => by unfold zaU_3; rw [if_neg (by simp)]) (fun n i x hx => by
    have hi := (List.getElem?_eq_some_iff.1 hx).1
    have hli := hD.li
    have hr := hD.it x (List.mem_of_getElem? hx)
    have h4 : zaU_4 N d x = some false := by
      unfold zaU_4
      rw [if_neg (by simp; omega), if_neg (by simp; omega), if_neg (by simp; omega), if_neg (by simp; omega), if_neg (by simp [hr.2.2.2.2.1]), if_neg (by simp; omega)]
      simp; omega
    rw [zaU_3, if_pos (by simp; omega), getI_nat hx, bind_some', h4, bind_some', if_neg (by simp), if_neg (by simp), w64s (by omega)]) d.items.length N 0 (by have := hD.li; omega) (by omega)
  have h3 : zaU_3 N d d.items (d.items.length : Int) N 0 = _ := h3
  rw [hres] at h3
  obtain ⟨a, ha, _⟩ := spots_ok N hN hD.tk hD.li (by have := hD.lt; omega)
  rw [h0, bind_some', if_neg (by simp), h1, bind_some']
  simp only
  rw [h3, bind_some']
  simp only
  rw [ha, bind_some']
theorem open0 (N : Nat) (n : Nat) (hn : n ≤ 1000) : ∀ (k m i : Nat) (rd : List Int), k < m → i + k = n → rd.length = n → (∀ j x, j < i → rd[j]? = some x → x = -1) → ∃ rd', zbC_0 N (n : Int) m (i : Int) rd = some rd' ∧ rd' = List.replicate n (-1)
  | k, 0, i, rd, h, _, _, _ => by omega
  | 0, m + 1, i, rd, h, hi, hl, hr => by
    unfold zbC_0
    obtain rfl : i = n := by omega
    rw [if_neg (by simp)]
    refine ⟨rd, rfl, List.ext_getElem (by simp [hl]) fun j h1 h2 => ?_⟩
    rw [List.getElem_replicate]
    exact hr j _ (by omega) (at_lt h1)
  | k + 1, m + 1, i, rd, h, hi, hl, hr => by
    unfold zbC_0
    have hlt : i < rd.length := by omega
    rw [if_pos (by simp; omega), getI_nat (at_lt hlt), bind_some', bind_some', lt_def, Int.toNat_natCast, w64s (by omega)]
    refine open0 N n hn k m (i + 1) _ (by omega) (by omega) (by simp [hl]) fun j x hj hx => ?_
    rw [List.getElem?_set] at hx
    by_cases hij : i = j
    · rw [if_pos hij, if_pos (by omega)] at hx
      cases hx; rfl
    · rw [if_neg hij] at hx
      exact hr j x (by omega) hx
theorem open_ok (N : Nat) (hN : 200 ≤ N) {d : Disorder} (hD : DOk d) : ∃ at', zbC N d = some (Scene.mk d [] [], at', List.replicate d.items.length (-1)) ∧ AtOk d at' := by
  unfold zbC
  have hli := hD.li
  obtain ⟨a, ha, hA⟩ := spots_ok N hN hD.tk hD.li (by have := hD.lt; omega)
  rw [mkI_ok (by omega) (by omega), bind_some', ha, bind_some']
  obtain ⟨rd, h1, h2⟩ := open0 N d.items.length (by omega) d.items.length N 0 (List.replicate (d.items.length : Int).toNat 0) (by omega) (by omega) (by simp) (fun j x hj => by omega)
  have h1 : zbC_0 N (d.items.length : Int) N 0 (List.replicate (d.items.length : Int).toNat 0) = _ := h1
  simp only [List.length_replicate, Int.toNat_natCast] at h1 ⊢
  rw [h1, bind_some', h2]
  exact ⟨a, rfl, hA⟩
end Go.W
end
section
set_option linter.unusedVariables false
set_option linter.unusedSimpArgs false
namespace Go.W
open Go.AM
def itm (d : Disorder) (x : Nat) : Item := (d.items[x]?).getD (Item.mk 0 0 0 0)
def atx (a : List Spot) (x : Nat) : Spot := (a[x]?).getD (Spot.mk 0 0)
def hmx (d : Disorder) (x : Nat) : Int := (d.homes[(itm d x).train.toNat]?).getD 0
def homeB (d : Disorder) (a : List Spot) (x : Nat) : Bool := (atx a x).track == hmx d x
def ahB (d : Disorder) (y x : Nat) : Bool := (itm d y).train == (itm d x).train && decide ((itm d y).block < (itm d x).block)
def neB (a : List Spot) (x y : Nat) : Bool := (atx a x).track == (atx a y).track && decide ((atx a y).place < (atx a x).place)
def rdx (rd : List Int) (y : Nat) : Int := (rd[y]?).getD (-1)
def puB (rd : Nat → Int) (y : Nat) (n : Int) : Bool := decide (0 ≤ rd y) && decide (rd y < n)
def juB (d : Disorder) (a : List Spot) (rd : Nat → Int) (x : Nat) (r y n : Int) : Bool :=
  if r = 1 then y == -1 && !homeB d a x
  else if y < 0 ∨ (d.items.length : Int) ≤ y then false
  else if r = 3 ∧ n = 0 then homeB d a x && (ahB d y.toNat x && neB a y.toNat x)
  else if r = 3 then ahB d y.toNat x && puB rd y.toNat n
  else if r = 2 then neB a x y.toNat && puB rd y.toNat n
  else false
structure Sc (d : Disorder) (a : List Spot) (rd : List Int) : Prop where
  ok : DOk d
  at' : AtOk d a
  rl : rd.length = d.items.length
section
variable {d : Disorder} {a : List Spot} {rd : List Int} (hS : Sc d a rd) (N : Nat)
theorem itm_at {x : Nat} (hx : x < d.items.length) : getI d.items (x : Int) = some (itm d x) := by
  rw [getI_nat (at_lt hx)]; unfold itm; rw [at_lt hx]; rfl
theorem itm_mem {x : Nat} (hx : x < d.items.length) : itm d x ∈ d.items := by
  unfold itm; rw [at_lt hx]; exact List.getElem_mem hx
include hS
theorem atx_at {x : Nat} (hx : x < d.items.length) : getI a (x : Int) = some (atx a x) := by
  have hx : x < a.length := by rw [hS.at'.len]; exact hx
  rw [getI_nat (at_lt hx)]; unfold atx; rw [at_lt hx]; rfl
theorem rdx_at {x : Nat} (hx : x < d.items.length) : getI rd (x : Int) = some (rdx rd x) := by
  have hx : x < rd.length := by rw [hS.rl]; exact hx
  rw [getI_nat (at_lt hx)]; unfold rdx; rw [at_lt hx]; rfl
theorem hmx_at {x : Nat} (hx : x < d.items.length) : getI d.homes (itm d x).train = some (hmx d x) := by
  have h := hS.ok.it _ (itm_mem hx)
  obtain ⟨j, hj⟩ := Int.eq_ofNat_of_zero_le h.1
  have hlt : j < d.homes.length := by omega
  unfold hmx
  rw [hj, getI_nat (at_lt hlt), Int.toNat_natCast, at_lt hlt]; rfl
theorem home_ok {x : Nat} (hx : x < d.items.length) : zbL N (Scene.mk d a rd) (x : Int) = some (homeB d a x) := by
  unfold zbL
  rw [atx_at hS hx, bind_some', itm_at hx, bind_some', hmx_at hS hx, bind_some', lt_def]; rfl
theorem ahead_ok {x y : Nat} (hx : x < d.items.length) (hy : y < d.items.length) : zbD N (Scene.mk d a rd) (y : Int) (x : Int) = some (ahB d y x) := by
  have := hS.rl
  unfold zbD zbD_0
  rw [itm_at hx, itm_at hy, bind_some', bind_some']
  unfold ahB
  by_cases h : (itm d y).train = (itm d x).train
  · rw [if_pos (by simpa using h), bind_some', bind_some', lt_def, bind_some', h]; simp
  · rw [if_neg (by simpa using h), bind_some']; simp [h]
theorem near_ok {x y : Nat} (hx : x < d.items.length) (hy : y < d.items.length) : zaY N (Scene.mk d a rd) (x : Int) (y : Int) = some (neB a x y) := by
  unfold zaY zaY_0
  rw [atx_at hS hx, atx_at hS hy, bind_some', bind_some']
  unfold neB
  by_cases h : (atx a x).track = (atx a y).track
  · rw [if_pos (by simpa using h), bind_some', bind_some', lt_def, bind_some', h]; simp
  · rw [if_neg (by simpa using h), bind_some']; simp [h]
theorem pul_ok {y : Nat} (hy : y < d.items.length) (n : Int) : zaZ N (Scene.mk d a rd) (y : Int) n = some (puB (rdx rd) y n) := by
  unfold zaZ zaZ_0
  rw [rdx_at hS hy, bind_some']
  unfold puB
  by_cases h : 0 ≤ rdx rd y
  · rw [if_pos (by simpa using h), bind_some', lt_def, bind_some']; simp [h]
  · rw [if_neg (by simpa using h), bind_some']; simp [h]
theorem just_ok {x : Nat} (hx : x < d.items.length) (r y n : Int) : zaP N (Scene.mk d a rd) (x : Int) r y n = some (juB d a (rdx rd) x r y n) := by
  unfold zaP juB
  by_cases h1 : r = 1
  · rw [if_pos (by simpa using h1), if_pos h1]
    unfold zaP_0
    by_cases h2 : y = -1
    · rw [if_pos (by simpa using h2), home_ok hS N hx, bind_some', lt_def, bind_some']; simp [h2]
    · rw [if_neg (by simpa using h2), bind_some']; simp [h2]
  · rw [if_neg (by simpa using h1), if_neg h1]
    by_cases h2 : y < 0 ∨ (d.items.length : Int) ≤ y
    · have : zaP_1 N (Scene.mk d a rd) y = some true := by
        unfold zaP_1
        by_cases h3 : y < 0
        · rw [if_pos (by simpa using h3)]
        · rw [if_neg (by simpa using h3)]; simp; omega
      rw [this, bind_some', if_pos rfl, if_pos h2]
    · have : zaP_1 N (Scene.mk d a rd) y = some false := by
        unfold zaP_1
        rw [if_neg (by simp; omega)]; simp; omega
      rw [this, bind_some', if_neg (by simp), if_neg h2]
      obtain ⟨j, rfl⟩ := Int.eq_ofNat_of_zero_le (show 0 ≤ y by omega)
      have hj : j < d.items.length := by omega
      rw [Int.toNat_natCast]
      by_cases h3 : r = 3
      · subst h3
        by_cases h4 : n = 0
        · subst h4
          have : zaP_2 N 3 0 = some true := rfl
          rw [this, bind_some', if_pos rfl, if_pos ⟨rfl, rfl⟩]
          unfold zaP_3
          rw [home_ok hS N hx, bind_some']
          cases hb : homeB d a x with
          | false => rw [if_neg (by simp), bind_some']; simp
          | true =>
            rw [if_pos rfl, ahead_ok hS N hx hj, bind_some']
            cases hc : ahB d j x with
            | false => rw [if_neg (by simp), bind_some']; simp
            | true => rw [if_pos rfl, near_ok hS N hj hx, bind_some', bind_some']; simp
        · have : zaP_2 N 3 n = some false := by
            unfold zaP_2
            rw [if_pos (by simp), lt_def]; simp [h4]
          rw [this, bind_some', if_neg (by simp), lt_def, if_pos (show ((3 : Int) == 3) = true from rfl), if_neg (fun hh : (3 : Int) = 3 ∧ n = 0 => h4 hh.2), if_pos rfl]
          unfold zaP_4
          rw [ahead_ok hS N hx hj, bind_some']
          cases hc : ahB d j x with
          | false => rw [if_neg (by simp), bind_some']; simp
          | true => rw [if_pos rfl, pul_ok hS N hj, bind_some', bind_some']; simp
      · have : zaP_2 N r n = some false := by
          unfold zaP_2
          rw [if_neg (by simpa using h3)]
        rw [this, bind_some', if_neg (by simp), lt_def, if_neg (by simp [h3]), if_neg (by simp [h3]), if_neg h3, lt_def]
        by_cases h5 : r = 2
        · rw [if_pos (by simpa using h5), if_pos h5]
          unfold zaP_5
          rw [near_ok hS N hx hj, bind_some']
          cases hc : neB a x j with
          | false => rw [if_neg (by simp), bind_some']; simp
          | true => rw [if_pos rfl, pul_ok hS N hj, bind_some', bind_some']; simp
        · rw [if_neg (by simpa using h5), if_neg h5]
end
def lookR (d : Disorder) (a : List Spot) (rd : Nat → Int) (x : Nat) (n r : Int) : Option Pull :=
  match res (fun y (_ : Item) => juB d a rd x r y n) (fun y _ => Pull.mk x r y n) 0 d.items with
  | .inl _ => none
  | .inr p => some p
def whyF (d : Disorder) (a : List Spot) (rd : Nat → Int) (x : Nat) (n : Int) : Option Pull :=
  if n = 0 then (if homeB d a x = true then lookR d a rd x n 3 else some (Pull.mk x 1 (-1) 0))
  else match lookR d a rd x n 2 with
    | some p => some p
    | none => lookR d a rd x n 3
theorem why2 {d : Disorder} {a : List Spot} {rd : List Int} (hS : Sc d a rd) (N : Nat) {x : Nat} (hx : x < d.items.length) (n r : Int) (p0 : Pull) : ∀ (k m i : Nat), k < m → i + k = d.items.length →
    zbQ_2 N (Scene.mk d a rd) (x : Int) n r (d.items.length : Int) m p0 (i : Int) = some (match res (fun y (_ : Item) => juB d a (rdx rd) x r y n) (fun y _ => Pull.mk x r y n) i (d.items.drop i) with | .inl _ => .inl p0 | .inr p => .inr (p, true))
  | k, 0, i, h, _ => by omega
  | 0, m + 1, i, h, hi => by
    unfold zbQ_2
    rw [if_neg (by simp; omega), List.drop_of_length_le (by omega), res]
  | k + 1, m + 1, i, h, hi => by
    have hlt : i < d.items.length := by omega
    have hli := hS.ok.li
    rw [zbQ_2, if_pos (by simp; omega), just_ok hS N hx, bind_some', drop_at (at_lt hlt), res]
    split
    · rfl
    · rw [w64s (by omega)]
      exact why2 hS N hx n r p0 k m (i + 1) (by omega) (by omega)
theorem why_ok {d : Disorder} {a : List Spot} {rd : List Int} (hS : Sc d a rd) (N : Nat) (hN : 200 ≤ N) {x : Nat} (hx : x < d.items.length) (n : Int) :
    zbQ N (Scene.mk d a rd) (x : Int) n = some (match whyF d a (rdx rd) x n with | some p => (p, true) | none => (Pull.mk 0 0 0 0, false)) := by
  have hli := hS.ok.li
  have w2 : ∀ r p0, zbQ_2 N (Scene.mk d a rd) (x : Int) n r (d.items.length : Int) N p0 0 = some (match lookR d a (rdx rd) x n r with | none => .inl p0 | some p => .inr (p, true)) := by
    intro r p0
    have := why2 hS N hx n r p0 d.items.length N 0 (by omega) (by omega)
    have this : zbQ_2 N (Scene.mk d a rd) (x : Int) n r (d.items.length : Int) N p0 0 = _ := this
    rw [this, List.drop_zero]
    unfold lookR
    cases res (fun y (_ : Item) => juB d a (rdx rd) x r y n) (fun y _ => Pull.mk x r y n) 0 d.items <;> rfl
  have w1 : ∀ (p0 : Pull), zbQ_1 N (Scene.mk d a rd) (x : Int) n [3] 1 N p0 0 = some (match lookR d a (rdx rd) x n 3 with | none => .inl p0 | some p => .inr (p, true)) := by
    intro p0
    obtain ⟨M, rfl⟩ : ∃ M, N = M + 2 := ⟨N - 2, by omega⟩
    rw [zbQ_1, if_pos (by simp)]
    have : getI [3] (0 : Int) = some (3 : Int) := rfl
    rw [this, bind_some', w2, bind_some']
    cases lookR d a (rdx rd) x n 3 with
    | some p => rfl
    | none =>
      simp only
      rw [zbQ_1, if_neg (by decide)]
  have w11 : ∀ (p0 : Pull), zbQ_1 N (Scene.mk d a rd) (x : Int) n [2, 3] 2 N p0 0 = some (match (match lookR d a (rdx rd) x n 2 with | some p => some p | none => lookR d a (rdx rd) x n 3) with | none => .inl p0 | some p => .inr (p, true)) := by
    intro p0
    obtain ⟨M, rfl⟩ : ∃ M, N = M + 3 := ⟨N - 3, by omega⟩
    rw [zbQ_1, if_pos (by simp)]
    have : getI [2, 3] (0 : Int) = some (2 : Int) := rfl
    rw [this, bind_some', w2, bind_some']
    cases lookR d a (rdx rd) x n 2 with
    | some p => rfl
    | none =>
      simp only
      have e1 : IntKind.wrap .i64 (0 + 1) = 1 := by rw [w64 (by omega) (by omega)]; rfl
      rw [e1, zbQ_1, if_pos (by simp)]
      have : getI [2, 3] (1 : Int) = some (3 : Int) := rfl
      rw [this, bind_some', w2, bind_some']
      cases lookR d a (rdx rd) x n 3 with
      | some p => rfl
      | none =>
        simp only
        rw [zbQ_1, if_neg (by decide)]
  unfold zbQ zbQ_0 whyF
  by_cases hn : n = 0
  · subst hn
    rw [if_pos (by simp), home_ok hS N hx, bind_some', if_pos rfl]
    cases hb : homeB d a x with
    | false => rfl
    | true =>
      rw [if_neg (by simp)]
      have : cutI [(2 : Int), 3] 1 (([2, 3] : List Int).length : Int) = some [3] := rfl
      rw [this, bind_some', bind_some']
      simp only [List.length_cons, List.length_nil]
      have := w1 (Pull.mk 0 0 0 0)
      have this : zbQ_1 N (Scene.mk d a rd) (x : Int) 0 [3] (((0 + 1 : Nat)) : Int) N (Pull.mk 0 0 0 0) 0 = _ := this
      rw [this, bind_some', if_pos trivial]
      cases lookR d a (rdx rd) x 0 3 <;> rfl
  · rw [if_neg (by simpa using hn), bind_some', if_neg hn]
    simp only [List.length_cons, List.length_nil]
    have := w11 (Pull.mk 0 0 0 0)
    have this : zbQ_1 N (Scene.mk d a rd) (x : Int) n [2, 3] (((0 + 1 + 1 : Nat)) : Int) N (Pull.mk 0 0 0 0) 0 = _ := this
    rw [this, bind_some']
    cases lookR d a (rdx rd) x n 2 with
    | some p => rfl
    | none => cases lookR d a (rdx rd) x n 3 <;> rfl
theorem look_some {d : Disorder} {a : List Spot} {rd : Nat → Int} {x : Nat} {n r : Int} {p : Pull} (h : lookR d a rd x n r = some p) : ∃ y, y < d.items.length ∧ p = Pull.mk x r y n ∧ juB d a rd x r y n = true := by
  have key : ∀ (l : List Item) (i : Nat), res (fun y (_ : Item) => juB d a rd x r y n) (fun y _ => Pull.mk x r y n) i l = .inr p → ∃ y, i ≤ y ∧ y < i + l.length ∧ p = Pull.mk x r y n ∧ juB d a rd x r y n = true := by
    intro l
    induction l with
    | nil => intro i h; cases h
    | cons y l ih =>
      intro i h
      rw [res] at h
      split at h
      · rename_i hj; cases h; exact ⟨i, Nat.le_refl _, by simp, rfl, hj⟩
      · obtain ⟨y, h1, h2, h3⟩ := ih _ h
        exact ⟨y, by omega, by simp; omega, h3⟩
  unfold lookR at h
  split at h
  · cases h
  · rename_i q hq
    cases h
    obtain ⟨y, _, h2, h3⟩ := key _ _ hq
    exact ⟨y, by omega, h3⟩
theorem look_none {d : Disorder} {a : List Spot} {rd : Nat → Int} {x : Nat} {n r : Int} (h : lookR d a rd x n r = none) : ∀ y : Nat, y < d.items.length → juB d a rd x r y n = false := by
  have key : ∀ (l : List Item) (i : Nat), res (fun y (_ : Item) => juB d a rd x r y n) (fun y _ => Pull.mk x r y n) i l = .inl () → ∀ y, i ≤ y → y < i + l.length → juB d a rd x r y n = false := by
    intro l
    induction l with
    | nil => intro i h y h1 h2; simp at h2; omega
    | cons z l ih =>
      intro i h y h1 h2
      rw [res] at h
      split at h
      · cases h
      · rename_i hj
        by_cases hy : y = i
        · subst hy; simpa using hj
        · exact ih _ h y (by omega) (by simp at h2; omega)
  unfold lookR at h
  split at h
  · rename_i u hu
    intro y hy
    exact key _ 0 hu y (by omega) (by omega)
  · cases h
theorem whyF_some {d : Disorder} {a : List Spot} {rd : Nat → Int} {x : Nat} {n : Int} {p : Pull} (h : whyF d a rd x n = some p) : p.item = x ∧ p.round = n ∧ juB d a rd x p.reason p.because n = true ∧ (n ≠ 0 → p.reason ≠ 1) := by
  unfold whyF at h
  split at h
  · rename_i hn
    split at h
    · obtain ⟨y, _, rfl, h3⟩ := look_some h
      exact ⟨rfl, rfl, h3, fun hh => absurd hn hh⟩
    · rename_i hb
      cases h
      refine ⟨rfl, hn.symm, ?_, fun hh => absurd hn hh⟩
      unfold juB
      simp only
      rw [if_pos trivial]
      simpa using hb
  · split at h
    · rename_i q hq
      cases h
      obtain ⟨y, _, rfl, h3⟩ := look_some hq
      exact ⟨rfl, rfl, h3, fun _ => by simp⟩
    · obtain ⟨y, _, rfl, h3⟩ := look_some h
      exact ⟨rfl, rfl, h3, fun _ => by simp⟩
theorem whyF_none {d : Disorder} {a : List Spot} {rd : Nat → Int} {x : Nat} {n : Int} (h : whyF d a rd x n = none) : (n = 0 → homeB d a x = true) ∧ ∀ y : Nat, y < d.items.length → juB d a rd x 3 y n = false ∧ (n ≠ 0 → juB d a rd x 2 y n = false) := by
  unfold whyF at h
  split at h
  · rename_i hn
    split at h
    · rename_i hb
      exact ⟨fun _ => hb, fun y hy => ⟨look_none h y hy, fun hh => absurd hn hh⟩⟩
    · cases h
  · rename_i hn
    split at h
    · cases h
    · rename_i h2
      exact ⟨fun hh => absurd hh hn, fun y hy => ⟨look_none h y hy, fun _ => look_none h2 y hy⟩⟩
end Go.W
end
