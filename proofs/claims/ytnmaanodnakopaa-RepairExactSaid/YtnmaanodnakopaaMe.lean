/- W1 WLib LBas LRp1 LRp2 LRp3 LRp4 LRp5 LRpP LRpS -/
import Derived.Test.YtnmaanodnakopaaProg
import Derived.IntWalk
import Derived.Test.YtnmaanodnakopaaMd
section
set_option linter.unusedVariables false
set_option linter.unusedSimpArgs false
set_option maxRecDepth 100000
set_option maxHeartbeats 1000000
namespace Go.W
noncomputable section
open Go.AM Go.Proofs
def Ty3 : Ty Int := TyOf 3 [.int .i64] fun x => (x, ())
def Ty4 : Ty Bool := TyOf 4 [.bool] fun x => (x, ())
def Ty22 : Ty (List Int) := TyOf 22 [.sl Int Ty3] fun x => (x, ())
def Ty44 : Ty Item := TyOf 44 [.int .i64, .int .i64, .int .i64, .int .i64] fun x => (x.train, x.block, x.round, x.length, ())
def Ty25 : Ty (List Item) := TyOf 25 [.sl Item Ty44] fun x => (x, ())
def Ty26 : Ty (List (List Int)) := TyOf 26 [.sl (List Int) Ty22] fun x => (x, ())
def Ty28 : Ty Disorder := TyOf 28 [.sl Item Ty44, .sl Int Ty3, .sl (List Int) Ty22] fun x => (x.items, x.homes, x.tracks, ())
def Ty39 : Ty Pull := TyOf 39 [.int .i64, .int .i64, .int .i64, .int .i64] fun x => (x.item, x.reason, x.because, x.round, ())
def Ty57 : Ty Job := TyOf 57 [.sl Item Ty44, .int .i64] fun x => (x.items, x.weight, ())
def Ty69 : Ty Maker := TyOf 69 [.sl Int Ty3, .int .i64] fun x => (x.l, x.n, ())
def Ty121 : Ty Spot := TyOf 121 [.int .i64, .int .i64] fun x => (x.track, x.place, ())
def Ty73 : Ty (List Spot) := TyOf 73 [.sl Spot Ty121] fun x => (x, ())
def Ty75 : Ty Scene := TyOf 75 [.sl Item Ty44, .sl Int Ty3, .sl (List Int) Ty22, .sl Spot Ty121, .sl Int Ty3] fun x => (x.d.items, x.d.homes, x.d.tracks, x.at_, x.round, ())
def Ty109 : Ty SpotR := TyOf 109 [.int .i64, .int .i64] fun x => (x.track, x.place, ())
structure TE where
  α : Type
  T : Ty α
  kc : α → List Value
def tabL : Nat → TE
  | 3 => ⟨Int, Ty3, kInt .i64⟩
  | 4 => ⟨Bool, Ty4, kBool⟩
  | 22 => ⟨(List Int), Ty22, fun _ => []⟩
  | 44 => ⟨Item, Ty44, fun _ => []⟩
  | 25 => ⟨(List Item), Ty25, fun _ => []⟩
  | 26 => ⟨(List (List Int)), Ty26, fun _ => []⟩
  | 28 => ⟨Disorder, Ty28, fun _ => []⟩
  | 39 => ⟨Pull, Ty39, fun _ => []⟩
  | 57 => ⟨Job, Ty57, fun _ => []⟩
  | 69 => ⟨Maker, Ty69, fun _ => []⟩
  | 121 => ⟨Spot, Ty121, fun _ => []⟩
  | 73 => ⟨(List Spot), Ty73, fun _ => []⟩
  | 75 => ⟨Scene, Ty75, fun _ => []⟩
  | 109 => ⟨SpotR, Ty109, fun _ => []⟩
  | _ => ⟨Bool, TBool 4, kBool⟩
def D (t : Nat) : Type := (tabL t).α
def G : Tab D := ⟨fun t => (tabL t).T, fun t => (tabL t).kc⟩
def ti3 : TI Try.prog G 3 := tiOf [.int .i64] (fun (x : Int) => (x, ())) (fun y => (y.1 : Int)) (fun _ => rfl) (fun _ => rfl) (0 : Int) Try.t3 (.int .i64 0) rfl Try.type3 rfl rfl rfl rfl rfl rfl (fun z => ⟨rfl, trivial⟩) rfl
def ti4 : TI Try.prog G 4 := tiOf [.bool] (fun (x : Bool) => (x, ())) (fun y => (y.1 : Bool)) (fun _ => rfl) (fun _ => rfl) (false : Bool) Try.t4 (.bool false) rfl Try.type4 rfl rfl rfl rfl rfl rfl (fun z => ⟨rfl, trivial⟩) rfl
def ti22 : TI Try.prog G 22 := tiOf [.sl 3] (fun (x : (List Int)) => (x, ())) (fun y => (y.1 : (List Int))) (fun _ => rfl) (fun _ => rfl) ([] : (List Int)) Try.t22 (.slice none 0 0) rfl Try.type22 rfl rfl rfl rfl rfl rfl (fun z => ⟨.inl ⟨rfl, rfl⟩, trivial⟩) rfl
def ti44 : TI Try.prog G 44 := tiOf [.int .i64, .int .i64, .int .i64, .int .i64] (fun (x : Item) => (x.train, x.block, x.round, x.length, ())) (fun y => ((Item.mk y.1 y.2.1 y.2.2.1 y.2.2.2.1) : Item)) (fun _ => rfl) (fun _ => rfl) ((Item.mk 0 0 0 0) : Item) Try.t44 (.agg #[.int .i64 0, .int .i64 0, .int .i64 0, .int .i64 0]) rfl Try.type44 rfl rfl rfl rfl rfl rfl (fun z => ⟨rfl, rfl, rfl, rfl, trivial⟩) rfl
def ti25 : TI Try.prog G 25 := tiOf [.sl 44] (fun (x : (List Item)) => (x, ())) (fun y => (y.1 : (List Item))) (fun _ => rfl) (fun _ => rfl) ([] : (List Item)) Try.t25 (.slice none 0 0) rfl Try.type25 rfl rfl rfl rfl rfl rfl (fun z => ⟨.inl ⟨rfl, rfl⟩, trivial⟩) rfl
def ti26 : TI Try.prog G 26 := tiOf [.sl 22] (fun (x : (List (List Int))) => (x, ())) (fun y => (y.1 : (List (List Int)))) (fun _ => rfl) (fun _ => rfl) ([] : (List (List Int))) Try.t26 (.slice none 0 0) rfl Try.type26 rfl rfl rfl rfl rfl rfl (fun z => ⟨.inl ⟨rfl, rfl⟩, trivial⟩) rfl
def ti28 : TI Try.prog G 28 := tiOf [.sl 44, .sl 3, .sl 22] (fun (x : Disorder) => (x.items, x.homes, x.tracks, ())) (fun y => ((Disorder.mk y.1 y.2.1 y.2.2.1) : Disorder)) (fun _ => rfl) (fun _ => rfl) ((Disorder.mk [] [] []) : Disorder) Try.t28 (.agg #[.slice none 0 0, .slice none 0 0, .slice none 0 0]) rfl Try.type28 rfl rfl rfl rfl rfl rfl (fun z => ⟨.inl ⟨rfl, rfl⟩, .inl ⟨rfl, rfl⟩, .inl ⟨rfl, rfl⟩, trivial⟩) rfl
def ti39 : TI Try.prog G 39 := tiOf [.int .i64, .int .i64, .int .i64, .int .i64] (fun (x : Pull) => (x.item, x.reason, x.because, x.round, ())) (fun y => ((Pull.mk y.1 y.2.1 y.2.2.1 y.2.2.2.1) : Pull)) (fun _ => rfl) (fun _ => rfl) ((Pull.mk 0 0 0 0) : Pull) Try.t39 (.agg #[.int .i64 0, .int .i64 0, .int .i64 0, .int .i64 0]) rfl Try.type39 rfl rfl rfl rfl rfl rfl (fun z => ⟨rfl, rfl, rfl, rfl, trivial⟩) rfl
def ti57 : TI Try.prog G 57 := tiOf [.sl 44, .int .i64] (fun (x : Job) => (x.items, x.weight, ())) (fun y => ((Job.mk y.1 y.2.1) : Job)) (fun _ => rfl) (fun _ => rfl) ((Job.mk [] 0) : Job) Try.t57 (.agg #[.slice none 0 0, .int .i64 0]) rfl Try.type57 rfl rfl rfl rfl rfl rfl (fun z => ⟨.inl ⟨rfl, rfl⟩, rfl, trivial⟩) rfl
def ti69 : TI Try.prog G 69 := tiOf [.sl 3, .int .i64] (fun (x : Maker) => (x.l, x.n, ())) (fun y => ((Maker.mk y.1 y.2.1) : Maker)) (fun _ => rfl) (fun _ => rfl) ((Maker.mk [] 0) : Maker) Try.t69 (.agg #[.slice none 0 0, .int .i64 0]) rfl Try.type69 rfl rfl rfl rfl rfl rfl (fun z => ⟨.inl ⟨rfl, rfl⟩, rfl, trivial⟩) rfl
def ti121 : TI Try.prog G 121 := tiOf [.int .i64, .int .i64] (fun (x : Spot) => (x.track, x.place, ())) (fun y => ((Spot.mk y.1 y.2.1) : Spot)) (fun _ => rfl) (fun _ => rfl) ((Spot.mk 0 0) : Spot) Try.t121 (.agg #[.int .i64 0, .int .i64 0]) rfl Try.type121 rfl rfl rfl rfl rfl rfl (fun z => ⟨rfl, rfl, trivial⟩) rfl
def ti73 : TI Try.prog G 73 := tiOf [.sl 121] (fun (x : (List Spot)) => (x, ())) (fun y => (y.1 : (List Spot))) (fun _ => rfl) (fun _ => rfl) ([] : (List Spot)) Try.t73 (.slice none 0 0) rfl Try.type73 rfl rfl rfl rfl rfl rfl (fun z => ⟨.inl ⟨rfl, rfl⟩, trivial⟩) rfl
def ti75 : TI Try.prog G 75 := tiOf [.sl 44, .sl 3, .sl 22, .sl 121, .sl 3] (fun (x : Scene) => (x.d.items, x.d.homes, x.d.tracks, x.at_, x.round, ())) (fun y => ((Scene.mk (Disorder.mk y.1 y.2.1 y.2.2.1) y.2.2.2.1 y.2.2.2.2.1) : Scene)) (fun _ => rfl) (fun _ => rfl) ((Scene.mk (Disorder.mk [] [] []) [] []) : Scene) Try.t75 (.agg #[.slice none 0 0, .slice none 0 0, .slice none 0 0, .slice none 0 0, .slice none 0 0]) rfl Try.type75 rfl rfl rfl rfl rfl rfl (fun z => ⟨.inl ⟨rfl, rfl⟩, .inl ⟨rfl, rfl⟩, .inl ⟨rfl, rfl⟩, .inl ⟨rfl, rfl⟩, .inl ⟨rfl, rfl⟩, trivial⟩) rfl
def ti109 : TI Try.prog G 109 := tiOf [.int .i64, .int .i64] (fun (x : SpotR) => (x.track, x.place, ())) (fun y => ((SpotR.mk y.1 y.2.1) : SpotR)) (fun _ => rfl) (fun _ => rfl) ((SpotR.mk 0 0) : SpotR) Try.t109 (.agg #[.int .i64 0, .int .i64 0]) rfl Try.type109 rfl rfl rfl rfl rfl rfl (fun z => ⟨rfl, rfl, trivial⟩) rfl
def qi39 : QI Try.prog G 39 := qiOf [.int .i64, .int .i64, .int .i64, .int .i64] (fun (x : Pull) => (x.item, x.reason, x.because, x.round, ())) (fun y => ((Pull.mk y.1 y.2.1 y.2.2.1 y.2.2.2.1) : Pull)) (fun _ => rfl) _ (fun (x y : Pull) => decide (x = y)) rfl (fun (x y : Pull) => decide_eq_true_iff) Try.underlying39 (by kernel_rfl) (by kernel_rfl) (by kernel_rfl)
def qi44 : QI Try.prog G 44 := qiOf [.int .i64, .int .i64, .int .i64, .int .i64] (fun (x : Item) => (x.train, x.block, x.round, x.length, ())) (fun y => ((Item.mk y.1 y.2.1 y.2.2.1 y.2.2.2.1) : Item)) (fun _ => rfl) _ (fun (x y : Item) => decide (x = y)) rfl (fun (x y : Item) => decide_eq_true_iff) Try.underlying44 (by kernel_rfl) (by kernel_rfl) (by kernel_rfl)
def si28_29 : SI Try.prog G := siOf (t := 39) [.int .i64, .int .i64, .int .i64, .int .i64] (fun (x : Pull) => (x.item, x.reason, x.because, x.round, ())) rfl rfl ((Pull.mk 0 0 0 0) : Pull) (fun (x : Pull) => x.item) sortL28 28 29 rfl (by kernel_rfl) Try.isAgg39 Try.sizeOf39 (Go.Proofs.enters_of Try.func29 (by kernel_rfl) rfl) rfl clos29
def ni22_3 : NI Try.prog G 22 3 := ⟨fun xs => xs, rfl, rfl, fun _ _ _ h => ⟨h, trivial⟩, Try.t22, Try.type22, rfl, rfl, rfl, Try.underlying22, rfl⟩
def X0 : Ev Try.prog D where
  G := G
  S := [si28_29]
  I := fun t => match t with | 3 => some ti3 | 4 => some ti4 | 22 => some ti22 | 44 => some ti44 | 25 => some ti25 | 26 => some ti26 | 28 => some ti28 | 39 => some ti39 | 57 => some ti57 | 69 => some ti69 | 121 => some ti121 | 73 => some ti73 | 75 => some ti75 | 109 => some ti109 | _ => none
  A := fun _ => none
  J := fun _ _ => none
  B := fun _ => none
  Q := fun t => match t with | 39 => some qi39 | 44 => some qi44 | _ => none
  N := fun e t => match e, t with | 22, 3 => some ni22_3 | _, _ => none
  F := fun _ _ _ => false
  C := fun _ _ _ _ _ => none
def fs0 (N : Nat) : List (FE D) := []
theorem all0 (N : Nat) : ∀ y ∈ fs0 N, CallOk X0 y.d y.F := fun y h => absurd h (by simp [fs0])
def X00 (N : Nat) : Ev Try.prog D := X0.with (fs0 N)
theorem cok0 (N : Nat) : COk (X00 N) := COk.of (all0 N)
def u0_zcA (N : Nat) : List (Pc D) := []
theorem oku0_zcA (N : Nat) : ∀ u ∈ u0_zcA N, PcOk (X00 N) (bodyOf Try.f8) u := pc_nil
def dzcA : FD D := { f := 8, np := 1, ins := [.v 0 (.sl 3)], fx := [], rcv := none, rk := 0, outs := [.o 2 (.box 69)], ofx := [(2, .box 0 0)], rvs := [.tmp 2], flat := false }
def FzcA (N : Nat) : dzcA.F := fun r x => zcA N x.1
theorem ozcA (N : Nat) : FOk Try.prog (X00 N) dzcA (FzcA N) := ⟨⟨Try.f8, _, Try.func8, rfl, by kernel_rfl, by kernel_rfl, rfl, FC.of (cok0 N) (us := u0_zcA N) (fun u h _ => oku0_zcA N u h) (fun r x => by kernel_rfl)⟩, by kernel_rfl, by kernel_rfl, by kernel_rfl, by kernel_rfl⟩
def fs1 (N : Nat) : List (FE D) := ⟨dzcA, FzcA N⟩ :: fs0 N
theorem all1 (N : Nat) : ∀ y ∈ fs1 N, CallOk X0 y.d y.F := all_cons (x := ⟨dzcA, FzcA N⟩) (ozcA N) (all0 N)
def X1 (N : Nat) : Ev Try.prog D := X0.with (fs1 N)
theorem cok1 (N : Nat) : COk (X1 N) := COk.of (all1 N)
def u0_zbC (N : Nat) : List (Pc D) := []
theorem oku0_zbC (N : Nat) : ∀ u ∈ u0_zbC N, PcOk (X1 N) (bodyOf Try.f18) u := pc_nil
def PzbC_0 : PD D := { path := [1, 1, 0, 1], ins := [.o 0 (.recv 69), .v 5 (.int .i64), .v 11 .bool], fx := [(0, .box 0 0)], ks := [1], exs := [⟨.normal, [.v 5 (.int .i64)], []⟩], keep := [0, 1] }
def FzbC_0 (N : Nat) : PzbC_0.F := fun x => zbC_0 N x.1 x.2.1 x.2.2.1
theorem czbC_0 (N : Nat) : CC (X1 N) (bodyOf Try.f18) PzbC_0 (FzbC_0 N) := CC.of (cok1 N) (us := u0_zbC N) (fun u h _ => oku0_zbC N u h) (fun x => by kernel_rfl)
def uzbC_0 (N : Nat) : List (Pc D) := PzbC_0.pc (X1 N) (FzbC_0 N) :: u0_zbC N
theorem okuzbC_0 (N : Nat) : ∀ u ∈ uzbC_0 N, PcOk (X1 N) (bodyOf Try.f18) u := pc_cons ((czbC_0 N).pc (by kernel_rfl)) (oku0_zbC N)
def PzbC_1 : PD D := { path := [1, 1, 1, 1, 1, 0, 1], ins := [.o 0 (.recv 69), .v 1 (.int .i64), .v 5 (.int .i64), .v 51 .bool], fx := [(0, .box 0 0)], ks := [1], exs := [⟨.normal, [.v 5 (.int .i64)], []⟩], keep := [0] }
def FzbC_1 (N : Nat) : PzbC_1.F := fun x => zbC_1 N x.2.1 x.2.2.1 x.2.2.2.1
theorem czbC_1 (N : Nat) : CC (X1 N) (bodyOf Try.f18) PzbC_1 (FzbC_1 N) := CC.of (cok1 N) (us := uzbC_0 N) (fun u h _ => okuzbC_0 N u h) (fun x => by kernel_rfl)
def uzbC_1 (N : Nat) : List (Pc D) := PzbC_1.pc (X1 N) (FzbC_1 N) :: uzbC_0 N
theorem okuzbC_1 (N : Nat) : ∀ u ∈ uzbC_1 N, PcOk (X1 N) (bodyOf Try.f18) u := pc_cons ((czbC_1 N).pc (by kernel_rfl)) (okuzbC_0 N)
def dzbC : FD D := { f := 18, np := 2, ins := [.v 1 (.int .i64)], fx := [], rcv := some (0, 69), rk := 2, outs := [.v 4 (.int .i64), .u 0 (.recv 69)], ofx := [], rvs := [.tmp 4], flat := false }
def FzbC (N : Nat) : dzbC.F := fun r x => zbC N r x.1
theorem ozbC (N : Nat) : FOk Try.prog (X1 N) dzbC (FzbC N) := ⟨⟨Try.f18, _, Try.func18, rfl, by kernel_rfl, by kernel_rfl, rfl, FC.of (cok1 N) (us := uzbC_1 N) (fun u h _ => okuzbC_1 N u h) (fun r x => by kernel_rfl)⟩, by kernel_rfl, by kernel_rfl, by kernel_rfl, by kernel_rfl⟩
def fs2 (N : Nat) : List (FE D) := ⟨dzbC, FzbC N⟩ :: fs1 N
theorem all2 (N : Nat) : ∀ y ∈ fs2 N, CallOk X0 y.d y.F := all_cons (x := ⟨dzbC, FzbC N⟩) (ozbC N) (all1 N)
def X2 (N : Nat) : Ev Try.prog D := X0.with (fs2 N)
theorem cok2 (N : Nat) : COk (X2 N) := COk.of (all2 N)
def u0_zbD (N : Nat) : List (Pc D) := []
theorem oku0_zbD (N : Nat) : ∀ u ∈ u0_zbD N, PcOk (X2 N) (bodyOf Try.f19) u := pc_nil
def dzbD : FD D := { f := 19, np := 2, ins := [.v 1 (.sl 3)], fx := [], rcv := some (0, 69), rk := 2, outs := [.v 4 (.int .i64), .u 0 (.recv 69)], ofx := [], rvs := [.tmp 4], flat := false }
def FzbD (N : Nat) : dzbD.F := fun r x => zbD N r x.1
theorem ozbD (N : Nat) : FOk Try.prog (X2 N) dzbD (FzbD N) := ⟨⟨Try.f19, _, Try.func19, rfl, by kernel_rfl, by kernel_rfl, rfl, FC.of (cok2 N) (us := u0_zbD N) (fun u h _ => oku0_zbD N u h) (fun r x => by kernel_rfl)⟩, by kernel_rfl, by kernel_rfl, by kernel_rfl, by kernel_rfl⟩
def fs3 (N : Nat) : List (FE D) := ⟨dzbD, FzbD N⟩ :: fs2 N
theorem all3 (N : Nat) : ∀ y ∈ fs3 N, CallOk X0 y.d y.F := all_cons (x := ⟨dzbD, FzbD N⟩) (ozbD N) (all2 N)
def X3 (N : Nat) : Ev Try.prog D := X0.with (fs3 N)
theorem cok3 (N : Nat) : COk (X3 N) := COk.of (all3 N)
def Y3 (N : Nat) : Ev Try.prog D := (X3 N).cuts fun x lo hi => match x, lo, hi with | .tmp 18, some (.tmp 18), some (.tmp 18) => 3 | _, _, _ => 0
theorem coky3 (N : Nat) : COk (Y3 N) := COk.cuts (cok3 N)
def u0_zaK (N : Nat) : List (Pc D) := []
theorem oku0_zaK (N : Nat) : ∀ u ∈ u0_zaK N, PcOk (Y3 N) (bodyOf Try.f9) u := pc_nil
def PzaK_0 : PD D := { path := [1, 1, 1, 0, 1, 0], ins := [.o 0 (.recv 69), .o 4 (.box 28), .v 6 (.int .i64), .o 7 (.bx 28 [(0, 3), (1, 4), (2, 5)]), .o 2007000 (.sl 44), .o 2007001 (.sl 3), .o 2007002 (.ne 22 3)], fx := [(0, .box 0 0), (4, .box 1 0), (7, .box 2 0)], ks := [1, 1, 2, 1, 0, 2], exs := [⟨.exit 0, [.u 2 (.bx 28 [(0, 3), (1, 6), (2, 5)]), .o 2007001 (.sl 3), .u 5 (.ne 22 3)], []⟩], keep := [0, 1, 4, 5, 6, 7] }
def FzaK_0 (N n : Nat) : PzaK_0.F := fun x => zaK_0 N x.2.2.1 n x.2.2.2.1 x.2.2.2.2.2.1 x.2.2.2.2.2.2.1
theorem czaK_0 (N n : Nat) : CC (Y3 N) (bodyOf Try.f9) PzaK_0 (FzaK_0 N n) := CC.loop (coky3 N) (us := u0_zaK N) (c := sub (bodyOf Try.f9) [1, 1, 1, 0, 1, 0, 0]) (by kernel_rfl) (by kernel_rfl) (fun u h _ => oku0_zaK N u h) (fun x => rfl) (fun n x => by kernel_rfl) n
def uzaK_0 (N : Nat) : List (Pc D) := PzaK_0.pc (Y3 N) (FzaK_0 N N) :: u0_zaK N
theorem okuzaK_0 (N : Nat) : ∀ u ∈ uzaK_0 N, PcOk (Y3 N) (bodyOf Try.f9) u := pc_cons ((czaK_0 N N).pc (by kernel_rfl)) (oku0_zaK N)
def PzaK_2 : PD D := { path := [1, 1, 1, 1, 0, 1, 0, 1, 0], ins := [.o 0 (.recv 69), .o 4 (.box 28), .v 5 (.int .i64), .v 6 (.int .i64), .o 7 (.bx 28 [(0, 3), (1, 4), (2, 5)]), .v 8 (.int .i64), .o 2007000 (.sl 44), .o 2007001 (.sl 3), .o 2007002 (.ne 22 3)], fx := [(0, .box 0 0), (4, .box 1 0), (7, .box 2 0)], ks := [1, 1, 1, 1, 2, 2], exs := [⟨.exit 2, [.u 4 (.sl 3), .u 5 (.ne 22 3)], []⟩], keep := [0, 1, 4, 5, 6, 7] }
def FzaK_2 (N n : Nat) : PzaK_2.F := fun x => zaK_2 N x.2.2.1 x.2.2.2.1 n x.2.2.2.2.2.1 x.2.2.2.2.2.2.2.1 x.2.2.2.2.2.2.2.2.1
theorem czaK_2 (N n : Nat) : CC (Y3 N) (bodyOf Try.f9) PzaK_2 (FzaK_2 N n) := CC.loop (coky3 N) (us := uzaK_0 N) (c := sub (bodyOf Try.f9) [1, 1, 1, 1, 0, 1, 0, 1, 0, 0]) (by kernel_rfl) (by kernel_rfl) (fun u h _ => okuzaK_0 N u h) (fun x => rfl) (fun n x => by kernel_rfl) n
def uzaK_2 (N : Nat) : List (Pc D) := PzaK_2.pc (Y3 N) (FzaK_2 N N) :: uzaK_0 N
theorem okuzaK_2 (N : Nat) : ∀ u ∈ uzaK_2 N, PcOk (Y3 N) (bodyOf Try.f9) u := pc_cons ((czaK_2 N N).pc (by kernel_rfl)) (okuzaK_0 N)
def PzaK_1 : PD D := { path := [1, 1, 1, 1, 0, 1], ins := [.o 0 (.recv 69), .o 4 (.box 28), .v 5 (.int .i64), .v 6 (.int .i64), .o 7 (.bx 28 [(0, 3), (1, 4), (2, 5)]), .v 41 .bool, .o 2007000 (.sl 44), .o 2007001 (.sl 3), .o 2007002 (.ne 22 3)], fx := [(0, .box 0 0), (4, .box 1 0), (7, .box 2 0)], ks := [1, 1, 1, 1, 2, 2], exs := [⟨.normal, [.u 4 (.sl 3), .u 5 (.ne 22 3)], []⟩], keep := [0, 1, 4, 5, 6, 7] }
def FzaK_1 (N : Nat) : PzaK_1.F := fun x => zaK_1 N x.2.2.1 x.2.2.2.1 x.2.2.2.2.2.1 x.2.2.2.2.2.2.2.1 x.2.2.2.2.2.2.2.2.1
theorem czaK_1 (N : Nat) : CC (Y3 N) (bodyOf Try.f9) PzaK_1 (FzaK_1 N) := CC.of (coky3 N) (us := uzaK_2 N) (fun u h _ => okuzaK_2 N u h) (fun x => by kernel_rfl)
def uzaK_1 (N : Nat) : List (Pc D) := PzaK_1.pc (Y3 N) (FzaK_1 N) :: uzaK_2 N
theorem okuzaK_1 (N : Nat) : ∀ u ∈ uzaK_1 N, PcOk (Y3 N) (bodyOf Try.f9) u := pc_cons ((czaK_1 N).pc (by kernel_rfl)) (okuzaK_2 N)
def PzaK_4 : PD D := { path := [1, 1, 1, 1, 1, 1, 1, 0, 1, 0, 0, 1, 0, 0, 1, 1, 1, 0, 0], ins := [.o 0 (.recv 69), .o 4 (.box 28), .o 7 (.bx 28 [(0, 5), (1, 6), (2, 7)]), .v 9 (.int .i64), .o 10 (.sl 3), .o 13 (.box 44), .o 2007000 (.sl 44), .o 2007001 (.sl 3), .o 2007002 (.ne 22 3)], fx := [(0, .box 0 0), (4, .box 1 0), (7, .box 2 0), (10, .c (.own 3)), (13, .box 4 0)], ks := [2, 1, 1, 1, 1, 1, 1, 1], exs := [⟨.normal, [.u 0 (.recv 69), .v 88 .bool], []⟩], keep := [0, 4, 5, 6, 7, 9, 10, 11, 12, 13, 14] }
def FzaK_4 (N : Nat) : PzaK_4.F := fun x => zaK_4 N x.1 x.2.2.2.1
theorem czaK_4 (N : Nat) : CC (Y3 N) (bodyOf Try.f9) PzaK_4 (FzaK_4 N) := CC.of (coky3 N) (us := uzaK_1 N) (fun u h _ => okuzaK_1 N u h) (fun x => by kernel_rfl)
def uzaK_4 (N : Nat) : List (Pc D) := PzaK_4.pc (Y3 N) (FzaK_4 N) :: uzaK_1 N
theorem okuzaK_4 (N : Nat) : ∀ u ∈ uzaK_4 N, PcOk (Y3 N) (bodyOf Try.f9) u := pc_cons ((czaK_4 N).pc (by kernel_rfl)) (okuzaK_1 N)
def PzaK_5 : PD D := { path := [1, 1, 1, 1, 1, 1, 1, 0, 1, 0, 0, 1, 0, 0, 1, 1, 1, 0, 1], ins := [.o 0 (.recv 69), .o 4 (.box 28), .o 7 (.bx 28 [(0, 5), (1, 6), (2, 7)]), .o 10 (.sl 3), .v 12 (.int .i64), .o 13 (.box 44), .v 88 .bool, .o 2007000 (.sl 44), .o 2007001 (.sl 3), .o 2007002 (.ne 22 3)], fx := [(0, .box 0 0), (4, .box 1 0), (7, .box 2 0), (10, .c (.own 3)), (13, .box 4 0)], ks := [2, 1, 1, 2, 2, 1, 1, 1], exs := [⟨.normal, [.u 0 (.recv 69), .u 3 (.sl 3), .u 4 (.box 44)], []⟩], keep := [0, 4, 5, 6, 7, 9, 10, 11, 13, 14] }
def FzaK_5 (N : Nat) : PzaK_5.F := fun x => zaK_5 N x.1 x.2.2.2.1 x.2.2.2.2.1 x.2.2.2.2.2.1 x.2.2.2.2.2.2.1
theorem czaK_5 (N : Nat) : CC (Y3 N) (bodyOf Try.f9) PzaK_5 (FzaK_5 N) := CC.of (coky3 N) (us := uzaK_4 N) (fun u h _ => okuzaK_4 N u h) (fun x => by kernel_rfl)
def uzaK_5 (N : Nat) : List (Pc D) := PzaK_5.pc (Y3 N) (FzaK_5 N) :: uzaK_4 N
theorem okuzaK_5 (N : Nat) : ∀ u ∈ uzaK_5 N, PcOk (Y3 N) (bodyOf Try.f9) u := pc_cons ((czaK_5 N).pc (by kernel_rfl)) (okuzaK_4 N)
def PzaK_6 : PD D := { path := [1, 1, 1, 1, 1, 1, 1, 0, 1, 0, 0, 1, 0, 0, 1, 1, 1, 1, 0, 0], ins := [.o 0 (.recv 69), .o 4 (.box 28), .o 7 (.bx 28 [(0, 5), (1, 6), (2, 7)]), .v 9 (.int .i64), .o 10 (.sl 3), .o 13 (.box 44), .o 2007000 (.sl 44), .o 2007001 (.sl 3), .o 2007002 (.ne 22 3)], fx := [(0, .box 0 0), (4, .box 1 0), (7, .box 2 0), (10, .c (.own 3)), (13, .box 4 0)], ks := [2, 1, 1, 1, 1, 1, 1, 1], exs := [⟨.normal, [.u 0 (.recv 69), .v 109 .bool], []⟩], keep := [0, 4, 5, 6, 7, 9, 10, 11, 13, 14] }
def FzaK_6 (N : Nat) : PzaK_6.F := fun x => zaK_6 N x.1 x.2.2.2.1
theorem czaK_6 (N : Nat) : CC (Y3 N) (bodyOf Try.f9) PzaK_6 (FzaK_6 N) := CC.of (coky3 N) (us := uzaK_5 N) (fun u h _ => okuzaK_5 N u h) (fun x => by kernel_rfl)
def uzaK_6 (N : Nat) : List (Pc D) := PzaK_6.pc (Y3 N) (FzaK_6 N) :: uzaK_5 N
theorem okuzaK_6 (N : Nat) : ∀ u ∈ uzaK_6 N, PcOk (Y3 N) (bodyOf Try.f9) u := pc_cons ((czaK_6 N).pc (by kernel_rfl)) (okuzaK_5 N)
def PzaK_7 : PD D := { path := [1, 1, 1, 1, 1, 1, 1, 0, 1, 0, 0, 1, 0, 0, 1, 1, 1, 1, 0, 1], ins := [.o 0 (.recv 69), .o 4 (.box 28), .v 5 (.int .i64), .o 7 (.bx 28 [(0, 5), (1, 6), (2, 7)]), .o 10 (.sl 3), .o 13 (.box 44), .v 14 (.int .i64), .v 109 .bool, .o 2007000 (.sl 44), .o 2007001 (.sl 3), .o 2007002 (.ne 22 3)], fx := [(0, .box 0 0), (4, .box 1 0), (7, .box 2 0), (10, .c (.own 3)), (13, .box 4 0)], ks := [2, 1, 1, 1, 1, 1, 1, 1], exs := [⟨.normal, [.u 0 (.recv 69), .v 14 (.int .i64)], []⟩], keep := [0, 4, 5, 6, 7, 9, 10, 11, 13] }
def FzaK_7 (N : Nat) : PzaK_7.F := fun x => zaK_7 N x.1 x.2.2.1 x.2.2.2.2.2.2.1 x.2.2.2.2.2.2.2.1
theorem czaK_7 (N : Nat) : CC (Y3 N) (bodyOf Try.f9) PzaK_7 (FzaK_7 N) := CC.of (coky3 N) (us := uzaK_6 N) (fun u h _ => okuzaK_6 N u h) (fun x => by kernel_rfl)
def uzaK_7 (N : Nat) : List (Pc D) := PzaK_7.pc (Y3 N) (FzaK_7 N) :: uzaK_6 N
theorem okuzaK_7 (N : Nat) : ∀ u ∈ uzaK_7 N, PcOk (Y3 N) (bodyOf Try.f9) u := pc_cons ((czaK_7 N).pc (by kernel_rfl)) (okuzaK_6 N)
def PzaK_3 : PD D := { path := [1, 1, 1, 1, 1, 1, 1, 0, 1, 0], ins := [.o 0 (.recv 69), .o 4 (.box 28), .v 5 (.int .i64), .v 6 (.int .i64), .o 7 (.bx 28 [(0, 4), (1, 5), (2, 6)]), .v 9 (.int .i64), .o 10 (.sl 3), .v 11 (.int .i64), .o 2007000 (.sl 44), .o 2007001 (.sl 3), .o 2007002 (.ne 22 3)], fx := [(0, .box 0 0), (4, .box 1 0), (7, .box 2 0), (10, .c (.own 3))], ks := [2, 1, 2, 0, 0, 1, 2], exs := [⟨.exit 4, [.u 0 (.recv 69), .u 2 (.bx 28 [(0, 7), (1, 5), (2, 6)]), .o 2007000 (.sl 44), .u 6 (.ne 22 3)], []⟩], keep := [0, 4, 7] }
def FzaK_3 (N n : Nat) : PzaK_3.F := fun x => zaK_3 N x.2.2.1 x.2.2.2.1 x.2.2.2.2.2.1 x.2.2.2.2.2.2.2.2.2.1 n x.1 x.2.2.2.2.1 x.2.2.2.2.2.2.1 x.2.2.2.2.2.2.2.1 x.2.2.2.2.2.2.2.2.1 x.2.2.2.2.2.2.2.2.2.2.1
theorem czaK_3 (N n : Nat) : CC (Y3 N) (bodyOf Try.f9) PzaK_3 (FzaK_3 N n) := CC.loop (coky3 N) (us := uzaK_7 N) (c := sub (bodyOf Try.f9) [1, 1, 1, 1, 1, 1, 1, 0, 1, 0, 0]) (by kernel_rfl) (by kernel_rfl) (fun u h _ => okuzaK_7 N u h) (fun x => rfl) (fun n x => by kernel_rfl) n
def uzaK_3 (N : Nat) : List (Pc D) := PzaK_3.pc (Y3 N) (FzaK_3 N N) :: uzaK_7 N
theorem okuzaK_3 (N : Nat) : ∀ u ∈ uzaK_3 N, PcOk (Y3 N) (bodyOf Try.f9) u := pc_cons ((czaK_3 N N).pc (by kernel_rfl)) (okuzaK_7 N)
def dzaK : FD D := { f := 9, np := 2, ins := [.v 1 (.int .i64)], fx := [], rcv := some (0, 69), rk := 2, outs := [.v 1000000 (.agg 28), .u 0 (.recv 69)], ofx := [], rvs := [.cell 4 28], flat := false }
def FzaK (N : Nat) : dzaK.F := fun r x => zaK N r x.1
theorem ozaK (N : Nat) : FOk Try.prog (Y3 N) dzaK (FzaK N) := ⟨⟨Try.f9, _, Try.func9, rfl, by kernel_rfl, by kernel_rfl, rfl, FC.of (coky3 N) (us := uzaK_3 N) (fun u h _ => okuzaK_3 N u h) (fun r x => by kernel_rfl)⟩, by kernel_rfl, by kernel_rfl, by kernel_rfl, by kernel_rfl⟩
def fs4 (N : Nat) : List (FE D) := ⟨dzaK, FzaK N⟩ :: fs3 N
theorem all4 (N : Nat) : ∀ y ∈ fs4 N, CallOk X0 y.d y.F := all_call (x := ⟨dzaK, FzaK N⟩) ((ozaK N).call.cuts) (all3 N)
def X4 (N : Nat) : Ev Try.prog D := X0.with (fs4 N)
theorem cok4 (N : Nat) : COk (X4 N) := COk.of (all4 N)
def u0_zbQ (N : Nat) : List (Pc D) := []
theorem oku0_zbQ (N : Nat) : ∀ u ∈ u0_zbQ N, PcOk (X4 N) (bodyOf Try.f34) u := pc_nil
def PzbQ_0 : PD D := { path := [1, 0, 0], ins := [.o 1 (.box 28)], fx := [(1, .box 0 0)], ks := [1], exs := [⟨.normal, [.v 27 .bool], []⟩], keep := [1] }
def FzbQ_0 (N : Nat) : PzbQ_0.F := fun x => zbQ_0 N x.1
theorem czbQ_0 (N : Nat) : CC (X4 N) (bodyOf Try.f34) PzbQ_0 (FzbQ_0 N) := CC.of (cok4 N) (us := u0_zbQ N) (fun u h _ => oku0_zbQ N u h) (fun x => by kernel_rfl)
def uzbQ_0 (N : Nat) : List (Pc D) := PzbQ_0.pc (X4 N) (FzbQ_0 N) :: u0_zbQ N
theorem okuzbQ_0 (N : Nat) : ∀ u ∈ uzbQ_0 N, PcOk (X4 N) (bodyOf Try.f34) u := pc_cons ((czbQ_0 N).pc (by kernel_rfl)) (oku0_zbQ N)
def PzbQ_2 : PD D := { path := [1, 1, 0, 1, 0, 0, 1, 0, 0, 1, 0], ins := [.o 1 (.box 28), .o 4 (.box 44)], fx := [(1, .box 0 0), (4, .box 1 0)], ks := [1, 1], exs := [⟨.normal, [.v 75 .bool], []⟩], keep := [1, 3] }
def FzbQ_2 (N : Nat) : PzbQ_2.F := fun x => zbQ_2 N x.1 x.2.1
theorem czbQ_2 (N : Nat) : CC (X4 N) (bodyOf Try.f34) PzbQ_2 (FzbQ_2 N) := CC.of (cok4 N) (us := uzbQ_0 N) (fun u h _ => okuzbQ_0 N u h) (fun x => by kernel_rfl)
def uzbQ_2 (N : Nat) : List (Pc D) := PzbQ_2.pc (X4 N) (FzbQ_2 N) :: uzbQ_0 N
theorem okuzbQ_2 (N : Nat) : ∀ u ∈ uzbQ_2 N, PcOk (X4 N) (bodyOf Try.f34) u := pc_cons ((czbQ_2 N).pc (by kernel_rfl)) (okuzbQ_0 N)
def PzbQ_1 : PD D := { path := [1, 1, 0, 1, 0], ins := [.o 1 (.box 28), .v 3 (.int .i64)], fx := [(1, .box 0 0)], ks := [1], exs := [⟨.exit 0, [], []⟩, ⟨.ret, [.v 2 .bool], []⟩], keep := [1] }
def FzbQ_1 (N n : Nat) : PzbQ_1.F := fun x => zbQ_1 N x.1 n x.2.1
theorem czbQ_1 (N n : Nat) : CC (X4 N) (bodyOf Try.f34) PzbQ_1 (FzbQ_1 N n) := CC.loop (cok4 N) (us := uzbQ_2 N) (c := sub (bodyOf Try.f34) [1, 1, 0, 1, 0, 0]) (by kernel_rfl) (by kernel_rfl) (fun u h _ => okuzbQ_2 N u h) (fun x => rfl) (fun n x => by kernel_rfl) n
def uzbQ_1 (N : Nat) : List (Pc D) := PzbQ_1.pc (X4 N) (FzbQ_1 N N) :: uzbQ_2 N
theorem okuzbQ_1 (N : Nat) : ∀ u ∈ uzbQ_1 N, PcOk (X4 N) (bodyOf Try.f34) u := pc_cons ((czbQ_1 N N).pc (by kernel_rfl)) (okuzbQ_2 N)
def PzbQ_4 : PD D := { path := [1, 1, 1, 0, 1, 0, 0, 1, 0, 0, 0, 0], ins := [.o 1 (.box 28), .v 5 (.int .i64)], fx := [(1, .box 0 0)], ks := [1], exs := [⟨.normal, [.v 99 .bool], []⟩], keep := [1, 5] }
def FzbQ_4 (N : Nat) : PzbQ_4.F := fun x => zbQ_4 N x.1 x.2.1
theorem czbQ_4 (N : Nat) : CC (X4 N) (bodyOf Try.f34) PzbQ_4 (FzbQ_4 N) := CC.of (cok4 N) (us := uzbQ_1 N) (fun u h _ => okuzbQ_1 N u h) (fun x => by kernel_rfl)
def uzbQ_4 (N : Nat) : List (Pc D) := PzbQ_4.pc (X4 N) (FzbQ_4 N) :: uzbQ_1 N
theorem okuzbQ_4 (N : Nat) : ∀ u ∈ uzbQ_4 N, PcOk (X4 N) (bodyOf Try.f34) u := pc_cons ((czbQ_4 N).pc (by kernel_rfl)) (okuzbQ_1 N)
def PzbQ_5 : PD D := { path := [1, 1, 1, 0, 1, 0, 0, 1, 0, 0, 1, 1, 0], ins := [.o 1 (.box 28), .v 5 (.int .i64), .v 6 (.int .i64)], fx := [(1, .box 0 0)], ks := [1], exs := [⟨.exit 4, [], []⟩, ⟨.ret, [.v 2 .bool], []⟩], keep := [1, 5] }
def FzbQ_5 (N n : Nat) : PzbQ_5.F := fun x => zbQ_5 N x.1 x.2.1 n x.2.2.1
theorem czbQ_5 (N n : Nat) : CC (X4 N) (bodyOf Try.f34) PzbQ_5 (FzbQ_5 N n) := CC.loop (cok4 N) (us := uzbQ_4 N) (c := sub (bodyOf Try.f34) [1, 1, 1, 0, 1, 0, 0, 1, 0, 0, 1, 1, 0, 0]) (by kernel_rfl) (by kernel_rfl) (fun u h _ => okuzbQ_4 N u h) (fun x => rfl) (fun n x => by kernel_rfl) n
def uzbQ_5 (N : Nat) : List (Pc D) := PzbQ_5.pc (X4 N) (FzbQ_5 N N) :: uzbQ_4 N
theorem okuzbQ_5 (N : Nat) : ∀ u ∈ uzbQ_5 N, PcOk (X4 N) (bodyOf Try.f34) u := pc_cons ((czbQ_5 N N).pc (by kernel_rfl)) (okuzbQ_4 N)
def PzbQ_3 : PD D := { path := [1, 1, 1, 0, 1, 0], ins := [.o 1 (.box 28), .v 5 (.int .i64)], fx := [(1, .box 0 0)], ks := [1], exs := [⟨.exit 2, [], []⟩, ⟨.ret, [.v 2 .bool], []⟩], keep := [1] }
def FzbQ_3 (N n : Nat) : PzbQ_3.F := fun x => zbQ_3 N x.1 n x.2.1
theorem czbQ_3 (N n : Nat) : CC (X4 N) (bodyOf Try.f34) PzbQ_3 (FzbQ_3 N n) := CC.loop (cok4 N) (us := uzbQ_5 N) (c := sub (bodyOf Try.f34) [1, 1, 1, 0, 1, 0, 0]) (by kernel_rfl) (by kernel_rfl) (fun u h _ => okuzbQ_5 N u h) (fun x => rfl) (fun n x => by kernel_rfl) n
def uzbQ_3 (N : Nat) : List (Pc D) := PzbQ_3.pc (X4 N) (FzbQ_3 N N) :: uzbQ_5 N
theorem okuzbQ_3 (N : Nat) : ∀ u ∈ uzbQ_3 N, PcOk (X4 N) (bodyOf Try.f34) u := pc_cons ((czbQ_3 N N).pc (by kernel_rfl)) (okuzbQ_5 N)
def PzbQ_8 : PD D := { path := [1, 1, 1, 1, 1, 0, 1, 0, 0, 1, 0, 0, 1, 0, 0, 1, 0, 0, 1, 0, 0], ins := [.o 1 (.box 28), .o 7 (.sl 3), .v 10 (.int .i64)], fx := [(1, .box 0 0), (7, .c (.own 1))], ks := [1, 1], exs := [⟨.normal, [.v 152 .bool], []⟩], keep := [1, 7, 8, 9, 10] }
def FzbQ_8 (N : Nat) : PzbQ_8.F := fun x => zbQ_8 N x.2.1 x.2.2.1
theorem czbQ_8 (N : Nat) : CC (X4 N) (bodyOf Try.f34) PzbQ_8 (FzbQ_8 N) := CC.of (cok4 N) (us := uzbQ_3 N) (fun u h _ => okuzbQ_3 N u h) (fun x => by kernel_rfl)
def uzbQ_8 (N : Nat) : List (Pc D) := PzbQ_8.pc (X4 N) (FzbQ_8 N) :: uzbQ_3 N
theorem okuzbQ_8 (N : Nat) : ∀ u ∈ uzbQ_8 N, PcOk (X4 N) (bodyOf Try.f34) u := pc_cons ((czbQ_8 N).pc (by kernel_rfl)) (okuzbQ_3 N)
def PzbQ_7 : PD D := { path := [1, 1, 1, 1, 1, 0, 1, 0, 0, 1, 0, 0, 1, 0], ins := [.o 1 (.box 28), .o 7 (.sl 3), .v 8 (.int .i64), .v 9 (.int .i64)], fx := [(1, .box 0 0), (7, .c (.own 1))], ks := [1, 2], exs := [⟨.exit 8, [.u 1 (.sl 3)], []⟩, ⟨.ret, [.v 2 .bool], []⟩], keep := [1, 7, 8] }
def FzbQ_7 (N n : Nat) : PzbQ_7.F := fun x => zbQ_7 N x.1 x.2.2.1 n x.2.1 x.2.2.2.1
theorem czbQ_7 (N n : Nat) : CC (X4 N) (bodyOf Try.f34) PzbQ_7 (FzbQ_7 N n) := CC.loop (cok4 N) (us := uzbQ_8 N) (c := sub (bodyOf Try.f34) [1, 1, 1, 1, 1, 0, 1, 0, 0, 1, 0, 0, 1, 0, 0]) (by kernel_rfl) (by kernel_rfl) (fun u h _ => okuzbQ_8 N u h) (fun x => rfl) (fun n x => by kernel_rfl) n
def uzbQ_7 (N : Nat) : List (Pc D) := PzbQ_7.pc (X4 N) (FzbQ_7 N N) :: uzbQ_8 N
theorem okuzbQ_7 (N : Nat) : ∀ u ∈ uzbQ_7 N, PcOk (X4 N) (bodyOf Try.f34) u := pc_cons ((czbQ_7 N N).pc (by kernel_rfl)) (okuzbQ_8 N)
def PzbQ_6 : PD D := { path := [1, 1, 1, 1, 1, 0, 1, 0], ins := [.o 1 (.box 28), .o 7 (.sl 3), .v 8 (.int .i64)], fx := [(1, .box 0 0), (7, .c (.own 1))], ks := [1, 0], exs := [⟨.exit 6, [.o 7 (.sl 3)], [(7, .c (.own 2))]⟩, ⟨.ret, [.v 2 .bool], []⟩], keep := [7] }
def FzbQ_6 (N n : Nat) : PzbQ_6.F := fun x => zbQ_6 N x.1 n x.2.1 x.2.2.1
theorem czbQ_6 (N n : Nat) : CC (X4 N) (bodyOf Try.f34) PzbQ_6 (FzbQ_6 N n) := CC.loop (cok4 N) (us := uzbQ_7 N) (c := sub (bodyOf Try.f34) [1, 1, 1, 1, 1, 0, 1, 0, 0]) (by kernel_rfl) (by kernel_rfl) (fun u h _ => okuzbQ_7 N u h) (fun x => rfl) (fun n x => by kernel_rfl) n
def uzbQ_6 (N : Nat) : List (Pc D) := PzbQ_6.pc (X4 N) (FzbQ_6 N N) :: uzbQ_7 N
theorem okuzbQ_6 (N : Nat) : ∀ u ∈ uzbQ_6 N, PcOk (X4 N) (bodyOf Try.f34) u := pc_cons ((czbQ_6 N N).pc (by kernel_rfl)) (okuzbQ_7 N)
def PzbQ_9 : PD D := { path := [1, 1, 1, 1, 1, 1, 0, 1, 0], ins := [.o 7 (.sl 3), .v 11 (.int .i64)], fx := [(7, .c (.own 0))], ks := [1], exs := [⟨.exit 10, [], []⟩, ⟨.ret, [.v 2 .bool], []⟩], keep := [] }
def FzbQ_9 (N n : Nat) : PzbQ_9.F := fun x => zbQ_9 N x.1 n x.2.1
theorem czbQ_9 (N n : Nat) : CC (X4 N) (bodyOf Try.f34) PzbQ_9 (FzbQ_9 N n) := CC.loop (cok4 N) (us := uzbQ_6 N) (c := sub (bodyOf Try.f34) [1, 1, 1, 1, 1, 1, 0, 1, 0, 0]) (by kernel_rfl) (by kernel_rfl) (fun u h _ => okuzbQ_6 N u h) (fun x => rfl) (fun n x => by kernel_rfl) n
def uzbQ_9 (N : Nat) : List (Pc D) := PzbQ_9.pc (X4 N) (FzbQ_9 N N) :: uzbQ_6 N
theorem okuzbQ_9 (N : Nat) : ∀ u ∈ uzbQ_9 N, PcOk (X4 N) (bodyOf Try.f34) u := pc_cons ((czbQ_9 N N).pc (by kernel_rfl)) (okuzbQ_6 N)
def dzbQ : FD D := { f := 34, np := 1, ins := [.v 0 (.agg 28)], fx := [], rcv := none, rk := 0, outs := [.v 2 .bool], ofx := [], rvs := [.tmp 2], flat := true }
def FzbQ (N : Nat) : dzbQ.F := fun r x => zbQ N x.1
theorem ozbQ (N : Nat) : FOk Try.prog (X4 N) dzbQ (FzbQ N) := ⟨⟨Try.f34, _, Try.func34, rfl, by kernel_rfl, by kernel_rfl, rfl, FC.of (cok4 N) (us := uzbQ_9 N) (fun u h _ => okuzbQ_9 N u h) (fun r x => by kernel_rfl)⟩, by kernel_rfl, by kernel_rfl, by kernel_rfl, by kernel_rfl⟩
def fs5 (N : Nat) : List (FE D) := ⟨dzbQ, FzbQ N⟩ :: fs4 N
theorem all5 (N : Nat) : ∀ y ∈ fs5 N, CallOk X0 y.d y.F := all_cons (x := ⟨dzbQ, FzbQ N⟩) (ozbQ N) (all4 N)
def X5 (N : Nat) : Ev Try.prog D := X0.with (fs5 N)
theorem cok5 (N : Nat) : COk (X5 N) := COk.of (all5 N)
def u0_zbU (N : Nat) : List (Pc D) := []
theorem oku0_zbU (N : Nat) : ∀ u ∈ u0_zbU N, PcOk (X5 N) (bodyOf Try.f35) u := pc_nil
def PzbU_1 : PD D := { path := [1, 1, 0, 1, 0, 0, 1, 0, 0, 1, 0], ins := [.o 1 (.box 28), .o 3 (.sl 109), .v 4 (.int .i64), .v 5 (.int .i64)], fx := [(1, .box 0 0), (3, .c (.own 1))], ks := [1, 2], exs := [⟨.exit 2, [.u 1 (.sl 109)], []⟩], keep := [1, 3, 4] }
def FzbU_1 (N n : Nat) : PzbU_1.F := fun x => zbU_1 N x.1 x.2.2.1 n x.2.1 x.2.2.2.1
theorem czbU_1 (N n : Nat) : CC (X5 N) (bodyOf Try.f35) PzbU_1 (FzbU_1 N n) := CC.loop (cok5 N) (us := u0_zbU N) (c := sub (bodyOf Try.f35) [1, 1, 0, 1, 0, 0, 1, 0, 0, 1, 0, 0]) (by kernel_rfl) (by kernel_rfl) (fun u h _ => oku0_zbU N u h) (fun x => rfl) (fun n x => by kernel_rfl) n
def uzbU_1 (N : Nat) : List (Pc D) := PzbU_1.pc (X5 N) (FzbU_1 N N) :: u0_zbU N
theorem okuzbU_1 (N : Nat) : ∀ u ∈ uzbU_1 N, PcOk (X5 N) (bodyOf Try.f35) u := pc_cons ((czbU_1 N N).pc (by kernel_rfl)) (oku0_zbU N)
def PzbU_0 : PD D := { path := [1, 1, 0, 1, 0], ins := [.o 1 (.box 28), .o 3 (.sl 109), .v 4 (.int .i64)], fx := [(1, .box 0 0), (3, .c (.own 1))], ks := [1, 2], exs := [⟨.exit 0, [.u 1 (.sl 109)], []⟩], keep := [3] }
def FzbU_0 (N n : Nat) : PzbU_0.F := fun x => zbU_0 N x.1 n x.2.1 x.2.2.1
theorem czbU_0 (N n : Nat) : CC (X5 N) (bodyOf Try.f35) PzbU_0 (FzbU_0 N n) := CC.loop (cok5 N) (us := uzbU_1 N) (c := sub (bodyOf Try.f35) [1, 1, 0, 1, 0, 0]) (by kernel_rfl) (by kernel_rfl) (fun u h _ => okuzbU_1 N u h) (fun x => rfl) (fun n x => by kernel_rfl) n
def uzbU_0 (N : Nat) : List (Pc D) := PzbU_0.pc (X5 N) (FzbU_0 N N) :: uzbU_1 N
theorem okuzbU_0 (N : Nat) : ∀ u ∈ uzbU_0 N, PcOk (X5 N) (bodyOf Try.f35) u := pc_cons ((czbU_0 N N).pc (by kernel_rfl)) (okuzbU_1 N)
def dzbU : FD D := { f := 35, np := 1, ins := [.v 0 (.agg 28)], fx := [], rcv := none, rk := 0, outs := [.o 2 (.sl 109)], ofx := [(2, .c (.own 0))], rvs := [.tmp 2], flat := false }
def FzbU (N : Nat) : dzbU.F := fun r x => zbU N x.1
theorem ozbU (N : Nat) : FOk Try.prog (X5 N) dzbU (FzbU N) := ⟨⟨Try.f35, _, Try.func35, rfl, by kernel_rfl, by kernel_rfl, rfl, FC.of (cok5 N) (us := uzbU_0 N) (fun u h _ => okuzbU_0 N u h) (fun r x => by kernel_rfl)⟩, by kernel_rfl, by kernel_rfl, by kernel_rfl, by kernel_rfl⟩
def fs6 (N : Nat) : List (FE D) := ⟨dzbU, FzbU N⟩ :: fs5 N
theorem all6 (N : Nat) : ∀ y ∈ fs6 N, CallOk X0 y.d y.F := all_cons (x := ⟨dzbU, FzbU N⟩) (ozbU N) (all5 N)
def X6 (N : Nat) : Ev Try.prog D := X0.with (fs6 N)
theorem cok6 (N : Nat) : COk (X6 N) := COk.of (all6 N)
def u0_zbZ (N : Nat) : List (Pc D) := []
theorem oku0_zbZ (N : Nat) : ∀ u ∈ u0_zbZ N, PcOk (X6 N) (bodyOf Try.f63) u := pc_nil
def dzbZ : FD D := { f := 63, np := 3, ins := [.v 0 (.agg 28), .v 1 (.sl 109), .v 2 (.int .i64)], fx := [], rcv := none, rk := 0, outs := [.v 6 .bool], ofx := [], rvs := [.tmp 6], flat := true }
def FzbZ (N : Nat) : dzbZ.F := fun r x => zbZ N x.1 x.2.1 x.2.2.1
theorem ozbZ (N : Nat) : FOk Try.prog (X6 N) dzbZ (FzbZ N) := ⟨⟨Try.f63, _, Try.func63, rfl, by kernel_rfl, by kernel_rfl, rfl, FC.of (cok6 N) (us := u0_zbZ N) (fun u h _ => oku0_zbZ N u h) (fun r x => by kernel_rfl)⟩, by kernel_rfl, by kernel_rfl, by kernel_rfl, by kernel_rfl⟩
def fs7 (N : Nat) : List (FE D) := ⟨dzbZ, FzbZ N⟩ :: fs6 N
theorem all7 (N : Nat) : ∀ y ∈ fs7 N, CallOk X0 y.d y.F := all_cons (x := ⟨dzbZ, FzbZ N⟩) (ozbZ N) (all6 N)
def X7 (N : Nat) : Ev Try.prog D := X0.with (fs7 N)
theorem cok7 (N : Nat) : COk (X7 N) := COk.of (all7 N)
def u0_zbH (N : Nat) : List (Pc D) := []
theorem oku0_zbH (N : Nat) : ∀ u ∈ u0_zbH N, PcOk (X7 N) (bodyOf Try.f65) u := pc_nil
def PzbH_0 : PD D := { path := [1, 0], ins := [.v 0 (.sl 109), .v 1 (.int .i64), .v 2 (.int .i64)], fx := [], ks := [], exs := [⟨.normal, [.v 6 .bool], []⟩], keep := [] }
def FzbH_0 (N : Nat) : PzbH_0.F := fun x => zbH_0 N x.1 x.2.1 x.2.2.1
theorem czbH_0 (N : Nat) : CC (X7 N) (bodyOf Try.f65) PzbH_0 (FzbH_0 N) := CC.of (cok7 N) (us := u0_zbH N) (fun u h _ => oku0_zbH N u h) (fun x => by kernel_rfl)
def uzbH_0 (N : Nat) : List (Pc D) := PzbH_0.pc (X7 N) (FzbH_0 N) :: u0_zbH N
theorem okuzbH_0 (N : Nat) : ∀ u ∈ uzbH_0 N, PcOk (X7 N) (bodyOf Try.f65) u := pc_cons ((czbH_0 N).pc (by kernel_rfl)) (oku0_zbH N)
def dzbH : FD D := { f := 65, np := 3, ins := [.v 0 (.sl 109), .v 1 (.int .i64), .v 2 (.int .i64)], fx := [], rcv := none, rk := 0, outs := [.v 6 .bool], ofx := [], rvs := [.tmp 6], flat := true }
def FzbH (N : Nat) : dzbH.F := fun r x => zbH N x.1 x.2.1 x.2.2.1
theorem ozbH (N : Nat) : FOk Try.prog (X7 N) dzbH (FzbH N) := ⟨⟨Try.f65, _, Try.func65, rfl, by kernel_rfl, by kernel_rfl, rfl, FC.of (cok7 N) (us := uzbH_0 N) (fun u h _ => okuzbH_0 N u h) (fun r x => by kernel_rfl)⟩, by kernel_rfl, by kernel_rfl, by kernel_rfl, by kernel_rfl⟩
def fs8 (N : Nat) : List (FE D) := ⟨dzbH, FzbH N⟩ :: fs7 N
theorem all8 (N : Nat) : ∀ y ∈ fs8 N, CallOk X0 y.d y.F := all_cons (x := ⟨dzbH, FzbH N⟩) (ozbH N) (all7 N)
def X8 (N : Nat) : Ev Try.prog D := X0.with (fs8 N)
theorem cok8 (N : Nat) : COk (X8 N) := COk.of (all8 N)
def u0_zbG (N : Nat) : List (Pc D) := []
theorem oku0_zbG (N : Nat) : ∀ u ∈ u0_zbG N, PcOk (X8 N) (bodyOf Try.f66) u := pc_nil
def PzbG_0 : PD D := { path := [1, 0], ins := [.v 1 (.int .i64), .v 2 (.int .i64), .o 3 (.box 28)], fx := [(3, .box 0 0)], ks := [1], exs := [⟨.normal, [.v 6 .bool], []⟩], keep := [] }
def FzbG_0 (N : Nat) : PzbG_0.F := fun x => zbG_0 N x.1 x.2.1 x.2.2.1
theorem czbG_0 (N : Nat) : CC (X8 N) (bodyOf Try.f66) PzbG_0 (FzbG_0 N) := CC.of (cok8 N) (us := u0_zbG N) (fun u h _ => oku0_zbG N u h) (fun x => by kernel_rfl)
def uzbG_0 (N : Nat) : List (Pc D) := PzbG_0.pc (X8 N) (FzbG_0 N) :: u0_zbG N
theorem okuzbG_0 (N : Nat) : ∀ u ∈ uzbG_0 N, PcOk (X8 N) (bodyOf Try.f66) u := pc_cons ((czbG_0 N).pc (by kernel_rfl)) (oku0_zbG N)
def dzbG : FD D := { f := 66, np := 3, ins := [.v 0 (.agg 28), .v 1 (.int .i64), .v 2 (.int .i64)], fx := [], rcv := none, rk := 0, outs := [.v 6 .bool], ofx := [], rvs := [.tmp 6], flat := true }
def FzbG (N : Nat) : dzbG.F := fun r x => zbG N x.1 x.2.1 x.2.2.1
theorem ozbG (N : Nat) : FOk Try.prog (X8 N) dzbG (FzbG N) := ⟨⟨Try.f66, _, Try.func66, rfl, by kernel_rfl, by kernel_rfl, rfl, FC.of (cok8 N) (us := uzbG_0 N) (fun u h _ => okuzbG_0 N u h) (fun r x => by kernel_rfl)⟩, by kernel_rfl, by kernel_rfl, by kernel_rfl, by kernel_rfl⟩
def fs9 (N : Nat) : List (FE D) := ⟨dzbG, FzbG N⟩ :: fs8 N
theorem all9 (N : Nat) : ∀ y ∈ fs9 N, CallOk X0 y.d y.F := all_cons (x := ⟨dzbG, FzbG N⟩) (ozbG N) (all8 N)
def X9 (N : Nat) : Ev Try.prog D := X0.with (fs9 N)
theorem cok9 (N : Nat) : COk (X9 N) := COk.of (all9 N)
def u0_zbF (N : Nat) : List (Pc D) := []
theorem oku0_zbF (N : Nat) : ∀ u ∈ u0_zbF N, PcOk (X9 N) (bodyOf Try.f64) u := pc_nil
def PzbF_0 : PD D := { path := [1, 0], ins := [.v 1 (.sl 109), .v 2 (.int .i64), .v 3 (.int .i64), .o 4 (.box 28)], fx := [(4, .box 0 0)], ks := [1], exs := [⟨.normal, [.v 8 .bool], []⟩], keep := [] }
def FzbF_0 (N : Nat) : PzbF_0.F := fun x => zbF_0 N x.1 x.2.1 x.2.2.1 x.2.2.2.1
theorem czbF_0 (N : Nat) : CC (X9 N) (bodyOf Try.f64) PzbF_0 (FzbF_0 N) := CC.of (cok9 N) (us := u0_zbF N) (fun u h _ => oku0_zbF N u h) (fun x => by kernel_rfl)
def uzbF_0 (N : Nat) : List (Pc D) := PzbF_0.pc (X9 N) (FzbF_0 N) :: u0_zbF N
theorem okuzbF_0 (N : Nat) : ∀ u ∈ uzbF_0 N, PcOk (X9 N) (bodyOf Try.f64) u := pc_cons ((czbF_0 N).pc (by kernel_rfl)) (oku0_zbF N)
def dzbF : FD D := { f := 64, np := 4, ins := [.v 0 (.agg 28), .v 1 (.sl 109), .v 2 (.int .i64), .v 3 (.int .i64)], fx := [], rcv := none, rk := 0, outs := [.v 8 .bool], ofx := [], rvs := [.tmp 8], flat := true }
def FzbF (N : Nat) : dzbF.F := fun r x => zbF N x.1 x.2.1 x.2.2.1 x.2.2.2.1
theorem ozbF (N : Nat) : FOk Try.prog (X9 N) dzbF (FzbF N) := ⟨⟨Try.f64, _, Try.func64, rfl, by kernel_rfl, by kernel_rfl, rfl, FC.of (cok9 N) (us := uzbF_0 N) (fun u h _ => okuzbF_0 N u h) (fun r x => by kernel_rfl)⟩, by kernel_rfl, by kernel_rfl, by kernel_rfl, by kernel_rfl⟩
def fs10 (N : Nat) : List (FE D) := ⟨dzbF, FzbF N⟩ :: fs9 N
theorem all10 (N : Nat) : ∀ y ∈ fs10 N, CallOk X0 y.d y.F := all_cons (x := ⟨dzbF, FzbF N⟩) (ozbF N) (all9 N)
def X10 (N : Nat) : Ev Try.prog D := X0.with (fs10 N)
theorem cok10 (N : Nat) : COk (X10 N) := COk.of (all10 N)
def u0_zbS (N : Nat) : List (Pc D) := []
theorem oku0_zbS (N : Nat) : ∀ u ∈ u0_zbS N, PcOk (X10 N) (bodyOf Try.f36) u := pc_nil
def PzbS_0 : PD D := { path := [1, 1, 0, 1, 0], ins := [.v 1 (.sl 109), .v 2 (.int .i64), .o 3 (.box 28), .o 6 (.box 39), .v 8 (.int .i64)], fx := [(3, .box 0 0), (6, .box 1 0)], ks := [1, 2], exs := [⟨.exit 0, [.u 1 (.box 39)], []⟩, ⟨.ret, [.u 1 (.box 39), .v 7 .bool], []⟩], keep := [6] }
def FzbS_0 (N n : Nat) : PzbS_0.F := fun x => zbS_0 N x.1 x.2.1 x.2.2.1 n x.2.2.2.1 x.2.2.2.2.1
theorem czbS_0 (N n : Nat) : CC (X10 N) (bodyOf Try.f36) PzbS_0 (FzbS_0 N n) := CC.loop (cok10 N) (us := u0_zbS N) (c := sub (bodyOf Try.f36) [1, 1, 0, 1, 0, 0]) (by kernel_rfl) (by kernel_rfl) (fun u h _ => oku0_zbS N u h) (fun x => rfl) (fun n x => by kernel_rfl) n
def uzbS_0 (N : Nat) : List (Pc D) := PzbS_0.pc (X10 N) (FzbS_0 N N) :: u0_zbS N
theorem okuzbS_0 (N : Nat) : ∀ u ∈ uzbS_0 N, PcOk (X10 N) (bodyOf Try.f36) u := pc_cons ((czbS_0 N N).pc (by kernel_rfl)) (oku0_zbS N)
def dzbS : FD D := { f := 36, np := 3, ins := [.v 0 (.agg 28), .v 1 (.sl 109), .v 2 (.int .i64)], fx := [], rcv := none, rk := 0, outs := [.v 1000000 (.agg 39), .v 7 .bool], ofx := [], rvs := [.cell 6 39, .tmp 7], flat := true }
def FzbS (N : Nat) : dzbS.F := fun r x => zbS N x.1 x.2.1 x.2.2.1
theorem ozbS (N : Nat) : FOk Try.prog (X10 N) dzbS (FzbS N) := ⟨⟨Try.f36, _, Try.func36, rfl, by kernel_rfl, by kernel_rfl, rfl, FC.of (cok10 N) (us := uzbS_0 N) (fun u h _ => okuzbS_0 N u h) (fun r x => by kernel_rfl)⟩, by kernel_rfl, by kernel_rfl, by kernel_rfl, by kernel_rfl⟩
def fs11 (N : Nat) : List (FE D) := ⟨dzbS, FzbS N⟩ :: fs10 N
theorem all11 (N : Nat) : ∀ y ∈ fs11 N, CallOk X0 y.d y.F := all_cons (x := ⟨dzbS, FzbS N⟩) (ozbS N) (all10 N)
def X11 (N : Nat) : Ev Try.prog D := X0.with (fs11 N)
theorem cok11 (N : Nat) : COk (X11 N) := COk.of (all11 N)
def u0_zbT (N : Nat) : List (Pc D) := []
theorem oku0_zbT (N : Nat) : ∀ u ∈ u0_zbT N, PcOk (X11 N) (bodyOf Try.f37) u := pc_nil
def PzbT_1 : PD D := { path := [1, 0, 1, 0, 0, 1, 0, 0, 0], ins := [.v 1 (.sl 109), .v 2 (.sl 3), .v 3 (.int .i64), .v 4 (.int .i64), .o 5 (.box 28), .o 10 (.box 39), .v 12 (.int .i64)], fx := [(5, .box 0 0), (10, .box 1 0)], ks := [1, 1], exs := [⟨.normal, [.v 39 .bool], []⟩], keep := [1, 2, 3, 4, 5, 10, 12] }
def FzbT_1 (N : Nat) : PzbT_1.F := fun x => zbT_1 N x.1 x.2.1 x.2.2.1 x.2.2.2.1 x.2.2.2.2.2.2.1
theorem czbT_1 (N : Nat) : CC (X11 N) (bodyOf Try.f37) PzbT_1 (FzbT_1 N) := CC.of (cok11 N) (us := u0_zbT N) (fun u h _ => oku0_zbT N u h) (fun x => by kernel_rfl)
def uzbT_1 (N : Nat) : List (Pc D) := PzbT_1.pc (X11 N) (FzbT_1 N) :: u0_zbT N
theorem okuzbT_1 (N : Nat) : ∀ u ∈ uzbT_1 N, PcOk (X11 N) (bodyOf Try.f37) u := pc_cons ((czbT_1 N).pc (by kernel_rfl)) (oku0_zbT N)
def PzbT_0 : PD D := { path := [1, 0, 1, 0], ins := [.v 1 (.sl 109), .v 2 (.sl 3), .v 3 (.int .i64), .v 4 (.int .i64), .o 5 (.box 28), .o 10 (.box 39), .v 12 (.int .i64)], fx := [(5, .box 0 0), (10, .box 1 0)], ks := [1, 2], exs := [⟨.exit 0, [.u 1 (.box 39)], []⟩, ⟨.ret, [.u 1 (.box 39), .v 11 .bool], []⟩], keep := [2, 3, 4, 5, 10] }
def FzbT_0 (N n : Nat) : PzbT_0.F := fun x => zbT_0 N x.1 x.2.1 x.2.2.1 x.2.2.2.1 x.2.2.2.2.1 n x.2.2.2.2.2.1 x.2.2.2.2.2.2.1
theorem czbT_0 (N n : Nat) : CC (X11 N) (bodyOf Try.f37) PzbT_0 (FzbT_0 N n) := CC.loop (cok11 N) (us := uzbT_1 N) (c := sub (bodyOf Try.f37) [1, 0, 1, 0, 0]) (by kernel_rfl) (by kernel_rfl) (fun u h _ => okuzbT_1 N u h) (fun x => rfl) (fun n x => by kernel_rfl) n
def uzbT_0 (N : Nat) : List (Pc D) := PzbT_0.pc (X11 N) (FzbT_0 N N) :: uzbT_1 N
theorem okuzbT_0 (N : Nat) : ∀ u ∈ uzbT_0 N, PcOk (X11 N) (bodyOf Try.f37) u := pc_cons ((czbT_0 N N).pc (by kernel_rfl)) (okuzbT_1 N)
def PzbT_3 : PD D := { path := [1, 1, 0, 1, 0, 0, 1, 0, 0, 0], ins := [.v 2 (.sl 3), .v 3 (.int .i64), .v 4 (.int .i64), .o 5 (.box 28), .o 10 (.box 39), .v 13 (.int .i64)], fx := [(5, .box 0 0), (10, .box 1 0)], ks := [1, 1], exs := [⟨.normal, [.v 69 .bool], []⟩], keep := [2, 3, 4, 5, 10, 13] }
def FzbT_3 (N : Nat) : PzbT_3.F := fun x => zbT_3 N x.1 x.2.1 x.2.2.1 x.2.2.2.1 x.2.2.2.2.2.1
theorem czbT_3 (N : Nat) : CC (X11 N) (bodyOf Try.f37) PzbT_3 (FzbT_3 N) := CC.of (cok11 N) (us := uzbT_0 N) (fun u h _ => okuzbT_0 N u h) (fun x => by kernel_rfl)
def uzbT_3 (N : Nat) : List (Pc D) := PzbT_3.pc (X11 N) (FzbT_3 N) :: uzbT_0 N
theorem okuzbT_3 (N : Nat) : ∀ u ∈ uzbT_3 N, PcOk (X11 N) (bodyOf Try.f37) u := pc_cons ((czbT_3 N).pc (by kernel_rfl)) (okuzbT_0 N)
def PzbT_2 : PD D := { path := [1, 1, 0, 1, 0], ins := [.v 2 (.sl 3), .v 3 (.int .i64), .v 4 (.int .i64), .o 5 (.box 28), .o 10 (.box 39), .v 13 (.int .i64)], fx := [(5, .box 0 0), (10, .box 1 0)], ks := [1, 2], exs := [⟨.exit 2, [.u 1 (.box 39)], []⟩, ⟨.ret, [.u 1 (.box 39), .v 11 .bool], []⟩], keep := [10] }
def FzbT_2 (N n : Nat) : PzbT_2.F := fun x => zbT_2 N x.1 x.2.1 x.2.2.1 x.2.2.2.1 n x.2.2.2.2.1 x.2.2.2.2.2.1
theorem czbT_2 (N n : Nat) : CC (X11 N) (bodyOf Try.f37) PzbT_2 (FzbT_2 N n) := CC.loop (cok11 N) (us := uzbT_3 N) (c := sub (bodyOf Try.f37) [1, 1, 0, 1, 0, 0]) (by kernel_rfl) (by kernel_rfl) (fun u h _ => okuzbT_3 N u h) (fun x => rfl) (fun n x => by kernel_rfl) n
def uzbT_2 (N : Nat) : List (Pc D) := PzbT_2.pc (X11 N) (FzbT_2 N N) :: uzbT_3 N
theorem okuzbT_2 (N : Nat) : ∀ u ∈ uzbT_2 N, PcOk (X11 N) (bodyOf Try.f37) u := pc_cons ((czbT_2 N N).pc (by kernel_rfl)) (okuzbT_3 N)
def dzbT : FD D := { f := 37, np := 5, ins := [.v 0 (.agg 28), .v 1 (.sl 109), .v 2 (.sl 3), .v 3 (.int .i64), .v 4 (.int .i64)], fx := [], rcv := none, rk := 0, outs := [.v 1000000 (.agg 39), .v 11 .bool], ofx := [], rvs := [.cell 10 39, .tmp 11], flat := true }
def FzbT (N : Nat) : dzbT.F := fun r x => zbT N x.1 x.2.1 x.2.2.1 x.2.2.2.1 x.2.2.2.2.1
theorem ozbT (N : Nat) : FOk Try.prog (X11 N) dzbT (FzbT N) := ⟨⟨Try.f37, _, Try.func37, rfl, by kernel_rfl, by kernel_rfl, rfl, FC.of (cok11 N) (us := uzbT_2 N) (fun u h _ => okuzbT_2 N u h) (fun r x => by kernel_rfl)⟩, by kernel_rfl, by kernel_rfl, by kernel_rfl, by kernel_rfl⟩
def fs12 (N : Nat) : List (FE D) := ⟨dzbT, FzbT N⟩ :: fs11 N
theorem all12 (N : Nat) : ∀ y ∈ fs12 N, CallOk X0 y.d y.F := all_cons (x := ⟨dzbT, FzbT N⟩) (ozbT N) (all11 N)
def X12 (N : Nat) : Ev Try.prog D := X0.with (fs12 N)
theorem cok12 (N : Nat) : COk (X12 N) := COk.of (all12 N)
def u0_zbP (N : Nat) : List (Pc D) := []
theorem oku0_zbP (N : Nat) : ∀ u ∈ u0_zbP N, PcOk (X12 N) (bodyOf Try.f17) u := pc_nil
def PzbP_1 : PD D := { path := [1, 1, 1, 1, 1, 0, 1, 0, 0, 1, 0], ins := [.o 1 (.box 28), .o 4 (.sl 109), .o 5 (.sl 39), .o 6 (.sl 3), .v 7 (.int .i64)], fx := [(1, .box 0 0), (4, .c (.own 1)), (5, .c (.own 2)), (6, .c (.own 3))], ks := [1, 1, 2, 2], exs := [⟨.normal, [.u 2 (.sl 39), .u 3 (.sl 3)], []⟩], keep := [1, 4, 5, 6, 7] }
def FzbP_1 (N : Nat) : PzbP_1.F := fun x => zbP_1 N x.1 x.2.1 x.2.2.1 x.2.2.2.1 x.2.2.2.2.1
theorem czbP_1 (N : Nat) : CC (X12 N) (bodyOf Try.f17) PzbP_1 (FzbP_1 N) := CC.of (cok12 N) (us := u0_zbP N) (fun u h _ => oku0_zbP N u h) (fun x => by kernel_rfl)
def uzbP_1 (N : Nat) : List (Pc D) := PzbP_1.pc (X12 N) (FzbP_1 N) :: u0_zbP N
theorem okuzbP_1 (N : Nat) : ∀ u ∈ uzbP_1 N, PcOk (X12 N) (bodyOf Try.f17) u := pc_cons ((czbP_1 N).pc (by kernel_rfl)) (oku0_zbP N)
def PzbP_0 : PD D := { path := [1, 1, 1, 1, 1, 0, 1, 0], ins := [.o 1 (.box 28), .o 4 (.sl 109), .o 5 (.sl 39), .o 6 (.sl 3), .v 7 (.int .i64)], fx := [(1, .box 0 0), (4, .c (.own 1)), (5, .c (.own 2)), (6, .c (.own 3))], ks := [1, 1, 2, 2], exs := [⟨.exit 0, [.u 2 (.sl 39), .u 3 (.sl 3)], []⟩], keep := [1, 4, 5, 6] }
def FzbP_0 (N n : Nat) : PzbP_0.F := fun x => zbP_0 N x.1 x.2.1 n x.2.2.1 x.2.2.2.1 x.2.2.2.2.1
theorem czbP_0 (N n : Nat) : CC (X12 N) (bodyOf Try.f17) PzbP_0 (FzbP_0 N n) := CC.loop (cok12 N) (us := uzbP_1 N) (c := sub (bodyOf Try.f17) [1, 1, 1, 1, 1, 0, 1, 0, 0]) (by kernel_rfl) (by kernel_rfl) (fun u h _ => okuzbP_1 N u h) (fun x => rfl) (fun n x => by kernel_rfl) n
def uzbP_0 (N : Nat) : List (Pc D) := PzbP_0.pc (X12 N) (FzbP_0 N N) :: uzbP_1 N
theorem okuzbP_0 (N : Nat) : ∀ u ∈ uzbP_0 N, PcOk (X12 N) (bodyOf Try.f17) u := pc_cons ((czbP_0 N N).pc (by kernel_rfl)) (okuzbP_1 N)
def PzbP_4 : PD D := { path := [1, 1, 1, 1, 1, 1, 0, 1, 0, 0, 1, 0, 0, 1, 1, 0, 0, 1, 0], ins := [.o 1 (.box 28), .o 4 (.sl 109), .o 5 (.sl 39), .o 6 (.sl 3), .v 10 (.int .i64), .v 11 .bool, .v 12 (.int .i64)], fx := [(1, .box 0 0), (4, .c (.own 1)), (5, .c (.own 2)), (6, .c (.own 3))], ks := [1, 1, 2, 2], exs := [⟨.normal, [.u 2 (.sl 39), .u 3 (.sl 3), .v 11 .bool], []⟩], keep := [1, 4, 5, 6, 10, 12] }
def FzbP_4 (N : Nat) : PzbP_4.F := fun x => zbP_4 N x.1 x.2.1 x.2.2.1 x.2.2.2.1 x.2.2.2.2.1 x.2.2.2.2.2.1 x.2.2.2.2.2.2.1
theorem czbP_4 (N : Nat) : CC (X12 N) (bodyOf Try.f17) PzbP_4 (FzbP_4 N) := CC.of (cok12 N) (us := uzbP_0 N) (fun u h _ => okuzbP_0 N u h) (fun x => by kernel_rfl)
def uzbP_4 (N : Nat) : List (Pc D) := PzbP_4.pc (X12 N) (FzbP_4 N) :: uzbP_0 N
theorem okuzbP_4 (N : Nat) : ∀ u ∈ uzbP_4 N, PcOk (X12 N) (bodyOf Try.f17) u := pc_cons ((czbP_4 N).pc (by kernel_rfl)) (okuzbP_0 N)
def PzbP_3 : PD D := { path := [1, 1, 1, 1, 1, 1, 0, 1, 0, 0, 1, 0, 0, 1, 1, 0], ins := [.o 1 (.box 28), .o 4 (.sl 109), .o 5 (.sl 39), .o 6 (.sl 3), .v 10 (.int .i64), .v 11 .bool, .v 12 (.int .i64)], fx := [(1, .box 0 0), (4, .c (.own 1)), (5, .c (.own 2)), (6, .c (.own 3))], ks := [1, 1, 2, 2], exs := [⟨.exit 4, [.u 2 (.sl 39), .u 3 (.sl 3), .v 11 .bool], []⟩], keep := [1, 4, 5, 6, 10] }
def FzbP_3 (N n : Nat) : PzbP_3.F := fun x => zbP_3 N x.1 x.2.1 x.2.2.2.2.1 n x.2.2.1 x.2.2.2.1 x.2.2.2.2.2.1 x.2.2.2.2.2.2.1
theorem czbP_3 (N n : Nat) : CC (X12 N) (bodyOf Try.f17) PzbP_3 (FzbP_3 N n) := CC.loop (cok12 N) (us := uzbP_4 N) (c := sub (bodyOf Try.f17) [1, 1, 1, 1, 1, 1, 0, 1, 0, 0, 1, 0, 0, 1, 1, 0, 0]) (by kernel_rfl) (by kernel_rfl) (fun u h _ => okuzbP_4 N u h) (fun x => rfl) (fun n x => by kernel_rfl) n
def uzbP_3 (N : Nat) : List (Pc D) := PzbP_3.pc (X12 N) (FzbP_3 N N) :: uzbP_4 N
theorem okuzbP_3 (N : Nat) : ∀ u ∈ uzbP_3 N, PcOk (X12 N) (bodyOf Try.f17) u := pc_cons ((czbP_3 N N).pc (by kernel_rfl)) (okuzbP_4 N)
def PzbP_2 : PD D := { path := [1, 1, 1, 1, 1, 1, 0, 1, 0], ins := [.o 1 (.box 28), .o 4 (.sl 109), .o 5 (.sl 39), .o 6 (.sl 3), .v 10 (.int .i64), .v 11 .bool], fx := [(1, .box 0 0), (4, .c (.own 1)), (5, .c (.own 2)), (6, .c (.own 3))], ks := [1, 1, 2, 2], exs := [⟨.exit 2, [.u 2 (.sl 39), .u 3 (.sl 3)], []⟩], keep := [5, 6] }
def FzbP_2 (N n : Nat) : PzbP_2.F := fun x => zbP_2 N x.1 x.2.1 n x.2.2.1 x.2.2.2.1 x.2.2.2.2.1 x.2.2.2.2.2.1
theorem czbP_2 (N n : Nat) : CC (X12 N) (bodyOf Try.f17) PzbP_2 (FzbP_2 N n) := CC.loop (cok12 N) (us := uzbP_3 N) (c := sub (bodyOf Try.f17) [1, 1, 1, 1, 1, 1, 0, 1, 0, 0]) (by kernel_rfl) (by kernel_rfl) (fun u h _ => okuzbP_3 N u h) (fun x => rfl) (fun n x => by kernel_rfl) n
def uzbP_2 (N : Nat) : List (Pc D) := PzbP_2.pc (X12 N) (FzbP_2 N N) :: uzbP_3 N
theorem okuzbP_2 (N : Nat) : ∀ u ∈ uzbP_2 N, PcOk (X12 N) (bodyOf Try.f17) u := pc_cons ((czbP_2 N N).pc (by kernel_rfl)) (okuzbP_3 N)
def PzbP_6 : PD D := { path := [1, 1, 1, 1, 1, 1, 1, 1, 0, 1, 0, 0, 1, 0], ins := [.o 5 (.sl 39), .o 6 (.sl 3), .o 15 (.sl 39), .v 16 (.int .i64)], fx := [(5, .c (.own 0)), (6, .c (.own 1)), (15, .c (.own 2))], ks := [1, 1, 0], exs := [⟨.normal, [.o 15 (.sl 39)], [(15, .c (.own 3))]⟩], keep := [5, 6, 16] }
def FzbP_6 (N : Nat) : PzbP_6.F := fun x => zbP_6 N x.1 x.2.1 x.2.2.1 x.2.2.2.1
theorem czbP_6 (N : Nat) : CC (X12 N) (bodyOf Try.f17) PzbP_6 (FzbP_6 N) := CC.of (cok12 N) (us := uzbP_2 N) (fun u h _ => okuzbP_2 N u h) (fun x => by kernel_rfl)
def uzbP_6 (N : Nat) : List (Pc D) := PzbP_6.pc (X12 N) (FzbP_6 N) :: uzbP_2 N
theorem okuzbP_6 (N : Nat) : ∀ u ∈ uzbP_6 N, PcOk (X12 N) (bodyOf Try.f17) u := pc_cons ((czbP_6 N).pc (by kernel_rfl)) (okuzbP_2 N)
def PzbP_5 : PD D := { path := [1, 1, 1, 1, 1, 1, 1, 1, 0, 1, 0], ins := [.o 5 (.sl 39), .o 6 (.sl 3), .o 15 (.sl 39), .v 16 (.int .i64)], fx := [(5, .c (.own 0)), (6, .c (.own 1)), (15, .c (.own 2))], ks := [1, 1, 0], exs := [⟨.exit 6, [.o 15 (.sl 39)], [(15, .c (.own 3))]⟩], keep := [] }
def FzbP_5 (N n : Nat) : PzbP_5.F := fun x => zbP_5 N x.1 x.2.1 n x.2.2.1 x.2.2.2.1
theorem czbP_5 (N n : Nat) : CC (X12 N) (bodyOf Try.f17) PzbP_5 (FzbP_5 N n) := CC.loop (cok12 N) (us := uzbP_6 N) (c := sub (bodyOf Try.f17) [1, 1, 1, 1, 1, 1, 1, 1, 0, 1, 0, 0]) (by kernel_rfl) (by kernel_rfl) (fun u h _ => okuzbP_6 N u h) (fun x => rfl) (fun n x => by kernel_rfl) n
def uzbP_5 (N : Nat) : List (Pc D) := PzbP_5.pc (X12 N) (FzbP_5 N N) :: uzbP_6 N
theorem okuzbP_5 (N : Nat) : ∀ u ∈ uzbP_5 N, PcOk (X12 N) (bodyOf Try.f17) u := pc_cons ((czbP_5 N N).pc (by kernel_rfl)) (okuzbP_6 N)
def dzbP : FD D := { f := 17, np := 1, ins := [.v 0 (.agg 28)], fx := [], rcv := none, rk := 0, outs := [.o 2 (.sl 39), .v 3 (.int .i64)], ofx := [(2, .c (.own 0))], rvs := [.tmp 2, .tmp 3], flat := false }
def FzbP (N : Nat) : dzbP.F := fun r x => zbP N x.1
theorem ozbP (N : Nat) : FOk Try.prog (X12 N) dzbP (FzbP N) := ⟨⟨Try.f17, _, Try.func17, rfl, by kernel_rfl, by kernel_rfl, rfl, FC.of (cok12 N) (us := uzbP_5 N) (fun u h _ => okuzbP_5 N u h) (fun r x => by kernel_rfl)⟩, by kernel_rfl, by kernel_rfl, by kernel_rfl, by kernel_rfl⟩
def fs13 (N : Nat) : List (FE D) := ⟨dzbP, FzbP N⟩ :: fs12 N
theorem all13 (N : Nat) : ∀ y ∈ fs13 N, CallOk X0 y.d y.F := all_cons (x := ⟨dzbP, FzbP N⟩) (ozbP N) (all12 N)
def X13 (N : Nat) : Ev Try.prog D := X0.with (fs13 N)
theorem cok13 (N : Nat) : COk (X13 N) := COk.of (all13 N)
def Y13 (N : Nat) : Ev Try.prog D := (X13 N).cuts fun x lo hi => match x, lo, hi with | .const (.int .i64 26), none, none => 3 | _, _, _ => 0
theorem coky13 (N : Nat) : COk (Y13 N) := COk.cuts (cok13 N)
def u0_zaE (N : Nat) : List (Pc D) := []
theorem oku0_zaE (N : Nat) : ∀ u ∈ u0_zaE N, PcOk (Y13 N) (bodyOf Try.f20) u := pc_nil
def PzaE_0 : PD D := { path := [1, 1, 1, 0, 1, 0], ins := [.o 0 (.recv 69), .o 3 (.bx 28 [(0, 4), (1, 5)]), .o 4 (.box 28), .o 5 (.ne 22 3), .v 6 (.int .i64), .o 2003000 (.sl 44), .o 2003001 (.sl 3)], fx := [(0, .box 0 0), (3, .box 1 0), (4, .box 2 0), (5, .c (.own 3))], ks := [1, 1, 1, 0, 1, 1], exs := [⟨.exit 0, [.o 5 (.ne 22 3)], [(5, .c (.own 6))]⟩], keep := [0, 3, 4] }
def FzaE_0 (N n : Nat) : PzaE_0.F := fun x => zaE_0 N x.2.1 n x.2.2.2.1 x.2.2.2.2.1
theorem czaE_0 (N n : Nat) : CC (Y13 N) (bodyOf Try.f20) PzaE_0 (FzaE_0 N n) := CC.loop (coky13 N) (us := u0_zaE N) (c := sub (bodyOf Try.f20) [1, 1, 1, 0, 1, 0, 0]) (by kernel_rfl) (by kernel_rfl) (fun u h _ => oku0_zaE N u h) (fun x => rfl) (fun n x => by kernel_rfl) n
def uzaE_0 (N : Nat) : List (Pc D) := PzaE_0.pc (Y13 N) (FzaE_0 N N) :: u0_zaE N
theorem okuzaE_0 (N : Nat) : ∀ u ∈ uzaE_0 N, PcOk (Y13 N) (bodyOf Try.f20) u := pc_cons ((czaE_0 N N).pc (by kernel_rfl)) (oku0_zaE N)
def PzaE_1 : PD D := { path := [1, 1, 1, 1, 1, 0, 1], ins := [.o 0 (.recv 69), .o 3 (.bx 28 [(0, 3), (1, 4), (2, 5)]), .o 4 (.box 28), .v 38 (.int .i64), .o 2003000 (.sl 44), .o 2003001 (.sl 3), .o 2003002 (.ne 22 3)], fx := [(0, .box 0 0), (3, .box 1 0), (4, .box 2 0)], ks := [2, 2, 1, 0, 0, 0], exs := [⟨.normal, [.u 0 (.recv 69), .u 1 (.bx 28 [(0, 6), (1, 7), (2, 8)]), .o 2003000 (.sl 44), .o 2003001 (.sl 3), .o 2003002 (.ne 22 3)], []⟩], keep := [0, 3, 4] }
def FzaE_1 (N : Nat) : PzaE_1.F := fun x => zaE_1 N x.1 x.2.2.2.1 x.2.2.2.2.1 x.2.2.2.2.2.1 x.2.2.2.2.2.2.1
theorem czaE_1 (N : Nat) : CC (Y13 N) (bodyOf Try.f20) PzaE_1 (FzaE_1 N) := CC.of (coky13 N) (us := uzaE_0 N) (fun u h _ => okuzaE_0 N u h) (fun x => by kernel_rfl)
def uzaE_1 (N : Nat) : List (Pc D) := PzaE_1.pc (Y13 N) (FzaE_1 N) :: uzaE_0 N
theorem okuzaE_1 (N : Nat) : ∀ u ∈ uzaE_1 N, PcOk (Y13 N) (bodyOf Try.f20) u := pc_cons ((czaE_1 N).pc (by kernel_rfl)) (okuzaE_0 N)
def dzaE : FD D := { f := 20, np := 2, ins := [.v 1 (.agg 28)], fx := [], rcv := some (0, 69), rk := 2, outs := [.v 1000000 (.agg 28), .u 0 (.recv 69)], ofx := [], rvs := [.cell 4 28], flat := false }
def FzaE (N : Nat) : dzaE.F := fun r x => zaE N r x.1
theorem ozaE (N : Nat) : FOk Try.prog (Y13 N) dzaE (FzaE N) := ⟨⟨Try.f20, _, Try.func20, rfl, by kernel_rfl, by kernel_rfl, rfl, FC.of (coky13 N) (us := uzaE_1 N) (fun u h _ => okuzaE_1 N u h) (fun r x => by kernel_rfl)⟩, by kernel_rfl, by kernel_rfl, by kernel_rfl, by kernel_rfl⟩
def fs14 (N : Nat) : List (FE D) := ⟨dzaE, FzaE N⟩ :: fs13 N
theorem all14 (N : Nat) : ∀ y ∈ fs14 N, CallOk X0 y.d y.F := all_call (x := ⟨dzaE, FzaE N⟩) ((ozaE N).call.cuts) (all13 N)
def X14 (N : Nat) : Ev Try.prog D := X0.with (fs14 N)
theorem cok14 (N : Nat) : COk (X14 N) := COk.of (all14 N)
def u0_zaF (N : Nat) : List (Pc D) := []
theorem oku0_zaF (N : Nat) : ∀ u ∈ u0_zaF N, PcOk (X14 N) (bodyOf Try.f77) u := pc_nil
def PzaF_0 : PD D := { path := [1, 0, 1, 0], ins := [.v 0 (.sl 3), .v 1 (.int .i64), .v 7 (.int .i64), .v 8 (.int .i64)], fx := [], ks := [], exs := [⟨.exit 0, [], []⟩, ⟨.ret, [.v 4 (.int .i64)], []⟩], keep := [] }
def FzaF_0 (N n : Nat) : PzaF_0.F := fun x => zaF_0 N x.1 x.2.1 x.2.2.1 n x.2.2.2.1
theorem czaF_0 (N n : Nat) : CC (X14 N) (bodyOf Try.f77) PzaF_0 (FzaF_0 N n) := CC.loop (cok14 N) (us := u0_zaF N) (c := sub (bodyOf Try.f77) [1, 0, 1, 0, 0]) (by kernel_rfl) (by kernel_rfl) (fun u h _ => oku0_zaF N u h) (fun x => rfl) (fun n x => by kernel_rfl) n
def uzaF_0 (N : Nat) : List (Pc D) := PzaF_0.pc (X14 N) (FzaF_0 N N) :: u0_zaF N
theorem okuzaF_0 (N : Nat) : ∀ u ∈ uzaF_0 N, PcOk (X14 N) (bodyOf Try.f77) u := pc_cons ((czaF_0 N N).pc (by kernel_rfl)) (oku0_zaF N)
def dzaF : FD D := { f := 77, np := 2, ins := [.v 0 (.sl 3), .v 1 (.int .i64)], fx := [], rcv := none, rk := 0, outs := [.v 4 (.int .i64)], ofx := [], rvs := [.tmp 4], flat := true }
def FzaF (N : Nat) : dzaF.F := fun r x => zaF N x.1 x.2.1
theorem ozaF (N : Nat) : FOk Try.prog (X14 N) dzaF (FzaF N) := ⟨⟨Try.f77, _, Try.func77, rfl, by kernel_rfl, by kernel_rfl, rfl, FC.of (cok14 N) (us := uzaF_0 N) (fun u h _ => okuzaF_0 N u h) (fun r x => by kernel_rfl)⟩, by kernel_rfl, by kernel_rfl, by kernel_rfl, by kernel_rfl⟩
def fs15 (N : Nat) : List (FE D) := ⟨dzaF, FzaF N⟩ :: fs14 N
theorem all15 (N : Nat) : ∀ y ∈ fs15 N, CallOk X0 y.d y.F := all_cons (x := ⟨dzaF, FzaF N⟩) (ozaF N) (all14 N)
def X15 (N : Nat) : Ev Try.prog D := X0.with (fs15 N)
theorem cok15 (N : Nat) : COk (X15 N) := COk.of (all15 N)
def u0_zaC (N : Nat) : List (Pc D) := []
theorem oku0_zaC (N : Nat) : ∀ u ∈ u0_zaC N, PcOk (X15 N) (bodyOf Try.f52) u := pc_nil
def dzaC : FD D := { f := 52, np := 2, ins := [.v 0 (.sl 3), .v 1 (.int .i64)], fx := [], rcv := none, rk := 0, outs := [.v 4 .bool], ofx := [], rvs := [.tmp 4], flat := true }
def FzaC (N : Nat) : dzaC.F := fun r x => zaC N x.1 x.2.1
theorem ozaC (N : Nat) : FOk Try.prog (X15 N) dzaC (FzaC N) := ⟨⟨Try.f52, _, Try.func52, rfl, by kernel_rfl, by kernel_rfl, rfl, FC.of (cok15 N) (us := u0_zaC N) (fun u h _ => oku0_zaC N u h) (fun r x => by kernel_rfl)⟩, by kernel_rfl, by kernel_rfl, by kernel_rfl, by kernel_rfl⟩
def fs16 (N : Nat) : List (FE D) := ⟨dzaC, FzaC N⟩ :: fs15 N
theorem all16 (N : Nat) : ∀ y ∈ fs16 N, CallOk X0 y.d y.F := all_cons (x := ⟨dzaC, FzaC N⟩) (ozaC N) (all15 N)
def X16 (N : Nat) : Ev Try.prog D := X0.with (fs16 N)
theorem cok16 (N : Nat) : COk (X16 N) := COk.of (all16 N)
def u0_zaW (N : Nat) : List (Pc D) := []
theorem oku0_zaW (N : Nat) : ∀ u ∈ u0_zaW N, PcOk (X16 N) (bodyOf Try.f53) u := pc_nil
def PzaW_2 : PD D := { path := [1, 1, 1, 1, 0, 1, 0, 0, 1, 1, 0, 0, 1, 1, 0, 0, 1, 1, 0, 0, 1, 0, 0], ins := [.o 4 (.sl 121), .o 5 (.sl 4), .v 10 (.int .i64)], fx := [(4, .c (.own 0)), (5, .c (.own 1))], ks := [1, 1], exs := [⟨.normal, [.v 47 .bool], []⟩], keep := [4, 5, 6, 7, 9, 10, 20, 21, 22, 27, 28, 29] }
def FzaW_2 (N : Nat) : PzaW_2.F := fun x => zaW_2 N x.1 x.2.1 x.2.2.1
theorem czaW_2 (N : Nat) : CC (X16 N) (bodyOf Try.f53) PzaW_2 (FzaW_2 N) := CC.of (cok16 N) (us := u0_zaW N) (fun u h _ => oku0_zaW N u h) (fun x => by kernel_rfl)
def uzaW_2 (N : Nat) : List (Pc D) := PzaW_2.pc (X16 N) (FzaW_2 N) :: u0_zaW N
theorem okuzaW_2 (N : Nat) : ∀ u ∈ uzaW_2 N, PcOk (X16 N) (bodyOf Try.f53) u := pc_cons ((czaW_2 N).pc (by kernel_rfl)) (oku0_zaW N)
def PzaW_1 : PD D := { path := [1, 1, 1, 1, 0, 1, 0, 0, 1, 1, 0, 0, 1, 1, 0], ins := [.o 4 (.sl 121), .o 5 (.sl 4), .v 6 (.int .i64), .v 7 (.int .i64), .v 27 (.sl 3), .v 28 (.int .i64), .v 29 (.int .i64)], fx := [(4, .c (.own 0)), (5, .c (.own 1))], ks := [2, 2], exs := [⟨.exit 2, [.u 0 (.sl 121), .u 1 (.sl 4), .v 6 (.int .i64)], []⟩, ⟨.ret, [.v 3 .bool], [(2, .c .nilS)]⟩], keep := [4, 5, 20, 21, 22] }
def FzaW_1 (N n : Nat) : PzaW_1.F := fun x => zaW_1 N x.2.2.2.1 x.2.2.2.2.1 x.2.2.2.2.2.1 n x.1 x.2.1 x.2.2.1 x.2.2.2.2.2.2.1
theorem czaW_1 (N n : Nat) : CC (X16 N) (bodyOf Try.f53) PzaW_1 (FzaW_1 N n) := CC.loop (cok16 N) (us := uzaW_2 N) (c := sub (bodyOf Try.f53) [1, 1, 1, 1, 0, 1, 0, 0, 1, 1, 0, 0, 1, 1, 0, 0]) (by kernel_rfl) (by kernel_rfl) (fun u h _ => okuzaW_2 N u h) (fun x => rfl) (fun n x => by kernel_rfl) n
def uzaW_1 (N : Nat) : List (Pc D) := PzaW_1.pc (X16 N) (FzaW_1 N N) :: uzaW_2 N
theorem okuzaW_1 (N : Nat) : ∀ u ∈ uzaW_1 N, PcOk (X16 N) (bodyOf Try.f53) u := pc_cons ((czaW_1 N N).pc (by kernel_rfl)) (okuzaW_2 N)
def PzaW_0 : PD D := { path := [1, 1, 1, 1, 0, 1, 0], ins := [.o 4 (.sl 121), .o 5 (.sl 4), .v 6 (.int .i64), .v 20 (.sl 22), .v 21 (.int .i64), .v 22 (.int .i64)], fx := [(4, .c (.own 0)), (5, .c (.own 1))], ks := [0, 0], exs := [⟨.exit 0, [.o 4 (.sl 121), .v 6 (.int .i64)], [(4, .c (.own 2))]⟩, ⟨.ret, [.v 3 .bool], [(2, .c .nilS)]⟩], keep := [4] }
def FzaW_0 (N n : Nat) : PzaW_0.F := fun x => zaW_0 N x.2.2.2.1 x.2.2.2.2.1 n x.1 x.2.1 x.2.2.1 x.2.2.2.2.2.1
theorem czaW_0 (N n : Nat) : CC (X16 N) (bodyOf Try.f53) PzaW_0 (FzaW_0 N n) := CC.loop (cok16 N) (us := uzaW_1 N) (c := sub (bodyOf Try.f53) [1, 1, 1, 1, 0, 1, 0, 0]) (by kernel_rfl) (by kernel_rfl) (fun u h _ => okuzaW_1 N u h) (fun x => rfl) (fun n x => by kernel_rfl) n
def uzaW_0 (N : Nat) : List (Pc D) := PzaW_0.pc (X16 N) (FzaW_0 N N) :: uzaW_1 N
theorem okuzaW_0 (N : Nat) : ∀ u ∈ uzaW_0 N, PcOk (X16 N) (bodyOf Try.f53) u := pc_cons ((czaW_0 N N).pc (by kernel_rfl)) (okuzaW_1 N)
def dzaW : FD D := { f := 53, np := 1, ins := [.v 0 (.agg 28)], fx := [], rcv := none, rk := 0, outs := [.o 2 (.sl 121), .v 3 .bool], ofx := [(2, .c (.own 0))], rvs := [.tmp 2, .tmp 3], flat := false }
def FzaW (N : Nat) : dzaW.F := fun r x => zaW N x.1
theorem ozaW (N : Nat) : FOk Try.prog (X16 N) dzaW (FzaW N) := ⟨⟨Try.f53, _, Try.func53, rfl, by kernel_rfl, by kernel_rfl, rfl, FC.of (cok16 N) (us := uzaW_0 N) (fun u h _ => okuzaW_0 N u h) (fun r x => by kernel_rfl)⟩, by kernel_rfl, by kernel_rfl, by kernel_rfl, by kernel_rfl⟩
def fs17 (N : Nat) : List (FE D) := ⟨dzaW, FzaW N⟩ :: fs16 N
theorem all17 (N : Nat) : ∀ y ∈ fs17 N, CallOk X0 y.d y.F := all_cons (x := ⟨dzaW, FzaW N⟩) (ozaW N) (all16 N)
def X17 (N : Nat) : Ev Try.prog D := X0.with (fs17 N)
theorem cok17 (N : Nat) : COk (X17 N) := COk.of (all17 N)
def u0_zaT (N : Nat) : List (Pc D) := []
theorem oku0_zaT (N : Nat) : ∀ u ∈ u0_zaT N, PcOk (X17 N) (bodyOf Try.f25) u := pc_nil
def PzaT_0 : PD D := { path := [1, 0, 0], ins := [.o 1 (.box 28)], fx := [(1, .box 0 0)], ks := [1], exs := [⟨.normal, [.v 24 .bool], []⟩], keep := [1] }
def FzaT_0 (N : Nat) : PzaT_0.F := fun x => zaT_0 N x.1
theorem czaT_0 (N : Nat) : CC (X17 N) (bodyOf Try.f25) PzaT_0 (FzaT_0 N) := CC.of (cok17 N) (us := u0_zaT N) (fun u h _ => oku0_zaT N u h) (fun x => by kernel_rfl)
def uzaT_0 (N : Nat) : List (Pc D) := PzaT_0.pc (X17 N) (FzaT_0 N) :: u0_zaT N
theorem okuzaT_0 (N : Nat) : ∀ u ∈ uzaT_0 N, PcOk (X17 N) (bodyOf Try.f25) u := pc_cons ((czaT_0 N).pc (by kernel_rfl)) (oku0_zaT N)
def PzaT_2 : PD D := { path := [1, 1, 0, 1, 0, 0, 1, 1, 0, 0, 1, 0], ins := [.o 1 (.box 28), .v 3 (.int .i64), .v 4 (.int .i64)], fx := [(1, .box 0 0)], ks := [1], exs := [⟨.normal, [.v 49 .bool], []⟩], keep := [1, 26, 27, 28] }
def FzaT_2 (N : Nat) : PzaT_2.F := fun x => zaT_2 N x.1 x.2.1 x.2.2.1
theorem czaT_2 (N : Nat) : CC (X17 N) (bodyOf Try.f25) PzaT_2 (FzaT_2 N) := CC.of (cok17 N) (us := uzaT_0 N) (fun u h _ => okuzaT_0 N u h) (fun x => by kernel_rfl)
def uzaT_2 (N : Nat) : List (Pc D) := PzaT_2.pc (X17 N) (FzaT_2 N) :: uzaT_0 N
theorem okuzaT_2 (N : Nat) : ∀ u ∈ uzaT_2 N, PcOk (X17 N) (bodyOf Try.f25) u := pc_cons ((czaT_2 N).pc (by kernel_rfl)) (okuzaT_0 N)
def PzaT_1 : PD D := { path := [1, 1, 0, 1, 0], ins := [.o 1 (.box 28), .v 26 (.sl 3), .v 27 (.int .i64), .v 28 (.int .i64)], fx := [(1, .box 0 0)], ks := [1], exs := [⟨.exit 0, [], []⟩, ⟨.ret, [.v 2 .bool], []⟩], keep := [1] }
def FzaT_1 (N n : Nat) : PzaT_1.F := fun x => zaT_1 N x.1 x.2.1 x.2.2.1 n x.2.2.2.1
theorem czaT_1 (N n : Nat) : CC (X17 N) (bodyOf Try.f25) PzaT_1 (FzaT_1 N n) := CC.loop (cok17 N) (us := uzaT_2 N) (c := sub (bodyOf Try.f25) [1, 1, 0, 1, 0, 0]) (by kernel_rfl) (by kernel_rfl) (fun u h _ => okuzaT_2 N u h) (fun x => rfl) (fun n x => by kernel_rfl) n
def uzaT_1 (N : Nat) : List (Pc D) := PzaT_1.pc (X17 N) (FzaT_1 N N) :: uzaT_2 N
theorem okuzaT_1 (N : Nat) : ∀ u ∈ uzaT_1 N, PcOk (X17 N) (bodyOf Try.f25) u := pc_cons ((czaT_1 N N).pc (by kernel_rfl)) (okuzaT_2 N)
def PzaT_4 : PD D := { path := [1, 1, 1, 0, 1, 0, 0, 1, 1, 0, 0, 1, 0], ins := [.o 1 (.box 28), .o 6 (.box 44)], fx := [(1, .box 0 0), (6, .box 1 0)], ks := [1, 1], exs := [⟨.normal, [.v 93 .bool], []⟩], keep := [1, 52, 53, 54] }
def FzaT_4 (N : Nat) : PzaT_4.F := fun x => zaT_4 N x.1 x.2.1
theorem czaT_4 (N : Nat) : CC (X17 N) (bodyOf Try.f25) PzaT_4 (FzaT_4 N) := CC.of (cok17 N) (us := uzaT_1 N) (fun u h _ => okuzaT_1 N u h) (fun x => by kernel_rfl)
def uzaT_4 (N : Nat) : List (Pc D) := PzaT_4.pc (X17 N) (FzaT_4 N) :: uzaT_1 N
theorem okuzaT_4 (N : Nat) : ∀ u ∈ uzaT_4 N, PcOk (X17 N) (bodyOf Try.f25) u := pc_cons ((czaT_4 N).pc (by kernel_rfl)) (okuzaT_1 N)
def PzaT_3 : PD D := { path := [1, 1, 1, 0, 1, 0], ins := [.o 1 (.box 28), .v 52 (.sl 44), .v 53 (.int .i64), .v 54 (.int .i64)], fx := [(1, .box 0 0)], ks := [1], exs := [⟨.exit 2, [], []⟩, ⟨.ret, [.v 2 .bool], []⟩], keep := [1] }
def FzaT_3 (N n : Nat) : PzaT_3.F := fun x => zaT_3 N x.1 x.2.1 x.2.2.1 n x.2.2.2.1
theorem czaT_3 (N n : Nat) : CC (X17 N) (bodyOf Try.f25) PzaT_3 (FzaT_3 N n) := CC.loop (cok17 N) (us := uzaT_4 N) (c := sub (bodyOf Try.f25) [1, 1, 1, 0, 1, 0, 0]) (by kernel_rfl) (by kernel_rfl) (fun u h _ => okuzaT_4 N u h) (fun x => rfl) (fun n x => by kernel_rfl) n
def uzaT_3 (N : Nat) : List (Pc D) := PzaT_3.pc (X17 N) (FzaT_3 N N) :: uzaT_4 N
theorem okuzaT_3 (N : Nat) : ∀ u ∈ uzaT_3 N, PcOk (X17 N) (bodyOf Try.f25) u := pc_cons ((czaT_3 N N).pc (by kernel_rfl)) (okuzaT_4 N)
def dzaT : FD D := { f := 25, np := 1, ins := [.v 0 (.agg 28)], fx := [], rcv := none, rk := 0, outs := [.v 2 .bool], ofx := [], rvs := [.tmp 2], flat := true }
def FzaT (N : Nat) : dzaT.F := fun r x => zaT N x.1
theorem ozaT (N : Nat) : FOk Try.prog (X17 N) dzaT (FzaT N) := ⟨⟨Try.f25, _, Try.func25, rfl, by kernel_rfl, by kernel_rfl, rfl, FC.of (cok17 N) (us := uzaT_3 N) (fun u h _ => okuzaT_3 N u h) (fun r x => by kernel_rfl)⟩, by kernel_rfl, by kernel_rfl, by kernel_rfl, by kernel_rfl⟩
def fs18 (N : Nat) : List (FE D) := ⟨dzaT, FzaT N⟩ :: fs17 N
theorem all18 (N : Nat) : ∀ y ∈ fs18 N, CallOk X0 y.d y.F := all_cons (x := ⟨dzaT, FzaT N⟩) (ozaT N) (all17 N)
def X18 (N : Nat) : Ev Try.prog D := X0.with (fs18 N)
theorem cok18 (N : Nat) : COk (X18 N) := COk.of (all18 N)
def u0_zbA (N : Nat) : List (Pc D) := []
theorem oku0_zbA (N : Nat) : ∀ u ∈ u0_zbA N, PcOk (X18 N) (bodyOf Try.f26) u := pc_nil
def PzbA_0 : PD D := { path := [1, 1, 1, 0, 1, 0], ins := [.o 3 (.bx 75 [(3, 1), (4, 2)]), .v 24 (.int .i64), .v 25 (.int .i64), .o 2003003 (.sl 121), .o 2003004 (.sl 3)], fx := [(3, .box 0 0)], ks := [1, 1, 2], exs := [⟨.exit 0, [.u 2 (.sl 3)], []⟩], keep := [3] }
def FzbA_0 (N n : Nat) : PzbA_0.F := fun x => zbA_0 N x.2.1 n x.2.2.1 x.2.2.2.2.1
theorem czbA_0 (N n : Nat) : CC (X18 N) (bodyOf Try.f26) PzbA_0 (FzbA_0 N n) := CC.loop (cok18 N) (us := u0_zbA N) (c := sub (bodyOf Try.f26) [1, 1, 1, 0, 1, 0, 0]) (by kernel_rfl) (by kernel_rfl) (fun u h _ => oku0_zbA N u h) (fun x => rfl) (fun n x => by kernel_rfl) n
def uzbA_0 (N : Nat) : List (Pc D) := PzbA_0.pc (X18 N) (FzbA_0 N N) :: u0_zbA N
theorem okuzbA_0 (N : Nat) : ∀ u ∈ uzbA_0 N, PcOk (X18 N) (bodyOf Try.f26) u := pc_cons ((czbA_0 N N).pc (by kernel_rfl)) (oku0_zbA N)
def dzbA : FD D := { f := 26, np := 1, ins := [.v 0 (.agg 28)], fx := [], rcv := none, rk := 0, outs := [.o 2 (.bx 75 [(3, 1), (4, 2)]), .o 2002003 (.sl 121), .o 2002004 (.sl 3)], ofx := [(2, .box 0 0)], rvs := [.tmp 2], flat := false }
def FzbA (N : Nat) : dzbA.F := fun r x => zbA N x.1
theorem ozbA (N : Nat) : FOk Try.prog (X18 N) dzbA (FzbA N) := ⟨⟨Try.f26, _, Try.func26, rfl, by kernel_rfl, by kernel_rfl, rfl, FC.of (cok18 N) (us := uzbA_0 N) (fun u h _ => okuzbA_0 N u h) (fun r x => by kernel_rfl)⟩, by kernel_rfl, by kernel_rfl, by kernel_rfl, by kernel_rfl⟩
def fs19 (N : Nat) : List (FE D) := ⟨dzbA, FzbA N⟩ :: fs18 N
theorem all19 (N : Nat) : ∀ y ∈ fs19 N, CallOk X0 y.d y.F := all_cons (x := ⟨dzbA, FzbA N⟩) (ozbA N) (all18 N)
def X19 (N : Nat) : Ev Try.prog D := X0.with (fs19 N)
theorem cok19 (N : Nat) : COk (X19 N) := COk.of (all19 N)
def u0_zbJ (N : Nat) : List (Pc D) := []
theorem oku0_zbJ (N : Nat) : ∀ u ∈ u0_zbJ N, PcOk (X19 N) (bodyOf Try.f54) u := pc_nil
def dzbJ : FD D := { f := 54, np := 2, ins := [.v 0 (.rp 75), .v 1 (.int .i64)], fx := [], rcv := none, rk := 0, outs := [.v 4 .bool], ofx := [], rvs := [.tmp 4], flat := true }
def FzbJ (N : Nat) : dzbJ.F := fun r x => zbJ N x.1 x.2.1
theorem ozbJ (N : Nat) : FOk Try.prog (X19 N) dzbJ (FzbJ N) := ⟨⟨Try.f54, _, Try.func54, rfl, by kernel_rfl, by kernel_rfl, rfl, FC.of (cok19 N) (us := u0_zbJ N) (fun u h _ => oku0_zbJ N u h) (fun r x => by kernel_rfl)⟩, by kernel_rfl, by kernel_rfl, by kernel_rfl, by kernel_rfl⟩
def fs20 (N : Nat) : List (FE D) := ⟨dzbJ, FzbJ N⟩ :: fs19 N
theorem all20 (N : Nat) : ∀ y ∈ fs20 N, CallOk X0 y.d y.F := all_cons (x := ⟨dzbJ, FzbJ N⟩) (ozbJ N) (all19 N)
def X20 (N : Nat) : Ev Try.prog D := X0.with (fs20 N)
theorem cok20 (N : Nat) : COk (X20 N) := COk.of (all20 N)
def u0_zbB (N : Nat) : List (Pc D) := []
theorem oku0_zbB (N : Nat) : ∀ u ∈ u0_zbB N, PcOk (X20 N) (bodyOf Try.f59) u := pc_nil
def PzbB_0 : PD D := { path := [1, 0], ins := [.v 0 (.rp 75), .v 1 (.int .i64), .v 2 (.int .i64)], fx := [], ks := [], exs := [⟨.normal, [.v 6 .bool], []⟩], keep := [] }
def FzbB_0 (N : Nat) : PzbB_0.F := fun x => zbB_0 N x.1 x.2.1 x.2.2.1
theorem czbB_0 (N : Nat) : CC (X20 N) (bodyOf Try.f59) PzbB_0 (FzbB_0 N) := CC.of (cok20 N) (us := u0_zbB N) (fun u h _ => oku0_zbB N u h) (fun x => by kernel_rfl)
def uzbB_0 (N : Nat) : List (Pc D) := PzbB_0.pc (X20 N) (FzbB_0 N) :: u0_zbB N
theorem okuzbB_0 (N : Nat) : ∀ u ∈ uzbB_0 N, PcOk (X20 N) (bodyOf Try.f59) u := pc_cons ((czbB_0 N).pc (by kernel_rfl)) (oku0_zbB N)
def dzbB : FD D := { f := 59, np := 3, ins := [.v 0 (.rp 75), .v 1 (.int .i64), .v 2 (.int .i64)], fx := [], rcv := none, rk := 0, outs := [.v 6 .bool], ofx := [], rvs := [.tmp 6], flat := true }
def FzbB (N : Nat) : dzbB.F := fun r x => zbB N x.1 x.2.1 x.2.2.1
theorem ozbB (N : Nat) : FOk Try.prog (X20 N) dzbB (FzbB N) := ⟨⟨Try.f59, _, Try.func59, rfl, by kernel_rfl, by kernel_rfl, rfl, FC.of (cok20 N) (us := uzbB_0 N) (fun u h _ => okuzbB_0 N u h) (fun r x => by kernel_rfl)⟩, by kernel_rfl, by kernel_rfl, by kernel_rfl, by kernel_rfl⟩
def fs21 (N : Nat) : List (FE D) := ⟨dzbB, FzbB N⟩ :: fs20 N
theorem all21 (N : Nat) : ∀ y ∈ fs21 N, CallOk X0 y.d y.F := all_cons (x := ⟨dzbB, FzbB N⟩) (ozbB N) (all20 N)
def X21 (N : Nat) : Ev Try.prog D := X0.with (fs21 N)
theorem cok21 (N : Nat) : COk (X21 N) := COk.of (all21 N)
def u0_zaX (N : Nat) : List (Pc D) := []
theorem oku0_zaX (N : Nat) : ∀ u ∈ u0_zaX N, PcOk (X21 N) (bodyOf Try.f60) u := pc_nil
def PzaX_0 : PD D := { path := [1, 0], ins := [.v 0 (.rp 75), .v 1 (.int .i64), .v 2 (.int .i64)], fx := [], ks := [], exs := [⟨.normal, [.v 6 .bool], []⟩], keep := [] }
def FzaX_0 (N : Nat) : PzaX_0.F := fun x => zaX_0 N x.1 x.2.1 x.2.2.1
theorem czaX_0 (N : Nat) : CC (X21 N) (bodyOf Try.f60) PzaX_0 (FzaX_0 N) := CC.of (cok21 N) (us := u0_zaX N) (fun u h _ => oku0_zaX N u h) (fun x => by kernel_rfl)
def uzaX_0 (N : Nat) : List (Pc D) := PzaX_0.pc (X21 N) (FzaX_0 N) :: u0_zaX N
theorem okuzaX_0 (N : Nat) : ∀ u ∈ uzaX_0 N, PcOk (X21 N) (bodyOf Try.f60) u := pc_cons ((czaX_0 N).pc (by kernel_rfl)) (oku0_zaX N)
def dzaX : FD D := { f := 60, np := 3, ins := [.v 0 (.rp 75), .v 1 (.int .i64), .v 2 (.int .i64)], fx := [], rcv := none, rk := 0, outs := [.v 6 .bool], ofx := [], rvs := [.tmp 6], flat := true }
def FzaX (N : Nat) : dzaX.F := fun r x => zaX N x.1 x.2.1 x.2.2.1
theorem ozaX (N : Nat) : FOk Try.prog (X21 N) dzaX (FzaX N) := ⟨⟨Try.f60, _, Try.func60, rfl, by kernel_rfl, by kernel_rfl, rfl, FC.of (cok21 N) (us := uzaX_0 N) (fun u h _ => okuzaX_0 N u h) (fun r x => by kernel_rfl)⟩, by kernel_rfl, by kernel_rfl, by kernel_rfl, by kernel_rfl⟩
def fs22 (N : Nat) : List (FE D) := ⟨dzaX, FzaX N⟩ :: fs21 N
theorem all22 (N : Nat) : ∀ y ∈ fs22 N, CallOk X0 y.d y.F := all_cons (x := ⟨dzaX, FzaX N⟩) (ozaX N) (all21 N)
def X22 (N : Nat) : Ev Try.prog D := X0.with (fs22 N)
theorem cok22 (N : Nat) : COk (X22 N) := COk.of (all22 N)
def u0_zaY (N : Nat) : List (Pc D) := []
theorem oku0_zaY (N : Nat) : ∀ u ∈ u0_zaY N, PcOk (X22 N) (bodyOf Try.f78) u := pc_nil
def PzaY_0 : PD D := { path := [1, 0], ins := [.v 0 (.rp 75), .v 1 (.int .i64), .v 2 (.int .i64)], fx := [], ks := [], exs := [⟨.normal, [.v 6 .bool], []⟩], keep := [] }
def FzaY_0 (N : Nat) : PzaY_0.F := fun x => zaY_0 N x.1 x.2.1 x.2.2.1
theorem czaY_0 (N : Nat) : CC (X22 N) (bodyOf Try.f78) PzaY_0 (FzaY_0 N) := CC.of (cok22 N) (us := u0_zaY N) (fun u h _ => oku0_zaY N u h) (fun x => by kernel_rfl)
def uzaY_0 (N : Nat) : List (Pc D) := PzaY_0.pc (X22 N) (FzaY_0 N) :: u0_zaY N
theorem okuzaY_0 (N : Nat) : ∀ u ∈ uzaY_0 N, PcOk (X22 N) (bodyOf Try.f78) u := pc_cons ((czaY_0 N).pc (by kernel_rfl)) (oku0_zaY N)
def dzaY : FD D := { f := 78, np := 3, ins := [.v 0 (.rp 75), .v 1 (.int .i64), .v 2 (.int .i64)], fx := [], rcv := none, rk := 0, outs := [.v 6 .bool], ofx := [], rvs := [.tmp 6], flat := true }
def FzaY (N : Nat) : dzaY.F := fun r x => zaY N x.1 x.2.1 x.2.2.1
theorem ozaY (N : Nat) : FOk Try.prog (X22 N) dzaY (FzaY N) := ⟨⟨Try.f78, _, Try.func78, rfl, by kernel_rfl, by kernel_rfl, rfl, FC.of (cok22 N) (us := uzaY_0 N) (fun u h _ => okuzaY_0 N u h) (fun r x => by kernel_rfl)⟩, by kernel_rfl, by kernel_rfl, by kernel_rfl, by kernel_rfl⟩
def fs23 (N : Nat) : List (FE D) := ⟨dzaY, FzaY N⟩ :: fs22 N
theorem all23 (N : Nat) : ∀ y ∈ fs23 N, CallOk X0 y.d y.F := all_cons (x := ⟨dzaY, FzaY N⟩) (ozaY N) (all22 N)
def X23 (N : Nat) : Ev Try.prog D := X0.with (fs23 N)
theorem cok23 (N : Nat) : COk (X23 N) := COk.of (all23 N)
def u0_zaO (N : Nat) : List (Pc D) := []
theorem oku0_zaO (N : Nat) : ∀ u ∈ u0_zaO N, PcOk (X23 N) (bodyOf Try.f55) u := pc_nil
def PzaO_0 : PD D := { path := [1, 0, 1, 0, 0], ins := [.v 0 (.rp 75), .v 1 (.int .i64), .v 3 (.int .i64)], fx := [], ks := [], exs := [⟨.normal, [.v 10 .bool], []⟩], keep := [] }
def FzaO_0 (N : Nat) : PzaO_0.F := fun x => zaO_0 N x.1 x.2.1 x.2.2.1
theorem czaO_0 (N : Nat) : CC (X23 N) (bodyOf Try.f55) PzaO_0 (FzaO_0 N) := CC.of (cok23 N) (us := u0_zaO N) (fun u h _ => oku0_zaO N u h) (fun x => by kernel_rfl)
def uzaO_0 (N : Nat) : List (Pc D) := PzaO_0.pc (X23 N) (FzaO_0 N) :: u0_zaO N
theorem okuzaO_0 (N : Nat) : ∀ u ∈ uzaO_0 N, PcOk (X23 N) (bodyOf Try.f55) u := pc_cons ((czaO_0 N).pc (by kernel_rfl)) (oku0_zaO N)
def PzaO_1 : PD D := { path := [1, 1, 0, 0], ins := [.v 0 (.rp 75), .v 3 (.int .i64)], fx := [], ks := [], exs := [⟨.normal, [.v 32 .bool], []⟩], keep := [0, 1, 2, 3, 4] }
def FzaO_1 (N : Nat) : PzaO_1.F := fun x => zaO_1 N x.1 x.2.1
theorem czaO_1 (N : Nat) : CC (X23 N) (bodyOf Try.f55) PzaO_1 (FzaO_1 N) := CC.of (cok23 N) (us := uzaO_0 N) (fun u h _ => okuzaO_0 N u h) (fun x => by kernel_rfl)
def uzaO_1 (N : Nat) : List (Pc D) := PzaO_1.pc (X23 N) (FzaO_1 N) :: uzaO_0 N
theorem okuzaO_1 (N : Nat) : ∀ u ∈ uzaO_1 N, PcOk (X23 N) (bodyOf Try.f55) u := pc_cons ((czaO_1 N).pc (by kernel_rfl)) (okuzaO_0 N)
def PzaO_2 : PD D := { path := [1, 1, 1, 0, 0, 0], ins := [.v 2 (.int .i64), .v 4 (.int .i64)], fx := [], ks := [], exs := [⟨.normal, [.v 33 .bool], []⟩], keep := [0, 1, 2, 3, 4] }
def FzaO_2 (N : Nat) : PzaO_2.F := fun x => zaO_2 N x.1 x.2.1
theorem czaO_2 (N : Nat) : CC (X23 N) (bodyOf Try.f55) PzaO_2 (FzaO_2 N) := CC.of (cok23 N) (us := uzaO_1 N) (fun u h _ => okuzaO_1 N u h) (fun x => by kernel_rfl)
def uzaO_2 (N : Nat) : List (Pc D) := PzaO_2.pc (X23 N) (FzaO_2 N) :: uzaO_1 N
theorem okuzaO_2 (N : Nat) : ∀ u ∈ uzaO_2 N, PcOk (X23 N) (bodyOf Try.f55) u := pc_cons ((czaO_2 N).pc (by kernel_rfl)) (okuzaO_1 N)
def PzaO_3 : PD D := { path := [1, 1, 1, 0, 0, 1, 0, 0], ins := [.v 0 (.rp 75), .v 1 (.int .i64), .v 3 (.int .i64)], fx := [], ks := [], exs := [⟨.normal, [.v 10 .bool], []⟩], keep := [] }
def FzaO_3 (N : Nat) : PzaO_3.F := fun x => zaO_3 N x.1 x.2.1 x.2.2.1
theorem czaO_3 (N : Nat) : CC (X23 N) (bodyOf Try.f55) PzaO_3 (FzaO_3 N) := CC.of (cok23 N) (us := uzaO_2 N) (fun u h _ => okuzaO_2 N u h) (fun x => by kernel_rfl)
def uzaO_3 (N : Nat) : List (Pc D) := PzaO_3.pc (X23 N) (FzaO_3 N) :: uzaO_2 N
theorem okuzaO_3 (N : Nat) : ∀ u ∈ uzaO_3 N, PcOk (X23 N) (bodyOf Try.f55) u := pc_cons ((czaO_3 N).pc (by kernel_rfl)) (okuzaO_2 N)
def PzaO_4 : PD D := { path := [1, 1, 1, 0, 0, 1, 1, 1, 0, 0], ins := [.v 0 (.rp 75), .v 1 (.int .i64), .v 3 (.int .i64), .v 4 (.int .i64)], fx := [], ks := [], exs := [⟨.normal, [.v 10 .bool], []⟩], keep := [] }
def FzaO_4 (N : Nat) : PzaO_4.F := fun x => zaO_4 N x.1 x.2.1 x.2.2.1 x.2.2.2.1
theorem czaO_4 (N : Nat) : CC (X23 N) (bodyOf Try.f55) PzaO_4 (FzaO_4 N) := CC.of (cok23 N) (us := uzaO_3 N) (fun u h _ => okuzaO_3 N u h) (fun x => by kernel_rfl)
def uzaO_4 (N : Nat) : List (Pc D) := PzaO_4.pc (X23 N) (FzaO_4 N) :: uzaO_3 N
theorem okuzaO_4 (N : Nat) : ∀ u ∈ uzaO_4 N, PcOk (X23 N) (bodyOf Try.f55) u := pc_cons ((czaO_4 N).pc (by kernel_rfl)) (okuzaO_3 N)
def PzaO_5 : PD D := { path := [1, 1, 1, 0, 0, 1, 1, 1, 1, 1, 0, 0], ins := [.v 0 (.rp 75), .v 1 (.int .i64), .v 3 (.int .i64), .v 4 (.int .i64)], fx := [], ks := [], exs := [⟨.normal, [.v 10 .bool], []⟩], keep := [] }
def FzaO_5 (N : Nat) : PzaO_5.F := fun x => zaO_5 N x.1 x.2.1 x.2.2.1 x.2.2.2.1
theorem czaO_5 (N : Nat) : CC (X23 N) (bodyOf Try.f55) PzaO_5 (FzaO_5 N) := CC.of (cok23 N) (us := uzaO_4 N) (fun u h _ => okuzaO_4 N u h) (fun x => by kernel_rfl)
def uzaO_5 (N : Nat) : List (Pc D) := PzaO_5.pc (X23 N) (FzaO_5 N) :: uzaO_4 N
theorem okuzaO_5 (N : Nat) : ∀ u ∈ uzaO_5 N, PcOk (X23 N) (bodyOf Try.f55) u := pc_cons ((czaO_5 N).pc (by kernel_rfl)) (okuzaO_4 N)
def dzaO : FD D := { f := 55, np := 5, ins := [.v 0 (.rp 75), .v 1 (.int .i64), .v 2 (.int .i64), .v 3 (.int .i64), .v 4 (.int .i64)], fx := [], rcv := none, rk := 0, outs := [.v 10 .bool], ofx := [], rvs := [.tmp 10], flat := true }
def FzaO (N : Nat) : dzaO.F := fun r x => zaO N x.1 x.2.1 x.2.2.1 x.2.2.2.1 x.2.2.2.2.1
theorem ozaO (N : Nat) : FOk Try.prog (X23 N) dzaO (FzaO N) := ⟨⟨Try.f55, _, Try.func55, rfl, by kernel_rfl, by kernel_rfl, rfl, FC.of (cok23 N) (us := uzaO_5 N) (fun u h _ => okuzaO_5 N u h) (fun r x => by kernel_rfl)⟩, by kernel_rfl, by kernel_rfl, by kernel_rfl, by kernel_rfl⟩
def fs24 (N : Nat) : List (FE D) := ⟨dzaO, FzaO N⟩ :: fs23 N
theorem all24 (N : Nat) : ∀ y ∈ fs24 N, CallOk X0 y.d y.F := all_cons (x := ⟨dzaO, FzaO N⟩) (ozaO N) (all23 N)
def X24 (N : Nat) : Ev Try.prog D := X0.with (fs24 N)
theorem cok24 (N : Nat) : COk (X24 N) := COk.of (all24 N)
def u0_zbV (N : Nat) : List (Pc D) := []
theorem oku0_zbV (N : Nat) : ∀ u ∈ u0_zbV N, PcOk (X24 N) (bodyOf Try.f27) u := pc_nil
def PzbV_0 : PD D := { path := [1, 1, 0, 1], ins := [.v 0 (.rp 75), .v 1 (.int .i64), .o 6 (.box 39), .o 8 (.sl 3), .v 14 .bool], fx := [(6, .box 0 0), (8, .c (.own 1))], ks := [2, 0], exs := [⟨.normal, [.u 0 (.box 39), .v 8 (.sl 3)], []⟩, ⟨.ret, [.u 0 (.box 39), .v 7 .bool], []⟩], keep := [0, 1, 2, 6] }
def FzbV_0 (N : Nat) : PzbV_0.F := fun x => zbV_0 N x.1 x.2.1 x.2.2.1 x.2.2.2.1 x.2.2.2.2.1
theorem czbV_0 (N : Nat) : CC (X24 N) (bodyOf Try.f27) PzbV_0 (FzbV_0 N) := CC.of (cok24 N) (us := u0_zbV N) (fun u h _ => oku0_zbV N u h) (fun x => by kernel_rfl)
def uzbV_0 (N : Nat) : List (Pc D) := PzbV_0.pc (X24 N) (FzbV_0 N) :: u0_zbV N
theorem okuzbV_0 (N : Nat) : ∀ u ∈ uzbV_0 N, PcOk (X24 N) (bodyOf Try.f27) u := pc_cons ((czbV_0 N).pc (by kernel_rfl)) (oku0_zbV N)
def PzbV_2 : PD D := { path := [1, 1, 1, 0, 1, 0, 0, 1, 1, 0, 0, 1, 1, 0], ins := [.v 0 (.rp 75), .v 1 (.int .i64), .v 2 (.int .i64), .o 6 (.box 39), .v 10 (.int .i64), .v 34 (.int .i64), .v 35 (.int .i64)], fx := [(6, .box 0 0)], ks := [2], exs := [⟨.exit 2, [.u 0 (.box 39)], []⟩, ⟨.ret, [.u 0 (.box 39), .v 7 .bool], []⟩], keep := [0, 1, 2, 6, 23, 24, 25] }
def FzbV_2 (N n : Nat) : PzbV_2.F := fun x => zbV_2 N x.1 x.2.1 x.2.2.1 x.2.2.2.2.1 x.2.2.2.2.2.1 n x.2.2.2.1 x.2.2.2.2.2.2.1
theorem czbV_2 (N n : Nat) : CC (X24 N) (bodyOf Try.f27) PzbV_2 (FzbV_2 N n) := CC.loop (cok24 N) (us := uzbV_0 N) (c := sub (bodyOf Try.f27) [1, 1, 1, 0, 1, 0, 0, 1, 1, 0, 0, 1, 1, 0, 0]) (by kernel_rfl) (by kernel_rfl) (fun u h _ => okuzbV_0 N u h) (fun x => rfl) (fun n x => by kernel_rfl) n
def uzbV_2 (N : Nat) : List (Pc D) := PzbV_2.pc (X24 N) (FzbV_2 N N) :: uzbV_0 N
theorem okuzbV_2 (N : Nat) : ∀ u ∈ uzbV_2 N, PcOk (X24 N) (bodyOf Try.f27) u := pc_cons ((czbV_2 N N).pc (by kernel_rfl)) (okuzbV_0 N)
def PzbV_1 : PD D := { path := [1, 1, 1, 0, 1, 0], ins := [.v 0 (.rp 75), .v 1 (.int .i64), .v 2 (.int .i64), .o 6 (.box 39), .v 23 (.sl 3), .v 24 (.int .i64), .v 25 (.int .i64)], fx := [(6, .box 0 0)], ks := [2], exs := [⟨.exit 0, [.u 0 (.box 39)], []⟩, ⟨.ret, [.u 0 (.box 39), .v 7 .bool], []⟩], keep := [6] }
def FzbV_1 (N n : Nat) : PzbV_1.F := fun x => zbV_1 N x.1 x.2.1 x.2.2.1 x.2.2.2.2.1 x.2.2.2.2.2.1 n x.2.2.2.1 x.2.2.2.2.2.2.1
theorem czbV_1 (N n : Nat) : CC (X24 N) (bodyOf Try.f27) PzbV_1 (FzbV_1 N n) := CC.loop (cok24 N) (us := uzbV_2 N) (c := sub (bodyOf Try.f27) [1, 1, 1, 0, 1, 0, 0]) (by kernel_rfl) (by kernel_rfl) (fun u h _ => okuzbV_2 N u h) (fun x => rfl) (fun n x => by kernel_rfl) n
def uzbV_1 (N : Nat) : List (Pc D) := PzbV_1.pc (X24 N) (FzbV_1 N N) :: uzbV_2 N
theorem okuzbV_1 (N : Nat) : ∀ u ∈ uzbV_1 N, PcOk (X24 N) (bodyOf Try.f27) u := pc_cons ((czbV_1 N N).pc (by kernel_rfl)) (okuzbV_2 N)
def dzbV : FD D := { f := 27, np := 3, ins := [.v 0 (.rp 75), .v 1 (.int .i64), .v 2 (.int .i64)], fx := [], rcv := none, rk := 0, outs := [.v 1000000 (.agg 39), .v 7 .bool], ofx := [], rvs := [.cell 6 39, .tmp 7], flat := true }
def FzbV (N : Nat) : dzbV.F := fun r x => zbV N x.1 x.2.1 x.2.2.1
theorem ozbV (N : Nat) : FOk Try.prog (X24 N) dzbV (FzbV N) := ⟨⟨Try.f27, _, Try.func27, rfl, by kernel_rfl, by kernel_rfl, rfl, FC.of (cok24 N) (us := uzbV_1 N) (fun u h _ => okuzbV_1 N u h) (fun r x => by kernel_rfl)⟩, by kernel_rfl, by kernel_rfl, by kernel_rfl, by kernel_rfl⟩
def fs25 (N : Nat) : List (FE D) := ⟨dzbV, FzbV N⟩ :: fs24 N
theorem all25 (N : Nat) : ∀ y ∈ fs25 N, CallOk X0 y.d y.F := all_cons (x := ⟨dzbV, FzbV N⟩) (ozbV N) (all24 N)
def X25 (N : Nat) : Ev Try.prog D := X0.with (fs25 N)
theorem cok25 (N : Nat) : COk (X25 N) := COk.of (all25 N)
def u0_zaP (N : Nat) : List (Pc D) := []
theorem oku0_zaP (N : Nat) : ∀ u ∈ u0_zaP N, PcOk (X25 N) (bodyOf Try.f58) u := pc_nil
def dzaP : FD D := { f := 58, np := 1, ins := [.v 0 (.int .i64)], fx := [], rcv := none, rk := 0, outs := [.v 2 .bool], ofx := [], rvs := [.tmp 2], flat := true }
def FzaP (N : Nat) : dzaP.F := fun r x => zaP N x.1
theorem ozaP (N : Nat) : FOk Try.prog (X25 N) dzaP (FzaP N) := ⟨⟨Try.f58, _, Try.func58, rfl, by kernel_rfl, by kernel_rfl, rfl, FC.of (cok25 N) (us := u0_zaP N) (fun u h _ => oku0_zaP N u h) (fun r x => by kernel_rfl)⟩, by kernel_rfl, by kernel_rfl, by kernel_rfl, by kernel_rfl⟩
def fs26 (N : Nat) : List (FE D) := ⟨dzaP, FzaP N⟩ :: fs25 N
theorem all26 (N : Nat) : ∀ y ∈ fs26 N, CallOk X0 y.d y.F := all_cons (x := ⟨dzaP, FzaP N⟩) (ozaP N) (all25 N)
def X26 (N : Nat) : Ev Try.prog D := X0.with (fs26 N)
theorem cok26 (N : Nat) : COk (X26 N) := COk.of (all26 N)
def u0_zaM (N : Nat) : List (Pc D) := []
theorem oku0_zaM (N : Nat) : ∀ u ∈ u0_zaM N, PcOk (X26 N) (bodyOf Try.f30) u := pc_nil
def dzaM : FD D := { f := 30, np := 2, ins := [.v 0 (.int .i64), .v 1 (.int .i64)], fx := [], rcv := none, rk := 0, outs := [.v 4 (.int .i64)], ofx := [], rvs := [.tmp 4], flat := true }
def FzaM (N : Nat) : dzaM.F := fun r x => zaM N x.1 x.2.1
theorem ozaM (N : Nat) : FOk Try.prog (X26 N) dzaM (FzaM N) := ⟨⟨Try.f30, _, Try.func30, rfl, by kernel_rfl, by kernel_rfl, rfl, FC.of (cok26 N) (us := u0_zaM N) (fun u h _ => oku0_zaM N u h) (fun r x => by kernel_rfl)⟩, by kernel_rfl, by kernel_rfl, by kernel_rfl, by kernel_rfl⟩
def fs27 (N : Nat) : List (FE D) := ⟨dzaM, FzaM N⟩ :: fs26 N
theorem all27 (N : Nat) : ∀ y ∈ fs27 N, CallOk X0 y.d y.F := all_cons (x := ⟨dzaM, FzaM N⟩) (ozaM N) (all26 N)
def X27 (N : Nat) : Ev Try.prog D := X0.with (fs27 N)
theorem cok27 (N : Nat) : COk (X27 N) := COk.of (all27 N)
def u0_zaH (N : Nat) : List (Pc D) := []
theorem oku0_zaH (N : Nat) : ∀ u ∈ u0_zaH N, PcOk (X27 N) (bodyOf Try.f29) u := pc_nil
def dzaH : FD D := { f := 29, np := 2, ins := [.v 0 (.agg 39), .v 1 (.agg 39)], fx := [], rcv := none, rk := 0, outs := [.v 4 (.int .i64)], ofx := [], rvs := [.tmp 4], flat := true }
def FzaH (N : Nat) : dzaH.F := fun r x => zaH N x.1 x.2.1
theorem ozaH (N : Nat) : FOk Try.prog (X27 N) dzaH (FzaH N) := ⟨⟨Try.f29, _, Try.func29, rfl, by kernel_rfl, by kernel_rfl, rfl, FC.of (cok27 N) (us := u0_zaH N) (fun u h _ => oku0_zaH N u h) (fun r x => by kernel_rfl)⟩, by kernel_rfl, by kernel_rfl, by kernel_rfl, by kernel_rfl⟩
def fs28 (N : Nat) : List (FE D) := ⟨dzaH, FzaH N⟩ :: fs27 N
theorem all28 (N : Nat) : ∀ y ∈ fs28 N, CallOk X0 y.d y.F := all_cons (x := ⟨dzaH, FzaH N⟩) (ozaH N) (all27 N)
def X28 (N : Nat) : Ev Try.prog D := X0.with (fs28 N)
theorem cok28 (N : Nat) : COk (X28 N) := COk.of (all28 N)
def Y28 (N : Nat) : Ev Try.prog D := (X28 N).cuts fun x lo hi => match x, lo, hi with | .tmp 49, some (.tmp 50), none => 1 | _, _, _ => 0
theorem coky28 (N : Nat) : COk (Y28 N) := COk.cuts (cok28 N)
def u0_zaS (N : Nat) : List (Pc D) := []
theorem oku0_zaS (N : Nat) : ∀ u ∈ u0_zaS N, PcOk (Y28 N) (bodyOf Try.f10) u := pc_nil
def PzaS_2 : PD D := { path := [1, 1, 1, 1, 0, 1, 0, 0, 0, 0, 1, 0, 1, 0, 0, 1, 1, 0], ins := [.o 1 (.box 28), .o 4 (.bx 75 [(3, 3), (4, 4)]), .o 5 (.sl 39), .v 6 (.int .i64), .v 25 (.int .i64), .o 2004003 (.sl 121), .o 2004004 (.sl 3)], fx := [(1, .box 0 0), (4, .box 1 0), (5, .c (.own 2))], ks := [1, 1, 0, 1, 1], exs := [⟨.normal, [.o 5 (.sl 39)], [(5, .c (.own 5))]⟩], keep := [1, 4, 6, 7, 24, 25] }
def FzaS_2 (N : Nat) : PzaS_2.F := fun x => zaS_2 N x.2.1 x.2.2.1 x.2.2.2.1 x.2.2.2.2.1 x.2.2.2.2.2.1 x.2.2.2.2.2.2.1
theorem czaS_2 (N : Nat) : CC (Y28 N) (bodyOf Try.f10) PzaS_2 (FzaS_2 N) := CC.of (coky28 N) (us := u0_zaS N) (fun u h _ => oku0_zaS N u h) (fun x => by kernel_rfl)
def uzaS_2 (N : Nat) : List (Pc D) := PzaS_2.pc (Y28 N) (FzaS_2 N) :: u0_zaS N
theorem okuzaS_2 (N : Nat) : ∀ u ∈ uzaS_2 N, PcOk (Y28 N) (bodyOf Try.f10) u := pc_cons ((czaS_2 N).pc (by kernel_rfl)) (oku0_zaS N)
def PzaS_1 : PD D := { path := [1, 1, 1, 1, 0, 1, 0, 0, 0, 0, 1, 0, 1, 0], ins := [.o 1 (.box 28), .o 4 (.bx 75 [(3, 3), (4, 4)]), .o 5 (.sl 39), .v 6 (.int .i64), .v 24 (.int .i64), .v 25 (.int .i64), .o 2004003 (.sl 121), .o 2004004 (.sl 3)], fx := [(1, .box 0 0), (4, .box 1 0), (5, .c (.own 2))], ks := [1, 1, 0, 1, 1], exs := [⟨.exit 2, [.o 5 (.sl 39)], [(5, .c (.own 5))]⟩], keep := [1, 4, 6, 7] }
def FzaS_1 (N n : Nat) : PzaS_1.F := fun x => zaS_1 N x.2.1 x.2.2.2.1 x.2.2.2.2.1 x.2.2.2.2.2.2.1 x.2.2.2.2.2.2.2.1 n x.2.2.1 x.2.2.2.2.2.1
theorem czaS_1 (N n : Nat) : CC (Y28 N) (bodyOf Try.f10) PzaS_1 (FzaS_1 N n) := CC.loop (coky28 N) (us := uzaS_2 N) (c := sub (bodyOf Try.f10) [1, 1, 1, 1, 0, 1, 0, 0, 0, 0, 1, 0, 1, 0, 0]) (by kernel_rfl) (by kernel_rfl) (fun u h _ => okuzaS_2 N u h) (fun x => rfl) (fun n x => by kernel_rfl) n
def uzaS_1 (N : Nat) : List (Pc D) := PzaS_1.pc (Y28 N) (FzaS_1 N N) :: uzaS_2 N
theorem okuzaS_1 (N : Nat) : ∀ u ∈ uzaS_1 N, PcOk (Y28 N) (bodyOf Try.f10) u := pc_cons ((czaS_1 N N).pc (by kernel_rfl)) (okuzaS_2 N)
def PzaS_3 : PD D := { path := [1, 1, 1, 1, 0, 1, 0, 0, 0, 0, 1, 1, 0, 1, 0], ins := [.o 1 (.box 28), .o 4 (.bx 75 [(3, 3), (4, 4)]), .o 5 (.sl 39), .v 6 (.int .i64), .v 51 (.cut 2 39), .v 52 (.int .i64), .v 53 (.int .i64), .o 2004003 (.sl 121), .o 2004004 (.sl 3)], fx := [(1, .box 0 0), (4, .box 1 0), (5, .c (.own 2))], ks := [1, 1, 1, 1, 2], exs := [⟨.exit 4, [.u 4 (.sl 3)], []⟩], keep := [1, 4, 5, 6, 7] }
def FzaS_3 (N n : Nat) : PzaS_3.F := fun x => zaS_3 N x.2.2.1 x.2.2.2.1 x.2.2.2.2.1 x.2.2.2.2.2.1 n x.2.2.2.2.2.2.1 x.2.2.2.2.2.2.2.2.1
theorem czaS_3 (N n : Nat) : CC (Y28 N) (bodyOf Try.f10) PzaS_3 (FzaS_3 N n) := CC.loop (coky28 N) (us := uzaS_1 N) (c := sub (bodyOf Try.f10) [1, 1, 1, 1, 0, 1, 0, 0, 0, 0, 1, 1, 0, 1, 0, 0]) (by kernel_rfl) (by kernel_rfl) (fun u h _ => okuzaS_1 N u h) (fun x => rfl) (fun n x => by kernel_rfl) n
def uzaS_3 (N : Nat) : List (Pc D) := PzaS_3.pc (Y28 N) (FzaS_3 N N) :: uzaS_1 N
theorem okuzaS_3 (N : Nat) : ∀ u ∈ uzaS_3 N, PcOk (Y28 N) (bodyOf Try.f10) u := pc_cons ((czaS_3 N N).pc (by kernel_rfl)) (okuzaS_1 N)
def PzaS_4 : PD D := { path := [1, 1, 1, 1, 0, 1, 0, 0, 0, 0, 1, 1, 1, 0], ins := [.o 1 (.box 28), .o 4 (.bx 75 [(3, 3), (4, 4)]), .o 5 (.sl 39), .v 6 (.int .i64), .v 7 (.int .i64), .o 2004003 (.sl 121), .o 2004004 (.sl 3)], fx := [(1, .box 0 0), (4, .box 1 0), (5, .c (.own 2))], ks := [1, 1, 1, 1, 1], exs := [⟨.normal, [.v 73 .bool], []⟩], keep := [1, 4, 5, 6] }
def FzaS_4 (N : Nat) : PzaS_4.F := fun x => zaS_4 N x.2.2.1 x.2.2.2.1 x.2.2.2.2.1
theorem czaS_4 (N : Nat) : CC (Y28 N) (bodyOf Try.f10) PzaS_4 (FzaS_4 N) := CC.of (coky28 N) (us := uzaS_3 N) (fun u h _ => okuzaS_3 N u h) (fun x => by kernel_rfl)
def uzaS_4 (N : Nat) : List (Pc D) := PzaS_4.pc (Y28 N) (FzaS_4 N) :: uzaS_3 N
theorem okuzaS_4 (N : Nat) : ∀ u ∈ uzaS_4 N, PcOk (Y28 N) (bodyOf Try.f10) u := pc_cons ((czaS_4 N).pc (by kernel_rfl)) (okuzaS_3 N)
def PzaS_0 : PD D := { path := [1, 1, 1, 1, 0, 1, 0], ins := [.o 1 (.box 28), .o 4 (.bx 75 [(3, 3), (4, 4)]), .o 5 (.sl 39), .v 6 (.int .i64), .o 2004003 (.sl 121), .o 2004004 (.sl 3)], fx := [(1, .box 0 0), (4, .box 1 0), (5, .c (.own 2))], ks := [1, 1, 0, 1, 2], exs := [⟨.exit 0, [.o 5 (.sl 39)], [(5, .c (.own 5))]⟩], keep := [] }
def FzaS_0 (N n : Nat) : PzaS_0.F := fun x => zaS_0 N x.1 x.2.1 x.2.2.2.2.1 n x.2.2.1 x.2.2.2.1 x.2.2.2.2.2.1
theorem czaS_0 (N n : Nat) : CC (Y28 N) (bodyOf Try.f10) PzaS_0 (FzaS_0 N n) := CC.loop (coky28 N) (us := uzaS_4 N) (c := sub (bodyOf Try.f10) [1, 1, 1, 1, 0, 1, 0, 0]) (by kernel_rfl) (by kernel_rfl) (fun u h _ => okuzaS_4 N u h) (fun x => rfl) (fun n x => by kernel_rfl) n
def uzaS_0 (N : Nat) : List (Pc D) := PzaS_0.pc (Y28 N) (FzaS_0 N N) :: uzaS_4 N
theorem okuzaS_0 (N : Nat) : ∀ u ∈ uzaS_0 N, PcOk (Y28 N) (bodyOf Try.f10) u := pc_cons ((czaS_0 N N).pc (by kernel_rfl)) (okuzaS_4 N)
def dzaS : FD D := { f := 10, np := 1, ins := [.v 0 (.agg 28)], fx := [], rcv := none, rk := 0, outs := [.o 2 (.sl 39), .v 3 (.int .i64)], ofx := [(2, .c (.own 0))], rvs := [.tmp 2, .tmp 3], flat := false }
def FzaS (N : Nat) : dzaS.F := fun r x => zaS N x.1
theorem ozaS (N : Nat) : FOk Try.prog (Y28 N) dzaS (FzaS N) := ⟨⟨Try.f10, _, Try.func10, rfl, by kernel_rfl, by kernel_rfl, rfl, FC.of (coky28 N) (us := uzaS_0 N) (fun u h _ => okuzaS_0 N u h) (fun r x => by kernel_rfl)⟩, by kernel_rfl, by kernel_rfl, by kernel_rfl, by kernel_rfl⟩
def fs29 (N : Nat) : List (FE D) := ⟨dzaS, FzaS N⟩ :: fs28 N
theorem all29 (N : Nat) : ∀ y ∈ fs29 N, CallOk X0 y.d y.F := all_call (x := ⟨dzaS, FzaS N⟩) ((ozaS N).call.cuts) (all28 N)
def X29 (N : Nat) : Ev Try.prog D := X0.with (fs29 N)
theorem cok29 (N : Nat) : COk (X29 N) := COk.of (all29 N)
def u0_zaU (N : Nat) : List (Pc D) := []
theorem oku0_zaU (N : Nat) : ∀ u ∈ u0_zaU N, PcOk (X29 N) (bodyOf Try.f31) u := pc_nil
def PzaU_1 : PD D := { path := [1, 1, 0, 1, 0, 0, 1, 1, 0, 0, 1, 0, 0], ins := [.o 2 (.box 28), .o 5 (.bx 75 [(3, 3), (4, 4)]), .o 7 (.box 39), .o 2005003 (.sl 121), .o 2005004 (.sl 3)], fx := [(2, .box 0 0), (5, .box 1 0), (7, .box 2 0)], ks := [1, 1, 1, 1, 1], exs := [⟨.normal, [.v 48 .bool], []⟩], keep := [1, 2, 5, 7, 16, 17, 18] }
def FzaU_1 (N : Nat) : PzaU_1.F := fun x => zaU_1 N x.1 x.2.2.1 x.2.2.2.2.1
theorem czaU_1 (N : Nat) : CC (X29 N) (bodyOf Try.f31) PzaU_1 (FzaU_1 N) := CC.of (cok29 N) (us := u0_zaU N) (fun u h _ => oku0_zaU N u h) (fun x => by kernel_rfl)
def uzaU_1 (N : Nat) : List (Pc D) := PzaU_1.pc (X29 N) (FzaU_1 N) :: u0_zaU N
theorem okuzaU_1 (N : Nat) : ∀ u ∈ uzaU_1 N, PcOk (X29 N) (bodyOf Try.f31) u := pc_cons ((czaU_1 N).pc (by kernel_rfl)) (oku0_zaU N)
def PzaU_0 : PD D := { path := [1, 1, 0, 1, 0], ins := [.o 2 (.box 28), .o 5 (.bx 75 [(3, 2), (4, 3)]), .v 16 (.sl 39), .v 17 (.int .i64), .v 18 (.int .i64), .o 2005003 (.sl 121), .o 2005004 (.sl 3)], fx := [(2, .box 0 0), (5, .box 1 0)], ks := [1, 1, 1, 2], exs := [⟨.exit 0, [.u 3 (.sl 3)], []⟩, ⟨.ret, [.v 4 .bool], []⟩], keep := [1, 2, 5] }
def FzaU_0 (N n : Nat) : PzaU_0.F := fun x => zaU_0 N x.1 x.2.2.1 x.2.2.2.1 n x.2.2.2.2.1 x.2.2.2.2.2.2.1
theorem czaU_0 (N n : Nat) : CC (X29 N) (bodyOf Try.f31) PzaU_0 (FzaU_0 N n) := CC.loop (cok29 N) (us := uzaU_1 N) (c := sub (bodyOf Try.f31) [1, 1, 0, 1, 0, 0]) (by kernel_rfl) (by kernel_rfl) (fun u h _ => okuzaU_1 N u h) (fun x => rfl) (fun n x => by kernel_rfl) n
def uzaU_0 (N : Nat) : List (Pc D) := PzaU_0.pc (X29 N) (FzaU_0 N N) :: uzaU_1 N
theorem okuzaU_0 (N : Nat) : ∀ u ∈ uzaU_0 N, PcOk (X29 N) (bodyOf Try.f31) u := pc_cons ((czaU_0 N N).pc (by kernel_rfl)) (okuzaU_1 N)
def PzaU_2 : PD D := { path := [1, 1, 1, 0, 1, 0], ins := [.o 2 (.box 28), .o 5 (.bx 75 [(3, 2), (4, 3)]), .v 59 (.sl 39), .v 60 (.int .i64), .v 61 (.int .i64), .o 2005003 (.sl 121), .o 2005004 (.sl 3)], fx := [(2, .box 0 0), (5, .box 1 0)], ks := [1, 1, 1, 1], exs := [⟨.exit 2, [], []⟩, ⟨.ret, [.v 4 .bool], []⟩], keep := [2, 5] }
def FzaU_2 (N n : Nat) : PzaU_2.F := fun x => zaU_2 N x.2.1 x.2.2.1 x.2.2.2.1 x.2.2.2.2.2.1 x.2.2.2.2.2.2.1 n x.2.2.2.2.1
theorem czaU_2 (N n : Nat) : CC (X29 N) (bodyOf Try.f31) PzaU_2 (FzaU_2 N n) := CC.loop (cok29 N) (us := uzaU_0 N) (c := sub (bodyOf Try.f31) [1, 1, 1, 0, 1, 0, 0]) (by kernel_rfl) (by kernel_rfl) (fun u h _ => okuzaU_0 N u h) (fun x => rfl) (fun n x => by kernel_rfl) n
def uzaU_2 (N : Nat) : List (Pc D) := PzaU_2.pc (X29 N) (FzaU_2 N N) :: uzaU_0 N
theorem okuzaU_2 (N : Nat) : ∀ u ∈ uzaU_2 N, PcOk (X29 N) (bodyOf Try.f31) u := pc_cons ((czaU_2 N N).pc (by kernel_rfl)) (okuzaU_0 N)
def PzaU_6 : PD D := { path := [1, 1, 1, 1, 0, 1, 0, 0, 1, 1, 0, 0, 1, 1, 1, 0, 0, 1, 1, 0, 0, 1, 0], ins := [.o 2 (.box 28), .o 5 (.bx 75 [(3, 3), (4, 2)]), .v 10 (.int .i64), .v 12 (.int .i64), .o 80 (.sl 3), .o 2005003 (.sl 121)], fx := [(2, .box 0 0), (5, .box 1 0), (80, .c (.own 2))], ks := [1, 1, 1, 1], exs := [⟨.normal, [.v 13 .bool], []⟩], keep := [2, 5, 10, 12, 80, 81, 82, 91, 92] }
def FzaU_6 (N : Nat) : PzaU_6.F := fun x => zaU_6 N x.2.1 x.2.2.1 x.2.2.2.1 x.2.2.2.2.1 x.2.2.2.2.2.1
theorem czaU_6 (N : Nat) : CC (X29 N) (bodyOf Try.f31) PzaU_6 (FzaU_6 N) := CC.of (cok29 N) (us := uzaU_2 N) (fun u h _ => okuzaU_2 N u h) (fun x => by kernel_rfl)
def uzaU_6 (N : Nat) : List (Pc D) := PzaU_6.pc (X29 N) (FzaU_6 N) :: uzaU_2 N
theorem okuzaU_6 (N : Nat) : ∀ u ∈ uzaU_6 N, PcOk (X29 N) (bodyOf Try.f31) u := pc_cons ((czaU_6 N).pc (by kernel_rfl)) (okuzaU_2 N)
def PzaU_7 : PD D := { path := [1, 1, 1, 1, 0, 1, 0, 0, 1, 1, 0, 0, 1, 1, 1, 0, 0, 1, 1, 0, 0, 1, 1, 0], ins := [.o 2 (.box 28), .o 5 (.bx 75 [(3, 3), (4, 2)]), .v 10 (.int .i64), .v 12 (.int .i64), .v 13 .bool, .o 80 (.sl 3), .o 2005003 (.sl 121)], fx := [(2, .box 0 0), (5, .box 1 0), (80, .c (.own 2))], ks := [1, 1, 1, 1], exs := [⟨.normal, [.v 138 .bool], []⟩], keep := [2, 5, 10, 80, 81, 82, 91, 92] }
def FzaU_7 (N : Nat) : PzaU_7.F := fun x => zaU_7 N x.2.1 x.2.2.1 x.2.2.2.1 x.2.2.2.2.1 x.2.2.2.2.2.1 x.2.2.2.2.2.2.1
theorem czaU_7 (N : Nat) : CC (X29 N) (bodyOf Try.f31) PzaU_7 (FzaU_7 N) := CC.of (cok29 N) (us := uzaU_6 N) (fun u h _ => okuzaU_6 N u h) (fun x => by kernel_rfl)
def uzaU_7 (N : Nat) : List (Pc D) := PzaU_7.pc (X29 N) (FzaU_7 N) :: uzaU_6 N
theorem okuzaU_7 (N : Nat) : ∀ u ∈ uzaU_7 N, PcOk (X29 N) (bodyOf Try.f31) u := pc_cons ((czaU_7 N).pc (by kernel_rfl)) (okuzaU_6 N)
def PzaU_5 : PD D := { path := [1, 1, 1, 1, 0, 1, 0, 0, 1, 1, 0, 0, 1, 1, 1, 0], ins := [.o 2 (.box 28), .o 5 (.bx 75 [(3, 3), (4, 2)]), .v 10 (.int .i64), .o 80 (.sl 3), .v 91 (.int .i64), .v 92 (.int .i64), .o 2005003 (.sl 121)], fx := [(2, .box 0 0), (5, .box 1 0), (80, .c (.own 2))], ks := [1, 1, 1, 1], exs := [⟨.exit 6, [], []⟩, ⟨.ret, [.v 4 .bool], []⟩], keep := [2, 5, 80, 81, 82] }
def FzaU_5 (N n : Nat) : PzaU_5.F := fun x => zaU_5 N x.2.1 x.2.2.1 x.2.2.2.1 x.2.2.2.2.1 x.2.2.2.2.2.2.1 n x.2.2.2.2.2.1
theorem czaU_5 (N n : Nat) : CC (X29 N) (bodyOf Try.f31) PzaU_5 (FzaU_5 N n) := CC.loop (cok29 N) (us := uzaU_7 N) (c := sub (bodyOf Try.f31) [1, 1, 1, 1, 0, 1, 0, 0, 1, 1, 0, 0, 1, 1, 1, 0, 0]) (by kernel_rfl) (by kernel_rfl) (fun u h _ => okuzaU_7 N u h) (fun x => rfl) (fun n x => by kernel_rfl) n
def uzaU_5 (N : Nat) : List (Pc D) := PzaU_5.pc (X29 N) (FzaU_5 N N) :: uzaU_7 N
theorem okuzaU_5 (N : Nat) : ∀ u ∈ uzaU_5 N, PcOk (X29 N) (bodyOf Try.f31) u := pc_cons ((czaU_5 N N).pc (by kernel_rfl)) (okuzaU_7 N)
def PzaU_4 : PD D := { path := [1, 1, 1, 1, 0, 1, 0, 0, 1, 1, 0], ins := [.o 2 (.box 28), .o 5 (.bx 75 [(3, 3), (4, 2)]), .o 80 (.sl 3), .v 82 (.int .i64), .o 2005003 (.sl 121)], fx := [(2, .box 0 0), (5, .box 1 0), (80, .c (.own 2))], ks := [1, 1, 1, 1], exs := [⟨.normal, [], []⟩, ⟨.ret, [.v 4 .bool], []⟩], keep := [2, 5, 80, 81, 82] }
def FzaU_4 (N : Nat) : PzaU_4.F := fun x => zaU_4 N x.1 x.2.1 x.2.2.1 x.2.2.2.1 x.2.2.2.2.1
theorem czaU_4 (N : Nat) : CC (X29 N) (bodyOf Try.f31) PzaU_4 (FzaU_4 N) := CC.of (cok29 N) (us := uzaU_5 N) (fun u h _ => okuzaU_5 N u h) (fun x => by kernel_rfl)
def uzaU_4 (N : Nat) : List (Pc D) := PzaU_4.pc (X29 N) (FzaU_4 N) :: uzaU_5 N
theorem okuzaU_4 (N : Nat) : ∀ u ∈ uzaU_4 N, PcOk (X29 N) (bodyOf Try.f31) u := pc_cons ((czaU_4 N).pc (by kernel_rfl)) (okuzaU_5 N)
def PzaU_3 : PD D := { path := [1, 1, 1, 1, 0, 1, 0], ins := [.o 2 (.box 28), .o 5 (.bx 75 [(3, 3), (4, 2)]), .o 80 (.sl 3), .v 81 (.int .i64), .v 82 (.int .i64), .o 2005003 (.sl 121)], fx := [(2, .box 0 0), (5, .box 1 0), (80, .c (.own 2))], ks := [1, 1, 1, 1], exs := [⟨.exit 4, [], []⟩, ⟨.ret, [.v 4 .bool], []⟩], keep := [] }
def FzaU_3 (N n : Nat) : PzaU_3.F := fun x => zaU_3 N x.1 x.2.1 x.2.2.1 x.2.2.2.1 x.2.2.2.2.2.1 n x.2.2.2.2.1
theorem czaU_3 (N n : Nat) : CC (X29 N) (bodyOf Try.f31) PzaU_3 (FzaU_3 N n) := CC.loop (cok29 N) (us := uzaU_4 N) (c := sub (bodyOf Try.f31) [1, 1, 1, 1, 0, 1, 0, 0]) (by kernel_rfl) (by kernel_rfl) (fun u h _ => okuzaU_4 N u h) (fun x => rfl) (fun n x => by kernel_rfl) n
def uzaU_3 (N : Nat) : List (Pc D) := PzaU_3.pc (X29 N) (FzaU_3 N N) :: uzaU_4 N
theorem okuzaU_3 (N : Nat) : ∀ u ∈ uzaU_3 N, PcOk (X29 N) (bodyOf Try.f31) u := pc_cons ((czaU_3 N N).pc (by kernel_rfl)) (okuzaU_4 N)
def dzaU : FD D := { f := 31, np := 2, ins := [.v 0 (.agg 28), .v 1 (.sl 39)], fx := [], rcv := none, rk := 0, outs := [.v 4 .bool], ofx := [], rvs := [.tmp 4], flat := true }
def FzaU (N : Nat) : dzaU.F := fun r x => zaU N x.1 x.2.1
theorem ozaU (N : Nat) : FOk Try.prog (X29 N) dzaU (FzaU N) := ⟨⟨Try.f31, _, Try.func31, rfl, by kernel_rfl, by kernel_rfl, rfl, FC.of (cok29 N) (us := uzaU_3 N) (fun u h _ => okuzaU_3 N u h) (fun r x => by kernel_rfl)⟩, by kernel_rfl, by kernel_rfl, by kernel_rfl, by kernel_rfl⟩
def fs30 (N : Nat) : List (FE D) := ⟨dzaU, FzaU N⟩ :: fs29 N
theorem all30 (N : Nat) : ∀ y ∈ fs30 N, CallOk X0 y.d y.F := all_cons (x := ⟨dzaU, FzaU N⟩) (ozaU N) (all29 N)
def X30 (N : Nat) : Ev Try.prog D := X0.with (fs30 N)
theorem cok30 (N : Nat) : COk (X30 N) := COk.of (all30 N)
def u0_zaR (N : Nat) : List (Pc D) := []
theorem oku0_zaR (N : Nat) : ∀ u ∈ u0_zaR N, PcOk (X30 N) (bodyOf Try.f11) u := pc_nil
def dzaR : FD D := { f := 11, np := 2, ins := [.v 0 (.agg 28), .v 1 (.sl 39)], fx := [], rcv := none, rk := 0, outs := [.v 4 .bool, .v 5 (.int .i64)], ofx := [], rvs := [.tmp 4, .tmp 5], flat := true }
def FzaR (N : Nat) : dzaR.F := fun r x => zaR N x.1 x.2.1
theorem ozaR (N : Nat) : FOk Try.prog (X30 N) dzaR (FzaR N) := ⟨⟨Try.f11, _, Try.func11, rfl, by kernel_rfl, by kernel_rfl, rfl, FC.of (cok30 N) (us := u0_zaR N) (fun u h _ => oku0_zaR N u h) (fun r x => by kernel_rfl)⟩, by kernel_rfl, by kernel_rfl, by kernel_rfl, by kernel_rfl⟩
def fs31 (N : Nat) : List (FE D) := ⟨dzaR, FzaR N⟩ :: fs30 N
theorem all31 (N : Nat) : ∀ y ∈ fs31 N, CallOk X0 y.d y.F := all_cons (x := ⟨dzaR, FzaR N⟩) (ozaR N) (all30 N)
def X31 (N : Nat) : Ev Try.prog D := X0.with (fs31 N)
theorem cok31 (N : Nat) : COk (X31 N) := COk.of (all31 N)
def u0_zaQ (N : Nat) : List (Pc D) := []
theorem oku0_zaQ (N : Nat) : ∀ u ∈ u0_zaQ N, PcOk (X31 N) (bodyOf Try.f90) u := pc_nil
def PzaQ_0 : PD D := { path := [1, 0, 1, 0, 0], ins := [.v 1 (.sl 109), .o 4 (.box 28), .o 7 (.box 39)], fx := [(4, .box 0 0), (7, .box 1 0)], ks := [1, 1], exs := [⟨.normal, [.v 8 .bool], []⟩], keep := [] }
def FzaQ_0 (N : Nat) : PzaQ_0.F := fun x => zaQ_0 N x.1 x.2.1 x.2.2.1
theorem czaQ_0 (N : Nat) : CC (X31 N) (bodyOf Try.f90) PzaQ_0 (FzaQ_0 N) := CC.of (cok31 N) (us := u0_zaQ N) (fun u h _ => oku0_zaQ N u h) (fun x => by kernel_rfl)
def uzaQ_0 (N : Nat) : List (Pc D) := PzaQ_0.pc (X31 N) (FzaQ_0 N) :: u0_zaQ N
theorem okuzaQ_0 (N : Nat) : ∀ u ∈ uzaQ_0 N, PcOk (X31 N) (bodyOf Try.f90) u := pc_cons ((czaQ_0 N).pc (by kernel_rfl)) (oku0_zaQ N)
def PzaQ_1 : PD D := { path := [1, 1, 1, 0, 0], ins := [.o 4 (.box 28), .o 7 (.box 39), .v 9 (.int .i64)], fx := [(4, .box 0 0), (7, .box 1 0)], ks := [1, 1], exs := [⟨.normal, [.v 35 .bool], []⟩], keep := [1, 2, 4, 7, 9] }
def FzaQ_1 (N : Nat) : PzaQ_1.F := fun x => zaQ_1 N x.1 x.2.2.1
theorem czaQ_1 (N : Nat) : CC (X31 N) (bodyOf Try.f90) PzaQ_1 (FzaQ_1 N) := CC.of (cok31 N) (us := uzaQ_0 N) (fun u h _ => okuzaQ_0 N u h) (fun x => by kernel_rfl)
def uzaQ_1 (N : Nat) : List (Pc D) := PzaQ_1.pc (X31 N) (FzaQ_1 N) :: uzaQ_0 N
theorem okuzaQ_1 (N : Nat) : ∀ u ∈ uzaQ_1 N, PcOk (X31 N) (bodyOf Try.f90) u := pc_cons ((czaQ_1 N).pc (by kernel_rfl)) (okuzaQ_0 N)
def PzaQ_2 : PD D := { path := [1, 1, 1, 1, 0], ins := [.v 2 (.sl 3), .o 4 (.box 28), .o 7 (.box 39), .v 9 (.int .i64)], fx := [(4, .box 0 0), (7, .box 1 0)], ks := [1, 1], exs := [⟨.normal, [.v 10 .bool], []⟩], keep := [1, 4, 7, 9] }
def FzaQ_2 (N : Nat) : PzaQ_2.F := fun x => zaQ_2 N x.1 x.2.2.1 x.2.2.2.1
theorem czaQ_2 (N : Nat) : CC (X31 N) (bodyOf Try.f90) PzaQ_2 (FzaQ_2 N) := CC.of (cok31 N) (us := uzaQ_1 N) (fun u h _ => okuzaQ_1 N u h) (fun x => by kernel_rfl)
def uzaQ_2 (N : Nat) : List (Pc D) := PzaQ_2.pc (X31 N) (FzaQ_2 N) :: uzaQ_1 N
theorem okuzaQ_2 (N : Nat) : ∀ u ∈ uzaQ_2 N, PcOk (X31 N) (bodyOf Try.f90) u := pc_cons ((czaQ_2 N).pc (by kernel_rfl)) (okuzaQ_1 N)
def PzaQ_3 : PD D := { path := [1, 1, 1, 1, 1, 0, 1, 0, 1, 0, 0], ins := [.v 1 (.sl 109), .o 7 (.box 39), .v 9 (.int .i64), .v 10 .bool], fx := [(7, .box 0 0)], ks := [1], exs := [⟨.normal, [.v 8 .bool], []⟩], keep := [] }
def FzaQ_3 (N : Nat) : PzaQ_3.F := fun x => zaQ_3 N x.1 x.2.1 x.2.2.1 x.2.2.2.1
theorem czaQ_3 (N : Nat) : CC (X31 N) (bodyOf Try.f90) PzaQ_3 (FzaQ_3 N) := CC.of (cok31 N) (us := uzaQ_2 N) (fun u h _ => okuzaQ_2 N u h) (fun x => by kernel_rfl)
def uzaQ_3 (N : Nat) : List (Pc D) := PzaQ_3.pc (X31 N) (FzaQ_3 N) :: uzaQ_2 N
theorem okuzaQ_3 (N : Nat) : ∀ u ∈ uzaQ_3 N, PcOk (X31 N) (bodyOf Try.f90) u := pc_cons ((czaQ_3 N).pc (by kernel_rfl)) (okuzaQ_2 N)
def PzaQ_4 : PD D := { path := [1, 1, 1, 1, 1, 0, 1, 0, 1, 1, 1, 0, 0], ins := [.v 1 (.sl 109), .o 4 (.box 28), .o 7 (.box 39), .v 9 (.int .i64), .v 10 .bool], fx := [(4, .box 0 0), (7, .box 1 0)], ks := [1, 1], exs := [⟨.normal, [.v 8 .bool], []⟩], keep := [] }
def FzaQ_4 (N : Nat) : PzaQ_4.F := fun x => zaQ_4 N x.1 x.2.1 x.2.2.1 x.2.2.2.1 x.2.2.2.2.1
theorem czaQ_4 (N : Nat) : CC (X31 N) (bodyOf Try.f90) PzaQ_4 (FzaQ_4 N) := CC.of (cok31 N) (us := uzaQ_3 N) (fun u h _ => okuzaQ_3 N u h) (fun x => by kernel_rfl)
def uzaQ_4 (N : Nat) : List (Pc D) := PzaQ_4.pc (X31 N) (FzaQ_4 N) :: uzaQ_3 N
theorem okuzaQ_4 (N : Nat) : ∀ u ∈ uzaQ_4 N, PcOk (X31 N) (bodyOf Try.f90) u := pc_cons ((czaQ_4 N).pc (by kernel_rfl)) (okuzaQ_3 N)
def dzaQ : FD D := { f := 90, np := 4, ins := [.v 0 (.agg 28), .v 1 (.sl 109), .v 2 (.sl 3), .v 3 (.agg 39)], fx := [], rcv := none, rk := 0, outs := [.v 8 .bool], ofx := [], rvs := [.tmp 8], flat := true }
def FzaQ (N : Nat) : dzaQ.F := fun r x => zaQ N x.1 x.2.1 x.2.2.1 x.2.2.2.1
theorem ozaQ (N : Nat) : FOk Try.prog (X31 N) dzaQ (FzaQ N) := ⟨⟨Try.f90, _, Try.func90, rfl, by kernel_rfl, by kernel_rfl, rfl, FC.of (cok31 N) (us := uzaQ_4 N) (fun u h _ => okuzaQ_4 N u h) (fun r x => by kernel_rfl)⟩, by kernel_rfl, by kernel_rfl, by kernel_rfl, by kernel_rfl⟩
def fs32 (N : Nat) : List (FE D) := ⟨dzaQ, FzaQ N⟩ :: fs31 N
theorem all32 (N : Nat) : ∀ y ∈ fs32 N, CallOk X0 y.d y.F := all_cons (x := ⟨dzaQ, FzaQ N⟩) (ozaQ N) (all31 N)
def X32 (N : Nat) : Ev Try.prog D := X0.with (fs32 N)
theorem cok32 (N : Nat) : COk (X32 N) := COk.of (all32 N)
def u0_zbR (N : Nat) : List (Pc D) := []
theorem oku0_zbR (N : Nat) : ∀ u ∈ u0_zbR N, PcOk (X32 N) (bodyOf Try.f67) u := pc_nil
def PzbR_0 : PD D := { path := [1, 1, 1, 0, 1, 0], ins := [.o 2 (.box 28), .o 5 (.sl 109), .o 6 (.sl 3), .v 7 (.int .i64)], fx := [(2, .box 0 0), (5, .c (.own 1)), (6, .c (.own 2))], ks := [1, 1, 2], exs := [⟨.exit 0, [.u 2 (.sl 3)], []⟩], keep := [1, 2, 5, 6] }
def FzbR_0 (N n : Nat) : PzbR_0.F := fun x => zbR_0 N n x.2.2.1 x.2.2.2.1
theorem czbR_0 (N n : Nat) : CC (X32 N) (bodyOf Try.f67) PzbR_0 (FzbR_0 N n) := CC.loop (cok32 N) (us := u0_zbR N) (c := sub (bodyOf Try.f67) [1, 1, 1, 0, 1, 0, 0]) (by kernel_rfl) (by kernel_rfl) (fun u h _ => oku0_zbR N u h) (fun x => rfl) (fun n x => by kernel_rfl) n
def uzbR_0 (N : Nat) : List (Pc D) := PzbR_0.pc (X32 N) (FzbR_0 N N) :: u0_zbR N
theorem okuzbR_0 (N : Nat) : ∀ u ∈ uzbR_0 N, PcOk (X32 N) (bodyOf Try.f67) u := pc_cons ((czbR_0 N N).pc (by kernel_rfl)) (oku0_zbR N)
def PzbR_2 : PD D := { path := [1, 1, 1, 1, 0, 1, 0, 0, 1, 0, 0, 1, 0, 0], ins := [.v 1 (.sl 39), .o 2 (.box 28), .o 5 (.sl 109), .o 6 (.sl 3), .v 8 (.int .i64), .v 9 (.int .i64)], fx := [(2, .box 0 0), (5, .c (.own 1)), (6, .c (.own 2))], ks := [1, 1, 1], exs := [⟨.normal, [.v 63 .bool], []⟩], keep := [1, 2, 5, 6, 8, 9] }
def FzbR_2 (N : Nat) : PzbR_2.F := fun x => zbR_2 N x.1 x.2.2.2.1 x.2.2.2.2.1 x.2.2.2.2.2.1
theorem czbR_2 (N : Nat) : CC (X32 N) (bodyOf Try.f67) PzbR_2 (FzbR_2 N) := CC.of (cok32 N) (us := uzbR_0 N) (fun u h _ => okuzbR_0 N u h) (fun x => by kernel_rfl)
def uzbR_2 (N : Nat) : List (Pc D) := PzbR_2.pc (X32 N) (FzbR_2 N) :: uzbR_0 N
theorem okuzbR_2 (N : Nat) : ∀ u ∈ uzbR_2 N, PcOk (X32 N) (bodyOf Try.f67) u := pc_cons ((czbR_2 N).pc (by kernel_rfl)) (okuzbR_0 N)
def PzbR_1 : PD D := { path := [1, 1, 1, 1, 0, 1, 0], ins := [.v 1 (.sl 39), .o 2 (.box 28), .o 5 (.sl 109), .o 6 (.sl 3), .v 8 (.int .i64)], fx := [(2, .box 0 0), (5, .c (.own 1)), (6, .c (.own 2))], ks := [1, 1, 2], exs := [⟨.exit 2, [.u 2 (.sl 3)], []⟩, ⟨.ret, [.v 4 .bool], []⟩], keep := [1, 2, 5, 6] }
def FzbR_1 (N n : Nat) : PzbR_1.F := fun x => zbR_1 N x.1 n x.2.2.2.1 x.2.2.2.2.1
theorem czbR_1 (N n : Nat) : CC (X32 N) (bodyOf Try.f67) PzbR_1 (FzbR_1 N n) := CC.loop (cok32 N) (us := uzbR_2 N) (c := sub (bodyOf Try.f67) [1, 1, 1, 1, 0, 1, 0, 0]) (by kernel_rfl) (by kernel_rfl) (fun u h _ => okuzbR_2 N u h) (fun x => rfl) (fun n x => by kernel_rfl) n
def uzbR_1 (N : Nat) : List (Pc D) := PzbR_1.pc (X32 N) (FzbR_1 N N) :: uzbR_2 N
theorem okuzbR_1 (N : Nat) : ∀ u ∈ uzbR_1 N, PcOk (X32 N) (bodyOf Try.f67) u := pc_cons ((czbR_1 N N).pc (by kernel_rfl)) (okuzbR_2 N)
def PzbR_3 : PD D := { path := [1, 1, 1, 1, 1, 0, 1, 0], ins := [.v 1 (.sl 39), .o 2 (.box 28), .o 5 (.sl 109), .o 6 (.sl 3), .v 10 (.int .i64)], fx := [(2, .box 0 0), (5, .c (.own 1)), (6, .c (.own 2))], ks := [1, 1, 1], exs := [⟨.exit 4, [], []⟩, ⟨.ret, [.v 4 .bool], []⟩], keep := [2, 5, 6] }
def FzbR_3 (N n : Nat) : PzbR_3.F := fun x => zbR_3 N x.1 x.2.1 x.2.2.1 x.2.2.2.1 n x.2.2.2.2.1
theorem czbR_3 (N n : Nat) : CC (X32 N) (bodyOf Try.f67) PzbR_3 (FzbR_3 N n) := CC.loop (cok32 N) (us := uzbR_1 N) (c := sub (bodyOf Try.f67) [1, 1, 1, 1, 1, 0, 1, 0, 0]) (by kernel_rfl) (by kernel_rfl) (fun u h _ => okuzbR_1 N u h) (fun x => rfl) (fun n x => by kernel_rfl) n
def uzbR_3 (N : Nat) : List (Pc D) := PzbR_3.pc (X32 N) (FzbR_3 N N) :: uzbR_1 N
theorem okuzbR_3 (N : Nat) : ∀ u ∈ uzbR_3 N, PcOk (X32 N) (bodyOf Try.f67) u := pc_cons ((czbR_3 N N).pc (by kernel_rfl)) (okuzbR_1 N)
def PzbR_7 : PD D := { path := [1, 1, 1, 1, 1, 1, 0, 1, 0, 0, 1, 0, 0, 1, 1, 1, 0, 0, 1, 0, 0, 0], ins := [.o 2 (.box 28), .o 5 (.sl 109), .o 6 (.sl 3), .v 11 (.int .i64), .v 14 (.int .i64)], fx := [(2, .box 0 0), (5, .c (.own 1)), (6, .c (.own 2))], ks := [1, 1, 1], exs := [⟨.normal, [.v 128 .bool], []⟩], keep := [2, 5, 6, 11, 14] }
def FzbR_7 (N : Nat) : PzbR_7.F := fun x => zbR_7 N x.1 x.2.1 x.2.2.1 x.2.2.2.1 x.2.2.2.2.1
theorem czbR_7 (N : Nat) : CC (X32 N) (bodyOf Try.f67) PzbR_7 (FzbR_7 N) := CC.of (cok32 N) (us := uzbR_3 N) (fun u h _ => okuzbR_3 N u h) (fun x => by kernel_rfl)
def uzbR_7 (N : Nat) : List (Pc D) := PzbR_7.pc (X32 N) (FzbR_7 N) :: uzbR_3 N
theorem okuzbR_7 (N : Nat) : ∀ u ∈ uzbR_7 N, PcOk (X32 N) (bodyOf Try.f67) u := pc_cons ((czbR_7 N).pc (by kernel_rfl)) (okuzbR_3 N)
def PzbR_6 : PD D := { path := [1, 1, 1, 1, 1, 1, 0, 1, 0, 0, 1, 0, 0, 1, 1, 1, 0], ins := [.o 2 (.box 28), .o 5 (.sl 109), .o 6 (.sl 3), .v 11 (.int .i64), .v 14 (.int .i64)], fx := [(2, .box 0 0), (5, .c (.own 1)), (6, .c (.own 2))], ks := [1, 1, 1], exs := [⟨.exit 8, [], []⟩, ⟨.ret, [.v 4 .bool], []⟩], keep := [2, 5, 6, 11] }
def FzbR_6 (N n : Nat) : PzbR_6.F := fun x => zbR_6 N x.1 x.2.1 x.2.2.1 x.2.2.2.1 n x.2.2.2.2.1
theorem czbR_6 (N n : Nat) : CC (X32 N) (bodyOf Try.f67) PzbR_6 (FzbR_6 N n) := CC.loop (cok32 N) (us := uzbR_7 N) (c := sub (bodyOf Try.f67) [1, 1, 1, 1, 1, 1, 0, 1, 0, 0, 1, 0, 0, 1, 1, 1, 0, 0]) (by kernel_rfl) (by kernel_rfl) (fun u h _ => okuzbR_7 N u h) (fun x => rfl) (fun n x => by kernel_rfl) n
def uzbR_6 (N : Nat) : List (Pc D) := PzbR_6.pc (X32 N) (FzbR_6 N N) :: uzbR_7 N
theorem okuzbR_6 (N : Nat) : ∀ u ∈ uzbR_6 N, PcOk (X32 N) (bodyOf Try.f67) u := pc_cons ((czbR_6 N N).pc (by kernel_rfl)) (okuzbR_7 N)
def PzbR_5 : PD D := { path := [1, 1, 1, 1, 1, 1, 0, 1, 0, 0, 1, 0], ins := [.o 2 (.box 28), .o 5 (.sl 109), .o 6 (.sl 3), .v 11 (.int .i64)], fx := [(2, .box 0 0), (5, .c (.own 1)), (6, .c (.own 2))], ks := [1, 1, 1], exs := [⟨.normal, [], []⟩, ⟨.ret, [.v 4 .bool], []⟩], keep := [2, 5, 6, 11] }
def FzbR_5 (N : Nat) : PzbR_5.F := fun x => zbR_5 N x.1 x.2.1 x.2.2.1 x.2.2.2.1
theorem czbR_5 (N : Nat) : CC (X32 N) (bodyOf Try.f67) PzbR_5 (FzbR_5 N) := CC.of (cok32 N) (us := uzbR_6 N) (fun u h _ => okuzbR_6 N u h) (fun x => by kernel_rfl)
def uzbR_5 (N : Nat) : List (Pc D) := PzbR_5.pc (X32 N) (FzbR_5 N) :: uzbR_6 N
theorem okuzbR_5 (N : Nat) : ∀ u ∈ uzbR_5 N, PcOk (X32 N) (bodyOf Try.f67) u := pc_cons ((czbR_5 N).pc (by kernel_rfl)) (okuzbR_6 N)
def PzbR_4 : PD D := { path := [1, 1, 1, 1, 1, 1, 0, 1, 0], ins := [.o 2 (.box 28), .o 5 (.sl 109), .o 6 (.sl 3), .v 11 (.int .i64)], fx := [(2, .box 0 0), (5, .c (.own 1)), (6, .c (.own 2))], ks := [1, 1, 1], exs := [⟨.exit 6, [], []⟩, ⟨.ret, [.v 4 .bool], []⟩], keep := [] }
def FzbR_4 (N n : Nat) : PzbR_4.F := fun x => zbR_4 N x.1 x.2.1 x.2.2.1 n x.2.2.2.1
theorem czbR_4 (N n : Nat) : CC (X32 N) (bodyOf Try.f67) PzbR_4 (FzbR_4 N n) := CC.loop (cok32 N) (us := uzbR_5 N) (c := sub (bodyOf Try.f67) [1, 1, 1, 1, 1, 1, 0, 1, 0, 0]) (by kernel_rfl) (by kernel_rfl) (fun u h _ => okuzbR_5 N u h) (fun x => rfl) (fun n x => by kernel_rfl) n
def uzbR_4 (N : Nat) : List (Pc D) := PzbR_4.pc (X32 N) (FzbR_4 N N) :: uzbR_5 N
theorem okuzbR_4 (N : Nat) : ∀ u ∈ uzbR_4 N, PcOk (X32 N) (bodyOf Try.f67) u := pc_cons ((czbR_4 N N).pc (by kernel_rfl)) (okuzbR_5 N)
def dzbR : FD D := { f := 67, np := 2, ins := [.v 0 (.agg 28), .v 1 (.sl 39)], fx := [], rcv := none, rk := 0, outs := [.v 4 .bool], ofx := [], rvs := [.tmp 4], flat := true }
def FzbR (N : Nat) : dzbR.F := fun r x => zbR N x.1 x.2.1
theorem ozbR (N : Nat) : FOk Try.prog (X32 N) dzbR (FzbR N) := ⟨⟨Try.f67, _, Try.func67, rfl, by kernel_rfl, by kernel_rfl, rfl, FC.of (cok32 N) (us := uzbR_4 N) (fun u h _ => okuzbR_4 N u h) (fun r x => by kernel_rfl)⟩, by kernel_rfl, by kernel_rfl, by kernel_rfl, by kernel_rfl⟩
def fs33 (N : Nat) : List (FE D) := ⟨dzbR, FzbR N⟩ :: fs32 N
theorem all33 (N : Nat) : ∀ y ∈ fs33 N, CallOk X0 y.d y.F := all_cons (x := ⟨dzbR, FzbR N⟩) (ozbR N) (all32 N)
def X33 (N : Nat) : Ev Try.prog D := X0.with (fs33 N)
theorem cok33 (N : Nat) : COk (X33 N) := COk.of (all33 N)
def u0_zbO (N : Nat) : List (Pc D) := []
theorem oku0_zbO (N : Nat) : ∀ u ∈ u0_zbO N, PcOk (X33 N) (bodyOf Try.f38) u := pc_nil
def dzbO : FD D := { f := 38, np := 2, ins := [.v 0 (.agg 28), .v 1 (.sl 39)], fx := [], rcv := none, rk := 0, outs := [.v 4 .bool, .v 5 (.int .i64)], ofx := [], rvs := [.tmp 4, .tmp 5], flat := true }
def FzbO (N : Nat) : dzbO.F := fun r x => zbO N x.1 x.2.1
theorem ozbO (N : Nat) : FOk Try.prog (X33 N) dzbO (FzbO N) := ⟨⟨Try.f38, _, Try.func38, rfl, by kernel_rfl, by kernel_rfl, rfl, FC.of (cok33 N) (us := u0_zbO N) (fun u h _ => oku0_zbO N u h) (fun r x => by kernel_rfl)⟩, by kernel_rfl, by kernel_rfl, by kernel_rfl, by kernel_rfl⟩
def fs34 (N : Nat) : List (FE D) := ⟨dzbO, FzbO N⟩ :: fs33 N
theorem all34 (N : Nat) : ∀ y ∈ fs34 N, CallOk X0 y.d y.F := all_cons (x := ⟨dzbO, FzbO N⟩) (ozbO N) (all33 N)
def X34 (N : Nat) : Ev Try.prog D := X0.with (fs34 N)
theorem cok34 (N : Nat) : COk (X34 N) := COk.of (all34 N)
def u0_zaI (N : Nat) : List (Pc D) := []
theorem oku0_zaI (N : Nat) : ∀ u ∈ u0_zaI N, PcOk (X34 N) (bodyOf Try.f62) u := pc_nil
def dzaI : FD D := { f := 62, np := 2, ins := [.v 0 (.agg 39), .v 1 (.rp 3)], fx := [], rcv := none, rk := 0, outs := [.v 3 .bool], ofx := [], rvs := [.tmp 3], flat := true }
def FzaI (N : Nat) : dzaI.F := fun r x => zaI N x.1 x.2.1
theorem ozaI (N : Nat) : FOk Try.prog (X34 N) dzaI (FzaI N) := ⟨⟨Try.f62, _, Try.func62, rfl, by kernel_rfl, by kernel_rfl, rfl, FC.of (cok34 N) (us := u0_zaI N) (fun u h _ => oku0_zaI N u h) (fun r x => by kernel_rfl)⟩, by kernel_rfl, by kernel_rfl, by kernel_rfl, by kernel_rfl⟩
def fs35 (N : Nat) : List (FE D) := ⟨dzaI, FzaI N⟩ :: fs34 N
theorem all35 (N : Nat) : ∀ y ∈ fs35 N, CallOk X0 y.d y.F := all_cons (x := ⟨dzaI, FzaI N⟩) (ozaI N) (all34 N)
def X35 (N : Nat) : Ev Try.prog D := X0.with (fs35 N)
theorem cok35 (N : Nat) : COk (X35 N) := COk.of (all35 N)
def u0_zaB (N : Nat) : List (Pc D) := []
theorem oku0_zaB (N : Nat) : ∀ u ∈ u0_zaB N, PcOk (X35 N) (bodyOf Try.f89) u := pc_nil
def PzaB_0 : PD D := { path := [1, 0, 1, 0], ins := [.v 0 (.sl 39), .v 1 (.fn 62 [3]), .v 7 (.int .i64), .v 8 (.int .i64)], fx := [], ks := [], exs := [⟨.exit 0, [], []⟩, ⟨.ret, [.v 4 (.int .i64)], []⟩], keep := [] }
def FzaB_0 (N n : Nat) : PzaB_0.F := fun x => zaB_0 N x.1 x.2.1.1 x.2.2.1 n x.2.2.2.1
theorem czaB_0 (N n : Nat) : CC (X35 N) (bodyOf Try.f89) PzaB_0 (FzaB_0 N n) := CC.loop (cok35 N) (us := u0_zaB N) (c := sub (bodyOf Try.f89) [1, 0, 1, 0, 0]) (by kernel_rfl) (by kernel_rfl) (fun u h _ => oku0_zaB N u h) (fun x => rfl) (fun n x => by kernel_rfl) n
def uzaB_0 (N : Nat) : List (Pc D) := PzaB_0.pc (X35 N) (FzaB_0 N N) :: u0_zaB N
theorem okuzaB_0 (N : Nat) : ∀ u ∈ uzaB_0 N, PcOk (X35 N) (bodyOf Try.f89) u := pc_cons ((czaB_0 N N).pc (by kernel_rfl)) (oku0_zaB N)
def dzaB : FD D := { f := 89, np := 2, ins := [.v 0 (.sl 39), .v 1 (.fn 62 [3])], fx := [], rcv := none, rk := 0, outs := [.v 4 (.int .i64)], ofx := [], rvs := [.tmp 4], flat := true }
def FzaB (N : Nat) : dzaB.F := fun r x => zaB N x.1 x.2.1.1
theorem ozaB (N : Nat) : FOk Try.prog (X35 N) dzaB (FzaB N) := ⟨⟨Try.f89, _, Try.func89, rfl, by kernel_rfl, by kernel_rfl, rfl, FC.of (cok35 N) (us := uzaB_0 N) (fun u h _ => okuzaB_0 N u h) (fun r x => by kernel_rfl)⟩, by kernel_rfl, by kernel_rfl, by kernel_rfl, by kernel_rfl⟩
def fs36 (N : Nat) : List (FE D) := ⟨dzaB, FzaB N⟩ :: fs35 N
theorem all36 (N : Nat) : ∀ y ∈ fs36 N, CallOk X0 y.d y.F := all_cons (x := ⟨dzaB, FzaB N⟩) (ozaB N) (all35 N)
def X36 (N : Nat) : Ev Try.prog D := X0.with (fs36 N)
theorem cok36 (N : Nat) : COk (X36 N) := COk.of (all36 N)
def u0_zaA (N : Nat) : List (Pc D) := []
theorem oku0_zaA (N : Nat) : ∀ u ∈ u0_zaA N, PcOk (X36 N) (bodyOf Try.f61) u := pc_nil
def dzaA : FD D := { f := 61, np := 2, ins := [.v 0 (.sl 39), .v 1 (.fn 62 [3])], fx := [], rcv := none, rk := 0, outs := [.v 4 .bool], ofx := [], rvs := [.tmp 4], flat := true }
def FzaA (N : Nat) : dzaA.F := fun r x => zaA N x.1 x.2.1.1
theorem ozaA (N : Nat) : FOk Try.prog (X36 N) dzaA (FzaA N) := ⟨⟨Try.f61, _, Try.func61, rfl, by kernel_rfl, by kernel_rfl, rfl, FC.of (cok36 N) (us := u0_zaA N) (fun u h _ => oku0_zaA N u h) (fun r x => by kernel_rfl)⟩, by kernel_rfl, by kernel_rfl, by kernel_rfl, by kernel_rfl⟩
def fs37 (N : Nat) : List (FE D) := ⟨dzaA, FzaA N⟩ :: fs36 N
theorem all37 (N : Nat) : ∀ y ∈ fs37 N, CallOk X0 y.d y.F := all_cons (x := ⟨dzaA, FzaA N⟩) (ozaA N) (all36 N)
def X37 (N : Nat) : Ev Try.prog D := X0.with (fs37 N)
theorem cok37 (N : Nat) : COk (X37 N) := COk.of (all37 N)
def Y37 (N : Nat) : Ev Try.prog D := (X37 N).cuts fun x lo hi => match x, lo, hi with | .tmp 14, some (.tmp 14), some (.tmp 14) => 3 | _, _, _ => 0
theorem coky37 (N : Nat) : COk (Y37 N) := COk.cuts (cok37 N)
def u0_zaV (N : Nat) : List (Pc D) := []
theorem oku0_zaV (N : Nat) : ∀ u ∈ u0_zaV N, PcOk (Y37 N) (bodyOf Try.f33) u := pc_nil
def PzaV_2 : PD D := { path := [1, 1, 0, 1, 0, 0, 1, 1, 0, 0, 1, 1, 0, 0, 1, 1, 0], ins := [.v 1 (.sl 39), .v 2 .bool, .o 7 (.ne 22 3), .v 8 (.int .i64), .v 24 (.sl 3), .v 26 (.int .i64)], fx := [(7, .c (.own 0))], ks := [2], exs := [⟨.normal, [.u 0 (.ne 22 3)], []⟩], keep := [1, 2, 7, 8, 17, 18, 19, 24, 25, 26] }
def FzaV_2 (N : Nat) : PzaV_2.F := fun x => zaV_2 N x.1 x.2.1 x.2.2.1 x.2.2.2.1 x.2.2.2.2.1 x.2.2.2.2.2.1
theorem czaV_2 (N : Nat) : CC (Y37 N) (bodyOf Try.f33) PzaV_2 (FzaV_2 N) := CC.of (coky37 N) (us := u0_zaV N) (fun u h _ => oku0_zaV N u h) (fun x => by kernel_rfl)
def uzaV_2 (N : Nat) : List (Pc D) := PzaV_2.pc (Y37 N) (FzaV_2 N) :: u0_zaV N
theorem okuzaV_2 (N : Nat) : ∀ u ∈ uzaV_2 N, PcOk (Y37 N) (bodyOf Try.f33) u := pc_cons ((czaV_2 N).pc (by kernel_rfl)) (oku0_zaV N)
def PzaV_1 : PD D := { path := [1, 1, 0, 1, 0, 0, 1, 1, 0, 0, 1, 1, 0], ins := [.v 1 (.sl 39), .v 2 .bool, .o 7 (.ne 22 3), .v 8 (.int .i64), .v 24 (.sl 3), .v 25 (.int .i64), .v 26 (.int .i64)], fx := [(7, .c (.own 0))], ks := [2], exs := [⟨.exit 2, [.u 0 (.ne 22 3)], []⟩], keep := [1, 2, 7, 17, 18, 19] }
def FzaV_1 (N n : Nat) : PzaV_1.F := fun x => zaV_1 N x.1 x.2.1 x.2.2.2.1 x.2.2.2.2.1 x.2.2.2.2.2.1 n x.2.2.1 x.2.2.2.2.2.2.1
theorem czaV_1 (N n : Nat) : CC (Y37 N) (bodyOf Try.f33) PzaV_1 (FzaV_1 N n) := CC.loop (coky37 N) (us := uzaV_2 N) (c := sub (bodyOf Try.f33) [1, 1, 0, 1, 0, 0, 1, 1, 0, 0, 1, 1, 0, 0]) (by kernel_rfl) (by kernel_rfl) (fun u h _ => okuzaV_2 N u h) (fun x => rfl) (fun n x => by kernel_rfl) n
def uzaV_1 (N : Nat) : List (Pc D) := PzaV_1.pc (Y37 N) (FzaV_1 N N) :: uzaV_2 N
theorem okuzaV_1 (N : Nat) : ∀ u ∈ uzaV_1 N, PcOk (Y37 N) (bodyOf Try.f33) u := pc_cons ((czaV_1 N N).pc (by kernel_rfl)) (okuzaV_2 N)
def PzaV_0 : PD D := { path := [1, 1, 0, 1, 0], ins := [.v 1 (.sl 39), .v 2 .bool, .o 7 (.ne 22 3), .v 17 (.sl 22), .v 18 (.int .i64), .v 19 (.int .i64)], fx := [(7, .c (.own 0))], ks := [2], exs := [⟨.exit 0, [.u 0 (.ne 22 3)], []⟩], keep := [7] }
def FzaV_0 (N n : Nat) : PzaV_0.F := fun x => zaV_0 N x.1 x.2.1 x.2.2.2.1 x.2.2.2.2.1 n x.2.2.1 x.2.2.2.2.2.1
theorem czaV_0 (N n : Nat) : CC (Y37 N) (bodyOf Try.f33) PzaV_0 (FzaV_0 N n) := CC.loop (coky37 N) (us := uzaV_1 N) (c := sub (bodyOf Try.f33) [1, 1, 0, 1, 0, 0]) (by kernel_rfl) (by kernel_rfl) (fun u h _ => okuzaV_1 N u h) (fun x => rfl) (fun n x => by kernel_rfl) n
def uzaV_0 (N : Nat) : List (Pc D) := PzaV_0.pc (Y37 N) (FzaV_0 N N) :: uzaV_1 N
theorem okuzaV_0 (N : Nat) : ∀ u ∈ uzaV_0 N, PcOk (Y37 N) (bodyOf Try.f33) u := pc_cons ((czaV_0 N N).pc (by kernel_rfl)) (okuzaV_1 N)
def dzaV : FD D := { f := 33, np := 3, ins := [.v 0 (.agg 28), .v 1 (.sl 39), .v 2 .bool], fx := [], rcv := none, rk := 0, outs := [.o 6 (.ne 22 3)], ofx := [(6, .c (.own 0))], rvs := [.tmp 6], flat := false }
def FzaV (N : Nat) : dzaV.F := fun r x => zaV N x.1 x.2.1 x.2.2.1
theorem ozaV (N : Nat) : FOk Try.prog (Y37 N) dzaV (FzaV N) := ⟨⟨Try.f33, _, Try.func33, rfl, by kernel_rfl, by kernel_rfl, rfl, FC.of (coky37 N) (us := uzaV_0 N) (fun u h _ => okuzaV_0 N u h) (fun r x => by kernel_rfl)⟩, by kernel_rfl, by kernel_rfl, by kernel_rfl, by kernel_rfl⟩
def fs38 (N : Nat) : List (FE D) := ⟨dzaV, FzaV N⟩ :: fs37 N
theorem all38 (N : Nat) : ∀ y ∈ fs38 N, CallOk X0 y.d y.F := all_call (x := ⟨dzaV, FzaV N⟩) ((ozaV N).call.cuts) (all37 N)
def X38 (N : Nat) : Ev Try.prog D := X0.with (fs38 N)
theorem cok38 (N : Nat) : COk (X38 N) := COk.of (all38 N)
def u0_zaZ (N : Nat) : List (Pc D) := []
theorem oku0_zaZ (N : Nat) : ∀ u ∈ u0_zaZ N, PcOk (X38 N) (bodyOf Try.f16) u := pc_nil
def dzaZ : FD D := { f := 16, np := 2, ins := [.v 0 (.agg 28), .v 1 (.sl 39)], fx := [], rcv := none, rk := 0, outs := [.v 4 (.sl 22), .v 5 (.int .i64)], ofx := [], rvs := [.tmp 4, .tmp 5], flat := false }
def FzaZ (N : Nat) : dzaZ.F := fun r x => zaZ N x.1 x.2.1
theorem ozaZ (N : Nat) : FOk Try.prog (X38 N) dzaZ (FzaZ N) := ⟨⟨Try.f16, _, Try.func16, rfl, by kernel_rfl, by kernel_rfl, rfl, FC.of (cok38 N) (us := u0_zaZ N) (fun u h _ => oku0_zaZ N u h) (fun r x => by kernel_rfl)⟩, by kernel_rfl, by kernel_rfl, by kernel_rfl, by kernel_rfl⟩
def fs39 (N : Nat) : List (FE D) := ⟨dzaZ, FzaZ N⟩ :: fs38 N
theorem all39 (N : Nat) : ∀ y ∈ fs39 N, CallOk X0 y.d y.F := all_cons (x := ⟨dzaZ, FzaZ N⟩) (ozaZ N) (all38 N)
def X39 (N : Nat) : Ev Try.prog D := X0.with (fs39 N)
theorem cok39 (N : Nat) : COk (X39 N) := COk.of (all39 N)
def u0_zbE (N : Nat) : List (Pc D) := []
theorem oku0_zbE (N : Nat) : ∀ u ∈ u0_zbE N, PcOk (X39 N) (bodyOf Try.f13) u := pc_nil
def PzbE_0 : PD D := { path := [1, 0, 1, 0], ins := [.v 0 (.sl 39), .v 1 (.int .i64), .v 5 (.int .i64)], fx := [], ks := [], exs := [⟨.exit 0, [], []⟩, ⟨.ret, [.v 4 .bool], []⟩], keep := [] }
def FzbE_0 (N n : Nat) : PzbE_0.F := fun x => zbE_0 N x.1 x.2.1 n x.2.2.1
theorem czbE_0 (N n : Nat) : CC (X39 N) (bodyOf Try.f13) PzbE_0 (FzbE_0 N n) := CC.loop (cok39 N) (us := u0_zbE N) (c := sub (bodyOf Try.f13) [1, 0, 1, 0, 0]) (by kernel_rfl) (by kernel_rfl) (fun u h _ => oku0_zbE N u h) (fun x => rfl) (fun n x => by kernel_rfl) n
def uzbE_0 (N : Nat) : List (Pc D) := PzbE_0.pc (X39 N) (FzbE_0 N N) :: u0_zbE N
theorem okuzbE_0 (N : Nat) : ∀ u ∈ uzbE_0 N, PcOk (X39 N) (bodyOf Try.f13) u := pc_cons ((czbE_0 N N).pc (by kernel_rfl)) (oku0_zbE N)
def dzbE : FD D := { f := 13, np := 2, ins := [.v 0 (.sl 39), .v 1 (.int .i64)], fx := [], rcv := none, rk := 0, outs := [.v 4 .bool], ofx := [], rvs := [.tmp 4], flat := true }
def FzbE (N : Nat) : dzbE.F := fun r x => zbE N x.1 x.2.1
theorem ozbE (N : Nat) : FOk Try.prog (X39 N) dzbE (FzbE N) := ⟨⟨Try.f13, _, Try.func13, rfl, by kernel_rfl, by kernel_rfl, rfl, FC.of (cok39 N) (us := uzbE_0 N) (fun u h _ => okuzbE_0 N u h) (fun r x => by kernel_rfl)⟩, by kernel_rfl, by kernel_rfl, by kernel_rfl, by kernel_rfl⟩
def fs40 (N : Nat) : List (FE D) := ⟨dzbE, FzbE N⟩ :: fs39 N
theorem all40 (N : Nat) : ∀ y ∈ fs40 N, CallOk X0 y.d y.F := all_cons (x := ⟨dzbE, FzbE N⟩) (ozbE N) (all39 N)
def X40 (N : Nat) : Ev Try.prog D := X0.with (fs40 N)
theorem cok40 (N : Nat) : COk (X40 N) := COk.of (all40 N)
def u0_zbY (N : Nat) : List (Pc D) := []
theorem oku0_zbY (N : Nat) : ∀ u ∈ u0_zbY N, PcOk (X40 N) (bodyOf Try.f39) u := pc_nil
def PzbY_2 : PD D := { path := [1, 1, 1, 1, 0, 1, 0, 0, 1, 0, 0, 1, 0, 1, 0, 0, 1, 0], ins := [.v 1 (.sl 39), .o 2 (.box 28), .o 6 (.sl 22), .v 7 (.int .i64), .o 8 (.sl 3), .v 9 (.int .i64)], fx := [(2, .box 0 0), (6, .c (.own 1)), (8, .c (.own 2))], ks := [1, 1, 0], exs := [⟨.normal, [.o 8 (.sl 3)], [(8, .c (.own 3))]⟩], keep := [1, 2, 6, 7, 9] }
def FzbY_2 (N : Nat) : PzbY_2.F := fun x => zbY_2 N x.1 x.2.1 x.2.2.2.1 x.2.2.2.2.1 x.2.2.2.2.2.1
theorem czbY_2 (N : Nat) : CC (X40 N) (bodyOf Try.f39) PzbY_2 (FzbY_2 N) := CC.of (cok40 N) (us := u0_zbY N) (fun u h _ => oku0_zbY N u h) (fun x => by kernel_rfl)
def uzbY_2 (N : Nat) : List (Pc D) := PzbY_2.pc (X40 N) (FzbY_2 N) :: u0_zbY N
theorem okuzbY_2 (N : Nat) : ∀ u ∈ uzbY_2 N, PcOk (X40 N) (bodyOf Try.f39) u := pc_cons ((czbY_2 N).pc (by kernel_rfl)) (oku0_zbY N)
def PzbY_1 : PD D := { path := [1, 1, 1, 1, 0, 1, 0, 0, 1, 0, 0, 1, 0, 1, 0], ins := [.v 1 (.sl 39), .o 2 (.box 28), .o 6 (.sl 22), .v 7 (.int .i64), .o 8 (.sl 3), .v 9 (.int .i64)], fx := [(2, .box 0 0), (6, .c (.own 1)), (8, .c (.own 2))], ks := [1, 1, 0], exs := [⟨.exit 2, [.o 8 (.sl 3)], [(8, .c (.own 3))]⟩], keep := [1, 2, 6, 7] }
def FzbY_1 (N n : Nat) : PzbY_1.F := fun x => zbY_1 N x.1 x.2.1 x.2.2.2.1 n x.2.2.2.2.1 x.2.2.2.2.2.1
theorem czbY_1 (N n : Nat) : CC (X40 N) (bodyOf Try.f39) PzbY_1 (FzbY_1 N n) := CC.loop (cok40 N) (us := uzbY_2 N) (c := sub (bodyOf Try.f39) [1, 1, 1, 1, 0, 1, 0, 0, 1, 0, 0, 1, 0, 1, 0, 0]) (by kernel_rfl) (by kernel_rfl) (fun u h _ => okuzbY_2 N u h) (fun x => rfl) (fun n x => by kernel_rfl) n
def uzbY_1 (N : Nat) : List (Pc D) := PzbY_1.pc (X40 N) (FzbY_1 N N) :: uzbY_2 N
theorem okuzbY_1 (N : Nat) : ∀ u ∈ uzbY_1 N, PcOk (X40 N) (bodyOf Try.f39) u := pc_cons ((czbY_1 N N).pc (by kernel_rfl)) (okuzbY_2 N)
def PzbY_0 : PD D := { path := [1, 1, 1, 1, 0, 1, 0], ins := [.v 1 (.sl 39), .o 2 (.box 28), .o 6 (.sl 22), .v 7 (.int .i64)], fx := [(2, .box 0 0), (6, .c (.own 1))], ks := [1, 0], exs := [⟨.exit 0, [.o 6 (.sl 22)], [(6, .c (.own 2))]⟩], keep := [] }
def FzbY_0 (N n : Nat) : PzbY_0.F := fun x => zbY_0 N x.1 x.2.1 n x.2.2.1 x.2.2.2.1
theorem czbY_0 (N n : Nat) : CC (X40 N) (bodyOf Try.f39) PzbY_0 (FzbY_0 N n) := CC.loop (cok40 N) (us := uzbY_1 N) (c := sub (bodyOf Try.f39) [1, 1, 1, 1, 0, 1, 0, 0]) (by kernel_rfl) (by kernel_rfl) (fun u h _ => okuzbY_1 N u h) (fun x => rfl) (fun n x => by kernel_rfl) n
def uzbY_0 (N : Nat) : List (Pc D) := PzbY_0.pc (X40 N) (FzbY_0 N N) :: uzbY_1 N
theorem okuzbY_0 (N : Nat) : ∀ u ∈ uzbY_0 N, PcOk (X40 N) (bodyOf Try.f39) u := pc_cons ((czbY_0 N N).pc (by kernel_rfl)) (okuzbY_1 N)
def dzbY : FD D := { f := 39, np := 2, ins := [.v 0 (.agg 28), .v 1 (.sl 39)], fx := [], rcv := none, rk := 0, outs := [.o 4 (.sl 22), .v 5 (.int .i64)], ofx := [(4, .c (.own 0))], rvs := [.tmp 4, .tmp 5], flat := false }
def FzbY (N : Nat) : dzbY.F := fun r x => zbY N x.1 x.2.1
theorem ozbY (N : Nat) : FOk Try.prog (X40 N) dzbY (FzbY N) := ⟨⟨Try.f39, _, Try.func39, rfl, by kernel_rfl, by kernel_rfl, rfl, FC.of (cok40 N) (us := uzbY_0 N) (fun u h _ => okuzbY_0 N u h) (fun r x => by kernel_rfl)⟩, by kernel_rfl, by kernel_rfl, by kernel_rfl, by kernel_rfl⟩
def fs41 (N : Nat) : List (FE D) := ⟨dzbY, FzbY N⟩ :: fs40 N
theorem all41 (N : Nat) : ∀ y ∈ fs41 N, CallOk X0 y.d y.F := all_cons (x := ⟨dzbY, FzbY N⟩) (ozbY N) (all40 N)
def X41 (N : Nat) : Ev Try.prog D := X0.with (fs41 N)
theorem cok41 (N : Nat) : COk (X41 N) := COk.of (all41 N)
def Y41 (N : Nat) : Ev Try.prog D := (X41 N).cuts fun x lo hi => match x, lo, hi with | .tmp 17, none, some (.tmp 19) => 1 | .tmp 22, none, some (.tmp 24) => 2 | _, _, _ => 0
theorem coky41 (N : Nat) : COk (Y41 N) := COk.cuts (cok41 N)
def u0_zaG (N : Nat) : List (Pc D) := []
theorem oku0_zaG (N : Nat) : ∀ u ∈ u0_zaG N, PcOk (Y41 N) (bodyOf Try.f69) u := pc_nil
def PzaG_0 : PD D := { path := [1, 0, 1], ins := [.v 6 .bool], fx := [], ks := [], exs := [⟨.normal, [], []⟩], keep := [0, 1] }
def FzaG_0 (N : Nat) : PzaG_0.F := fun x => zaG_0 N x.1
theorem czaG_0 (N : Nat) : CC (Y41 N) (bodyOf Try.f69) PzaG_0 (FzaG_0 N) := CC.of (coky41 N) (us := u0_zaG N) (fun u h _ => oku0_zaG N u h) (fun x => by kernel_rfl)
def uzaG_0 (N : Nat) : List (Pc D) := PzaG_0.pc (Y41 N) (FzaG_0 N) :: u0_zaG N
theorem okuzaG_0 (N : Nat) : ∀ u ∈ uzaG_0 N, PcOk (Y41 N) (bodyOf Try.f69) u := pc_cons ((czaG_0 N).pc (by kernel_rfl)) (oku0_zaG N)
def PzaG_1 : PD D := { path := [1, 1, 0, 1, 1], ins := [.v 1 (.int .i64), .v 16 .bool], fx := [(0, .c .nilS)], ks := [], exs := [⟨.normal, [.o 0 (.sl 3)], [(0, .c (.own 0))]⟩], keep := [] }
def FzaG_1 (N : Nat) : PzaG_1.F := fun x => zaG_1 N x.1 x.2.1
theorem czaG_1 (N : Nat) : CC (Y41 N) (bodyOf Try.f69) PzaG_1 (FzaG_1 N) := CC.of (coky41 N) (us := uzaG_0 N) (fun u h _ => okuzaG_0 N u h) (fun x => by kernel_rfl)
def uzaG_1 (N : Nat) : List (Pc D) := PzaG_1.pc (Y41 N) (FzaG_1 N) :: uzaG_0 N
theorem okuzaG_1 (N : Nat) : ∀ u ∈ uzaG_1 N, PcOk (Y41 N) (bodyOf Try.f69) u := pc_cons ((czaG_1 N).pc (by kernel_rfl)) (okuzaG_0 N)
def dzaG : FD D := { f := 69, np := 2, ins := [.v 1 (.int .i64)], fx := [(0, .c .nilS)], rcv := none, rk := 0, outs := [.o 4 (.sl 3)], ofx := [(4, .c (.own 0))], rvs := [.tmp 4], flat := false }
def FzaG (N : Nat) : dzaG.F := fun r x => zaG N x.1
theorem ozaG (N : Nat) : FOk Try.prog (Y41 N) dzaG (FzaG N) := ⟨⟨Try.f69, _, Try.func69, rfl, by kernel_rfl, by kernel_rfl, rfl, FC.of (coky41 N) (us := uzaG_1 N) (fun u h _ => okuzaG_1 N u h) (fun r x => by kernel_rfl)⟩, by kernel_rfl, by kernel_rfl, by kernel_rfl, by kernel_rfl⟩
def fs42 (N : Nat) : List (FE D) := ⟨dzaG, FzaG N⟩ :: fs41 N
theorem all42 (N : Nat) : ∀ y ∈ fs42 N, CallOk X0 y.d y.F := all_call (x := ⟨dzaG, FzaG N⟩) ((ozaG N).call.cuts) (all41 N)
def X42 (N : Nat) : Ev Try.prog D := X0.with (fs42 N)
theorem cok42 (N : Nat) : COk (X42 N) := COk.of (all42 N)
def u0_zaD (N : Nat) : List (Pc D) := []
theorem oku0_zaD (N : Nat) : ∀ u ∈ u0_zaD N, PcOk (X42 N) (bodyOf Try.f44) u := pc_nil
def PzaD_1 : PD D := { path := [1, 1, 0, 1, 0, 0, 1, 1, 0], ins := [.v 3 (.int .i64), .v 9 (.sl 22), .v 11 (.int .i64)], fx := [], ks := [], exs := [⟨.normal, [.v 3 (.int .i64)], []⟩], keep := [0, 9, 10, 11] }
def FzaD_1 (N : Nat) : PzaD_1.F := fun x => zaD_1 N x.1 x.2.1 x.2.2.1
theorem czaD_1 (N : Nat) : CC (X42 N) (bodyOf Try.f44) PzaD_1 (FzaD_1 N) := CC.of (cok42 N) (us := u0_zaD N) (fun u h _ => oku0_zaD N u h) (fun x => by kernel_rfl)
def uzaD_1 (N : Nat) : List (Pc D) := PzaD_1.pc (X42 N) (FzaD_1 N) :: u0_zaD N
theorem okuzaD_1 (N : Nat) : ∀ u ∈ uzaD_1 N, PcOk (X42 N) (bodyOf Try.f44) u := pc_cons ((czaD_1 N).pc (by kernel_rfl)) (oku0_zaD N)
def PzaD_0 : PD D := { path := [1, 1, 0, 1, 0], ins := [.v 3 (.int .i64), .v 9 (.sl 22), .v 10 (.int .i64), .v 11 (.int .i64)], fx := [], ks := [], exs := [⟨.exit 0, [.v 3 (.int .i64)], []⟩], keep := [0] }
def FzaD_0 (N n : Nat) : PzaD_0.F := fun x => zaD_0 N x.2.1 x.2.2.1 n x.1 x.2.2.2.1
theorem czaD_0 (N n : Nat) : CC (X42 N) (bodyOf Try.f44) PzaD_0 (FzaD_0 N n) := CC.loop (cok42 N) (us := uzaD_1 N) (c := sub (bodyOf Try.f44) [1, 1, 0, 1, 0, 0]) (by kernel_rfl) (by kernel_rfl) (fun u h _ => okuzaD_1 N u h) (fun x => rfl) (fun n x => by kernel_rfl) n
def uzaD_0 (N : Nat) : List (Pc D) := PzaD_0.pc (X42 N) (FzaD_0 N N) :: uzaD_1 N
theorem okuzaD_0 (N : Nat) : ∀ u ∈ uzaD_0 N, PcOk (X42 N) (bodyOf Try.f44) u := pc_cons ((czaD_0 N N).pc (by kernel_rfl)) (okuzaD_1 N)
def PzaD_2 : PD D := { path := [1, 1, 1, 1, 0, 1, 0], ins := [.o 6 (.sl 3), .v 25 (.sl 22), .v 26 (.int .i64), .v 27 (.int .i64)], fx := [(6, .c (.own 0))], ks := [0], exs := [⟨.exit 2, [.o 6 (.sl 3)], [(6, .c (.own 1))]⟩], keep := [] }
def FzaD_2 (N n : Nat) : PzaD_2.F := fun x => zaD_2 N x.2.1 x.2.2.1 n x.1 x.2.2.2.1
theorem czaD_2 (N n : Nat) : CC (X42 N) (bodyOf Try.f44) PzaD_2 (FzaD_2 N n) := CC.loop (cok42 N) (us := uzaD_0 N) (c := sub (bodyOf Try.f44) [1, 1, 1, 1, 0, 1, 0, 0]) (by kernel_rfl) (by kernel_rfl) (fun u h _ => okuzaD_0 N u h) (fun x => rfl) (fun n x => by kernel_rfl) n
def uzaD_2 (N : Nat) : List (Pc D) := PzaD_2.pc (X42 N) (FzaD_2 N N) :: uzaD_0 N
theorem okuzaD_2 (N : Nat) : ∀ u ∈ uzaD_2 N, PcOk (X42 N) (bodyOf Try.f44) u := pc_cons ((czaD_2 N N).pc (by kernel_rfl)) (okuzaD_0 N)
def dzaD : FD D := { f := 44, np := 1, ins := [.v 0 (.sl 22)], fx := [], rcv := none, rk := 0, outs := [.o 2 (.sl 3)], ofx := [(2, .c (.own 0))], rvs := [.tmp 2], flat := false }
def FzaD (N : Nat) : dzaD.F := fun r x => zaD N x.1
theorem ozaD (N : Nat) : FOk Try.prog (X42 N) dzaD (FzaD N) := ⟨⟨Try.f44, _, Try.func44, rfl, by kernel_rfl, by kernel_rfl, rfl, FC.of (cok42 N) (us := uzaD_2 N) (fun u h _ => okuzaD_2 N u h) (fun r x => by kernel_rfl)⟩, by kernel_rfl, by kernel_rfl, by kernel_rfl, by kernel_rfl⟩
def fs43 (N : Nat) : List (FE D) := ⟨dzaD, FzaD N⟩ :: fs42 N
theorem all43 (N : Nat) : ∀ y ∈ fs43 N, CallOk X0 y.d y.F := all_cons (x := ⟨dzaD, FzaD N⟩) (ozaD N) (all42 N)
def X43 (N : Nat) : Ev Try.prog D := X0.with (fs43 N)
theorem cok43 (N : Nat) : COk (X43 N) := COk.of (all43 N)
def u0_zcC (N : Nat) : List (Pc D) := []
theorem oku0_zcC (N : Nat) : ∀ u ∈ u0_zcC N, PcOk (X43 N) (bodyOf Try.f70) u := pc_nil
def PzcC_0 : PD D := { path := [1, 0], ins := [.v 0 (.int .i64), .v 1 (.int .i64), .v 2 (.int .i64)], fx := [], ks := [], exs := [⟨.normal, [.v 6 .bool], []⟩], keep := [] }
def FzcC_0 (N : Nat) : PzcC_0.F := fun x => zcC_0 N x.1 x.2.1 x.2.2.1
theorem czcC_0 (N : Nat) : CC (X43 N) (bodyOf Try.f70) PzcC_0 (FzcC_0 N) := CC.of (cok43 N) (us := u0_zcC N) (fun u h _ => oku0_zcC N u h) (fun x => by kernel_rfl)
def uzcC_0 (N : Nat) : List (Pc D) := PzcC_0.pc (X43 N) (FzcC_0 N) :: u0_zcC N
theorem okuzcC_0 (N : Nat) : ∀ u ∈ uzcC_0 N, PcOk (X43 N) (bodyOf Try.f70) u := pc_cons ((czcC_0 N).pc (by kernel_rfl)) (oku0_zcC N)
def dzcC : FD D := { f := 70, np := 3, ins := [.v 0 (.int .i64), .v 1 (.int .i64), .v 2 (.int .i64)], fx := [], rcv := none, rk := 0, outs := [.v 6 .bool], ofx := [], rvs := [.tmp 6], flat := true }
def FzcC (N : Nat) : dzcC.F := fun r x => zcC N x.1 x.2.1 x.2.2.1
theorem ozcC (N : Nat) : FOk Try.prog (X43 N) dzcC (FzcC N) := ⟨⟨Try.f70, _, Try.func70, rfl, by kernel_rfl, by kernel_rfl, rfl, FC.of (cok43 N) (us := uzcC_0 N) (fun u h _ => okuzcC_0 N u h) (fun r x => by kernel_rfl)⟩, by kernel_rfl, by kernel_rfl, by kernel_rfl, by kernel_rfl⟩
def fs44 (N : Nat) : List (FE D) := ⟨dzcC, FzcC N⟩ :: fs43 N
theorem all44 (N : Nat) : ∀ y ∈ fs44 N, CallOk X0 y.d y.F := all_cons (x := ⟨dzcC, FzcC N⟩) (ozcC N) (all43 N)
def X44 (N : Nat) : Ev Try.prog D := X0.with (fs44 N)
theorem cok44 (N : Nat) : COk (X44 N) := COk.of (all44 N)
def u0_zbM (N : Nat) : List (Pc D) := []
theorem oku0_zbM (N : Nat) : ∀ u ∈ u0_zbM N, PcOk (X44 N) (bodyOf Try.f45) u := pc_nil
def PzbM_1 : PD D := { path := [1, 1, 1, 0, 1, 0, 0, 1, 1, 0, 0, 1, 0, 0], ins := [.o 1 (.box 57), .o 4 (.box 44)], fx := [(1, .box 0 0), (4, .box 1 0)], ks := [1, 1], exs := [⟨.normal, [.v 42 .bool], []⟩], keep := [1, 3, 4, 14, 15, 16] }
def FzbM_1 (N : Nat) : PzbM_1.F := fun x => zbM_1 N x.2.1
theorem czbM_1 (N : Nat) : CC (X44 N) (bodyOf Try.f45) PzbM_1 (FzbM_1 N) := CC.of (cok44 N) (us := u0_zbM N) (fun u h _ => oku0_zbM N u h) (fun x => by kernel_rfl)
def uzbM_1 (N : Nat) : List (Pc D) := PzbM_1.pc (X44 N) (FzbM_1 N) :: u0_zbM N
theorem okuzbM_1 (N : Nat) : ∀ u ∈ uzbM_1 N, PcOk (X44 N) (bodyOf Try.f45) u := pc_cons ((czbM_1 N).pc (by kernel_rfl)) (oku0_zbM N)
def PzbM_2 : PD D := { path := [1, 1, 1, 0, 1, 0, 0, 1, 1, 0, 0, 1, 1, 0], ins := [.o 1 (.box 57), .v 3 (.int .i64), .o 4 (.box 44)], fx := [(1, .box 0 0), (4, .box 1 0)], ks := [1, 1], exs := [⟨.normal, [.v 56 .bool], []⟩], keep := [1, 14, 15, 16] }
def FzbM_2 (N : Nat) : PzbM_2.F := fun x => zbM_2 N x.1 x.2.1 x.2.2.1
theorem czbM_2 (N : Nat) : CC (X44 N) (bodyOf Try.f45) PzbM_2 (FzbM_2 N) := CC.of (cok44 N) (us := uzbM_1 N) (fun u h _ => okuzbM_1 N u h) (fun x => by kernel_rfl)
def uzbM_2 (N : Nat) : List (Pc D) := PzbM_2.pc (X44 N) (FzbM_2 N) :: uzbM_1 N
theorem okuzbM_2 (N : Nat) : ∀ u ∈ uzbM_2 N, PcOk (X44 N) (bodyOf Try.f45) u := pc_cons ((czbM_2 N).pc (by kernel_rfl)) (okuzbM_1 N)
def PzbM_0 : PD D := { path := [1, 1, 1, 0, 1, 0], ins := [.o 1 (.box 57), .v 14 (.sl 44), .v 15 (.int .i64), .v 16 (.int .i64)], fx := [(1, .box 0 0)], ks := [1], exs := [⟨.exit 0, [], []⟩, ⟨.ret, [.v 2 (.int .i64)], []⟩], keep := [] }
def FzbM_0 (N n : Nat) : PzbM_0.F := fun x => zbM_0 N x.1 x.2.1 x.2.2.1 n x.2.2.2.1
theorem czbM_0 (N n : Nat) : CC (X44 N) (bodyOf Try.f45) PzbM_0 (FzbM_0 N n) := CC.loop (cok44 N) (us := uzbM_2 N) (c := sub (bodyOf Try.f45) [1, 1, 1, 0, 1, 0, 0]) (by kernel_rfl) (by kernel_rfl) (fun u h _ => okuzbM_2 N u h) (fun x => rfl) (fun n x => by kernel_rfl) n
def uzbM_0 (N : Nat) : List (Pc D) := PzbM_0.pc (X44 N) (FzbM_0 N N) :: uzbM_2 N
theorem okuzbM_0 (N : Nat) : ∀ u ∈ uzbM_0 N, PcOk (X44 N) (bodyOf Try.f45) u := pc_cons ((czbM_0 N N).pc (by kernel_rfl)) (okuzbM_2 N)
def dzbM : FD D := { f := 45, np := 1, ins := [.v 0 (.agg 57)], fx := [], rcv := none, rk := 0, outs := [.v 2 (.int .i64)], ofx := [], rvs := [.tmp 2], flat := true }
def FzbM (N : Nat) : dzbM.F := fun r x => zbM N x.1
theorem ozbM (N : Nat) : FOk Try.prog (X44 N) dzbM (FzbM N) := ⟨⟨Try.f45, _, Try.func45, rfl, by kernel_rfl, by kernel_rfl, rfl, FC.of (cok44 N) (us := uzbM_0 N) (fun u h _ => okuzbM_0 N u h) (fun r x => by kernel_rfl)⟩, by kernel_rfl, by kernel_rfl, by kernel_rfl, by kernel_rfl⟩
def fs45 (N : Nat) : List (FE D) := ⟨dzbM, FzbM N⟩ :: fs44 N
theorem all45 (N : Nat) : ∀ y ∈ fs45 N, CallOk X0 y.d y.F := all_cons (x := ⟨dzbM, FzbM N⟩) (ozbM N) (all44 N)
def X45 (N : Nat) : Ev Try.prog D := X0.with (fs45 N)
theorem cok45 (N : Nat) : COk (X45 N) := COk.of (all45 N)
def u0_zbI (N : Nat) : List (Pc D) := []
theorem oku0_zbI (N : Nat) : ∀ u ∈ u0_zbI N, PcOk (X45 N) (bodyOf Try.f22) u := pc_nil
def PzbI_0 : PD D := { path := [1, 1, 0, 0, 1, 1, 0], ins := [.v 2 (.int .i64), .o 3 (.box 28), .o 6 (.box 57)], fx := [(3, .box 0 0), (6, .box 1 0)], ks := [1, 1], exs := [⟨.normal, [.v 27 .bool], []⟩], keep := [1, 2, 3, 6, 9] }
def FzbI_0 (N : Nat) : PzbI_0.F := fun x => zbI_0 N x.1
theorem czbI_0 (N : Nat) : CC (X45 N) (bodyOf Try.f22) PzbI_0 (FzbI_0 N) := CC.of (cok45 N) (us := u0_zbI N) (fun u h _ => oku0_zbI N u h) (fun x => by kernel_rfl)
def uzbI_0 (N : Nat) : List (Pc D) := PzbI_0.pc (X45 N) (FzbI_0 N) :: u0_zbI N
theorem okuzbI_0 (N : Nat) : ∀ u ∈ uzbI_0 N, PcOk (X45 N) (bodyOf Try.f22) u := pc_cons ((czbI_0 N).pc (by kernel_rfl)) (oku0_zbI N)
def PzbI_1 : PD D := { path := [1, 1, 1, 1, 1, 0, 1, 0], ins := [.o 3 (.box 28), .o 6 (.box 57), .o 11 (.sl 3), .o 12 (.bx 57 [(0, 4)]), .v 46 (.int .i64), .v 47 (.int .i64), .o 2012000 (.sl 44)], fx := [(3, .box 0 0), (6, .box 1 0), (11, .c (.own 2)), (12, .box 3 0), (45, .c (.own 2))], ks := [1, 1, 1, 2, 0], exs := [⟨.exit 1, [.u 3 (.bx 57 [(0, 5)]), .o 2012000 (.sl 44)], []⟩], keep := [6, 11, 12] }
def FzbI_1 (N n : Nat) : PzbI_1.F := fun x => zbI_1 N x.1 x.2.2.1 x.2.2.2.2.1 n x.2.2.2.1 x.2.2.2.2.2.1 x.2.2.2.2.2.2.1
theorem czbI_1 (N n : Nat) : CC (X45 N) (bodyOf Try.f22) PzbI_1 (FzbI_1 N n) := CC.loop (cok45 N) (us := uzbI_0 N) (c := sub (bodyOf Try.f22) [1, 1, 1, 1, 1, 0, 1, 0, 0]) (by kernel_rfl) (by kernel_rfl) (fun u h _ => okuzbI_0 N u h) (fun x => rfl) (fun n x => by kernel_rfl) n
def uzbI_1 (N : Nat) : List (Pc D) := PzbI_1.pc (X45 N) (FzbI_1 N N) :: uzbI_0 N
theorem okuzbI_1 (N : Nat) : ∀ u ∈ uzbI_1 N, PcOk (X45 N) (bodyOf Try.f22) u := pc_cons ((czbI_1 N N).pc (by kernel_rfl)) (okuzbI_0 N)
def dzbI : FD D := { f := 22, np := 3, ins := [.v 0 (.agg 28), .v 1 (.sl 39), .v 2 (.int .i64)], fx := [], rcv := none, rk := 0, outs := [.v 1000000 (.agg 57), .o 7 (.sl 3), .v 8 (.int .i64)], ofx := [(7, .c (.own 0))], rvs := [.cell 6 57, .tmp 7, .tmp 8], flat := false }
def FzbI (N : Nat) : dzbI.F := fun r x => zbI N x.1 x.2.1 x.2.2.1
theorem ozbI (N : Nat) : FOk Try.prog (X45 N) dzbI (FzbI N) := ⟨⟨Try.f22, _, Try.func22, rfl, by kernel_rfl, by kernel_rfl, rfl, FC.of (cok45 N) (us := uzbI_1 N) (fun u h _ => okuzbI_1 N u h) (fun r x => by kernel_rfl)⟩, by kernel_rfl, by kernel_rfl, by kernel_rfl, by kernel_rfl⟩
def fs46 (N : Nat) : List (FE D) := ⟨dzbI, FzbI N⟩ :: fs45 N
theorem all46 (N : Nat) : ∀ y ∈ fs46 N, CallOk X0 y.d y.F := all_cons (x := ⟨dzbI, FzbI N⟩) (ozbI N) (all45 N)
def X46 (N : Nat) : Ev Try.prog D := X0.with (fs46 N)
theorem cok46 (N : Nat) : COk (X46 N) := COk.of (all46 N)
def u0_zcB (N : Nat) : List (Pc D) := []
theorem oku0_zcB (N : Nat) : ∀ u ∈ u0_zcB N, PcOk (X46 N) (bodyOf Try.f40) u := pc_nil
def PzcB_0 : PD D := { path := [1, 0, 0, 1, 1, 0], ins := [.v 2 (.int .i64), .o 3 (.box 28), .o 6 (.box 57)], fx := [(3, .box 0 0), (6, .box 1 0)], ks := [1, 1], exs := [⟨.normal, [.v 19 .bool], []⟩], keep := [1, 2, 3, 6] }
def FzcB_0 (N : Nat) : PzcB_0.F := fun x => zcB_0 N x.1
theorem czcB_0 (N : Nat) : CC (X46 N) (bodyOf Try.f40) PzcB_0 (FzcB_0 N) := CC.of (cok46 N) (us := u0_zcB N) (fun u h _ => oku0_zcB N u h) (fun x => by kernel_rfl)
def uzcB_0 (N : Nat) : List (Pc D) := PzcB_0.pc (X46 N) (FzcB_0 N) :: u0_zcB N
theorem okuzcB_0 (N : Nat) : ∀ u ∈ uzcB_0 N, PcOk (X46 N) (bodyOf Try.f40) u := pc_cons ((czcB_0 N).pc (by kernel_rfl)) (oku0_zcB N)
def PzcB_3 : PD D := { path := [1, 1, 1, 1, 0, 1, 0, 0, 1, 0, 0, 1, 0, 0, 1, 0], ins := [.v 1 (.sl 39), .o 3 (.box 28), .o 6 (.box 57), .o 9 (.bx 57 [(0, 4)]), .o 10 (.sl 3), .v 11 (.int .i64), .v 12 (.int .i64), .o 2009000 (.sl 44)], fx := [(3, .box 0 0), (6, .box 1 0), (9, .box 2 0), (10, .c (.own 3))], ks := [1, 1, 2, 0, 0], exs := [⟨.normal, [.u 2 (.bx 57 [(0, 6)]), .o 10 (.sl 3), .o 2009000 (.sl 44)], [(10, .c (.own 5))]⟩], keep := [1, 3, 6, 9, 11, 12] }
def FzcB_3 (N : Nat) : PzcB_3.F := fun x => zcB_3 N x.1 x.2.1 x.2.2.2.1 x.2.2.2.2.1 x.2.2.2.2.2.1 x.2.2.2.2.2.2.1 x.2.2.2.2.2.2.2.1
theorem czcB_3 (N : Nat) : CC (X46 N) (bodyOf Try.f40) PzcB_3 (FzcB_3 N) := CC.of (cok46 N) (us := uzcB_0 N) (fun u h _ => okuzcB_0 N u h) (fun x => by kernel_rfl)
def uzcB_3 (N : Nat) : List (Pc D) := PzcB_3.pc (X46 N) (FzcB_3 N) :: uzcB_0 N
theorem okuzcB_3 (N : Nat) : ∀ u ∈ uzcB_3 N, PcOk (X46 N) (bodyOf Try.f40) u := pc_cons ((czcB_3 N).pc (by kernel_rfl)) (okuzcB_0 N)
def PzcB_2 : PD D := { path := [1, 1, 1, 1, 0, 1, 0, 0, 1, 0, 0, 1, 0], ins := [.v 1 (.sl 39), .o 3 (.box 28), .o 6 (.box 57), .o 9 (.bx 57 [(0, 4)]), .o 10 (.sl 3), .v 11 (.int .i64), .v 12 (.int .i64), .o 2009000 (.sl 44)], fx := [(3, .box 0 0), (6, .box 1 0), (9, .box 2 0), (10, .c (.own 3))], ks := [1, 1, 2, 0, 0], exs := [⟨.exit 3, [.u 2 (.bx 57 [(0, 6)]), .o 10 (.sl 3), .o 2009000 (.sl 44)], [(10, .c (.own 5))]⟩], keep := [1, 3, 6, 9, 11] }
def FzcB_2 (N n : Nat) : PzcB_2.F := fun x => zcB_2 N x.1 x.2.1 x.2.2.2.2.2.1 n x.2.2.2.1 x.2.2.2.2.1 x.2.2.2.2.2.2.1 x.2.2.2.2.2.2.2.1
theorem czcB_2 (N n : Nat) : CC (X46 N) (bodyOf Try.f40) PzcB_2 (FzcB_2 N n) := CC.loop (cok46 N) (us := uzcB_3 N) (c := sub (bodyOf Try.f40) [1, 1, 1, 1, 0, 1, 0, 0, 1, 0, 0, 1, 0, 0]) (by kernel_rfl) (by kernel_rfl) (fun u h _ => okuzcB_3 N u h) (fun x => rfl) (fun n x => by kernel_rfl) n
def uzcB_2 (N : Nat) : List (Pc D) := PzcB_2.pc (X46 N) (FzcB_2 N N) :: uzcB_3 N
theorem okuzcB_2 (N : Nat) : ∀ u ∈ uzcB_2 N, PcOk (X46 N) (bodyOf Try.f40) u := pc_cons ((czcB_2 N N).pc (by kernel_rfl)) (okuzcB_3 N)
def PzcB_1 : PD D := { path := [1, 1, 1, 1, 0, 1, 0], ins := [.v 1 (.sl 39), .o 3 (.box 28), .o 6 (.box 57), .o 9 (.bx 57 [(0, 4)]), .o 10 (.sl 3), .v 11 (.int .i64), .o 2009000 (.sl 44)], fx := [(3, .box 0 0), (6, .box 1 0), (9, .box 2 0), (10, .c (.own 3))], ks := [1, 1, 2, 0, 0], exs := [⟨.exit 1, [.u 2 (.bx 57 [(0, 6)]), .o 10 (.sl 3), .o 2009000 (.sl 44)], [(10, .c (.own 5))]⟩], keep := [6, 9] }
def FzcB_1 (N n : Nat) : PzcB_1.F := fun x => zcB_1 N x.1 x.2.1 n x.2.2.2.1 x.2.2.2.2.1 x.2.2.2.2.2.1 x.2.2.2.2.2.2.1
theorem czcB_1 (N n : Nat) : CC (X46 N) (bodyOf Try.f40) PzcB_1 (FzcB_1 N n) := CC.loop (cok46 N) (us := uzcB_2 N) (c := sub (bodyOf Try.f40) [1, 1, 1, 1, 0, 1, 0, 0]) (by kernel_rfl) (by kernel_rfl) (fun u h _ => okuzcB_2 N u h) (fun x => rfl) (fun n x => by kernel_rfl) n
def uzcB_1 (N : Nat) : List (Pc D) := PzcB_1.pc (X46 N) (FzcB_1 N N) :: uzcB_2 N
theorem okuzcB_1 (N : Nat) : ∀ u ∈ uzcB_1 N, PcOk (X46 N) (bodyOf Try.f40) u := pc_cons ((czcB_1 N N).pc (by kernel_rfl)) (okuzcB_2 N)
def dzcB : FD D := { f := 40, np := 3, ins := [.v 0 (.agg 28), .v 1 (.sl 39), .v 2 (.int .i64)], fx := [], rcv := none, rk := 0, outs := [.v 1000000 (.agg 57), .o 7 (.sl 3), .v 8 (.int .i64)], ofx := [(7, .c (.own 0))], rvs := [.cell 6 57, .tmp 7, .tmp 8], flat := false }
def FzcB (N : Nat) : dzcB.F := fun r x => zcB N x.1 x.2.1 x.2.2.1
theorem ozcB (N : Nat) : FOk Try.prog (X46 N) dzcB (FzcB N) := ⟨⟨Try.f40, _, Try.func40, rfl, by kernel_rfl, by kernel_rfl, rfl, FC.of (cok46 N) (us := uzcB_1 N) (fun u h _ => okuzcB_1 N u h) (fun r x => by kernel_rfl)⟩, by kernel_rfl, by kernel_rfl, by kernel_rfl, by kernel_rfl⟩
def fs47 (N : Nat) : List (FE D) := ⟨dzcB, FzcB N⟩ :: fs46 N
theorem all47 (N : Nat) : ∀ y ∈ fs47 N, CallOk X0 y.d y.F := all_cons (x := ⟨dzcB, FzcB N⟩) (ozcB N) (all46 N)
def X47 (N : Nat) : Ev Try.prog D := X0.with (fs47 N)
theorem cok47 (N : Nat) : COk (X47 N) := COk.of (all47 N)
def u0_zaJ (N : Nat) : List (Pc D) := []
theorem oku0_zaJ (N : Nat) : ∀ u ∈ u0_zaJ N, PcOk (X47 N) (bodyOf Try.f32) u := pc_nil
def PzaJ_0 : PD D := { path := [1, 1, 0, 1, 0], ins := [.v 0 (.sl 39), .v 1 (.sl 39), .v 5 (.int .i64)], fx := [], ks := [], exs := [⟨.exit 0, [], []⟩, ⟨.ret, [.v 4 .bool], []⟩], keep := [] }
def FzaJ_0 (N n : Nat) : PzaJ_0.F := fun x => zaJ_0 N x.1 x.2.1 n x.2.2.1
theorem czaJ_0 (N n : Nat) : CC (X47 N) (bodyOf Try.f32) PzaJ_0 (FzaJ_0 N n) := CC.loop (cok47 N) (us := u0_zaJ N) (c := sub (bodyOf Try.f32) [1, 1, 0, 1, 0, 0]) (by kernel_rfl) (by kernel_rfl) (fun u h _ => oku0_zaJ N u h) (fun x => rfl) (fun n x => by kernel_rfl) n
def uzaJ_0 (N : Nat) : List (Pc D) := PzaJ_0.pc (X47 N) (FzaJ_0 N N) :: u0_zaJ N
theorem okuzaJ_0 (N : Nat) : ∀ u ∈ uzaJ_0 N, PcOk (X47 N) (bodyOf Try.f32) u := pc_cons ((czaJ_0 N N).pc (by kernel_rfl)) (oku0_zaJ N)
def dzaJ : FD D := { f := 32, np := 2, ins := [.v 0 (.sl 39), .v 1 (.sl 39)], fx := [], rcv := none, rk := 0, outs := [.v 4 .bool], ofx := [], rvs := [.tmp 4], flat := true }
def FzaJ (N : Nat) : dzaJ.F := fun r x => zaJ N x.1 x.2.1
theorem ozaJ (N : Nat) : FOk Try.prog (X47 N) dzaJ (FzaJ N) := ⟨⟨Try.f32, _, Try.func32, rfl, by kernel_rfl, by kernel_rfl, rfl, FC.of (cok47 N) (us := uzaJ_0 N) (fun u h _ => okuzaJ_0 N u h) (fun r x => by kernel_rfl)⟩, by kernel_rfl, by kernel_rfl, by kernel_rfl, by kernel_rfl⟩
def fs48 (N : Nat) : List (FE D) := ⟨dzaJ, FzaJ N⟩ :: fs47 N
theorem all48 (N : Nat) : ∀ y ∈ fs48 N, CallOk X0 y.d y.F := all_cons (x := ⟨dzaJ, FzaJ N⟩) (ozaJ N) (all47 N)
def X48 (N : Nat) : Ev Try.prog D := X0.with (fs48 N)
theorem cok48 (N : Nat) : COk (X48 N) := COk.of (all48 N)
def u0_zbW (N : Nat) : List (Pc D) := []
theorem oku0_zbW (N : Nat) : ∀ u ∈ u0_zbW N, PcOk (X48 N) (bodyOf Try.f43) u := pc_nil
def PzbW_0 : PD D := { path := [1, 1, 0, 1, 0], ins := [.v 0 (.sl 3), .v 1 (.sl 3), .v 5 (.int .i64)], fx := [], ks := [], exs := [⟨.exit 0, [], []⟩, ⟨.ret, [.v 4 .bool], []⟩], keep := [] }
def FzbW_0 (N n : Nat) : PzbW_0.F := fun x => zbW_0 N x.1 x.2.1 n x.2.2.1
theorem czbW_0 (N n : Nat) : CC (X48 N) (bodyOf Try.f43) PzbW_0 (FzbW_0 N n) := CC.loop (cok48 N) (us := u0_zbW N) (c := sub (bodyOf Try.f43) [1, 1, 0, 1, 0, 0]) (by kernel_rfl) (by kernel_rfl) (fun u h _ => oku0_zbW N u h) (fun x => rfl) (fun n x => by kernel_rfl) n
def uzbW_0 (N : Nat) : List (Pc D) := PzbW_0.pc (X48 N) (FzbW_0 N N) :: u0_zbW N
theorem okuzbW_0 (N : Nat) : ∀ u ∈ uzbW_0 N, PcOk (X48 N) (bodyOf Try.f43) u := pc_cons ((czbW_0 N N).pc (by kernel_rfl)) (oku0_zbW N)
def dzbW : FD D := { f := 43, np := 2, ins := [.v 0 (.sl 3), .v 1 (.sl 3)], fx := [], rcv := none, rk := 0, outs := [.v 4 .bool], ofx := [], rvs := [.tmp 4], flat := true }
def FzbW (N : Nat) : dzbW.F := fun r x => zbW N x.1 x.2.1
theorem ozbW (N : Nat) : FOk Try.prog (X48 N) dzbW (FzbW N) := ⟨⟨Try.f43, _, Try.func43, rfl, by kernel_rfl, by kernel_rfl, rfl, FC.of (cok48 N) (us := uzbW_0 N) (fun u h _ => okuzbW_0 N u h) (fun r x => by kernel_rfl)⟩, by kernel_rfl, by kernel_rfl, by kernel_rfl, by kernel_rfl⟩
def fs49 (N : Nat) : List (FE D) := ⟨dzbW, FzbW N⟩ :: fs48 N
theorem all49 (N : Nat) : ∀ y ∈ fs49 N, CallOk X0 y.d y.F := all_cons (x := ⟨dzbW, FzbW N⟩) (ozbW N) (all48 N)
def X49 (N : Nat) : Ev Try.prog D := X0.with (fs49 N)
theorem cok49 (N : Nat) : COk (X49 N) := COk.of (all49 N)
def u0_zbL (N : Nat) : List (Pc D) := []
theorem oku0_zbL (N : Nat) : ∀ u ∈ u0_zbL N, PcOk (X49 N) (bodyOf Try.f41) u := pc_nil
def PzbL_0 : PD D := { path := [1, 1, 0, 1, 0], ins := [.v 0 (.sl 22), .v 1 (.sl 22), .v 5 (.int .i64)], fx := [], ks := [], exs := [⟨.exit 0, [], []⟩, ⟨.ret, [.v 4 .bool], []⟩], keep := [] }
def FzbL_0 (N n : Nat) : PzbL_0.F := fun x => zbL_0 N x.1 x.2.1 n x.2.2.1
theorem czbL_0 (N n : Nat) : CC (X49 N) (bodyOf Try.f41) PzbL_0 (FzbL_0 N n) := CC.loop (cok49 N) (us := u0_zbL N) (c := sub (bodyOf Try.f41) [1, 1, 0, 1, 0, 0]) (by kernel_rfl) (by kernel_rfl) (fun u h _ => oku0_zbL N u h) (fun x => rfl) (fun n x => by kernel_rfl) n
def uzbL_0 (N : Nat) : List (Pc D) := PzbL_0.pc (X49 N) (FzbL_0 N N) :: u0_zbL N
theorem okuzbL_0 (N : Nat) : ∀ u ∈ uzbL_0 N, PcOk (X49 N) (bodyOf Try.f41) u := pc_cons ((czbL_0 N N).pc (by kernel_rfl)) (oku0_zbL N)
def dzbL : FD D := { f := 41, np := 2, ins := [.v 0 (.sl 22), .v 1 (.sl 22)], fx := [], rcv := none, rk := 0, outs := [.v 4 .bool], ofx := [], rvs := [.tmp 4], flat := true }
def FzbL (N : Nat) : dzbL.F := fun r x => zbL N x.1 x.2.1
theorem ozbL (N : Nat) : FOk Try.prog (X49 N) dzbL (FzbL N) := ⟨⟨Try.f41, _, Try.func41, rfl, by kernel_rfl, by kernel_rfl, rfl, FC.of (cok49 N) (us := uzbL_0 N) (fun u h _ => okuzbL_0 N u h) (fun r x => by kernel_rfl)⟩, by kernel_rfl, by kernel_rfl, by kernel_rfl, by kernel_rfl⟩
def fs50 (N : Nat) : List (FE D) := ⟨dzbL, FzbL N⟩ :: fs49 N
theorem all50 (N : Nat) : ∀ y ∈ fs50 N, CallOk X0 y.d y.F := all_cons (x := ⟨dzbL, FzbL N⟩) (ozbL N) (all49 N)
def X50 (N : Nat) : Ev Try.prog D := X0.with (fs50 N)
theorem cok50 (N : Nat) : COk (X50 N) := COk.of (all50 N)
def u0_zbK (N : Nat) : List (Pc D) := []
theorem oku0_zbK (N : Nat) : ∀ u ∈ u0_zbK N, PcOk (X50 N) (bodyOf Try.f68) u := pc_nil
def PzbK_0 : PD D := { path := [1, 1, 0, 1, 0], ins := [.v 0 (.sl 44), .v 1 (.sl 44), .v 5 (.int .i64)], fx := [], ks := [], exs := [⟨.exit 0, [], []⟩, ⟨.ret, [.v 4 .bool], []⟩], keep := [] }
def FzbK_0 (N n : Nat) : PzbK_0.F := fun x => zbK_0 N x.1 x.2.1 n x.2.2.1
theorem czbK_0 (N n : Nat) : CC (X50 N) (bodyOf Try.f68) PzbK_0 (FzbK_0 N n) := CC.loop (cok50 N) (us := u0_zbK N) (c := sub (bodyOf Try.f68) [1, 1, 0, 1, 0, 0]) (by kernel_rfl) (by kernel_rfl) (fun u h _ => oku0_zbK N u h) (fun x => rfl) (fun n x => by kernel_rfl) n
def uzbK_0 (N : Nat) : List (Pc D) := PzbK_0.pc (X50 N) (FzbK_0 N N) :: u0_zbK N
theorem okuzbK_0 (N : Nat) : ∀ u ∈ uzbK_0 N, PcOk (X50 N) (bodyOf Try.f68) u := pc_cons ((czbK_0 N N).pc (by kernel_rfl)) (oku0_zbK N)
def dzbK : FD D := { f := 68, np := 2, ins := [.v 0 (.sl 44), .v 1 (.sl 44)], fx := [], rcv := none, rk := 0, outs := [.v 4 .bool], ofx := [], rvs := [.tmp 4], flat := true }
def FzbK (N : Nat) : dzbK.F := fun r x => zbK N x.1 x.2.1
theorem ozbK (N : Nat) : FOk Try.prog (X50 N) dzbK (FzbK N) := ⟨⟨Try.f68, _, Try.func68, rfl, by kernel_rfl, by kernel_rfl, rfl, FC.of (cok50 N) (us := uzbK_0 N) (fun u h _ => okuzbK_0 N u h) (fun r x => by kernel_rfl)⟩, by kernel_rfl, by kernel_rfl, by kernel_rfl, by kernel_rfl⟩
def fs51 (N : Nat) : List (FE D) := ⟨dzbK, FzbK N⟩ :: fs50 N
theorem all51 (N : Nat) : ∀ y ∈ fs51 N, CallOk X0 y.d y.F := all_cons (x := ⟨dzbK, FzbK N⟩) (ozbK N) (all50 N)
def X51 (N : Nat) : Ev Try.prog D := X0.with (fs51 N)
theorem cok51 (N : Nat) : COk (X51 N) := COk.of (all51 N)
def u0_zaL (N : Nat) : List (Pc D) := []
theorem oku0_zaL (N : Nat) : ∀ u ∈ u0_zaL N, PcOk (X51 N) (bodyOf Try.f42) u := pc_nil
def PzaL_0 : PD D := { path := [1, 0], ins := [.o 2 (.box 57), .o 3 (.box 57)], fx := [(2, .box 0 0), (3, .box 1 0)], ks := [1, 1], exs := [⟨.normal, [.v 4 .bool], []⟩], keep := [] }
def FzaL_0 (N : Nat) : PzaL_0.F := fun x => zaL_0 N x.1 x.2.1
theorem czaL_0 (N : Nat) : CC (X51 N) (bodyOf Try.f42) PzaL_0 (FzaL_0 N) := CC.of (cok51 N) (us := u0_zaL N) (fun u h _ => oku0_zaL N u h) (fun x => by kernel_rfl)
def uzaL_0 (N : Nat) : List (Pc D) := PzaL_0.pc (X51 N) (FzaL_0 N) :: u0_zaL N
theorem okuzaL_0 (N : Nat) : ∀ u ∈ uzaL_0 N, PcOk (X51 N) (bodyOf Try.f42) u := pc_cons ((czaL_0 N).pc (by kernel_rfl)) (oku0_zaL N)
def dzaL : FD D := { f := 42, np := 2, ins := [.v 0 (.agg 57), .v 1 (.agg 57)], fx := [], rcv := none, rk := 0, outs := [.v 4 .bool], ofx := [], rvs := [.tmp 4], flat := true }
def FzaL (N : Nat) : dzaL.F := fun r x => zaL N x.1 x.2.1
theorem ozaL (N : Nat) : FOk Try.prog (X51 N) dzaL (FzaL N) := ⟨⟨Try.f42, _, Try.func42, rfl, by kernel_rfl, by kernel_rfl, rfl, FC.of (cok51 N) (us := uzaL_0 N) (fun u h _ => okuzaL_0 N u h) (fun r x => by kernel_rfl)⟩, by kernel_rfl, by kernel_rfl, by kernel_rfl, by kernel_rfl⟩
def fs52 (N : Nat) : List (FE D) := ⟨dzaL, FzaL N⟩ :: fs51 N
theorem all52 (N : Nat) : ∀ y ∈ fs52 N, CallOk X0 y.d y.F := all_cons (x := ⟨dzaL, FzaL N⟩) (ozaL N) (all51 N)
def X52 (N : Nat) : Ev Try.prog D := X0.with (fs52 N)
theorem cok52 (N : Nat) : COk (X52 N) := COk.of (all52 N)
def u0_zbN (N : Nat) : List (Pc D) := []
theorem oku0_zbN (N : Nat) : ∀ u ∈ u0_zbN N, PcOk (X52 N) (bodyOf Try.f21) u := pc_nil
def PzbN_0 : PD D := { path := [1, 1, 1, 1, 1, 1, 1, 1, 1, 0], ins := [.o 3 (.box 28), .o 7 (.sl 39), .v 8 (.int .i64), .o 9 (.sl 39), .v 10 (.int .i64), .v 11 .bool, .v 12 (.int .i64), .v 13 .bool, .v 14 (.int .i64), .v 15 (.sl 22), .v 16 (.int .i64), .o 17 (.sl 22), .v 18 (.int .i64), .o 19 (.box 57), .o 20 (.sl 3), .v 21 (.int .i64), .o 22 (.box 57), .o 23 (.sl 3), .v 24 (.int .i64)], fx := [(3, .box 0 0), (7, .c (.own 1)), (9, .c (.own 2)), (17, .c (.own 3)), (19, .box 4 0), (20, .c (.own 5)), (22, .box 6 0), (23, .c (.own 7))], ks := [1, 1, 1, 1, 1, 1, 1, 1], exs := [⟨.normal, [.v 6 .bool], []⟩], keep := [] }
def FzbN_0 (N : Nat) : PzbN_0.F := fun x => zbN_0 N x.1 x.2.1 x.2.2.1 x.2.2.2.1 x.2.2.2.2.1 x.2.2.2.2.2.1 x.2.2.2.2.2.2.1 x.2.2.2.2.2.2.2.1 x.2.2.2.2.2.2.2.2.1 x.2.2.2.2.2.2.2.2.2.1 x.2.2.2.2.2.2.2.2.2.2.1 x.2.2.2.2.2.2.2.2.2.2.2.1 x.2.2.2.2.2.2.2.2.2.2.2.2.1 x.2.2.2.2.2.2.2.2.2.2.2.2.2.1 x.2.2.2.2.2.2.2.2.2.2.2.2.2.2.1 x.2.2.2.2.2.2.2.2.2.2.2.2.2.2.2.1 x.2.2.2.2.2.2.2.2.2.2.2.2.2.2.2.2.1 x.2.2.2.2.2.2.2.2.2.2.2.2.2.2.2.2.2.1 x.2.2.2.2.2.2.2.2.2.2.2.2.2.2.2.2.2.2.1
theorem czbN_0 (N : Nat) : CC (X52 N) (bodyOf Try.f21) PzbN_0 (FzbN_0 N) := CC.of (cok52 N) (us := u0_zbN N) (fun u h _ => oku0_zbN N u h) (fun x => by kernel_rfl)
def uzbN_0 (N : Nat) : List (Pc D) := PzbN_0.pc (X52 N) (FzbN_0 N) :: u0_zbN N
theorem okuzbN_0 (N : Nat) : ∀ u ∈ uzbN_0 N, PcOk (X52 N) (bodyOf Try.f21) u := pc_cons ((czbN_0 N).pc (by kernel_rfl)) (oku0_zbN N)
def dzbN : FD D := { f := 21, np := 3, ins := [.v 0 (.agg 28), .v 1 (.sl 39), .v 2 (.int .i64)], fx := [], rcv := none, rk := 0, outs := [.v 6 .bool], ofx := [], rvs := [.tmp 6], flat := true }
def FzbN (N : Nat) : dzbN.F := fun r x => zbN N x.1 x.2.1 x.2.2.1
theorem ozbN (N : Nat) : FOk Try.prog (X52 N) dzbN (FzbN N) := ⟨⟨Try.f21, _, Try.func21, rfl, by kernel_rfl, by kernel_rfl, rfl, FC.of (cok52 N) (us := uzbN_0 N) (fun u h _ => okuzbN_0 N u h) (fun r x => by kernel_rfl)⟩, by kernel_rfl, by kernel_rfl, by kernel_rfl, by kernel_rfl⟩
def fs53 (N : Nat) : List (FE D) := ⟨dzbN, FzbN N⟩ :: fs52 N
theorem all53 (N : Nat) : ∀ y ∈ fs53 N, CallOk X0 y.d y.F := all_cons (x := ⟨dzbN, FzbN N⟩) (ozbN N) (all52 N)
def X53 (N : Nat) : Ev Try.prog D := X0.with (fs53 N)
theorem cok53 (N : Nat) : COk (X53 N) := COk.of (all53 N)
def u0_zbX (N : Nat) : List (Pc D) := []
theorem oku0_zbX (N : Nat) : ∀ u ∈ u0_zbX N, PcOk (X53 N) (bodyOf Try.f14) u := pc_nil
def PzbX_0 : PD D := { path := [1, 1, 1, 1, 1, 1, 0], ins := [.o 3 (.sl 39), .v 4 (.int .i64), .o 5 (.sl 39), .v 6 (.int .i64), .v 7 .bool, .v 8 (.int .i64)], fx := [(3, .c (.own 0)), (5, .c (.own 1))], ks := [1, 1], exs := [⟨.normal, [.v 0 .bool], []⟩], keep := [] }
def FzbX_0 (N : Nat) : PzbX_0.F := fun x => zbX_0 N x.1 x.2.1 x.2.2.1 x.2.2.2.1 x.2.2.2.2.1 x.2.2.2.2.2.1
theorem czbX_0 (N : Nat) : CC (X53 N) (bodyOf Try.f14) PzbX_0 (FzbX_0 N) := CC.of (cok53 N) (us := u0_zbX N) (fun u h _ => oku0_zbX N u h) (fun x => by kernel_rfl)
def uzbX_0 (N : Nat) : List (Pc D) := PzbX_0.pc (X53 N) (FzbX_0 N) :: u0_zbX N
theorem okuzbX_0 (N : Nat) : ∀ u ∈ uzbX_0 N, PcOk (X53 N) (bodyOf Try.f14) u := pc_cons ((czbX_0 N).pc (by kernel_rfl)) (oku0_zbX N)
def dzbX : FD D := { f := 14, np := 0, ins := [], fx := [], rcv := none, rk := 0, outs := [.v 0 .bool], ofx := [], rvs := [.tmp 0], flat := true }
def FzbX (N : Nat) : dzbX.F := fun r x => zbX N
theorem ozbX (N : Nat) : FOk Try.prog (X53 N) dzbX (FzbX N) := ⟨⟨Try.f14, _, Try.func14, rfl, by kernel_rfl, by kernel_rfl, rfl, FC.of (cok53 N) (us := uzbX_0 N) (fun u h _ => okuzbX_0 N u h) (fun r x => by kernel_rfl)⟩, by kernel_rfl, by kernel_rfl, by kernel_rfl, by kernel_rfl⟩
def fs54 (N : Nat) : List (FE D) := ⟨dzbX, FzbX N⟩ :: fs53 N
theorem all54 (N : Nat) : ∀ y ∈ fs54 N, CallOk X0 y.d y.F := all_cons (x := ⟨dzbX, FzbX N⟩) (ozbX N) (all53 N)
def X54 (N : Nat) : Ev Try.prog D := X0.with (fs54 N)
theorem cok54 (N : Nat) : COk (X54 N) := COk.of (all54 N)
def u0_zaN (N : Nat) : List (Pc D) := []
theorem oku0_zaN (N : Nat) : ∀ u ∈ u0_zaN N, PcOk (X54 N) (bodyOf Try.f6) u := pc_nil
def PzaN_1 : PD D := { path := [1, 1, 0, 1, 0, 0, 1, 0, 0, 1, 1, 0, 0], ins := [.o 5 (.box 28), .o 9 (.box 69), .v 10 (.int .i64), .o 11 (.box 28), .o 12 (.sl 39)], fx := [(5, .box 0 0), (9, .box 1 0), (11, .box 2 0), (12, .c (.own 3))], ks := [1, 1, 1, 1], exs := [⟨.normal, [.v 37 .bool], []⟩], keep := [2, 3, 5, 9, 10, 11, 12] }
def FzaN_1 (N : Nat) : PzaN_1.F := fun x => zaN_1 N x.2.2.1 x.2.2.2.2.1
theorem czaN_1 (N : Nat) : CC (X54 N) (bodyOf Try.f6) PzaN_1 (FzaN_1 N) := CC.of (cok54 N) (us := u0_zaN N) (fun u h _ => oku0_zaN N u h) (fun x => by kernel_rfl)
def uzaN_1 (N : Nat) : List (Pc D) := PzaN_1.pc (X54 N) (FzaN_1 N) :: u0_zaN N
theorem okuzaN_1 (N : Nat) : ∀ u ∈ uzaN_1 N, PcOk (X54 N) (bodyOf Try.f6) u := pc_cons ((czaN_1 N).pc (by kernel_rfl)) (oku0_zaN N)
def PzaN_2 : PD D := { path := [1, 1, 0, 1, 0, 0, 1, 0, 0, 1, 1, 0, 1], ins := [.o 5 (.box 28), .o 9 (.box 69), .o 11 (.box 28), .o 12 (.sl 39), .v 37 .bool], fx := [(5, .box 0 0), (9, .box 1 0), (11, .box 2 0), (12, .c (.own 3))], ks := [1, 2, 1, 2], exs := [⟨.normal, [.u 1 (.box 69), .u 3 (.sl 39)], []⟩], keep := [2, 3, 5, 9, 10, 11, 12] }
def FzaN_2 (N : Nat) : PzaN_2.F := fun x => zaN_2 N x.2.1 x.2.2.1 x.2.2.2.1 x.2.2.2.2.1
theorem czaN_2 (N : Nat) : CC (X54 N) (bodyOf Try.f6) PzaN_2 (FzaN_2 N) := CC.of (cok54 N) (us := uzaN_1 N) (fun u h _ => okuzaN_1 N u h) (fun x => by kernel_rfl)
def uzaN_2 (N : Nat) : List (Pc D) := PzaN_2.pc (X54 N) (FzaN_2 N) :: uzaN_1 N
theorem okuzaN_2 (N : Nat) : ∀ u ∈ uzaN_2 N, PcOk (X54 N) (bodyOf Try.f6) u := pc_cons ((czaN_2 N).pc (by kernel_rfl)) (okuzaN_1 N)
def PzaN_3 : PD D := { path := [1, 1, 0, 1, 0, 0, 1, 0, 0, 1, 1, 1, 0, 1], ins := [.o 5 (.box 28), .o 9 (.box 69), .o 11 (.box 28), .o 12 (.sl 39), .v 98 .bool], fx := [(5, .box 0 0), (9, .box 1 0), (11, .box 2 0), (12, .c (.own 3))], ks := [1, 2, 2, 1], exs := [⟨.normal, [.u 1 (.box 69), .u 2 (.box 28)], []⟩], keep := [2, 3, 5, 9, 10, 11, 12] }
def FzaN_3 (N : Nat) : PzaN_3.F := fun x => zaN_3 N x.2.1 x.2.2.1 x.2.2.2.2.1
theorem czaN_3 (N : Nat) : CC (X54 N) (bodyOf Try.f6) PzaN_3 (FzaN_3 N) := CC.of (cok54 N) (us := uzaN_2 N) (fun u h _ => okuzaN_2 N u h) (fun x => by kernel_rfl)
def uzaN_3 (N : Nat) : List (Pc D) := PzaN_3.pc (X54 N) (FzaN_3 N) :: uzaN_2 N
theorem okuzaN_3 (N : Nat) : ∀ u ∈ uzaN_3 N, PcOk (X54 N) (bodyOf Try.f6) u := pc_cons ((czaN_3 N).pc (by kernel_rfl)) (okuzaN_2 N)
def PzaN_5 : PD D := { path := [1, 1, 0, 1, 0, 0, 1, 0, 0, 1, 1, 1, 1, 0, 1, 0, 1, 0], ins := [.o 5 (.box 28), .o 9 (.box 69), .o 11 (.box 28), .o 12 (.sl 39), .v 16 (.int .i64)], fx := [(5, .box 0 0), (9, .box 1 0), (11, .box 2 0), (12, .c (.own 3))], ks := [1, 1, 1, 2], exs := [⟨.exit 2, [.u 3 (.sl 39)], []⟩], keep := [2, 3, 5, 9, 10, 11, 12] }
def FzaN_5 (N n : Nat) : PzaN_5.F := fun x => zaN_5 N n x.2.2.2.1 x.2.2.2.2.1
theorem czaN_5 (N n : Nat) : CC (X54 N) (bodyOf Try.f6) PzaN_5 (FzaN_5 N n) := CC.loop (cok54 N) (us := uzaN_3 N) (c := sub (bodyOf Try.f6) [1, 1, 0, 1, 0, 0, 1, 0, 0, 1, 1, 1, 1, 0, 1, 0, 1, 0, 0]) (by kernel_rfl) (by kernel_rfl) (fun u h _ => okuzaN_3 N u h) (fun x => rfl) (fun n x => by kernel_rfl) n
def uzaN_5 (N : Nat) : List (Pc D) := PzaN_5.pc (X54 N) (FzaN_5 N N) :: uzaN_3 N
theorem okuzaN_5 (N : Nat) : ∀ u ∈ uzaN_5 N, PcOk (X54 N) (bodyOf Try.f6) u := pc_cons ((czaN_5 N N).pc (by kernel_rfl)) (okuzaN_3 N)
def PzaN_4 : PD D := { path := [1, 1, 0, 1, 0, 0, 1, 0, 0, 1, 1, 1, 1, 0, 1], ins := [.o 5 (.box 28), .o 9 (.box 69), .o 11 (.box 28), .o 12 (.sl 39), .v 103 .bool], fx := [(5, .box 0 0), (9, .box 1 0), (11, .box 2 0), (12, .c (.own 3))], ks := [1, 1, 1, 2], exs := [⟨.normal, [.u 3 (.sl 39)], []⟩], keep := [2, 3, 5, 9, 10, 11, 12] }
def FzaN_4 (N : Nat) : PzaN_4.F := fun x => zaN_4 N x.2.2.2.1 x.2.2.2.2.1
theorem czaN_4 (N : Nat) : CC (X54 N) (bodyOf Try.f6) PzaN_4 (FzaN_4 N) := CC.of (cok54 N) (us := uzaN_5 N) (fun u h _ => okuzaN_5 N u h) (fun x => by kernel_rfl)
def uzaN_4 (N : Nat) : List (Pc D) := PzaN_4.pc (X54 N) (FzaN_4 N) :: uzaN_5 N
theorem okuzaN_4 (N : Nat) : ∀ u ∈ uzaN_4 N, PcOk (X54 N) (bodyOf Try.f6) u := pc_cons ((czaN_4 N).pc (by kernel_rfl)) (okuzaN_5 N)
def PzaN_6 : PD D := { path := [1, 1, 0, 1, 0, 0, 1, 0, 0, 1, 1, 1, 1, 1, 0], ins := [.v 2 (.sl 39), .v 3 (.int .i64), .o 5 (.box 28), .o 9 (.box 69), .o 11 (.box 28), .o 12 (.sl 39)], fx := [(5, .box 0 0), (9, .box 1 0), (11, .box 2 0), (12, .c (.own 3))], ks := [1, 2, 1, 1], exs := [⟨.normal, [.u 1 (.box 69), .v 136 .bool], []⟩], keep := [2, 3, 5, 9, 10] }
def FzaN_6 (N : Nat) : PzaN_6.F := fun x => zaN_6 N x.1 x.2.1 x.2.2.2.1 x.2.2.2.2.1 x.2.2.2.2.2.1
theorem czaN_6 (N : Nat) : CC (X54 N) (bodyOf Try.f6) PzaN_6 (FzaN_6 N) := CC.of (cok54 N) (us := uzaN_4 N) (fun u h _ => okuzaN_4 N u h) (fun x => by kernel_rfl)
def uzaN_6 (N : Nat) : List (Pc D) := PzaN_6.pc (X54 N) (FzaN_6 N) :: uzaN_4 N
theorem okuzaN_6 (N : Nat) : ∀ u ∈ uzaN_6 N, PcOk (X54 N) (bodyOf Try.f6) u := pc_cons ((czaN_6 N).pc (by kernel_rfl)) (okuzaN_4 N)
def PzaN_0 : PD D := { path := [1, 1, 0, 1, 0], ins := [.v 2 (.sl 39), .v 3 (.int .i64), .o 5 (.box 28), .o 9 (.box 69), .v 10 (.int .i64)], fx := [(5, .box 0 0), (9, .box 1 0)], ks := [1, 0], exs := [⟨.exit 0, [], []⟩, ⟨.ret, [.v 8 .bool], []⟩], keep := [2, 3, 5] }
def FzaN_0 (N n : Nat) : PzaN_0.F := fun x => zaN_0 N x.1 x.2.1 n x.2.2.2.1 x.2.2.2.2.1
theorem czaN_0 (N n : Nat) : CC (X54 N) (bodyOf Try.f6) PzaN_0 (FzaN_0 N n) := CC.loop (cok54 N) (us := uzaN_6 N) (c := sub (bodyOf Try.f6) [1, 1, 0, 1, 0, 0]) (by kernel_rfl) (by kernel_rfl) (fun u h _ => okuzaN_6 N u h) (fun x => rfl) (fun n x => by kernel_rfl) n
def uzaN_0 (N : Nat) : List (Pc D) := PzaN_0.pc (X54 N) (FzaN_0 N N) :: uzaN_6 N
theorem okuzaN_0 (N : Nat) : ∀ u ∈ uzaN_0 N, PcOk (X54 N) (bodyOf Try.f6) u := pc_cons ((czaN_0 N N).pc (by kernel_rfl)) (okuzaN_6 N)
def PzaN_7 : PD D := { path := [1, 1, 1, 0, 0], ins := [.v 2 (.sl 39), .o 5 (.box 28)], fx := [(5, .box 0 0)], ks := [1], exs := [⟨.normal, [.v 157 .bool], []⟩], keep := [2, 3, 5] }
def FzaN_7 (N : Nat) : PzaN_7.F := fun x => zaN_7 N x.1 x.2.1
theorem czaN_7 (N : Nat) : CC (X54 N) (bodyOf Try.f6) PzaN_7 (FzaN_7 N) := CC.of (cok54 N) (us := uzaN_0 N) (fun u h _ => okuzaN_0 N u h) (fun x => by kernel_rfl)
def uzaN_7 (N : Nat) : List (Pc D) := PzaN_7.pc (X54 N) (FzaN_7 N) :: uzaN_0 N
theorem okuzaN_7 (N : Nat) : ∀ u ∈ uzaN_7 N, PcOk (X54 N) (bodyOf Try.f6) u := pc_cons ((czaN_7 N).pc (by kernel_rfl)) (okuzaN_0 N)
def PzaN_8 : PD D := { path := [1, 1, 1, 1, 0, 1, 0], ins := [.o 5 (.box 28), .v 17 (.int .i64)], fx := [(5, .box 0 0)], ks := [1], exs := [⟨.exit 4, [], []⟩, ⟨.ret, [.v 8 .bool], []⟩], keep := [2, 3, 5] }
def FzaN_8 (N n : Nat) : PzaN_8.F := fun x => zaN_8 N x.1 n x.2.1
theorem czaN_8 (N n : Nat) : CC (X54 N) (bodyOf Try.f6) PzaN_8 (FzaN_8 N n) := CC.loop (cok54 N) (us := uzaN_7 N) (c := sub (bodyOf Try.f6) [1, 1, 1, 1, 0, 1, 0, 0]) (by kernel_rfl) (by kernel_rfl) (fun u h _ => okuzaN_7 N u h) (fun x => rfl) (fun n x => by kernel_rfl) n
def uzaN_8 (N : Nat) : List (Pc D) := PzaN_8.pc (X54 N) (FzaN_8 N N) :: uzaN_7 N
theorem okuzaN_8 (N : Nat) : ∀ u ∈ uzaN_8 N, PcOk (X54 N) (bodyOf Try.f6) u := pc_cons ((czaN_8 N N).pc (by kernel_rfl)) (okuzaN_7 N)
def PzaN_9 : PD D := { path := [1, 1, 1, 1, 1, 0], ins := [.v 2 (.sl 39), .v 3 (.int .i64), .o 5 (.box 28)], fx := [(5, .box 0 0)], ks := [1], exs := [⟨.normal, [.v 8 .bool], []⟩], keep := [] }
def FzaN_9 (N : Nat) : PzaN_9.F := fun x => zaN_9 N x.1 x.2.1 x.2.2.1
theorem czaN_9 (N : Nat) : CC (X54 N) (bodyOf Try.f6) PzaN_9 (FzaN_9 N) := CC.of (cok54 N) (us := uzaN_8 N) (fun u h _ => okuzaN_8 N u h) (fun x => by kernel_rfl)
def uzaN_9 (N : Nat) : List (Pc D) := PzaN_9.pc (X54 N) (FzaN_9 N) :: uzaN_8 N
theorem okuzaN_9 (N : Nat) : ∀ u ∈ uzaN_9 N, PcOk (X54 N) (bodyOf Try.f6) u := pc_cons ((czaN_9 N).pc (by kernel_rfl)) (okuzaN_8 N)
def dzaN : FD D := { f := 6, np := 4, ins := [.v 0 (.sl 3), .v 1 (.agg 28), .v 2 (.sl 39), .v 3 (.int .i64)], fx := [], rcv := none, rk := 0, outs := [.v 8 .bool], ofx := [], rvs := [.tmp 8], flat := true }
def FzaN (N : Nat) : dzaN.F := fun r x => zaN N x.1 x.2.1 x.2.2.1 x.2.2.2.1
theorem ozaN (N : Nat) : FOk Try.prog (X54 N) dzaN (FzaN N) := ⟨⟨Try.f6, _, Try.func6, rfl, by kernel_rfl, by kernel_rfl, rfl, FC.of (cok54 N) (us := uzaN_9 N) (fun u h _ => okuzaN_9 N u h) (fun r x => by kernel_rfl)⟩, by kernel_rfl, by kernel_rfl, by kernel_rfl, by kernel_rfl⟩
def fs55 (N : Nat) : List (FE D) := ⟨dzaN, FzaN N⟩ :: fs54 N
theorem all55 (N : Nat) : ∀ y ∈ fs55 N, CallOk X0 y.d y.F := all_cons (x := ⟨dzaN, FzaN N⟩) (ozaN N) (all54 N)
def X55 (N : Nat) : Ev Try.prog D := X0.with (fs55 N)
theorem cok55 (N : Nat) : COk (X55 N) := COk.of (all55 N)
end
end Go.W
end
section
set_option linter.unusedVariables false
set_option linter.unusedSimpArgs false
namespace Go.W
open Go.AM
theorem w64 {n : Int} (h : -9223372036854775808 ≤ n) (h' : n ≤ 9223372036854775807) : IntKind.wrap .i64 n = n := by rw [IntKind.wrap_i64]; omega
theorem lt_def {α β : Type} (x : α) (f : α → Option β) : AM.lt x f = f x := rfl
theorem bind_some' {α β : Type} (x : α) (f : α → Option β) : Option.bind (some x) f = f x := rfl
theorem getI_ok {α : Type} {xs : List α} {i : Int} (h0 : 0 ≤ i) (h1 : i < xs.length) : ∃ x, getI xs i = some x ∧ x ∈ xs ∧ xs[i.toNat]? = some x := by
  have hlt : i.toNat < xs.length := by omega
  exact ⟨xs[i.toNat], by simp [getI, h0, hlt], by simp, by simp [hlt]⟩
def Mk (c : Int) (s : Maker) : Prop := 0 ≤ s.n ∧ s.n ≤ c
theorem next_ok (N : Nat) {c : Int} {s : Maker} (k : Int) (hk : 1 ≤ k) (hk2 : k ≤ 1000000) (hs : Mk c s) (hc : c ≤ 1000000000000) : ∃ r s', zbC N s k = some (r, s') ∧ 0 ≤ r ∧ r < k ∧ Mk (c + 1) s' := by
  obtain ⟨h0, h1⟩ := hs
  have h15 : ∃ y, zbC_0 N s 0 (decide (0 < (s.l.length : Int))) = some y := by
    unfold zbC_0
    by_cases hl : 0 < (s.l.length : Int)
    · rw [if_pos (by simpa using hl)]
      have hne : (s.l.length : Int) ≠ 0 := by omega
      have hm : modI s.n s.l.length = some (s.n.tmod s.l.length) := by unfold modI; rw [if_neg hne]
      have hd : divI s.n s.l.length = some (s.n.tdiv s.l.length) := by unfold divI; rw [if_neg hne]
      have hr0 : 0 ≤ s.n.tmod s.l.length := Int.tmod_nonneg _ h0
      have hr1 : s.n.tmod s.l.length < s.l.length := Int.tmod_lt_of_pos _ hl
      obtain ⟨x, hx, _, _⟩ := getI_ok hr0 hr1
      rw [hm, bind_some', hx, bind_some', hd, bind_some', lt_def]
      exact ⟨_, rfl⟩
    · rw [if_neg (by simpa using hl)]
      exact ⟨_, rfl⟩
  obtain ⟨y, hy⟩ := h15
  unfold zbC
  rw [hy, bind_some']
  have hm : modI y k = some (y.tmod k) := by simp [modI]; omega
  have hlt : y.tmod k < k := Int.tmod_lt_of_pos _ (by omega)
  have hgt : -k < y.tmod k := by
    have := Int.lt_tmod_of_pos y (by omega : 0 < k)
    omega
  have hn : IntKind.wrap .i64 (s.n + 1) = s.n + 1 := w64 (by omega) (by omega)
  simp only [hm, bind_some', hn]
  unfold zbC_1
  by_cases hneg : y.tmod k < 0
  · rw [if_pos (by simpa using hneg), lt_def, bind_some', w64 (by omega) (by omega)]
    exact ⟨_, _, rfl, by omega, by omega, by constructor <;> simp <;> omega⟩
  · rw [if_neg (by simpa using hneg), bind_some']
    exact ⟨_, _, rfl, by omega, by omega, by constructor <;> simp <;> omega⟩
theorem pick_ok (N : Nat) {c : Int} {s : Maker} (l : List Int) (hl : 1 ≤ l.length) (hl2 : l.length ≤ 1000) (hs : Mk c s) (hc : c ≤ 1000000000000) : ∃ x s', zbD N s l = some (x, s') ∧ x ∈ l ∧ Mk (c + 1) s' := by
  obtain ⟨r, s', h1, h2, h3, h4⟩ := next_ok N (s := s) (c := c) (l.length : Int) (by omega) (by omega) hs hc
  obtain ⟨x, hx, hm, _⟩ := getI_ok h2 h3
  unfold zbD
  rw [h1, bind_some']
  simp only [hx, bind_some']
  exact ⟨x, s', rfl, hm, h4⟩
end Go.W
end
section
set_option linter.unusedVariables false
set_option linter.unusedSimpArgs false
namespace Go.W
open Go.AM
theorem getI_nat {α : Type} {xs : List α} {i : Nat} {x : α} (h : xs[i]? = some x) : getI xs (i : Int) = some x := by simp [getI, h]
theorem at_lt {α : Type} {xs : List α} {i : Nat} (h : i < xs.length) : xs[i]? = some xs[i] := by simp [h]
theorem drop_at {α : Type} {xs : List α} {i : Nat} {x : α} (h : xs[i]? = some x) : xs.drop i = x :: xs.drop (i + 1) := by
  obtain ⟨hlt, rfl⟩ := List.getElem?_eq_some_iff.1 h
  exact List.drop_eq_getElem_cons hlt
theorem w64s {i : Nat} (h : i < 9223372036854775807) : IntKind.wrap .i64 ((i : Int) + 1) = ((i + 1 : Nat) : Int) := by rw [w64 (by omega) (by omega)]; omega
theorem w64p {i : Nat} (h : i < 9223372036854775807) : IntKind.wrap .i64 (((i + 1 : Nat) : Int) - 1) = (i : Int) := by rw [w64 (by omega) (by omega)]; omega
theorem appI_ok {α : Type} {xs ys : List α} (h : xs.length + ys.length ≤ 4294967296) : appI xs ys = some (xs ++ ys) := if_pos h
theorem cutI_drop {α : Type} {xs : List α} {i : Nat} (h : i ≤ xs.length) : cutI xs (i : Int) (xs.length : Int) = some (xs.drop i) := by
  unfold cutI; rw [if_pos (by omega)]; simp
theorem cutI_take {α : Type} {xs : List α} {i : Nat} (h : i ≤ xs.length) : cutI xs 0 (i : Int) = some (xs.take i) := by
  unfold cutI; rw [if_pos (by omega)]; simp
theorem Mk.le {c c' : Int} {s : Maker} (h : Mk c s) (hc : c ≤ c') : Mk c' s := ⟨h.1, Int.le_trans h.2 hc⟩
theorem mk0 (t : List Int) : Mk 0 (Maker.mk t 0) := ⟨by simp, by simp⟩
def res {α β : Type} (p : Nat → α → Bool) (out : Nat → α → β) : Nat → List α → Sum Unit β
  | _, [] => .inl ()
  | i, x :: xs => if p i x = true then .inr (out i x) else res p out (i + 1) xs
theorem first_gen {α β : Type} {l : List α} (p : Nat → α → Bool) (out : Nat → α → β) (F : Nat → Int → Option (Sum Unit β)) (h0 : ∀ n, F (n + 1) (l.length : Int) = some (.inl ()))
    (h1 : ∀ (n i : Nat) (x : α), l[i]? = some x → F (n + 1) (i : Int) = if p i x = true then some (.inr (out i x)) else F n ((i + 1 : Nat) : Int)) : ∀ (k n i : Nat), k < n → i + k = l.length → F n (i : Int) = some (res p out i (l.drop i))
  | k, 0, i, hn, _ => by omega
  | 0, n + 1, i, hn, hi => by
    obtain rfl : i = l.length := by omega
    rw [h0, List.drop_length, res]
  | k + 1, n + 1, i, hn, hi => by
    have hlt : i < l.length := by omega
    rw [h1 n i _ (at_lt hlt), drop_at (at_lt hlt), res]
    split
    · rfl
    · exact first_gen p out F h0 h1 k n (i + 1) (by omega) (by omega)
def firstI {α : Type} (p : Nat → α → Bool) : Nat → List α → Int
  | _, [] => -1
  | i, x :: xs => if p i x = true then (i : Int) else firstI p (i + 1) xs
theorem res_first {α : Type} (p : Nat → α → Bool) : ∀ (l : List α) (i : Nat), res p (fun i _ => (i : Int)) i l = .inl () ∧ firstI p i l = -1 ∨ res p (fun i _ => (i : Int)) i l = .inr (firstI p i l) ∧ 0 ≤ firstI p i l
  | [], i => .inl ⟨rfl, rfl⟩
  | x :: xs, i => by
    rw [res, firstI]
    by_cases h : p i x = true
    · rw [if_pos h, if_pos h]; exact .inr ⟨rfl, by omega⟩
    · rw [if_neg h, if_neg h]; exact res_first p xs (i + 1)
theorem firstI_spec {α : Type} (p : Nat → α → Bool) : ∀ (l : List α) (i : Nat), (firstI p i l = -1 ∧ ∀ (j : Nat) (x : α), l[j]? = some x → p (i + j) x = false) ∨
    ∃ (j : Nat) (x : α), firstI p i l = ((i + j : Nat) : Int) ∧ l[j]? = some x ∧ p (i + j) x = true ∧ ∀ (j' : Nat) (y : α), j' < j → l[j']? = some y → p (i + j') y = false
  | [], i => .inl ⟨rfl, fun j x h => by simp at h⟩
  | x :: xs, i => by
    rw [firstI]
    by_cases h : p i x = true
    · rw [if_pos h]
      exact .inr ⟨0, x, by simp, by simp, by simpa using h, fun j' y hj => by omega⟩
    · rw [if_neg h]
      have h' : p i x = false := by simpa using h
      rcases firstI_spec p xs (i + 1) with ⟨h1, h2⟩ | ⟨j, y, h1, h2, h3, h4⟩
      · refine .inl ⟨h1, fun j y hj => ?_⟩
        cases j with
        | zero => simp at hj; subst hj; exact h'
        | succ j => have := h2 j y (by simpa using hj); rwa [show i + 1 + j = i + (j + 1) by omega] at this
      · refine .inr ⟨j + 1, y, by rw [h1]; omega, by simpa using h2, by rwa [show i + 1 + j = i + (j + 1) by omega] at h3, fun j' z hj hz => ?_⟩
        cases j' with
        | zero => simp at hz; subst hz; exact h'
        | succ j' => have := h4 j' z (by omega) (by simpa using hz); rwa [show i + 1 + j' = i + (j' + 1) by omega] at this
end Go.W
end
section
set_option linter.unusedVariables false
set_option linter.unusedSimpArgs false
namespace Go.W
open Go.AM
def posD (ts : List (List Int)) (t p : Nat) : Option Int := (ts[t]?).bind fun l => l[p]?
def totD (ts : List (List Int)) (t : Nat) : Nat := ((ts.take t).map List.length).sum
structure TkOk (ts : List (List Int)) (n : Nat) : Prop where
  rg : ∀ t p i, posD ts t p = some i → 0 ≤ i ∧ i < n
  inj : ∀ t p t' p' i, posD ts t p = some i → posD ts t' p' = some i → t = t' ∧ p = p'
  all : ∀ x, x < n → ∃ t p, posD ts t p = some (x : Int)
  tot : totD ts ts.length = n
structure DOk (d : Disorder) : Prop where
  li : d.items.length ≤ 96
  lh : d.homes.length ≤ 16
  lt : d.tracks.length ≤ 24
  hm : ∀ h ∈ d.homes, 0 ≤ h ∧ h < d.tracks.length
  hd : d.homes.Nodup
  it : ∀ x ∈ d.items, 0 ≤ x.train ∧ x.train < d.homes.length ∧ 0 ≤ x.block ∧ x.block < 32 ∧ x.round = 0 ∧ 1 ≤ x.length ∧ x.length ≤ 400
  tk : TkOk d.tracks d.items.length
theorem tot_succ {ts : List (List Int)} {t : Nat} {l : List Int} (h : ts[t]? = some l) : totD ts (t + 1) = totD ts t + l.length := by
  unfold totD
  rw [List.take_add_one, h]
  simp
theorem tot_le {ts : List (List Int)} : ∀ (k t : Nat), totD ts t ≤ totD ts (t + k)
  | 0, t => Nat.le_refl _
  | k + 1, t => by
    have h1 := tot_le (ts := ts) k t
    cases hl : ts[t + k]? with
    | some l => have := tot_succ hl; rw [show t + (k + 1) = t + k + 1 by omega]; omega
    | none =>
      have : totD ts (t + k + 1) = totD ts (t + k) := by
        unfold totD
        rw [List.take_add_one, hl]; simp
      rw [show t + (k + 1) = t + k + 1 by omega]; omega
theorem tot_all (ts : List (List Int)) : totD ts ts.length = (ts.map List.length).sum := by unfold totD; rw [List.take_of_length_le (Nat.le_refl _)]
theorem tot_set {l : List Int} {x : Int} : ∀ {ts : List (List Int)} {t : Nat}, ts[t]? = some l → totD (ts.set t (l ++ [x])) (ts.set t (l ++ [x])).length = totD ts ts.length + 1 := by
  intro ts
  induction ts with
  | nil => intro t h; simp at h
  | cons a ts ih =>
    intro t h
    rw [tot_all, tot_all]
    cases t with
    | zero => simp at h; subst h; simp; omega
    | succ t =>
      have := ih (t := t) (by simpa using h)
      rw [tot_all, tot_all] at this
      simp only [List.set_cons_succ, List.map_cons, List.sum_cons]
      rw [this]; omega
theorem pos_set {ts : List (List Int)} {l : List Int} {x : Int} {t : Nat} (h : ts[t]? = some l) (t' p' : Nat) : posD (ts.set t (l ++ [x])) t' p' = if t' = t ∧ p' = l.length then some x else posD ts t' p' := by
  have hlt := (List.getElem?_eq_some_iff.1 h).1
  unfold posD
  by_cases ht : t' = t
  · subst ht
    rw [List.getElem?_set_self hlt, h]
    simp only [Option.bind_some, true_and]
    by_cases hp : p' < l.length
    · rw [List.getElem?_append_left hp, if_neg (by omega)]
    · rw [List.getElem?_append_right (by omega)]
      by_cases hp2 : p' = l.length
      · subst hp2; simp
      · rw [if_neg hp2, List.getElem?_eq_none (by simp; omega), List.getElem?_eq_none (by omega)]
  · rw [List.getElem?_set_ne (fun e => ht e.symm), if_neg (fun e => ht e.1)]
theorem TkOk.add {ts : List (List Int)} {n t : Nat} {l : List Int} (h : TkOk ts n) (hl : ts[t]? = some l) : TkOk (ts.set t (l ++ [(n : Int)])) (n + 1) where
  rg := fun t' p' i hi => by
    rw [pos_set hl] at hi
    split at hi
    · cases hi; omega
    · have := h.rg _ _ _ hi; omega
  inj := fun t1 p1 t2 p2 i h1 h2 => by
    rw [pos_set hl] at h1 h2
    split at h1
    · cases h1
      split at h2
      · omega
      · have := h.rg _ _ _ h2; omega
    · split at h2
      · cases h2
        have := h.rg _ _ _ h1; omega
      · exact h.inj _ _ _ _ _ h1 h2
  all := fun x hx => by
    by_cases hxn : x = n
    · subst hxn
      exact ⟨t, l.length, by rw [pos_set hl, if_pos ⟨rfl, rfl⟩]⟩
    · obtain ⟨t', p', h'⟩ := h.all x (by omega)
      refine ⟨t', p', ?_⟩
      rw [pos_set hl]
      split
      · rename_i hh
        obtain ⟨rfl, rfl⟩ := hh
        unfold posD at h'
        rw [hl] at h'
        simp at h'
      · exact h'
  tot := by rw [tot_set hl, h.tot]
theorem tk_nil (k : Nat) : TkOk (List.replicate k []) 0 where
  rg := fun t p i h => by
    unfold posD at h
    rw [List.getElem?_replicate] at h
    split at h <;> simp at h
  inj := fun t p t' p' i h => by
    unfold posD at h
    rw [List.getElem?_replicate] at h
    split at h <;> simp at h
  all := fun x hx => by omega
  tot := by rw [tot_all]; simp
theorem mkI_ok {α : Type} {x : α} {n : Int} (h0 : 0 ≤ n) (h1 : n ≤ 4294967296) : mkI x n = some (List.replicate n.toNat x) := by
  unfold mkI; rw [if_pos (by constructor <;> assumption)]
theorem dis0 (N : Nat) (x6 : Int) (h6 : 0 ≤ x6 ∧ x6 ≤ 16) (d : Disorder) (ts : List (List Int)) : ∀ (k n : Nat) (hs : List Int), k < n → (hs.length : Int) + k = x6 → (∀ (i : Nat) (h : Int), hs[i]? = some h → h = i) →
    ∃ d' hs', zaK_0 N x6 n d hs ts = some (d', hs', ts) ∧ (hs'.length : Int) = x6 ∧ ∀ (i : Nat) (h : Int), hs'[i]? = some h → h = i
  | k, 0, hs, h, _, _ => by omega
  | 0, n + 1, hs, h, hl, hi => by
    unfold zaK_0
    rw [if_neg (by simp; omega)]
    exact ⟨_, hs, rfl, by omega, hi⟩
  | k + 1, n + 1, hs, h, hl, hi => by
    unfold zaK_0
    rw [if_pos (by simp; omega), appI_ok (by simp; omega), bind_some']
    obtain ⟨d', hs', g1, g2, g3⟩ := dis0 N x6 h6 (Disorder.mk [] [] []) ts k n (hs ++ [(hs.length : Int)]) (by omega) (by simp; omega) (fun i h' hh => by
      by_cases hlt : i < hs.length
      · rw [List.getElem?_append_left hlt] at hh; exact hi i h' hh
      · rw [List.getElem?_append_right (by omega)] at hh
        have := (List.getElem?_eq_some_iff.1 hh).1
        simp at this
        have : i = hs.length := by omega
        subst this
        simp at hh
        exact hh.symm)
    exact ⟨d', hs', g1, g2, g3⟩
theorem dis2 (N : Nat) (x5 x6 : Int) (h5 : 2 ≤ x5 ∧ x5 ≤ 5) (h6 : 0 ≤ x6 ∧ x6 ≤ x5) (ts : List (List Int)) : ∀ (k n i : Nat) (hs : List Int), k < n → (i : Int) + k = x6 → (hs.length : Int) = x6 → (∀ (j : Nat) (h : Int), hs[j]? = some h → h = if j < i then x5 - 1 - j else j) →
    ∃ hs', zaK_2 N x5 x6 n i hs ts = some (hs', ts) ∧ (hs'.length : Int) = x6 ∧ ∀ (j : Nat) (h : Int), hs'[j]? = some h → h = x5 - 1 - j
  | k, 0, i, hs, h, _, _, _ => by omega
  | 0, n + 1, i, hs, h, hk, hl, hi => by
    unfold zaK_2
    rw [if_neg (by simp; omega)]
    refine ⟨hs, rfl, hl, fun j h' hh => ?_⟩
    have := (List.getElem?_eq_some_iff.1 hh).1
    rw [hi j h' hh, if_pos (by omega)]
  | k + 1, n + 1, i, hs, h, hk, hl, hi => by
    unfold zaK_2
    have hlt : i < hs.length := by omega
    rw [if_pos (by simp; omega), getI_nat (at_lt hlt), bind_some', bind_some', lt_def, lt_def, w64s (by omega), w64 (n := x5 - 1) (by omega) (by omega), w64 (n := x5 - 1 - i) (by omega) (by omega)]
    refine dis2 N x5 x6 h5 h6 ts k n (i + 1) _ (by omega) (by omega) (by simp; omega) fun j h' hh => ?_
    rw [Int.toNat_natCast, List.getElem?_set] at hh
    by_cases hij : i = j
    · subst hij
      rw [if_pos rfl, if_pos hlt] at hh
      cases hh
      rw [if_pos (by omega)]
    · rw [if_neg hij] at hh
      rw [hi j h' hh]
      by_cases hj : j < i
      · rw [if_pos hj, if_pos (by omega)]
      · rw [if_neg hj, if_neg (by omega)]
structure HmOk (hs : List Int) (nt : Nat) : Prop where
  len : 1 ≤ hs.length ∧ hs.length ≤ 3
  rg : ∀ h ∈ hs, 0 ≤ h ∧ h < nt
  nd : hs.Nodup
theorem hm_of {hs : List Int} {nt : Nat} (hl : 1 ≤ hs.length ∧ hs.length ≤ 3) (f : Nat → Int) (hf : ∀ (j : Nat) (h : Int), hs[j]? = some h → h = f j) (hr : ∀ j, j < hs.length → 0 ≤ f j ∧ f j < nt) (hi : ∀ i j, i < hs.length → j < hs.length → f i = f j → i = j) : HmOk hs nt where
  len := hl
  rg := fun h hh => by
    obtain ⟨j, hj, he⟩ := List.mem_iff_getElem.1 hh
    have := hf j h (by rw [List.getElem?_eq_getElem hj, he])
    rw [this]; exact hr j hj
  nd := List.pairwise_iff_getElem.2 fun i j hi' hj hij hh => by
    have h1 := hf i _ (at_lt hi')
    have h2 := hf j _ (at_lt hj)
    have := hi i j hi' hj (by rw [← h1, ← h2, hh])
    omega
structure DI (c : Int) (hs : List Int) (nt : Nat) (k : Maker) (its : List Item) (ts : List (List Int)) (bl : List Int) : Prop where
  mkr : Mk c k
  tk : TkOk ts its.length
  tl : ts.length = nt
  it : ∀ x ∈ its, 0 ≤ x.train ∧ x.train < hs.length ∧ 0 ≤ x.block ∧ x.block < 32 ∧ x.round = 0 ∧ 1 ≤ x.length ∧ x.length ≤ 400
  bll : bl.length = hs.length
  br : ∀ b ∈ bl, 0 ≤ b ∧ b ≤ 31
theorem mem_set {α : Type} {l : List α} {i : Nat} {a b : α} (h : b ∈ l.set i a) : b = a ∨ b ∈ l := by
  have := List.mem_or_eq_of_mem_set h
  exact this.symm
theorem dis3 (N : Nat) {hs : List Int} {nt : Nat} (hH : HmOk hs nt) (hnt : 2 ≤ nt ∧ nt ≤ 5) (x9 : Int) (C : Int) (hC : C ≤ 1000000) : ∀ (k n : Nat) (c : Int) (kk : Maker) (d : Disorder) (bl : List Int) (its : List Item) (ts : List (List Int)), k < n → c + 8 * k ≤ C → its.length + k ≤ 96 → DI c hs nt kk its ts bl →
    ∃ kk' d' its' ts', zaK_3 N nt hs.length x9 hs n kk d bl k its ts = some (kk', d', its', ts') ∧ Mk C kk' ∧ TkOk ts' its'.length ∧ ts'.length = nt ∧ its'.length ≤ its.length + k ∧ ∀ x ∈ its', 0 ≤ x.train ∧ x.train < hs.length ∧ 0 ≤ x.block ∧ x.block < 32 ∧ x.round = 0 ∧ 1 ≤ x.length ∧ x.length ≤ 400
  | k, 0, c, kk, d, bl, its, ts, h, _, _, _ => by omega
  | 0, n + 1, c, kk, d, bl, its, ts, h, hc, hi, hD => by
    unfold zaK_3
    rw [if_neg (by simp)]
    exact ⟨kk, _, its, ts, rfl, hD.mkr.le (by omega), hD.tk, hD.tl, by omega, hD.it⟩
  | k + 1, n + 1, c, kk, d, bl, its, ts, h, hc, hi, hD => by
    unfold zaK_3
    rw [if_pos (by simp)]
    obtain ⟨t1, k1, e1, b1, b2, m1⟩ := next_ok N (hs.length : Int) (by have := hH.len; omega) (by have := hH.len; omega) hD.mkr (by omega)
    rw [e1, bind_some']
    obtain ⟨t2, k2, e2, c1, c2, m2⟩ := next_ok N 4 (by omega) (by omega) m1 (by omega)
    simp only [e2, bind_some']
    obtain ⟨t3, k3, e3, d1, m3⟩ := pick_ok N [80, 142, 262] (by simp) (by simp) m2 (by omega)
    simp only [e3, bind_some']
    obtain ⟨j1, rfl⟩ := Int.eq_ofNat_of_zero_le b1
    have hj1 : j1 < hs.length := by omega
    have hb1 : j1 < bl.length := by rw [hD.bll]; exact hj1
    have hhome := hH.rg _ (List.getElem_mem hj1)
    rw [getI_nat (at_lt hj1), bind_some', bind_some']
    have p4 : ∃ k4 b4, zaK_4 N k3 x9 = some (k4, b4) ∧ Mk (c + 4) k4 := by
      unfold zaK_4
      split
      · obtain ⟨t, k', e, _, _, m⟩ := next_ok N 5 (by omega) (by omega) m3 (by omega)
        rw [e, bind_some']
        exact ⟨_, _, rfl, m.le (by omega)⟩
      · exact ⟨_, _, rfl, m3.le (by omega)⟩
    obtain ⟨k4, b4, e4, m4⟩ := p4
    simp only [e4, bind_some']
    have hlen : 1 ≤ t3 ∧ t3 ≤ 400 := by simp at d1; omega
    have p5 : ∃ k5 bl5 it5, zaK_5 N k4 bl (j1 : Int) (Item.mk j1 t2 0 t3) b4 = some (k5, bl5, it5) ∧ Mk (c + 5) k5 ∧ bl5.length = hs.length ∧ (∀ b ∈ bl5, 0 ≤ b ∧ b ≤ 31) ∧ (0 ≤ it5.train ∧ it5.train < hs.length ∧ 0 ≤ it5.block ∧ it5.block < 32 ∧ it5.round = 0 ∧ 1 ≤ it5.length ∧ it5.length ≤ 400) := by
      unfold zaK_5
      split
      · have hb := hD.br _ (List.getElem_mem hb1)
        rw [getI_nat (at_lt hb1), bind_some', bind_some']
        obtain ⟨t, k', e, q1, q2, m⟩ := next_ok N 2 (by omega) (by omega) m4 (by omega)
        simp only [e, bind_some', lt_def]
        have hw : IntKind.wrap .i64 (bl[j1] + t) = bl[j1] + t := w64 (by omega) (by omega)
        rw [hw]
        refine ⟨_, _, _, rfl, m.le (by omega), by simp [hD.bll], fun b hb' => ?_, ?_⟩
        · rcases mem_set hb' with rfl | hb'
          · omega
          · exact hD.br b hb'
        · simp only
          refine ⟨by omega, by omega, by omega, by omega, trivial, hlen⟩
      · exact ⟨_, _, _, rfl, m4.le (by omega), hD.bll, hD.br, by simp only; exact ⟨by omega, by omega, by omega, by omega, trivial, hlen⟩⟩
    obtain ⟨k5, bl5, it5, e5, m5, l5, r5, v5⟩ := p5
    simp only [e5, bind_some']
    have p6 : ∃ k6 b6, zaK_6 N k5 x9 = some (k6, b6) ∧ Mk (c + 6) k6 := by
      unfold zaK_6
      split
      · obtain ⟨t, k', e, _, _, m⟩ := next_ok N 4 (by omega) (by omega) m5 (by omega)
        rw [e, bind_some']
        exact ⟨_, _, rfl, m.le (by omega)⟩
      · exact ⟨_, _, rfl, m5.le (by omega)⟩
    obtain ⟨k6, b6, e6, m6⟩ := p6
    simp only [e6, bind_some']
    have p7 : ∃ k7 on, zaK_7 N k6 (nt : Int) hs[j1] b6 = some (k7, on) ∧ Mk (c + 7) k7 ∧ 0 ≤ on ∧ on < nt := by
      unfold zaK_7
      split
      · obtain ⟨t, k', e, q1, q2, m⟩ := next_ok N (nt : Int) (by omega) (by omega) m6 (by omega)
        rw [e, bind_some']
        exact ⟨_, _, rfl, m.le (by omega), q1, q2⟩
      · exact ⟨_, _, rfl, m6.le (by omega), hhome⟩
    obtain ⟨k7, on, e7, m7, o1, o2⟩ := p7
    simp only [e7, bind_some']
    obtain ⟨j2, rfl⟩ := Int.eq_ofNat_of_zero_le o1
    have hj2 : j2 < ts.length := by rw [hD.tl]; omega
    have hl2 := at_lt hj2
    have hlen2 : (ts[j2]).length ≤ 96 := by
      have h1 := tot_succ hl2
      have h2 := tot_le (ts := ts) (ts.length - (j2 + 1)) (j2 + 1)
      rw [show j2 + 1 + (ts.length - (j2 + 1)) = ts.length by omega, hD.tk.tot] at h2
      omega
    rw [getI_nat hl2, bind_some', bind_some', appI_ok (by simp; omega), bind_some', bind_some', if_pos trivial, bind_some', appI_ok (by simp; omega), bind_some', lt_def, w64p (by omega), Int.toNat_natCast]
    obtain ⟨kk', d', its', ts', g1, g2, g3, g4, g5, g6⟩ := dis3 N hH hnt x9 C hC k n (c + 8) k7 (Disorder.mk [] [] []) bl5 (its ++ [it5]) (ts.set j2 (ts[j2] ++ [(its.length : Int)])) (by omega) (by omega) (by simp; omega)
      ⟨m7.le (by omega), by rw [List.length_append]; exact hD.tk.add hl2, by simp [hD.tl], fun x hx => by
        rcases List.mem_append.1 hx with hx | hx
        · exact hD.it x hx
        · simp at hx; subst hx; exact v5, l5, r5⟩
    exact ⟨kk', d', its', ts', g1, g2, g3, g4, by simp at g5; omega, g6⟩
theorem made_dis2 (N : Nat) (hN : 100 ≤ N) {c : Int} (hc : c ≤ 100000) {s : Maker} (hs : Mk c s) (n : Int) (hn : 0 ≤ n ∧ n ≤ 90) : ∃ d s', zaK N s n = some (d, s') ∧ DOk d ∧ Mk (c + 1000) s' ∧ (d.items.length : Int) ≤ n ∧ 1 ≤ d.homes.length ∧ 1 ≤ d.tracks.length := by
  unfold zaK
  obtain ⟨r1, k1, e1, a1, a2, m1⟩ := next_ok N 4 (by omega) (by omega) hs (by omega)
  rw [e1, bind_some', lt_def]
  simp only
  rw [w64 (n := 2 + r1) (by omega) (by omega), mkI_ok (by omega) (by omega), bind_some']
  obtain ⟨r2, k2, e2, b1, b2, m2⟩ := next_ok N (min 3 (2 + r1)) (by omega) (by omega) m1 (by omega)
  rw [e2, bind_some', lt_def]
  simp only
  rw [w64 (n := 1 + r2) (by omega) (by omega)]
  obtain ⟨d0, hs0, f1, f2, f3⟩ := dis0 N (1 + r2) (by omega) (Disorder.mk [] [] []) (List.replicate (2 + r1).toNat []) (1 + r2).toNat N [] (by omega) (by simp; omega) (by simp)
  rw [f1, bind_some']
  obtain ⟨r3, k3, e3, c1, c2, m3⟩ := next_ok N 2 (by omega) (by omega) m2 (by omega)
  simp only [e3, bind_some']
  obtain ⟨nt, hnt⟩ := Int.eq_ofNat_of_zero_le (show 0 ≤ 2 + r1 by omega)
  have p1 : ∃ hs1, zaK_1 N (2 + r1) (1 + r2) (r3 == 0) hs0 (List.replicate (2 + r1).toNat []) = some (hs1, List.replicate (2 + r1).toNat []) ∧ (hs1.length : Int) = 1 + r2 ∧ HmOk hs1 nt := by
    unfold zaK_1
    split
    · obtain ⟨hs', g1, g2, g3⟩ := dis2 N (2 + r1) (1 + r2) (by omega) (by omega) (List.replicate (2 + r1).toNat []) (1 + r2).toNat N 0 hs0 (by omega) (by omega) f2 (fun j h hh => by rw [if_neg (by omega)]; exact f3 j h hh)
      have g1 : zaK_2 N (2 + r1) (1 + r2) N 0 hs0 (List.replicate (2 + r1).toNat []) = _ := g1
      rw [g1, bind_some']
      exact ⟨hs', rfl, g2, hm_of (by omega) _ g3 (fun j hj => by omega) (fun i j _ _ h => by omega)⟩
    · exact ⟨hs0, rfl, f2, hm_of (by omega) (fun j => j) f3 (fun j hj => by omega) (fun i j _ _ h => by omega)⟩
  obtain ⟨hs1, q1, q2, hH⟩ := p1
  rw [q1, bind_some']
  obtain ⟨r4, k4, e4, _, _, m4⟩ := next_ok N 3 (by omega) (by omega) m3 (by omega)
  simp only [e4, bind_some']
  rw [mkI_ok (by omega) (by omega), bind_some', w64 (n := n + 1) (by omega) (by omega)]
  obtain ⟨r5, k5, e5, i1, i2, m5⟩ := next_ok N (n + 1) (by omega) (by omega) m4 (by omega)
  simp only [e5, bind_some']
  obtain ⟨j5, rfl⟩ := Int.eq_ofNat_of_zero_le i1
  obtain ⟨kk', d', its', ts', g1, g2, g3, g4, g5, g6⟩ := dis3 N hH (by omega) r4 (c + 1000) (by omega) j5 N (c + 1 + 1 + 1 + 1 + 1) k5 (Disorder.mk [] [] []) (List.replicate (1 + r2).toNat 0) [] (List.replicate (2 + r1).toNat []) (by omega) (by omega) (by simp; omega)
    ⟨m5, tk_nil _, by simp; omega, by simp, by simp; omega, fun b hb => by have := List.eq_of_mem_replicate hb; omega⟩
  rw [hnt, ← q2] at g1
  rw [hnt, ← q2, g1, bind_some']
  refine ⟨_, _, rfl, ⟨by simp at g5 ⊢; omega, by have := hH.len; simp; omega, by simp; omega, fun h hh => ?_, hH.nd, g6, ?_⟩, g2, by simp at g5 ⊢; omega, hH.len.1, by simp; omega⟩
  · have := hH.rg h hh; simp; omega
  · simpa using g3
end Go.W
end
section
set_option linter.unusedVariables false
set_option linter.unusedSimpArgs false
namespace Go.W
open Go.AM
theorem idx_ok (N : Nat) (xs : List Int) (v : Int) (hN : xs.length < N) (hx : xs.length < 1000) : zaF N xs v = some (firstI (fun _ x => v == x) 0 xs) := by
  unfold zaF
  have h := first_gen (l := xs) (fun _ x => v == x) (fun i _ => (i : Int)) (zaF_0 N xs v (xs.length : Int)) (fun n => by unfold zaF_0; rw [if_neg (by simp)]) (fun n i x hx' => by
    have hi := (List.getElem?_eq_some_iff.1 hx').1
    rw [zaF_0, if_pos (by simp; omega), getI_nat hx', bind_some', w64s (by omega)]) xs.length N 0 hN (by omega)
  have h : zaF_0 N xs v (xs.length : Int) N 0 = _ := h
  rw [h, bind_some', List.drop_zero]
  rcases res_first (fun (_ : Nat) x => v == x) xs 0 with ⟨h1, h2⟩ | ⟨h1, h2⟩
  · rw [h1, h2]
  · rw [h1]
theorem con_ok (N : Nat) (xs : List Int) (v : Int) (hN : xs.length < N) (hx : xs.length < 1000) : zaC N xs v = some (decide (v ∈ xs)) := by
  unfold zaC
  rw [idx_ok N xs v hN hx, bind_some', lt_def]
  congr 1
  rcases firstI_spec (fun _ x => v == x) xs 0 with ⟨h1, h2⟩ | ⟨j, x, h1, h2, h3, h4⟩
  · rw [h1]
    symm
    rw [show (decide ((0 : Int) ≤ -1)) = false from rfl, decide_eq_false_iff_not]
    intro hm
    obtain ⟨j, hj, he⟩ := List.mem_iff_getElem.1 hm
    have := h2 j v (by rw [List.getElem?_eq_getElem hj, he])
    simp at this
  · rw [h1, decide_eq_true (by omega)]
    symm
    rw [decide_eq_true_iff]
    have : v = x := by simpa using h3
    rw [this]; exact List.mem_of_getElem? h2
structure AtOk (d : Disorder) (at' : List Spot) : Prop where
  len : at'.length = d.items.length
  ps : ∀ (t p x : Nat), posD d.tracks t p = some (x : Int) → at'[x]? = some (Spot.mk t p)
structure SpI (ts : List (List Int)) (n t j : Nat) (at' : List Spot) (seen : List Bool) : Prop where
  l1 : at'.length = n
  l2 : seen.length = n
  ps : ∀ (t' p x : Nat), posD ts t' p = some (x : Int) → (t' < t ∨ (t' = t ∧ p < j)) → at'[x]? = some (Spot.mk t' p)
  sn : ∀ (x : Nat), seen[x]? = some true → ∃ t' p, posD ts t' p = some (x : Int) ∧ (t' < t ∨ (t' = t ∧ p < j))
theorem SpI.step {ts : List (List Int)} {n t j : Nat} {at' : List Spot} {seen : List Bool} (h : SpI ts n t j at' seen) (hT : TkOk ts n) {x : Nat} (hx : posD ts t j = some (x : Int)) : seen[x]? = some false ∧ SpI ts n t (j + 1) (at'.set x (Spot.mk t j)) (seen.set x true) := by
  have hr := hT.rg _ _ _ hx
  have hxn : x < seen.length := by rw [h.l2]; omega
  refine ⟨?_, ⟨by simp [h.l1], by simp [h.l2], fun t' p y hy hlt => ?_, fun y hy => ?_⟩⟩
  · rw [at_lt hxn]
    cases hs : seen[x] with
    | false => rfl
    | true =>
      obtain ⟨t', p, h1, h2⟩ := h.sn x (by rw [at_lt hxn, hs])
      have := hT.inj _ _ _ _ _ hx h1
      omega
  · rw [List.getElem?_set]
    by_cases hxy : x = y
    · subst hxy
      obtain ⟨rfl, rfl⟩ := hT.inj _ _ _ _ _ hx hy
      rw [if_pos rfl, if_pos (by rw [h.l1]; omega)]
    · rw [if_neg hxy]
      refine h.ps t' p y hy ?_
      rcases hlt with hlt | ⟨rfl, hlt⟩
      · exact .inl hlt
      · by_cases hpj : p = j
        · subst hpj; rw [hx] at hy; cases hy; exact absurd rfl hxy
        · exact .inr ⟨rfl, by omega⟩
  · rw [List.getElem?_set] at hy
    by_cases hxy : x = y
    · subst hxy
      exact ⟨t, j, hx, .inr ⟨rfl, by omega⟩⟩
    · rw [if_neg hxy] at hy
      obtain ⟨t', p, h1, h2⟩ := h.sn y hy
      exact ⟨t', p, h1, by omega⟩
theorem spots1 (N : Nat) {ts : List (List Int)} {n t : Nat} {l : List Int} (hT : TkOk ts n) (hl : ts[t]? = some l) (hn : n ≤ 1000) (hll : l.length ≤ 1000) : ∀ (k m j : Nat) (at' : List Spot) (seen : List Bool) (c : Nat), k < m → j + k = l.length → c + k ≤ 1000 → SpI ts n t j at' seen →
    ∃ at2 seen2, zaW_1 N (t : Int) l (l.length : Int) m at' seen (c : Int) (j : Int) = some (.inl (at2, seen2, ((c + k : Nat) : Int))) ∧ SpI ts n t l.length at2 seen2
  | k, 0, j, at', seen, c, h, _, _, _ => by omega
  | 0, m + 1, j, at', seen, c, h, hj, hc, hI => by
    unfold zaW_1
    rw [if_neg (by simp; omega)]
    exact ⟨at', seen, rfl, by rw [show l.length = j by omega]; exact hI⟩
  | k + 1, m + 1, j, at', seen, c, h, hj, hc, hI => by
    unfold zaW_1
    have hlt : j < l.length := by omega
    have hp : posD ts t j = some l[j] := by unfold posD; rw [hl]; exact at_lt hlt
    obtain ⟨r0, r1⟩ := hT.rg _ _ _ hp
    obtain ⟨x, hx⟩ := Int.eq_ofNat_of_zero_le r0
    rw [hx] at hp r1
    obtain ⟨s1, s2⟩ := hI.step hT hp
    have hxa : x < at'.length := by rw [hI.l1]; omega
    have h2 : zaW_2 N at' seen (x : Int) = some false := by
      unfold zaW_2
      rw [if_neg (by simp), if_neg (by simp; omega), getI_nat s1, bind_some', bind_some']
    rw [if_pos (by simp; omega), getI_nat (at_lt hlt), bind_some', hx, h2, bind_some', if_neg (by simp), getI_nat (at_lt hxa), bind_some', bind_some', lt_def, getI_nat s1, bind_some', bind_some', lt_def, lt_def, Int.toNat_natCast, w64s (by omega), w64s (by omega)]
    obtain ⟨a2, b2, g1, g2⟩ := spots1 N hT hl hn hll k m (j + 1) _ _ (c + 1) (by omega) (by omega) (by omega) s2
    exact ⟨a2, b2, by rw [g1, show c + 1 + k = c + (k + 1) by omega], g2⟩
theorem SpI.next {ts : List (List Int)} {n t : Nat} {l : List Int} {at' : List Spot} {seen : List Bool} (hl : ts[t]? = some l) (h : SpI ts n t l.length at' seen) : SpI ts n (t + 1) 0 at' seen where
  l1 := h.l1
  l2 := h.l2
  ps := fun t' p x hx hlt => by
    refine h.ps t' p x hx ?_
    rcases hlt with hlt | hlt
    · by_cases ht : t' = t
      · subst ht
        refine .inr ⟨rfl, ?_⟩
        unfold posD at hx
        rw [hl] at hx
        exact (List.getElem?_eq_some_iff.1 hx).1
      · exact .inl (by omega)
    · omega
  sn := fun x hx => by
    obtain ⟨t', p, h1, h2⟩ := h.sn x hx
    exact ⟨t', p, h1, by omega⟩
theorem spots0 (N : Nat) {ts : List (List Int)} {n : Nat} (hN : n < N) (hT : TkOk ts n) (hn : n ≤ 1000) (hts : ts.length < 1000) : ∀ (k m t : Nat) (at' : List Spot) (seen : List Bool), k < m → t + k = ts.length → SpI ts n t 0 at' seen →
    ∃ at2 seen2, zaW_0 N ts (ts.length : Int) m at' seen (totD ts t : Int) (t : Int) = some (.inl (at2, (totD ts ts.length : Int))) ∧ SpI ts n ts.length 0 at2 seen2
  | k, 0, t, at', seen, h, _, _ => by omega
  | 0, m + 1, t, at', seen, h, ht, hI => by
    unfold zaW_0
    obtain rfl : t = ts.length := by omega
    rw [if_neg (by simp)]
    exact ⟨at', seen, rfl, hI⟩
  | k + 1, m + 1, t, at', seen, h, ht, hI => by
    unfold zaW_0
    have hlt : t < ts.length := by omega
    have hl := at_lt hlt
    have htot := tot_succ hl
    have hle := tot_le (ts := ts) (ts.length - (t + 1)) (t + 1)
    rw [show t + 1 + (ts.length - (t + 1)) = ts.length by omega, hT.tot] at hle
    rw [if_pos (by simp; omega), getI_nat hl, bind_some']
    obtain ⟨a2, b2, g1, g2⟩ := spots1 N hT hl hn (by omega) ts[t].length N 0 at' seen (totD ts t) (by omega) (by omega) (by omega) hI
    have g1 : zaW_1 N (t : Int) ts[t] (ts[t].length : Int) N at' seen (totD ts t : Int) 0 = _ := g1
    rw [g1, bind_some']
    simp only
    rw [w64s (by omega), ← htot]
    exact spots0 N hN hT hn hts k m (t + 1) a2 b2 (by omega) (by omega) (g2.next hl)
theorem spots_ok (N : Nat) (hN : 200 ≤ N) {d : Disorder} (hT : TkOk d.tracks d.items.length) (hn : d.items.length ≤ 96) (ht : d.tracks.length ≤ 100) : ∃ at', zaW N d = some (at', true) ∧ AtOk d at' := by
  unfold zaW
  rw [mkI_ok (by omega) (by omega), bind_some', mkI_ok (by omega) (by omega), bind_some']
  obtain ⟨a2, b2, g1, g2⟩ := spots0 N (by omega) hT (by omega) (by omega) d.tracks.length N 0 (List.replicate (d.items.length : Int).toNat (Spot.mk 0 0)) (List.replicate (d.items.length : Int).toNat false) (by omega) (by omega)
    ⟨by simp, by simp, fun t' p x _ h => by omega, fun x hx => by
      rw [List.getElem?_replicate] at hx
      split at hx <;> simp at hx⟩
  have h0 : totD d.tracks 0 = 0 := by simp [totD]
  rw [h0] at g1
  have g1 : zaW_0 N d.tracks (d.tracks.length : Int) N (List.replicate (d.items.length : Int).toNat (Spot.mk 0 0)) (List.replicate (d.items.length : Int).toNat false) 0 0 = _ := g1
  rw [g1, bind_some', hT.tot]
  simp only
  rw [lt_def, g2.l1]
  refine ⟨a2, by simp, g2.l1, fun t p x hx => g2.ps t p x hx (.inl ?_)⟩
  unfold posD at hx
  cases h : d.tracks[t]? with
  | none => rw [h] at hx; cases hx
  | some l => exact (List.getElem?_eq_some_iff.1 h).1
theorem valid_ok (N : Nat) (hN : 200 ≤ N) {d : Disorder} (hD : DOk d) : zaT N d = some true := by
  unfold zaT
  have h0 : zaT_0 N d = some false := by
    unfold zaT_0
    have := hD.li; have := hD.lh; have := hD.lt
    rw [if_neg (by simp; omega), if_neg (by simp; omega)]
    simp; omega
  have h1 := first_gen (l := d.homes) (fun _ _ => false) (fun _ _ => false) (zaT_1 N d d.homes (d.homes.length : Int)) (fun n => by unfold zaT_1; rw [if_neg (by simp)]) (fun n i x hx => by
    have hi := (List.getElem?_eq_some_iff.1 hx).1
    have hlh := hD.lh
    have hr := hD.hm x (List.mem_of_getElem? hx)
    have h2 : zaT_2 N d (i : Int) x = some false := by
      unfold zaT_2
      rw [if_neg (by simp; omega), if_neg (by simp; omega), cutI_take (by omega), bind_some', con_ok N _ _ (by simp; omega) (by simp; omega), bind_some']
      congr 1
      rw [decide_eq_false_iff_not]
      intro hm
      obtain ⟨j, hj, he⟩ := List.mem_iff_getElem.1 hm
      rw [List.getElem_take] at he
      rw [List.length_take] at hj
      have hx' := (List.getElem?_eq_some_iff.1 hx).2
      have := (List.pairwise_iff_getElem.1 hD.hd) j i (by omega) hi (by omega)
      exact this (he.trans hx'.symm)
    rw [zaT_1, if_pos (by simp; omega), getI_nat hx, bind_some', h2, bind_some', if_neg (by simp), if_neg (by simp), w64s (by omega)]) d.homes.length N 0 (by have := hD.lh; omega) (by omega)
  have hres : ∀ {α β : Type} (o : Nat → α → β) (i : Nat) (l : List α), res (fun _ _ => false) o i l = .inl () := by
    intro α β o i l
    induction l generalizing i with
    | nil => rfl
    | cons x l ih => rw [res, if_neg (by simp), ih]
  have h1 : zaT_1 N d d.homes (d.homes.length : Int) N 0 = _ := h1
  rw [hres] at h1
  have h3 := first_gen (l := d.items) (fun _ _ => false) (fun _ _ => false) (zaT_3 N d d.items (d.items.length : Int)) (fun n => by unfold zaT_3; rw [if_neg (by simp)]) (fun n i x hx => by
    have hi := (List.getElem?_eq_some_iff.1 hx).1
    have hli := hD.li
    have hr := hD.it x (List.mem_of_getElem? hx)
    have h4 : zaT_4 N d x = some false := by
      unfold zaT_4
      rw [if_neg (by simp; omega), if_neg (by simp; omega), if_neg (by simp; omega), if_neg (by simp; omega), if_neg (by simp [hr.2.2.2.2.1]), if_neg (by simp; omega)]
      simp; omega
    rw [zaT_3, if_pos (by simp; omega), getI_nat hx, bind_some', h4, bind_some', if_neg (by simp), if_neg (by simp), w64s (by omega)]) d.items.length N 0 (by have := hD.li; omega) (by omega)
  have h3 : zaT_3 N d d.items (d.items.length : Int) N 0 = _ := h3
  rw [hres] at h3
  obtain ⟨a, ha, _⟩ := spots_ok N hN hD.tk hD.li (by have := hD.lt; omega)
  rw [h0, bind_some', if_neg (by simp), h1, bind_some']
  simp only
  rw [h3, bind_some']
  simp only
  rw [ha, bind_some']
theorem open0 (N : Nat) (n : Nat) (hn : n ≤ 1000) : ∀ (k m i : Nat) (rd : List Int), k < m → i + k = n → rd.length = n → (∀ j x, j < i → rd[j]? = some x → x = -1) → ∃ rd', zbA_0 N (n : Int) m (i : Int) rd = some rd' ∧ rd' = List.replicate n (-1)
  | k, 0, i, rd, h, _, _, _ => by omega
  | 0, m + 1, i, rd, h, hi, hl, hr => by
    unfold zbA_0
    obtain rfl : i = n := by omega
    rw [if_neg (by simp)]
    refine ⟨rd, rfl, List.ext_getElem (by simp [hl]) fun j h1 h2 => ?_⟩
    rw [List.getElem_replicate]
    exact hr j _ (by omega) (at_lt h1)
  | k + 1, m + 1, i, rd, h, hi, hl, hr => by
    unfold zbA_0
    have hlt : i < rd.length := by omega
    rw [if_pos (by simp; omega), getI_nat (at_lt hlt), bind_some', bind_some', lt_def, Int.toNat_natCast, w64s (by omega)]
    refine open0 N n hn k m (i + 1) _ (by omega) (by omega) (by simp [hl]) fun j x hj hx => ?_
    rw [List.getElem?_set] at hx
    by_cases hij : i = j
    · rw [if_pos hij, if_pos (by omega)] at hx
      cases hx; rfl
    · rw [if_neg hij] at hx
      exact hr j x (by omega) hx
theorem open_ok (N : Nat) (hN : 200 ≤ N) {d : Disorder} (hD : DOk d) : ∃ at', zbA N d = some (Scene.mk d [] [], at', List.replicate d.items.length (-1)) ∧ AtOk d at' := by
  unfold zbA
  have hli := hD.li
  obtain ⟨a, ha, hA⟩ := spots_ok N hN hD.tk hD.li (by have := hD.lt; omega)
  rw [mkI_ok (by omega) (by omega), bind_some', ha, bind_some']
  obtain ⟨rd, h1, h2⟩ := open0 N d.items.length (by omega) d.items.length N 0 (List.replicate (d.items.length : Int).toNat 0) (by omega) (by omega) (by simp) (fun j x hj => by omega)
  have h1 : zbA_0 N (d.items.length : Int) N 0 (List.replicate (d.items.length : Int).toNat 0) = _ := h1
  simp only [List.length_replicate, Int.toNat_natCast] at h1 ⊢
  rw [h1, bind_some', h2]
  exact ⟨a, rfl, hA⟩
end Go.W
end
section
set_option linter.unusedVariables false
set_option linter.unusedSimpArgs false
namespace Go.W
open Go.AM
def itm (d : Disorder) (x : Nat) : Item := (d.items[x]?).getD (Item.mk 0 0 0 0)
def atx (a : List Spot) (x : Nat) : Spot := (a[x]?).getD (Spot.mk 0 0)
def hmx (d : Disorder) (x : Nat) : Int := (d.homes[(itm d x).train.toNat]?).getD 0
def homeB (d : Disorder) (a : List Spot) (x : Nat) : Bool := (atx a x).track == hmx d x
def ahB (d : Disorder) (y x : Nat) : Bool := (itm d y).train == (itm d x).train && decide ((itm d y).block < (itm d x).block)
def neB (a : List Spot) (x y : Nat) : Bool := (atx a x).track == (atx a y).track && decide ((atx a y).place < (atx a x).place)
def rdx (rd : List Int) (y : Nat) : Int := (rd[y]?).getD (-1)
def puB (rd : Nat → Int) (y : Nat) (n : Int) : Bool := decide (0 ≤ rd y) && decide (rd y < n)
def juB (d : Disorder) (a : List Spot) (rd : Nat → Int) (x : Nat) (r y n : Int) : Bool :=
  if r = 1 then y == -1 && !homeB d a x
  else if y < 0 ∨ (d.items.length : Int) ≤ y then false
  else if r = 3 ∧ n = 0 then homeB d a x && (ahB d y.toNat x && neB a y.toNat x)
  else if r = 3 then ahB d y.toNat x && puB rd y.toNat n
  else if r = 2 then neB a x y.toNat && puB rd y.toNat n
  else false
structure Sc (d : Disorder) (a : List Spot) (rd : List Int) : Prop where
  ok : DOk d
  at' : AtOk d a
  rl : rd.length = d.items.length
section
variable {d : Disorder} {a : List Spot} {rd : List Int} (hS : Sc d a rd) (N : Nat)
theorem itm_at {x : Nat} (hx : x < d.items.length) : getI d.items (x : Int) = some (itm d x) := by
  rw [getI_nat (at_lt hx)]; unfold itm; rw [at_lt hx]; rfl
theorem itm_mem {x : Nat} (hx : x < d.items.length) : itm d x ∈ d.items := by
  unfold itm; rw [at_lt hx]; exact List.getElem_mem hx
include hS
theorem atx_at {x : Nat} (hx : x < d.items.length) : getI a (x : Int) = some (atx a x) := by
  have hx : x < a.length := by rw [hS.at'.len]; exact hx
  rw [getI_nat (at_lt hx)]; unfold atx; rw [at_lt hx]; rfl
theorem rdx_at {x : Nat} (hx : x < d.items.length) : getI rd (x : Int) = some (rdx rd x) := by
  have hx : x < rd.length := by rw [hS.rl]; exact hx
  rw [getI_nat (at_lt hx)]; unfold rdx; rw [at_lt hx]; rfl
theorem hmx_at {x : Nat} (hx : x < d.items.length) : getI d.homes (itm d x).train = some (hmx d x) := by
  have h := hS.ok.it _ (itm_mem hx)
  obtain ⟨j, hj⟩ := Int.eq_ofNat_of_zero_le h.1
  have hlt : j < d.homes.length := by omega
  unfold hmx
  rw [hj, getI_nat (at_lt hlt), Int.toNat_natCast, at_lt hlt]; rfl
theorem home_ok {x : Nat} (hx : x < d.items.length) : zbJ N (Scene.mk d a rd) (x : Int) = some (homeB d a x) := by
  unfold zbJ
  rw [atx_at hS hx, bind_some', itm_at hx, bind_some', hmx_at hS hx, bind_some', lt_def]; rfl
theorem ahead_ok {x y : Nat} (hx : x < d.items.length) (hy : y < d.items.length) : zbB N (Scene.mk d a rd) (y : Int) (x : Int) = some (ahB d y x) := by
  have := hS.rl
  unfold zbB zbB_0
  rw [itm_at hx, itm_at hy, bind_some', bind_some']
  unfold ahB
  by_cases h : (itm d y).train = (itm d x).train
  · rw [if_pos (by simpa using h), bind_some', bind_some', lt_def, bind_some', h]; simp
  · rw [if_neg (by simpa using h), bind_some']; simp [h]
theorem near_ok {x y : Nat} (hx : x < d.items.length) (hy : y < d.items.length) : zaX N (Scene.mk d a rd) (x : Int) (y : Int) = some (neB a x y) := by
  unfold zaX zaX_0
  rw [atx_at hS hx, atx_at hS hy, bind_some', bind_some']
  unfold neB
  by_cases h : (atx a x).track = (atx a y).track
  · rw [if_pos (by simpa using h), bind_some', bind_some', lt_def, bind_some', h]; simp
  · rw [if_neg (by simpa using h), bind_some']; simp [h]
theorem pul_ok {y : Nat} (hy : y < d.items.length) (n : Int) : zaY N (Scene.mk d a rd) (y : Int) n = some (puB (rdx rd) y n) := by
  unfold zaY zaY_0
  rw [rdx_at hS hy, bind_some']
  unfold puB
  by_cases h : 0 ≤ rdx rd y
  · rw [if_pos (by simpa using h), bind_some', lt_def, bind_some']; simp [h]
  · rw [if_neg (by simpa using h), bind_some']; simp [h]
theorem just_ok {x : Nat} (hx : x < d.items.length) (r y n : Int) : zaO N (Scene.mk d a rd) (x : Int) r y n = some (juB d a (rdx rd) x r y n) := by
  unfold zaO juB
  by_cases h1 : r = 1
  · rw [if_pos (by simpa using h1), if_pos h1]
    unfold zaO_0
    by_cases h2 : y = -1
    · rw [if_pos (by simpa using h2), home_ok hS N hx, bind_some', lt_def, bind_some']; simp [h2]
    · rw [if_neg (by simpa using h2), bind_some']; simp [h2]
  · rw [if_neg (by simpa using h1), if_neg h1]
    by_cases h2 : y < 0 ∨ (d.items.length : Int) ≤ y
    · have : zaO_1 N (Scene.mk d a rd) y = some true := by
        unfold zaO_1
        by_cases h3 : y < 0
        · rw [if_pos (by simpa using h3)]
        · rw [if_neg (by simpa using h3)]; simp; omega
      rw [this, bind_some', if_pos rfl, if_pos h2]
    · have : zaO_1 N (Scene.mk d a rd) y = some false := by
        unfold zaO_1
        rw [if_neg (by simp; omega)]; simp; omega
      rw [this, bind_some', if_neg (by simp), if_neg h2]
      obtain ⟨j, rfl⟩ := Int.eq_ofNat_of_zero_le (show 0 ≤ y by omega)
      have hj : j < d.items.length := by omega
      rw [Int.toNat_natCast]
      by_cases h3 : r = 3
      · subst h3
        by_cases h4 : n = 0
        · subst h4
          have : zaO_2 N 3 0 = some true := rfl
          rw [this, bind_some', if_pos rfl, if_pos ⟨rfl, rfl⟩]
          unfold zaO_3
          rw [home_ok hS N hx, bind_some']
          cases hb : homeB d a x with
          | false => rw [if_neg (by simp), bind_some']; simp
          | true =>
            rw [if_pos rfl, ahead_ok hS N hx hj, bind_some']
            cases hc : ahB d j x with
            | false => rw [if_neg (by simp), bind_some']; simp
            | true => rw [if_pos rfl, near_ok hS N hj hx, bind_some', bind_some']; simp
        · have : zaO_2 N 3 n = some false := by
            unfold zaO_2
            rw [if_pos (by simp), lt_def]; simp [h4]
          rw [this, bind_some', if_neg (by simp), lt_def, if_pos (show ((3 : Int) == 3) = true from rfl), if_neg (fun hh : (3 : Int) = 3 ∧ n = 0 => h4 hh.2), if_pos rfl]
          unfold zaO_4
          rw [ahead_ok hS N hx hj, bind_some']
          cases hc : ahB d j x with
          | false => rw [if_neg (by simp), bind_some']; simp
          | true => rw [if_pos rfl, pul_ok hS N hj, bind_some', bind_some']; simp
      · have : zaO_2 N r n = some false := by
          unfold zaO_2
          rw [if_neg (by simpa using h3)]
        rw [this, bind_some', if_neg (by simp), lt_def, if_neg (by simp [h3]), if_neg (by simp [h3]), if_neg h3, lt_def]
        by_cases h5 : r = 2
        · rw [if_pos (by simpa using h5), if_pos h5]
          unfold zaO_5
          rw [near_ok hS N hx hj, bind_some']
          cases hc : neB a x j with
          | false => rw [if_neg (by simp), bind_some']; simp
          | true => rw [if_pos rfl, pul_ok hS N hj, bind_some', bind_some']; simp
        · rw [if_neg (by simpa using h5), if_neg h5]
end
def lookR (d : Disorder) (a : List Spot) (rd : Nat → Int) (x : Nat) (n r : Int) : Option Pull :=
  match res (fun y (_ : Item) => juB d a rd x r y n) (fun y _ => Pull.mk x r y n) 0 d.items with
  | .inl _ => none
  | .inr p => some p
def whyF (d : Disorder) (a : List Spot) (rd : Nat → Int) (x : Nat) (n : Int) : Option Pull :=
  if n = 0 then (if homeB d a x = true then lookR d a rd x n 3 else some (Pull.mk x 1 (-1) 0))
  else match lookR d a rd x n 2 with
    | some p => some p
    | none => lookR d a rd x n 3
theorem why2 {d : Disorder} {a : List Spot} {rd : List Int} (hS : Sc d a rd) (N : Nat) {x : Nat} (hx : x < d.items.length) (n r : Int) (p0 : Pull) : ∀ (k m i : Nat), k < m → i + k = d.items.length →
    zbV_2 N (Scene.mk d a rd) (x : Int) n r (d.items.length : Int) m p0 (i : Int) = some (match res (fun y (_ : Item) => juB d a (rdx rd) x r y n) (fun y _ => Pull.mk x r y n) i (d.items.drop i) with | .inl _ => .inl p0 | .inr p => .inr (p, true))
  | k, 0, i, h, _ => by omega
  | 0, m + 1, i, h, hi => by
    unfold zbV_2
    rw [if_neg (by simp; omega), List.drop_of_length_le (by omega), res]
  | k + 1, m + 1, i, h, hi => by
    have hlt : i < d.items.length := by omega
    have hli := hS.ok.li
    rw [zbV_2, if_pos (by simp; omega), just_ok hS N hx, bind_some', drop_at (at_lt hlt), res]
    split
    · rfl
    · rw [w64s (by omega)]
      exact why2 hS N hx n r p0 k m (i + 1) (by omega) (by omega)
theorem why_ok {d : Disorder} {a : List Spot} {rd : List Int} (hS : Sc d a rd) (N : Nat) (hN : 200 ≤ N) {x : Nat} (hx : x < d.items.length) (n : Int) :
    zbV N (Scene.mk d a rd) (x : Int) n = some (match whyF d a (rdx rd) x n with | some p => (p, true) | none => (Pull.mk 0 0 0 0, false)) := by
  have hli := hS.ok.li
  have w2 : ∀ r p0, zbV_2 N (Scene.mk d a rd) (x : Int) n r (d.items.length : Int) N p0 0 = some (match lookR d a (rdx rd) x n r with | none => .inl p0 | some p => .inr (p, true)) := by
    intro r p0
    have := why2 hS N hx n r p0 d.items.length N 0 (by omega) (by omega)
    have this : zbV_2 N (Scene.mk d a rd) (x : Int) n r (d.items.length : Int) N p0 0 = _ := this
    rw [this, List.drop_zero]
    unfold lookR
    cases res (fun y (_ : Item) => juB d a (rdx rd) x r y n) (fun y _ => Pull.mk x r y n) 0 d.items <;> rfl
  have w1 : ∀ (p0 : Pull), zbV_1 N (Scene.mk d a rd) (x : Int) n [3] 1 N p0 0 = some (match lookR d a (rdx rd) x n 3 with | none => .inl p0 | some p => .inr (p, true)) := by
    intro p0
    obtain ⟨M, rfl⟩ : ∃ M, N = M + 2 := ⟨N - 2, by omega⟩
    rw [zbV_1, if_pos (by simp)]
    have : getI [3] (0 : Int) = some (3 : Int) := rfl
    rw [this, bind_some', w2, bind_some']
    cases lookR d a (rdx rd) x n 3 with
    | some p => rfl
    | none =>
      simp only
      rw [zbV_1, if_neg (by decide)]
  have w11 : ∀ (p0 : Pull), zbV_1 N (Scene.mk d a rd) (x : Int) n [2, 3] 2 N p0 0 = some (match (match lookR d a (rdx rd) x n 2 with | some p => some p | none => lookR d a (rdx rd) x n 3) with | none => .inl p0 | some p => .inr (p, true)) := by
    intro p0
    obtain ⟨M, rfl⟩ : ∃ M, N = M + 3 := ⟨N - 3, by omega⟩
    rw [zbV_1, if_pos (by simp)]
    have : getI [2, 3] (0 : Int) = some (2 : Int) := rfl
    rw [this, bind_some', w2, bind_some']
    cases lookR d a (rdx rd) x n 2 with
    | some p => rfl
    | none =>
      simp only
      have e1 : IntKind.wrap .i64 (0 + 1) = 1 := by rw [w64 (by omega) (by omega)]; rfl
      rw [e1, zbV_1, if_pos (by simp)]
      have : getI [2, 3] (1 : Int) = some (3 : Int) := rfl
      rw [this, bind_some', w2, bind_some']
      cases lookR d a (rdx rd) x n 3 with
      | some p => rfl
      | none =>
        simp only
        rw [zbV_1, if_neg (by decide)]
  unfold zbV zbV_0 whyF
  by_cases hn : n = 0
  · subst hn
    rw [if_pos (by simp), home_ok hS N hx, bind_some', if_pos rfl]
    cases hb : homeB d a x with
    | false => rfl
    | true =>
      rw [if_neg (by simp)]
      have : cutI [(2 : Int), 3] 1 (([2, 3] : List Int).length : Int) = some [3] := rfl
      rw [this, bind_some', bind_some']
      simp only [List.length_cons, List.length_nil]
      have := w1 (Pull.mk 0 0 0 0)
      have this : zbV_1 N (Scene.mk d a rd) (x : Int) 0 [3] (((0 + 1 : Nat)) : Int) N (Pull.mk 0 0 0 0) 0 = _ := this
      rw [this, bind_some', if_pos trivial]
      cases lookR d a (rdx rd) x 0 3 <;> rfl
  · rw [if_neg (by simpa using hn), bind_some', if_neg hn]
    simp only [List.length_cons, List.length_nil]
    have := w11 (Pull.mk 0 0 0 0)
    have this : zbV_1 N (Scene.mk d a rd) (x : Int) n [2, 3] (((0 + 1 + 1 : Nat)) : Int) N (Pull.mk 0 0 0 0) 0 = _ := this
    rw [this, bind_some']
    cases lookR d a (rdx rd) x n 2 with
    | some p => rfl
    | none => cases lookR d a (rdx rd) x n 3 <;> rfl
theorem look_some {d : Disorder} {a : List Spot} {rd : Nat → Int} {x : Nat} {n r : Int} {p : Pull} (h : lookR d a rd x n r = some p) : ∃ y, y < d.items.length ∧ p = Pull.mk x r y n ∧ juB d a rd x r y n = true := by
  have key : ∀ (l : List Item) (i : Nat), res (fun y (_ : Item) => juB d a rd x r y n) (fun y _ => Pull.mk x r y n) i l = .inr p → ∃ y, i ≤ y ∧ y < i + l.length ∧ p = Pull.mk x r y n ∧ juB d a rd x r y n = true := by
    intro l
    induction l with
    | nil => intro i h; cases h
    | cons y l ih =>
      intro i h
      rw [res] at h
      split at h
      · rename_i hj; cases h; exact ⟨i, Nat.le_refl _, by simp, rfl, hj⟩
      · obtain ⟨y, h1, h2, h3⟩ := ih _ h
        exact ⟨y, by omega, by simp; omega, h3⟩
  unfold lookR at h
  split at h
  · cases h
  · rename_i q hq
    cases h
    obtain ⟨y, _, h2, h3⟩ := key _ _ hq
    exact ⟨y, by omega, h3⟩
theorem look_none {d : Disorder} {a : List Spot} {rd : Nat → Int} {x : Nat} {n r : Int} (h : lookR d a rd x n r = none) : ∀ y : Nat, y < d.items.length → juB d a rd x r y n = false := by
  have key : ∀ (l : List Item) (i : Nat), res (fun y (_ : Item) => juB d a rd x r y n) (fun y _ => Pull.mk x r y n) i l = .inl () → ∀ y, i ≤ y → y < i + l.length → juB d a rd x r y n = false := by
    intro l
    induction l with
    | nil => intro i h y h1 h2; simp at h2; omega
    | cons z l ih =>
      intro i h y h1 h2
      rw [res] at h
      split at h
      · cases h
      · rename_i hj
        by_cases hy : y = i
        · subst hy; simpa using hj
        · exact ih _ h y (by omega) (by simp at h2; omega)
  unfold lookR at h
  split at h
  · rename_i u hu
    intro y hy
    exact key _ 0 hu y (by omega) (by omega)
  · cases h
theorem whyF_some {d : Disorder} {a : List Spot} {rd : Nat → Int} {x : Nat} {n : Int} {p : Pull} (h : whyF d a rd x n = some p) : p.item = x ∧ p.round = n ∧ juB d a rd x p.reason p.because n = true ∧ (n ≠ 0 → p.reason ≠ 1) := by
  unfold whyF at h
  split at h
  · rename_i hn
    split at h
    · obtain ⟨y, _, rfl, h3⟩ := look_some h
      exact ⟨rfl, rfl, h3, fun hh => absurd hn hh⟩
    · rename_i hb
      cases h
      refine ⟨rfl, hn.symm, ?_, fun hh => absurd hn hh⟩
      unfold juB
      simp only
      rw [if_pos trivial]
      simpa using hb
  · split at h
    · rename_i q hq
      cases h
      obtain ⟨y, _, rfl, h3⟩ := look_some hq
      exact ⟨rfl, rfl, h3, fun _ => by simp⟩
    · obtain ⟨y, _, rfl, h3⟩ := look_some h
      exact ⟨rfl, rfl, h3, fun _ => by simp⟩
theorem whyF_none {d : Disorder} {a : List Spot} {rd : Nat → Int} {x : Nat} {n : Int} (h : whyF d a rd x n = none) : (n = 0 → homeB d a x = true) ∧ ∀ y : Nat, y < d.items.length → juB d a rd x 3 y n = false ∧ (n ≠ 0 → juB d a rd x 2 y n = false) := by
  unfold whyF at h
  split at h
  · rename_i hn
    split at h
    · rename_i hb
      exact ⟨fun _ => hb, fun y hy => ⟨look_none h y hy, fun hh => absurd hn hh⟩⟩
    · cases h
  · rename_i hn
    split at h
    · cases h
    · rename_i h2
      exact ⟨fun hh => absurd hh hn, fun y hy => ⟨look_none h y hy, fun _ => look_none h2 y hy⟩⟩
end Go.W
end
section
set_option linter.unusedVariables false
set_option linter.unusedSimpArgs false
namespace Go.W
open Go.AM
def passF (d : Disorder) (a : List Spot) (rd : Nat → Int) (n : Int) : Nat → List Item → List Pull
  | _, [] => []
  | i, _ :: l => (if 0 ≤ rd i then [] else (match whyF d a rd i n with | some p => [p] | none => [])) ++ passF d a rd n (i + 1) l
theorem pass_mem {d : Disorder} {a : List Spot} {rd : Nat → Int} {n : Int} {p : Pull} : ∀ {l : List Item} {i : Nat}, p ∈ passF d a rd n i l ↔ ∃ x, i ≤ x ∧ x < i + l.length ∧ ¬ 0 ≤ rd x ∧ whyF d a rd x n = some p
  | [], i => by simp [passF]; omega
  | y :: l, i => by
    rw [passF, List.mem_append, pass_mem]
    constructor
    · rintro (h | ⟨x, h1, h2, h3⟩)
      · split at h
        · simp at h
        · rename_i hn
          split at h
          · rename_i q hq
            simp at h; subst h
            exact ⟨i, Nat.le_refl _, by simp, hn, hq⟩
          · simp at h
      · exact ⟨x, by omega, by simp; omega, h3⟩
    · rintro ⟨x, h1, h2, h3, h4⟩
      by_cases hx : x = i
      · subst hx
        left
        rw [if_neg h3, h4]; simp
      · exact .inr ⟨x, by omega, by simp at h2; omega, h3, h4⟩
theorem pass_inc {d : Disorder} {a : List Spot} {rd : Nat → Int} {n : Int} : ∀ {l : List Item} {i : Nat}, (passF d a rd n i l).Pairwise fun p q => p.item < q.item
  | [], i => by simp [passF]
  | y :: l, i => by
    rw [passF, List.pairwise_append]
    refine ⟨?_, pass_inc, fun p hp q hq => ?_⟩
    · split
      · simp
      · split <;> simp
    · obtain ⟨x, h1, h2, h3, h4⟩ := pass_mem.1 hq
      have hqx := (whyF_some h4).1
      split at hp
      · simp at hp
      · split at hp
        · rename_i q' hq'
          simp at hp; subst hp
          have := (whyF_some hq').1
          omega
        · simp at hp
theorem pass_ok {d : Disorder} {a : List Spot} {rd : List Int} (hS : Sc d a rd) (N : Nat) (hN : 200 ≤ N) (n : Int) (d0 : Disorder) (hd : d0 = d) : ∀ (k m i : Nat) (out : List Pull), k < m → i + k = d.items.length → out.length + k ≤ 200 →
    zaS_1 N (Scene.mk d0 [] []) n (d.items.length : Int) a rd m out (i : Int) = some (out ++ passF d a (rdx rd) n i (d.items.drop i))
  | k, 0, i, out, h, _, _ => by omega
  | 0, m + 1, i, out, h, hi, hl => by
    unfold zaS_1
    rw [if_neg (by simp; omega), List.drop_of_length_le (by omega), passF, List.append_nil]
  | k + 1, m + 1, i, out, h, hi, hl => by
    subst hd
    have hlt : i < d0.items.length := by omega
    have hli := hS.ok.li
    have step : zaS_2 N (Scene.mk d0 [] []) out n (i : Int) a rd = some (out ++ (if 0 ≤ rdx rd i then [] else (match whyF d0 a (rdx rd) i n with | some p => [p] | none => []))) := by
      unfold zaS_2
      rw [rdx_at hS hlt, bind_some', bind_some']
      by_cases h0 : 0 ≤ rdx rd i
      · rw [if_pos (by simpa using h0), if_pos h0, List.append_nil]
      · rw [if_neg (by simpa using h0), if_neg h0, why_ok hS N hN hlt, bind_some']
        cases whyF d0 a (rdx rd) i n with
        | none => simp
        | some p => simp only; rw [if_pos trivial, appI_ok (by simp; omega), bind_some']
    rw [zaS_1, if_pos (by simp; omega), step, bind_some', w64s (by omega), pass_ok hS N hN n d0 rfl k m (i + 1) _ (by omega) (by omega) (by
      rw [List.length_append]
      have : (if 0 ≤ rdx rd i then ([] : List Pull) else (match whyF d0 a (rdx rd) i n with | some p => [p] | none => [])).length ≤ 1 := by
        split
        · simp
        · split <;> simp
      omega), drop_at (at_lt hlt), passF, List.append_assoc]
def setR (n : Int) : List Pull → List Int → List Int
  | [], rd => rd
  | p :: l, rd => setR n l (rd.set p.item.toNat n)
theorem setR_len (n : Int) : ∀ (l : List Pull) (rd : List Int), (setR n l rd).length = rd.length
  | [], rd => rfl
  | p :: l, rd => by rw [setR, setR_len, List.length_set]
theorem rdx_set {rd : List Int} {i j : Nat} {v : Int} (hi : i < rd.length) : rdx (rd.set i v) j = if i = j then v else rdx rd j := by
  unfold rdx
  rw [List.getElem?_set]
  by_cases h : i = j
  · subst h; rw [if_pos rfl, if_pos hi, if_pos rfl]; rfl
  · rw [if_neg h, if_neg h]
theorem rdx_setR (n : Int) : ∀ (l : List Pull) (rd : List Int), (∀ p ∈ l, 0 ≤ p.item ∧ p.item.toNat < rd.length) → ∀ x, rdx (setR n l rd) x = if ∃ p ∈ l, p.item = (x : Int) then n else rdx rd x
  | [], rd, _, x => by rw [setR, if_neg (by simp)]
  | p :: l, rd, h, x => by
    obtain ⟨h0, h1⟩ := h p List.mem_cons_self
    rw [setR, rdx_setR n l _ (fun q hq => by rw [List.length_set]; exact h q (List.mem_cons_of_mem _ hq)) x, rdx_set h1]
    by_cases hl : ∃ q ∈ l, q.item = (x : Int)
    · obtain ⟨q, hq, he⟩ := hl
      rw [if_pos ⟨q, hq, he⟩, if_pos ⟨q, List.mem_cons_of_mem _ hq, he⟩]
    · rw [if_neg hl]
      by_cases hp : p.item.toNat = x
      · rw [if_pos hp, if_pos ⟨p, List.mem_cons_self, by omega⟩]
      · rw [if_neg hp, if_neg]
        rintro ⟨q, hq, he⟩
        rcases List.mem_cons.1 hq with rfl | hq
        · omega
        · exact hl ⟨q, hq, he⟩
theorem set_ok (N : Nat) {out nw : List Pull} (n : Int) (hl : out.length + nw.length ≤ 1000) : ∀ (k m i : Nat) (rd : List Int), k < m → i + k = nw.length → (∀ p ∈ nw, 0 ≤ p.item ∧ p.item.toNat < rd.length) →
    zaS_3 N (out ++ nw) n (out.length, (out ++ nw).length) (nw.length : Int) m (i : Int) rd = some (setR n (nw.drop i) rd)
  | k, 0, i, rd, h, _, _ => by omega
  | 0, m + 1, i, rd, h, hi, hr => by
    unfold zaS_3
    rw [if_neg (by simp; omega), List.drop_of_length_le (by omega), setR]
  | k + 1, m + 1, i, rd, h, hi, hr => by
    have hlt : i < nw.length := by omega
    have hp := hr _ (List.getElem_mem hlt)
    have e1 : List.drop out.length (List.take (out ++ nw).length (out ++ nw)) = nw := by rw [List.take_of_length_le (Nat.le_refl _), List.drop_left]
    have e2 : getI (out ++ nw) ((out.length : Int) + i) = some nw[i] := by
      rw [show (out.length : Int) + i = ((out.length + i : Nat) : Int) by omega]
      refine getI_nat ?_
      rw [List.getElem?_append_right (by omega), show out.length + i - out.length = i by omega]
      exact at_lt hlt
    have e3 : ∃ v, getI rd nw[i].item = some v := by
      obtain ⟨j, hj⟩ := Int.eq_ofNat_of_zero_le hp.1
      rw [hj] at hp ⊢
      exact ⟨_, getI_nat (at_lt (by simpa using hp.2))⟩
    obtain ⟨v, e3⟩ := e3
    rw [zaS_3, if_pos (by simp; omega)]
    simp only [e1]
    rw [getI_nat (at_lt hlt), bind_some', e2, bind_some', e3, bind_some', bind_some', lt_def, w64s (by omega), set_ok N n hl k m (i + 1) _ (by omega) (by omega) (fun p hp' => by rw [List.length_set]; exact hr p hp'), drop_at (at_lt hlt), setR]
structure PI (d : Disorder) (a : List Spot) (out : List Pull) (rd : List Int) (n : Nat) : Prop where
  sc : Sc d a rd
  nd : (out.map Pull.item).Nodup
  it : ∀ p ∈ out, ∃ x : Nat, p.item = x ∧ x < d.items.length ∧ rdx rd x = p.round ∧ 0 ≤ p.round ∧ p.round < n
  ju : ∀ p ∈ out, ∀ x : Nat, p.item = x → juB d a (rdx rd) x p.reason p.because p.round = true
  on : ∀ x, rdx rd x = -1 ∨ ∃ p ∈ out, p.item = (x : Int)
  st : 1 ≤ n → ∀ x, x < d.items.length → rdx rd x = -1 → homeB d a x = true ∧ ∀ y, y < d.items.length → (ahB d y x && neB a y x) = false
theorem juB_mono {d : Disorder} {a : List Spot} {rd rd' : Nat → Int} {x : Nat} {r y n : Int} (h : ∀ y, 0 ≤ rd y → rd' y = rd y) (hj : juB d a rd x r y n = true) : juB d a rd' x r y n = true := by
  have pu : ∀ y n, puB rd y n = true → puB rd' y n = true := by
    intro y n hp
    unfold puB at hp ⊢
    simp only [Bool.and_eq_true, decide_eq_true_eq] at hp ⊢
    rw [h y hp.1]; exact hp
  unfold juB at hj ⊢
  split
  · rename_i h1; rw [if_pos h1] at hj; exact hj
  · rename_i h1; rw [if_neg h1] at hj
    split
    · rename_i h2; rw [if_pos h2] at hj; cases hj
    · rename_i h2; rw [if_neg h2] at hj
      split
      · rename_i h3; rw [if_pos h3] at hj; exact hj
      · rename_i h3; rw [if_neg h3] at hj
        split
        · rename_i h4; rw [if_pos h4] at hj
          simp only [Bool.and_eq_true] at hj ⊢
          exact ⟨hj.1, pu _ _ hj.2⟩
        · rename_i h4; rw [if_neg h4] at hj
          split
          · rename_i h5; rw [if_pos h5] at hj
            simp only [Bool.and_eq_true] at hj ⊢
            exact ⟨hj.1, pu _ _ hj.2⟩
          · rename_i h5; rw [if_neg h5] at hj; cases hj
theorem PI.len {d : Disorder} {a : List Spot} {out : List Pull} {rd : List Int} {n : Nat} (h : PI d a out rd n) : out.length ≤ d.items.length := by
  have h1 : (out.map Pull.item).length ≤ ((List.range d.items.length).map fun (x : Nat) => (x : Int)).length := by
    refine List.Nodup.length_le_of_subset h.nd fun i hi => ?_
    obtain ⟨p, hp, rfl⟩ := List.mem_map.1 hi
    obtain ⟨x, h1, h2, _⟩ := h.it p hp
    exact List.mem_map.2 ⟨x, List.mem_range.2 h2, h1.symm⟩
  simpa using h1
theorem PI.step {d : Disorder} {a : List Spot} {out : List Pull} {rd : List Int} {n : Nat} (h : PI d a out rd n) : PI d a (out ++ passF d a (rdx rd) n 0 d.items) (setR n (passF d a (rdx rd) n 0 d.items) rd) (n + 1) := by
  have hli := h.sc.ok.li
  have mem : ∀ p, p ∈ passF d a (rdx rd) n 0 d.items → ∃ x, x < d.items.length ∧ rdx rd x = -1 ∧ whyF d a (rdx rd) x n = some p ∧ p.item = x := by
    intro p hp
    obtain ⟨x, _, h2, h3, h4⟩ := pass_mem.1 hp
    refine ⟨x, by omega, ?_, h4, (whyF_some h4).1⟩
    rcases h.on x with h5 | ⟨q, hq, hqx⟩
    · exact h5
    · obtain ⟨x', g1, g2, g3, g4, _⟩ := h.it q hq
      have : x' = x := by omega
      subst this
      omega
  have hR := rdx_setR n (passF d a (rdx rd) n 0 d.items) rd (fun p hp => by
    obtain ⟨x, h1, _, _, h4⟩ := mem p hp
    rw [h.sc.rl]; omega)
  have keep : ∀ y, 0 ≤ rdx rd y → rdx (setR n (passF d a (rdx rd) n 0 d.items) rd) y = rdx rd y := by
    intro y hy
    rw [hR y, if_neg]
    rintro ⟨p, hp, he⟩
    obtain ⟨x, _, h2, _, h4⟩ := mem p hp
    have : x = y := by omega
    subst this; omega
  refine ⟨⟨h.sc.ok, h.sc.at', by rw [setR_len]; exact h.sc.rl⟩, ?_, fun p hp => ?_, fun p hp x hx => ?_, fun x => ?_, fun _ x hx hr => ?_⟩
  · rw [List.map_append, List.nodup_append]
    refine ⟨h.nd, ?_, fun i hi j hj hij => ?_⟩
    · rw [List.Nodup, List.pairwise_map]
      exact pass_inc.imp fun hlt he => by omega
    · subst hij
      obtain ⟨p, hp, rfl⟩ := List.mem_map.1 hi
      obtain ⟨q, hq, he⟩ := List.mem_map.1 hj
      obtain ⟨x, g1, g2, g3, g4, _⟩ := h.it p hp
      obtain ⟨y, _, k2, _, k4⟩ := mem q hq
      have : x = y := by omega
      subst this; omega
  · rcases List.mem_append.1 hp with hp | hp
    · obtain ⟨x, g1, g2, g3, g4, g5⟩ := h.it p hp
      exact ⟨x, g1, g2, by rw [keep x (by omega)]; exact g3, g4, by omega⟩
    · obtain ⟨x, k1, k2, k3, k4⟩ := mem p hp
      have k5 := (whyF_some k3).2.1
      exact ⟨x, k4, k1, by rw [hR x, if_pos ⟨p, hp, k4⟩, k5], by omega, by omega⟩
  · rcases List.mem_append.1 hp with hp | hp
    · exact juB_mono keep (h.ju p hp x hx)
    · obtain ⟨y, k1, k2, k3, k4⟩ := mem p hp
      obtain ⟨_, k5, k6, _⟩ := whyF_some k3
      have : y = x := by omega
      subst this
      rw [k5]
      exact juB_mono keep k6
  · rw [hR x]
    split
    · rename_i hh
      obtain ⟨p, hp, he⟩ := hh
      exact .inr ⟨p, List.mem_append.2 (.inr hp), he⟩
    · rcases h.on x with h1 | ⟨p, hp, he⟩
      · exact .inl h1
      · exact .inr ⟨p, List.mem_append.2 (.inl hp), he⟩
  · rw [hR x] at hr
    split at hr
    · omega
    · rename_i hh
      by_cases hn : n = 0
      · subst hn
        have hw : whyF d a (rdx rd) x ((0 : Nat) : Int) = none := by
          cases hw : whyF d a (rdx rd) x ((0 : Nat) : Int) with
          | none => rfl
          | some p => exact (hh ⟨p, pass_mem.2 ⟨x, by omega, by omega, by omega, hw⟩, (whyF_some hw).1⟩).elim
        obtain ⟨w1, w2⟩ := whyF_none hw
        have hb := w1 rfl
        refine ⟨hb, fun y hy => ?_⟩
        have := (w2 y hy).1
        unfold juB at this
        rw [if_neg (by omega), if_neg (by omega), if_pos ⟨rfl, rfl⟩, hb, Int.toNat_natCast] at this
        simpa using this
      · exact h.st (by omega) x hx hr
def remN (d : Disorder) (out : List Pull) : Nat := d.items.length - out.length
structure PsOk (d : Disorder) (a : List Spot) (out : List Pull) (rd : List Int) : Prop where
  sc : Sc d a rd
  nd : (out.map Pull.item).Nodup
  it : ∀ p ∈ out, ∃ x : Nat, p.item = x ∧ x < d.items.length ∧ rdx rd x = p.round ∧ 0 ≤ p.round
  ju : ∀ p ∈ out, ∀ x : Nat, p.item = x → juB d a (rdx rd) x p.reason p.because p.round = true
  on : ∀ x, rdx rd x = -1 ∨ ∃ p ∈ out, p.item = (x : Int)
  st : ∀ x, x < d.items.length → rdx rd x = -1 → homeB d a x = true ∧ ∀ y, y < d.items.length → (ahB d y x && neB a y x) = false ∧ (0 ≤ rdx rd y → ahB d y x = false ∧ neB a x y = false)
theorem rounds (N : Nat) (hN : 300 ≤ N) {d : Disorder} {a : List Spot} : ∀ (m : Nat) (n : Nat) (out : List Pull) (rd : List Int), PI d a out rd n → remN d out + (if n = 0 then 2 else 1) < m + (if n = 0 then 0 else 0) → n + m ≤ 100000 →
    ∃ out' rd', zaS_0 N d (Scene.mk d [] []) a m out (n : Int) rd = some out' ∧ PsOk d a out' rd'
  | 0, n, out, rd, h, hm, _ => by simp at hm
  | m + 1, n, out, rd, h, hm, hb => by
    have hli := h.sc.ok.li
    have hS := h.step
    have hlen := h.len
    have hlen2 := hS.len
    rw [List.length_append] at hlen2
    have e1 := pass_ok h.sc N (by omega) (n : Int) d rfl d.items.length N 0 out (by omega) (by omega) (by omega)
    rw [List.drop_zero] at e1
    have e1 : zaS_1 N (Scene.mk d [] []) (n : Int) (d.items.length : Int) a rd N out 0 = _ := e1
    generalize hnw : passF d a (rdx rd) (n : Int) 0 d.items = nw at *
    have hnr : ∀ p ∈ nw, 0 ≤ p.item ∧ p.item.toNat < rd.length := by
      intro p hp
      obtain ⟨x, g1, g2, _⟩ := hS.it p (List.mem_append.2 (.inr hp))
      rw [h.sc.rl]; omega
    have e2 := set_ok N (n : Int) (out := out) (nw := nw) (by omega) nw.length N 0 rd (by omega) (by omega) hnr
    rw [List.drop_zero] at e2
    have e2 : zaS_3 N (out ++ nw) (n : Int) (out.length, (out ++ nw).length) (nw.length : Int) N 0 rd = _ := e2
    have e3 : cutI (out ++ nw) (out.length : Int) ((out ++ nw).length : Int) = some nw := by
      rw [cutI_drop (by simp), List.drop_left]
    have e4 : List.drop (Int.toNat (out.length : Int)) (List.take (Int.toNat ((out ++ nw).length : Int)) (out ++ nw)) = nw := by
      rw [Int.toNat_natCast, Int.toNat_natCast, List.take_of_length_le (Nat.le_refl _), List.drop_left]
    rw [zaS_0, lt_def, e1, bind_some', e3, bind_some']
    simp only [e4]
    rw [Int.toNat_natCast, Int.toNat_natCast, e2, bind_some']
    by_cases hn : n = 0
    · subst hn
      have e5 : zaS_4 N (out ++ nw) ((0 : Nat) : Int) (out.length : Int) = some false := rfl
      rw [e5, bind_some', if_neg (by simp), lt_def, w64s (by omega)]
      refine rounds N hN m 1 _ _ hS ?_ (by omega)
      unfold remN at hm ⊢
      rw [List.length_append]
      simp at hm ⊢; omega
    · have e5 : zaS_4 N (out ++ nw) (n : Int) (out.length : Int) = some (((out ++ nw).length : Int) == (out.length : Int)) := by
        unfold zaS_4
        rw [if_pos (by simp; omega)]
      rw [e5, bind_some']
      by_cases he : nw = []
      · subst he
        rw [if_pos (by simp)]
        refine ⟨_, rd, rfl, ?_⟩
        rw [List.append_nil]
        refine ⟨h.sc, h.nd, fun p hp => ?_, h.ju, h.on, fun x hx hr => ?_⟩
        · obtain ⟨x, g1, g2, g3, g4, _⟩ := h.it p hp
          exact ⟨x, g1, g2, g3, g4⟩
        · obtain ⟨s1, s2⟩ := h.st (by omega) x hx hr
          refine ⟨s1, fun y hy => ⟨s2 y hy, fun hry => ?_⟩⟩
          have hw : whyF d a (rdx rd) x (n : Int) = none := by
            cases hw : whyF d a (rdx rd) x (n : Int) with
            | none => rfl
            | some p =>
              have : p ∈ passF d a (rdx rd) (n : Int) 0 d.items := pass_mem.2 ⟨x, by omega, by omega, by omega, hw⟩
              rw [hnw] at this; simp at this
          obtain ⟨_, w2⟩ := whyF_none hw
          obtain ⟨w3, w4⟩ := w2 y hy
          have w4 := w4 (by omega)
          have hlt : rdx rd y < n := by
            rcases h.on y with h1 | ⟨p, hp, he⟩
            · omega
            · obtain ⟨x', g1, g2, g3, g4, g5⟩ := h.it p hp
              have : x' = y := by omega
              subst this; omega
          have hp : puB (rdx rd) y n = true := by unfold puB; simp; omega
          unfold juB at w3 w4
          rw [if_neg (by omega), if_neg (by omega), if_neg (by omega), if_pos rfl, Int.toNat_natCast, hp] at w3
          rw [if_neg (by omega), if_neg (by omega), if_neg (by omega), if_neg (by omega), if_pos rfl, Int.toNat_natCast, hp] at w4
          exact ⟨by simpa using w3, by simpa using w4⟩
      · have hpos : 0 < nw.length := List.length_pos_iff.2 he
        rw [if_neg (by simp; omega), lt_def, w64s (by omega)]
        refine rounds N hN m (n + 1) _ _ hS ?_ (by omega)
        unfold remN at hm ⊢
        rw [List.length_append]
        simp [hn] at hm ⊢; omega
theorem PsOk.perm {d : Disorder} {a : List Spot} {out out' : List Pull} {rd : List Int} (h : PsOk d a out rd) (hp : out'.Perm out) : PsOk d a out' rd := by
  refine ⟨h.sc, (hp.map _).nodup_iff.2 h.nd, fun p hm => h.it p (hp.mem_iff.1 hm), fun p hm => h.ju p (hp.mem_iff.1 hm), fun x => ?_, h.st⟩
  rcases h.on x with h1 | ⟨p, hm, he⟩
  · exact .inl h1
  · exact .inr ⟨p, hp.mem_iff.2 hm, he⟩
end Go.W
end
section
set_option linter.unusedVariables false
set_option linter.unusedSimpArgs false
namespace Go.W
open Go.AM
theorem res_c {α : Type} (p : Nat → α → Bool) : ∀ (l : List α) (i : Nat), (res p (fun _ _ => false) i l = .inl () ∧ ∀ (j : Nat) (x : α), l[j]? = some x → p (i + j) x = false) ∨ (res p (fun _ _ => false) i l = .inr false ∧ ∃ (j : Nat) (x : α), l[j]? = some x ∧ p (i + j) x = true)
  | [], i => .inl ⟨rfl, fun j x h => by simp at h⟩
  | y :: l, i => by
    rw [res]
    by_cases h : p i y = true
    · rw [if_pos h]; exact .inr ⟨rfl, 0, y, by simp, h⟩
    · rw [if_neg h]
      rcases res_c p l (i + 1) with ⟨h1, h2⟩ | ⟨h1, j, x, h2, h3⟩
      · refine .inl ⟨h1, fun j x hx => ?_⟩
        cases j with
        | zero => simp at hx; subst hx; simpa using h
        | succ j => have := h2 j x (by simpa using hx); rwa [show i + 1 + j = i + (j + 1) by omega] at this
      · exact .inr ⟨h1, j + 1, x, by simpa using h2, by rwa [show i + 1 + j = i + (j + 1) by omega] at h3⟩
theorem at_uniq {d : Disorder} {a a' : List Spot} (hD : DOk d) (h : AtOk d a) (h' : AtOk d a') : a = a' := by
  refine List.ext_getElem (by rw [h.len, h'.len]) fun x h1 h2 => ?_
  obtain ⟨t, p, hp⟩ := hD.tk.all x (by rw [← h.len]; exact h1)
  have e1 := h.ps t p x hp
  have e2 := h'.ps t p x hp
  rw [at_lt h1] at e1
  rw [at_lt h2] at e2
  rw [← e2] at e1
  exact Option.some.inj e1
def badP (n : Nat) (rd : List Int) (p : Pull) : Bool := decide (p.item < 0) || (decide ((n : Int) ≤ p.item) || (decide (0 ≤ rdx rd p.item.toNat) || decide (p.round < 0)))
def ckR (n : Nat) : List Pull → List Int → Option (List Int)
  | [], rd => some rd
  | p :: l, rd => if badP n rd p = true then none else ckR n l (rd.set p.item.toNat p.round)
theorem ck0 (N : Nat) {d : Disorder} {l : List Pull} (hl : l.length ≤ 100000) : ∀ (k m i : Nat) (rd : List Int), k < m → i + k = l.length → rd.length = d.items.length →
    zaU_0 N d l (l.length : Int) m (i : Int) rd = some (match ckR d.items.length (l.drop i) rd with | some r => .inl r | none => .inr false)
  | k, 0, i, rd, h, _, _ => by omega
  | 0, m + 1, i, rd, h, hi, hr => by
    unfold zaU_0
    rw [if_neg (by simp; omega), List.drop_of_length_le (by omega), ckR]
  | k + 1, m + 1, i, rd, h, hi, hr => by
    have hlt : i < l.length := by omega
    have step : zaU_1 N d l[i] rd = some (badP d.items.length rd l[i]) := by
      unfold zaU_1 badP
      by_cases h1 : l[i].item < 0
      · rw [if_pos (by simpa using h1)]; simp [h1]
      · rw [if_neg (by simpa using h1)]
        by_cases h2 : (d.items.length : Int) ≤ l[i].item
        · rw [if_pos (by simpa using h2)]; simp [h2]
        · rw [if_neg (by simpa using h2)]
          obtain ⟨j, hj⟩ := Int.eq_ofNat_of_zero_le (show 0 ≤ l[i].item by omega)
          have hjr : j < rd.length := by omega
          have hg : getI rd l[i].item = some (rdx rd j) := by
            rw [hj, getI_nat (at_lt hjr)]; unfold rdx; rw [at_lt hjr]; rfl
          rw [hg, bind_some', bind_some', hj, Int.toNat_natCast]
          by_cases h3 : 0 ≤ rdx rd j
          · rw [if_pos (by simpa using h3)]; simp [h3]
          · rw [if_neg (by simpa using h3), decide_eq_false h3, decide_eq_false (by omega : ¬ (j : Int) < 0), decide_eq_false (by omega : ¬ (d.items.length : Int) ≤ (j : Int))]; rfl
    rw [zaU_0, if_pos (by simp; omega), getI_nat (at_lt hlt), bind_some', step, bind_some', drop_at (at_lt hlt), ckR]
    by_cases hb : badP d.items.length rd l[i] = true
    · rw [if_pos hb, if_pos hb]
    · rw [if_neg hb, if_neg hb]
      unfold badP at hb
      simp only [Bool.or_eq_true, decide_eq_true_eq, not_or] at hb
      obtain ⟨j, hj⟩ := Int.eq_ofNat_of_zero_le (show 0 ≤ l[i].item by omega)
      have hjr : j < rd.length := by omega
      have hg : getI rd l[i].item = some (rdx rd j) := by
        rw [hj, getI_nat (at_lt hjr)]; unfold rdx; rw [at_lt hjr]; rfl
      rw [hg, bind_some', bind_some', lt_def, w64s (by omega)]
      exact ck0 N hl k m (i + 1) _ (by omega) (by omega) (by rw [List.length_set]; exact hr)
structure CkS (n : Nat) (l : List Pull) (rd rd' : List Int) : Prop where
  len : rd'.length = rd.length
  it : ∀ p ∈ l, ∃ x : Nat, p.item = x ∧ x < n ∧ rdx rd' x = p.round ∧ 0 ≤ p.round ∧ ¬ 0 ≤ rdx rd x
  nd : (l.map Pull.item).Nodup
  on : ∀ x, rdx rd' x = rdx rd x ∨ ∃ p ∈ l, p.item = (x : Int)
  kp : ∀ x, 0 ≤ rdx rd x → rdx rd' x = rdx rd x
theorem ckR_some {n : Nat} : ∀ {l : List Pull} {rd rd' : List Int}, rd.length = n → ckR n l rd = some rd' → CkS n l rd rd'
  | [], rd, rd', hr, h => by
    cases h
    exact ⟨rfl, by simp, by simp, fun x => .inl rfl, fun x _ => rfl⟩
  | p :: l, rd, rd', hr, h => by
    rw [ckR] at h
    split at h
    · cases h
    · rename_i hb
      unfold badP at hb
      simp only [Bool.or_eq_true, decide_eq_true_eq, not_or] at hb
      have hS := ckR_some (by rw [List.length_set]; exact hr) h
      have hlt : p.item.toNat < rd.length := by omega
      have hset := fun x => rdx_set (rd := rd) (j := x) (v := p.round) hlt
      refine ⟨by rw [hS.len, List.length_set], fun q hq => ?_, ?_, fun x => ?_, fun x hx => ?_⟩
      · rcases List.mem_cons.1 hq with rfl | hq
        · refine ⟨q.item.toNat, by omega, by omega, ?_, by omega, hb.2.2.1⟩
          have e1 := hset q.item.toNat
          rw [if_pos rfl] at e1
          rw [hS.kp _ (by omega), e1]
        · obtain ⟨x, g1, g2, g3, g4, g5⟩ := hS.it q hq
          refine ⟨x, g1, g2, g3, g4, ?_⟩
          rw [hset x] at g5
          split at g5
          · omega
          · exact g5
      · rw [List.map_cons, List.nodup_cons]
        refine ⟨fun hm => ?_, hS.nd⟩
        obtain ⟨q, hq, he⟩ := List.mem_map.1 hm
        obtain ⟨x, g1, g2, g3, g4, g5⟩ := hS.it q hq
        rw [hset x, if_pos (by omega)] at g5
        omega
      · rcases hS.on x with h1 | ⟨q, hq, he⟩
        · rw [hset x] at h1
          split at h1
          · exact .inr ⟨p, List.mem_cons_self, by omega⟩
          · exact .inl h1
        · exact .inr ⟨q, List.mem_cons_of_mem _ hq, he⟩
      · have e1 := hset x
        rw [if_neg (fun e => by subst e; exact hb.2.2.1 hx)] at e1
        rw [hS.kp x (by omega), e1]
theorem ckR_ok {n : Nat} : ∀ {l : List Pull} {rd : List Int}, rd.length = n → (l.map Pull.item).Nodup → (∀ p ∈ l, ∃ x : Nat, p.item = x ∧ x < n ∧ 0 ≤ p.round ∧ ¬ 0 ≤ rdx rd x) → ∃ rd', ckR n l rd = some rd'
  | [], rd, _, _, _ => ⟨rd, rfl⟩
  | p :: l, rd, hr, hn, h => by
    obtain ⟨x, h1, h2, h3, h4⟩ := h p List.mem_cons_self
    rw [List.map_cons, List.nodup_cons] at hn
    rw [ckR, if_neg (by
      unfold badP
      simp only [Bool.or_eq_true, decide_eq_true_eq, not_or]
      refine ⟨by omega, by omega, ?_, by omega⟩
      rw [h1, Int.toNat_natCast]; exact h4)]
    refine ckR_ok (by rw [List.length_set]; exact hr) hn.2 fun q hq => ?_
    obtain ⟨y, k1, k2, k3, k4⟩ := h q (List.mem_cons_of_mem _ hq)
    refine ⟨y, k1, k2, k3, ?_⟩
    rw [rdx_set (by omega), if_neg]
    · exact k4
    · intro he
      refine hn.1 (List.mem_map.2 ⟨q, hq, ?_⟩)
      omega
def agB (d : Disorder) (a : List Spot) (rd : Nat → Int) (x y : Nat) : Bool := !homeB d a x || ((ahB d y x && neB a y x) || (decide (0 ≤ rd y) && (ahB d y x || neB a x y)))
def agX (d : Disorder) (a : List Spot) (rd : Nat → Int) (x : Nat) : Bool := (List.range d.items.length).any fun y => agB d a rd x y
theorem ck5 {d : Disorder} {a : List Spot} {rd : List Int} (hS : Sc d a rd) (N : Nat) (hN : 200 ≤ N) {x : Nat} (hx : x < d.items.length) (a0 : List Spot) (r0 : List Int) :
    zaU_5 N (Scene.mk d a0 r0) (x : Int) rd (d.items.length : Int) a N 0 = some (if agX d a (rdx rd) x = true then .inr false else .inl ()) := by
  have hli := hS.ok.li
  have h := first_gen (l := d.items) (fun y _ => agB d a (rdx rd) x y) (fun _ _ => false) (zaU_5 N (Scene.mk d a0 r0) (x : Int) rd (d.items.length : Int) a) (fun n => by unfold zaU_5; rw [if_neg (by simp)]) (fun n y w hw => by
    have hy := (List.getElem?_eq_some_iff.1 hw).1
    have e6 : zaU_6 N (Scene.mk d [] []) (x : Int) (y : Int) rd a = some (homeB d a x && (ahB d y x && neB a y x)) := by
      unfold zaU_6
      simp only
      rw [home_ok hS N hx, bind_some']
      cases homeB d a x with
      | false => rw [if_neg (by simp)]; rfl
      | true =>
        rw [if_pos rfl, ahead_ok hS N hx hy, bind_some']
        cases ahB d y x with
        | false => rw [if_neg (by simp)]; rfl
        | true => rw [if_pos rfl, near_ok hS N hy hx, bind_some']; rfl
    have e7 : zaU_7 N (Scene.mk d [] []) (x : Int) (y : Int) (homeB d a x && (ahB d y x && neB a y x)) rd a = some (agB d a (rdx rd) x y) := by
      unfold zaU_7 agB
      simp only
      rw [home_ok hS N hx, bind_some']
      cases homeB d a x with
      | false => rfl
      | true =>
        rw [if_neg (by simp)]
        by_cases h1 : (ahB d y x && neB a y x) = true
        · rw [h1]; rfl
        · have h1 : (ahB d y x && neB a y x) = false := by simpa using h1
          rw [h1, if_neg (by simp), rdx_at hS hy, bind_some', bind_some']
          by_cases h2 : 0 ≤ rdx rd y
          · rw [if_pos (by simpa using h2), ahead_ok hS N hx hy, bind_some', decide_eq_true h2]
            cases ahB d y x with
            | true => rfl
            | false => rw [if_neg (by simp), near_ok hS N hx hy, bind_some']; rfl
          · rw [if_neg (by simpa using h2), decide_eq_false h2]; rfl
    rw [zaU_5, if_pos (by simp; omega), e6, bind_some', e7, bind_some', w64s (by omega)]) d.items.length N 0 (by omega) (by omega)
  have h : zaU_5 N (Scene.mk d a0 r0) (x : Int) rd (d.items.length : Int) a N 0 = _ := h
  rw [h, List.drop_zero]
  congr 1
  unfold agX
  rcases res_c (fun y (_ : Item) => agB d a (rdx rd) x y) d.items 0 with ⟨h1, h2⟩ | ⟨h1, j, z, h2, h3⟩
  · rw [h1, if_neg]
    simp only [List.any_eq_true, not_exists, not_and]
    intro y hy
    have := h2 y _ (at_lt (List.mem_range.1 hy))
    simpa using this
  · rw [h1, if_pos]
    rw [List.any_eq_true]
    exact ⟨j, List.mem_range.2 (List.getElem?_eq_some_iff.1 h2).1, by simpa using h3⟩
def opB (d : Disorder) (a : List Spot) (rd : Nat → Int) : Bool := (List.range d.items.length).any fun x => !decide (0 ≤ rd x) && agX d a rd x
theorem ck3 {d : Disorder} {a : List Spot} {rd : List Int} (hS : Sc d a rd) (N : Nat) (hN : 200 ≤ N) (a0 : List Spot) (r0 : List Int) :
    zaU_3 N d (Scene.mk d a0 r0) rd (rd.length : Int) a N 0 = some (if opB d a (rdx rd) = true then .inr false else .inl ()) := by
  have hli := hS.ok.li
  have hrl := hS.rl
  have h := first_gen (l := rd) (fun x _ => !decide (0 ≤ rdx rd x) && agX d a (rdx rd) x) (fun _ _ => false) (zaU_3 N d (Scene.mk d a0 r0) rd (rd.length : Int) a) (fun n => by unfold zaU_3; rw [if_neg (by simp)]) (fun n x w hw => by
    have hx := (List.getElem?_eq_some_iff.1 hw).1
    rw [hrl] at hx
    have e4 : zaU_4 N d (Scene.mk d [] []) rd (x : Int) a = some (if (!decide (0 ≤ rdx rd x) && agX d a (rdx rd) x) = true then .inr false else .inl ()) := by
      unfold zaU_4
      rw [rdx_at hS hx, bind_some', bind_some']
      by_cases h1 : 0 ≤ rdx rd x
      · rw [if_pos (by simpa using h1), decide_eq_true h1]; rfl
      · rw [if_neg (by simpa using h1), decide_eq_false h1]
        simp only
        rw [ck5 hS N hN hx, bind_some']
        cases agX d a (rdx rd) x <;> rfl
    rw [zaU_3, if_pos (by simp; omega), e4, bind_some']
    by_cases hc : (!decide (0 ≤ rdx rd x) && agX d a (rdx rd) x) = true
    · rw [if_pos hc, if_pos hc]
    · rw [if_neg hc, if_neg hc]
      simp only
      rw [w64s (by omega)]) rd.length N 0 (by omega) (by omega)
  have h : zaU_3 N d (Scene.mk d a0 r0) rd (rd.length : Int) a N 0 = _ := h
  rw [h, List.drop_zero]
  congr 1
  unfold opB
  rcases res_c (fun x (_ : Int) => !decide (0 ≤ rdx rd x) && agX d a (rdx rd) x) rd 0 with ⟨h1, h2⟩ | ⟨h1, j, z, h2, h3⟩
  · rw [h1, if_neg]
    simp only [List.any_eq_true, not_exists, not_and]
    intro y hy
    have := h2 y _ (at_lt (by rw [hrl]; exact List.mem_range.1 hy))
    rw [Nat.zero_add] at this
    rw [this]; simp
  · rw [h1, if_pos]
    rw [List.any_eq_true]
    exact ⟨j, List.mem_range.2 (by rw [← hrl]; exact (List.getElem?_eq_some_iff.1 h2).1), by simpa using h3⟩
theorem opB_iff {d : Disorder} {a : List Spot} {rd : Nat → Int} (hn : ∀ x, 0 ≤ rd x ∨ rd x = -1) : opB d a rd = false ↔ ∀ x, x < d.items.length → rd x = -1 → homeB d a x = true ∧ ∀ y, y < d.items.length → (ahB d y x && neB a y x) = false ∧ (0 ≤ rd y → ahB d y x = false ∧ neB a x y = false) := by
  unfold opB agX
  constructor
  · intro h x hx hr
    rw [List.any_eq_false] at h
    have h1 := h x (List.mem_range.2 hx)
    rw [decide_eq_false (by omega), Bool.not_false, Bool.true_and, Bool.not_eq_true, List.any_eq_false] at h1
    have key : ∀ y, y < d.items.length → homeB d a x = true ∧ (ahB d y x && neB a y x) = false ∧ (0 ≤ rd y → ahB d y x = false ∧ neB a x y = false) := by
      intro y hy
      have := h1 y (List.mem_range.2 hy)
      unfold agB at this
      simp only [Bool.or_eq_true, not_or, Bool.not_eq_true, Bool.not_eq_false'] at this
      obtain ⟨g1, g2, g3⟩ := this
      refine ⟨g1, g2, fun h0 => ?_⟩
      rw [decide_eq_true h0, Bool.true_and, Bool.or_eq_false_iff] at g3
      exact g3
    exact ⟨(key x hx).1, fun y hy => (key y hy).2⟩
  · intro h
    rw [List.any_eq_false]
    intro x hx
    have hx := List.mem_range.1 hx
    rcases hn x with h0 | h0
    · rw [decide_eq_true h0]; simp
    · rw [decide_eq_false (by omega), Bool.not_false, Bool.true_and, Bool.not_eq_true, List.any_eq_false]
      obtain ⟨g1, g2⟩ := h x hx h0
      intro y hy
      obtain ⟨g3, g4⟩ := g2 y (List.mem_range.1 hy)
      unfold agB
      rw [g1, g3]
      by_cases h2 : 0 ≤ rd y
      · obtain ⟨g5, g6⟩ := g4 h2
        rw [g5, g6]; simp
      · rw [decide_eq_false h2]; simp
theorem check_ok (N : Nat) (hN : 1000 ≤ N) {d : Disorder} (hD : DOk d) {a : List Spot} (hA : AtOk d a) (l : List Pull) (hl : l.length ≤ 900) : ∃ b, zaU N d l = some b ∧ (b = true ↔ ∃ rd, PsOk d a l rd) := by
  have hli := hD.li
  obtain ⟨a', h1, h2⟩ := open_ok N (by omega) hD
  obtain rfl := at_uniq hD hA h2
  have e0 := ck0 N (d := d) (l := l) (by omega) l.length N 0 (List.replicate d.items.length (-1)) (by omega) (by omega) (by simp)
  have e0 : zaU_0 N d l (l.length : Int) N 0 (List.replicate d.items.length (-1)) = _ := e0
  rw [List.drop_zero] at e0
  have hr0 : ∀ x, rdx (List.replicate d.items.length (-1)) x = -1 := by
    intro x
    unfold rdx
    rw [List.getElem?_replicate]
    split <;> rfl
  unfold zaU
  rw [h1, bind_some']
  simp only
  rw [e0, bind_some']
  cases hc : ckR d.items.length l (List.replicate d.items.length (-1)) with
  | none =>
    simp only
    refine ⟨false, rfl, ?_⟩
    constructor
    · intro h; cases h
    · rintro ⟨rd, hP⟩
      obtain ⟨rd', hh⟩ := ckR_ok (n := d.items.length) (l := l) (rd := List.replicate d.items.length (-1)) (by simp) hP.nd (fun p hp => by
        obtain ⟨x, g1, g2, _, g4⟩ := hP.it p hp
        exact ⟨x, g1, g2, g4, by rw [hr0]; omega⟩)
      rw [hc] at hh; cases hh
  | some rd =>
    simp only
    have hS := ckR_some (by simp) hc
    have hsc : Sc d a rd := ⟨hD, hA, by rw [hS.len]; simp⟩
    have hn : ∀ x, 0 ≤ rdx rd x ∨ rdx rd x = -1 := by
      intro x
      rcases hS.on x with h | ⟨p, hp, he⟩
      · rw [hr0] at h; exact .inr h
      · obtain ⟨y, g1, g2, g3, g4, _⟩ := hS.it p hp
        have : y = x := by omega
        subst this; left; omega
    have e2 := first_gen (l := l) (fun _ p => !juB d a (rdx rd) p.item.toNat p.reason p.because p.round) (fun _ _ => false) (zaU_2 N (Scene.mk d [] []) l (l.length : Int) a rd) (fun n => by unfold zaU_2; rw [if_neg (by simp)]) (fun n i p hp => by
      have hi := (List.getElem?_eq_some_iff.1 hp).1
      obtain ⟨x, g1, g2, _⟩ := hS.it p (List.mem_of_getElem? hp)
      rw [zaU_2, if_pos (by simp; omega), getI_nat hp, bind_some']
      simp only
      rw [g1, just_ok hsc N g2, bind_some', Int.toNat_natCast, w64s (by omega)]) l.length N 0 (by omega) (by omega)
    have e2 : zaU_2 N (Scene.mk d [] []) l (l.length : Int) a rd N 0 = _ := e2
    rw [e2, bind_some', List.drop_zero]
    have mk : ∀ rd', PsOk d a l rd' → rdx rd' = rdx rd := by
      intro rd' hP
      funext x
      by_cases hx : ∃ p ∈ l, p.item = (x : Int)
      · obtain ⟨p, hp, he⟩ := hx
        obtain ⟨y, g1, _, g3, _⟩ := hP.it p hp
        obtain ⟨y', g1', _, g3', _⟩ := hS.it p hp
        have e1 : y = x := by omega
        have e2 : y' = x := by omega
        subst e1; subst e2
        omega
      · rcases hP.on x with h | h
        · rcases hS.on x with h' | h'
          · rw [hr0] at h'; omega
          · exact (hx h').elim
        · exact (hx h).elim
    rcases res_c (fun (_ : Nat) (p : Pull) => !juB d a (rdx rd) p.item.toNat p.reason p.because p.round) l 0 with ⟨q1, q2⟩ | ⟨q1, j, p, q2, q3⟩
    · rw [q1]
      simp only
      rw [ck3 hsc N (by omega), bind_some']
      have hju : ∀ p ∈ l, ∀ x : Nat, p.item = x → juB d a (rdx rd) x p.reason p.because p.round = true := by
        intro p hp x hx
        obtain ⟨j, hj, he⟩ := List.mem_iff_getElem.1 hp
        have := q2 j p (by rw [List.getElem?_eq_getElem hj, he])
        simp only [Bool.not_eq_false'] at this
        rwa [hx, Int.toNat_natCast] at this
      cases ho : opB d a (rdx rd) with
      | true =>
        refine ⟨false, rfl, ?_⟩
        constructor
        · intro h; cases h
        · rintro ⟨rd', hP⟩
          have := (opB_iff hn).2 (by
            have := hP.st
            rw [mk rd' hP] at this
            exact this)
          rw [ho] at this; cases this
      | false =>
        refine ⟨true, rfl, ?_⟩
        constructor
        · intro _
          refine ⟨rd, hsc, hS.nd, fun p hp => ?_, hju, fun x => ?_, (opB_iff hn).1 ho⟩
          · obtain ⟨x, g1, g2, g3, g4, _⟩ := hS.it p hp
            exact ⟨x, g1, g2, g3, g4⟩
          · rcases hS.on x with h | h
            · rw [hr0] at h; exact .inl h
            · exact .inr h
        · intro _; rfl
    · rw [q1]
      simp only
      refine ⟨false, rfl, ?_⟩
      constructor
      · intro h; cases h
      · rintro ⟨rd', hP⟩
        have hp := List.mem_of_getElem? q2
        obtain ⟨x, g1, g2, _⟩ := hP.it p hp
        have := hP.ju p hp x g1
        rw [mk rd' hP] at this
        rw [g1, Int.toNat_natCast, this] at q3
        cases q3
theorem Check_ok (N : Nat) (hN : 1000 ≤ N) {d : Disorder} (hD : DOk d) {a : List Spot} (hA : AtOk d a) (l : List Pull) (hl : l.length ≤ 900) : ∃ b, zaR N d l = some (b, 0) ∧ (b = true ↔ ∃ rd, PsOk d a l rd) := by
  obtain ⟨b, h1, h2⟩ := check_ok N hN hD hA l hl
  unfold zaR
  rw [valid_ok N (by omega) hD, bind_some', if_neg (by simp), h1, bind_some']
  exact ⟨b, rfl, h2⟩
end Go.W
end
section
set_option linter.unusedVariables false
set_option linter.unusedSimpArgs false
set_option maxRecDepth 100000
namespace Go.W
open Go.AM
theorem srt_eq {α : Type} (x0 : α) (f : α → Int) {out l : List α} (hp : out.Perm l) (hl : l.Pairwise fun x y => f x < f y) (hs : out.length < 1000000) : @srtI α ⟨x0⟩ (fun a b => cmpI (f a) (f b)) out = some l := by
  letI : Inhabited α := ⟨x0⟩
  unfold srtI
  rw [if_pos (by omega)]
  congr 1
  have h1 := (srtL_perm (fun a b => cmpI (f a) (f b)) (swo_key f) out).trans hp
  have h2 := srtL_sorted f out
  have inj : ∀ a ∈ l, ∀ b ∈ l, f a = f b → a = b := by
    intro a ha b hb hab
    obtain ⟨i, hi, rfl⟩ := List.mem_iff_getElem.1 ha
    obtain ⟨j, hj, rfl⟩ := List.mem_iff_getElem.1 hb
    rcases Nat.lt_trichotomy i j with h | h | h
    · have := (List.pairwise_iff_getElem.1 hl) i j hi hj h; omega
    · subst h; rfl
    · have := (List.pairwise_iff_getElem.1 hl) j i hj hi h; omega
  refine List.Perm.eq_of_pairwise (le := fun x y => f x ≤ f y) (fun a b ha hb h h' => inj a (h1.mem_iff.1 ha) b hb (by omega)) h2 (hl.imp fun h => by omega) h1
def disA : Disorder := Disorder.mk [(Item.mk 0 1 0 100), (Item.mk 0 0 0 100)] [0] [[0, 1]]
def disB : Disorder := Disorder.mk [(Item.mk 0 2 0 100), (Item.mk 0 1 0 100)] [0] [[0], [1]]
theorem saneA : zaS 1000 disA = some ([(Pull.mk 0 3 1 0), (Pull.mk 1 2 0 1)], 0) := by
  have h1 : zaT 1000 disA = some true := by kernel_rfl
  have h2 : zbA 1000 disA = some (Scene.mk disA [] [], [Spot.mk 0 0, Spot.mk 0 1], [-1, -1]) := by kernel_rfl
  have h3 : zaS_0 1000 disA (Scene.mk disA [] []) [Spot.mk 0 0, Spot.mk 0 1] 1000 [] 0 [-1, -1] = some [(Pull.mk 0 3 1 0), (Pull.mk 1 2 0 1)] := by kernel_rfl
  unfold zaS
  rw [h1, bind_some', if_neg (by simp), h2, bind_some']
  simp only
  rw [h3, bind_some', srt_eq (Pull.mk 0 0 0 0) Pull.item (List.Perm.refl _) (by simp) (by simp), bind_some']
theorem saneB : zaS 1000 disB = some ([(Pull.mk 0 3 1 1), (Pull.mk 1 1 (-1) 0)], 0) := by
  have h1 : zaT 1000 disB = some true := by kernel_rfl
  have h2 : zbA 1000 disB = some (Scene.mk disB [] [], [Spot.mk 0 0, Spot.mk 1 0], [-1, -1]) := by kernel_rfl
  have h3 : zaS_0 1000 disB (Scene.mk disB [] []) [Spot.mk 0 0, Spot.mk 1 0] 1000 [] 0 [-1, -1] = some [(Pull.mk 1 1 (-1) 0), (Pull.mk 0 3 1 1)] := by kernel_rfl
  unfold zaS
  rw [h1, bind_some', if_neg (by simp), h2, bind_some']
  simp only
  rw [h3, bind_some', srt_eq (Pull.mk 0 0 0 0) Pull.item (List.Perm.swap _ _ _) (by simp) (by simp), bind_some']
theorem sane33 : zbX 1000 = some true := by
  unfold zbX
  have hA := saneA
  have hB := saneB
  unfold disA at hA
  unfold disB at hB
  rw [hA, bind_some', hB, bind_some']
  have hC : zaR 1000 (Disorder.mk [(Item.mk 0 2 0 100), (Item.mk 0 1 0 100)] [0] [[0], [1]]) [(Pull.mk 0 3 1 1), (Pull.mk 1 1 (-1) 0)] = some (true, 0) := by kernel_rfl
  simp only
  rw [hC, bind_some']
  have hZ : zbX_0 1000 [(Pull.mk 0 3 1 0), (Pull.mk 1 2 0 1)] 0 [(Pull.mk 0 3 1 1), (Pull.mk 1 1 (-1) 0)] 0 true 0 = some true := by kernel_rfl
  simp only
  rw [hZ, bind_some']
theorem pulled_ok (N : Nat) (l : List Pull) (x : Int) (hl : l.length < N) (hl2 : l.length ≤ 100000) : ∃ b, zbE N l x = some b ∧ (b = true ↔ ∃ p ∈ l, p.item = x) := by
  have h := first_gen (l := l) (fun _ p => p.item == x) (fun _ _ => true) (zbE_0 N l x) (fun n => by unfold zbE_0; rw [if_neg (by simp)]) (fun n i p hp => by
    have hi := (List.getElem?_eq_some_iff.1 hp).1
    rw [zbE_0, if_pos (by simp; omega), getI_nat hp, bind_some', w64s (by omega), lt_def]) l.length N 0 hl (by omega)
  have h : zbE_0 N l x N 0 = _ := h
  unfold zbE
  rw [h, bind_some', List.drop_zero]
  have key : ∀ (l : List Pull) (i : Nat), (res (fun (_ : Nat) p => p.item == x) (fun _ _ => true) i l = .inl () ∧ ¬ ∃ p ∈ l, p.item = x) ∨ (res (fun (_ : Nat) p => p.item == x) (fun _ _ => true) i l = .inr true ∧ ∃ p ∈ l, p.item = x) := by
    intro l
    induction l with
    | nil => intro i; exact .inl ⟨rfl, by simp⟩
    | cons p l ih =>
      intro i
      rw [res]
      by_cases hp : p.item = x
      · rw [if_pos (by simpa using hp)]; exact .inr ⟨rfl, p, by simp, hp⟩
      · rw [if_neg (by simpa using hp)]
        rcases ih (i + 1) with ⟨h1, h2⟩ | ⟨h1, q, h2, h3⟩
        · refine .inl ⟨h1, ?_⟩
          rintro ⟨q, hq, he⟩
          rcases List.mem_cons.1 hq with rfl | hq
          · exact hp he
          · exact h2 ⟨q, hq, he⟩
        · exact .inr ⟨h1, q, List.mem_cons_of_mem _ h2, h3⟩
  rcases key l 0 with ⟨h1, h2⟩ | ⟨h1, h2⟩
  · rw [h1]; exact ⟨false, rfl, by simpa using h2⟩
  · rw [h1]; exact ⟨true, rfl, by simpa using h2⟩
theorem PsOk.len {d : Disorder} {a : List Spot} {out : List Pull} {rd : List Int} (h : PsOk d a out rd) : out.length ≤ d.items.length := by
  have h1 : (out.map Pull.item).length ≤ ((List.range d.items.length).map fun (x : Nat) => (x : Int)).length := by
    refine List.Nodup.length_le_of_subset h.nd fun i hi => ?_
    obtain ⟨p, hp, rfl⟩ := List.mem_map.1 hi
    obtain ⟨x, h1, h2, _⟩ := h.it p hp
    exact List.mem_map.2 ⟨x, List.mem_range.2 h2, h1.symm⟩
  simpa using h1
end Go.W
end
section
set_option linter.unusedVariables false
set_option linter.unusedSimpArgs false
namespace Go.W
open Go.AM
def pulB (l : List Pull) (i : Int) : Bool := decide (∃ p ∈ l, p.item = i)
theorem conF (N : Nat) (l : List Pull) (i : Int) (hN : l.length < N) (hl : l.length ≤ 100000) : zaA N l i = some (pulB l i) := by
  unfold zaA zaB
  have h := first_gen (l := l) (fun _ p => p.item == i) (fun j _ => (j : Int)) (zaB_0 N l i (l.length : Int)) (fun n => by unfold zaB_0; rw [if_neg (by simp)]) (fun n j p hp => by
    have hj := (List.getElem?_eq_some_iff.1 hp).1
    have h1 : zaI N p i = some (p.item == i) := rfl
    rw [zaB_0, if_pos (by simp; omega), getI_nat hp, bind_some', h1, bind_some', w64s (by omega)]) l.length N 0 hN (by omega)
  have h : zaB_0 N l i (l.length : Int) N 0 = _ := h
  rw [h, bind_some', List.drop_zero]
  have e : ∀ r : Int, (firstI (fun (_ : Nat) (p : Pull) => p.item == i) 0 l = r) → decide (0 ≤ r) = pulB l i := by
    intro r hr
    unfold pulB
    rcases firstI_spec (fun (_ : Nat) (p : Pull) => p.item == i) l 0 with ⟨h1, h2⟩ | ⟨j, p, h1, h2, h3, h4⟩
    · rw [← hr, h1]
      symm
      rw [show (decide ((0 : Int) ≤ -1)) = false from rfl, decide_eq_false_iff_not]
      rintro ⟨p, hp, he⟩
      obtain ⟨j, hj, hh⟩ := List.mem_iff_getElem.1 hp
      have := h2 j p (by rw [List.getElem?_eq_getElem hj, hh])
      simp [he] at this
    · rw [← hr, h1, decide_eq_true (by omega)]
      symm
      rw [decide_eq_true_iff]
      exact ⟨p, List.mem_of_getElem? h2, by simpa using h3⟩
  rcases res_first (fun (_ : Nat) (p : Pull) => p.item == i) l 0 with ⟨h1, h2⟩ | ⟨h1, h2⟩
  · rw [h1]
    simp only
    rw [bind_some', lt_def, e _ h2]
  · rw [h1]
    simp only
    rw [bind_some', lt_def, e _ rfl]
theorem set_self {α : Type} {l : List α} {i : Nat} {a : α} (h : l[i]? = some a) : l.set i a = l := by
  apply List.ext_getElem?
  intro j
  rw [List.getElem?_set]
  have hi := (List.getElem?_eq_some_iff.1 h).1
  by_cases hij : i = j
  · subst hij; rw [if_pos rfl, if_pos hi, h]
  · simp [hij]
def kpB (l : List Pull) (stay : Bool) (i : Int) : Bool := !(pulB l i == stay)
theorem split1 (N : Nat) (hN : 1000 ≤ N) (ps : List Pull) (hp : ps.length ≤ 900) (stay : Bool) (t : Nat) (l : List Int) (hl : l.length ≤ 1000) : ∀ (k m i : Nat) (x7 : List (List Int)) (cur : List Int), k < m → i + k = l.length → cur.length + k ≤ 2000 → x7[t]? = some cur →
    zaV_1 N ps stay (t : Int) l (l.length : Int) m x7 (i : Int) = some (x7.set t (cur ++ (l.drop i).filter (kpB ps stay)))
  | k, 0, i, x7, cur, h, _, _, _ => by omega
  | 0, m + 1, i, x7, cur, h, hi, hc, hx => by
    unfold zaV_1
    rw [if_neg (by simp; omega), List.drop_of_length_le (by omega), List.filter_nil, List.append_nil, set_self hx]
  | k + 1, m + 1, i, x7, cur, h, hi, hc, hx => by
    have hlt : i < l.length := by omega
    have ht := (List.getElem?_eq_some_iff.1 hx).1
    rw [zaV_1, if_pos (by simp; omega)]
    have step : zaV_2 N ps stay x7 (t : Int) l (i : Int) = some (if kpB ps stay l[i] = true then x7.set t (cur ++ [l[i]]) else x7) := by
      unfold zaV_2
      rw [getI_nat (at_lt hlt), bind_some', conF N ps _ (by omega) (by omega), bind_some']
      show (if kpB ps stay l[i] = true then _ else _) = _
      by_cases hk : kpB ps stay l[i] = true
      · rw [if_pos hk, if_pos hk, getI_nat hx, bind_some', bind_some', appI_ok (by simp; omega), bind_some', bind_some', if_pos rfl, bind_some', Int.toNat_natCast]
      · rw [if_neg hk, if_neg hk]
    rw [step, bind_some', w64s (by omega), drop_at (at_lt hlt), List.filter_cons]
    by_cases hk : kpB ps stay l[i] = true
    · rw [if_pos hk, if_pos hk, split1 N hN ps hp stay t l hl k m (i + 1) _ (cur ++ [l[i]]) (by omega) (by omega) (by simp; omega) (by rw [List.getElem?_set_self ht]), List.set_set, List.append_assoc]
      rfl
    · rw [if_neg hk, if_neg hk, split1 N hN ps hp stay t l hl k m (i + 1) x7 cur (by omega) (by omega) (by omega) hx]
theorem split0 (N : Nat) (hN : 1000 ≤ N) (ps : List Pull) (hp : ps.length ≤ 900) (stay : Bool) (ts : List (List Int)) (hts : ts.length ≤ 900) (hl : ∀ l ∈ ts, l.length ≤ 900) : ∀ (k m t : Nat) (x7 : List (List Int)), k < m → t + k = ts.length → x7.length = ts.length →
    (∀ (t' : Nat) (l : List Int), ts[t']? = some l → x7[t']? = some (if t' < t then l.filter (kpB ps stay) else [])) → zaV_0 N ps stay ts (ts.length : Int) m x7 (t : Int) = some (ts.map fun l => l.filter (kpB ps stay))
  | k, 0, t, x7, h, _, _, _ => by omega
  | 0, m + 1, t, x7, h, ht, hx, hI => by
    unfold zaV_0
    rw [if_neg (by simp; omega)]
    congr 1
    refine List.ext_getElem (by simp [hx]) fun j h1 h2 => ?_
    have := hI j _ (at_lt (by omega))
    rw [at_lt h1, if_pos (by omega)] at this
    rw [List.getElem_map]
    exact Option.some.inj this
  | k + 1, m + 1, t, x7, h, ht, hx, hI => by
    have hlt : t < ts.length := by omega
    have hc := hI t _ (at_lt hlt)
    rw [if_neg (by omega)] at hc
    have hll := hl _ (List.getElem_mem hlt)
    have h1 := split1 N hN ps hp stay t ts[t] (by omega) ts[t].length N 0 x7 [] (by omega) (by omega) (by simp; omega) hc
    have h1 : zaV_1 N ps stay (t : Int) ts[t] (ts[t].length : Int) N x7 0 = _ := h1
    rw [zaV_0, if_pos (by simp; omega), getI_nat (at_lt hlt), bind_some', h1, bind_some', w64s (by omega), List.drop_zero, List.nil_append]
    refine split0 N hN ps hp stay ts hts hl k m (t + 1) _ (by omega) (by omega) (by simp [hx]) fun t' l hl' => ?_
    rw [List.getElem?_set]
    by_cases he : t = t'
    · subst he
      rw [if_pos rfl, if_pos (by omega), if_pos (by omega)]
      rw [at_lt hlt] at hl'; cases hl'; rfl
    · rw [if_neg he, hI t' l hl']
      congr 1
      by_cases h2 : t' < t
      · rw [if_pos h2, if_pos (by omega)]
      · rw [if_neg h2, if_neg (by omega)]
theorem trk_len {d : Disorder} (hD : DOk d) : ∀ l ∈ d.tracks, l.length ≤ 96 := by
  intro l hl
  obtain ⟨t, ht, he⟩ := List.mem_iff_getElem.1 hl
  have h0 : d.tracks[t]? = some l := by rw [List.getElem?_eq_getElem ht, he]
  have h1 := tot_succ h0
  have h2 := tot_le (ts := d.tracks) (d.tracks.length - (t + 1)) (t + 1)
  rw [show t + 1 + (d.tracks.length - (t + 1)) = d.tracks.length by omega, hD.tk.tot] at h2
  have := hD.li
  omega
theorem split_ok (N : Nat) (hN : 1000 ≤ N) {d : Disorder} (hD : DOk d) (ps : List Pull) (hp : ps.length ≤ 900) (stay : Bool) : zaV N d ps stay = some (d.tracks.map fun l => l.filter (kpB ps stay)) := by
  have := hD.lt
  unfold zaV
  rw [mkI_ok (by omega) (by omega), bind_some']
  have h := split0 N hN ps hp stay d.tracks (by omega) (fun l hl => by have := trk_len hD l hl; omega) d.tracks.length N 0 (List.replicate (d.tracks.length : Int).toNat []) (by omega) (by omega) (by simp) (fun t' l hl => by
    have := (List.getElem?_eq_some_iff.1 hl).1
    rw [List.getElem?_replicate, if_pos (by simpa using this), if_neg (by omega)])
  have h : zaV_0 N ps stay d.tracks (d.tracks.length : Int) N (List.replicate (d.tracks.length : Int).toNat []) 0 = _ := h
  rw [h, bind_some']
theorem rest_ok (N : Nat) (hN : 1000 ≤ N) {d : Disorder} (hD : DOk d) {a : List Spot} {ps : List Pull} {rd : List Int} (hP : PsOk d a ps rd) : zaZ N d ps = some (d.tracks.map (fun l => l.filter (kpB ps true)), 0) := by
  have hli := hD.li
  have hlen := hP.len
  obtain ⟨b, g1, g2⟩ := Check_ok N hN hD hP.sc.at' ps (by omega)
  have hb : b = true := g2.2 ⟨rd, hP⟩
  subst hb
  unfold zaZ
  rw [g1, bind_some', lt_def, if_neg (by simp), lt_def, if_neg (by simp), split_ok N hN hD ps (by omega) true, bind_some']
  simp
theorem mem_flat {ts : List (List Int)} {i : Int} : i ∈ ts.flatten ↔ ∃ t p, posD ts t p = some i := by
  rw [List.mem_flatten]
  constructor
  · rintro ⟨l, hl, hi⟩
    obtain ⟨t, ht, he⟩ := List.mem_iff_getElem.1 hl
    obtain ⟨p, hp, hh⟩ := List.mem_iff_getElem.1 hi
    refine ⟨t, p, ?_⟩
    unfold posD
    rw [List.getElem?_eq_getElem ht, he, Option.bind_some, List.getElem?_eq_getElem hp, hh]
  · rintro ⟨t, p, h⟩
    unfold posD at h
    cases hl : ts[t]? with
    | none => rw [hl] at h; cases h
    | some l =>
      rw [hl] at h
      exact ⟨l, List.mem_of_getElem? hl, List.mem_of_getElem? h⟩
theorem flat_nd {ts : List (List Int)} {n : Nat} (h : TkOk ts n) : ts.flatten.Nodup := by
  rw [List.Nodup, List.pairwise_flatten]
  constructor
  · intro l hl
    obtain ⟨t, ht, he⟩ := List.mem_iff_getElem.1 hl
    refine List.pairwise_iff_getElem.2 fun i j hi hj hij hh => ?_
    have e1 : posD ts t i = some l[i] := by unfold posD; rw [List.getElem?_eq_getElem ht, he]; exact at_lt hi
    have e2 : posD ts t j = some l[j] := by unfold posD; rw [List.getElem?_eq_getElem ht, he]; exact at_lt hj
    rw [← hh] at e2
    have := (h.inj _ _ _ _ _ e1 e2).2
    omega
  · refine List.pairwise_iff_getElem.2 fun t t' ht ht' hlt => ?_
    intro i hi i' hi' hii
    subst hii
    obtain ⟨p, hp, hh⟩ := List.mem_iff_getElem.1 hi
    obtain ⟨q, hq, hg⟩ := List.mem_iff_getElem.1 hi'
    have e1 : posD ts t p = some i := by unfold posD; rw [List.getElem?_eq_getElem ht, Option.bind_some, List.getElem?_eq_getElem hp, hh]
    have e2 : posD ts t' q = some i := by unfold posD; rw [List.getElem?_eq_getElem ht', Option.bind_some, List.getElem?_eq_getElem hq, hg]
    have := (h.inj _ _ _ _ _ e1 e2).1
    omega
end Go.W
end
