/- W1 WLib LBas LRp1 LRp2 LRp3 LRp4 LRp5 LRpP LRpS LRpL -/
import Derived.Test.YtnmaanodnakopaaProg
import Derived.IntWalk
import Derived.Test.YtnmaanodnakopaaMd
section
set_option linter.unusedVariables false
set_option linter.unusedSimpArgs false
set_option maxRecDepth 100000
set_option maxHeartbeats 1000000
namespace Go.W
open Go.AM Go.Proofs
noncomputable def Ty3 : Ty Int := TyOf 3 [.int .i64] fun x => (x, ())
noncomputable def Ty4 : Ty Bool := TyOf 4 [.bool] fun x => (x, ())
noncomputable def Ty22 : Ty (List Int) := TyOf 22 [.sl Int Ty3] fun x => (x, ())
noncomputable def Ty44 : Ty Item := TyOf 44 [.int .i64, .int .i64, .int .i64, .int .i64] fun x => (x.train, x.block, x.round, x.length, ())
noncomputable def Ty25 : Ty (List Item) := TyOf 25 [.sl Item Ty44] fun x => (x, ())
noncomputable def Ty26 : Ty (List (List Int)) := TyOf 26 [.sl (List Int) Ty22] fun x => (x, ())
noncomputable def Ty28 : Ty Disorder := TyOf 28 [.sl Item Ty44, .sl Int Ty3, .sl (List Int) Ty22] fun x => (x.items, x.homes, x.tracks, ())
noncomputable def Ty39 : Ty Pull := TyOf 39 [.int .i64, .int .i64, .int .i64, .int .i64] fun x => (x.item, x.reason, x.because, x.round, ())
noncomputable def Ty69 : Ty Maker := TyOf 69 [.sl Int Ty3, .int .i64] fun x => (x.l, x.n, ())
noncomputable def Ty121 : Ty Spot := TyOf 121 [.int .i64, .int .i64] fun x => (x.track, x.place, ())
noncomputable def Ty73 : Ty (List Spot) := TyOf 73 [.sl Spot Ty121] fun x => (x, ())
noncomputable def Ty75 : Ty Scene := TyOf 75 [.sl Item Ty44, .sl Int Ty3, .sl (List Int) Ty22, .sl Spot Ty121, .sl Int Ty3] fun x => (x.d.items, x.d.homes, x.d.tracks, x.at_, x.round, ())
structure TE where
  α : Type
  T : Ty α
  kc : α → List Value
noncomputable def tabL : Nat → TE
  | 3 => ⟨Int, Ty3, kInt .i64⟩
  | 4 => ⟨Bool, Ty4, kBool⟩
  | 22 => ⟨(List Int), Ty22, fun _ => []⟩
  | 44 => ⟨Item, Ty44, fun _ => []⟩
  | 25 => ⟨(List Item), Ty25, fun _ => []⟩
  | 26 => ⟨(List (List Int)), Ty26, fun _ => []⟩
  | 28 => ⟨Disorder, Ty28, fun _ => []⟩
  | 39 => ⟨Pull, Ty39, fun _ => []⟩
  | 69 => ⟨Maker, Ty69, fun _ => []⟩
  | 121 => ⟨Spot, Ty121, fun _ => []⟩
  | 73 => ⟨(List Spot), Ty73, fun _ => []⟩
  | 75 => ⟨Scene, Ty75, fun _ => []⟩
  | _ => ⟨Bool, TBool 4, kBool⟩
noncomputable def D (t : Nat) : Type := (tabL t).α
noncomputable def G : Tab D := ⟨fun t => (tabL t).T, fun t => (tabL t).kc⟩
noncomputable def ti3 : TI Try.prog G 3 := tiOf [.int .i64] (fun (x : Int) => (x, ())) (fun y => (y.1 : Int)) (fun _ => rfl) (fun _ => rfl) (0 : Int) Try.t3 (.int .i64 0) rfl Try.type3 rfl rfl rfl rfl rfl rfl (fun z => ⟨rfl, trivial⟩) rfl
noncomputable def ti4 : TI Try.prog G 4 := tiOf [.bool] (fun (x : Bool) => (x, ())) (fun y => (y.1 : Bool)) (fun _ => rfl) (fun _ => rfl) (false : Bool) Try.t4 (.bool false) rfl Try.type4 rfl rfl rfl rfl rfl rfl (fun z => ⟨rfl, trivial⟩) rfl
noncomputable def ti22 : TI Try.prog G 22 := tiOf [.sl 3] (fun (x : (List Int)) => (x, ())) (fun y => (y.1 : (List Int))) (fun _ => rfl) (fun _ => rfl) ([] : (List Int)) Try.t22 (.slice none 0 0) rfl Try.type22 rfl rfl rfl rfl rfl rfl (fun z => ⟨.inl ⟨rfl, rfl⟩, trivial⟩) rfl
noncomputable def ti44 : TI Try.prog G 44 := tiOf [.int .i64, .int .i64, .int .i64, .int .i64] (fun (x : Item) => (x.train, x.block, x.round, x.length, ())) (fun y => ((Item.mk y.1 y.2.1 y.2.2.1 y.2.2.2.1) : Item)) (fun _ => rfl) (fun _ => rfl) ((Item.mk 0 0 0 0) : Item) Try.t44 (.agg #[.int .i64 0, .int .i64 0, .int .i64 0, .int .i64 0]) rfl Try.type44 rfl rfl rfl rfl rfl rfl (fun z => ⟨rfl, rfl, rfl, rfl, trivial⟩) rfl
noncomputable def ti25 : TI Try.prog G 25 := tiOf [.sl 44] (fun (x : (List Item)) => (x, ())) (fun y => (y.1 : (List Item))) (fun _ => rfl) (fun _ => rfl) ([] : (List Item)) Try.t25 (.slice none 0 0) rfl Try.type25 rfl rfl rfl rfl rfl rfl (fun z => ⟨.inl ⟨rfl, rfl⟩, trivial⟩) rfl
noncomputable def ti26 : TI Try.prog G 26 := tiOf [.sl 22] (fun (x : (List (List Int))) => (x, ())) (fun y => (y.1 : (List (List Int)))) (fun _ => rfl) (fun _ => rfl) ([] : (List (List Int))) Try.t26 (.slice none 0 0) rfl Try.type26 rfl rfl rfl rfl rfl rfl (fun z => ⟨.inl ⟨rfl, rfl⟩, trivial⟩) rfl
noncomputable def ti28 : TI Try.prog G 28 := tiOf [.sl 44, .sl 3, .sl 22] (fun (x : Disorder) => (x.items, x.homes, x.tracks, ())) (fun y => ((Disorder.mk y.1 y.2.1 y.2.2.1) : Disorder)) (fun _ => rfl) (fun _ => rfl) ((Disorder.mk [] [] []) : Disorder) Try.t28 (.agg #[.slice none 0 0, .slice none 0 0, .slice none 0 0]) rfl Try.type28 rfl rfl rfl rfl rfl rfl (fun z => ⟨.inl ⟨rfl, rfl⟩, .inl ⟨rfl, rfl⟩, .inl ⟨rfl, rfl⟩, trivial⟩) rfl
noncomputable def ti39 : TI Try.prog G 39 := tiOf [.int .i64, .int .i64, .int .i64, .int .i64] (fun (x : Pull) => (x.item, x.reason, x.because, x.round, ())) (fun y => ((Pull.mk y.1 y.2.1 y.2.2.1 y.2.2.2.1) : Pull)) (fun _ => rfl) (fun _ => rfl) ((Pull.mk 0 0 0 0) : Pull) Try.t39 (.agg #[.int .i64 0, .int .i64 0, .int .i64 0, .int .i64 0]) rfl Try.type39 rfl rfl rfl rfl rfl rfl (fun z => ⟨rfl, rfl, rfl, rfl, trivial⟩) rfl
noncomputable def ti69 : TI Try.prog G 69 := tiOf [.sl 3, .int .i64] (fun (x : Maker) => (x.l, x.n, ())) (fun y => ((Maker.mk y.1 y.2.1) : Maker)) (fun _ => rfl) (fun _ => rfl) ((Maker.mk [] 0) : Maker) Try.t69 (.agg #[.slice none 0 0, .int .i64 0]) rfl Try.type69 rfl rfl rfl rfl rfl rfl (fun z => ⟨.inl ⟨rfl, rfl⟩, rfl, trivial⟩) rfl
noncomputable def ti121 : TI Try.prog G 121 := tiOf [.int .i64, .int .i64] (fun (x : Spot) => (x.track, x.place, ())) (fun y => ((Spot.mk y.1 y.2.1) : Spot)) (fun _ => rfl) (fun _ => rfl) ((Spot.mk 0 0) : Spot) Try.t121 (.agg #[.int .i64 0, .int .i64 0]) rfl Try.type121 rfl rfl rfl rfl rfl rfl (fun z => ⟨rfl, rfl, trivial⟩) rfl
noncomputable def ti73 : TI Try.prog G 73 := tiOf [.sl 121] (fun (x : (List Spot)) => (x, ())) (fun y => (y.1 : (List Spot))) (fun _ => rfl) (fun _ => rfl) ([] : (List Spot)) Try.t73 (.slice none 0 0) rfl Try.type73 rfl rfl rfl rfl rfl rfl (fun z => ⟨.inl ⟨rfl, rfl⟩, trivial⟩) rfl
noncomputable def ti75 : TI Try.prog G 75 := tiOf [.sl 44, .sl 3, .sl 22, .sl 121, .sl 3] (fun (x : Scene) => (x.d.items, x.d.homes, x.d.tracks, x.at_, x.round, ())) (fun y => ((Scene.mk (Disorder.mk y.1 y.2.1 y.2.2.1) y.2.2.2.1 y.2.2.2.2.1) : Scene)) (fun _ => rfl) (fun _ => rfl) ((Scene.mk (Disorder.mk [] [] []) [] []) : Scene) Try.t75 (.agg #[.slice none 0 0, .slice none 0 0, .slice none 0 0, .slice none 0 0, .slice none 0 0]) rfl Try.type75 rfl rfl rfl rfl rfl rfl (fun z => ⟨.inl ⟨rfl, rfl⟩, .inl ⟨rfl, rfl⟩, .inl ⟨rfl, rfl⟩, .inl ⟨rfl, rfl⟩, .inl ⟨rfl, rfl⟩, trivial⟩) rfl
noncomputable def qi39 : QI Try.prog G 39 := qiOf [.int .i64, .int .i64, .int .i64, .int .i64] (fun (x : Pull) => (x.item, x.reason, x.because, x.round, ())) (fun y => ((Pull.mk y.1 y.2.1 y.2.2.1 y.2.2.2.1) : Pull)) (fun _ => rfl) _ (fun (x y : Pull) => decide (x = y)) rfl (fun (x y : Pull) => decide_eq_true_iff) Try.underlying39 (by kernel_rfl) (by kernel_rfl) (by kernel_rfl)
noncomputable def si28_29 : SI Try.prog G := siOf (t := 39) [.int .i64, .int .i64, .int .i64, .int .i64] (fun (x : Pull) => (x.item, x.reason, x.because, x.round, ())) rfl rfl ((Pull.mk 0 0 0 0) : Pull) (fun (x : Pull) => x.item) sortL28 28 29 rfl (by kernel_rfl) Try.isAgg39 Try.sizeOf39 (Go.Proofs.enters_of Try.func29 (by kernel_rfl) rfl) rfl clos29
noncomputable def ni22_3 : NI Try.prog G 22 3 := ⟨fun xs => xs, rfl, rfl, fun _ _ _ h => ⟨h, trivial⟩, Try.t22, Try.type22, rfl, rfl, rfl, Try.underlying22, rfl⟩
noncomputable def X0 : Ev Try.prog D where
  G := G
  S := [si28_29]
  I := fun t => match t with | 3 => some ti3 | 4 => some ti4 | 22 => some ti22 | 44 => some ti44 | 25 => some ti25 | 26 => some ti26 | 28 => some ti28 | 39 => some ti39 | 69 => some ti69 | 121 => some ti121 | 73 => some ti73 | 75 => some ti75 | _ => none
  A := fun _ => none
  J := fun _ _ => none
  B := fun _ => none
  Q := fun t => match t with | 39 => some qi39 | _ => none
  N := fun e t => match e, t with | 22, 3 => some ni22_3 | _, _ => none
  F := fun _ _ _ => false
  C := fun _ _ _ _ _ => none
noncomputable def fs0 (N : Nat) : List (FE D) := []
theorem all0 (N : Nat) : ∀ y ∈ fs0 N, CallOk X0 y.d y.F := fun y h => absurd h (by simp [fs0])
noncomputable def X00 (N : Nat) : Ev Try.prog D := X0.with (fs0 N)
theorem cok0 (N : Nat) : COk (X00 N) := COk.of (all0 N)
/-! ### humpyard/humpgen.New -/
noncomputable def u0_gen_New (N : Nat) : List (Pc D) := []
theorem oku0_gen_New (N : Nat) : ∀ u ∈ u0_gen_New N, PcOk (X00 N) (bodyOf Try.f8) u := pc_nil
noncomputable def dgen_New : FD D := { f := 8, np := 1, ins := [.v 0 (.sl 3)], fx := [], rcv := none, rk := 0, outs := [.o 2 (.box 69)], ofx := [(2, .box 0 0)], rvs := [.tmp 2], flat := false }
noncomputable def Fgen_New (N : Nat) : dgen_New.F := fun r x => gen_New N x.1
theorem ogen_New (N : Nat) : FOk Try.prog (X00 N) dgen_New (Fgen_New N) := ⟨⟨Try.f8, _, Try.func8, rfl, by kernel_rfl, by kernel_rfl, rfl, FC.of (cok0 N) (us := u0_gen_New N) (fun u h _ => oku0_gen_New N u h) (fun r x => by kernel_rfl)⟩, by kernel_rfl, by kernel_rfl, by kernel_rfl, by kernel_rfl⟩
noncomputable def fs1 (N : Nat) : List (FE D) := ⟨dgen_New, Fgen_New N⟩ :: fs0 N
theorem all1 (N : Nat) : ∀ y ∈ fs1 N, CallOk X0 y.d y.F := all_cons (x := ⟨dgen_New, Fgen_New N⟩) (ogen_New N) (all0 N)
noncomputable def X1 (N : Nat) : Ev Try.prog D := X0.with (fs1 N)
theorem cok1 (N : Nat) : COk (X1 N) := COk.of (all1 N)
/-! ### (*humpyard/humpgen.Maker).Next -/
noncomputable def u0_Maker_Next (N : Nat) : List (Pc D) := []
theorem oku0_Maker_Next (N : Nat) : ∀ u ∈ u0_Maker_Next N, PcOk (X1 N) (bodyOf Try.f18) u := pc_nil
noncomputable def PMaker_Next_0 : PD D := { path := [1, 1, 0, 1], ins := [.o 0 (.recv 69), .v 5 (.int .i64), .v 11 .bool], fx := [(0, .box 0 0)], ks := [1], exs := [⟨.normal, [.v 5 (.int .i64)], []⟩], keep := [0, 1] }
noncomputable def FMaker_Next_0 (N : Nat) : PMaker_Next_0.F := fun x => Maker_Next_0 N x.1 x.2.1 x.2.2.1
theorem cMaker_Next_0 (N : Nat) : CC (X1 N) (bodyOf Try.f18) PMaker_Next_0 (FMaker_Next_0 N) := CC.of (cok1 N) (us := u0_Maker_Next N) (fun u h _ => oku0_Maker_Next N u h) (fun x => by kernel_rfl)
noncomputable def uMaker_Next_0 (N : Nat) : List (Pc D) := PMaker_Next_0.pc (X1 N) (FMaker_Next_0 N) :: u0_Maker_Next N
theorem okuMaker_Next_0 (N : Nat) : ∀ u ∈ uMaker_Next_0 N, PcOk (X1 N) (bodyOf Try.f18) u := pc_cons ((cMaker_Next_0 N).pc (by kernel_rfl)) (oku0_Maker_Next N)
noncomputable def PMaker_Next_1 : PD D := { path := [1, 1, 1, 1, 1, 0, 1], ins := [.o 0 (.recv 69), .v 1 (.int .i64), .v 5 (.int .i64), .v 51 .bool], fx := [(0, .box 0 0)], ks := [1], exs := [⟨.normal, [.v 5 (.int .i64)], []⟩], keep := [0] }
noncomputable def FMaker_Next_1 (N : Nat) : PMaker_Next_1.F := fun x => Maker_Next_1 N x.2.1 x.2.2.1 x.2.2.2.1
theorem cMaker_Next_1 (N : Nat) : CC (X1 N) (bodyOf Try.f18) PMaker_Next_1 (FMaker_Next_1 N) := CC.of (cok1 N) (us := uMaker_Next_0 N) (fun u h _ => okuMaker_Next_0 N u h) (fun x => by kernel_rfl)
noncomputable def uMaker_Next_1 (N : Nat) : List (Pc D) := PMaker_Next_1.pc (X1 N) (FMaker_Next_1 N) :: uMaker_Next_0 N
theorem okuMaker_Next_1 (N : Nat) : ∀ u ∈ uMaker_Next_1 N, PcOk (X1 N) (bodyOf Try.f18) u := pc_cons ((cMaker_Next_1 N).pc (by kernel_rfl)) (okuMaker_Next_0 N)
noncomputable def dMaker_Next : FD D := { f := 18, np := 2, ins := [.v 1 (.int .i64)], fx := [], rcv := some (0, 69), rk := 2, outs := [.v 4 (.int .i64), .u 0 (.recv 69)], ofx := [], rvs := [.tmp 4], flat := false }
noncomputable def FMaker_Next (N : Nat) : dMaker_Next.F := fun r x => Maker_Next N r x.1
theorem oMaker_Next (N : Nat) : FOk Try.prog (X1 N) dMaker_Next (FMaker_Next N) := ⟨⟨Try.f18, _, Try.func18, rfl, by kernel_rfl, by kernel_rfl, rfl, FC.of (cok1 N) (us := uMaker_Next_1 N) (fun u h _ => okuMaker_Next_1 N u h) (fun r x => by kernel_rfl)⟩, by kernel_rfl, by kernel_rfl, by kernel_rfl, by kernel_rfl⟩
noncomputable def fs2 (N : Nat) : List (FE D) := ⟨dMaker_Next, FMaker_Next N⟩ :: fs1 N
theorem all2 (N : Nat) : ∀ y ∈ fs2 N, CallOk X0 y.d y.F := all_cons (x := ⟨dMaker_Next, FMaker_Next N⟩) (oMaker_Next N) (all1 N)
noncomputable def X2 (N : Nat) : Ev Try.prog D := X0.with (fs2 N)
theorem cok2 (N : Nat) : COk (X2 N) := COk.of (all2 N)
/-! ### (*humpyard/humpgen.Maker).Pick -/
noncomputable def u0_Maker_Pick (N : Nat) : List (Pc D) := []
theorem oku0_Maker_Pick (N : Nat) : ∀ u ∈ u0_Maker_Pick N, PcOk (X2 N) (bodyOf Try.f19) u := pc_nil
noncomputable def dMaker_Pick : FD D := { f := 19, np := 2, ins := [.v 1 (.sl 3)], fx := [], rcv := some (0, 69), rk := 2, outs := [.v 4 (.int .i64), .u 0 (.recv 69)], ofx := [], rvs := [.tmp 4], flat := false }
noncomputable def FMaker_Pick (N : Nat) : dMaker_Pick.F := fun r x => Maker_Pick N r x.1
theorem oMaker_Pick (N : Nat) : FOk Try.prog (X2 N) dMaker_Pick (FMaker_Pick N) := ⟨⟨Try.f19, _, Try.func19, rfl, by kernel_rfl, by kernel_rfl, rfl, FC.of (cok2 N) (us := u0_Maker_Pick N) (fun u h _ => oku0_Maker_Pick N u h) (fun r x => by kernel_rfl)⟩, by kernel_rfl, by kernel_rfl, by kernel_rfl, by kernel_rfl⟩
noncomputable def fs3 (N : Nat) : List (FE D) := ⟨dMaker_Pick, FMaker_Pick N⟩ :: fs2 N
theorem all3 (N : Nat) : ∀ y ∈ fs3 N, CallOk X0 y.d y.F := all_cons (x := ⟨dMaker_Pick, FMaker_Pick N⟩) (oMaker_Pick N) (all2 N)
noncomputable def X3 (N : Nat) : Ev Try.prog D := X0.with (fs3 N)
theorem cok3 (N : Nat) : COk (X3 N) := COk.of (all3 N)
/-! ### humpyard/yardgen.Disorder -/
noncomputable def Y3 (N : Nat) : Ev Try.prog D := (X3 N).cuts fun x lo hi => match x, lo, hi with | .tmp 18, some (.tmp 18), some (.tmp 18) => 3 | _, _, _ => 0
theorem coky3 (N : Nat) : COk (Y3 N) := COk.cuts (cok3 N)
noncomputable def u0_yardgen_Disorder (N : Nat) : List (Pc D) := []
theorem oku0_yardgen_Disorder (N : Nat) : ∀ u ∈ u0_yardgen_Disorder N, PcOk (Y3 N) (bodyOf Try.f9) u := pc_nil
noncomputable def Pyardgen_Disorder_0 : PD D := { path := [1, 1, 1, 0, 1, 0], ins := [.o 0 (.recv 69), .o 4 (.box 28), .v 6 (.int .i64), .o 7 (.bx 28 [(0, 3), (1, 4), (2, 5)]), .o 2007000 (.sl 44), .o 2007001 (.sl 3), .o 2007002 (.ne 22 3)], fx := [(0, .box 0 0), (4, .box 1 0), (7, .box 2 0)], ks := [1, 1, 2, 1, 0, 2], exs := [⟨.exit 0, [.u 2 (.bx 28 [(0, 3), (1, 6), (2, 5)]), .o 2007001 (.sl 3), .u 5 (.ne 22 3)], []⟩], keep := [0, 1, 4, 5, 6, 7] }
noncomputable def Fyardgen_Disorder_0 (N n : Nat) : Pyardgen_Disorder_0.F := fun x => yardgen_Disorder_0 N x.2.2.1 n x.2.2.2.1 x.2.2.2.2.2.1 x.2.2.2.2.2.2.1
theorem cyardgen_Disorder_0 (N n : Nat) : CC (Y3 N) (bodyOf Try.f9) Pyardgen_Disorder_0 (Fyardgen_Disorder_0 N n) := CC.loop (coky3 N) (us := u0_yardgen_Disorder N) (c := sub (bodyOf Try.f9) [1, 1, 1, 0, 1, 0, 0]) (by kernel_rfl) (by kernel_rfl) (fun u h _ => oku0_yardgen_Disorder N u h) (fun x => rfl) (fun n x => by kernel_rfl) n
noncomputable def uyardgen_Disorder_0 (N : Nat) : List (Pc D) := Pyardgen_Disorder_0.pc (Y3 N) (Fyardgen_Disorder_0 N N) :: u0_yardgen_Disorder N
theorem okuyardgen_Disorder_0 (N : Nat) : ∀ u ∈ uyardgen_Disorder_0 N, PcOk (Y3 N) (bodyOf Try.f9) u := pc_cons ((cyardgen_Disorder_0 N N).pc (by kernel_rfl)) (oku0_yardgen_Disorder N)
noncomputable def Pyardgen_Disorder_2 : PD D := { path := [1, 1, 1, 1, 0, 1, 0, 1, 0], ins := [.o 0 (.recv 69), .o 4 (.box 28), .v 5 (.int .i64), .v 6 (.int .i64), .o 7 (.bx 28 [(0, 3), (1, 4), (2, 5)]), .v 8 (.int .i64), .o 2007000 (.sl 44), .o 2007001 (.sl 3), .o 2007002 (.ne 22 3)], fx := [(0, .box 0 0), (4, .box 1 0), (7, .box 2 0)], ks := [1, 1, 1, 1, 2, 2], exs := [⟨.exit 2, [.u 4 (.sl 3), .u 5 (.ne 22 3)], []⟩], keep := [0, 1, 4, 5, 6, 7] }
noncomputable def Fyardgen_Disorder_2 (N n : Nat) : Pyardgen_Disorder_2.F := fun x => yardgen_Disorder_2 N x.2.2.1 x.2.2.2.1 n x.2.2.2.2.2.1 x.2.2.2.2.2.2.2.1 x.2.2.2.2.2.2.2.2.1
theorem cyardgen_Disorder_2 (N n : Nat) : CC (Y3 N) (bodyOf Try.f9) Pyardgen_Disorder_2 (Fyardgen_Disorder_2 N n) := CC.loop (coky3 N) (us := uyardgen_Disorder_0 N) (c := sub (bodyOf Try.f9) [1, 1, 1, 1, 0, 1, 0, 1, 0, 0]) (by kernel_rfl) (by kernel_rfl) (fun u h _ => okuyardgen_Disorder_0 N u h) (fun x => rfl) (fun n x => by kernel_rfl) n
noncomputable def uyardgen_Disorder_2 (N : Nat) : List (Pc D) := Pyardgen_Disorder_2.pc (Y3 N) (Fyardgen_Disorder_2 N N) :: uyardgen_Disorder_0 N
theorem okuyardgen_Disorder_2 (N : Nat) : ∀ u ∈ uyardgen_Disorder_2 N, PcOk (Y3 N) (bodyOf Try.f9) u := pc_cons ((cyardgen_Disorder_2 N N).pc (by kernel_rfl)) (okuyardgen_Disorder_0 N)
noncomputable def Pyardgen_Disorder_1 : PD D := { path := [1, 1, 1, 1, 0, 1], ins := [.o 0 (.recv 69), .o 4 (.box 28), .v 5 (.int .i64), .v 6 (.int .i64), .o 7 (.bx 28 [(0, 3), (1, 4), (2, 5)]), .v 41 .bool, .o 2007000 (.sl 44), .o 2007001 (.sl 3), .o 2007002 (.ne 22 3)], fx := [(0, .box 0 0), (4, .box 1 0), (7, .box 2 0)], ks := [1, 1, 1, 1, 2, 2], exs := [⟨.normal, [.u 4 (.sl 3), .u 5 (.ne 22 3)], []⟩], keep := [0, 1, 4, 5, 6, 7] }
noncomputable def Fyardgen_Disorder_1 (N : Nat) : Pyardgen_Disorder_1.F := fun x => yardgen_Disorder_1 N x.2.2.1 x.2.2.2.1 x.2.2.2.2.2.1 x.2.2.2.2.2.2.2.1 x.2.2.2.2.2.2.2.2.1
theorem cyardgen_Disorder_1 (N : Nat) : CC (Y3 N) (bodyOf Try.f9) Pyardgen_Disorder_1 (Fyardgen_Disorder_1 N) := CC.of (coky3 N) (us := uyardgen_Disorder_2 N) (fun u h _ => okuyardgen_Disorder_2 N u h) (fun x => by kernel_rfl)
noncomputable def uyardgen_Disorder_1 (N : Nat) : List (Pc D) := Pyardgen_Disorder_1.pc (Y3 N) (Fyardgen_Disorder_1 N) :: uyardgen_Disorder_2 N
theorem okuyardgen_Disorder_1 (N : Nat) : ∀ u ∈ uyardgen_Disorder_1 N, PcOk (Y3 N) (bodyOf Try.f9) u := pc_cons ((cyardgen_Disorder_1 N).pc (by kernel_rfl)) (okuyardgen_Disorder_2 N)
noncomputable def Pyardgen_Disorder_4 : PD D := { path := [1, 1, 1, 1, 1, 1, 1, 0, 1, 0, 0, 1, 0, 0, 1, 1, 1, 0, 0], ins := [.o 0 (.recv 69), .o 4 (.box 28), .o 7 (.bx 28 [(0, 5), (1, 6), (2, 7)]), .v 9 (.int .i64), .o 10 (.sl 3), .o 13 (.box 44), .o 2007000 (.sl 44), .o 2007001 (.sl 3), .o 2007002 (.ne 22 3)], fx := [(0, .box 0 0), (4, .box 1 0), (7, .box 2 0), (10, .c (.own 3)), (13, .box 4 0)], ks := [2, 1, 1, 1, 1, 1, 1, 1], exs := [⟨.normal, [.u 0 (.recv 69), .v 88 .bool], []⟩], keep := [0, 4, 5, 6, 7, 9, 10, 11, 12, 13, 14] }
noncomputable def Fyardgen_Disorder_4 (N : Nat) : Pyardgen_Disorder_4.F := fun x => yardgen_Disorder_4 N x.1 x.2.2.2.1
theorem cyardgen_Disorder_4 (N : Nat) : CC (Y3 N) (bodyOf Try.f9) Pyardgen_Disorder_4 (Fyardgen_Disorder_4 N) := CC.of (coky3 N) (us := uyardgen_Disorder_1 N) (fun u h _ => okuyardgen_Disorder_1 N u h) (fun x => by kernel_rfl)
noncomputable def uyardgen_Disorder_4 (N : Nat) : List (Pc D) := Pyardgen_Disorder_4.pc (Y3 N) (Fyardgen_Disorder_4 N) :: uyardgen_Disorder_1 N
theorem okuyardgen_Disorder_4 (N : Nat) : ∀ u ∈ uyardgen_Disorder_4 N, PcOk (Y3 N) (bodyOf Try.f9) u := pc_cons ((cyardgen_Disorder_4 N).pc (by kernel_rfl)) (okuyardgen_Disorder_1 N)
noncomputable def Pyardgen_Disorder_5 : PD D := { path := [1, 1, 1, 1, 1, 1, 1, 0, 1, 0, 0, 1, 0, 0, 1, 1, 1, 0, 1], ins := [.o 0 (.recv 69), .o 4 (.box 28), .o 7 (.bx 28 [(0, 5), (1, 6), (2, 7)]), .o 10 (.sl 3), .v 12 (.int .i64), .o 13 (.box 44), .v 88 .bool, .o 2007000 (.sl 44), .o 2007001 (.sl 3), .o 2007002 (.ne 22 3)], fx := [(0, .box 0 0), (4, .box 1 0), (7, .box 2 0), (10, .c (.own 3)), (13, .box 4 0)], ks := [2, 1, 1, 2, 2, 1, 1, 1], exs := [⟨.normal, [.u 0 (.recv 69), .u 3 (.sl 3), .u 4 (.box 44)], []⟩], keep := [0, 4, 5, 6, 7, 9, 10, 11, 13, 14] }
noncomputable def Fyardgen_Disorder_5 (N : Nat) : Pyardgen_Disorder_5.F := fun x => yardgen_Disorder_5 N x.1 x.2.2.2.1 x.2.2.2.2.1 x.2.2.2.2.2.1 x.2.2.2.2.2.2.1
theorem cyardgen_Disorder_5 (N : Nat) : CC (Y3 N) (bodyOf Try.f9) Pyardgen_Disorder_5 (Fyardgen_Disorder_5 N) := CC.of (coky3 N) (us := uyardgen_Disorder_4 N) (fun u h _ => okuyardgen_Disorder_4 N u h) (fun x => by kernel_rfl)
noncomputable def uyardgen_Disorder_5 (N : Nat) : List (Pc D) := Pyardgen_Disorder_5.pc (Y3 N) (Fyardgen_Disorder_5 N) :: uyardgen_Disorder_4 N
theorem okuyardgen_Disorder_5 (N : Nat) : ∀ u ∈ uyardgen_Disorder_5 N, PcOk (Y3 N) (bodyOf Try.f9) u := pc_cons ((cyardgen_Disorder_5 N).pc (by kernel_rfl)) (okuyardgen_Disorder_4 N)
noncomputable def Pyardgen_Disorder_6 : PD D := { path := [1, 1, 1, 1, 1, 1, 1, 0, 1, 0, 0, 1, 0, 0, 1, 1, 1, 1, 0, 0], ins := [.o 0 (.recv 69), .o 4 (.box 28), .o 7 (.bx 28 [(0, 5), (1, 6), (2, 7)]), .v 9 (.int .i64), .o 10 (.sl 3), .o 13 (.box 44), .o 2007000 (.sl 44), .o 2007001 (.sl 3), .o 2007002 (.ne 22 3)], fx := [(0, .box 0 0), (4, .box 1 0), (7, .box 2 0), (10, .c (.own 3)), (13, .box 4 0)], ks := [2, 1, 1, 1, 1, 1, 1, 1], exs := [⟨.normal, [.u 0 (.recv 69), .v 109 .bool], []⟩], keep := [0, 4, 5, 6, 7, 9, 10, 11, 13, 14] }
noncomputable def Fyardgen_Disorder_6 (N : Nat) : Pyardgen_Disorder_6.F := fun x => yardgen_Disorder_6 N x.1 x.2.2.2.1
theorem cyardgen_Disorder_6 (N : Nat) : CC (Y3 N) (bodyOf Try.f9) Pyardgen_Disorder_6 (Fyardgen_Disorder_6 N) := CC.of (coky3 N) (us := uyardgen_Disorder_5 N) (fun u h _ => okuyardgen_Disorder_5 N u h) (fun x => by kernel_rfl)
noncomputable def uyardgen_Disorder_6 (N : Nat) : List (Pc D) := Pyardgen_Disorder_6.pc (Y3 N) (Fyardgen_Disorder_6 N) :: uyardgen_Disorder_5 N
theorem okuyardgen_Disorder_6 (N : Nat) : ∀ u ∈ uyardgen_Disorder_6 N, PcOk (Y3 N) (bodyOf Try.f9) u := pc_cons ((cyardgen_Disorder_6 N).pc (by kernel_rfl)) (okuyardgen_Disorder_5 N)
noncomputable def Pyardgen_Disorder_7 : PD D := { path := [1, 1, 1, 1, 1, 1, 1, 0, 1, 0, 0, 1, 0, 0, 1, 1, 1, 1, 0, 1], ins := [.o 0 (.recv 69), .o 4 (.box 28), .v 5 (.int .i64), .o 7 (.bx 28 [(0, 5), (1, 6), (2, 7)]), .o 10 (.sl 3), .o 13 (.box 44), .v 14 (.int .i64), .v 109 .bool, .o 2007000 (.sl 44), .o 2007001 (.sl 3), .o 2007002 (.ne 22 3)], fx := [(0, .box 0 0), (4, .box 1 0), (7, .box 2 0), (10, .c (.own 3)), (13, .box 4 0)], ks := [2, 1, 1, 1, 1, 1, 1, 1], exs := [⟨.normal, [.u 0 (.recv 69), .v 14 (.int .i64)], []⟩], keep := [0, 4, 5, 6, 7, 9, 10, 11, 13] }
noncomputable def Fyardgen_Disorder_7 (N : Nat) : Pyardgen_Disorder_7.F := fun x => yardgen_Disorder_7 N x.1 x.2.2.1 x.2.2.2.2.2.2.1 x.2.2.2.2.2.2.2.1
theorem cyardgen_Disorder_7 (N : Nat) : CC (Y3 N) (bodyOf Try.f9) Pyardgen_Disorder_7 (Fyardgen_Disorder_7 N) := CC.of (coky3 N) (us := uyardgen_Disorder_6 N) (fun u h _ => okuyardgen_Disorder_6 N u h) (fun x => by kernel_rfl)
noncomputable def uyardgen_Disorder_7 (N : Nat) : List (Pc D) := Pyardgen_Disorder_7.pc (Y3 N) (Fyardgen_Disorder_7 N) :: uyardgen_Disorder_6 N
theorem okuyardgen_Disorder_7 (N : Nat) : ∀ u ∈ uyardgen_Disorder_7 N, PcOk (Y3 N) (bodyOf Try.f9) u := pc_cons ((cyardgen_Disorder_7 N).pc (by kernel_rfl)) (okuyardgen_Disorder_6 N)
noncomputable def Pyardgen_Disorder_3 : PD D := { path := [1, 1, 1, 1, 1, 1, 1, 0, 1, 0], ins := [.o 0 (.recv 69), .o 4 (.box 28), .v 5 (.int .i64), .v 6 (.int .i64), .o 7 (.bx 28 [(0, 4), (1, 5), (2, 6)]), .v 9 (.int .i64), .o 10 (.sl 3), .v 11 (.int .i64), .o 2007000 (.sl 44), .o 2007001 (.sl 3), .o 2007002 (.ne 22 3)], fx := [(0, .box 0 0), (4, .box 1 0), (7, .box 2 0), (10, .c (.own 3))], ks := [2, 1, 2, 0, 0, 1, 2], exs := [⟨.exit 4, [.u 0 (.recv 69), .u 2 (.bx 28 [(0, 7), (1, 5), (2, 6)]), .o 2007000 (.sl 44), .u 6 (.ne 22 3)], []⟩], keep := [0, 4, 7] }
noncomputable def Fyardgen_Disorder_3 (N n : Nat) : Pyardgen_Disorder_3.F := fun x => yardgen_Disorder_3 N x.2.2.1 x.2.2.2.1 x.2.2.2.2.2.1 x.2.2.2.2.2.2.2.2.2.1 n x.1 x.2.2.2.2.1 x.2.2.2.2.2.2.1 x.2.2.2.2.2.2.2.1 x.2.2.2.2.2.2.2.2.1 x.2.2.2.2.2.2.2.2.2.2.1
theorem cyardgen_Disorder_3 (N n : Nat) : CC (Y3 N) (bodyOf Try.f9) Pyardgen_Disorder_3 (Fyardgen_Disorder_3 N n) := CC.loop (coky3 N) (us := uyardgen_Disorder_7 N) (c := sub (bodyOf Try.f9) [1, 1, 1, 1, 1, 1, 1, 0, 1, 0, 0]) (by kernel_rfl) (by kernel_rfl) (fun u h _ => okuyardgen_Disorder_7 N u h) (fun x => rfl) (fun n x => by kernel_rfl) n
noncomputable def uyardgen_Disorder_3 (N : Nat) : List (Pc D) := Pyardgen_Disorder_3.pc (Y3 N) (Fyardgen_Disorder_3 N N) :: uyardgen_Disorder_7 N
theorem okuyardgen_Disorder_3 (N : Nat) : ∀ u ∈ uyardgen_Disorder_3 N, PcOk (Y3 N) (bodyOf Try.f9) u := pc_cons ((cyardgen_Disorder_3 N N).pc (by kernel_rfl)) (okuyardgen_Disorder_7 N)
noncomputable def dyardgen_Disorder : FD D := { f := 9, np := 2, ins := [.v 1 (.int .i64)], fx := [], rcv := some (0, 69), rk := 2, outs := [.v 1000000 (.agg 28), .u 0 (.recv 69)], ofx := [], rvs := [.cell 4 28], flat := false }
noncomputable def Fyardgen_Disorder (N : Nat) : dyardgen_Disorder.F := fun r x => yardgen_Disorder N r x.1
theorem oyardgen_Disorder (N : Nat) : FOk Try.prog (Y3 N) dyardgen_Disorder (Fyardgen_Disorder N) := ⟨⟨Try.f9, _, Try.func9, rfl, by kernel_rfl, by kernel_rfl, rfl, FC.of (coky3 N) (us := uyardgen_Disorder_3 N) (fun u h _ => okuyardgen_Disorder_3 N u h) (fun r x => by kernel_rfl)⟩, by kernel_rfl, by kernel_rfl, by kernel_rfl, by kernel_rfl⟩
noncomputable def fs4 (N : Nat) : List (FE D) := ⟨dyardgen_Disorder, Fyardgen_Disorder N⟩ :: fs3 N
theorem all4 (N : Nat) : ∀ y ∈ fs4 N, CallOk X0 y.d y.F := all_call (x := ⟨dyardgen_Disorder, Fyardgen_Disorder N⟩) ((oyardgen_Disorder N).call.cuts) (all3 N)
noncomputable def X4 (N : Nat) : Ev Try.prog D := X0.with (fs4 N)
theorem cok4 (N : Nat) : COk (X4 N) := COk.of (all4 N)
/-! ### slices.Index[[]int,int] -/
noncomputable def u0_slices_Index_int_int (N : Nat) : List (Pc D) := []
theorem oku0_slices_Index_int_int (N : Nat) : ∀ u ∈ u0_slices_Index_int_int N, PcOk (X4 N) (bodyOf Try.f77) u := pc_nil
noncomputable def Pslices_Index_int_int_0 : PD D := { path := [1, 0, 1, 0], ins := [.v 0 (.sl 3), .v 1 (.int .i64), .v 7 (.int .i64), .v 8 (.int .i64)], fx := [], ks := [], exs := [⟨.exit 0, [], []⟩, ⟨.ret, [.v 4 (.int .i64)], []⟩], keep := [] }
noncomputable def Fslices_Index_int_int_0 (N n : Nat) : Pslices_Index_int_int_0.F := fun x => slices_Index_int_int_0 N x.1 x.2.1 x.2.2.1 n x.2.2.2.1
theorem cslices_Index_int_int_0 (N n : Nat) : CC (X4 N) (bodyOf Try.f77) Pslices_Index_int_int_0 (Fslices_Index_int_int_0 N n) := CC.loop (cok4 N) (us := u0_slices_Index_int_int N) (c := sub (bodyOf Try.f77) [1, 0, 1, 0, 0]) (by kernel_rfl) (by kernel_rfl) (fun u h _ => oku0_slices_Index_int_int N u h) (fun x => rfl) (fun n x => by kernel_rfl) n
noncomputable def uslices_Index_int_int_0 (N : Nat) : List (Pc D) := Pslices_Index_int_int_0.pc (X4 N) (Fslices_Index_int_int_0 N N) :: u0_slices_Index_int_int N
theorem okuslices_Index_int_int_0 (N : Nat) : ∀ u ∈ uslices_Index_int_int_0 N, PcOk (X4 N) (bodyOf Try.f77) u := pc_cons ((cslices_Index_int_int_0 N N).pc (by kernel_rfl)) (oku0_slices_Index_int_int N)
noncomputable def dslices_Index_int_int : FD D := { f := 77, np := 2, ins := [.v 0 (.sl 3), .v 1 (.int .i64)], fx := [], rcv := none, rk := 0, outs := [.v 4 (.int .i64)], ofx := [], rvs := [.tmp 4], flat := true }
noncomputable def Fslices_Index_int_int (N : Nat) : dslices_Index_int_int.F := fun r x => slices_Index_int_int N x.1 x.2.1
theorem oslices_Index_int_int (N : Nat) : FOk Try.prog (X4 N) dslices_Index_int_int (Fslices_Index_int_int N) := ⟨⟨Try.f77, _, Try.func77, rfl, by kernel_rfl, by kernel_rfl, rfl, FC.of (cok4 N) (us := uslices_Index_int_int_0 N) (fun u h _ => okuslices_Index_int_int_0 N u h) (fun r x => by kernel_rfl)⟩, by kernel_rfl, by kernel_rfl, by kernel_rfl, by kernel_rfl⟩
noncomputable def fs5 (N : Nat) : List (FE D) := ⟨dslices_Index_int_int, Fslices_Index_int_int N⟩ :: fs4 N
theorem all5 (N : Nat) : ∀ y ∈ fs5 N, CallOk X0 y.d y.F := all_cons (x := ⟨dslices_Index_int_int, Fslices_Index_int_int N⟩) (oslices_Index_int_int N) (all4 N)
noncomputable def X5 (N : Nat) : Ev Try.prog D := X0.with (fs5 N)
theorem cok5 (N : Nat) : COk (X5 N) := COk.of (all5 N)
/-! ### slices.Contains[[]int,int] -/
noncomputable def u0_slices_Contains_int_int (N : Nat) : List (Pc D) := []
theorem oku0_slices_Contains_int_int (N : Nat) : ∀ u ∈ u0_slices_Contains_int_int N, PcOk (X5 N) (bodyOf Try.f52) u := pc_nil
noncomputable def dslices_Contains_int_int : FD D := { f := 52, np := 2, ins := [.v 0 (.sl 3), .v 1 (.int .i64)], fx := [], rcv := none, rk := 0, outs := [.v 4 .bool], ofx := [], rvs := [.tmp 4], flat := true }
noncomputable def Fslices_Contains_int_int (N : Nat) : dslices_Contains_int_int.F := fun r x => slices_Contains_int_int N x.1 x.2.1
theorem oslices_Contains_int_int (N : Nat) : FOk Try.prog (X5 N) dslices_Contains_int_int (Fslices_Contains_int_int N) := ⟨⟨Try.f52, _, Try.func52, rfl, by kernel_rfl, by kernel_rfl, rfl, FC.of (cok5 N) (us := u0_slices_Contains_int_int N) (fun u h _ => oku0_slices_Contains_int_int N u h) (fun r x => by kernel_rfl)⟩, by kernel_rfl, by kernel_rfl, by kernel_rfl, by kernel_rfl⟩
noncomputable def fs6 (N : Nat) : List (FE D) := ⟨dslices_Contains_int_int, Fslices_Contains_int_int N⟩ :: fs5 N
theorem all6 (N : Nat) : ∀ y ∈ fs6 N, CallOk X0 y.d y.F := all_cons (x := ⟨dslices_Contains_int_int, Fslices_Contains_int_int N⟩) (oslices_Contains_int_int N) (all5 N)
noncomputable def X6 (N : Nat) : Ev Try.prog D := X0.with (fs6 N)
theorem cok6 (N : Nat) : COk (X6 N) := COk.of (all6 N)
/-! ### humpyard/repair.spots -/
noncomputable def u0_repair_spots (N : Nat) : List (Pc D) := []
theorem oku0_repair_spots (N : Nat) : ∀ u ∈ u0_repair_spots N, PcOk (X6 N) (bodyOf Try.f53) u := pc_nil
noncomputable def Prepair_spots_2 : PD D := { path := [1, 1, 1, 1, 0, 1, 0, 0, 1, 1, 0, 0, 1, 1, 0, 0, 1, 1, 0, 0, 1, 0, 0], ins := [.o 4 (.sl 121), .o 5 (.sl 4), .v 10 (.int .i64)], fx := [(4, .c (.own 0)), (5, .c (.own 1))], ks := [1, 1], exs := [⟨.normal, [.v 47 .bool], []⟩], keep := [4, 5, 6, 7, 9, 10, 20, 21, 22, 27, 28, 29] }
noncomputable def Frepair_spots_2 (N : Nat) : Prepair_spots_2.F := fun x => repair_spots_2 N x.1 x.2.1 x.2.2.1
theorem crepair_spots_2 (N : Nat) : CC (X6 N) (bodyOf Try.f53) Prepair_spots_2 (Frepair_spots_2 N) := CC.of (cok6 N) (us := u0_repair_spots N) (fun u h _ => oku0_repair_spots N u h) (fun x => by kernel_rfl)
noncomputable def urepair_spots_2 (N : Nat) : List (Pc D) := Prepair_spots_2.pc (X6 N) (Frepair_spots_2 N) :: u0_repair_spots N
theorem okurepair_spots_2 (N : Nat) : ∀ u ∈ urepair_spots_2 N, PcOk (X6 N) (bodyOf Try.f53) u := pc_cons ((crepair_spots_2 N).pc (by kernel_rfl)) (oku0_repair_spots N)
noncomputable def Prepair_spots_1 : PD D := { path := [1, 1, 1, 1, 0, 1, 0, 0, 1, 1, 0, 0, 1, 1, 0], ins := [.o 4 (.sl 121), .o 5 (.sl 4), .v 6 (.int .i64), .v 7 (.int .i64), .v 27 (.sl 3), .v 28 (.int .i64), .v 29 (.int .i64)], fx := [(4, .c (.own 0)), (5, .c (.own 1))], ks := [2, 2], exs := [⟨.exit 2, [.u 0 (.sl 121), .u 1 (.sl 4), .v 6 (.int .i64)], []⟩, ⟨.ret, [.v 3 .bool], [(2, .c .nilS)]⟩], keep := [4, 5, 20, 21, 22] }
noncomputable def Frepair_spots_1 (N n : Nat) : Prepair_spots_1.F := fun x => repair_spots_1 N x.2.2.2.1 x.2.2.2.2.1 x.2.2.2.2.2.1 n x.1 x.2.1 x.2.2.1 x.2.2.2.2.2.2.1
theorem crepair_spots_1 (N n : Nat) : CC (X6 N) (bodyOf Try.f53) Prepair_spots_1 (Frepair_spots_1 N n) := CC.loop (cok6 N) (us := urepair_spots_2 N) (c := sub (bodyOf Try.f53) [1, 1, 1, 1, 0, 1, 0, 0, 1, 1, 0, 0, 1, 1, 0, 0]) (by kernel_rfl) (by kernel_rfl) (fun u h _ => okurepair_spots_2 N u h) (fun x => rfl) (fun n x => by kernel_rfl) n
noncomputable def urepair_spots_1 (N : Nat) : List (Pc D) := Prepair_spots_1.pc (X6 N) (Frepair_spots_1 N N) :: urepair_spots_2 N
theorem okurepair_spots_1 (N : Nat) : ∀ u ∈ urepair_spots_1 N, PcOk (X6 N) (bodyOf Try.f53) u := pc_cons ((crepair_spots_1 N N).pc (by kernel_rfl)) (okurepair_spots_2 N)
noncomputable def Prepair_spots_0 : PD D := { path := [1, 1, 1, 1, 0, 1, 0], ins := [.o 4 (.sl 121), .o 5 (.sl 4), .v 6 (.int .i64), .v 20 (.sl 22), .v 21 (.int .i64), .v 22 (.int .i64)], fx := [(4, .c (.own 0)), (5, .c (.own 1))], ks := [0, 0], exs := [⟨.exit 0, [.o 4 (.sl 121), .v 6 (.int .i64)], [(4, .c (.own 2))]⟩, ⟨.ret, [.v 3 .bool], [(2, .c .nilS)]⟩], keep := [4] }
noncomputable def Frepair_spots_0 (N n : Nat) : Prepair_spots_0.F := fun x => repair_spots_0 N x.2.2.2.1 x.2.2.2.2.1 n x.1 x.2.1 x.2.2.1 x.2.2.2.2.2.1
theorem crepair_spots_0 (N n : Nat) : CC (X6 N) (bodyOf Try.f53) Prepair_spots_0 (Frepair_spots_0 N n) := CC.loop (cok6 N) (us := urepair_spots_1 N) (c := sub (bodyOf Try.f53) [1, 1, 1, 1, 0, 1, 0, 0]) (by kernel_rfl) (by kernel_rfl) (fun u h _ => okurepair_spots_1 N u h) (fun x => rfl) (fun n x => by kernel_rfl) n
noncomputable def urepair_spots_0 (N : Nat) : List (Pc D) := Prepair_spots_0.pc (X6 N) (Frepair_spots_0 N N) :: urepair_spots_1 N
theorem okurepair_spots_0 (N : Nat) : ∀ u ∈ urepair_spots_0 N, PcOk (X6 N) (bodyOf Try.f53) u := pc_cons ((crepair_spots_0 N N).pc (by kernel_rfl)) (okurepair_spots_1 N)
noncomputable def drepair_spots : FD D := { f := 53, np := 1, ins := [.v 0 (.agg 28)], fx := [], rcv := none, rk := 0, outs := [.o 2 (.sl 121), .v 3 .bool], ofx := [(2, .c (.own 0))], rvs := [.tmp 2, .tmp 3], flat := false }
noncomputable def Frepair_spots (N : Nat) : drepair_spots.F := fun r x => repair_spots N x.1
theorem orepair_spots (N : Nat) : FOk Try.prog (X6 N) drepair_spots (Frepair_spots N) := ⟨⟨Try.f53, _, Try.func53, rfl, by kernel_rfl, by kernel_rfl, rfl, FC.of (cok6 N) (us := urepair_spots_0 N) (fun u h _ => okurepair_spots_0 N u h) (fun r x => by kernel_rfl)⟩, by kernel_rfl, by kernel_rfl, by kernel_rfl, by kernel_rfl⟩
noncomputable def fs7 (N : Nat) : List (FE D) := ⟨drepair_spots, Frepair_spots N⟩ :: fs6 N
theorem all7 (N : Nat) : ∀ y ∈ fs7 N, CallOk X0 y.d y.F := all_cons (x := ⟨drepair_spots, Frepair_spots N⟩) (orepair_spots N) (all6 N)
noncomputable def X7 (N : Nat) : Ev Try.prog D := X0.with (fs7 N)
theorem cok7 (N : Nat) : COk (X7 N) := COk.of (all7 N)
/-! ### humpyard/repair.Valid -/
noncomputable def u0_repair_Valid (N : Nat) : List (Pc D) := []
theorem oku0_repair_Valid (N : Nat) : ∀ u ∈ u0_repair_Valid N, PcOk (X7 N) (bodyOf Try.f25) u := pc_nil
noncomputable def Prepair_Valid_0 : PD D := { path := [1, 0, 0], ins := [.o 1 (.box 28)], fx := [(1, .box 0 0)], ks := [1], exs := [⟨.normal, [.v 24 .bool], []⟩], keep := [1] }
noncomputable def Frepair_Valid_0 (N : Nat) : Prepair_Valid_0.F := fun x => repair_Valid_0 N x.1
theorem crepair_Valid_0 (N : Nat) : CC (X7 N) (bodyOf Try.f25) Prepair_Valid_0 (Frepair_Valid_0 N) := CC.of (cok7 N) (us := u0_repair_Valid N) (fun u h _ => oku0_repair_Valid N u h) (fun x => by kernel_rfl)
noncomputable def urepair_Valid_0 (N : Nat) : List (Pc D) := Prepair_Valid_0.pc (X7 N) (Frepair_Valid_0 N) :: u0_repair_Valid N
theorem okurepair_Valid_0 (N : Nat) : ∀ u ∈ urepair_Valid_0 N, PcOk (X7 N) (bodyOf Try.f25) u := pc_cons ((crepair_Valid_0 N).pc (by kernel_rfl)) (oku0_repair_Valid N)
noncomputable def Prepair_Valid_2 : PD D := { path := [1, 1, 0, 1, 0, 0, 1, 1, 0, 0, 1, 0], ins := [.o 1 (.box 28), .v 3 (.int .i64), .v 4 (.int .i64)], fx := [(1, .box 0 0)], ks := [1], exs := [⟨.normal, [.v 49 .bool], []⟩], keep := [1, 26, 27, 28] }
noncomputable def Frepair_Valid_2 (N : Nat) : Prepair_Valid_2.F := fun x => repair_Valid_2 N x.1 x.2.1 x.2.2.1
theorem crepair_Valid_2 (N : Nat) : CC (X7 N) (bodyOf Try.f25) Prepair_Valid_2 (Frepair_Valid_2 N) := CC.of (cok7 N) (us := urepair_Valid_0 N) (fun u h _ => okurepair_Valid_0 N u h) (fun x => by kernel_rfl)
noncomputable def urepair_Valid_2 (N : Nat) : List (Pc D) := Prepair_Valid_2.pc (X7 N) (Frepair_Valid_2 N) :: urepair_Valid_0 N
theorem okurepair_Valid_2 (N : Nat) : ∀ u ∈ urepair_Valid_2 N, PcOk (X7 N) (bodyOf Try.f25) u := pc_cons ((crepair_Valid_2 N).pc (by kernel_rfl)) (okurepair_Valid_0 N)
noncomputable def Prepair_Valid_1 : PD D := { path := [1, 1, 0, 1, 0], ins := [.o 1 (.box 28), .v 26 (.sl 3), .v 27 (.int .i64), .v 28 (.int .i64)], fx := [(1, .box 0 0)], ks := [1], exs := [⟨.exit 0, [], []⟩, ⟨.ret, [.v 2 .bool], []⟩], keep := [1] }
noncomputable def Frepair_Valid_1 (N n : Nat) : Prepair_Valid_1.F := fun x => repair_Valid_1 N x.1 x.2.1 x.2.2.1 n x.2.2.2.1
theorem crepair_Valid_1 (N n : Nat) : CC (X7 N) (bodyOf Try.f25) Prepair_Valid_1 (Frepair_Valid_1 N n) := CC.loop (cok7 N) (us := urepair_Valid_2 N) (c := sub (bodyOf Try.f25) [1, 1, 0, 1, 0, 0]) (by kernel_rfl) (by kernel_rfl) (fun u h _ => okurepair_Valid_2 N u h) (fun x => rfl) (fun n x => by kernel_rfl) n
noncomputable def urepair_Valid_1 (N : Nat) : List (Pc D) := Prepair_Valid_1.pc (X7 N) (Frepair_Valid_1 N N) :: urepair_Valid_2 N
theorem okurepair_Valid_1 (N : Nat) : ∀ u ∈ urepair_Valid_1 N, PcOk (X7 N) (bodyOf Try.f25) u := pc_cons ((crepair_Valid_1 N N).pc (by kernel_rfl)) (okurepair_Valid_2 N)
noncomputable def Prepair_Valid_4 : PD D := { path := [1, 1, 1, 0, 1, 0, 0, 1, 1, 0, 0, 1, 0], ins := [.o 1 (.box 28), .o 6 (.box 44)], fx := [(1, .box 0 0), (6, .box 1 0)], ks := [1, 1], exs := [⟨.normal, [.v 93 .bool], []⟩], keep := [1, 52, 53, 54] }
noncomputable def Frepair_Valid_4 (N : Nat) : Prepair_Valid_4.F := fun x => repair_Valid_4 N x.1 x.2.1
theorem crepair_Valid_4 (N : Nat) : CC (X7 N) (bodyOf Try.f25) Prepair_Valid_4 (Frepair_Valid_4 N) := CC.of (cok7 N) (us := urepair_Valid_1 N) (fun u h _ => okurepair_Valid_1 N u h) (fun x => by kernel_rfl)
noncomputable def urepair_Valid_4 (N : Nat) : List (Pc D) := Prepair_Valid_4.pc (X7 N) (Frepair_Valid_4 N) :: urepair_Valid_1 N
theorem okurepair_Valid_4 (N : Nat) : ∀ u ∈ urepair_Valid_4 N, PcOk (X7 N) (bodyOf Try.f25) u := pc_cons ((crepair_Valid_4 N).pc (by kernel_rfl)) (okurepair_Valid_1 N)
noncomputable def Prepair_Valid_3 : PD D := { path := [1, 1, 1, 0, 1, 0], ins := [.o 1 (.box 28), .v 52 (.sl 44), .v 53 (.int .i64), .v 54 (.int .i64)], fx := [(1, .box 0 0)], ks := [1], exs := [⟨.exit 2, [], []⟩, ⟨.ret, [.v 2 .bool], []⟩], keep := [1] }
noncomputable def Frepair_Valid_3 (N n : Nat) : Prepair_Valid_3.F := fun x => repair_Valid_3 N x.1 x.2.1 x.2.2.1 n x.2.2.2.1
theorem crepair_Valid_3 (N n : Nat) : CC (X7 N) (bodyOf Try.f25) Prepair_Valid_3 (Frepair_Valid_3 N n) := CC.loop (cok7 N) (us := urepair_Valid_4 N) (c := sub (bodyOf Try.f25) [1, 1, 1, 0, 1, 0, 0]) (by kernel_rfl) (by kernel_rfl) (fun u h _ => okurepair_Valid_4 N u h) (fun x => rfl) (fun n x => by kernel_rfl) n
noncomputable def urepair_Valid_3 (N : Nat) : List (Pc D) := Prepair_Valid_3.pc (X7 N) (Frepair_Valid_3 N N) :: urepair_Valid_4 N
theorem okurepair_Valid_3 (N : Nat) : ∀ u ∈ urepair_Valid_3 N, PcOk (X7 N) (bodyOf Try.f25) u := pc_cons ((crepair_Valid_3 N N).pc (by kernel_rfl)) (okurepair_Valid_4 N)
noncomputable def drepair_Valid : FD D := { f := 25, np := 1, ins := [.v 0 (.agg 28)], fx := [], rcv := none, rk := 0, outs := [.v 2 .bool], ofx := [], rvs := [.tmp 2], flat := true }
noncomputable def Frepair_Valid (N : Nat) : drepair_Valid.F := fun r x => repair_Valid N x.1
theorem orepair_Valid (N : Nat) : FOk Try.prog (X7 N) drepair_Valid (Frepair_Valid N) := ⟨⟨Try.f25, _, Try.func25, rfl, by kernel_rfl, by kernel_rfl, rfl, FC.of (cok7 N) (us := urepair_Valid_3 N) (fun u h _ => okurepair_Valid_3 N u h) (fun r x => by kernel_rfl)⟩, by kernel_rfl, by kernel_rfl, by kernel_rfl, by kernel_rfl⟩
noncomputable def fs8 (N : Nat) : List (FE D) := ⟨drepair_Valid, Frepair_Valid N⟩ :: fs7 N
theorem all8 (N : Nat) : ∀ y ∈ fs8 N, CallOk X0 y.d y.F := all_cons (x := ⟨drepair_Valid, Frepair_Valid N⟩) (orepair_Valid N) (all7 N)
noncomputable def X8 (N : Nat) : Ev Try.prog D := X0.with (fs8 N)
theorem cok8 (N : Nat) : COk (X8 N) := COk.of (all8 N)
/-! ### humpyard/repair.open -/
noncomputable def u0_repair_open (N : Nat) : List (Pc D) := []
theorem oku0_repair_open (N : Nat) : ∀ u ∈ u0_repair_open N, PcOk (X8 N) (bodyOf Try.f26) u := pc_nil
noncomputable def Prepair_open_0 : PD D := { path := [1, 1, 1, 0, 1, 0], ins := [.o 3 (.bx 75 [(3, 1), (4, 2)]), .v 24 (.int .i64), .v 25 (.int .i64), .o 2003003 (.sl 121), .o 2003004 (.sl 3)], fx := [(3, .box 0 0)], ks := [1, 1, 2], exs := [⟨.exit 0, [.u 2 (.sl 3)], []⟩], keep := [3] }
noncomputable def Frepair_open_0 (N n : Nat) : Prepair_open_0.F := fun x => repair_open_0 N x.2.1 n x.2.2.1 x.2.2.2.2.1
theorem crepair_open_0 (N n : Nat) : CC (X8 N) (bodyOf Try.f26) Prepair_open_0 (Frepair_open_0 N n) := CC.loop (cok8 N) (us := u0_repair_open N) (c := sub (bodyOf Try.f26) [1, 1, 1, 0, 1, 0, 0]) (by kernel_rfl) (by kernel_rfl) (fun u h _ => oku0_repair_open N u h) (fun x => rfl) (fun n x => by kernel_rfl) n
noncomputable def urepair_open_0 (N : Nat) : List (Pc D) := Prepair_open_0.pc (X8 N) (Frepair_open_0 N N) :: u0_repair_open N
theorem okurepair_open_0 (N : Nat) : ∀ u ∈ urepair_open_0 N, PcOk (X8 N) (bodyOf Try.f26) u := pc_cons ((crepair_open_0 N N).pc (by kernel_rfl)) (oku0_repair_open N)
noncomputable def drepair_open : FD D := { f := 26, np := 1, ins := [.v 0 (.agg 28)], fx := [], rcv := none, rk := 0, outs := [.o 2 (.bx 75 [(3, 1), (4, 2)]), .o 2002003 (.sl 121), .o 2002004 (.sl 3)], ofx := [(2, .box 0 0)], rvs := [.tmp 2], flat := false }
noncomputable def Frepair_open (N : Nat) : drepair_open.F := fun r x => repair_open N x.1
theorem orepair_open (N : Nat) : FOk Try.prog (X8 N) drepair_open (Frepair_open N) := ⟨⟨Try.f26, _, Try.func26, rfl, by kernel_rfl, by kernel_rfl, rfl, FC.of (cok8 N) (us := urepair_open_0 N) (fun u h _ => okurepair_open_0 N u h) (fun r x => by kernel_rfl)⟩, by kernel_rfl, by kernel_rfl, by kernel_rfl, by kernel_rfl⟩
noncomputable def fs9 (N : Nat) : List (FE D) := ⟨drepair_open, Frepair_open N⟩ :: fs8 N
theorem all9 (N : Nat) : ∀ y ∈ fs9 N, CallOk X0 y.d y.F := all_cons (x := ⟨drepair_open, Frepair_open N⟩) (orepair_open N) (all8 N)
noncomputable def X9 (N : Nat) : Ev Try.prog D := X0.with (fs9 N)
theorem cok9 (N : Nat) : COk (X9 N) := COk.of (all9 N)
/-! ### (*humpyard/repair.scene).home -/
noncomputable def u0_scene_home (N : Nat) : List (Pc D) := []
theorem oku0_scene_home (N : Nat) : ∀ u ∈ u0_scene_home N, PcOk (X9 N) (bodyOf Try.f54) u := pc_nil
noncomputable def dscene_home : FD D := { f := 54, np := 2, ins := [.v 0 (.rp 75), .v 1 (.int .i64)], fx := [], rcv := none, rk := 0, outs := [.v 4 .bool], ofx := [], rvs := [.tmp 4], flat := true }
noncomputable def Fscene_home (N : Nat) : dscene_home.F := fun r x => scene_home N x.1 x.2.1
theorem oscene_home (N : Nat) : FOk Try.prog (X9 N) dscene_home (Fscene_home N) := ⟨⟨Try.f54, _, Try.func54, rfl, by kernel_rfl, by kernel_rfl, rfl, FC.of (cok9 N) (us := u0_scene_home N) (fun u h _ => oku0_scene_home N u h) (fun r x => by kernel_rfl)⟩, by kernel_rfl, by kernel_rfl, by kernel_rfl, by kernel_rfl⟩
noncomputable def fs10 (N : Nat) : List (FE D) := ⟨dscene_home, Fscene_home N⟩ :: fs9 N
theorem all10 (N : Nat) : ∀ y ∈ fs10 N, CallOk X0 y.d y.F := all_cons (x := ⟨dscene_home, Fscene_home N⟩) (oscene_home N) (all9 N)
noncomputable def X10 (N : Nat) : Ev Try.prog D := X0.with (fs10 N)
theorem cok10 (N : Nat) : COk (X10 N) := COk.of (all10 N)
/-! ### (*humpyard/repair.scene).ahead -/
noncomputable def u0_scene_ahead (N : Nat) : List (Pc D) := []
theorem oku0_scene_ahead (N : Nat) : ∀ u ∈ u0_scene_ahead N, PcOk (X10 N) (bodyOf Try.f59) u := pc_nil
noncomputable def Pscene_ahead_0 : PD D := { path := [1, 0], ins := [.v 0 (.rp 75), .v 1 (.int .i64), .v 2 (.int .i64)], fx := [], ks := [], exs := [⟨.normal, [.v 6 .bool], []⟩], keep := [] }
noncomputable def Fscene_ahead_0 (N : Nat) : Pscene_ahead_0.F := fun x => scene_ahead_0 N x.1 x.2.1 x.2.2.1
theorem cscene_ahead_0 (N : Nat) : CC (X10 N) (bodyOf Try.f59) Pscene_ahead_0 (Fscene_ahead_0 N) := CC.of (cok10 N) (us := u0_scene_ahead N) (fun u h _ => oku0_scene_ahead N u h) (fun x => by kernel_rfl)
noncomputable def uscene_ahead_0 (N : Nat) : List (Pc D) := Pscene_ahead_0.pc (X10 N) (Fscene_ahead_0 N) :: u0_scene_ahead N
theorem okuscene_ahead_0 (N : Nat) : ∀ u ∈ uscene_ahead_0 N, PcOk (X10 N) (bodyOf Try.f59) u := pc_cons ((cscene_ahead_0 N).pc (by kernel_rfl)) (oku0_scene_ahead N)
noncomputable def dscene_ahead : FD D := { f := 59, np := 3, ins := [.v 0 (.rp 75), .v 1 (.int .i64), .v 2 (.int .i64)], fx := [], rcv := none, rk := 0, outs := [.v 6 .bool], ofx := [], rvs := [.tmp 6], flat := true }
noncomputable def Fscene_ahead (N : Nat) : dscene_ahead.F := fun r x => scene_ahead N x.1 x.2.1 x.2.2.1
theorem oscene_ahead (N : Nat) : FOk Try.prog (X10 N) dscene_ahead (Fscene_ahead N) := ⟨⟨Try.f59, _, Try.func59, rfl, by kernel_rfl, by kernel_rfl, rfl, FC.of (cok10 N) (us := uscene_ahead_0 N) (fun u h _ => okuscene_ahead_0 N u h) (fun r x => by kernel_rfl)⟩, by kernel_rfl, by kernel_rfl, by kernel_rfl, by kernel_rfl⟩
noncomputable def fs11 (N : Nat) : List (FE D) := ⟨dscene_ahead, Fscene_ahead N⟩ :: fs10 N
theorem all11 (N : Nat) : ∀ y ∈ fs11 N, CallOk X0 y.d y.F := all_cons (x := ⟨dscene_ahead, Fscene_ahead N⟩) (oscene_ahead N) (all10 N)
noncomputable def X11 (N : Nat) : Ev Try.prog D := X0.with (fs11 N)
theorem cok11 (N : Nat) : COk (X11 N) := COk.of (all11 N)
/-! ### (*humpyard/repair.scene).nearer -/
noncomputable def u0_scene_nearer (N : Nat) : List (Pc D) := []
theorem oku0_scene_nearer (N : Nat) : ∀ u ∈ u0_scene_nearer N, PcOk (X11 N) (bodyOf Try.f60) u := pc_nil
noncomputable def Pscene_nearer_0 : PD D := { path := [1, 0], ins := [.v 0 (.rp 75), .v 1 (.int .i64), .v 2 (.int .i64)], fx := [], ks := [], exs := [⟨.normal, [.v 6 .bool], []⟩], keep := [] }
noncomputable def Fscene_nearer_0 (N : Nat) : Pscene_nearer_0.F := fun x => scene_nearer_0 N x.1 x.2.1 x.2.2.1
theorem cscene_nearer_0 (N : Nat) : CC (X11 N) (bodyOf Try.f60) Pscene_nearer_0 (Fscene_nearer_0 N) := CC.of (cok11 N) (us := u0_scene_nearer N) (fun u h _ => oku0_scene_nearer N u h) (fun x => by kernel_rfl)
noncomputable def uscene_nearer_0 (N : Nat) : List (Pc D) := Pscene_nearer_0.pc (X11 N) (Fscene_nearer_0 N) :: u0_scene_nearer N
theorem okuscene_nearer_0 (N : Nat) : ∀ u ∈ uscene_nearer_0 N, PcOk (X11 N) (bodyOf Try.f60) u := pc_cons ((cscene_nearer_0 N).pc (by kernel_rfl)) (oku0_scene_nearer N)
noncomputable def dscene_nearer : FD D := { f := 60, np := 3, ins := [.v 0 (.rp 75), .v 1 (.int .i64), .v 2 (.int .i64)], fx := [], rcv := none, rk := 0, outs := [.v 6 .bool], ofx := [], rvs := [.tmp 6], flat := true }
noncomputable def Fscene_nearer (N : Nat) : dscene_nearer.F := fun r x => scene_nearer N x.1 x.2.1 x.2.2.1
theorem oscene_nearer (N : Nat) : FOk Try.prog (X11 N) dscene_nearer (Fscene_nearer N) := ⟨⟨Try.f60, _, Try.func60, rfl, by kernel_rfl, by kernel_rfl, rfl, FC.of (cok11 N) (us := uscene_nearer_0 N) (fun u h _ => okuscene_nearer_0 N u h) (fun r x => by kernel_rfl)⟩, by kernel_rfl, by kernel_rfl, by kernel_rfl, by kernel_rfl⟩
noncomputable def fs12 (N : Nat) : List (FE D) := ⟨dscene_nearer, Fscene_nearer N⟩ :: fs11 N
theorem all12 (N : Nat) : ∀ y ∈ fs12 N, CallOk X0 y.d y.F := all_cons (x := ⟨dscene_nearer, Fscene_nearer N⟩) (oscene_nearer N) (all11 N)
noncomputable def X12 (N : Nat) : Ev Try.prog D := X0.with (fs12 N)
theorem cok12 (N : Nat) : COk (X12 N) := COk.of (all12 N)
/-! ### (*humpyard/repair.scene).pulled -/
noncomputable def u0_scene_pulled (N : Nat) : List (Pc D) := []
theorem oku0_scene_pulled (N : Nat) : ∀ u ∈ u0_scene_pulled N, PcOk (X12 N) (bodyOf Try.f78) u := pc_nil
noncomputable def Pscene_pulled_0 : PD D := { path := [1, 0], ins := [.v 0 (.rp 75), .v 1 (.int .i64), .v 2 (.int .i64)], fx := [], ks := [], exs := [⟨.normal, [.v 6 .bool], []⟩], keep := [] }
noncomputable def Fscene_pulled_0 (N : Nat) : Pscene_pulled_0.F := fun x => scene_pulled_0 N x.1 x.2.1 x.2.2.1
theorem cscene_pulled_0 (N : Nat) : CC (X12 N) (bodyOf Try.f78) Pscene_pulled_0 (Fscene_pulled_0 N) := CC.of (cok12 N) (us := u0_scene_pulled N) (fun u h _ => oku0_scene_pulled N u h) (fun x => by kernel_rfl)
noncomputable def uscene_pulled_0 (N : Nat) : List (Pc D) := Pscene_pulled_0.pc (X12 N) (Fscene_pulled_0 N) :: u0_scene_pulled N
theorem okuscene_pulled_0 (N : Nat) : ∀ u ∈ uscene_pulled_0 N, PcOk (X12 N) (bodyOf Try.f78) u := pc_cons ((cscene_pulled_0 N).pc (by kernel_rfl)) (oku0_scene_pulled N)
noncomputable def dscene_pulled : FD D := { f := 78, np := 3, ins := [.v 0 (.rp 75), .v 1 (.int .i64), .v 2 (.int .i64)], fx := [], rcv := none, rk := 0, outs := [.v 6 .bool], ofx := [], rvs := [.tmp 6], flat := true }
noncomputable def Fscene_pulled (N : Nat) : dscene_pulled.F := fun r x => scene_pulled N x.1 x.2.1 x.2.2.1
theorem oscene_pulled (N : Nat) : FOk Try.prog (X12 N) dscene_pulled (Fscene_pulled N) := ⟨⟨Try.f78, _, Try.func78, rfl, by kernel_rfl, by kernel_rfl, rfl, FC.of (cok12 N) (us := uscene_pulled_0 N) (fun u h _ => okuscene_pulled_0 N u h) (fun r x => by kernel_rfl)⟩, by kernel_rfl, by kernel_rfl, by kernel_rfl, by kernel_rfl⟩
noncomputable def fs13 (N : Nat) : List (FE D) := ⟨dscene_pulled, Fscene_pulled N⟩ :: fs12 N
theorem all13 (N : Nat) : ∀ y ∈ fs13 N, CallOk X0 y.d y.F := all_cons (x := ⟨dscene_pulled, Fscene_pulled N⟩) (oscene_pulled N) (all12 N)
noncomputable def X13 (N : Nat) : Ev Try.prog D := X0.with (fs13 N)
theorem cok13 (N : Nat) : COk (X13 N) := COk.of (all13 N)
/-! ### (*humpyard/repair.scene).justifies -/
noncomputable def u0_scene_justifies (N : Nat) : List (Pc D) := []
theorem oku0_scene_justifies (N : Nat) : ∀ u ∈ u0_scene_justifies N, PcOk (X13 N) (bodyOf Try.f55) u := pc_nil
noncomputable def Pscene_justifies_0 : PD D := { path := [1, 0, 1, 0, 0], ins := [.v 0 (.rp 75), .v 1 (.int .i64), .v 3 (.int .i64)], fx := [], ks := [], exs := [⟨.normal, [.v 10 .bool], []⟩], keep := [] }
noncomputable def Fscene_justifies_0 (N : Nat) : Pscene_justifies_0.F := fun x => scene_justifies_0 N x.1 x.2.1 x.2.2.1
theorem cscene_justifies_0 (N : Nat) : CC (X13 N) (bodyOf Try.f55) Pscene_justifies_0 (Fscene_justifies_0 N) := CC.of (cok13 N) (us := u0_scene_justifies N) (fun u h _ => oku0_scene_justifies N u h) (fun x => by kernel_rfl)
noncomputable def uscene_justifies_0 (N : Nat) : List (Pc D) := Pscene_justifies_0.pc (X13 N) (Fscene_justifies_0 N) :: u0_scene_justifies N
theorem okuscene_justifies_0 (N : Nat) : ∀ u ∈ uscene_justifies_0 N, PcOk (X13 N) (bodyOf Try.f55) u := pc_cons ((cscene_justifies_0 N).pc (by kernel_rfl)) (oku0_scene_justifies N)
noncomputable def Pscene_justifies_1 : PD D := { path := [1, 1, 0, 0], ins := [.v 0 (.rp 75), .v 3 (.int .i64)], fx := [], ks := [], exs := [⟨.normal, [.v 32 .bool], []⟩], keep := [0, 1, 2, 3, 4] }
noncomputable def Fscene_justifies_1 (N : Nat) : Pscene_justifies_1.F := fun x => scene_justifies_1 N x.1 x.2.1
theorem cscene_justifies_1 (N : Nat) : CC (X13 N) (bodyOf Try.f55) Pscene_justifies_1 (Fscene_justifies_1 N) := CC.of (cok13 N) (us := uscene_justifies_0 N) (fun u h _ => okuscene_justifies_0 N u h) (fun x => by kernel_rfl)
noncomputable def uscene_justifies_1 (N : Nat) : List (Pc D) := Pscene_justifies_1.pc (X13 N) (Fscene_justifies_1 N) :: uscene_justifies_0 N
theorem okuscene_justifies_1 (N : Nat) : ∀ u ∈ uscene_justifies_1 N, PcOk (X13 N) (bodyOf Try.f55) u := pc_cons ((cscene_justifies_1 N).pc (by kernel_rfl)) (okuscene_justifies_0 N)
noncomputable def Pscene_justifies_2 : PD D := { path := [1, 1, 1, 0, 0, 0], ins := [.v 2 (.int .i64), .v 4 (.int .i64)], fx := [], ks := [], exs := [⟨.normal, [.v 33 .bool], []⟩], keep := [0, 1, 2, 3, 4] }
noncomputable def Fscene_justifies_2 (N : Nat) : Pscene_justifies_2.F := fun x => scene_justifies_2 N x.1 x.2.1
theorem cscene_justifies_2 (N : Nat) : CC (X13 N) (bodyOf Try.f55) Pscene_justifies_2 (Fscene_justifies_2 N) := CC.of (cok13 N) (us := uscene_justifies_1 N) (fun u h _ => okuscene_justifies_1 N u h) (fun x => by kernel_rfl)
noncomputable def uscene_justifies_2 (N : Nat) : List (Pc D) := Pscene_justifies_2.pc (X13 N) (Fscene_justifies_2 N) :: uscene_justifies_1 N
theorem okuscene_justifies_2 (N : Nat) : ∀ u ∈ uscene_justifies_2 N, PcOk (X13 N) (bodyOf Try.f55) u := pc_cons ((cscene_justifies_2 N).pc (by kernel_rfl)) (okuscene_justifies_1 N)
noncomputable def Pscene_justifies_3 : PD D := { path := [1, 1, 1, 0, 0, 1, 0, 0], ins := [.v 0 (.rp 75), .v 1 (.int .i64), .v 3 (.int .i64)], fx := [], ks := [], exs := [⟨.normal, [.v 10 .bool], []⟩], keep := [] }
noncomputable def Fscene_justifies_3 (N : Nat) : Pscene_justifies_3.F := fun x => scene_justifies_3 N x.1 x.2.1 x.2.2.1
theorem cscene_justifies_3 (N : Nat) : CC (X13 N) (bodyOf Try.f55) Pscene_justifies_3 (Fscene_justifies_3 N) := CC.of (cok13 N) (us := uscene_justifies_2 N) (fun u h _ => okuscene_justifies_2 N u h) (fun x => by kernel_rfl)
noncomputable def uscene_justifies_3 (N : Nat) : List (Pc D) := Pscene_justifies_3.pc (X13 N) (Fscene_justifies_3 N) :: uscene_justifies_2 N
theorem okuscene_justifies_3 (N : Nat) : ∀ u ∈ uscene_justifies_3 N, PcOk (X13 N) (bodyOf Try.f55) u := pc_cons ((cscene_justifies_3 N).pc (by kernel_rfl)) (okuscene_justifies_2 N)
noncomputable def Pscene_justifies_4 : PD D := { path := [1, 1, 1, 0, 0, 1, 1, 1, 0, 0], ins := [.v 0 (.rp 75), .v 1 (.int .i64), .v 3 (.int .i64), .v 4 (.int .i64)], fx := [], ks := [], exs := [⟨.normal, [.v 10 .bool], []⟩], keep := [] }
noncomputable def Fscene_justifies_4 (N : Nat) : Pscene_justifies_4.F := fun x => scene_justifies_4 N x.1 x.2.1 x.2.2.1 x.2.2.2.1
theorem cscene_justifies_4 (N : Nat) : CC (X13 N) (bodyOf Try.f55) Pscene_justifies_4 (Fscene_justifies_4 N) := CC.of (cok13 N) (us := uscene_justifies_3 N) (fun u h _ => okuscene_justifies_3 N u h) (fun x => by kernel_rfl)
noncomputable def uscene_justifies_4 (N : Nat) : List (Pc D) := Pscene_justifies_4.pc (X13 N) (Fscene_justifies_4 N) :: uscene_justifies_3 N
theorem okuscene_justifies_4 (N : Nat) : ∀ u ∈ uscene_justifies_4 N, PcOk (X13 N) (bodyOf Try.f55) u := pc_cons ((cscene_justifies_4 N).pc (by kernel_rfl)) (okuscene_justifies_3 N)
noncomputable def Pscene_justifies_5 : PD D := { path := [1, 1, 1, 0, 0, 1, 1, 1, 1, 1, 0, 0], ins := [.v 0 (.rp 75), .v 1 (.int .i64), .v 3 (.int .i64), .v 4 (.int .i64)], fx := [], ks := [], exs := [⟨.normal, [.v 10 .bool], []⟩], keep := [] }
noncomputable def Fscene_justifies_5 (N : Nat) : Pscene_justifies_5.F := fun x => scene_justifies_5 N x.1 x.2.1 x.2.2.1 x.2.2.2.1
theorem cscene_justifies_5 (N : Nat) : CC (X13 N) (bodyOf Try.f55) Pscene_justifies_5 (Fscene_justifies_5 N) := CC.of (cok13 N) (us := uscene_justifies_4 N) (fun u h _ => okuscene_justifies_4 N u h) (fun x => by kernel_rfl)
noncomputable def uscene_justifies_5 (N : Nat) : List (Pc D) := Pscene_justifies_5.pc (X13 N) (Fscene_justifies_5 N) :: uscene_justifies_4 N
theorem okuscene_justifies_5 (N : Nat) : ∀ u ∈ uscene_justifies_5 N, PcOk (X13 N) (bodyOf Try.f55) u := pc_cons ((cscene_justifies_5 N).pc (by kernel_rfl)) (okuscene_justifies_4 N)
noncomputable def dscene_justifies : FD D := { f := 55, np := 5, ins := [.v 0 (.rp 75), .v 1 (.int .i64), .v 2 (.int .i64), .v 3 (.int .i64), .v 4 (.int .i64)], fx := [], rcv := none, rk := 0, outs := [.v 10 .bool], ofx := [], rvs := [.tmp 10], flat := true }
noncomputable def Fscene_justifies (N : Nat) : dscene_justifies.F := fun r x => scene_justifies N x.1 x.2.1 x.2.2.1 x.2.2.2.1 x.2.2.2.2.1
theorem oscene_justifies (N : Nat) : FOk Try.prog (X13 N) dscene_justifies (Fscene_justifies N) := ⟨⟨Try.f55, _, Try.func55, rfl, by kernel_rfl, by kernel_rfl, rfl, FC.of (cok13 N) (us := uscene_justifies_5 N) (fun u h _ => okuscene_justifies_5 N u h) (fun r x => by kernel_rfl)⟩, by kernel_rfl, by kernel_rfl, by kernel_rfl, by kernel_rfl⟩
noncomputable def fs14 (N : Nat) : List (FE D) := ⟨dscene_justifies, Fscene_justifies N⟩ :: fs13 N
theorem all14 (N : Nat) : ∀ y ∈ fs14 N, CallOk X0 y.d y.F := all_cons (x := ⟨dscene_justifies, Fscene_justifies N⟩) (oscene_justifies N) (all13 N)
noncomputable def X14 (N : Nat) : Ev Try.prog D := X0.with (fs14 N)
theorem cok14 (N : Nat) : COk (X14 N) := COk.of (all14 N)
/-! ### (*humpyard/repair.scene).why -/
noncomputable def u0_scene_why (N : Nat) : List (Pc D) := []
theorem oku0_scene_why (N : Nat) : ∀ u ∈ u0_scene_why N, PcOk (X14 N) (bodyOf Try.f27) u := pc_nil
noncomputable def Pscene_why_0 : PD D := { path := [1, 1, 0, 1], ins := [.v 0 (.rp 75), .v 1 (.int .i64), .o 6 (.box 39), .o 8 (.sl 3), .v 14 .bool], fx := [(6, .box 0 0), (8, .c (.own 1))], ks := [2, 0], exs := [⟨.normal, [.u 0 (.box 39), .v 8 (.sl 3)], []⟩, ⟨.ret, [.u 0 (.box 39), .v 7 .bool], []⟩], keep := [0, 1, 2, 6] }
noncomputable def Fscene_why_0 (N : Nat) : Pscene_why_0.F := fun x => scene_why_0 N x.1 x.2.1 x.2.2.1 x.2.2.2.1 x.2.2.2.2.1
theorem cscene_why_0 (N : Nat) : CC (X14 N) (bodyOf Try.f27) Pscene_why_0 (Fscene_why_0 N) := CC.of (cok14 N) (us := u0_scene_why N) (fun u h _ => oku0_scene_why N u h) (fun x => by kernel_rfl)
noncomputable def uscene_why_0 (N : Nat) : List (Pc D) := Pscene_why_0.pc (X14 N) (Fscene_why_0 N) :: u0_scene_why N
theorem okuscene_why_0 (N : Nat) : ∀ u ∈ uscene_why_0 N, PcOk (X14 N) (bodyOf Try.f27) u := pc_cons ((cscene_why_0 N).pc (by kernel_rfl)) (oku0_scene_why N)
noncomputable def Pscene_why_2 : PD D := { path := [1, 1, 1, 0, 1, 0, 0, 1, 1, 0, 0, 1, 1, 0], ins := [.v 0 (.rp 75), .v 1 (.int .i64), .v 2 (.int .i64), .o 6 (.box 39), .v 10 (.int .i64), .v 34 (.int .i64), .v 35 (.int .i64)], fx := [(6, .box 0 0)], ks := [2], exs := [⟨.exit 2, [.u 0 (.box 39)], []⟩, ⟨.ret, [.u 0 (.box 39), .v 7 .bool], []⟩], keep := [0, 1, 2, 6, 23, 24, 25] }
noncomputable def Fscene_why_2 (N n : Nat) : Pscene_why_2.F := fun x => scene_why_2 N x.1 x.2.1 x.2.2.1 x.2.2.2.2.1 x.2.2.2.2.2.1 n x.2.2.2.1 x.2.2.2.2.2.2.1
theorem cscene_why_2 (N n : Nat) : CC (X14 N) (bodyOf Try.f27) Pscene_why_2 (Fscene_why_2 N n) := CC.loop (cok14 N) (us := uscene_why_0 N) (c := sub (bodyOf Try.f27) [1, 1, 1, 0, 1, 0, 0, 1, 1, 0, 0, 1, 1, 0, 0]) (by kernel_rfl) (by kernel_rfl) (fun u h _ => okuscene_why_0 N u h) (fun x => rfl) (fun n x => by kernel_rfl) n
noncomputable def uscene_why_2 (N : Nat) : List (Pc D) := Pscene_why_2.pc (X14 N) (Fscene_why_2 N N) :: uscene_why_0 N
theorem okuscene_why_2 (N : Nat) : ∀ u ∈ uscene_why_2 N, PcOk (X14 N) (bodyOf Try.f27) u := pc_cons ((cscene_why_2 N N).pc (by kernel_rfl)) (okuscene_why_0 N)
noncomputable def Pscene_why_1 : PD D := { path := [1, 1, 1, 0, 1, 0], ins := [.v 0 (.rp 75), .v 1 (.int .i64), .v 2 (.int .i64), .o 6 (.box 39), .v 23 (.sl 3), .v 24 (.int .i64), .v 25 (.int .i64)], fx := [(6, .box 0 0)], ks := [2], exs := [⟨.exit 0, [.u 0 (.box 39)], []⟩, ⟨.ret, [.u 0 (.box 39), .v 7 .bool], []⟩], keep := [6] }
noncomputable def Fscene_why_1 (N n : Nat) : Pscene_why_1.F := fun x => scene_why_1 N x.1 x.2.1 x.2.2.1 x.2.2.2.2.1 x.2.2.2.2.2.1 n x.2.2.2.1 x.2.2.2.2.2.2.1
theorem cscene_why_1 (N n : Nat) : CC (X14 N) (bodyOf Try.f27) Pscene_why_1 (Fscene_why_1 N n) := CC.loop (cok14 N) (us := uscene_why_2 N) (c := sub (bodyOf Try.f27) [1, 1, 1, 0, 1, 0, 0]) (by kernel_rfl) (by kernel_rfl) (fun u h _ => okuscene_why_2 N u h) (fun x => rfl) (fun n x => by kernel_rfl) n
noncomputable def uscene_why_1 (N : Nat) : List (Pc D) := Pscene_why_1.pc (X14 N) (Fscene_why_1 N N) :: uscene_why_2 N
theorem okuscene_why_1 (N : Nat) : ∀ u ∈ uscene_why_1 N, PcOk (X14 N) (bodyOf Try.f27) u := pc_cons ((cscene_why_1 N N).pc (by kernel_rfl)) (okuscene_why_2 N)
noncomputable def dscene_why : FD D := { f := 27, np := 3, ins := [.v 0 (.rp 75), .v 1 (.int .i64), .v 2 (.int .i64)], fx := [], rcv := none, rk := 0, outs := [.v 1000000 (.agg 39), .v 7 .bool], ofx := [], rvs := [.cell 6 39, .tmp 7], flat := true }
noncomputable def Fscene_why (N : Nat) : dscene_why.F := fun r x => scene_why N x.1 x.2.1 x.2.2.1
theorem oscene_why (N : Nat) : FOk Try.prog (X14 N) dscene_why (Fscene_why N) := ⟨⟨Try.f27, _, Try.func27, rfl, by kernel_rfl, by kernel_rfl, rfl, FC.of (cok14 N) (us := uscene_why_1 N) (fun u h _ => okuscene_why_1 N u h) (fun r x => by kernel_rfl)⟩, by kernel_rfl, by kernel_rfl, by kernel_rfl, by kernel_rfl⟩
noncomputable def fs15 (N : Nat) : List (FE D) := ⟨dscene_why, Fscene_why N⟩ :: fs14 N
theorem all15 (N : Nat) : ∀ y ∈ fs15 N, CallOk X0 y.d y.F := all_cons (x := ⟨dscene_why, Fscene_why N⟩) (oscene_why N) (all14 N)
noncomputable def X15 (N : Nat) : Ev Try.prog D := X0.with (fs15 N)
theorem cok15 (N : Nat) : COk (X15 N) := COk.of (all15 N)
/-! ### cmp.isNaN[int] -/
noncomputable def u0_cmp_isNaN_int (N : Nat) : List (Pc D) := []
theorem oku0_cmp_isNaN_int (N : Nat) : ∀ u ∈ u0_cmp_isNaN_int N, PcOk (X15 N) (bodyOf Try.f58) u := pc_nil
noncomputable def dcmp_isNaN_int : FD D := { f := 58, np := 1, ins := [.v 0 (.int .i64)], fx := [], rcv := none, rk := 0, outs := [.v 2 .bool], ofx := [], rvs := [.tmp 2], flat := true }
noncomputable def Fcmp_isNaN_int (N : Nat) : dcmp_isNaN_int.F := fun r x => cmp_isNaN_int N x.1
theorem ocmp_isNaN_int (N : Nat) : FOk Try.prog (X15 N) dcmp_isNaN_int (Fcmp_isNaN_int N) := ⟨⟨Try.f58, _, Try.func58, rfl, by kernel_rfl, by kernel_rfl, rfl, FC.of (cok15 N) (us := u0_cmp_isNaN_int N) (fun u h _ => oku0_cmp_isNaN_int N u h) (fun r x => by kernel_rfl)⟩, by kernel_rfl, by kernel_rfl, by kernel_rfl, by kernel_rfl⟩
noncomputable def fs16 (N : Nat) : List (FE D) := ⟨dcmp_isNaN_int, Fcmp_isNaN_int N⟩ :: fs15 N
theorem all16 (N : Nat) : ∀ y ∈ fs16 N, CallOk X0 y.d y.F := all_cons (x := ⟨dcmp_isNaN_int, Fcmp_isNaN_int N⟩) (ocmp_isNaN_int N) (all15 N)
noncomputable def X16 (N : Nat) : Ev Try.prog D := X0.with (fs16 N)
theorem cok16 (N : Nat) : COk (X16 N) := COk.of (all16 N)
/-! ### cmp.Compare[int] -/
noncomputable def u0_cmp_Compare_int (N : Nat) : List (Pc D) := []
theorem oku0_cmp_Compare_int (N : Nat) : ∀ u ∈ u0_cmp_Compare_int N, PcOk (X16 N) (bodyOf Try.f30) u := pc_nil
noncomputable def dcmp_Compare_int : FD D := { f := 30, np := 2, ins := [.v 0 (.int .i64), .v 1 (.int .i64)], fx := [], rcv := none, rk := 0, outs := [.v 4 (.int .i64)], ofx := [], rvs := [.tmp 4], flat := true }
noncomputable def Fcmp_Compare_int (N : Nat) : dcmp_Compare_int.F := fun r x => cmp_Compare_int N x.1 x.2.1
theorem ocmp_Compare_int (N : Nat) : FOk Try.prog (X16 N) dcmp_Compare_int (Fcmp_Compare_int N) := ⟨⟨Try.f30, _, Try.func30, rfl, by kernel_rfl, by kernel_rfl, rfl, FC.of (cok16 N) (us := u0_cmp_Compare_int N) (fun u h _ => oku0_cmp_Compare_int N u h) (fun r x => by kernel_rfl)⟩, by kernel_rfl, by kernel_rfl, by kernel_rfl, by kernel_rfl⟩
noncomputable def fs17 (N : Nat) : List (FE D) := ⟨dcmp_Compare_int, Fcmp_Compare_int N⟩ :: fs16 N
theorem all17 (N : Nat) : ∀ y ∈ fs17 N, CallOk X0 y.d y.F := all_cons (x := ⟨dcmp_Compare_int, Fcmp_Compare_int N⟩) (ocmp_Compare_int N) (all16 N)
noncomputable def X17 (N : Nat) : Ev Try.prog D := X0.with (fs17 N)
theorem cok17 (N : Nat) : COk (X17 N) := COk.of (all17 N)
/-! ### humpyard/repair.Pulls$1 -/
noncomputable def u0_repair_Pulls_1_f29 (N : Nat) : List (Pc D) := []
theorem oku0_repair_Pulls_1_f29 (N : Nat) : ∀ u ∈ u0_repair_Pulls_1_f29 N, PcOk (X17 N) (bodyOf Try.f29) u := pc_nil
noncomputable def drepair_Pulls_1_f29 : FD D := { f := 29, np := 2, ins := [.v 0 (.agg 39), .v 1 (.agg 39)], fx := [], rcv := none, rk := 0, outs := [.v 4 (.int .i64)], ofx := [], rvs := [.tmp 4], flat := true }
noncomputable def Frepair_Pulls_1_f29 (N : Nat) : drepair_Pulls_1_f29.F := fun r x => repair_Pulls_1_f29 N x.1 x.2.1
theorem orepair_Pulls_1_f29 (N : Nat) : FOk Try.prog (X17 N) drepair_Pulls_1_f29 (Frepair_Pulls_1_f29 N) := ⟨⟨Try.f29, _, Try.func29, rfl, by kernel_rfl, by kernel_rfl, rfl, FC.of (cok17 N) (us := u0_repair_Pulls_1_f29 N) (fun u h _ => oku0_repair_Pulls_1_f29 N u h) (fun r x => by kernel_rfl)⟩, by kernel_rfl, by kernel_rfl, by kernel_rfl, by kernel_rfl⟩
noncomputable def fs18 (N : Nat) : List (FE D) := ⟨drepair_Pulls_1_f29, Frepair_Pulls_1_f29 N⟩ :: fs17 N
theorem all18 (N : Nat) : ∀ y ∈ fs18 N, CallOk X0 y.d y.F := all_cons (x := ⟨drepair_Pulls_1_f29, Frepair_Pulls_1_f29 N⟩) (orepair_Pulls_1_f29 N) (all17 N)
noncomputable def X18 (N : Nat) : Ev Try.prog D := X0.with (fs18 N)
theorem cok18 (N : Nat) : COk (X18 N) := COk.of (all18 N)
/-! ### humpyard/repair.Pulls -/
noncomputable def Y18 (N : Nat) : Ev Try.prog D := (X18 N).cuts fun x lo hi => match x, lo, hi with | .tmp 49, some (.tmp 50), none => 1 | _, _, _ => 0
theorem coky18 (N : Nat) : COk (Y18 N) := COk.cuts (cok18 N)
noncomputable def u0_repair_Pulls (N : Nat) : List (Pc D) := []
theorem oku0_repair_Pulls (N : Nat) : ∀ u ∈ u0_repair_Pulls N, PcOk (Y18 N) (bodyOf Try.f10) u := pc_nil
noncomputable def Prepair_Pulls_2 : PD D := { path := [1, 1, 1, 1, 0, 1, 0, 0, 0, 0, 1, 0, 1, 0, 0, 1, 1, 0], ins := [.o 1 (.box 28), .o 4 (.bx 75 [(3, 3), (4, 4)]), .o 5 (.sl 39), .v 6 (.int .i64), .v 25 (.int .i64), .o 2004003 (.sl 121), .o 2004004 (.sl 3)], fx := [(1, .box 0 0), (4, .box 1 0), (5, .c (.own 2))], ks := [1, 1, 0, 1, 1], exs := [⟨.normal, [.o 5 (.sl 39)], [(5, .c (.own 5))]⟩], keep := [1, 4, 6, 7, 24, 25] }
noncomputable def Frepair_Pulls_2 (N : Nat) : Prepair_Pulls_2.F := fun x => repair_Pulls_2 N x.2.1 x.2.2.1 x.2.2.2.1 x.2.2.2.2.1 x.2.2.2.2.2.1 x.2.2.2.2.2.2.1
theorem crepair_Pulls_2 (N : Nat) : CC (Y18 N) (bodyOf Try.f10) Prepair_Pulls_2 (Frepair_Pulls_2 N) := CC.of (coky18 N) (us := u0_repair_Pulls N) (fun u h _ => oku0_repair_Pulls N u h) (fun x => by kernel_rfl)
noncomputable def urepair_Pulls_2 (N : Nat) : List (Pc D) := Prepair_Pulls_2.pc (Y18 N) (Frepair_Pulls_2 N) :: u0_repair_Pulls N
theorem okurepair_Pulls_2 (N : Nat) : ∀ u ∈ urepair_Pulls_2 N, PcOk (Y18 N) (bodyOf Try.f10) u := pc_cons ((crepair_Pulls_2 N).pc (by kernel_rfl)) (oku0_repair_Pulls N)
noncomputable def Prepair_Pulls_1 : PD D := { path := [1, 1, 1, 1, 0, 1, 0, 0, 0, 0, 1, 0, 1, 0], ins := [.o 1 (.box 28), .o 4 (.bx 75 [(3, 3), (4, 4)]), .o 5 (.sl 39), .v 6 (.int .i64), .v 24 (.int .i64), .v 25 (.int .i64), .o 2004003 (.sl 121), .o 2004004 (.sl 3)], fx := [(1, .box 0 0), (4, .box 1 0), (5, .c (.own 2))], ks := [1, 1, 0, 1, 1], exs := [⟨.exit 2, [.o 5 (.sl 39)], [(5, .c (.own 5))]⟩], keep := [1, 4, 6, 7] }
noncomputable def Frepair_Pulls_1 (N n : Nat) : Prepair_Pulls_1.F := fun x => repair_Pulls_1 N x.2.1 x.2.2.2.1 x.2.2.2.2.1 x.2.2.2.2.2.2.1 x.2.2.2.2.2.2.2.1 n x.2.2.1 x.2.2.2.2.2.1
theorem crepair_Pulls_1 (N n : Nat) : CC (Y18 N) (bodyOf Try.f10) Prepair_Pulls_1 (Frepair_Pulls_1 N n) := CC.loop (coky18 N) (us := urepair_Pulls_2 N) (c := sub (bodyOf Try.f10) [1, 1, 1, 1, 0, 1, 0, 0, 0, 0, 1, 0, 1, 0, 0]) (by kernel_rfl) (by kernel_rfl) (fun u h _ => okurepair_Pulls_2 N u h) (fun x => rfl) (fun n x => by kernel_rfl) n
noncomputable def urepair_Pulls_1 (N : Nat) : List (Pc D) := Prepair_Pulls_1.pc (Y18 N) (Frepair_Pulls_1 N N) :: urepair_Pulls_2 N
theorem okurepair_Pulls_1 (N : Nat) : ∀ u ∈ urepair_Pulls_1 N, PcOk (Y18 N) (bodyOf Try.f10) u := pc_cons ((crepair_Pulls_1 N N).pc (by kernel_rfl)) (okurepair_Pulls_2 N)
noncomputable def Prepair_Pulls_3 : PD D := { path := [1, 1, 1, 1, 0, 1, 0, 0, 0, 0, 1, 1, 0, 1, 0], ins := [.o 1 (.box 28), .o 4 (.bx 75 [(3, 3), (4, 4)]), .o 5 (.sl 39), .v 6 (.int .i64), .v 51 (.cut 2 39), .v 52 (.int .i64), .v 53 (.int .i64), .o 2004003 (.sl 121), .o 2004004 (.sl 3)], fx := [(1, .box 0 0), (4, .box 1 0), (5, .c (.own 2))], ks := [1, 1, 1, 1, 2], exs := [⟨.exit 4, [.u 4 (.sl 3)], []⟩], keep := [1, 4, 5, 6, 7] }
noncomputable def Frepair_Pulls_3 (N n : Nat) : Prepair_Pulls_3.F := fun x => repair_Pulls_3 N x.2.2.1 x.2.2.2.1 x.2.2.2.2.1 x.2.2.2.2.2.1 n x.2.2.2.2.2.2.1 x.2.2.2.2.2.2.2.2.1
theorem crepair_Pulls_3 (N n : Nat) : CC (Y18 N) (bodyOf Try.f10) Prepair_Pulls_3 (Frepair_Pulls_3 N n) := CC.loop (coky18 N) (us := urepair_Pulls_1 N) (c := sub (bodyOf Try.f10) [1, 1, 1, 1, 0, 1, 0, 0, 0, 0, 1, 1, 0, 1, 0, 0]) (by kernel_rfl) (by kernel_rfl) (fun u h _ => okurepair_Pulls_1 N u h) (fun x => rfl) (fun n x => by kernel_rfl) n
noncomputable def urepair_Pulls_3 (N : Nat) : List (Pc D) := Prepair_Pulls_3.pc (Y18 N) (Frepair_Pulls_3 N N) :: urepair_Pulls_1 N
theorem okurepair_Pulls_3 (N : Nat) : ∀ u ∈ urepair_Pulls_3 N, PcOk (Y18 N) (bodyOf Try.f10) u := pc_cons ((crepair_Pulls_3 N N).pc (by kernel_rfl)) (okurepair_Pulls_1 N)
noncomputable def Prepair_Pulls_4 : PD D := { path := [1, 1, 1, 1, 0, 1, 0, 0, 0, 0, 1, 1, 1, 0], ins := [.o 1 (.box 28), .o 4 (.bx 75 [(3, 3), (4, 4)]), .o 5 (.sl 39), .v 6 (.int .i64), .v 7 (.int .i64), .o 2004003 (.sl 121), .o 2004004 (.sl 3)], fx := [(1, .box 0 0), (4, .box 1 0), (5, .c (.own 2))], ks := [1, 1, 1, 1, 1], exs := [⟨.normal, [.v 73 .bool], []⟩], keep := [1, 4, 5, 6] }
noncomputable def Frepair_Pulls_4 (N : Nat) : Prepair_Pulls_4.F := fun x => repair_Pulls_4 N x.2.2.1 x.2.2.2.1 x.2.2.2.2.1
theorem crepair_Pulls_4 (N : Nat) : CC (Y18 N) (bodyOf Try.f10) Prepair_Pulls_4 (Frepair_Pulls_4 N) := CC.of (coky18 N) (us := urepair_Pulls_3 N) (fun u h _ => okurepair_Pulls_3 N u h) (fun x => by kernel_rfl)
noncomputable def urepair_Pulls_4 (N : Nat) : List (Pc D) := Prepair_Pulls_4.pc (Y18 N) (Frepair_Pulls_4 N) :: urepair_Pulls_3 N
theorem okurepair_Pulls_4 (N : Nat) : ∀ u ∈ urepair_Pulls_4 N, PcOk (Y18 N) (bodyOf Try.f10) u := pc_cons ((crepair_Pulls_4 N).pc (by kernel_rfl)) (okurepair_Pulls_3 N)
noncomputable def Prepair_Pulls_0 : PD D := { path := [1, 1, 1, 1, 0, 1, 0], ins := [.o 1 (.box 28), .o 4 (.bx 75 [(3, 3), (4, 4)]), .o 5 (.sl 39), .v 6 (.int .i64), .o 2004003 (.sl 121), .o 2004004 (.sl 3)], fx := [(1, .box 0 0), (4, .box 1 0), (5, .c (.own 2))], ks := [1, 1, 0, 1, 2], exs := [⟨.exit 0, [.o 5 (.sl 39)], [(5, .c (.own 5))]⟩], keep := [] }
noncomputable def Frepair_Pulls_0 (N n : Nat) : Prepair_Pulls_0.F := fun x => repair_Pulls_0 N x.1 x.2.1 x.2.2.2.2.1 n x.2.2.1 x.2.2.2.1 x.2.2.2.2.2.1
theorem crepair_Pulls_0 (N n : Nat) : CC (Y18 N) (bodyOf Try.f10) Prepair_Pulls_0 (Frepair_Pulls_0 N n) := CC.loop (coky18 N) (us := urepair_Pulls_4 N) (c := sub (bodyOf Try.f10) [1, 1, 1, 1, 0, 1, 0, 0]) (by kernel_rfl) (by kernel_rfl) (fun u h _ => okurepair_Pulls_4 N u h) (fun x => rfl) (fun n x => by kernel_rfl) n
noncomputable def urepair_Pulls_0 (N : Nat) : List (Pc D) := Prepair_Pulls_0.pc (Y18 N) (Frepair_Pulls_0 N N) :: urepair_Pulls_4 N
theorem okurepair_Pulls_0 (N : Nat) : ∀ u ∈ urepair_Pulls_0 N, PcOk (Y18 N) (bodyOf Try.f10) u := pc_cons ((crepair_Pulls_0 N N).pc (by kernel_rfl)) (okurepair_Pulls_4 N)
noncomputable def drepair_Pulls : FD D := { f := 10, np := 1, ins := [.v 0 (.agg 28)], fx := [], rcv := none, rk := 0, outs := [.o 2 (.sl 39), .v 3 (.int .i64)], ofx := [(2, .c (.own 0))], rvs := [.tmp 2, .tmp 3], flat := false }
noncomputable def Frepair_Pulls (N : Nat) : drepair_Pulls.F := fun r x => repair_Pulls N x.1
theorem orepair_Pulls (N : Nat) : FOk Try.prog (Y18 N) drepair_Pulls (Frepair_Pulls N) := ⟨⟨Try.f10, _, Try.func10, rfl, by kernel_rfl, by kernel_rfl, rfl, FC.of (coky18 N) (us := urepair_Pulls_0 N) (fun u h _ => okurepair_Pulls_0 N u h) (fun r x => by kernel_rfl)⟩, by kernel_rfl, by kernel_rfl, by kernel_rfl, by kernel_rfl⟩
noncomputable def fs19 (N : Nat) : List (FE D) := ⟨drepair_Pulls, Frepair_Pulls N⟩ :: fs18 N
theorem all19 (N : Nat) : ∀ y ∈ fs19 N, CallOk X0 y.d y.F := all_call (x := ⟨drepair_Pulls, Frepair_Pulls N⟩) ((orepair_Pulls N).call.cuts) (all18 N)
noncomputable def X19 (N : Nat) : Ev Try.prog D := X0.with (fs19 N)
theorem cok19 (N : Nat) : COk (X19 N) := COk.of (all19 N)
/-! ### humpyard/yardgen.Place -/
noncomputable def u0_yardgen_Place (N : Nat) : List (Pc D) := []
theorem oku0_yardgen_Place (N : Nat) : ∀ u ∈ u0_yardgen_Place N, PcOk (X19 N) (bodyOf Try.f12) u := pc_nil
noncomputable def Pyardgen_Place_0 : PD D := { path := [1, 1, 1, 0, 1], ins := [.v 0 (.int .i64), .v 1 (.int .i64), .v 11 .bool], fx := [], ks := [], exs := [⟨.normal, [.v 0 (.int .i64)], []⟩], keep := [] }
noncomputable def Fyardgen_Place_0 (N : Nat) : Pyardgen_Place_0.F := fun x => yardgen_Place_0 N x.1 x.2.1 x.2.2.1
theorem cyardgen_Place_0 (N : Nat) : CC (X19 N) (bodyOf Try.f12) Pyardgen_Place_0 (Fyardgen_Place_0 N) := CC.of (cok19 N) (us := u0_yardgen_Place N) (fun u h _ => oku0_yardgen_Place N u h) (fun x => by kernel_rfl)
noncomputable def uyardgen_Place_0 (N : Nat) : List (Pc D) := Pyardgen_Place_0.pc (X19 N) (Fyardgen_Place_0 N) :: u0_yardgen_Place N
theorem okuyardgen_Place_0 (N : Nat) : ∀ u ∈ uyardgen_Place_0 N, PcOk (X19 N) (bodyOf Try.f12) u := pc_cons ((cyardgen_Place_0 N).pc (by kernel_rfl)) (oku0_yardgen_Place N)
noncomputable def dyardgen_Place : FD D := { f := 12, np := 2, ins := [.v 0 (.int .i64), .v 1 (.int .i64)], fx := [], rcv := none, rk := 0, outs := [.v 4 (.int .i64)], ofx := [], rvs := [.tmp 4], flat := true }
noncomputable def Fyardgen_Place (N : Nat) : dyardgen_Place.F := fun r x => yardgen_Place N x.1 x.2.1
theorem oyardgen_Place (N : Nat) : FOk Try.prog (X19 N) dyardgen_Place (Fyardgen_Place N) := ⟨⟨Try.f12, _, Try.func12, rfl, by kernel_rfl, by kernel_rfl, rfl, FC.of (cok19 N) (us := uyardgen_Place_0 N) (fun u h _ => okuyardgen_Place_0 N u h) (fun r x => by kernel_rfl)⟩, by kernel_rfl, by kernel_rfl, by kernel_rfl, by kernel_rfl⟩
noncomputable def fs20 (N : Nat) : List (FE D) := ⟨dyardgen_Place, Fyardgen_Place N⟩ :: fs19 N
theorem all20 (N : Nat) : ∀ y ∈ fs20 N, CallOk X0 y.d y.F := all_cons (x := ⟨dyardgen_Place, Fyardgen_Place N⟩) (oyardgen_Place N) (all19 N)
noncomputable def X20 (N : Nat) : Ev Try.prog D := X0.with (fs20 N)
theorem cok20 (N : Nat) : COk (X20 N) := COk.of (all20 N)
/-! ### humpyard/humpyardlaw33.stands -/
noncomputable def u0_l33_stands (N : Nat) : List (Pc D) := []
theorem oku0_l33_stands (N : Nat) : ∀ u ∈ u0_l33_stands N, PcOk (X20 N) (bodyOf Try.f15) u := pc_nil
noncomputable def Pl33_stands_2 : PD D := { path := [1, 0, 1, 0, 0, 1, 0, 0, 1, 1, 0, 0, 1, 0, 0, 0, 0], ins := [.v 1 (.int .i64), .o 3 (.box 28), .v 7 (.int .i64), .v 8 .bool, .v 9 (.int .i64)], fx := [(3, .box 0 0)], ks := [1], exs := [⟨.normal, [.v 39 .bool], []⟩], keep := [1, 2, 3, 7, 8, 9] }
noncomputable def Fl33_stands_2 (N : Nat) : Pl33_stands_2.F := fun x => l33_stands_2 N x.1 x.2.1 x.2.2.1 x.2.2.2.1 x.2.2.2.2.1
theorem cl33_stands_2 (N : Nat) : CC (X20 N) (bodyOf Try.f15) Pl33_stands_2 (Fl33_stands_2 N) := CC.of (cok20 N) (us := u0_l33_stands N) (fun u h _ => oku0_l33_stands N u h) (fun x => by kernel_rfl)
noncomputable def ul33_stands_2 (N : Nat) : List (Pc D) := Pl33_stands_2.pc (X20 N) (Fl33_stands_2 N) :: u0_l33_stands N
theorem okul33_stands_2 (N : Nat) : ∀ u ∈ ul33_stands_2 N, PcOk (X20 N) (bodyOf Try.f15) u := pc_cons ((cl33_stands_2 N).pc (by kernel_rfl)) (oku0_l33_stands N)
noncomputable def Pl33_stands_3 : PD D := { path := [1, 0, 1, 0, 0, 1, 0, 0, 1, 1, 0, 0, 1, 0, 0, 1], ins := [.v 2 (.int .i64), .o 3 (.box 28), .v 7 (.int .i64), .v 8 .bool, .v 9 (.int .i64)], fx := [(3, .box 0 0)], ks := [1], exs := [⟨.normal, [.v 8 .bool], []⟩], keep := [1, 2, 3, 7, 9] }
noncomputable def Fl33_stands_3 (N : Nat) : Pl33_stands_3.F := fun x => l33_stands_3 N x.1 x.2.1 x.2.2.1 x.2.2.2.1 x.2.2.2.2.1
theorem cl33_stands_3 (N : Nat) : CC (X20 N) (bodyOf Try.f15) Pl33_stands_3 (Fl33_stands_3 N) := CC.of (cok20 N) (us := ul33_stands_2 N) (fun u h _ => okul33_stands_2 N u h) (fun x => by kernel_rfl)
noncomputable def ul33_stands_3 (N : Nat) : List (Pc D) := Pl33_stands_3.pc (X20 N) (Fl33_stands_3 N) :: ul33_stands_2 N
theorem okul33_stands_3 (N : Nat) : ∀ u ∈ ul33_stands_3 N, PcOk (X20 N) (bodyOf Try.f15) u := pc_cons ((cl33_stands_3 N).pc (by kernel_rfl)) (okul33_stands_2 N)
noncomputable def Pl33_stands_1 : PD D := { path := [1, 0, 1, 0, 0, 1, 0, 0, 1, 1, 0], ins := [.v 1 (.int .i64), .v 2 (.int .i64), .o 3 (.box 28), .v 7 (.int .i64), .v 8 .bool, .v 9 (.int .i64)], fx := [(3, .box 0 0)], ks := [1], exs := [⟨.exit 2, [], []⟩, ⟨.ret, [.v 6 .bool], []⟩], keep := [1, 2, 3, 7] }
noncomputable def Fl33_stands_1 (N n : Nat) : Pl33_stands_1.F := fun x => l33_stands_1 N x.1 x.2.1 x.2.2.1 x.2.2.2.1 n x.2.2.2.2.1 x.2.2.2.2.2.1
theorem cl33_stands_1 (N n : Nat) : CC (X20 N) (bodyOf Try.f15) Pl33_stands_1 (Fl33_stands_1 N n) := CC.loop (cok20 N) (us := ul33_stands_3 N) (c := sub (bodyOf Try.f15) [1, 0, 1, 0, 0, 1, 0, 0, 1, 1, 0, 0]) (by kernel_rfl) (by kernel_rfl) (fun u h _ => okul33_stands_3 N u h) (fun x => rfl) (fun n x => by kernel_rfl) n
noncomputable def ul33_stands_1 (N : Nat) : List (Pc D) := Pl33_stands_1.pc (X20 N) (Fl33_stands_1 N N) :: ul33_stands_3 N
theorem okul33_stands_1 (N : Nat) : ∀ u ∈ ul33_stands_1 N, PcOk (X20 N) (bodyOf Try.f15) u := pc_cons ((cl33_stands_1 N N).pc (by kernel_rfl)) (okul33_stands_3 N)
noncomputable def Pl33_stands_0 : PD D := { path := [1, 0, 1, 0], ins := [.v 1 (.int .i64), .v 2 (.int .i64), .o 3 (.box 28), .v 7 (.int .i64)], fx := [(3, .box 0 0)], ks := [1], exs := [⟨.exit 0, [], []⟩, ⟨.ret, [.v 6 .bool], []⟩], keep := [] }
noncomputable def Fl33_stands_0 (N n : Nat) : Pl33_stands_0.F := fun x => l33_stands_0 N x.1 x.2.1 x.2.2.1 n x.2.2.2.1
theorem cl33_stands_0 (N n : Nat) : CC (X20 N) (bodyOf Try.f15) Pl33_stands_0 (Fl33_stands_0 N n) := CC.loop (cok20 N) (us := ul33_stands_1 N) (c := sub (bodyOf Try.f15) [1, 0, 1, 0, 0]) (by kernel_rfl) (by kernel_rfl) (fun u h _ => okul33_stands_1 N u h) (fun x => rfl) (fun n x => by kernel_rfl) n
noncomputable def ul33_stands_0 (N : Nat) : List (Pc D) := Pl33_stands_0.pc (X20 N) (Fl33_stands_0 N N) :: ul33_stands_1 N
theorem okul33_stands_0 (N : Nat) : ∀ u ∈ ul33_stands_0 N, PcOk (X20 N) (bodyOf Try.f15) u := pc_cons ((cl33_stands_0 N N).pc (by kernel_rfl)) (okul33_stands_1 N)
noncomputable def dl33_stands : FD D := { f := 15, np := 3, ins := [.v 0 (.agg 28), .v 1 (.int .i64), .v 2 (.int .i64)], fx := [], rcv := none, rk := 0, outs := [.v 6 .bool], ofx := [], rvs := [.tmp 6], flat := true }
noncomputable def Fl33_stands (N : Nat) : dl33_stands.F := fun r x => l33_stands N x.1 x.2.1 x.2.2.1
theorem ol33_stands (N : Nat) : FOk Try.prog (X20 N) dl33_stands (Fl33_stands N) := ⟨⟨Try.f15, _, Try.func15, rfl, by kernel_rfl, by kernel_rfl, rfl, FC.of (cok20 N) (us := ul33_stands_0 N) (fun u h _ => okul33_stands_0 N u h) (fun r x => by kernel_rfl)⟩, by kernel_rfl, by kernel_rfl, by kernel_rfl, by kernel_rfl⟩
noncomputable def fs21 (N : Nat) : List (FE D) := ⟨dl33_stands, Fl33_stands N⟩ :: fs20 N
theorem all21 (N : Nat) : ∀ y ∈ fs21 N, CallOk X0 y.d y.F := all_cons (x := ⟨dl33_stands, Fl33_stands N⟩) (ol33_stands N) (all20 N)
noncomputable def X21 (N : Nat) : Ev Try.prog D := X0.with (fs21 N)
theorem cok21 (N : Nat) : COk (X21 N) := COk.of (all21 N)
/-! ### humpyard/repair.check -/
noncomputable def u0_repair_check (N : Nat) : List (Pc D) := []
theorem oku0_repair_check (N : Nat) : ∀ u ∈ u0_repair_check N, PcOk (X21 N) (bodyOf Try.f31) u := pc_nil
noncomputable def Prepair_check_1 : PD D := { path := [1, 1, 0, 1, 0, 0, 1, 1, 0, 0, 1, 0, 0], ins := [.o 2 (.box 28), .o 5 (.bx 75 [(3, 3), (4, 4)]), .o 7 (.box 39), .o 2005003 (.sl 121), .o 2005004 (.sl 3)], fx := [(2, .box 0 0), (5, .box 1 0), (7, .box 2 0)], ks := [1, 1, 1, 1, 1], exs := [⟨.normal, [.v 48 .bool], []⟩], keep := [1, 2, 5, 7, 16, 17, 18] }
noncomputable def Frepair_check_1 (N : Nat) : Prepair_check_1.F := fun x => repair_check_1 N x.1 x.2.2.1 x.2.2.2.2.1
theorem crepair_check_1 (N : Nat) : CC (X21 N) (bodyOf Try.f31) Prepair_check_1 (Frepair_check_1 N) := CC.of (cok21 N) (us := u0_repair_check N) (fun u h _ => oku0_repair_check N u h) (fun x => by kernel_rfl)
noncomputable def urepair_check_1 (N : Nat) : List (Pc D) := Prepair_check_1.pc (X21 N) (Frepair_check_1 N) :: u0_repair_check N
theorem okurepair_check_1 (N : Nat) : ∀ u ∈ urepair_check_1 N, PcOk (X21 N) (bodyOf Try.f31) u := pc_cons ((crepair_check_1 N).pc (by kernel_rfl)) (oku0_repair_check N)
noncomputable def Prepair_check_0 : PD D := { path := [1, 1, 0, 1, 0], ins := [.o 2 (.box 28), .o 5 (.bx 75 [(3, 2), (4, 3)]), .v 16 (.sl 39), .v 17 (.int .i64), .v 18 (.int .i64), .o 2005003 (.sl 121), .o 2005004 (.sl 3)], fx := [(2, .box 0 0), (5, .box 1 0)], ks := [1, 1, 1, 2], exs := [⟨.exit 0, [.u 3 (.sl 3)], []⟩, ⟨.ret, [.v 4 .bool], []⟩], keep := [1, 2, 5] }
noncomputable def Frepair_check_0 (N n : Nat) : Prepair_check_0.F := fun x => repair_check_0 N x.1 x.2.2.1 x.2.2.2.1 n x.2.2.2.2.1 x.2.2.2.2.2.2.1
theorem crepair_check_0 (N n : Nat) : CC (X21 N) (bodyOf Try.f31) Prepair_check_0 (Frepair_check_0 N n) := CC.loop (cok21 N) (us := urepair_check_1 N) (c := sub (bodyOf Try.f31) [1, 1, 0, 1, 0, 0]) (by kernel_rfl) (by kernel_rfl) (fun u h _ => okurepair_check_1 N u h) (fun x => rfl) (fun n x => by kernel_rfl) n
noncomputable def urepair_check_0 (N : Nat) : List (Pc D) := Prepair_check_0.pc (X21 N) (Frepair_check_0 N N) :: urepair_check_1 N
theorem okurepair_check_0 (N : Nat) : ∀ u ∈ urepair_check_0 N, PcOk (X21 N) (bodyOf Try.f31) u := pc_cons ((crepair_check_0 N N).pc (by kernel_rfl)) (okurepair_check_1 N)
noncomputable def Prepair_check_2 : PD D := { path := [1, 1, 1, 0, 1, 0], ins := [.o 2 (.box 28), .o 5 (.bx 75 [(3, 2), (4, 3)]), .v 59 (.sl 39), .v 60 (.int .i64), .v 61 (.int .i64), .o 2005003 (.sl 121), .o 2005004 (.sl 3)], fx := [(2, .box 0 0), (5, .box 1 0)], ks := [1, 1, 1, 1], exs := [⟨.exit 2, [], []⟩, ⟨.ret, [.v 4 .bool], []⟩], keep := [2, 5] }
noncomputable def Frepair_check_2 (N n : Nat) : Prepair_check_2.F := fun x => repair_check_2 N x.2.1 x.2.2.1 x.2.2.2.1 x.2.2.2.2.2.1 x.2.2.2.2.2.2.1 n x.2.2.2.2.1
theorem crepair_check_2 (N n : Nat) : CC (X21 N) (bodyOf Try.f31) Prepair_check_2 (Frepair_check_2 N n) := CC.loop (cok21 N) (us := urepair_check_0 N) (c := sub (bodyOf Try.f31) [1, 1, 1, 0, 1, 0, 0]) (by kernel_rfl) (by kernel_rfl) (fun u h _ => okurepair_check_0 N u h) (fun x => rfl) (fun n x => by kernel_rfl) n
noncomputable def urepair_check_2 (N : Nat) : List (Pc D) := Prepair_check_2.pc (X21 N) (Frepair_check_2 N N) :: urepair_check_0 N
theorem okurepair_check_2 (N : Nat) : ∀ u ∈ urepair_check_2 N, PcOk (X21 N) (bodyOf Try.f31) u := pc_cons ((crepair_check_2 N N).pc (by kernel_rfl)) (okurepair_check_0 N)
noncomputable def Prepair_check_6 : PD D := { path := [1, 1, 1, 1, 0, 1, 0, 0, 1, 1, 0, 0, 1, 1, 1, 0, 0, 1, 1, 0, 0, 1, 0], ins := [.o 2 (.box 28), .o 5 (.bx 75 [(3, 3), (4, 2)]), .v 10 (.int .i64), .v 12 (.int .i64), .o 80 (.sl 3), .o 2005003 (.sl 121)], fx := [(2, .box 0 0), (5, .box 1 0), (80, .c (.own 2))], ks := [1, 1, 1, 1], exs := [⟨.normal, [.v 13 .bool], []⟩], keep := [2, 5, 10, 12, 80, 81, 82, 91, 92] }
noncomputable def Frepair_check_6 (N : Nat) : Prepair_check_6.F := fun x => repair_check_6 N x.2.1 x.2.2.1 x.2.2.2.1 x.2.2.2.2.1 x.2.2.2.2.2.1
theorem crepair_check_6 (N : Nat) : CC (X21 N) (bodyOf Try.f31) Prepair_check_6 (Frepair_check_6 N) := CC.of (cok21 N) (us := urepair_check_2 N) (fun u h _ => okurepair_check_2 N u h) (fun x => by kernel_rfl)
noncomputable def urepair_check_6 (N : Nat) : List (Pc D) := Prepair_check_6.pc (X21 N) (Frepair_check_6 N) :: urepair_check_2 N
theorem okurepair_check_6 (N : Nat) : ∀ u ∈ urepair_check_6 N, PcOk (X21 N) (bodyOf Try.f31) u := pc_cons ((crepair_check_6 N).pc (by kernel_rfl)) (okurepair_check_2 N)
noncomputable def Prepair_check_7 : PD D := { path := [1, 1, 1, 1, 0, 1, 0, 0, 1, 1, 0, 0, 1, 1, 1, 0, 0, 1, 1, 0, 0, 1, 1, 0], ins := [.o 2 (.box 28), .o 5 (.bx 75 [(3, 3), (4, 2)]), .v 10 (.int .i64), .v 12 (.int .i64), .v 13 .bool, .o 80 (.sl 3), .o 2005003 (.sl 121)], fx := [(2, .box 0 0), (5, .box 1 0), (80, .c (.own 2))], ks := [1, 1, 1, 1], exs := [⟨.normal, [.v 138 .bool], []⟩], keep := [2, 5, 10, 80, 81, 82, 91, 92] }
noncomputable def Frepair_check_7 (N : Nat) : Prepair_check_7.F := fun x => repair_check_7 N x.2.1 x.2.2.1 x.2.2.2.1 x.2.2.2.2.1 x.2.2.2.2.2.1 x.2.2.2.2.2.2.1
theorem crepair_check_7 (N : Nat) : CC (X21 N) (bodyOf Try.f31) Prepair_check_7 (Frepair_check_7 N) := CC.of (cok21 N) (us := urepair_check_6 N) (fun u h _ => okurepair_check_6 N u h) (fun x => by kernel_rfl)
noncomputable def urepair_check_7 (N : Nat) : List (Pc D) := Prepair_check_7.pc (X21 N) (Frepair_check_7 N) :: urepair_check_6 N
theorem okurepair_check_7 (N : Nat) : ∀ u ∈ urepair_check_7 N, PcOk (X21 N) (bodyOf Try.f31) u := pc_cons ((crepair_check_7 N).pc (by kernel_rfl)) (okurepair_check_6 N)
noncomputable def Prepair_check_5 : PD D := { path := [1, 1, 1, 1, 0, 1, 0, 0, 1, 1, 0, 0, 1, 1, 1, 0], ins := [.o 2 (.box 28), .o 5 (.bx 75 [(3, 3), (4, 2)]), .v 10 (.int .i64), .o 80 (.sl 3), .v 91 (.int .i64), .v 92 (.int .i64), .o 2005003 (.sl 121)], fx := [(2, .box 0 0), (5, .box 1 0), (80, .c (.own 2))], ks := [1, 1, 1, 1], exs := [⟨.exit 6, [], []⟩, ⟨.ret, [.v 4 .bool], []⟩], keep := [2, 5, 80, 81, 82] }
noncomputable def Frepair_check_5 (N n : Nat) : Prepair_check_5.F := fun x => repair_check_5 N x.2.1 x.2.2.1 x.2.2.2.1 x.2.2.2.2.1 x.2.2.2.2.2.2.1 n x.2.2.2.2.2.1
theorem crepair_check_5 (N n : Nat) : CC (X21 N) (bodyOf Try.f31) Prepair_check_5 (Frepair_check_5 N n) := CC.loop (cok21 N) (us := urepair_check_7 N) (c := sub (bodyOf Try.f31) [1, 1, 1, 1, 0, 1, 0, 0, 1, 1, 0, 0, 1, 1, 1, 0, 0]) (by kernel_rfl) (by kernel_rfl) (fun u h _ => okurepair_check_7 N u h) (fun x => rfl) (fun n x => by kernel_rfl) n
noncomputable def urepair_check_5 (N : Nat) : List (Pc D) := Prepair_check_5.pc (X21 N) (Frepair_check_5 N N) :: urepair_check_7 N
theorem okurepair_check_5 (N : Nat) : ∀ u ∈ urepair_check_5 N, PcOk (X21 N) (bodyOf Try.f31) u := pc_cons ((crepair_check_5 N N).pc (by kernel_rfl)) (okurepair_check_7 N)
noncomputable def Prepair_check_4 : PD D := { path := [1, 1, 1, 1, 0, 1, 0, 0, 1, 1, 0], ins := [.o 2 (.box 28), .o 5 (.bx 75 [(3, 3), (4, 2)]), .o 80 (.sl 3), .v 82 (.int .i64), .o 2005003 (.sl 121)], fx := [(2, .box 0 0), (5, .box 1 0), (80, .c (.own 2))], ks := [1, 1, 1, 1], exs := [⟨.normal, [], []⟩, ⟨.ret, [.v 4 .bool], []⟩], keep := [2, 5, 80, 81, 82] }
noncomputable def Frepair_check_4 (N : Nat) : Prepair_check_4.F := fun x => repair_check_4 N x.1 x.2.1 x.2.2.1 x.2.2.2.1 x.2.2.2.2.1
theorem crepair_check_4 (N : Nat) : CC (X21 N) (bodyOf Try.f31) Prepair_check_4 (Frepair_check_4 N) := CC.of (cok21 N) (us := urepair_check_5 N) (fun u h _ => okurepair_check_5 N u h) (fun x => by kernel_rfl)
noncomputable def urepair_check_4 (N : Nat) : List (Pc D) := Prepair_check_4.pc (X21 N) (Frepair_check_4 N) :: urepair_check_5 N
theorem okurepair_check_4 (N : Nat) : ∀ u ∈ urepair_check_4 N, PcOk (X21 N) (bodyOf Try.f31) u := pc_cons ((crepair_check_4 N).pc (by kernel_rfl)) (okurepair_check_5 N)
noncomputable def Prepair_check_3 : PD D := { path := [1, 1, 1, 1, 0, 1, 0], ins := [.o 2 (.box 28), .o 5 (.bx 75 [(3, 3), (4, 2)]), .o 80 (.sl 3), .v 81 (.int .i64), .v 82 (.int .i64), .o 2005003 (.sl 121)], fx := [(2, .box 0 0), (5, .box 1 0), (80, .c (.own 2))], ks := [1, 1, 1, 1], exs := [⟨.exit 4, [], []⟩, ⟨.ret, [.v 4 .bool], []⟩], keep := [] }
noncomputable def Frepair_check_3 (N n : Nat) : Prepair_check_3.F := fun x => repair_check_3 N x.1 x.2.1 x.2.2.1 x.2.2.2.1 x.2.2.2.2.2.1 n x.2.2.2.2.1
theorem crepair_check_3 (N n : Nat) : CC (X21 N) (bodyOf Try.f31) Prepair_check_3 (Frepair_check_3 N n) := CC.loop (cok21 N) (us := urepair_check_4 N) (c := sub (bodyOf Try.f31) [1, 1, 1, 1, 0, 1, 0, 0]) (by kernel_rfl) (by kernel_rfl) (fun u h _ => okurepair_check_4 N u h) (fun x => rfl) (fun n x => by kernel_rfl) n
noncomputable def urepair_check_3 (N : Nat) : List (Pc D) := Prepair_check_3.pc (X21 N) (Frepair_check_3 N N) :: urepair_check_4 N
theorem okurepair_check_3 (N : Nat) : ∀ u ∈ urepair_check_3 N, PcOk (X21 N) (bodyOf Try.f31) u := pc_cons ((crepair_check_3 N N).pc (by kernel_rfl)) (okurepair_check_4 N)
noncomputable def drepair_check : FD D := { f := 31, np := 2, ins := [.v 0 (.agg 28), .v 1 (.sl 39)], fx := [], rcv := none, rk := 0, outs := [.v 4 .bool], ofx := [], rvs := [.tmp 4], flat := true }
noncomputable def Frepair_check (N : Nat) : drepair_check.F := fun r x => repair_check N x.1 x.2.1
theorem orepair_check (N : Nat) : FOk Try.prog (X21 N) drepair_check (Frepair_check N) := ⟨⟨Try.f31, _, Try.func31, rfl, by kernel_rfl, by kernel_rfl, rfl, FC.of (cok21 N) (us := urepair_check_3 N) (fun u h _ => okurepair_check_3 N u h) (fun r x => by kernel_rfl)⟩, by kernel_rfl, by kernel_rfl, by kernel_rfl, by kernel_rfl⟩
noncomputable def fs22 (N : Nat) : List (FE D) := ⟨drepair_check, Frepair_check N⟩ :: fs21 N
theorem all22 (N : Nat) : ∀ y ∈ fs22 N, CallOk X0 y.d y.F := all_cons (x := ⟨drepair_check, Frepair_check N⟩) (orepair_check N) (all21 N)
noncomputable def X22 (N : Nat) : Ev Try.prog D := X0.with (fs22 N)
theorem cok22 (N : Nat) : COk (X22 N) := COk.of (all22 N)
/-! ### humpyard/repair.Check -/
noncomputable def u0_repair_Check (N : Nat) : List (Pc D) := []
theorem oku0_repair_Check (N : Nat) : ∀ u ∈ u0_repair_Check N, PcOk (X22 N) (bodyOf Try.f11) u := pc_nil
noncomputable def drepair_Check : FD D := { f := 11, np := 2, ins := [.v 0 (.agg 28), .v 1 (.sl 39)], fx := [], rcv := none, rk := 0, outs := [.v 4 .bool, .v 5 (.int .i64)], ofx := [], rvs := [.tmp 4, .tmp 5], flat := true }
noncomputable def Frepair_Check (N : Nat) : drepair_Check.F := fun r x => repair_Check N x.1 x.2.1
theorem orepair_Check (N : Nat) : FOk Try.prog (X22 N) drepair_Check (Frepair_Check N) := ⟨⟨Try.f11, _, Try.func11, rfl, by kernel_rfl, by kernel_rfl, rfl, FC.of (cok22 N) (us := u0_repair_Check N) (fun u h _ => oku0_repair_Check N u h) (fun r x => by kernel_rfl)⟩, by kernel_rfl, by kernel_rfl, by kernel_rfl, by kernel_rfl⟩
noncomputable def fs23 (N : Nat) : List (FE D) := ⟨drepair_Check, Frepair_Check N⟩ :: fs22 N
theorem all23 (N : Nat) : ∀ y ∈ fs23 N, CallOk X0 y.d y.F := all_cons (x := ⟨drepair_Check, Frepair_Check N⟩) (orepair_Check N) (all22 N)
noncomputable def X23 (N : Nat) : Ev Try.prog D := X0.with (fs23 N)
theorem cok23 (N : Nat) : COk (X23 N) := COk.of (all23 N)
/-! ### humpyard/yardgen.SamePulls -/
noncomputable def u0_yardgen_SamePulls (N : Nat) : List (Pc D) := []
theorem oku0_yardgen_SamePulls (N : Nat) : ∀ u ∈ u0_yardgen_SamePulls N, PcOk (X23 N) (bodyOf Try.f32) u := pc_nil
noncomputable def Pyardgen_SamePulls_0 : PD D := { path := [1, 1, 0, 1, 0], ins := [.v 0 (.sl 39), .v 1 (.sl 39), .v 5 (.int .i64)], fx := [], ks := [], exs := [⟨.exit 0, [], []⟩, ⟨.ret, [.v 4 .bool], []⟩], keep := [] }
noncomputable def Fyardgen_SamePulls_0 (N n : Nat) : Pyardgen_SamePulls_0.F := fun x => yardgen_SamePulls_0 N x.1 x.2.1 n x.2.2.1
theorem cyardgen_SamePulls_0 (N n : Nat) : CC (X23 N) (bodyOf Try.f32) Pyardgen_SamePulls_0 (Fyardgen_SamePulls_0 N n) := CC.loop (cok23 N) (us := u0_yardgen_SamePulls N) (c := sub (bodyOf Try.f32) [1, 1, 0, 1, 0, 0]) (by kernel_rfl) (by kernel_rfl) (fun u h _ => oku0_yardgen_SamePulls N u h) (fun x => rfl) (fun n x => by kernel_rfl) n
noncomputable def uyardgen_SamePulls_0 (N : Nat) : List (Pc D) := Pyardgen_SamePulls_0.pc (X23 N) (Fyardgen_SamePulls_0 N N) :: u0_yardgen_SamePulls N
theorem okuyardgen_SamePulls_0 (N : Nat) : ∀ u ∈ uyardgen_SamePulls_0 N, PcOk (X23 N) (bodyOf Try.f32) u := pc_cons ((cyardgen_SamePulls_0 N N).pc (by kernel_rfl)) (oku0_yardgen_SamePulls N)
noncomputable def dyardgen_SamePulls : FD D := { f := 32, np := 2, ins := [.v 0 (.sl 39), .v 1 (.sl 39)], fx := [], rcv := none, rk := 0, outs := [.v 4 .bool], ofx := [], rvs := [.tmp 4], flat := true }
noncomputable def Fyardgen_SamePulls (N : Nat) : dyardgen_SamePulls.F := fun r x => yardgen_SamePulls N x.1 x.2.1
theorem oyardgen_SamePulls (N : Nat) : FOk Try.prog (X23 N) dyardgen_SamePulls (Fyardgen_SamePulls N) := ⟨⟨Try.f32, _, Try.func32, rfl, by kernel_rfl, by kernel_rfl, rfl, FC.of (cok23 N) (us := uyardgen_SamePulls_0 N) (fun u h _ => okuyardgen_SamePulls_0 N u h) (fun r x => by kernel_rfl)⟩, by kernel_rfl, by kernel_rfl, by kernel_rfl, by kernel_rfl⟩
noncomputable def fs24 (N : Nat) : List (FE D) := ⟨dyardgen_SamePulls, Fyardgen_SamePulls N⟩ :: fs23 N
theorem all24 (N : Nat) : ∀ y ∈ fs24 N, CallOk X0 y.d y.F := all_cons (x := ⟨dyardgen_SamePulls, Fyardgen_SamePulls N⟩) (oyardgen_SamePulls N) (all23 N)
noncomputable def X24 (N : Nat) : Ev Try.prog D := X0.with (fs24 N)
theorem cok24 (N : Nat) : COk (X24 N) := COk.of (all24 N)
/-! ### humpyard/humpyardlaw33.sane -/
noncomputable def u0_l33_sane (N : Nat) : List (Pc D) := []
theorem oku0_l33_sane (N : Nat) : ∀ u ∈ u0_l33_sane N, PcOk (X24 N) (bodyOf Try.f14) u := pc_nil
noncomputable def Pl33_sane_0 : PD D := { path := [1, 1, 1, 1, 1, 1, 0], ins := [.o 3 (.sl 39), .v 4 (.int .i64), .o 5 (.sl 39), .v 6 (.int .i64), .v 7 .bool, .v 8 (.int .i64)], fx := [(3, .c (.own 0)), (5, .c (.own 1))], ks := [1, 1], exs := [⟨.normal, [.v 0 .bool], []⟩], keep := [] }
noncomputable def Fl33_sane_0 (N : Nat) : Pl33_sane_0.F := fun x => l33_sane_0 N x.1 x.2.1 x.2.2.1 x.2.2.2.1 x.2.2.2.2.1 x.2.2.2.2.2.1
theorem cl33_sane_0 (N : Nat) : CC (X24 N) (bodyOf Try.f14) Pl33_sane_0 (Fl33_sane_0 N) := CC.of (cok24 N) (us := u0_l33_sane N) (fun u h _ => oku0_l33_sane N u h) (fun x => by kernel_rfl)
noncomputable def ul33_sane_0 (N : Nat) : List (Pc D) := Pl33_sane_0.pc (X24 N) (Fl33_sane_0 N) :: u0_l33_sane N
theorem okul33_sane_0 (N : Nat) : ∀ u ∈ ul33_sane_0 N, PcOk (X24 N) (bodyOf Try.f14) u := pc_cons ((cl33_sane_0 N).pc (by kernel_rfl)) (oku0_l33_sane N)
noncomputable def dl33_sane : FD D := { f := 14, np := 0, ins := [], fx := [], rcv := none, rk := 0, outs := [.v 0 .bool], ofx := [], rvs := [.tmp 0], flat := true }
noncomputable def Fl33_sane (N : Nat) : dl33_sane.F := fun r x => l33_sane N
theorem ol33_sane (N : Nat) : FOk Try.prog (X24 N) dl33_sane (Fl33_sane N) := ⟨⟨Try.f14, _, Try.func14, rfl, by kernel_rfl, by kernel_rfl, rfl, FC.of (cok24 N) (us := ul33_sane_0 N) (fun u h _ => okul33_sane_0 N u h) (fun r x => by kernel_rfl)⟩, by kernel_rfl, by kernel_rfl, by kernel_rfl, by kernel_rfl⟩
noncomputable def fs25 (N : Nat) : List (FE D) := ⟨dl33_sane, Fl33_sane N⟩ :: fs24 N
theorem all25 (N : Nat) : ∀ y ∈ fs25 N, CallOk X0 y.d y.F := all_cons (x := ⟨dl33_sane, Fl33_sane N⟩) (ol33_sane N) (all24 N)
noncomputable def X25 (N : Nat) : Ev Try.prog D := X0.with (fs25 N)
theorem cok25 (N : Nat) : COk (X25 N) := COk.of (all25 N)
/-! ### humpyard/humpyardlaw33.RepairLeast -/
noncomputable def u0_l33_RepairLeast (N : Nat) : List (Pc D) := []
theorem oku0_l33_RepairLeast (N : Nat) : ∀ u ∈ u0_l33_RepairLeast N, PcOk (X25 N) (bodyOf Try.f4) u := pc_nil
noncomputable def Pl33_RepairLeast_1 : PD D := { path := [1, 1, 1, 1, 1, 1, 0, 1, 0, 0, 0, 0], ins := [.v 1 (.sl 3), .o 6 (.box 28), .o 7 (.sl 39), .o 9 (.sl 4), .v 10 (.int .i64)], fx := [(6, .box 0 0), (7, .c (.own 1)), (9, .c (.own 2))], ks := [1, 1, 1], exs := [⟨.normal, [.v 43 .bool], []⟩], keep := [1, 6, 7, 9, 10] }
noncomputable def Fl33_RepairLeast_1 (N : Nat) : Pl33_RepairLeast_1.F := fun x => l33_RepairLeast_1 N x.1 x.2.2.2.2.1
theorem cl33_RepairLeast_1 (N : Nat) : CC (X25 N) (bodyOf Try.f4) Pl33_RepairLeast_1 (Fl33_RepairLeast_1 N) := CC.of (cok25 N) (us := u0_l33_RepairLeast N) (fun u h _ => oku0_l33_RepairLeast N u h) (fun x => by kernel_rfl)
noncomputable def ul33_RepairLeast_1 (N : Nat) : List (Pc D) := Pl33_RepairLeast_1.pc (X25 N) (Fl33_RepairLeast_1 N) :: u0_l33_RepairLeast N
theorem okul33_RepairLeast_1 (N : Nat) : ∀ u ∈ ul33_RepairLeast_1 N, PcOk (X25 N) (bodyOf Try.f4) u := pc_cons ((cl33_RepairLeast_1 N).pc (by kernel_rfl)) (oku0_l33_RepairLeast N)
noncomputable def Pl33_RepairLeast_2 : PD D := { path := [1, 1, 1, 1, 1, 1, 0, 1, 0, 0, 1, 0], ins := [.v 1 (.sl 3), .o 6 (.box 28), .o 7 (.sl 39), .o 9 (.sl 4), .v 10 (.int .i64)], fx := [(6, .box 0 0), (7, .c (.own 1)), (9, .c (.own 2))], ks := [1, 1, 2], exs := [⟨.normal, [.u 2 (.sl 4)], []⟩], keep := [1, 6, 7, 9, 10] }
noncomputable def Fl33_RepairLeast_2 (N : Nat) : Pl33_RepairLeast_2.F := fun x => l33_RepairLeast_2 N x.1 x.2.2.2.1 x.2.2.2.2.1
theorem cl33_RepairLeast_2 (N : Nat) : CC (X25 N) (bodyOf Try.f4) Pl33_RepairLeast_2 (Fl33_RepairLeast_2 N) := CC.of (cok25 N) (us := ul33_RepairLeast_1 N) (fun u h _ => okul33_RepairLeast_1 N u h) (fun x => by kernel_rfl)
noncomputable def ul33_RepairLeast_2 (N : Nat) : List (Pc D) := Pl33_RepairLeast_2.pc (X25 N) (Fl33_RepairLeast_2 N) :: ul33_RepairLeast_1 N
theorem okul33_RepairLeast_2 (N : Nat) : ∀ u ∈ ul33_RepairLeast_2 N, PcOk (X25 N) (bodyOf Try.f4) u := pc_cons ((cl33_RepairLeast_2 N).pc (by kernel_rfl)) (okul33_RepairLeast_1 N)
noncomputable def Pl33_RepairLeast_0 : PD D := { path := [1, 1, 1, 1, 1, 1, 0, 1, 0], ins := [.v 1 (.sl 3), .o 6 (.box 28), .o 7 (.sl 39), .o 9 (.sl 4), .v 10 (.int .i64)], fx := [(6, .box 0 0), (7, .c (.own 1)), (9, .c (.own 2))], ks := [1, 1, 2], exs := [⟨.exit 0, [.u 2 (.sl 4)], []⟩], keep := [1, 6, 7, 9] }
noncomputable def Fl33_RepairLeast_0 (N n : Nat) : Pl33_RepairLeast_0.F := fun x => l33_RepairLeast_0 N x.1 n x.2.2.2.1 x.2.2.2.2.1
theorem cl33_RepairLeast_0 (N n : Nat) : CC (X25 N) (bodyOf Try.f4) Pl33_RepairLeast_0 (Fl33_RepairLeast_0 N n) := CC.loop (cok25 N) (us := ul33_RepairLeast_2 N) (c := sub (bodyOf Try.f4) [1, 1, 1, 1, 1, 1, 0, 1, 0, 0]) (by kernel_rfl) (by kernel_rfl) (fun u h _ => okul33_RepairLeast_2 N u h) (fun x => rfl) (fun n x => by kernel_rfl) n
noncomputable def ul33_RepairLeast_0 (N : Nat) : List (Pc D) := Pl33_RepairLeast_0.pc (X25 N) (Fl33_RepairLeast_0 N N) :: ul33_RepairLeast_2 N
theorem okul33_RepairLeast_0 (N : Nat) : ∀ u ∈ ul33_RepairLeast_0 N, PcOk (X25 N) (bodyOf Try.f4) u := pc_cons ((cl33_RepairLeast_0 N N).pc (by kernel_rfl)) (okul33_RepairLeast_2 N)
noncomputable def Pl33_RepairLeast_5 : PD D := { path := [1, 1, 1, 1, 1, 1, 1, 0, 1, 0, 0, 1, 0, 0, 1, 0, 0, 1, 0, 0, 1], ins := [.o 6 (.box 28), .o 7 (.sl 39), .o 9 (.sl 4), .v 11 (.int .i64), .v 13 (.int .i64)], fx := [(6, .box 0 0), (7, .c (.own 1)), (9, .c (.own 2))], ks := [1, 1, 2], exs := [⟨.normal, [.u 2 (.sl 4)], []⟩], keep := [1, 6, 7, 9, 11, 12] }
noncomputable def Fl33_RepairLeast_5 (N : Nat) : Pl33_RepairLeast_5.F := fun x => l33_RepairLeast_5 N x.1 x.2.2.1 x.2.2.2.1 x.2.2.2.2.1
theorem cl33_RepairLeast_5 (N : Nat) : CC (X25 N) (bodyOf Try.f4) Pl33_RepairLeast_5 (Fl33_RepairLeast_5 N) := CC.of (cok25 N) (us := ul33_RepairLeast_0 N) (fun u h _ => okul33_RepairLeast_0 N u h) (fun x => by kernel_rfl)
noncomputable def ul33_RepairLeast_5 (N : Nat) : List (Pc D) := Pl33_RepairLeast_5.pc (X25 N) (Fl33_RepairLeast_5 N) :: ul33_RepairLeast_0 N
theorem okul33_RepairLeast_5 (N : Nat) : ∀ u ∈ ul33_RepairLeast_5 N, PcOk (X25 N) (bodyOf Try.f4) u := pc_cons ((cl33_RepairLeast_5 N).pc (by kernel_rfl)) (okul33_RepairLeast_0 N)
noncomputable def Pl33_RepairLeast_4 : PD D := { path := [1, 1, 1, 1, 1, 1, 1, 0, 1, 0, 0, 1, 0, 0, 1, 0], ins := [.o 6 (.box 28), .o 7 (.sl 39), .o 9 (.sl 4), .v 11 (.int .i64), .v 12 (.int .i64)], fx := [(6, .box 0 0), (7, .c (.own 1)), (9, .c (.own 2))], ks := [1, 1, 2], exs := [⟨.exit 4, [.u 2 (.sl 4)], []⟩], keep := [1, 6, 7, 9, 11] }
noncomputable def Fl33_RepairLeast_4 (N n : Nat) : Pl33_RepairLeast_4.F := fun x => l33_RepairLeast_4 N x.1 x.2.2.2.1 n x.2.2.1 x.2.2.2.2.1
theorem cl33_RepairLeast_4 (N n : Nat) : CC (X25 N) (bodyOf Try.f4) Pl33_RepairLeast_4 (Fl33_RepairLeast_4 N n) := CC.loop (cok25 N) (us := ul33_RepairLeast_5 N) (c := sub (bodyOf Try.f4) [1, 1, 1, 1, 1, 1, 1, 0, 1, 0, 0, 1, 0, 0, 1, 0, 0]) (by kernel_rfl) (by kernel_rfl) (fun u h _ => okul33_RepairLeast_5 N u h) (fun x => rfl) (fun n x => by kernel_rfl) n
noncomputable def ul33_RepairLeast_4 (N : Nat) : List (Pc D) := Pl33_RepairLeast_4.pc (X25 N) (Fl33_RepairLeast_4 N N) :: ul33_RepairLeast_5 N
theorem okul33_RepairLeast_4 (N : Nat) : ∀ u ∈ ul33_RepairLeast_4 N, PcOk (X25 N) (bodyOf Try.f4) u := pc_cons ((cl33_RepairLeast_4 N N).pc (by kernel_rfl)) (okul33_RepairLeast_5 N)
noncomputable def Pl33_RepairLeast_3 : PD D := { path := [1, 1, 1, 1, 1, 1, 1, 0, 1, 0], ins := [.o 6 (.box 28), .o 7 (.sl 39), .o 9 (.sl 4), .v 11 (.int .i64)], fx := [(6, .box 0 0), (7, .c (.own 1)), (9, .c (.own 2))], ks := [1, 1, 2], exs := [⟨.exit 2, [.u 2 (.sl 4)], []⟩], keep := [1, 6, 7, 9] }
noncomputable def Fl33_RepairLeast_3 (N n : Nat) : Pl33_RepairLeast_3.F := fun x => l33_RepairLeast_3 N x.1 n x.2.2.1 x.2.2.2.1
theorem cl33_RepairLeast_3 (N n : Nat) : CC (X25 N) (bodyOf Try.f4) Pl33_RepairLeast_3 (Fl33_RepairLeast_3 N n) := CC.loop (cok25 N) (us := ul33_RepairLeast_4 N) (c := sub (bodyOf Try.f4) [1, 1, 1, 1, 1, 1, 1, 0, 1, 0, 0]) (by kernel_rfl) (by kernel_rfl) (fun u h _ => okul33_RepairLeast_4 N u h) (fun x => rfl) (fun n x => by kernel_rfl) n
noncomputable def ul33_RepairLeast_3 (N : Nat) : List (Pc D) := Pl33_RepairLeast_3.pc (X25 N) (Fl33_RepairLeast_3 N N) :: ul33_RepairLeast_4 N
theorem okul33_RepairLeast_3 (N : Nat) : ∀ u ∈ ul33_RepairLeast_3 N, PcOk (X25 N) (bodyOf Try.f4) u := pc_cons ((cl33_RepairLeast_3 N N).pc (by kernel_rfl)) (okul33_RepairLeast_4 N)
noncomputable def Pl33_RepairLeast_9 : PD D := { path := [1, 1, 1, 1, 1, 1, 1, 1, 0, 1, 0, 0, 1, 0, 1, 1, 0, 0, 1, 0, 0, 1, 0, 0, 0, 0], ins := [.o 6 (.box 28), .o 7 (.sl 39), .o 9 (.sl 4), .v 15 (.int .i64), .v 16 (.int .i64)], fx := [(6, .box 0 0), (7, .c (.own 1)), (9, .c (.own 2))], ks := [1, 1, 1], exs := [⟨.normal, [.v 121 .bool], []⟩], keep := [1, 6, 7, 9, 14, 15, 16] }
noncomputable def Fl33_RepairLeast_9 (N : Nat) : Pl33_RepairLeast_9.F := fun x => l33_RepairLeast_9 N x.2.2.1 x.2.2.2.1 x.2.2.2.2.1
theorem cl33_RepairLeast_9 (N : Nat) : CC (X25 N) (bodyOf Try.f4) Pl33_RepairLeast_9 (Fl33_RepairLeast_9 N) := CC.of (cok25 N) (us := ul33_RepairLeast_3 N) (fun u h _ => okul33_RepairLeast_3 N u h) (fun x => by kernel_rfl)
noncomputable def ul33_RepairLeast_9 (N : Nat) : List (Pc D) := Pl33_RepairLeast_9.pc (X25 N) (Fl33_RepairLeast_9 N) :: ul33_RepairLeast_3 N
theorem okul33_RepairLeast_9 (N : Nat) : ∀ u ∈ ul33_RepairLeast_9 N, PcOk (X25 N) (bodyOf Try.f4) u := pc_cons ((cl33_RepairLeast_9 N).pc (by kernel_rfl)) (okul33_RepairLeast_3 N)
noncomputable def Pl33_RepairLeast_11 : PD D := { path := [1, 1, 1, 1, 1, 1, 1, 1, 0, 1, 0, 0, 1, 0, 1, 1, 0, 0, 1, 0, 0, 1, 0, 0, 1, 0, 0, 0], ins := [.o 6 (.box 28), .o 7 (.sl 39), .o 9 (.sl 4), .v 15 (.int .i64), .v 16 (.int .i64)], fx := [(6, .box 0 0), (7, .c (.own 1)), (9, .c (.own 2))], ks := [1, 1, 1], exs := [⟨.normal, [.v 17 .bool], []⟩], keep := [1, 6, 7, 9, 14, 15, 16] }
noncomputable def Fl33_RepairLeast_11 (N : Nat) : Pl33_RepairLeast_11.F := fun x => l33_RepairLeast_11 N x.1 x.2.2.2.1 x.2.2.2.2.1
theorem cl33_RepairLeast_11 (N : Nat) : CC (X25 N) (bodyOf Try.f4) Pl33_RepairLeast_11 (Fl33_RepairLeast_11 N) := CC.of (cok25 N) (us := ul33_RepairLeast_9 N) (fun u h _ => okul33_RepairLeast_9 N u h) (fun x => by kernel_rfl)
noncomputable def ul33_RepairLeast_11 (N : Nat) : List (Pc D) := Pl33_RepairLeast_11.pc (X25 N) (Fl33_RepairLeast_11 N) :: ul33_RepairLeast_9 N
theorem okul33_RepairLeast_11 (N : Nat) : ∀ u ∈ ul33_RepairLeast_11 N, PcOk (X25 N) (bodyOf Try.f4) u := pc_cons ((cl33_RepairLeast_11 N).pc (by kernel_rfl)) (okul33_RepairLeast_9 N)
noncomputable def Pl33_RepairLeast_12 : PD D := { path := [1, 1, 1, 1, 1, 1, 1, 1, 0, 1, 0, 0, 1, 0, 1, 1, 0, 0, 1, 0, 0, 1, 0, 0, 1, 0, 0, 1, 0], ins := [.o 6 (.box 28), .o 7 (.sl 39), .o 9 (.sl 4), .v 15 (.int .i64), .v 16 (.int .i64), .v 17 .bool], fx := [(6, .box 0 0), (7, .c (.own 1)), (9, .c (.own 2))], ks := [1, 1, 1], exs := [⟨.normal, [.v 173 .bool], []⟩], keep := [1, 6, 7, 9, 14, 15, 16] }
noncomputable def Fl33_RepairLeast_12 (N : Nat) : Pl33_RepairLeast_12.F := fun x => l33_RepairLeast_12 N x.1 x.2.2.1 x.2.2.2.1 x.2.2.2.2.1 x.2.2.2.2.2.1
theorem cl33_RepairLeast_12 (N : Nat) : CC (X25 N) (bodyOf Try.f4) Pl33_RepairLeast_12 (Fl33_RepairLeast_12 N) := CC.of (cok25 N) (us := ul33_RepairLeast_11 N) (fun u h _ => okul33_RepairLeast_11 N u h) (fun x => by kernel_rfl)
noncomputable def ul33_RepairLeast_12 (N : Nat) : List (Pc D) := Pl33_RepairLeast_12.pc (X25 N) (Fl33_RepairLeast_12 N) :: ul33_RepairLeast_11 N
theorem okul33_RepairLeast_12 (N : Nat) : ∀ u ∈ ul33_RepairLeast_12 N, PcOk (X25 N) (bodyOf Try.f4) u := pc_cons ((cl33_RepairLeast_12 N).pc (by kernel_rfl)) (okul33_RepairLeast_11 N)
noncomputable def Pl33_RepairLeast_10 : PD D := { path := [1, 1, 1, 1, 1, 1, 1, 1, 0, 1, 0, 0, 1, 0, 1, 1, 0, 0, 1, 0, 0, 1, 0, 0, 1, 0], ins := [.o 6 (.box 28), .o 7 (.sl 39), .o 9 (.sl 4), .v 14 .bool, .v 15 (.int .i64), .v 16 (.int .i64)], fx := [(6, .box 0 0), (7, .c (.own 1)), (9, .c (.own 2))], ks := [1, 1, 2], exs := [⟨.normal, [.u 2 (.sl 4), .v 14 .bool], []⟩], keep := [1, 6, 7, 9, 15, 16] }
noncomputable def Fl33_RepairLeast_10 (N : Nat) : Pl33_RepairLeast_10.F := fun x => l33_RepairLeast_10 N x.1 x.2.2.1 x.2.2.2.1 x.2.2.2.2.1 x.2.2.2.2.2.1
theorem cl33_RepairLeast_10 (N : Nat) : CC (X25 N) (bodyOf Try.f4) Pl33_RepairLeast_10 (Fl33_RepairLeast_10 N) := CC.of (cok25 N) (us := ul33_RepairLeast_12 N) (fun u h _ => okul33_RepairLeast_12 N u h) (fun x => by kernel_rfl)
noncomputable def ul33_RepairLeast_10 (N : Nat) : List (Pc D) := Pl33_RepairLeast_10.pc (X25 N) (Fl33_RepairLeast_10 N) :: ul33_RepairLeast_12 N
theorem okul33_RepairLeast_10 (N : Nat) : ∀ u ∈ ul33_RepairLeast_10 N, PcOk (X25 N) (bodyOf Try.f4) u := pc_cons ((cl33_RepairLeast_10 N).pc (by kernel_rfl)) (okul33_RepairLeast_12 N)
noncomputable def Pl33_RepairLeast_8 : PD D := { path := [1, 1, 1, 1, 1, 1, 1, 1, 0, 1, 0, 0, 1, 0, 1, 1, 0, 0, 1, 0, 0, 1, 0], ins := [.o 6 (.box 28), .o 7 (.sl 39), .o 9 (.sl 4), .v 14 .bool, .v 15 (.int .i64), .v 16 (.int .i64)], fx := [(6, .box 0 0), (7, .c (.own 1)), (9, .c (.own 2))], ks := [1, 1, 2], exs := [⟨.exit 10, [.u 2 (.sl 4), .v 14 .bool], []⟩], keep := [1, 6, 7, 9, 15] }
noncomputable def Fl33_RepairLeast_8 (N n : Nat) : Pl33_RepairLeast_8.F := fun x => l33_RepairLeast_8 N x.1 x.2.2.2.2.1 n x.2.2.1 x.2.2.2.1 x.2.2.2.2.2.1
theorem cl33_RepairLeast_8 (N n : Nat) : CC (X25 N) (bodyOf Try.f4) Pl33_RepairLeast_8 (Fl33_RepairLeast_8 N n) := CC.loop (cok25 N) (us := ul33_RepairLeast_10 N) (c := sub (bodyOf Try.f4) [1, 1, 1, 1, 1, 1, 1, 1, 0, 1, 0, 0, 1, 0, 1, 1, 0, 0, 1, 0, 0, 1, 0, 0]) (by kernel_rfl) (by kernel_rfl) (fun u h _ => okul33_RepairLeast_10 N u h) (fun x => rfl) (fun n x => by kernel_rfl) n
noncomputable def ul33_RepairLeast_8 (N : Nat) : List (Pc D) := Pl33_RepairLeast_8.pc (X25 N) (Fl33_RepairLeast_8 N N) :: ul33_RepairLeast_10 N
theorem okul33_RepairLeast_8 (N : Nat) : ∀ u ∈ ul33_RepairLeast_8 N, PcOk (X25 N) (bodyOf Try.f4) u := pc_cons ((cl33_RepairLeast_8 N N).pc (by kernel_rfl)) (okul33_RepairLeast_10 N)
noncomputable def Pl33_RepairLeast_7 : PD D := { path := [1, 1, 1, 1, 1, 1, 1, 1, 0, 1, 0, 0, 1, 0, 1, 1, 0], ins := [.o 6 (.box 28), .o 7 (.sl 39), .o 9 (.sl 4), .v 14 .bool, .v 15 (.int .i64)], fx := [(6, .box 0 0), (7, .c (.own 1)), (9, .c (.own 2))], ks := [1, 1, 2], exs := [⟨.exit 8, [.u 2 (.sl 4), .v 14 .bool], []⟩], keep := [1, 6, 7, 9] }
noncomputable def Fl33_RepairLeast_7 (N n : Nat) : Pl33_RepairLeast_7.F := fun x => l33_RepairLeast_7 N x.1 n x.2.2.1 x.2.2.2.1 x.2.2.2.2.1
theorem cl33_RepairLeast_7 (N n : Nat) : CC (X25 N) (bodyOf Try.f4) Pl33_RepairLeast_7 (Fl33_RepairLeast_7 N n) := CC.loop (cok25 N) (us := ul33_RepairLeast_8 N) (c := sub (bodyOf Try.f4) [1, 1, 1, 1, 1, 1, 1, 1, 0, 1, 0, 0, 1, 0, 1, 1, 0, 0]) (by kernel_rfl) (by kernel_rfl) (fun u h _ => okul33_RepairLeast_8 N u h) (fun x => rfl) (fun n x => by kernel_rfl) n
noncomputable def ul33_RepairLeast_7 (N : Nat) : List (Pc D) := Pl33_RepairLeast_7.pc (X25 N) (Fl33_RepairLeast_7 N N) :: ul33_RepairLeast_8 N
theorem okul33_RepairLeast_7 (N : Nat) : ∀ u ∈ ul33_RepairLeast_7 N, PcOk (X25 N) (bodyOf Try.f4) u := pc_cons ((cl33_RepairLeast_7 N N).pc (by kernel_rfl)) (okul33_RepairLeast_8 N)
noncomputable def Pl33_RepairLeast_6 : PD D := { path := [1, 1, 1, 1, 1, 1, 1, 1, 0, 1, 0], ins := [.o 6 (.box 28), .o 7 (.sl 39), .o 9 (.sl 4), .v 14 .bool], fx := [(6, .box 0 0), (7, .c (.own 1)), (9, .c (.own 2))], ks := [1, 1, 2], exs := [⟨.exit 6, [.u 2 (.sl 4)], []⟩], keep := [1, 7, 9] }
noncomputable def Fl33_RepairLeast_6 (N n : Nat) : Pl33_RepairLeast_6.F := fun x => l33_RepairLeast_6 N x.1 n x.2.2.1 x.2.2.2.1
theorem cl33_RepairLeast_6 (N n : Nat) : CC (X25 N) (bodyOf Try.f4) Pl33_RepairLeast_6 (Fl33_RepairLeast_6 N n) := CC.loop (cok25 N) (us := ul33_RepairLeast_7 N) (c := sub (bodyOf Try.f4) [1, 1, 1, 1, 1, 1, 1, 1, 0, 1, 0, 0]) (by kernel_rfl) (by kernel_rfl) (fun u h _ => okul33_RepairLeast_7 N u h) (fun x => rfl) (fun n x => by kernel_rfl) n
noncomputable def ul33_RepairLeast_6 (N : Nat) : List (Pc D) := Pl33_RepairLeast_6.pc (X25 N) (Fl33_RepairLeast_6 N N) :: ul33_RepairLeast_7 N
theorem okul33_RepairLeast_6 (N : Nat) : ∀ u ∈ ul33_RepairLeast_6 N, PcOk (X25 N) (bodyOf Try.f4) u := pc_cons ((cl33_RepairLeast_6 N N).pc (by kernel_rfl)) (okul33_RepairLeast_7 N)
noncomputable def Pl33_RepairLeast_14 : PD D := { path := [1, 1, 1, 1, 1, 1, 1, 1, 1, 0, 1, 0, 0, 1, 0, 0, 0], ins := [.o 7 (.sl 39), .o 9 (.sl 4), .v 18 (.int .i64)], fx := [(7, .c (.own 0)), (9, .c (.own 1))], ks := [1, 1], exs := [⟨.normal, [.v 209 .bool], []⟩], keep := [1, 7, 9, 18] }
noncomputable def Fl33_RepairLeast_14 (N : Nat) : Pl33_RepairLeast_14.F := fun x => l33_RepairLeast_14 N x.1 x.2.1 x.2.2.1
theorem cl33_RepairLeast_14 (N : Nat) : CC (X25 N) (bodyOf Try.f4) Pl33_RepairLeast_14 (Fl33_RepairLeast_14 N) := CC.of (cok25 N) (us := ul33_RepairLeast_6 N) (fun u h _ => okul33_RepairLeast_6 N u h) (fun x => by kernel_rfl)
noncomputable def ul33_RepairLeast_14 (N : Nat) : List (Pc D) := Pl33_RepairLeast_14.pc (X25 N) (Fl33_RepairLeast_14 N) :: ul33_RepairLeast_6 N
theorem okul33_RepairLeast_14 (N : Nat) : ∀ u ∈ ul33_RepairLeast_14 N, PcOk (X25 N) (bodyOf Try.f4) u := pc_cons ((cl33_RepairLeast_14 N).pc (by kernel_rfl)) (okul33_RepairLeast_6 N)
noncomputable def Pl33_RepairLeast_13 : PD D := { path := [1, 1, 1, 1, 1, 1, 1, 1, 1, 0, 1, 0], ins := [.o 7 (.sl 39), .o 9 (.sl 4), .v 18 (.int .i64)], fx := [(7, .c (.own 0)), (9, .c (.own 1))], ks := [1, 1], exs := [⟨.exit 12, [], []⟩, ⟨.ret, [.v 4 .bool], []⟩], keep := [1, 7, 9] }
noncomputable def Fl33_RepairLeast_13 (N n : Nat) : Pl33_RepairLeast_13.F := fun x => l33_RepairLeast_13 N x.1 x.2.1 n x.2.2.1
theorem cl33_RepairLeast_13 (N n : Nat) : CC (X25 N) (bodyOf Try.f4) Pl33_RepairLeast_13 (Fl33_RepairLeast_13 N n) := CC.loop (cok25 N) (us := ul33_RepairLeast_14 N) (c := sub (bodyOf Try.f4) [1, 1, 1, 1, 1, 1, 1, 1, 1, 0, 1, 0, 0]) (by kernel_rfl) (by kernel_rfl) (fun u h _ => okul33_RepairLeast_14 N u h) (fun x => rfl) (fun n x => by kernel_rfl) n
noncomputable def ul33_RepairLeast_13 (N : Nat) : List (Pc D) := Pl33_RepairLeast_13.pc (X25 N) (Fl33_RepairLeast_13 N N) :: ul33_RepairLeast_14 N
theorem okul33_RepairLeast_13 (N : Nat) : ∀ u ∈ ul33_RepairLeast_13 N, PcOk (X25 N) (bodyOf Try.f4) u := pc_cons ((cl33_RepairLeast_13 N N).pc (by kernel_rfl)) (okul33_RepairLeast_14 N)
noncomputable def Pl33_RepairLeast_16 : PD D := { path := [1, 1, 1, 1, 1, 1, 1, 1, 1, 1, 1, 0, 1, 0, 0, 1, 0], ins := [.o 7 (.sl 39), .o 9 (.sl 4), .v 19 (.int .i64), .v 20 (.int .i64)], fx := [(7, .c (.own 0)), (9, .c (.own 1))], ks := [1, 1], exs := [⟨.normal, [.v 19 (.int .i64)], []⟩], keep := [1, 7, 9, 20] }
noncomputable def Fl33_RepairLeast_16 (N : Nat) : Pl33_RepairLeast_16.F := fun x => l33_RepairLeast_16 N x.2.1 x.2.2.1 x.2.2.2.1
theorem cl33_RepairLeast_16 (N : Nat) : CC (X25 N) (bodyOf Try.f4) Pl33_RepairLeast_16 (Fl33_RepairLeast_16 N) := CC.of (cok25 N) (us := ul33_RepairLeast_13 N) (fun u h _ => okul33_RepairLeast_13 N u h) (fun x => by kernel_rfl)
noncomputable def ul33_RepairLeast_16 (N : Nat) : List (Pc D) := Pl33_RepairLeast_16.pc (X25 N) (Fl33_RepairLeast_16 N) :: ul33_RepairLeast_13 N
theorem okul33_RepairLeast_16 (N : Nat) : ∀ u ∈ ul33_RepairLeast_16 N, PcOk (X25 N) (bodyOf Try.f4) u := pc_cons ((cl33_RepairLeast_16 N).pc (by kernel_rfl)) (okul33_RepairLeast_13 N)
noncomputable def Pl33_RepairLeast_15 : PD D := { path := [1, 1, 1, 1, 1, 1, 1, 1, 1, 1, 1, 0, 1, 0], ins := [.o 7 (.sl 39), .o 9 (.sl 4), .v 19 (.int .i64), .v 20 (.int .i64)], fx := [(7, .c (.own 0)), (9, .c (.own 1))], ks := [1, 1], exs := [⟨.exit 14, [.v 19 (.int .i64)], []⟩], keep := [1, 7] }
noncomputable def Fl33_RepairLeast_15 (N n : Nat) : Pl33_RepairLeast_15.F := fun x => l33_RepairLeast_15 N x.2.1 n x.2.2.1 x.2.2.2.1
theorem cl33_RepairLeast_15 (N n : Nat) : CC (X25 N) (bodyOf Try.f4) Pl33_RepairLeast_15 (Fl33_RepairLeast_15 N n) := CC.loop (cok25 N) (us := ul33_RepairLeast_16 N) (c := sub (bodyOf Try.f4) [1, 1, 1, 1, 1, 1, 1, 1, 1, 1, 1, 0, 1, 0, 0]) (by kernel_rfl) (by kernel_rfl) (fun u h _ => okul33_RepairLeast_16 N u h) (fun x => rfl) (fun n x => by kernel_rfl) n
noncomputable def ul33_RepairLeast_15 (N : Nat) : List (Pc D) := Pl33_RepairLeast_15.pc (X25 N) (Fl33_RepairLeast_15 N N) :: ul33_RepairLeast_16 N
theorem okul33_RepairLeast_15 (N : Nat) : ∀ u ∈ ul33_RepairLeast_15 N, PcOk (X25 N) (bodyOf Try.f4) u := pc_cons ((cl33_RepairLeast_15 N N).pc (by kernel_rfl)) (okul33_RepairLeast_16 N)
noncomputable def Pl33_RepairLeast_17 : PD D := { path := [1, 1, 1, 1, 1, 1, 1, 1, 1, 1, 1, 1, 0], ins := [.v 1 (.sl 3), .o 7 (.sl 39), .v 19 (.int .i64)], fx := [(7, .c (.own 0))], ks := [1], exs := [⟨.normal, [.v 4 .bool], []⟩], keep := [] }
noncomputable def Fl33_RepairLeast_17 (N : Nat) : Pl33_RepairLeast_17.F := fun x => l33_RepairLeast_17 N x.1 x.2.1 x.2.2.1
theorem cl33_RepairLeast_17 (N : Nat) : CC (X25 N) (bodyOf Try.f4) Pl33_RepairLeast_17 (Fl33_RepairLeast_17 N) := CC.of (cok25 N) (us := ul33_RepairLeast_15 N) (fun u h _ => okul33_RepairLeast_15 N u h) (fun x => by kernel_rfl)
noncomputable def ul33_RepairLeast_17 (N : Nat) : List (Pc D) := Pl33_RepairLeast_17.pc (X25 N) (Fl33_RepairLeast_17 N) :: ul33_RepairLeast_15 N
theorem okul33_RepairLeast_17 (N : Nat) : ∀ u ∈ ul33_RepairLeast_17 N, PcOk (X25 N) (bodyOf Try.f4) u := pc_cons ((cl33_RepairLeast_17 N).pc (by kernel_rfl)) (okul33_RepairLeast_15 N)
noncomputable def dl33_RepairLeast : FD D := { f := 4, np := 2, ins := [.v 0 (.sl 3), .v 1 (.sl 3)], fx := [], rcv := none, rk := 0, outs := [.v 4 .bool], ofx := [], rvs := [.tmp 4], flat := true }
noncomputable def Fl33_RepairLeast (N : Nat) : dl33_RepairLeast.F := fun r x => l33_RepairLeast N x.1 x.2.1
theorem ol33_RepairLeast (N : Nat) : FOk Try.prog (X25 N) dl33_RepairLeast (Fl33_RepairLeast N) := ⟨⟨Try.f4, _, Try.func4, rfl, by kernel_rfl, by kernel_rfl, rfl, FC.of (cok25 N) (us := ul33_RepairLeast_17 N) (fun u h _ => okul33_RepairLeast_17 N u h) (fun r x => by kernel_rfl)⟩, by kernel_rfl, by kernel_rfl, by kernel_rfl, by kernel_rfl⟩
noncomputable def fs26 (N : Nat) : List (FE D) := ⟨dl33_RepairLeast, Fl33_RepairLeast N⟩ :: fs25 N
theorem all26 (N : Nat) : ∀ y ∈ fs26 N, CallOk X0 y.d y.F := all_cons (x := ⟨dl33_RepairLeast, Fl33_RepairLeast N⟩) (ol33_RepairLeast N) (all25 N)
noncomputable def X26 (N : Nat) : Ev Try.prog D := X0.with (fs26 N)
theorem cok26 (N : Nat) : COk (X26 N) := COk.of (all26 N)
end Go.W
end
section
set_option linter.unusedVariables false
set_option linter.unusedSimpArgs false
namespace Go.W
open Go.AM
theorem w64 {n : Int} (h : -9223372036854775808 ≤ n) (h' : n ≤ 9223372036854775807) : IntKind.wrap .i64 n = n := by rw [IntKind.wrap_i64]; omega
theorem w8 {n : Int} (h : 0 ≤ n) (h' : n ≤ 255) : IntKind.wrap .u8 n = n := by rw [IntKind.wrap_u8]; omega
theorem wrap64_lo (n : Int) : -9223372036854775808 ≤ IntKind.wrap .i64 n ∧ IntKind.wrap .i64 n ≤ 9223372036854775807 := by rw [IntKind.wrap_i64]; omega
theorem lt_def {α β : Type} (x : α) (f : α → Option β) : AM.lt x f = f x := rfl
theorem bind_some' {α β : Type} (x : α) (f : α → Option β) : Option.bind (some x) f = f x := rfl
theorem getI_ok {α : Type} {xs : List α} {i : Int} (h0 : 0 ≤ i) (h1 : i < xs.length) : ∃ x, getI xs i = some x ∧ x ∈ xs ∧ xs[i.toNat]? = some x := by
  have hlt : i.toNat < xs.length := by omega
  exact ⟨xs[i.toNat], by simp [getI, h0, hlt], by simp, by simp [hlt]⟩
/-- The maker's counter is in range. -/
def Mk (c : Int) (s : Maker) : Prop := 0 ≤ s.n ∧ s.n ≤ c
theorem next_ok (N : Nat) {c : Int} {s : Maker} (k : Int) (hk : 1 ≤ k) (hk2 : k ≤ 1000000) (hs : Mk c s) (hc : c ≤ 1000000000000) : ∃ r s', Maker_Next N s k = some (r, s') ∧ 0 ≤ r ∧ r < k ∧ Mk (c + 1) s' := by
  obtain ⟨h0, h1⟩ := hs
  have h15 : ∃ y, Maker_Next_0 N s 0 (decide (0 < (s.l.length : Int))) = some y := by
    unfold Maker_Next_0
    by_cases hl : 0 < (s.l.length : Int)
    · rw [if_pos (by simpa using hl)]
      have hne : (s.l.length : Int) ≠ 0 := by omega
      have hm : modI s.n s.l.length = some (s.n.tmod s.l.length) := by unfold modI; rw [if_neg hne]
      have hd : divI s.n s.l.length = some (s.n.tdiv s.l.length) := by unfold divI; rw [if_neg hne]
      have hr0 : 0 ≤ s.n.tmod s.l.length := Int.tmod_nonneg _ h0
      have hr1 : s.n.tmod s.l.length < s.l.length := Int.tmod_lt_of_pos _ hl
      obtain ⟨x, hx, _, _⟩ := getI_ok hr0 hr1
      rw [hm, bind_some', hx, bind_some', hd, bind_some', lt_def]
      exact ⟨_, rfl⟩
    · rw [if_neg (by simpa using hl)]
      exact ⟨_, rfl⟩
  obtain ⟨y, hy⟩ := h15
  unfold Maker_Next
  rw [hy, bind_some']
  have hm : modI y k = some (y.tmod k) := by simp [modI]; omega
  have hlt : y.tmod k < k := Int.tmod_lt_of_pos _ (by omega)
  have hgt : -k < y.tmod k := by
    have := Int.lt_tmod_of_pos y (by omega : 0 < k)
    omega
  have hn : IntKind.wrap .i64 (s.n + 1) = s.n + 1 := w64 (by omega) (by omega)
  simp only [hm, bind_some', hn]
  unfold Maker_Next_1
  by_cases hneg : y.tmod k < 0
  · rw [if_pos (by simpa using hneg), lt_def, bind_some', w64 (by omega) (by omega)]
    exact ⟨_, _, rfl, by omega, by omega, by constructor <;> simp <;> omega⟩
  · rw [if_neg (by simpa using hneg), bind_some']
    exact ⟨_, _, rfl, by omega, by omega, by constructor <;> simp <;> omega⟩
theorem pick_ok (N : Nat) {c : Int} {s : Maker} (l : List Int) (hl : 1 ≤ l.length) (hl2 : l.length ≤ 1000) (hs : Mk c s) (hc : c ≤ 1000000000000) : ∃ x s', Maker_Pick N s l = some (x, s') ∧ x ∈ l ∧ Mk (c + 1) s' := by
  obtain ⟨r, s', h1, h2, h3, h4⟩ := next_ok N (s := s) (c := c) (l.length : Int) (by omega) (by omega) hs hc
  obtain ⟨x, hx, hm, _⟩ := getI_ok h2 h3
  unfold Maker_Pick
  rw [h1, bind_some']
  simp only [hx, bind_some']
  exact ⟨x, s', rfl, hm, h4⟩
end Go.W
end
section
set_option linter.unusedVariables false
set_option linter.unusedSimpArgs false
namespace Go.W
open Go.AM
/-! ### Small things -/
theorem getI_nat {α : Type} {xs : List α} {i : Nat} {x : α} (h : xs[i]? = some x) : getI xs (i : Int) = some x := by simp [getI, h]
theorem at_lt {α : Type} {xs : List α} {i : Nat} (h : i < xs.length) : xs[i]? = some xs[i] := by simp [h]
theorem drop_at {α : Type} {xs : List α} {i : Nat} {x : α} (h : xs[i]? = some x) : xs.drop i = x :: xs.drop (i + 1) := by
  obtain ⟨hlt, rfl⟩ := List.getElem?_eq_some_iff.1 h
  exact List.drop_eq_getElem_cons hlt
theorem w64s {i : Nat} (h : i < 9223372036854775807) : IntKind.wrap .i64 ((i : Int) + 1) = ((i + 1 : Nat) : Int) := by rw [w64 (by omega) (by omega)]; omega
theorem w64p {i : Nat} (h : i < 9223372036854775807) : IntKind.wrap .i64 (((i + 1 : Nat) : Int) - 1) = (i : Int) := by rw [w64 (by omega) (by omega)]; omega
theorem bne00 : ((0 : Int) != 0) = false := rfl
theorem dpos {a b : Int} (h : a < b) : decide (a < b) = true := decide_eq_true h
theorem dneg {a b : Int} (h : ¬ a < b) : ¬ decide (a < b) = true := by simpa using h
theorem lpos {a b : Int} (h : a ≤ b) : decide (a ≤ b) = true := decide_eq_true h
theorem lneg {a b : Int} (h : ¬ a ≤ b) : ¬ decide (a ≤ b) = true := by simpa using h
theorem appI_ok {α : Type} {xs ys : List α} (h : xs.length + ys.length ≤ 4294967296) : appI xs ys = some (xs ++ ys) := if_pos h
theorem cutI_drop {α : Type} {xs : List α} {i : Nat} (h : i ≤ xs.length) : cutI xs (i : Int) (xs.length : Int) = some (xs.drop i) := by
  unfold cutI; rw [if_pos (by omega)]; simp
theorem cutI_take {α : Type} {xs : List α} {i : Nat} (h : i ≤ xs.length) : cutI xs 0 (i : Int) = some (xs.take i) := by
  unfold cutI; rw [if_pos (by omega)]; simp
theorem Mk.le {c c' : Int} {s : Maker} (h : Mk c s) (hc : c ≤ c') : Mk c' s := ⟨h.1, Int.le_trans h.2 hc⟩
theorem mk0 (t : List Int) : Mk 0 (Maker.mk t 0) := ⟨by simp, by simp⟩
/-- The first element for which a condition holds. -/
def res {α β : Type} (p : Nat → α → Bool) (out : Nat → α → β) : Nat → List α → Sum Unit β
  | _, [] => .inl ()
  | i, x :: xs => if p i x = true then .inr (out i x) else res p out (i + 1) xs
theorem first_gen {α β : Type} {l : List α} (p : Nat → α → Bool) (out : Nat → α → β) (F : Nat → Int → Option (Sum Unit β)) (h0 : ∀ n, F (n + 1) (l.length : Int) = some (.inl ()))
    (h1 : ∀ (n i : Nat) (x : α), l[i]? = some x → F (n + 1) (i : Int) = if p i x = true then some (.inr (out i x)) else F n ((i + 1 : Nat) : Int)) : ∀ (k n i : Nat), k < n → i + k = l.length → F n (i : Int) = some (res p out i (l.drop i))
  | k, 0, i, hn, _ => by omega
  | 0, n + 1, i, hn, hi => by
    obtain rfl : i = l.length := by omega
    rw [h0, List.drop_length, res]
  | k + 1, n + 1, i, hn, hi => by
    have hlt : i < l.length := by omega
    rw [h1 n i _ (at_lt hlt), drop_at (at_lt hlt), res]
    split
    · rfl
    · exact first_gen p out F h0 h1 k n (i + 1) (by omega) (by omega)
/-- Something gathered from all elements. -/
def fold {α σ : Type} (g : Nat → α → σ → σ) : Nat → List α → σ → σ
  | _, [], s => s
  | i, x :: xs, s => fold g (i + 1) xs (g i x s)
theorem fold_gen {α σ β : Type} {l : List α} (g : Nat → α → σ → σ) (fin : σ → β) (I : Nat → σ → Prop) (F : Nat → σ → Int → Option β) (h0 : ∀ n s, I l.length s → F (n + 1) s (l.length : Int) = some (fin s))
    (h1 : ∀ (n i : Nat) (x : α) (s : σ), l[i]? = some x → I i s → F (n + 1) s (i : Int) = F n (g i x s) ((i + 1 : Nat) : Int) ∧ I (i + 1) (g i x s)) : ∀ (k n i : Nat) (s : σ), k < n → i + k = l.length → I i s → F n s (i : Int) = some (fin (fold g i (l.drop i) s)) ∧ I l.length (fold g i (l.drop i) s)
  | k, 0, i, s, hn, _, _ => by omega
  | 0, n + 1, i, s, hn, hi, hI => by
    obtain rfl : i = l.length := by omega
    rw [h0 n s hI, List.drop_length, fold]
    exact ⟨rfl, hI⟩
  | k + 1, n + 1, i, s, hn, hi, hI => by
    have hlt : i < l.length := by omega
    obtain ⟨g1, g2⟩ := h1 n i _ s (at_lt hlt) hI
    rw [g1, drop_at (at_lt hlt), fold]
    exact fold_gen g fin I F h0 h1 k n (i + 1) _ (by omega) (by omega) g2
/-- The number of the first element for which a condition holds, or -1. -/
def firstI {α : Type} (p : Nat → α → Bool) : Nat → List α → Int
  | _, [] => -1
  | i, x :: xs => if p i x = true then (i : Int) else firstI p (i + 1) xs
theorem res_first {α : Type} (p : Nat → α → Bool) : ∀ (l : List α) (i : Nat), res p (fun i _ => (i : Int)) i l = .inl () ∧ firstI p i l = -1 ∨ res p (fun i _ => (i : Int)) i l = .inr (firstI p i l) ∧ 0 ≤ firstI p i l
  | [], i => .inl ⟨rfl, rfl⟩
  | x :: xs, i => by
    rw [res, firstI]
    by_cases h : p i x = true
    · rw [if_pos h, if_pos h]; exact .inr ⟨rfl, by omega⟩
    · rw [if_neg h, if_neg h]; exact res_first p xs (i + 1)
theorem firstI_spec {α : Type} (p : Nat → α → Bool) : ∀ (l : List α) (i : Nat), (firstI p i l = -1 ∧ ∀ (j : Nat) (x : α), l[j]? = some x → p (i + j) x = false) ∨
    ∃ (j : Nat) (x : α), firstI p i l = ((i + j : Nat) : Int) ∧ l[j]? = some x ∧ p (i + j) x = true ∧ ∀ (j' : Nat) (y : α), j' < j → l[j']? = some y → p (i + j') y = false
  | [], i => .inl ⟨rfl, fun j x h => by simp at h⟩
  | x :: xs, i => by
    rw [firstI]
    by_cases h : p i x = true
    · rw [if_pos h]
      exact .inr ⟨0, x, by simp, by simp, by simpa using h, fun j' y hj => by omega⟩
    · rw [if_neg h]
      have h' : p i x = false := by simpa using h
      rcases firstI_spec p xs (i + 1) with ⟨h1, h2⟩ | ⟨j, y, h1, h2, h3, h4⟩
      · refine .inl ⟨h1, fun j y hj => ?_⟩
        cases j with
        | zero => simp at hj; subst hj; exact h'
        | succ j => have := h2 j y (by simpa using hj); rwa [show i + 1 + j = i + (j + 1) by omega] at this
      · refine .inr ⟨j + 1, y, by rw [h1]; omega, by simpa using h2, by rwa [show i + 1 + j = i + (j + 1) by omega] at h3, fun j' z hj hz => ?_⟩
        cases j' with
        | zero => simp at hz; subst hz; exact h'
        | succ j' => have := h4 j' z (by omega) (by simpa using hz); rwa [show i + 1 + j' = i + (j' + 1) by omega] at this
theorem firstI_congr {α : Type} {p q : Nat → α → Bool} : ∀ {l : List α} {i : Nat}, (∀ (j : Nat) (x : α), l[j]? = some x → p (i + j) x = q (i + j) x) → firstI p i l = firstI q i l
  | [], i, _ => rfl
  | x :: xs, i, h => by
    have h0 := h 0 x (by simp)
    rw [Nat.add_zero] at h0
    rw [firstI, firstI, h0, firstI_congr (i := i + 1) fun j y hj => ?_]
    have := h (j + 1) y (by simpa using hj)
    rwa [show i + 1 + j = i + (j + 1) by omega]
theorem mpGet_set {α β : Type} [DecidableEq α] (m : List (α × β)) (a k : α) (b : β) : mpGet (mpSet m a b) k = if a = k then some b else mpGet m k := by
  induction m with
  | nil => simp [mpSet, mpGet]
  | cons p m ih =>
    simp only [mpSet]
    by_cases h : p.1 = a
    · rw [if_pos h]
      simp only [mpGet]
      by_cases h2 : a = k
      · simp [h, h2]
      · simp [h, h2]
    · rw [if_neg h]
      simp only [mpGet, ih]
      by_cases h2 : p.1 = k
      · have : ¬ a = k := fun h3 => h (h2.trans h3.symm)
        simp [h2, this]
      · simp [h2]
end Go.W
end
section
set_option linter.unusedVariables false
set_option linter.unusedSimpArgs false
namespace Go.W
open Go.AM
/-- The item at a place. -/
def posD (ts : List (List Int)) (t p : Nat) : Option Int := (ts[t]?).bind fun l => l[p]?
/-- The number of the items on the first tracks. -/
def totD (ts : List (List Int)) (t : Nat) : Nat := ((ts.take t).map List.length).sum
/-- Each of 'n' items stands once. -/
structure TkOk (ts : List (List Int)) (n : Nat) : Prop where
  rg : ∀ t p i, posD ts t p = some i → 0 ≤ i ∧ i < n
  inj : ∀ t p t' p' i, posD ts t p = some i → posD ts t' p' = some i → t = t' ∧ p = p'
  all : ∀ x, x < n → ∃ t p, posD ts t p = some (x : Int)
  tot : totD ts ts.length = n
structure DOk (d : Disorder) : Prop where
  li : d.items.length ≤ 96
  lh : d.homes.length ≤ 16
  lt : d.tracks.length ≤ 24
  hm : ∀ h ∈ d.homes, 0 ≤ h ∧ h < d.tracks.length
  hd : d.homes.Nodup
  it : ∀ x ∈ d.items, 0 ≤ x.train ∧ x.train < d.homes.length ∧ 0 ≤ x.block ∧ x.block < 32 ∧ x.round = 0 ∧ 1 ≤ x.length ∧ x.length ≤ 400
  tk : TkOk d.tracks d.items.length
theorem tot_succ {ts : List (List Int)} {t : Nat} {l : List Int} (h : ts[t]? = some l) : totD ts (t + 1) = totD ts t + l.length := by
  unfold totD
  rw [List.take_add_one, h]
  simp
theorem tot_le {ts : List (List Int)} : ∀ (k t : Nat), totD ts t ≤ totD ts (t + k)
  | 0, t => Nat.le_refl _
  | k + 1, t => by
    have h1 := tot_le (ts := ts) k t
    cases hl : ts[t + k]? with
    | some l => have := tot_succ hl; rw [show t + (k + 1) = t + k + 1 by omega]; omega
    | none =>
      have : totD ts (t + k + 1) = totD ts (t + k) := by
        unfold totD
        rw [List.take_add_one, hl]; simp
      rw [show t + (k + 1) = t + k + 1 by omega]; omega
theorem tot_all (ts : List (List Int)) : totD ts ts.length = (ts.map List.length).sum := by unfold totD; rw [List.take_of_length_le (Nat.le_refl _)]
theorem tot_set {l : List Int} {x : Int} : ∀ {ts : List (List Int)} {t : Nat}, ts[t]? = some l → totD (ts.set t (l ++ [x])) (ts.set t (l ++ [x])).length = totD ts ts.length + 1 := by
  intro ts
  induction ts with
  | nil => intro t h; simp at h
  | cons a ts ih =>
    intro t h
    rw [tot_all, tot_all]
    cases t with
    | zero => simp at h; subst h; simp; omega
    | succ t =>
      have := ih (t := t) (by simpa using h)
      rw [tot_all, tot_all] at this
      simp only [List.set_cons_succ, List.map_cons, List.sum_cons]
      rw [this]; omega
theorem pos_set {ts : List (List Int)} {l : List Int} {x : Int} {t : Nat} (h : ts[t]? = some l) (t' p' : Nat) : posD (ts.set t (l ++ [x])) t' p' = if t' = t ∧ p' = l.length then some x else posD ts t' p' := by
  have hlt := (List.getElem?_eq_some_iff.1 h).1
  unfold posD
  by_cases ht : t' = t
  · subst ht
    rw [List.getElem?_set_self hlt, h]
    simp only [Option.bind_some, true_and]
    by_cases hp : p' < l.length
    · rw [List.getElem?_append_left hp, if_neg (by omega)]
    · rw [List.getElem?_append_right (by omega)]
      by_cases hp2 : p' = l.length
      · subst hp2; simp
      · rw [if_neg hp2, List.getElem?_eq_none (by simp; omega), List.getElem?_eq_none (by omega)]
  · rw [List.getElem?_set_ne (fun e => ht e.symm), if_neg (fun e => ht e.1)]
theorem TkOk.add {ts : List (List Int)} {n t : Nat} {l : List Int} (h : TkOk ts n) (hl : ts[t]? = some l) : TkOk (ts.set t (l ++ [(n : Int)])) (n + 1) where
  rg := fun t' p' i hi => by
    rw [pos_set hl] at hi
    split at hi
    · cases hi; omega
    · have := h.rg _ _ _ hi; omega
  inj := fun t1 p1 t2 p2 i h1 h2 => by
    rw [pos_set hl] at h1 h2
    split at h1
    · cases h1
      split at h2
      · omega
      · have := h.rg _ _ _ h2; omega
    · split at h2
      · cases h2
        have := h.rg _ _ _ h1; omega
      · exact h.inj _ _ _ _ _ h1 h2
  all := fun x hx => by
    by_cases hxn : x = n
    · subst hxn
      exact ⟨t, l.length, by rw [pos_set hl, if_pos ⟨rfl, rfl⟩]⟩
    · obtain ⟨t', p', h'⟩ := h.all x (by omega)
      refine ⟨t', p', ?_⟩
      rw [pos_set hl]
      split
      · rename_i hh
        obtain ⟨rfl, rfl⟩ := hh
        unfold posD at h'
        rw [hl] at h'
        simp at h'
      · exact h'
  tot := by rw [tot_set hl, h.tot]
theorem tk_nil (k : Nat) : TkOk (List.replicate k []) 0 where
  rg := fun t p i h => by
    unfold posD at h
    rw [List.getElem?_replicate] at h
    split at h <;> simp at h
  inj := fun t p t' p' i h => by
    unfold posD at h
    rw [List.getElem?_replicate] at h
    split at h <;> simp at h
  all := fun x hx => by omega
  tot := by rw [tot_all]; simp
/-! ### Made disorders -/
theorem mkI_ok {α : Type} {x : α} {n : Int} (h0 : 0 ≤ n) (h1 : n ≤ 4294967296) : mkI x n = some (List.replicate n.toNat x) := by
  unfold mkI; rw [if_pos (by constructor <;> assumption)]
theorem dis0 (N : Nat) (x6 : Int) (h6 : 0 ≤ x6 ∧ x6 ≤ 16) (d : Disorder) (ts : List (List Int)) : ∀ (k n : Nat) (hs : List Int), k < n → (hs.length : Int) + k = x6 → (∀ (i : Nat) (h : Int), hs[i]? = some h → h = i) →
    ∃ d' hs', yardgen_Disorder_0 N x6 n d hs ts = some (d', hs', ts) ∧ (hs'.length : Int) = x6 ∧ ∀ (i : Nat) (h : Int), hs'[i]? = some h → h = i
  | k, 0, hs, h, _, _ => by omega
  | 0, n + 1, hs, h, hl, hi => by
    unfold yardgen_Disorder_0
    rw [if_neg (by simp; omega)]
    exact ⟨_, hs, rfl, by omega, hi⟩
  | k + 1, n + 1, hs, h, hl, hi => by
    unfold yardgen_Disorder_0
    rw [if_pos (by simp; omega), appI_ok (by simp; omega), bind_some']
    obtain ⟨d', hs', g1, g2, g3⟩ := dis0 N x6 h6 (Disorder.mk [] [] []) ts k n (hs ++ [(hs.length : Int)]) (by omega) (by simp; omega) (fun i h' hh => by
      by_cases hlt : i < hs.length
      · rw [List.getElem?_append_left hlt] at hh; exact hi i h' hh
      · rw [List.getElem?_append_right (by omega)] at hh
        have := (List.getElem?_eq_some_iff.1 hh).1
        simp at this
        have : i = hs.length := by omega
        subst this
        simp at hh
        exact hh.symm)
    exact ⟨d', hs', g1, g2, g3⟩
theorem dis2 (N : Nat) (x5 x6 : Int) (h5 : 2 ≤ x5 ∧ x5 ≤ 5) (h6 : 0 ≤ x6 ∧ x6 ≤ x5) (ts : List (List Int)) : ∀ (k n i : Nat) (hs : List Int), k < n → (i : Int) + k = x6 → (hs.length : Int) = x6 → (∀ (j : Nat) (h : Int), hs[j]? = some h → h = if j < i then x5 - 1 - j else j) →
    ∃ hs', yardgen_Disorder_2 N x5 x6 n i hs ts = some (hs', ts) ∧ (hs'.length : Int) = x6 ∧ ∀ (j : Nat) (h : Int), hs'[j]? = some h → h = x5 - 1 - j
  | k, 0, i, hs, h, _, _, _ => by omega
  | 0, n + 1, i, hs, h, hk, hl, hi => by
    unfold yardgen_Disorder_2
    rw [if_neg (by simp; omega)]
    refine ⟨hs, rfl, hl, fun j h' hh => ?_⟩
    have := (List.getElem?_eq_some_iff.1 hh).1
    rw [hi j h' hh, if_pos (by omega)]
  | k + 1, n + 1, i, hs, h, hk, hl, hi => by
    unfold yardgen_Disorder_2
    have hlt : i < hs.length := by omega
    rw [if_pos (by simp; omega), getI_nat (at_lt hlt), bind_some', bind_some', lt_def, lt_def, w64s (by omega), w64 (n := x5 - 1) (by omega) (by omega), w64 (n := x5 - 1 - i) (by omega) (by omega)]
    refine dis2 N x5 x6 h5 h6 ts k n (i + 1) _ (by omega) (by omega) (by simp; omega) fun j h' hh => ?_
    rw [Int.toNat_natCast, List.getElem?_set] at hh
    by_cases hij : i = j
    · subst hij
      rw [if_pos rfl, if_pos hlt] at hh
      cases hh
      rw [if_pos (by omega)]
    · rw [if_neg hij] at hh
      rw [hi j h' hh]
      by_cases hj : j < i
      · rw [if_pos hj, if_pos (by omega)]
      · rw [if_neg hj, if_neg (by omega)]
/-- Homes of made disorders. -/
structure HmOk (hs : List Int) (nt : Nat) : Prop where
  len : 1 ≤ hs.length ∧ hs.length ≤ 3
  rg : ∀ h ∈ hs, 0 ≤ h ∧ h < nt
  nd : hs.Nodup
theorem hm_of {hs : List Int} {nt : Nat} (hl : 1 ≤ hs.length ∧ hs.length ≤ 3) (f : Nat → Int) (hf : ∀ (j : Nat) (h : Int), hs[j]? = some h → h = f j) (hr : ∀ j, j < hs.length → 0 ≤ f j ∧ f j < nt) (hi : ∀ i j, i < hs.length → j < hs.length → f i = f j → i = j) : HmOk hs nt where
  len := hl
  rg := fun h hh => by
    obtain ⟨j, hj, he⟩ := List.mem_iff_getElem.1 hh
    have := hf j h (by rw [List.getElem?_eq_getElem hj, he])
    rw [this]; exact hr j hj
  nd := List.pairwise_iff_getElem.2 fun i j hi' hj hij hh => by
    have h1 := hf i _ (at_lt hi')
    have h2 := hf j _ (at_lt hj)
    have := hi i j hi' hj (by rw [← h1, ← h2, hh])
    omega
structure DI (c : Int) (hs : List Int) (nt : Nat) (k : Maker) (its : List Item) (ts : List (List Int)) (bl : List Int) : Prop where
  mkr : Mk c k
  tk : TkOk ts its.length
  tl : ts.length = nt
  it : ∀ x ∈ its, 0 ≤ x.train ∧ x.train < hs.length ∧ 0 ≤ x.block ∧ x.block < 32 ∧ x.round = 0 ∧ 1 ≤ x.length ∧ x.length ≤ 400
  bll : bl.length = hs.length
  br : ∀ b ∈ bl, 0 ≤ b ∧ b ≤ 31
theorem mem_set {α : Type} {l : List α} {i : Nat} {a b : α} (h : b ∈ l.set i a) : b = a ∨ b ∈ l := by
  have := List.mem_or_eq_of_mem_set h
  exact this.symm
theorem dis3 (N : Nat) {hs : List Int} {nt : Nat} (hH : HmOk hs nt) (hnt : 2 ≤ nt ∧ nt ≤ 5) (x9 : Int) : ∀ (k n : Nat) (c : Int) (kk : Maker) (d : Disorder) (bl : List Int) (its : List Item) (ts : List (List Int)), k < n → c + 8 * k ≤ 1000 → its.length + k ≤ 96 → DI c hs nt kk its ts bl →
    ∃ kk' d' its' ts', yardgen_Disorder_3 N nt hs.length x9 hs n kk d bl k its ts = some (kk', d', its', ts') ∧ Mk 1000 kk' ∧ TkOk ts' its'.length ∧ ts'.length = nt ∧ its'.length ≤ its.length + k ∧ ∀ x ∈ its', 0 ≤ x.train ∧ x.train < hs.length ∧ 0 ≤ x.block ∧ x.block < 32 ∧ x.round = 0 ∧ 1 ≤ x.length ∧ x.length ≤ 400
  | k, 0, c, kk, d, bl, its, ts, h, _, _, _ => by omega
  | 0, n + 1, c, kk, d, bl, its, ts, h, hc, hi, hD => by
    unfold yardgen_Disorder_3
    rw [if_neg (by simp)]
    exact ⟨kk, _, its, ts, rfl, hD.mkr.le (by omega), hD.tk, hD.tl, by omega, hD.it⟩
  | k + 1, n + 1, c, kk, d, bl, its, ts, h, hc, hi, hD => by
    unfold yardgen_Disorder_3
    rw [if_pos (by simp)]
    obtain ⟨t1, k1, e1, b1, b2, m1⟩ := next_ok N (hs.length : Int) (by have := hH.len; omega) (by have := hH.len; omega) hD.mkr (by omega)
    rw [e1, bind_some']
    obtain ⟨t2, k2, e2, c1, c2, m2⟩ := next_ok N 4 (by omega) (by omega) m1 (by omega)
    simp only [e2, bind_some']
    obtain ⟨t3, k3, e3, d1, m3⟩ := pick_ok N [80, 142, 262] (by simp) (by simp) m2 (by omega)
    simp only [e3, bind_some']
    obtain ⟨j1, rfl⟩ := Int.eq_ofNat_of_zero_le b1
    have hj1 : j1 < hs.length := by omega
    have hb1 : j1 < bl.length := by rw [hD.bll]; exact hj1
    have hhome := hH.rg _ (List.getElem_mem hj1)
    rw [getI_nat (at_lt hj1), bind_some', bind_some']
    have p4 : ∃ k4 b4, yardgen_Disorder_4 N k3 x9 = some (k4, b4) ∧ Mk (c + 4) k4 := by
      unfold yardgen_Disorder_4
      split
      · obtain ⟨t, k', e, _, _, m⟩ := next_ok N 5 (by omega) (by omega) m3 (by omega)
        rw [e, bind_some']
        exact ⟨_, _, rfl, m.le (by omega)⟩
      · exact ⟨_, _, rfl, m3.le (by omega)⟩
    obtain ⟨k4, b4, e4, m4⟩ := p4
    simp only [e4, bind_some']
    have hlen : 1 ≤ t3 ∧ t3 ≤ 400 := by simp at d1; omega
    have p5 : ∃ k5 bl5 it5, yardgen_Disorder_5 N k4 bl (j1 : Int) (Item.mk j1 t2 0 t3) b4 = some (k5, bl5, it5) ∧ Mk (c + 5) k5 ∧ bl5.length = hs.length ∧ (∀ b ∈ bl5, 0 ≤ b ∧ b ≤ 31) ∧ (0 ≤ it5.train ∧ it5.train < hs.length ∧ 0 ≤ it5.block ∧ it5.block < 32 ∧ it5.round = 0 ∧ 1 ≤ it5.length ∧ it5.length ≤ 400) := by
      unfold yardgen_Disorder_5
      split
      · have hb := hD.br _ (List.getElem_mem hb1)
        rw [getI_nat (at_lt hb1), bind_some', bind_some']
        obtain ⟨t, k', e, q1, q2, m⟩ := next_ok N 2 (by omega) (by omega) m4 (by omega)
        simp only [e, bind_some', lt_def]
        have hw : IntKind.wrap .i64 (bl[j1] + t) = bl[j1] + t := w64 (by omega) (by omega)
        rw [hw]
        refine ⟨_, _, _, rfl, m.le (by omega), by simp [hD.bll], fun b hb' => ?_, ?_⟩
        · rcases mem_set hb' with rfl | hb'
          · omega
          · exact hD.br b hb'
        · simp only
          refine ⟨by omega, by omega, by omega, by omega, trivial, hlen⟩
      · exact ⟨_, _, _, rfl, m4.le (by omega), hD.bll, hD.br, by simp only; exact ⟨by omega, by omega, by omega, by omega, trivial, hlen⟩⟩
    obtain ⟨k5, bl5, it5, e5, m5, l5, r5, v5⟩ := p5
    simp only [e5, bind_some']
    have p6 : ∃ k6 b6, yardgen_Disorder_6 N k5 x9 = some (k6, b6) ∧ Mk (c + 6) k6 := by
      unfold yardgen_Disorder_6
      split
      · obtain ⟨t, k', e, _, _, m⟩ := next_ok N 4 (by omega) (by omega) m5 (by omega)
        rw [e, bind_some']
        exact ⟨_, _, rfl, m.le (by omega)⟩
      · exact ⟨_, _, rfl, m5.le (by omega)⟩
    obtain ⟨k6, b6, e6, m6⟩ := p6
    simp only [e6, bind_some']
    have p7 : ∃ k7 on, yardgen_Disorder_7 N k6 (nt : Int) hs[j1] b6 = some (k7, on) ∧ Mk (c + 7) k7 ∧ 0 ≤ on ∧ on < nt := by
      unfold yardgen_Disorder_7
      split
      · obtain ⟨t, k', e, q1, q2, m⟩ := next_ok N (nt : Int) (by omega) (by omega) m6 (by omega)
        rw [e, bind_some']
        exact ⟨_, _, rfl, m.le (by omega), q1, q2⟩
      · exact ⟨_, _, rfl, m6.le (by omega), hhome⟩
    obtain ⟨k7, on, e7, m7, o1, o2⟩ := p7
    simp only [e7, bind_some']
    obtain ⟨j2, rfl⟩ := Int.eq_ofNat_of_zero_le o1
    have hj2 : j2 < ts.length := by rw [hD.tl]; omega
    have hl2 := at_lt hj2
    have hlen2 : (ts[j2]).length ≤ 96 := by
      have h1 := tot_succ hl2
      have h2 := tot_le (ts := ts) (ts.length - (j2 + 1)) (j2 + 1)
      rw [show j2 + 1 + (ts.length - (j2 + 1)) = ts.length by omega, hD.tk.tot] at h2
      omega
    rw [getI_nat hl2, bind_some', bind_some', appI_ok (by simp; omega), bind_some', bind_some', if_pos trivial, bind_some', appI_ok (by simp; omega), bind_some', lt_def, w64p (by omega), Int.toNat_natCast]
    obtain ⟨kk', d', its', ts', g1, g2, g3, g4, g5, g6⟩ := dis3 N hH hnt x9 k n (c + 8) k7 (Disorder.mk [] [] []) bl5 (its ++ [it5]) (ts.set j2 (ts[j2] ++ [(its.length : Int)])) (by omega) (by omega) (by simp; omega)
      ⟨m7.le (by omega), by rw [List.length_append]; exact hD.tk.add hl2, by simp [hD.tl], fun x hx => by
        rcases List.mem_append.1 hx with hx | hx
        · exact hD.it x hx
        · simp at hx; subst hx; exact v5, l5, r5⟩
    exact ⟨kk', d', its', ts', g1, g2, g3, g4, by simp at g5; omega, g6⟩
theorem made_dis (N : Nat) (hN : 100 ≤ N) {s : Maker} (hs : Mk 0 s) (n : Int) (hn : 0 ≤ n ∧ n ≤ 90) : ∃ d s', yardgen_Disorder N s n = some (d, s') ∧ DOk d ∧ Mk 1000 s' ∧ (d.items.length : Int) ≤ n ∧ 1 ≤ d.homes.length ∧ 1 ≤ d.tracks.length := by
  unfold yardgen_Disorder
  obtain ⟨r1, k1, e1, a1, a2, m1⟩ := next_ok N 4 (by omega) (by omega) hs (by omega)
  rw [e1, bind_some', lt_def]
  simp only
  rw [w64 (n := 2 + r1) (by omega) (by omega), mkI_ok (by omega) (by omega), bind_some']
  obtain ⟨r2, k2, e2, b1, b2, m2⟩ := next_ok N (min 3 (2 + r1)) (by omega) (by omega) m1 (by omega)
  rw [e2, bind_some', lt_def]
  simp only
  rw [w64 (n := 1 + r2) (by omega) (by omega)]
  obtain ⟨d0, hs0, f1, f2, f3⟩ := dis0 N (1 + r2) (by omega) (Disorder.mk [] [] []) (List.replicate (2 + r1).toNat []) (1 + r2).toNat N [] (by omega) (by simp; omega) (by simp)
  rw [f1, bind_some']
  obtain ⟨r3, k3, e3, c1, c2, m3⟩ := next_ok N 2 (by omega) (by omega) m2 (by omega)
  simp only [e3, bind_some']
  obtain ⟨nt, hnt⟩ := Int.eq_ofNat_of_zero_le (show 0 ≤ 2 + r1 by omega)
  have p1 : ∃ hs1, yardgen_Disorder_1 N (2 + r1) (1 + r2) (r3 == 0) hs0 (List.replicate (2 + r1).toNat []) = some (hs1, List.replicate (2 + r1).toNat []) ∧ (hs1.length : Int) = 1 + r2 ∧ HmOk hs1 nt := by
    unfold yardgen_Disorder_1
    split
    · obtain ⟨hs', g1, g2, g3⟩ := dis2 N (2 + r1) (1 + r2) (by omega) (by omega) (List.replicate (2 + r1).toNat []) (1 + r2).toNat N 0 hs0 (by omega) (by omega) f2 (fun j h hh => by rw [if_neg (by omega)]; exact f3 j h hh)
      have g1 : yardgen_Disorder_2 N (2 + r1) (1 + r2) N 0 hs0 (List.replicate (2 + r1).toNat []) = _ := g1
      rw [g1, bind_some']
      exact ⟨hs', rfl, g2, hm_of (by omega) _ g3 (fun j hj => by omega) (fun i j _ _ h => by omega)⟩
    · exact ⟨hs0, rfl, f2, hm_of (by omega) (fun j => j) f3 (fun j hj => by omega) (fun i j _ _ h => by omega)⟩
  obtain ⟨hs1, q1, q2, hH⟩ := p1
  rw [q1, bind_some']
  obtain ⟨r4, k4, e4, _, _, m4⟩ := next_ok N 3 (by omega) (by omega) m3 (by omega)
  simp only [e4, bind_some']
  rw [mkI_ok (by omega) (by omega), bind_some', w64 (n := n + 1) (by omega) (by omega)]
  obtain ⟨r5, k5, e5, i1, i2, m5⟩ := next_ok N (n + 1) (by omega) (by omega) m4 (by omega)
  simp only [e5, bind_some']
  obtain ⟨j5, rfl⟩ := Int.eq_ofNat_of_zero_le i1
  obtain ⟨kk', d', its', ts', g1, g2, g3, g4, g5, g6⟩ := dis3 N hH (by omega) r4 j5 N (0 + 1 + 1 + 1 + 1 + 1) k5 (Disorder.mk [] [] []) (List.replicate (1 + r2).toNat 0) [] (List.replicate (2 + r1).toNat []) (by omega) (by omega) (by simp; omega)
    ⟨m5, tk_nil _, by simp; omega, by simp, by simp; omega, fun b hb => by have := List.eq_of_mem_replicate hb; omega⟩
  rw [hnt, ← q2] at g1
  rw [hnt, ← q2, g1, bind_some']
  refine ⟨_, _, rfl, ⟨by simp at g5 ⊢; omega, by have := hH.len; simp; omega, by simp; omega, fun h hh => ?_, hH.nd, g6, ?_⟩, g2, by simp at g5 ⊢; omega, hH.len.1, by simp; omega⟩
  · have := hH.rg h hh; simp; omega
  · simpa using g3
end Go.W
end
section
set_option linter.unusedVariables false
set_option linter.unusedSimpArgs false
namespace Go.W
open Go.AM
theorem idx_ok (N : Nat) (xs : List Int) (v : Int) (hN : xs.length < N) (hx : xs.length < 1000) : slices_Index_int_int N xs v = some (firstI (fun _ x => v == x) 0 xs) := by
  unfold slices_Index_int_int
  have h := first_gen (l := xs) (fun _ x => v == x) (fun i _ => (i : Int)) (slices_Index_int_int_0 N xs v (xs.length : Int)) (fun n => by unfold slices_Index_int_int_0; rw [if_neg (by simp)]) (fun n i x hx' => by
    have hi := (List.getElem?_eq_some_iff.1 hx').1
    rw [slices_Index_int_int_0, if_pos (by simp; omega), getI_nat hx', bind_some', w64s (by omega)]) xs.length N 0 hN (by omega)
  have h : slices_Index_int_int_0 N xs v (xs.length : Int) N 0 = _ := h
  rw [h, bind_some', List.drop_zero]
  rcases res_first (fun (_ : Nat) x => v == x) xs 0 with ⟨h1, h2⟩ | ⟨h1, h2⟩
  · rw [h1, h2]
  · rw [h1]
theorem con_ok (N : Nat) (xs : List Int) (v : Int) (hN : xs.length < N) (hx : xs.length < 1000) : slices_Contains_int_int N xs v = some (decide (v ∈ xs)) := by
  unfold slices_Contains_int_int
  rw [idx_ok N xs v hN hx, bind_some', lt_def]
  congr 1
  rcases firstI_spec (fun _ x => v == x) xs 0 with ⟨h1, h2⟩ | ⟨j, x, h1, h2, h3, h4⟩
  · rw [h1]
    symm
    rw [show (decide ((0 : Int) ≤ -1)) = false from rfl, decide_eq_false_iff_not]
    intro hm
    obtain ⟨j, hj, he⟩ := List.mem_iff_getElem.1 hm
    have := h2 j v (by rw [List.getElem?_eq_getElem hj, he])
    simp at this
  · rw [h1, decide_eq_true (by omega)]
    symm
    rw [decide_eq_true_iff]
    have : v = x := by simpa using h3
    rw [this]; exact List.mem_of_getElem? h2
/-! ### Where the items stand -/
structure AtOk (d : Disorder) (at' : List Spot) : Prop where
  len : at'.length = d.items.length
  ps : ∀ (t p x : Nat), posD d.tracks t p = some (x : Int) → at'[x]? = some (Spot.mk t p)
structure SpI (ts : List (List Int)) (n t j : Nat) (at' : List Spot) (seen : List Bool) : Prop where
  l1 : at'.length = n
  l2 : seen.length = n
  ps : ∀ (t' p x : Nat), posD ts t' p = some (x : Int) → (t' < t ∨ (t' = t ∧ p < j)) → at'[x]? = some (Spot.mk t' p)
  sn : ∀ (x : Nat), seen[x]? = some true → ∃ t' p, posD ts t' p = some (x : Int) ∧ (t' < t ∨ (t' = t ∧ p < j))
theorem SpI.step {ts : List (List Int)} {n t j : Nat} {at' : List Spot} {seen : List Bool} (h : SpI ts n t j at' seen) (hT : TkOk ts n) {x : Nat} (hx : posD ts t j = some (x : Int)) : seen[x]? = some false ∧ SpI ts n t (j + 1) (at'.set x (Spot.mk t j)) (seen.set x true) := by
  have hr := hT.rg _ _ _ hx
  have hxn : x < seen.length := by rw [h.l2]; omega
  refine ⟨?_, ⟨by simp [h.l1], by simp [h.l2], fun t' p y hy hlt => ?_, fun y hy => ?_⟩⟩
  · rw [at_lt hxn]
    cases hs : seen[x] with
    | false => rfl
    | true =>
      obtain ⟨t', p, h1, h2⟩ := h.sn x (by rw [at_lt hxn, hs])
      have := hT.inj _ _ _ _ _ hx h1
      omega
  · rw [List.getElem?_set]
    by_cases hxy : x = y
    · subst hxy
      obtain ⟨rfl, rfl⟩ := hT.inj _ _ _ _ _ hx hy
      rw [if_pos rfl, if_pos (by rw [h.l1]; omega)]
    · rw [if_neg hxy]
      refine h.ps t' p y hy ?_
      rcases hlt with hlt | ⟨rfl, hlt⟩
      · exact .inl hlt
      · by_cases hpj : p = j
        · subst hpj; rw [hx] at hy; cases hy; exact absurd rfl hxy
        · exact .inr ⟨rfl, by omega⟩
  · rw [List.getElem?_set] at hy
    by_cases hxy : x = y
    · subst hxy
      exact ⟨t, j, hx, .inr ⟨rfl, by omega⟩⟩
    · rw [if_neg hxy] at hy
      obtain ⟨t', p, h1, h2⟩ := h.sn y hy
      exact ⟨t', p, h1, by omega⟩
theorem spots1 (N : Nat) {ts : List (List Int)} {n t : Nat} {l : List Int} (hT : TkOk ts n) (hl : ts[t]? = some l) (hn : n ≤ 1000) (hll : l.length ≤ 1000) : ∀ (k m j : Nat) (at' : List Spot) (seen : List Bool) (c : Nat), k < m → j + k = l.length → c + k ≤ 1000 → SpI ts n t j at' seen →
    ∃ at2 seen2, repair_spots_1 N (t : Int) l (l.length : Int) m at' seen (c : Int) (j : Int) = some (.inl (at2, seen2, ((c + k : Nat) : Int))) ∧ SpI ts n t l.length at2 seen2
  | k, 0, j, at', seen, c, h, _, _, _ => by omega
  | 0, m + 1, j, at', seen, c, h, hj, hc, hI => by
    unfold repair_spots_1
    rw [if_neg (by simp; omega)]
    exact ⟨at', seen, rfl, by rw [show l.length = j by omega]; exact hI⟩
  | k + 1, m + 1, j, at', seen, c, h, hj, hc, hI => by
    unfold repair_spots_1
    have hlt : j < l.length := by omega
    have hp : posD ts t j = some l[j] := by unfold posD; rw [hl]; exact at_lt hlt
    obtain ⟨r0, r1⟩ := hT.rg _ _ _ hp
    obtain ⟨x, hx⟩ := Int.eq_ofNat_of_zero_le r0
    rw [hx] at hp r1
    obtain ⟨s1, s2⟩ := hI.step hT hp
    have hxa : x < at'.length := by rw [hI.l1]; omega
    have h2 : repair_spots_2 N at' seen (x : Int) = some false := by
      unfold repair_spots_2
      rw [if_neg (by simp), if_neg (by simp; omega), getI_nat s1, bind_some', bind_some']
    rw [if_pos (by simp; omega), getI_nat (at_lt hlt), bind_some', hx, h2, bind_some', if_neg (by simp), getI_nat (at_lt hxa), bind_some', bind_some', lt_def, getI_nat s1, bind_some', bind_some', lt_def, lt_def, Int.toNat_natCast, w64s (by omega), w64s (by omega)]
    obtain ⟨a2, b2, g1, g2⟩ := spots1 N hT hl hn hll k m (j + 1) _ _ (c + 1) (by omega) (by omega) (by omega) s2
    exact ⟨a2, b2, by rw [g1, show c + 1 + k = c + (k + 1) by omega], g2⟩
theorem SpI.next {ts : List (List Int)} {n t : Nat} {l : List Int} {at' : List Spot} {seen : List Bool} (hl : ts[t]? = some l) (h : SpI ts n t l.length at' seen) : SpI ts n (t + 1) 0 at' seen where
  l1 := h.l1
  l2 := h.l2
  ps := fun t' p x hx hlt => by
    refine h.ps t' p x hx ?_
    rcases hlt with hlt | hlt
    · by_cases ht : t' = t
      · subst ht
        refine .inr ⟨rfl, ?_⟩
        unfold posD at hx
        rw [hl] at hx
        exact (List.getElem?_eq_some_iff.1 hx).1
      · exact .inl (by omega)
    · omega
  sn := fun x hx => by
    obtain ⟨t', p, h1, h2⟩ := h.sn x hx
    exact ⟨t', p, h1, by omega⟩
theorem spots0 (N : Nat) {ts : List (List Int)} {n : Nat} (hN : n < N) (hT : TkOk ts n) (hn : n ≤ 1000) (hts : ts.length < 1000) : ∀ (k m t : Nat) (at' : List Spot) (seen : List Bool), k < m → t + k = ts.length → SpI ts n t 0 at' seen →
    ∃ at2 seen2, repair_spots_0 N ts (ts.length : Int) m at' seen (totD ts t : Int) (t : Int) = some (.inl (at2, (totD ts ts.length : Int))) ∧ SpI ts n ts.length 0 at2 seen2
  | k, 0, t, at', seen, h, _, _ => by omega
  | 0, m + 1, t, at', seen, h, ht, hI => by
    unfold repair_spots_0
    obtain rfl : t = ts.length := by omega
    rw [if_neg (by simp)]
    exact ⟨at', seen, rfl, hI⟩
  | k + 1, m + 1, t, at', seen, h, ht, hI => by
    unfold repair_spots_0
    have hlt : t < ts.length := by omega
    have hl := at_lt hlt
    have htot := tot_succ hl
    have hle := tot_le (ts := ts) (ts.length - (t + 1)) (t + 1)
    rw [show t + 1 + (ts.length - (t + 1)) = ts.length by omega, hT.tot] at hle
    rw [if_pos (by simp; omega), getI_nat hl, bind_some']
    obtain ⟨a2, b2, g1, g2⟩ := spots1 N hT hl hn (by omega) ts[t].length N 0 at' seen (totD ts t) (by omega) (by omega) (by omega) hI
    have g1 : repair_spots_1 N (t : Int) ts[t] (ts[t].length : Int) N at' seen (totD ts t : Int) 0 = _ := g1
    rw [g1, bind_some']
    simp only
    rw [w64s (by omega), ← htot]
    exact spots0 N hN hT hn hts k m (t + 1) a2 b2 (by omega) (by omega) (g2.next hl)
theorem spots_ok (N : Nat) (hN : 200 ≤ N) {d : Disorder} (hT : TkOk d.tracks d.items.length) (hn : d.items.length ≤ 96) (ht : d.tracks.length ≤ 100) : ∃ at', repair_spots N d = some (at', true) ∧ AtOk d at' := by
  unfold repair_spots
  rw [mkI_ok (by omega) (by omega), bind_some', mkI_ok (by omega) (by omega), bind_some']
  obtain ⟨a2, b2, g1, g2⟩ := spots0 N (by omega) hT (by omega) (by omega) d.tracks.length N 0 (List.replicate (d.items.length : Int).toNat (Spot.mk 0 0)) (List.replicate (d.items.length : Int).toNat false) (by omega) (by omega)
    ⟨by simp, by simp, fun t' p x _ h => by omega, fun x hx => by
      rw [List.getElem?_replicate] at hx
      split at hx <;> simp at hx⟩
  have h0 : totD d.tracks 0 = 0 := by simp [totD]
  rw [h0] at g1
  have g1 : repair_spots_0 N d.tracks (d.tracks.length : Int) N (List.replicate (d.items.length : Int).toNat (Spot.mk 0 0)) (List.replicate (d.items.length : Int).toNat false) 0 0 = _ := g1
  rw [g1, bind_some', hT.tot]
  simp only
  rw [lt_def, g2.l1]
  refine ⟨a2, by simp, g2.l1, fun t p x hx => g2.ps t p x hx (.inl ?_)⟩
  unfold posD at hx
  cases h : d.tracks[t]? with
  | none => rw [h] at hx; cases hx
  | some l => exact (List.getElem?_eq_some_iff.1 h).1
/-! ### The check -/
theorem valid_ok (N : Nat) (hN : 200 ≤ N) {d : Disorder} (hD : DOk d) : repair_Valid N d = some true := by
  unfold repair_Valid
  have h0 : repair_Valid_0 N d = some false := by
    unfold repair_Valid_0
    have := hD.li; have := hD.lh; have := hD.lt
    rw [if_neg (by simp; omega), if_neg (by simp; omega)]
    simp; omega
  have h1 := first_gen (l := d.homes) (fun _ _ => false) (fun _ _ => false) (repair_Valid_1 N d d.homes (d.homes.length : Int)) (fun n => by unfold repair_Valid_1; rw [if_neg (by simp)]) (fun n i x hx => by
    have hi := (List.getElem?_eq_some_iff.1 hx).1
    have hlh := hD.lh
    have hr := hD.hm x (List.mem_of_getElem? hx)
    have h2 : repair_Valid_2 N d (i : Int) x = some false := by
      unfold repair_Valid_2
      rw [if_neg (by simp; omega), if_neg (by simp; omega), cutI_take (by omega), bind_some', con_ok N _ _ (by simp; omega) (by simp; omega), bind_some']
      congr 1
      rw [decide_eq_false_iff_not]
      intro hm
      obtain ⟨j, hj, he⟩ := List.mem_iff_getElem.1 hm
      rw [List.getElem_take] at he
      rw [List.length_take] at hj
      have hx' := (List.getElem?_eq_some_iff.1 hx).2
      have := (List.pairwise_iff_getElem.1 hD.hd) j i (by omega) hi (by omega)
      exact this (he.trans hx'.symm)
    rw [repair_Valid_1, if_pos (by simp; omega), getI_nat hx, bind_some', h2, bind_some', if_neg (by simp), if_neg (by simp), w64s (by omega)]) d.homes.length N 0 (by have := hD.lh; omega) (by omega)
  have hres : ∀ {α β : Type} (o : Nat → α → β) (i : Nat) (l : List α), res (fun _ _ => false) o i l = .inl () := by
    intro α β o i l
    induction l generalizing i with
    | nil => rfl
    | cons x l ih => rw [res, if_neg (by simp), ih]
  have h1 : repair_Valid_1 N d d.homes (d.homes.length : Int) N 0 = _ := h1
  rw [hres] at h1
  have h3 := first_gen (l := d.items) (fun _ _ => false) (fun _ _ => false) (repair_Valid_3 N d d.items (d.items.length : Int)) (fun n => by unfold repair_Valid_3; rw [if_neg (by simp)]) (fun n i x hx => by
    have hi := (List.getElem?_eq_some_iff.1 hx).1
    have hli := hD.li
    have hr := hD.it x (List.mem_of_getElem? hx)
    have h4 : repair_Valid_4 N d x = some false := by
      unfold repair_Valid_4
      rw [if_neg (by simp; omega), if_neg (by simp; omega), if_neg (by simp; omega), if_neg (by simp; omega), if_neg (by simp [hr.2.2.2.2.1]), if_neg (by simp; omega)]
      simp; omega
    rw [repair_Valid_3, if_pos (by simp; omega), getI_nat hx, bind_some', h4, bind_some', if_neg (by simp), if_neg (by simp), w64s (by omega)]) d.items.length N 0 (by have := hD.li; omega) (by omega)
  have h3 : repair_Valid_3 N d d.items (d.items.length : Int) N 0 = _ := h3
  rw [hres] at h3
  obtain ⟨a, ha, _⟩ := spots_ok N hN hD.tk hD.li (by have := hD.lt; omega)
  rw [h0, bind_some', if_neg (by simp), h1, bind_some']
  simp only
  rw [h3, bind_some']
  simp only
  rw [ha, bind_some']
/-! ### Nothing is pulled -/
theorem open0 (N : Nat) (n : Nat) (hn : n ≤ 1000) : ∀ (k m i : Nat) (rd : List Int), k < m → i + k = n → rd.length = n → (∀ j x, j < i → rd[j]? = some x → x = -1) → ∃ rd', repair_open_0 N (n : Int) m (i : Int) rd = some rd' ∧ rd' = List.replicate n (-1)
  | k, 0, i, rd, h, _, _, _ => by omega
  | 0, m + 1, i, rd, h, hi, hl, hr => by
    unfold repair_open_0
    obtain rfl : i = n := by omega
    rw [if_neg (by simp)]
    refine ⟨rd, rfl, List.ext_getElem (by simp [hl]) fun j h1 h2 => ?_⟩
    rw [List.getElem_replicate]
    exact hr j _ (by omega) (at_lt h1)
  | k + 1, m + 1, i, rd, h, hi, hl, hr => by
    unfold repair_open_0
    have hlt : i < rd.length := by omega
    rw [if_pos (by simp; omega), getI_nat (at_lt hlt), bind_some', bind_some', lt_def, Int.toNat_natCast, w64s (by omega)]
    refine open0 N n hn k m (i + 1) _ (by omega) (by omega) (by simp [hl]) fun j x hj hx => ?_
    rw [List.getElem?_set] at hx
    by_cases hij : i = j
    · rw [if_pos hij, if_pos (by omega)] at hx
      cases hx; rfl
    · rw [if_neg hij] at hx
      exact hr j x (by omega) hx
theorem open_ok (N : Nat) (hN : 200 ≤ N) {d : Disorder} (hD : DOk d) : ∃ at', repair_open N d = some (Scene.mk d [] [], at', List.replicate d.items.length (-1)) ∧ AtOk d at' := by
  unfold repair_open
  have hli := hD.li
  obtain ⟨a, ha, hA⟩ := spots_ok N hN hD.tk hD.li (by have := hD.lt; omega)
  rw [mkI_ok (by omega) (by omega), bind_some', ha, bind_some']
  obtain ⟨rd, h1, h2⟩ := open0 N d.items.length (by omega) d.items.length N 0 (List.replicate (d.items.length : Int).toNat 0) (by omega) (by omega) (by simp) (fun j x hj => by omega)
  have h1 : repair_open_0 N (d.items.length : Int) N 0 (List.replicate (d.items.length : Int).toNat 0) = _ := h1
  simp only [List.length_replicate, Int.toNat_natCast] at h1 ⊢
  rw [h1, bind_some', h2]
  exact ⟨a, rfl, hA⟩
end Go.W
end
section
set_option linter.unusedVariables false
set_option linter.unusedSimpArgs false
namespace Go.W
open Go.AM
def itm (d : Disorder) (x : Nat) : Item := (d.items[x]?).getD (Item.mk 0 0 0 0)
def atx (a : List Spot) (x : Nat) : Spot := (a[x]?).getD (Spot.mk 0 0)
def hmx (d : Disorder) (x : Nat) : Int := (d.homes[(itm d x).train.toNat]?).getD 0
def homeB (d : Disorder) (a : List Spot) (x : Nat) : Bool := (atx a x).track == hmx d x
def ahB (d : Disorder) (y x : Nat) : Bool := (itm d y).train == (itm d x).train && decide ((itm d y).block < (itm d x).block)
def neB (a : List Spot) (x y : Nat) : Bool := (atx a x).track == (atx a y).track && decide ((atx a y).place < (atx a x).place)
def rdx (rd : List Int) (y : Nat) : Int := (rd[y]?).getD (-1)
def puB (rd : Nat → Int) (y : Nat) (n : Int) : Bool := decide (0 ≤ rd y) && decide (rd y < n)
/-- Is a pull justified? -/
def juB (d : Disorder) (a : List Spot) (rd : Nat → Int) (x : Nat) (r y n : Int) : Bool :=
  if r = 1 then y == -1 && !homeB d a x
  else if y < 0 ∨ (d.items.length : Int) ≤ y then false
  else if r = 3 ∧ n = 0 then homeB d a x && (ahB d y.toNat x && neB a y.toNat x)
  else if r = 3 then ahB d y.toNat x && puB rd y.toNat n
  else if r = 2 then neB a x y.toNat && puB rd y.toNat n
  else false
structure Sc (d : Disorder) (a : List Spot) (rd : List Int) : Prop where
  ok : DOk d
  at' : AtOk d a
  rl : rd.length = d.items.length
section
variable {d : Disorder} {a : List Spot} {rd : List Int} (hS : Sc d a rd) (N : Nat)
theorem itm_at {x : Nat} (hx : x < d.items.length) : getI d.items (x : Int) = some (itm d x) := by
  rw [getI_nat (at_lt hx)]; unfold itm; rw [at_lt hx]; rfl
theorem itm_mem {x : Nat} (hx : x < d.items.length) : itm d x ∈ d.items := by
  unfold itm; rw [at_lt hx]; exact List.getElem_mem hx
include hS
theorem atx_at {x : Nat} (hx : x < d.items.length) : getI a (x : Int) = some (atx a x) := by
  have hx : x < a.length := by rw [hS.at'.len]; exact hx
  rw [getI_nat (at_lt hx)]; unfold atx; rw [at_lt hx]; rfl
theorem rdx_at {x : Nat} (hx : x < d.items.length) : getI rd (x : Int) = some (rdx rd x) := by
  have hx : x < rd.length := by rw [hS.rl]; exact hx
  rw [getI_nat (at_lt hx)]; unfold rdx; rw [at_lt hx]; rfl
theorem hmx_at {x : Nat} (hx : x < d.items.length) : getI d.homes (itm d x).train = some (hmx d x) := by
  have h := hS.ok.it _ (itm_mem hx)
  obtain ⟨j, hj⟩ := Int.eq_ofNat_of_zero_le h.1
  have hlt : j < d.homes.length := by omega
  unfold hmx
  rw [hj, getI_nat (at_lt hlt), Int.toNat_natCast, at_lt hlt]; rfl
theorem home_ok {x : Nat} (hx : x < d.items.length) : scene_home N (Scene.mk d a rd) (x : Int) = some (homeB d a x) := by
  unfold scene_home
  rw [atx_at hS hx, bind_some', itm_at hx, bind_some', hmx_at hS hx, bind_some', lt_def]; rfl
theorem ahead_ok {x y : Nat} (hx : x < d.items.length) (hy : y < d.items.length) : scene_ahead N (Scene.mk d a rd) (y : Int) (x : Int) = some (ahB d y x) := by
  have := hS.rl
  unfold scene_ahead scene_ahead_0
  rw [itm_at hx, itm_at hy, bind_some', bind_some']
  unfold ahB
  by_cases h : (itm d y).train = (itm d x).train
  · rw [if_pos (by simpa using h), bind_some', bind_some', lt_def, bind_some', h]; simp
  · rw [if_neg (by simpa using h), bind_some']; simp [h]
theorem near_ok {x y : Nat} (hx : x < d.items.length) (hy : y < d.items.length) : scene_nearer N (Scene.mk d a rd) (x : Int) (y : Int) = some (neB a x y) := by
  unfold scene_nearer scene_nearer_0
  rw [atx_at hS hx, atx_at hS hy, bind_some', bind_some']
  unfold neB
  by_cases h : (atx a x).track = (atx a y).track
  · rw [if_pos (by simpa using h), bind_some', bind_some', lt_def, bind_some', h]; simp
  · rw [if_neg (by simpa using h), bind_some']; simp [h]
theorem pul_ok {y : Nat} (hy : y < d.items.length) (n : Int) : scene_pulled N (Scene.mk d a rd) (y : Int) n = some (puB (rdx rd) y n) := by
  unfold scene_pulled scene_pulled_0
  rw [rdx_at hS hy, bind_some']
  unfold puB
  by_cases h : 0 ≤ rdx rd y
  · rw [if_pos (by simpa using h), bind_some', lt_def, bind_some']; simp [h]
  · rw [if_neg (by simpa using h), bind_some']; simp [h]
theorem just_ok {x : Nat} (hx : x < d.items.length) (r y n : Int) : scene_justifies N (Scene.mk d a rd) (x : Int) r y n = some (juB d a (rdx rd) x r y n) := by
  unfold scene_justifies juB
  by_cases h1 : r = 1
  · rw [if_pos (by simpa using h1), if_pos h1]
    unfold scene_justifies_0
    by_cases h2 : y = -1
    · rw [if_pos (by simpa using h2), home_ok hS N hx, bind_some', lt_def, bind_some']; simp [h2]
    · rw [if_neg (by simpa using h2), bind_some']; simp [h2]
  · rw [if_neg (by simpa using h1), if_neg h1]
    by_cases h2 : y < 0 ∨ (d.items.length : Int) ≤ y
    · have : scene_justifies_1 N (Scene.mk d a rd) y = some true := by
        unfold scene_justifies_1
        by_cases h3 : y < 0
        · rw [if_pos (by simpa using h3)]
        · rw [if_neg (by simpa using h3)]; simp; omega
      rw [this, bind_some', if_pos rfl, if_pos h2]
    · have : scene_justifies_1 N (Scene.mk d a rd) y = some false := by
        unfold scene_justifies_1
        rw [if_neg (by simp; omega)]; simp; omega
      rw [this, bind_some', if_neg (by simp), if_neg h2]
      obtain ⟨j, rfl⟩ := Int.eq_ofNat_of_zero_le (show 0 ≤ y by omega)
      have hj : j < d.items.length := by omega
      rw [Int.toNat_natCast]
      by_cases h3 : r = 3
      · subst h3
        by_cases h4 : n = 0
        · subst h4
          have : scene_justifies_2 N 3 0 = some true := rfl
          rw [this, bind_some', if_pos rfl, if_pos ⟨rfl, rfl⟩]
          unfold scene_justifies_3
          rw [home_ok hS N hx, bind_some']
          cases hb : homeB d a x with
          | false => rw [if_neg (by simp), bind_some']; simp
          | true =>
            rw [if_pos rfl, ahead_ok hS N hx hj, bind_some']
            cases hc : ahB d j x with
            | false => rw [if_neg (by simp), bind_some']; simp
            | true => rw [if_pos rfl, near_ok hS N hj hx, bind_some', bind_some']; simp
        · have : scene_justifies_2 N 3 n = some false := by
            unfold scene_justifies_2
            rw [if_pos (by simp), lt_def]; simp [h4]
          rw [this, bind_some', if_neg (by simp), lt_def, if_pos (show ((3 : Int) == 3) = true from rfl), if_neg (fun hh : (3 : Int) = 3 ∧ n = 0 => h4 hh.2), if_pos rfl]
          unfold scene_justifies_4
          rw [ahead_ok hS N hx hj, bind_some']
          cases hc : ahB d j x with
          | false => rw [if_neg (by simp), bind_some']; simp
          | true => rw [if_pos rfl, pul_ok hS N hj, bind_some', bind_some']; simp
      · have : scene_justifies_2 N r n = some false := by
          unfold scene_justifies_2
          rw [if_neg (by simpa using h3)]
        rw [this, bind_some', if_neg (by simp), lt_def, if_neg (by simp [h3]), if_neg (by simp [h3]), if_neg h3, lt_def]
        by_cases h5 : r = 2
        · rw [if_pos (by simpa using h5), if_pos h5]
          unfold scene_justifies_5
          rw [near_ok hS N hx hj, bind_some']
          cases hc : neB a x j with
          | false => rw [if_neg (by simp), bind_some']; simp
          | true => rw [if_pos rfl, pul_ok hS N hj, bind_some', bind_some']; simp
        · rw [if_neg (by simpa using h5), if_neg h5]
end
/-- The first item that justifies a pull for a reason. -/
def lookR (d : Disorder) (a : List Spot) (rd : Nat → Int) (x : Nat) (n r : Int) : Option Pull :=
  match res (fun y (_ : Item) => juB d a rd x r y n) (fun y _ => Pull.mk x r y n) 0 d.items with
  | .inl _ => none
  | .inr p => some p
def whyF (d : Disorder) (a : List Spot) (rd : Nat → Int) (x : Nat) (n : Int) : Option Pull :=
  if n = 0 then (if homeB d a x = true then lookR d a rd x n 3 else some (Pull.mk x 1 (-1) 0))
  else match lookR d a rd x n 2 with
    | some p => some p
    | none => lookR d a rd x n 3
theorem why2 {d : Disorder} {a : List Spot} {rd : List Int} (hS : Sc d a rd) (N : Nat) {x : Nat} (hx : x < d.items.length) (n r : Int) (p0 : Pull) : ∀ (k m i : Nat), k < m → i + k = d.items.length →
    scene_why_2 N (Scene.mk d a rd) (x : Int) n r (d.items.length : Int) m p0 (i : Int) = some (match res (fun y (_ : Item) => juB d a (rdx rd) x r y n) (fun y _ => Pull.mk x r y n) i (d.items.drop i) with | .inl _ => .inl p0 | .inr p => .inr (p, true))
  | k, 0, i, h, _ => by omega
  | 0, m + 1, i, h, hi => by
    unfold scene_why_2
    rw [if_neg (by simp; omega), List.drop_of_length_le (by omega), res]
  | k + 1, m + 1, i, h, hi => by
    have hlt : i < d.items.length := by omega
    have hli := hS.ok.li
    rw [scene_why_2, if_pos (by simp; omega), just_ok hS N hx, bind_some', drop_at (at_lt hlt), res]
    split
    · rfl
    · rw [w64s (by omega)]
      exact why2 hS N hx n r p0 k m (i + 1) (by omega) (by omega)
theorem why_ok {d : Disorder} {a : List Spot} {rd : List Int} (hS : Sc d a rd) (N : Nat) (hN : 200 ≤ N) {x : Nat} (hx : x < d.items.length) (n : Int) :
    scene_why N (Scene.mk d a rd) (x : Int) n = some (match whyF d a (rdx rd) x n with | some p => (p, true) | none => (Pull.mk 0 0 0 0, false)) := by
  have hli := hS.ok.li
  have w2 : ∀ r p0, scene_why_2 N (Scene.mk d a rd) (x : Int) n r (d.items.length : Int) N p0 0 = some (match lookR d a (rdx rd) x n r with | none => .inl p0 | some p => .inr (p, true)) := by
    intro r p0
    have := why2 hS N hx n r p0 d.items.length N 0 (by omega) (by omega)
    have this : scene_why_2 N (Scene.mk d a rd) (x : Int) n r (d.items.length : Int) N p0 0 = _ := this
    rw [this, List.drop_zero]
    unfold lookR
    cases res (fun y (_ : Item) => juB d a (rdx rd) x r y n) (fun y _ => Pull.mk x r y n) 0 d.items <;> rfl
  have w1 : ∀ (p0 : Pull), scene_why_1 N (Scene.mk d a rd) (x : Int) n [3] 1 N p0 0 = some (match lookR d a (rdx rd) x n 3 with | none => .inl p0 | some p => .inr (p, true)) := by
    intro p0
    obtain ⟨M, rfl⟩ : ∃ M, N = M + 2 := ⟨N - 2, by omega⟩
    rw [scene_why_1, if_pos (by simp)]
    have : getI [3] (0 : Int) = some (3 : Int) := rfl
    rw [this, bind_some', w2, bind_some']
    cases lookR d a (rdx rd) x n 3 with
    | some p => rfl
    | none =>
      simp only
      rw [scene_why_1, if_neg (by decide)]
  have w11 : ∀ (p0 : Pull), scene_why_1 N (Scene.mk d a rd) (x : Int) n [2, 3] 2 N p0 0 = some (match (match lookR d a (rdx rd) x n 2 with | some p => some p | none => lookR d a (rdx rd) x n 3) with | none => .inl p0 | some p => .inr (p, true)) := by
    intro p0
    obtain ⟨M, rfl⟩ : ∃ M, N = M + 3 := ⟨N - 3, by omega⟩
    rw [scene_why_1, if_pos (by simp)]
    have : getI [2, 3] (0 : Int) = some (2 : Int) := rfl
    rw [this, bind_some', w2, bind_some']
    cases lookR d a (rdx rd) x n 2 with
    | some p => rfl
    | none =>
      simp only
      have e1 : IntKind.wrap .i64 (0 + 1) = 1 := by rw [w64 (by omega) (by omega)]; rfl
      rw [e1, scene_why_1, if_pos (by simp)]
      have : getI [2, 3] (1 : Int) = some (3 : Int) := rfl
      rw [this, bind_some', w2, bind_some']
      cases lookR d a (rdx rd) x n 3 with
      | some p => rfl
      | none =>
        simp only
        rw [scene_why_1, if_neg (by decide)]
  unfold scene_why scene_why_0 whyF
  by_cases hn : n = 0
  · subst hn
    rw [if_pos (by simp), home_ok hS N hx, bind_some', if_pos rfl]
    cases hb : homeB d a x with
    | false => rfl
    | true =>
      rw [if_neg (by simp)]
      have : cutI [(2 : Int), 3] 1 (([2, 3] : List Int).length : Int) = some [3] := rfl
      rw [this, bind_some', bind_some']
      simp only [List.length_cons, List.length_nil]
      have := w1 (Pull.mk 0 0 0 0)
      have this : scene_why_1 N (Scene.mk d a rd) (x : Int) 0 [3] (((0 + 1 : Nat)) : Int) N (Pull.mk 0 0 0 0) 0 = _ := this
      rw [this, bind_some', if_pos trivial]
      cases lookR d a (rdx rd) x 0 3 <;> rfl
  · rw [if_neg (by simpa using hn), bind_some', if_neg hn]
    simp only [List.length_cons, List.length_nil]
    have := w11 (Pull.mk 0 0 0 0)
    have this : scene_why_1 N (Scene.mk d a rd) (x : Int) n [2, 3] (((0 + 1 + 1 : Nat)) : Int) N (Pull.mk 0 0 0 0) 0 = _ := this
    rw [this, bind_some']
    cases lookR d a (rdx rd) x n 2 with
    | some p => rfl
    | none => cases lookR d a (rdx rd) x n 3 <;> rfl
theorem look_some {d : Disorder} {a : List Spot} {rd : Nat → Int} {x : Nat} {n r : Int} {p : Pull} (h : lookR d a rd x n r = some p) : ∃ y, y < d.items.length ∧ p = Pull.mk x r y n ∧ juB d a rd x r y n = true := by
  have key : ∀ (l : List Item) (i : Nat), res (fun y (_ : Item) => juB d a rd x r y n) (fun y _ => Pull.mk x r y n) i l = .inr p → ∃ y, i ≤ y ∧ y < i + l.length ∧ p = Pull.mk x r y n ∧ juB d a rd x r y n = true := by
    intro l
    induction l with
    | nil => intro i h; cases h
    | cons y l ih =>
      intro i h
      rw [res] at h
      split at h
      · rename_i hj; cases h; exact ⟨i, Nat.le_refl _, by simp, rfl, hj⟩
      · obtain ⟨y, h1, h2, h3⟩ := ih _ h
        exact ⟨y, by omega, by simp; omega, h3⟩
  unfold lookR at h
  split at h
  · cases h
  · rename_i q hq
    cases h
    obtain ⟨y, _, h2, h3⟩ := key _ _ hq
    exact ⟨y, by omega, h3⟩
theorem look_none {d : Disorder} {a : List Spot} {rd : Nat → Int} {x : Nat} {n r : Int} (h : lookR d a rd x n r = none) : ∀ y : Nat, y < d.items.length → juB d a rd x r y n = false := by
  have key : ∀ (l : List Item) (i : Nat), res (fun y (_ : Item) => juB d a rd x r y n) (fun y _ => Pull.mk x r y n) i l = .inl () → ∀ y, i ≤ y → y < i + l.length → juB d a rd x r y n = false := by
    intro l
    induction l with
    | nil => intro i h y h1 h2; simp at h2; omega
    | cons z l ih =>
      intro i h y h1 h2
      rw [res] at h
      split at h
      · cases h
      · rename_i hj
        by_cases hy : y = i
        · subst hy; simpa using hj
        · exact ih _ h y (by omega) (by simp at h2; omega)
  unfold lookR at h
  split at h
  · rename_i u hu
    intro y hy
    exact key _ 0 hu y (by omega) (by omega)
  · cases h
theorem whyF_some {d : Disorder} {a : List Spot} {rd : Nat → Int} {x : Nat} {n : Int} {p : Pull} (h : whyF d a rd x n = some p) : p.item = x ∧ p.round = n ∧ juB d a rd x p.reason p.because n = true ∧ (n ≠ 0 → p.reason ≠ 1) := by
  unfold whyF at h
  split at h
  · rename_i hn
    split at h
    · obtain ⟨y, _, rfl, h3⟩ := look_some h
      exact ⟨rfl, rfl, h3, fun hh => absurd hn hh⟩
    · rename_i hb
      cases h
      refine ⟨rfl, hn.symm, ?_, fun hh => absurd hn hh⟩
      unfold juB
      simp only
      rw [if_pos trivial]
      simpa using hb
  · split at h
    · rename_i q hq
      cases h
      obtain ⟨y, _, rfl, h3⟩ := look_some hq
      exact ⟨rfl, rfl, h3, fun _ => by simp⟩
    · obtain ⟨y, _, rfl, h3⟩ := look_some h
      exact ⟨rfl, rfl, h3, fun _ => by simp⟩
theorem whyF_none {d : Disorder} {a : List Spot} {rd : Nat → Int} {x : Nat} {n : Int} (h : whyF d a rd x n = none) : (n = 0 → homeB d a x = true) ∧ ∀ y : Nat, y < d.items.length → juB d a rd x 3 y n = false ∧ (n ≠ 0 → juB d a rd x 2 y n = false) := by
  unfold whyF at h
  split at h
  · rename_i hn
    split at h
    · rename_i hb
      exact ⟨fun _ => hb, fun y hy => ⟨look_none h y hy, fun hh => absurd hn hh⟩⟩
    · cases h
  · rename_i hn
    split at h
    · cases h
    · rename_i h2
      exact ⟨fun hh => absurd hh hn, fun y hy => ⟨look_none h y hy, fun _ => look_none h2 y hy⟩⟩
end Go.W
end
section
set_option linter.unusedVariables false
set_option linter.unusedSimpArgs false
namespace Go.W
open Go.AM
/-- What a pass finds. -/
def passF (d : Disorder) (a : List Spot) (rd : Nat → Int) (n : Int) : Nat → List Item → List Pull
  | _, [] => []
  | i, _ :: l => (if 0 ≤ rd i then [] else (match whyF d a rd i n with | some p => [p] | none => [])) ++ passF d a rd n (i + 1) l
theorem pass_mem {d : Disorder} {a : List Spot} {rd : Nat → Int} {n : Int} {p : Pull} : ∀ {l : List Item} {i : Nat}, p ∈ passF d a rd n i l ↔ ∃ x, i ≤ x ∧ x < i + l.length ∧ ¬ 0 ≤ rd x ∧ whyF d a rd x n = some p
  | [], i => by simp [passF]; omega
  | y :: l, i => by
    rw [passF, List.mem_append, pass_mem]
    constructor
    · rintro (h | ⟨x, h1, h2, h3⟩)
      · split at h
        · simp at h
        · rename_i hn
          split at h
          · rename_i q hq
            simp at h; subst h
            exact ⟨i, Nat.le_refl _, by simp, hn, hq⟩
          · simp at h
      · exact ⟨x, by omega, by simp; omega, h3⟩
    · rintro ⟨x, h1, h2, h3, h4⟩
      by_cases hx : x = i
      · subst hx
        left
        rw [if_neg h3, h4]; simp
      · exact .inr ⟨x, by omega, by simp at h2; omega, h3, h4⟩
theorem pass_len {d : Disorder} {a : List Spot} {rd : Nat → Int} {n : Int} : ∀ {l : List Item} {i : Nat}, (passF d a rd n i l).length ≤ l.length
  | [], i => by simp [passF]
  | y :: l, i => by
    rw [passF, List.length_append]
    have := pass_len (d := d) (a := a) (rd := rd) (n := n) (l := l) (i := i + 1)
    have : (if 0 ≤ rd i then ([] : List Pull) else (match whyF d a rd i n with | some p => [p] | none => [])).length ≤ 1 := by
      split
      · simp
      · split <;> simp
    simp; omega
theorem pass_inc {d : Disorder} {a : List Spot} {rd : Nat → Int} {n : Int} : ∀ {l : List Item} {i : Nat}, (passF d a rd n i l).Pairwise fun p q => p.item < q.item
  | [], i => by simp [passF]
  | y :: l, i => by
    rw [passF, List.pairwise_append]
    refine ⟨?_, pass_inc, fun p hp q hq => ?_⟩
    · split
      · simp
      · split <;> simp
    · obtain ⟨x, h1, h2, h3, h4⟩ := pass_mem.1 hq
      have hqx := (whyF_some h4).1
      split at hp
      · simp at hp
      · split at hp
        · rename_i q' hq'
          simp at hp; subst hp
          have := (whyF_some hq').1
          omega
        · simp at hp
theorem pass_ok {d : Disorder} {a : List Spot} {rd : List Int} (hS : Sc d a rd) (N : Nat) (hN : 200 ≤ N) (n : Int) (d0 : Disorder) (hd : d0 = d) : ∀ (k m i : Nat) (out : List Pull), k < m → i + k = d.items.length → out.length + k ≤ 200 →
    repair_Pulls_1 N (Scene.mk d0 [] []) n (d.items.length : Int) a rd m out (i : Int) = some (out ++ passF d a (rdx rd) n i (d.items.drop i))
  | k, 0, i, out, h, _, _ => by omega
  | 0, m + 1, i, out, h, hi, hl => by
    unfold repair_Pulls_1
    rw [if_neg (by simp; omega), List.drop_of_length_le (by omega), passF, List.append_nil]
  | k + 1, m + 1, i, out, h, hi, hl => by
    subst hd
    have hlt : i < d0.items.length := by omega
    have hli := hS.ok.li
    have step : repair_Pulls_2 N (Scene.mk d0 [] []) out n (i : Int) a rd = some (out ++ (if 0 ≤ rdx rd i then [] else (match whyF d0 a (rdx rd) i n with | some p => [p] | none => []))) := by
      unfold repair_Pulls_2
      rw [rdx_at hS hlt, bind_some', bind_some']
      by_cases h0 : 0 ≤ rdx rd i
      · rw [if_pos (by simpa using h0), if_pos h0, List.append_nil]
      · rw [if_neg (by simpa using h0), if_neg h0, why_ok hS N hN hlt, bind_some']
        cases whyF d0 a (rdx rd) i n with
        | none => simp
        | some p => simp only; rw [if_pos trivial, appI_ok (by simp; omega), bind_some']
    rw [repair_Pulls_1, if_pos (by simp; omega), step, bind_some', w64s (by omega), pass_ok hS N hN n d0 rfl k m (i + 1) _ (by omega) (by omega) (by
      rw [List.length_append]
      have : (if 0 ≤ rdx rd i then ([] : List Pull) else (match whyF d0 a (rdx rd) i n with | some p => [p] | none => [])).length ≤ 1 := by
        split
        · simp
        · split <;> simp
      omega), drop_at (at_lt hlt), passF, List.append_assoc]
/-- The rounds, with what was found. -/
def setR (n : Int) : List Pull → List Int → List Int
  | [], rd => rd
  | p :: l, rd => setR n l (rd.set p.item.toNat n)
theorem setR_len (n : Int) : ∀ (l : List Pull) (rd : List Int), (setR n l rd).length = rd.length
  | [], rd => rfl
  | p :: l, rd => by rw [setR, setR_len, List.length_set]
theorem rdx_set {rd : List Int} {i j : Nat} {v : Int} (hi : i < rd.length) : rdx (rd.set i v) j = if i = j then v else rdx rd j := by
  unfold rdx
  rw [List.getElem?_set]
  by_cases h : i = j
  · subst h; rw [if_pos rfl, if_pos hi, if_pos rfl]; rfl
  · rw [if_neg h, if_neg h]
theorem rdx_setR (n : Int) : ∀ (l : List Pull) (rd : List Int), (∀ p ∈ l, 0 ≤ p.item ∧ p.item.toNat < rd.length) → ∀ x, rdx (setR n l rd) x = if ∃ p ∈ l, p.item = (x : Int) then n else rdx rd x
  | [], rd, _, x => by rw [setR, if_neg (by simp)]
  | p :: l, rd, h, x => by
    obtain ⟨h0, h1⟩ := h p List.mem_cons_self
    rw [setR, rdx_setR n l _ (fun q hq => by rw [List.length_set]; exact h q (List.mem_cons_of_mem _ hq)) x, rdx_set h1]
    by_cases hl : ∃ q ∈ l, q.item = (x : Int)
    · obtain ⟨q, hq, he⟩ := hl
      rw [if_pos ⟨q, hq, he⟩, if_pos ⟨q, List.mem_cons_of_mem _ hq, he⟩]
    · rw [if_neg hl]
      by_cases hp : p.item.toNat = x
      · rw [if_pos hp, if_pos ⟨p, List.mem_cons_self, by omega⟩]
      · rw [if_neg hp, if_neg]
        rintro ⟨q, hq, he⟩
        rcases List.mem_cons.1 hq with rfl | hq
        · omega
        · exact hl ⟨q, hq, he⟩
theorem set_ok (N : Nat) {out nw : List Pull} (n : Int) (hl : out.length + nw.length ≤ 1000) : ∀ (k m i : Nat) (rd : List Int), k < m → i + k = nw.length → (∀ p ∈ nw, 0 ≤ p.item ∧ p.item.toNat < rd.length) →
    repair_Pulls_3 N (out ++ nw) n (out.length, (out ++ nw).length) (nw.length : Int) m (i : Int) rd = some (setR n (nw.drop i) rd)
  | k, 0, i, rd, h, _, _ => by omega
  | 0, m + 1, i, rd, h, hi, hr => by
    unfold repair_Pulls_3
    rw [if_neg (by simp; omega), List.drop_of_length_le (by omega), setR]
  | k + 1, m + 1, i, rd, h, hi, hr => by
    have hlt : i < nw.length := by omega
    have hp := hr _ (List.getElem_mem hlt)
    have e1 : List.drop out.length (List.take (out ++ nw).length (out ++ nw)) = nw := by rw [List.take_of_length_le (Nat.le_refl _), List.drop_left]
    have e2 : getI (out ++ nw) ((out.length : Int) + i) = some nw[i] := by
      rw [show (out.length : Int) + i = ((out.length + i : Nat) : Int) by omega]
      refine getI_nat ?_
      rw [List.getElem?_append_right (by omega), show out.length + i - out.length = i by omega]
      exact at_lt hlt
    have e3 : ∃ v, getI rd nw[i].item = some v := by
      obtain ⟨j, hj⟩ := Int.eq_ofNat_of_zero_le hp.1
      rw [hj] at hp ⊢
      exact ⟨_, getI_nat (at_lt (by simpa using hp.2))⟩
    obtain ⟨v, e3⟩ := e3
    rw [repair_Pulls_3, if_pos (by simp; omega)]
    simp only [e1]
    rw [getI_nat (at_lt hlt), bind_some', e2, bind_some', e3, bind_some', bind_some', lt_def, w64s (by omega), set_ok N n hl k m (i + 1) _ (by omega) (by omega) (fun p hp' => by rw [List.length_set]; exact hr p hp'), drop_at (at_lt hlt), setR]
/-! ### The rounds -/
structure PI (d : Disorder) (a : List Spot) (out : List Pull) (rd : List Int) (n : Nat) : Prop where
  sc : Sc d a rd
  nd : (out.map Pull.item).Nodup
  it : ∀ p ∈ out, ∃ x : Nat, p.item = x ∧ x < d.items.length ∧ rdx rd x = p.round ∧ 0 ≤ p.round ∧ p.round < n
  ju : ∀ p ∈ out, ∀ x : Nat, p.item = x → juB d a (rdx rd) x p.reason p.because p.round = true
  on : ∀ x, rdx rd x = -1 ∨ ∃ p ∈ out, p.item = (x : Int)
  st : 1 ≤ n → ∀ x, x < d.items.length → rdx rd x = -1 → homeB d a x = true ∧ ∀ y, y < d.items.length → (ahB d y x && neB a y x) = false
theorem juB_mono {d : Disorder} {a : List Spot} {rd rd' : Nat → Int} {x : Nat} {r y n : Int} (h : ∀ y, 0 ≤ rd y → rd' y = rd y) (hj : juB d a rd x r y n = true) : juB d a rd' x r y n = true := by
  have pu : ∀ y n, puB rd y n = true → puB rd' y n = true := by
    intro y n hp
    unfold puB at hp ⊢
    simp only [Bool.and_eq_true, decide_eq_true_eq] at hp ⊢
    rw [h y hp.1]; exact hp
  unfold juB at hj ⊢
  split
  · rename_i h1; rw [if_pos h1] at hj; exact hj
  · rename_i h1; rw [if_neg h1] at hj
    split
    · rename_i h2; rw [if_pos h2] at hj; cases hj
    · rename_i h2; rw [if_neg h2] at hj
      split
      · rename_i h3; rw [if_pos h3] at hj; exact hj
      · rename_i h3; rw [if_neg h3] at hj
        split
        · rename_i h4; rw [if_pos h4] at hj
          simp only [Bool.and_eq_true] at hj ⊢
          exact ⟨hj.1, pu _ _ hj.2⟩
        · rename_i h4; rw [if_neg h4] at hj
          split
          · rename_i h5; rw [if_pos h5] at hj
            simp only [Bool.and_eq_true] at hj ⊢
            exact ⟨hj.1, pu _ _ hj.2⟩
          · rename_i h5; rw [if_neg h5] at hj; cases hj
theorem PI.len {d : Disorder} {a : List Spot} {out : List Pull} {rd : List Int} {n : Nat} (h : PI d a out rd n) : out.length ≤ d.items.length := by
  have h1 : (out.map Pull.item).length ≤ ((List.range d.items.length).map fun (x : Nat) => (x : Int)).length := by
    refine List.Nodup.length_le_of_subset h.nd fun i hi => ?_
    obtain ⟨p, hp, rfl⟩ := List.mem_map.1 hi
    obtain ⟨x, h1, h2, _⟩ := h.it p hp
    exact List.mem_map.2 ⟨x, List.mem_range.2 h2, h1.symm⟩
  simpa using h1
theorem PI.step {d : Disorder} {a : List Spot} {out : List Pull} {rd : List Int} {n : Nat} (h : PI d a out rd n) : PI d a (out ++ passF d a (rdx rd) n 0 d.items) (setR n (passF d a (rdx rd) n 0 d.items) rd) (n + 1) := by
  have hli := h.sc.ok.li
  have mem : ∀ p, p ∈ passF d a (rdx rd) n 0 d.items → ∃ x, x < d.items.length ∧ rdx rd x = -1 ∧ whyF d a (rdx rd) x n = some p ∧ p.item = x := by
    intro p hp
    obtain ⟨x, _, h2, h3, h4⟩ := pass_mem.1 hp
    refine ⟨x, by omega, ?_, h4, (whyF_some h4).1⟩
    rcases h.on x with h5 | ⟨q, hq, hqx⟩
    · exact h5
    · obtain ⟨x', g1, g2, g3, g4, _⟩ := h.it q hq
      have : x' = x := by omega
      subst this
      omega
  have hR := rdx_setR n (passF d a (rdx rd) n 0 d.items) rd (fun p hp => by
    obtain ⟨x, h1, _, _, h4⟩ := mem p hp
    rw [h.sc.rl]; omega)
  have keep : ∀ y, 0 ≤ rdx rd y → rdx (setR n (passF d a (rdx rd) n 0 d.items) rd) y = rdx rd y := by
    intro y hy
    rw [hR y, if_neg]
    rintro ⟨p, hp, he⟩
    obtain ⟨x, _, h2, _, h4⟩ := mem p hp
    have : x = y := by omega
    subst this; omega
  refine ⟨⟨h.sc.ok, h.sc.at', by rw [setR_len]; exact h.sc.rl⟩, ?_, fun p hp => ?_, fun p hp x hx => ?_, fun x => ?_, fun _ x hx hr => ?_⟩
  · rw [List.map_append, List.nodup_append]
    refine ⟨h.nd, ?_, fun i hi j hj hij => ?_⟩
    · rw [List.Nodup, List.pairwise_map]
      exact pass_inc.imp fun hlt he => by omega
    · subst hij
      obtain ⟨p, hp, rfl⟩ := List.mem_map.1 hi
      obtain ⟨q, hq, he⟩ := List.mem_map.1 hj
      obtain ⟨x, g1, g2, g3, g4, _⟩ := h.it p hp
      obtain ⟨y, _, k2, _, k4⟩ := mem q hq
      have : x = y := by omega
      subst this; omega
  · rcases List.mem_append.1 hp with hp | hp
    · obtain ⟨x, g1, g2, g3, g4, g5⟩ := h.it p hp
      exact ⟨x, g1, g2, by rw [keep x (by omega)]; exact g3, g4, by omega⟩
    · obtain ⟨x, k1, k2, k3, k4⟩ := mem p hp
      have k5 := (whyF_some k3).2.1
      exact ⟨x, k4, k1, by rw [hR x, if_pos ⟨p, hp, k4⟩, k5], by omega, by omega⟩
  · rcases List.mem_append.1 hp with hp | hp
    · exact juB_mono keep (h.ju p hp x hx)
    · obtain ⟨y, k1, k2, k3, k4⟩ := mem p hp
      obtain ⟨_, k5, k6, _⟩ := whyF_some k3
      have : y = x := by omega
      subst this
      rw [k5]
      exact juB_mono keep k6
  · rw [hR x]
    split
    · rename_i hh
      obtain ⟨p, hp, he⟩ := hh
      exact .inr ⟨p, List.mem_append.2 (.inr hp), he⟩
    · rcases h.on x with h1 | ⟨p, hp, he⟩
      · exact .inl h1
      · exact .inr ⟨p, List.mem_append.2 (.inl hp), he⟩
  · rw [hR x] at hr
    split at hr
    · omega
    · rename_i hh
      by_cases hn : n = 0
      · subst hn
        have hw : whyF d a (rdx rd) x ((0 : Nat) : Int) = none := by
          cases hw : whyF d a (rdx rd) x ((0 : Nat) : Int) with
          | none => rfl
          | some p => exact (hh ⟨p, pass_mem.2 ⟨x, by omega, by omega, by omega, hw⟩, (whyF_some hw).1⟩).elim
        obtain ⟨w1, w2⟩ := whyF_none hw
        have hb := w1 rfl
        refine ⟨hb, fun y hy => ?_⟩
        have := (w2 y hy).1
        unfold juB at this
        rw [if_neg (by omega), if_neg (by omega), if_pos ⟨rfl, rfl⟩, hb, Int.toNat_natCast] at this
        simpa using this
      · exact h.st (by omega) x hx hr
/-- How many are not pulled. -/
def remN (d : Disorder) (out : List Pull) : Nat := d.items.length - out.length
structure PsOk (d : Disorder) (a : List Spot) (out : List Pull) (rd : List Int) : Prop where
  sc : Sc d a rd
  nd : (out.map Pull.item).Nodup
  it : ∀ p ∈ out, ∃ x : Nat, p.item = x ∧ x < d.items.length ∧ rdx rd x = p.round ∧ 0 ≤ p.round
  ju : ∀ p ∈ out, ∀ x : Nat, p.item = x → juB d a (rdx rd) x p.reason p.because p.round = true
  on : ∀ x, rdx rd x = -1 ∨ ∃ p ∈ out, p.item = (x : Int)
  st : ∀ x, x < d.items.length → rdx rd x = -1 → homeB d a x = true ∧ ∀ y, y < d.items.length → (ahB d y x && neB a y x) = false ∧ (0 ≤ rdx rd y → ahB d y x = false ∧ neB a x y = false)
theorem rounds (N : Nat) (hN : 300 ≤ N) {d : Disorder} {a : List Spot} : ∀ (m : Nat) (n : Nat) (out : List Pull) (rd : List Int), PI d a out rd n → remN d out + (if n = 0 then 2 else 1) < m + (if n = 0 then 0 else 0) → n + m ≤ 100000 →
    ∃ out' rd', repair_Pulls_0 N d (Scene.mk d [] []) a m out (n : Int) rd = some out' ∧ PsOk d a out' rd'
  | 0, n, out, rd, h, hm, _ => by simp at hm
  | m + 1, n, out, rd, h, hm, hb => by
    have hli := h.sc.ok.li
    have hS := h.step
    have hlen := h.len
    have hlen2 := hS.len
    rw [List.length_append] at hlen2
    have e1 := pass_ok h.sc N (by omega) (n : Int) d rfl d.items.length N 0 out (by omega) (by omega) (by omega)
    rw [List.drop_zero] at e1
    have e1 : repair_Pulls_1 N (Scene.mk d [] []) (n : Int) (d.items.length : Int) a rd N out 0 = _ := e1
    generalize hnw : passF d a (rdx rd) (n : Int) 0 d.items = nw at *
    have hnr : ∀ p ∈ nw, 0 ≤ p.item ∧ p.item.toNat < rd.length := by
      intro p hp
      obtain ⟨x, g1, g2, _⟩ := hS.it p (List.mem_append.2 (.inr hp))
      rw [h.sc.rl]; omega
    have e2 := set_ok N (n : Int) (out := out) (nw := nw) (by omega) nw.length N 0 rd (by omega) (by omega) hnr
    rw [List.drop_zero] at e2
    have e2 : repair_Pulls_3 N (out ++ nw) (n : Int) (out.length, (out ++ nw).length) (nw.length : Int) N 0 rd = _ := e2
    have e3 : cutI (out ++ nw) (out.length : Int) ((out ++ nw).length : Int) = some nw := by
      rw [cutI_drop (by simp), List.drop_left]
    have e4 : List.drop (Int.toNat (out.length : Int)) (List.take (Int.toNat ((out ++ nw).length : Int)) (out ++ nw)) = nw := by
      rw [Int.toNat_natCast, Int.toNat_natCast, List.take_of_length_le (Nat.le_refl _), List.drop_left]
    rw [repair_Pulls_0, lt_def, e1, bind_some', e3, bind_some']
    simp only [e4]
    rw [Int.toNat_natCast, Int.toNat_natCast, e2, bind_some']
    by_cases hn : n = 0
    · subst hn
      have e5 : repair_Pulls_4 N (out ++ nw) ((0 : Nat) : Int) (out.length : Int) = some false := rfl
      rw [e5, bind_some', if_neg (by simp), lt_def, w64s (by omega)]
      refine rounds N hN m 1 _ _ hS ?_ (by omega)
      unfold remN at hm ⊢
      rw [List.length_append]
      simp at hm ⊢; omega
    · have e5 : repair_Pulls_4 N (out ++ nw) (n : Int) (out.length : Int) = some (((out ++ nw).length : Int) == (out.length : Int)) := by
        unfold repair_Pulls_4
        rw [if_pos (by simp; omega)]
      rw [e5, bind_some']
      by_cases he : nw = []
      · subst he
        rw [if_pos (by simp)]
        refine ⟨_, rd, rfl, ?_⟩
        rw [List.append_nil]
        refine ⟨h.sc, h.nd, fun p hp => ?_, h.ju, h.on, fun x hx hr => ?_⟩
        · obtain ⟨x, g1, g2, g3, g4, _⟩ := h.it p hp
          exact ⟨x, g1, g2, g3, g4⟩
        · obtain ⟨s1, s2⟩ := h.st (by omega) x hx hr
          refine ⟨s1, fun y hy => ⟨s2 y hy, fun hry => ?_⟩⟩
          have hw : whyF d a (rdx rd) x (n : Int) = none := by
            cases hw : whyF d a (rdx rd) x (n : Int) with
            | none => rfl
            | some p =>
              have : p ∈ passF d a (rdx rd) (n : Int) 0 d.items := pass_mem.2 ⟨x, by omega, by omega, by omega, hw⟩
              rw [hnw] at this; simp at this
          obtain ⟨_, w2⟩ := whyF_none hw
          obtain ⟨w3, w4⟩ := w2 y hy
          have w4 := w4 (by omega)
          have hlt : rdx rd y < n := by
            rcases h.on y with h1 | ⟨p, hp, he⟩
            · omega
            · obtain ⟨x', g1, g2, g3, g4, g5⟩ := h.it p hp
              have : x' = y := by omega
              subst this; omega
          have hp : puB (rdx rd) y n = true := by unfold puB; simp; omega
          unfold juB at w3 w4
          rw [if_neg (by omega), if_neg (by omega), if_neg (by omega), if_pos rfl, Int.toNat_natCast, hp] at w3
          rw [if_neg (by omega), if_neg (by omega), if_neg (by omega), if_neg (by omega), if_pos rfl, Int.toNat_natCast, hp] at w4
          exact ⟨by simpa using w3, by simpa using w4⟩
      · have hpos : 0 < nw.length := List.length_pos_iff.2 he
        rw [if_neg (by simp; omega), lt_def, w64s (by omega)]
        refine rounds N hN m (n + 1) _ _ hS ?_ (by omega)
        unfold remN at hm ⊢
        rw [List.length_append]
        simp [hn] at hm ⊢; omega
theorem PsOk.perm {d : Disorder} {a : List Spot} {out out' : List Pull} {rd : List Int} (h : PsOk d a out rd) (hp : out'.Perm out) : PsOk d a out' rd := by
  refine ⟨h.sc, (hp.map _).nodup_iff.2 h.nd, fun p hm => h.it p (hp.mem_iff.1 hm), fun p hm => h.ju p (hp.mem_iff.1 hm), fun x => ?_, h.st⟩
  rcases h.on x with h1 | ⟨p, hm, he⟩
  · exact .inl h1
  · exact .inr ⟨p, hp.mem_iff.2 hm, he⟩
theorem pulls_ok (N : Nat) (hN : 300 ≤ N) (hN2 : N ≤ 99000) {d : Disorder} (hD : DOk d) : ∃ ps a rd, repair_Pulls N d = some (ps, 0) ∧ PsOk d a ps rd ∧ (ps.Pairwise fun p q => p.item ≤ q.item) := by
  obtain ⟨a, h1, h2⟩ := open_ok N (by omega) hD
  have hli := hD.li
  have h0 : PI d a [] (List.replicate d.items.length (-1)) 0 := by
    have hr : ∀ x, rdx (List.replicate d.items.length (-1)) x = -1 := by
      intro x
      unfold rdx
      rw [List.getElem?_replicate]
      split <;> rfl
    exact ⟨⟨hD, h2, by simp⟩, by simp, by simp, by simp, fun x => .inl (hr x), fun h => by omega⟩
  obtain ⟨out, rd, g1, g2⟩ := rounds N hN N 0 [] _ h0 (by unfold remN; simp; omega) (by omega)
  have g1 : repair_Pulls_0 N d (Scene.mk d [] []) a N [] 0 (List.replicate d.items.length (-1)) = _ := g1
  unfold repair_Pulls
  rw [valid_ok N (by omega) hD, bind_some', if_neg (by simp), h1, bind_some']
  simp only
  rw [g1, bind_some']
  have hlen : out.length ≤ d.items.length := by
    have h1 : (out.map Pull.item).length ≤ ((List.range d.items.length).map fun (x : Nat) => (x : Int)).length := by
      refine List.Nodup.length_le_of_subset g2.nd fun i hi => ?_
      obtain ⟨p, hp, rfl⟩ := List.mem_map.1 hi
      obtain ⟨x, h1, h2, _⟩ := g2.it p hp
      exact List.mem_map.2 ⟨x, List.mem_range.2 h2, h1.symm⟩
    simpa using h1
  letI : Inhabited Pull := ⟨Pull.mk 0 0 0 0⟩
  have hs : @srtI Pull ⟨Pull.mk 0 0 0 0⟩ (fun (a b : Pull) => cmpI a.item b.item) out = some (srtL (fun (a b : Pull) => cmpI a.item b.item) out) := by
    unfold srtI
    rw [if_pos (by omega)]
  rw [hs, bind_some']
  refine ⟨_, a, rd, rfl, g2.perm (srtL_perm (fun (a b : Pull) => cmpI a.item b.item) (swo_key Pull.item) out), srtL_sorted Pull.item out⟩
end Go.W
end
section
set_option linter.unusedVariables false
set_option linter.unusedSimpArgs false
namespace Go.W
open Go.AM
theorem res_c {α : Type} (p : Nat → α → Bool) : ∀ (l : List α) (i : Nat), (res p (fun _ _ => false) i l = .inl () ∧ ∀ (j : Nat) (x : α), l[j]? = some x → p (i + j) x = false) ∨ (res p (fun _ _ => false) i l = .inr false ∧ ∃ (j : Nat) (x : α), l[j]? = some x ∧ p (i + j) x = true)
  | [], i => .inl ⟨rfl, fun j x h => by simp at h⟩
  | y :: l, i => by
    rw [res]
    by_cases h : p i y = true
    · rw [if_pos h]; exact .inr ⟨rfl, 0, y, by simp, h⟩
    · rw [if_neg h]
      rcases res_c p l (i + 1) with ⟨h1, h2⟩ | ⟨h1, j, x, h2, h3⟩
      · refine .inl ⟨h1, fun j x hx => ?_⟩
        cases j with
        | zero => simp at hx; subst hx; simpa using h
        | succ j => have := h2 j x (by simpa using hx); rwa [show i + 1 + j = i + (j + 1) by omega] at this
      · exact .inr ⟨h1, j + 1, x, by simpa using h2, by rwa [show i + 1 + j = i + (j + 1) by omega] at h3⟩
theorem at_uniq {d : Disorder} {a a' : List Spot} (hD : DOk d) (h : AtOk d a) (h' : AtOk d a') : a = a' := by
  refine List.ext_getElem (by rw [h.len, h'.len]) fun x h1 h2 => ?_
  obtain ⟨t, p, hp⟩ := hD.tk.all x (by rw [← h.len]; exact h1)
  have e1 := h.ps t p x hp
  have e2 := h'.ps t p x hp
  rw [at_lt h1] at e1
  rw [at_lt h2] at e2
  rw [← e2] at e1
  exact Option.some.inj e1
/-! ### The rounds of a list -/
def badP (n : Nat) (rd : List Int) (p : Pull) : Bool := decide (p.item < 0) || (decide ((n : Int) ≤ p.item) || (decide (0 ≤ rdx rd p.item.toNat) || decide (p.round < 0)))
def ckR (n : Nat) : List Pull → List Int → Option (List Int)
  | [], rd => some rd
  | p :: l, rd => if badP n rd p = true then none else ckR n l (rd.set p.item.toNat p.round)
theorem ck0 (N : Nat) {d : Disorder} {l : List Pull} (hl : l.length ≤ 100000) : ∀ (k m i : Nat) (rd : List Int), k < m → i + k = l.length → rd.length = d.items.length →
    repair_check_0 N d l (l.length : Int) m (i : Int) rd = some (match ckR d.items.length (l.drop i) rd with | some r => .inl r | none => .inr false)
  | k, 0, i, rd, h, _, _ => by omega
  | 0, m + 1, i, rd, h, hi, hr => by
    unfold repair_check_0
    rw [if_neg (by simp; omega), List.drop_of_length_le (by omega), ckR]
  | k + 1, m + 1, i, rd, h, hi, hr => by
    have hlt : i < l.length := by omega
    have step : repair_check_1 N d l[i] rd = some (badP d.items.length rd l[i]) := by
      unfold repair_check_1 badP
      by_cases h1 : l[i].item < 0
      · rw [if_pos (by simpa using h1)]; simp [h1]
      · rw [if_neg (by simpa using h1)]
        by_cases h2 : (d.items.length : Int) ≤ l[i].item
        · rw [if_pos (by simpa using h2)]; simp [h2]
        · rw [if_neg (by simpa using h2)]
          obtain ⟨j, hj⟩ := Int.eq_ofNat_of_zero_le (show 0 ≤ l[i].item by omega)
          have hjr : j < rd.length := by omega
          have hg : getI rd l[i].item = some (rdx rd j) := by
            rw [hj, getI_nat (at_lt hjr)]; unfold rdx; rw [at_lt hjr]; rfl
          rw [hg, bind_some', bind_some', hj, Int.toNat_natCast]
          by_cases h3 : 0 ≤ rdx rd j
          · rw [if_pos (by simpa using h3)]; simp [h3]
          · rw [if_neg (by simpa using h3), decide_eq_false h3, decide_eq_false (by omega : ¬ (j : Int) < 0), decide_eq_false (by omega : ¬ (d.items.length : Int) ≤ (j : Int))]; rfl
    rw [repair_check_0, if_pos (by simp; omega), getI_nat (at_lt hlt), bind_some', step, bind_some', drop_at (at_lt hlt), ckR]
    by_cases hb : badP d.items.length rd l[i] = true
    · rw [if_pos hb, if_pos hb]
    · rw [if_neg hb, if_neg hb]
      unfold badP at hb
      simp only [Bool.or_eq_true, decide_eq_true_eq, not_or] at hb
      obtain ⟨j, hj⟩ := Int.eq_ofNat_of_zero_le (show 0 ≤ l[i].item by omega)
      have hjr : j < rd.length := by omega
      have hg : getI rd l[i].item = some (rdx rd j) := by
        rw [hj, getI_nat (at_lt hjr)]; unfold rdx; rw [at_lt hjr]; rfl
      rw [hg, bind_some', bind_some', lt_def, w64s (by omega)]
      exact ck0 N hl k m (i + 1) _ (by omega) (by omega) (by rw [List.length_set]; exact hr)
structure CkS (n : Nat) (l : List Pull) (rd rd' : List Int) : Prop where
  len : rd'.length = rd.length
  it : ∀ p ∈ l, ∃ x : Nat, p.item = x ∧ x < n ∧ rdx rd' x = p.round ∧ 0 ≤ p.round ∧ ¬ 0 ≤ rdx rd x
  nd : (l.map Pull.item).Nodup
  on : ∀ x, rdx rd' x = rdx rd x ∨ ∃ p ∈ l, p.item = (x : Int)
  kp : ∀ x, 0 ≤ rdx rd x → rdx rd' x = rdx rd x
theorem ckR_some {n : Nat} : ∀ {l : List Pull} {rd rd' : List Int}, rd.length = n → ckR n l rd = some rd' → CkS n l rd rd'
  | [], rd, rd', hr, h => by
    cases h
    exact ⟨rfl, by simp, by simp, fun x => .inl rfl, fun x _ => rfl⟩
  | p :: l, rd, rd', hr, h => by
    rw [ckR] at h
    split at h
    · cases h
    · rename_i hb
      unfold badP at hb
      simp only [Bool.or_eq_true, decide_eq_true_eq, not_or] at hb
      have hS := ckR_some (by rw [List.length_set]; exact hr) h
      have hlt : p.item.toNat < rd.length := by omega
      have hset := fun x => rdx_set (rd := rd) (j := x) (v := p.round) hlt
      refine ⟨by rw [hS.len, List.length_set], fun q hq => ?_, ?_, fun x => ?_, fun x hx => ?_⟩
      · rcases List.mem_cons.1 hq with rfl | hq
        · refine ⟨q.item.toNat, by omega, by omega, ?_, by omega, hb.2.2.1⟩
          have e1 := hset q.item.toNat
          rw [if_pos rfl] at e1
          rw [hS.kp _ (by omega), e1]
        · obtain ⟨x, g1, g2, g3, g4, g5⟩ := hS.it q hq
          refine ⟨x, g1, g2, g3, g4, ?_⟩
          rw [hset x] at g5
          split at g5
          · omega
          · exact g5
      · rw [List.map_cons, List.nodup_cons]
        refine ⟨fun hm => ?_, hS.nd⟩
        obtain ⟨q, hq, he⟩ := List.mem_map.1 hm
        obtain ⟨x, g1, g2, g3, g4, g5⟩ := hS.it q hq
        rw [hset x, if_pos (by omega)] at g5
        omega
      · rcases hS.on x with h1 | ⟨q, hq, he⟩
        · rw [hset x] at h1
          split at h1
          · exact .inr ⟨p, List.mem_cons_self, by omega⟩
          · exact .inl h1
        · exact .inr ⟨q, List.mem_cons_of_mem _ hq, he⟩
      · have e1 := hset x
        rw [if_neg (fun e => by subst e; exact hb.2.2.1 hx)] at e1
        rw [hS.kp x (by omega), e1]
theorem ckR_ok {n : Nat} : ∀ {l : List Pull} {rd : List Int}, rd.length = n → (l.map Pull.item).Nodup → (∀ p ∈ l, ∃ x : Nat, p.item = x ∧ x < n ∧ 0 ≤ p.round ∧ ¬ 0 ≤ rdx rd x) → ∃ rd', ckR n l rd = some rd'
  | [], rd, _, _, _ => ⟨rd, rfl⟩
  | p :: l, rd, hr, hn, h => by
    obtain ⟨x, h1, h2, h3, h4⟩ := h p List.mem_cons_self
    rw [List.map_cons, List.nodup_cons] at hn
    rw [ckR, if_neg (by
      unfold badP
      simp only [Bool.or_eq_true, decide_eq_true_eq, not_or]
      refine ⟨by omega, by omega, ?_, by omega⟩
      rw [h1, Int.toNat_natCast]; exact h4)]
    refine ckR_ok (by rw [List.length_set]; exact hr) hn.2 fun q hq => ?_
    obtain ⟨y, k1, k2, k3, k4⟩ := h q (List.mem_cons_of_mem _ hq)
    refine ⟨y, k1, k2, k3, ?_⟩
    rw [rdx_set (by omega), if_neg]
    · exact k4
    · intro he
      refine hn.1 (List.mem_map.2 ⟨q, hq, ?_⟩)
      omega
/-! ### What stays -/
/-- Does something speak against an item that stays? -/
def agB (d : Disorder) (a : List Spot) (rd : Nat → Int) (x y : Nat) : Bool := !homeB d a x || ((ahB d y x && neB a y x) || (decide (0 ≤ rd y) && (ahB d y x || neB a x y)))
def agX (d : Disorder) (a : List Spot) (rd : Nat → Int) (x : Nat) : Bool := (List.range d.items.length).any fun y => agB d a rd x y
theorem ck5 {d : Disorder} {a : List Spot} {rd : List Int} (hS : Sc d a rd) (N : Nat) (hN : 200 ≤ N) {x : Nat} (hx : x < d.items.length) (a0 : List Spot) (r0 : List Int) :
    repair_check_5 N (Scene.mk d a0 r0) (x : Int) rd (d.items.length : Int) a N 0 = some (if agX d a (rdx rd) x = true then .inr false else .inl ()) := by
  have hli := hS.ok.li
  have h := first_gen (l := d.items) (fun y _ => agB d a (rdx rd) x y) (fun _ _ => false) (repair_check_5 N (Scene.mk d a0 r0) (x : Int) rd (d.items.length : Int) a) (fun n => by unfold repair_check_5; rw [if_neg (by simp)]) (fun n y w hw => by
    have hy := (List.getElem?_eq_some_iff.1 hw).1
    have e6 : repair_check_6 N (Scene.mk d [] []) (x : Int) (y : Int) rd a = some (homeB d a x && (ahB d y x && neB a y x)) := by
      unfold repair_check_6
      simp only
      rw [home_ok hS N hx, bind_some']
      cases homeB d a x with
      | false => rw [if_neg (by simp)]; rfl
      | true =>
        rw [if_pos rfl, ahead_ok hS N hx hy, bind_some']
        cases ahB d y x with
        | false => rw [if_neg (by simp)]; rfl
        | true => rw [if_pos rfl, near_ok hS N hy hx, bind_some']; rfl
    have e7 : repair_check_7 N (Scene.mk d [] []) (x : Int) (y : Int) (homeB d a x && (ahB d y x && neB a y x)) rd a = some (agB d a (rdx rd) x y) := by
      unfold repair_check_7 agB
      simp only
      rw [home_ok hS N hx, bind_some']
      cases homeB d a x with
      | false => rfl
      | true =>
        rw [if_neg (by simp)]
        by_cases h1 : (ahB d y x && neB a y x) = true
        · rw [h1]; rfl
        · have h1 : (ahB d y x && neB a y x) = false := by simpa using h1
          rw [h1, if_neg (by simp), rdx_at hS hy, bind_some', bind_some']
          by_cases h2 : 0 ≤ rdx rd y
          · rw [if_pos (by simpa using h2), ahead_ok hS N hx hy, bind_some', decide_eq_true h2]
            cases ahB d y x with
            | true => rfl
            | false => rw [if_neg (by simp), near_ok hS N hx hy, bind_some']; rfl
          · rw [if_neg (by simpa using h2), decide_eq_false h2]; rfl
    rw [repair_check_5, if_pos (by simp; omega), e6, bind_some', e7, bind_some', w64s (by omega)]) d.items.length N 0 (by omega) (by omega)
  have h : repair_check_5 N (Scene.mk d a0 r0) (x : Int) rd (d.items.length : Int) a N 0 = _ := h
  rw [h, List.drop_zero]
  congr 1
  unfold agX
  rcases res_c (fun y (_ : Item) => agB d a (rdx rd) x y) d.items 0 with ⟨h1, h2⟩ | ⟨h1, j, z, h2, h3⟩
  · rw [h1, if_neg]
    simp only [List.any_eq_true, not_exists, not_and]
    intro y hy
    have := h2 y _ (at_lt (List.mem_range.1 hy))
    simpa using this
  · rw [h1, if_pos]
    rw [List.any_eq_true]
    exact ⟨j, List.mem_range.2 (List.getElem?_eq_some_iff.1 h2).1, by simpa using h3⟩
def opB (d : Disorder) (a : List Spot) (rd : Nat → Int) : Bool := (List.range d.items.length).any fun x => !decide (0 ≤ rd x) && agX d a rd x
theorem ck3 {d : Disorder} {a : List Spot} {rd : List Int} (hS : Sc d a rd) (N : Nat) (hN : 200 ≤ N) (a0 : List Spot) (r0 : List Int) :
    repair_check_3 N d (Scene.mk d a0 r0) rd (rd.length : Int) a N 0 = some (if opB d a (rdx rd) = true then .inr false else .inl ()) := by
  have hli := hS.ok.li
  have hrl := hS.rl
  have h := first_gen (l := rd) (fun x _ => !decide (0 ≤ rdx rd x) && agX d a (rdx rd) x) (fun _ _ => false) (repair_check_3 N d (Scene.mk d a0 r0) rd (rd.length : Int) a) (fun n => by unfold repair_check_3; rw [if_neg (by simp)]) (fun n x w hw => by
    have hx := (List.getElem?_eq_some_iff.1 hw).1
    rw [hrl] at hx
    have e4 : repair_check_4 N d (Scene.mk d [] []) rd (x : Int) a = some (if (!decide (0 ≤ rdx rd x) && agX d a (rdx rd) x) = true then .inr false else .inl ()) := by
      unfold repair_check_4
      rw [rdx_at hS hx, bind_some', bind_some']
      by_cases h1 : 0 ≤ rdx rd x
      · rw [if_pos (by simpa using h1), decide_eq_true h1]; rfl
      · rw [if_neg (by simpa using h1), decide_eq_false h1]
        simp only
        rw [ck5 hS N hN hx, bind_some']
        cases agX d a (rdx rd) x <;> rfl
    rw [repair_check_3, if_pos (by simp; omega), e4, bind_some']
    by_cases hc : (!decide (0 ≤ rdx rd x) && agX d a (rdx rd) x) = true
    · rw [if_pos hc, if_pos hc]
    · rw [if_neg hc, if_neg hc]
      simp only
      rw [w64s (by omega)]) rd.length N 0 (by omega) (by omega)
  have h : repair_check_3 N d (Scene.mk d a0 r0) rd (rd.length : Int) a N 0 = _ := h
  rw [h, List.drop_zero]
  congr 1
  unfold opB
  rcases res_c (fun x (_ : Int) => !decide (0 ≤ rdx rd x) && agX d a (rdx rd) x) rd 0 with ⟨h1, h2⟩ | ⟨h1, j, z, h2, h3⟩
  · rw [h1, if_neg]
    simp only [List.any_eq_true, not_exists, not_and]
    intro y hy
    have := h2 y _ (at_lt (by rw [hrl]; exact List.mem_range.1 hy))
    rw [Nat.zero_add] at this
    rw [this]; simp
  · rw [h1, if_pos]
    rw [List.any_eq_true]
    exact ⟨j, List.mem_range.2 (by rw [← hrl]; exact (List.getElem?_eq_some_iff.1 h2).1), by simpa using h3⟩
theorem opB_iff {d : Disorder} {a : List Spot} {rd : Nat → Int} (hn : ∀ x, 0 ≤ rd x ∨ rd x = -1) : opB d a rd = false ↔ ∀ x, x < d.items.length → rd x = -1 → homeB d a x = true ∧ ∀ y, y < d.items.length → (ahB d y x && neB a y x) = false ∧ (0 ≤ rd y → ahB d y x = false ∧ neB a x y = false) := by
  unfold opB agX
  constructor
  · intro h x hx hr
    rw [List.any_eq_false] at h
    have h1 := h x (List.mem_range.2 hx)
    rw [decide_eq_false (by omega), Bool.not_false, Bool.true_and, Bool.not_eq_true, List.any_eq_false] at h1
    have key : ∀ y, y < d.items.length → homeB d a x = true ∧ (ahB d y x && neB a y x) = false ∧ (0 ≤ rd y → ahB d y x = false ∧ neB a x y = false) := by
      intro y hy
      have := h1 y (List.mem_range.2 hy)
      unfold agB at this
      simp only [Bool.or_eq_true, not_or, Bool.not_eq_true, Bool.not_eq_false'] at this
      obtain ⟨g1, g2, g3⟩ := this
      refine ⟨g1, g2, fun h0 => ?_⟩
      rw [decide_eq_true h0, Bool.true_and, Bool.or_eq_false_iff] at g3
      exact g3
    exact ⟨(key x hx).1, fun y hy => (key y hy).2⟩
  · intro h
    rw [List.any_eq_false]
    intro x hx
    have hx := List.mem_range.1 hx
    rcases hn x with h0 | h0
    · rw [decide_eq_true h0]; simp
    · rw [decide_eq_false (by omega), Bool.not_false, Bool.true_and, Bool.not_eq_true, List.any_eq_false]
      obtain ⟨g1, g2⟩ := h x hx h0
      intro y hy
      obtain ⟨g3, g4⟩ := g2 y (List.mem_range.1 hy)
      unfold agB
      rw [g1, g3]
      by_cases h2 : 0 ≤ rd y
      · obtain ⟨g5, g6⟩ := g4 h2
        rw [g5, g6]; simp
      · rw [decide_eq_false h2]; simp
/-! ### The check of pulls -/
theorem juB_congr {d : Disorder} {a : List Spot} {rd rd' : Nat → Int} (h : rd = rd') : juB d a rd = juB d a rd' := by rw [h]
theorem check_ok (N : Nat) (hN : 1000 ≤ N) {d : Disorder} (hD : DOk d) {a : List Spot} (hA : AtOk d a) (l : List Pull) (hl : l.length ≤ 900) : ∃ b, repair_check N d l = some b ∧ (b = true ↔ ∃ rd, PsOk d a l rd) := by
  have hli := hD.li
  obtain ⟨a', h1, h2⟩ := open_ok N (by omega) hD
  obtain rfl := at_uniq hD hA h2
  have e0 := ck0 N (d := d) (l := l) (by omega) l.length N 0 (List.replicate d.items.length (-1)) (by omega) (by omega) (by simp)
  have e0 : repair_check_0 N d l (l.length : Int) N 0 (List.replicate d.items.length (-1)) = _ := e0
  rw [List.drop_zero] at e0
  have hr0 : ∀ x, rdx (List.replicate d.items.length (-1)) x = -1 := by
    intro x
    unfold rdx
    rw [List.getElem?_replicate]
    split <;> rfl
  unfold repair_check
  rw [h1, bind_some']
  simp only
  rw [e0, bind_some']
  cases hc : ckR d.items.length l (List.replicate d.items.length (-1)) with
  | none =>
    simp only
    refine ⟨false, rfl, ?_⟩
    constructor
    · intro h; cases h
    · rintro ⟨rd, hP⟩
      obtain ⟨rd', hh⟩ := ckR_ok (n := d.items.length) (l := l) (rd := List.replicate d.items.length (-1)) (by simp) hP.nd (fun p hp => by
        obtain ⟨x, g1, g2, _, g4⟩ := hP.it p hp
        exact ⟨x, g1, g2, g4, by rw [hr0]; omega⟩)
      rw [hc] at hh; cases hh
  | some rd =>
    simp only
    have hS := ckR_some (by simp) hc
    have hsc : Sc d a rd := ⟨hD, hA, by rw [hS.len]; simp⟩
    have hn : ∀ x, 0 ≤ rdx rd x ∨ rdx rd x = -1 := by
      intro x
      rcases hS.on x with h | ⟨p, hp, he⟩
      · rw [hr0] at h; exact .inr h
      · obtain ⟨y, g1, g2, g3, g4, _⟩ := hS.it p hp
        have : y = x := by omega
        subst this; left; omega
    have e2 := first_gen (l := l) (fun _ p => !juB d a (rdx rd) p.item.toNat p.reason p.because p.round) (fun _ _ => false) (repair_check_2 N (Scene.mk d [] []) l (l.length : Int) a rd) (fun n => by unfold repair_check_2; rw [if_neg (by simp)]) (fun n i p hp => by
      have hi := (List.getElem?_eq_some_iff.1 hp).1
      obtain ⟨x, g1, g2, _⟩ := hS.it p (List.mem_of_getElem? hp)
      rw [repair_check_2, if_pos (by simp; omega), getI_nat hp, bind_some']
      simp only
      rw [g1, just_ok hsc N g2, bind_some', Int.toNat_natCast, w64s (by omega)]) l.length N 0 (by omega) (by omega)
    have e2 : repair_check_2 N (Scene.mk d [] []) l (l.length : Int) a rd N 0 = _ := e2
    rw [e2, bind_some', List.drop_zero]
    have mk : ∀ rd', PsOk d a l rd' → rdx rd' = rdx rd := by
      intro rd' hP
      funext x
      by_cases hx : ∃ p ∈ l, p.item = (x : Int)
      · obtain ⟨p, hp, he⟩ := hx
        obtain ⟨y, g1, _, g3, _⟩ := hP.it p hp
        obtain ⟨y', g1', _, g3', _⟩ := hS.it p hp
        have e1 : y = x := by omega
        have e2 : y' = x := by omega
        subst e1; subst e2
        omega
      · rcases hP.on x with h | h
        · rcases hS.on x with h' | h'
          · rw [hr0] at h'; omega
          · exact (hx h').elim
        · exact (hx h).elim
    rcases res_c (fun (_ : Nat) (p : Pull) => !juB d a (rdx rd) p.item.toNat p.reason p.because p.round) l 0 with ⟨q1, q2⟩ | ⟨q1, j, p, q2, q3⟩
    · rw [q1]
      simp only
      rw [ck3 hsc N (by omega), bind_some']
      have hju : ∀ p ∈ l, ∀ x : Nat, p.item = x → juB d a (rdx rd) x p.reason p.because p.round = true := by
        intro p hp x hx
        obtain ⟨j, hj, he⟩ := List.mem_iff_getElem.1 hp
        have := q2 j p (by rw [List.getElem?_eq_getElem hj, he])
        simp only [Bool.not_eq_false'] at this
        rwa [hx, Int.toNat_natCast] at this
      cases ho : opB d a (rdx rd) with
      | true =>
        refine ⟨false, rfl, ?_⟩
        constructor
        · intro h; cases h
        · rintro ⟨rd', hP⟩
          have := (opB_iff hn).2 (by
            have := hP.st
            rw [mk rd' hP] at this
            exact this)
          rw [ho] at this; cases this
      | false =>
        refine ⟨true, rfl, ?_⟩
        constructor
        · intro _
          refine ⟨rd, hsc, hS.nd, fun p hp => ?_, hju, fun x => ?_, (opB_iff hn).1 ho⟩
          · obtain ⟨x, g1, g2, g3, g4, _⟩ := hS.it p hp
            exact ⟨x, g1, g2, g3, g4⟩
          · rcases hS.on x with h | h
            · rw [hr0] at h; exact .inl h
            · exact .inr h
        · intro _; rfl
    · rw [q1]
      simp only
      refine ⟨false, rfl, ?_⟩
      constructor
      · intro h; cases h
      · rintro ⟨rd', hP⟩
        have hp := List.mem_of_getElem? q2
        obtain ⟨x, g1, g2, _⟩ := hP.it p hp
        have := hP.ju p hp x g1
        rw [mk rd' hP] at this
        rw [g1, Int.toNat_natCast, this] at q3
        cases q3
theorem Check_ok (N : Nat) (hN : 1000 ≤ N) {d : Disorder} (hD : DOk d) {a : List Spot} (hA : AtOk d a) (l : List Pull) (hl : l.length ≤ 900) : ∃ b, repair_Check N d l = some (b, 0) ∧ (b = true ↔ ∃ rd, PsOk d a l rd) := by
  obtain ⟨b, h1, h2⟩ := check_ok N hN hD hA l hl
  unfold repair_Check
  rw [valid_ok N (by omega) hD, bind_some', if_neg (by simp), h1, bind_some']
  exact ⟨b, rfl, h2⟩
end Go.W
end
section
set_option linter.unusedVariables false
set_option linter.unusedSimpArgs false
set_option maxRecDepth 100000
namespace Go.W
open Go.AM
/-! ### The examples -/
theorem srt_eq {α : Type} (x0 : α) (f : α → Int) {out l : List α} (hp : out.Perm l) (hl : l.Pairwise fun x y => f x < f y) (hs : out.length < 1000000) : @srtI α ⟨x0⟩ (fun a b => cmpI (f a) (f b)) out = some l := by
  letI : Inhabited α := ⟨x0⟩
  unfold srtI
  rw [if_pos (by omega)]
  congr 1
  have h1 := (srtL_perm (fun a b => cmpI (f a) (f b)) (swo_key f) out).trans hp
  have h2 := srtL_sorted f out
  have inj : ∀ a ∈ l, ∀ b ∈ l, f a = f b → a = b := by
    intro a ha b hb hab
    obtain ⟨i, hi, rfl⟩ := List.mem_iff_getElem.1 ha
    obtain ⟨j, hj, rfl⟩ := List.mem_iff_getElem.1 hb
    rcases Nat.lt_trichotomy i j with h | h | h
    · have := (List.pairwise_iff_getElem.1 hl) i j hi hj h; omega
    · subst h; rfl
    · have := (List.pairwise_iff_getElem.1 hl) j i hj hi h; omega
  refine List.Perm.eq_of_pairwise (le := fun x y => f x ≤ f y) (fun a b ha hb h h' => inj a (h1.mem_iff.1 ha) b hb (by omega)) h2 (hl.imp fun h => by omega) h1
def disA : Disorder := Disorder.mk [(Item.mk 0 1 0 100), (Item.mk 0 0 0 100)] [0] [[0, 1]]
def disB : Disorder := Disorder.mk [(Item.mk 0 2 0 100), (Item.mk 0 1 0 100)] [0] [[0], [1]]
theorem saneA : repair_Pulls 1000 disA = some ([(Pull.mk 0 3 1 0), (Pull.mk 1 2 0 1)], 0) := by
  have h1 : repair_Valid 1000 disA = some true := by kernel_rfl
  have h2 : repair_open 1000 disA = some (Scene.mk disA [] [], [Spot.mk 0 0, Spot.mk 0 1], [-1, -1]) := by kernel_rfl
  have h3 : repair_Pulls_0 1000 disA (Scene.mk disA [] []) [Spot.mk 0 0, Spot.mk 0 1] 1000 [] 0 [-1, -1] = some [(Pull.mk 0 3 1 0), (Pull.mk 1 2 0 1)] := by kernel_rfl
  unfold repair_Pulls
  rw [h1, bind_some', if_neg (by simp), h2, bind_some']
  simp only
  rw [h3, bind_some', srt_eq (Pull.mk 0 0 0 0) Pull.item (List.Perm.refl _) (by simp) (by simp), bind_some']
theorem saneB : repair_Pulls 1000 disB = some ([(Pull.mk 0 3 1 1), (Pull.mk 1 1 (-1) 0)], 0) := by
  have h1 : repair_Valid 1000 disB = some true := by kernel_rfl
  have h2 : repair_open 1000 disB = some (Scene.mk disB [] [], [Spot.mk 0 0, Spot.mk 1 0], [-1, -1]) := by kernel_rfl
  have h3 : repair_Pulls_0 1000 disB (Scene.mk disB [] []) [Spot.mk 0 0, Spot.mk 1 0] 1000 [] 0 [-1, -1] = some [(Pull.mk 1 1 (-1) 0), (Pull.mk 0 3 1 1)] := by kernel_rfl
  unfold repair_Pulls
  rw [h1, bind_some', if_neg (by simp), h2, bind_some']
  simp only
  rw [h3, bind_some', srt_eq (Pull.mk 0 0 0 0) Pull.item (List.Perm.swap _ _ _) (by simp) (by simp), bind_some']
theorem sane33 : l33_sane 1000 = some true := by
  unfold l33_sane
  have hA := saneA
  have hB := saneB
  unfold disA at hA
  unfold disB at hB
  rw [hA, bind_some', hB, bind_some']
  have hC : repair_Check 1000 (Disorder.mk [(Item.mk 0 2 0 100), (Item.mk 0 1 0 100)] [0] [[0], [1]]) [(Pull.mk 0 3 1 1), (Pull.mk 1 1 (-1) 0)] = some (true, 0) := by kernel_rfl
  simp only
  rw [hC, bind_some']
  have hZ : l33_sane_0 1000 [(Pull.mk 0 3 1 0), (Pull.mk 1 2 0 1)] 0 [(Pull.mk 0 3 1 1), (Pull.mk 1 1 (-1) 0)] 0 true 0 = some true := by kernel_rfl
  simp only
  rw [hZ, bind_some']
/-! ### What proves itself -/
theorem rd_val {d : Disorder} {a : List Spot} {l : List Pull} {rd : List Int} (h : PsOk d a l rd) {x : Nat} (h0 : 0 ≤ rdx rd x) : ∃ p ∈ l, p.item = (x : Int) ∧ p.round = rdx rd x := by
  rcases h.on x with h1 | ⟨p, hp, he⟩
  · omega
  · obtain ⟨y, g1, g2, g3, g4⟩ := h.it p hp
    have : y = x := by omega
    subst this
    exact ⟨p, hp, he, g3.symm⟩
/-- A pull left out. -/
theorem less_no {d : Disorder} {a : List Spot} {l1 l2 : List Pull} {p : Pull} {rd rd' : List Int} (h : PsOk d a (l1 ++ p :: l2) rd) (h' : PsOk d a (l1 ++ l2) rd') : False := by
  have hp : p ∈ l1 ++ p :: l2 := by simp
  obtain ⟨x, g1, g2, g3, g4⟩ := h.it p hp
  have hnd := h.nd
  rw [List.map_append, List.map_cons, List.nodup_append] at hnd
  obtain ⟨d1, d2, d3⟩ := hnd
  have d2' := List.nodup_cons.1 d2
  have hx : rdx rd' x = -1 := by
    rcases h'.on x with h1 | ⟨q, hq, he⟩
    · exact h1
    · exfalso
      rcases List.mem_append.1 hq with hq | hq
      · exact d3 q.item (List.mem_map.2 ⟨q, hq, rfl⟩) p.item List.mem_cons_self (by omega)
      · exact d2'.1 (List.mem_map.2 ⟨q, hq, by omega⟩)
  have same : ∀ y, 0 ≤ rdx rd y → y ≠ x → 0 ≤ rdx rd' y := by
    intro y hy hyx
    obtain ⟨q, hq, he, hr⟩ := rd_val h hy
    have hq' : q ∈ l1 ++ l2 := by
      rcases List.mem_append.1 hq with hq | hq
      · exact List.mem_append.2 (.inl hq)
      · rcases List.mem_cons.1 hq with rfl | hq
        · omega
        · exact List.mem_append.2 (.inr hq)
    obtain ⟨y', k1, k2, k3, k4⟩ := h'.it q hq'
    have : y' = y := by omega
    subst this; omega
  obtain ⟨s1, s2⟩ := h'.st x g2 hx
  have hj := h.ju p hp x g1
  unfold juB at hj
  split at hj
  · rw [s1] at hj; simp at hj
  · split at hj
    · cases hj
    · rename_i hr
      have hlt : p.because.toNat < d.items.length := by omega
      have hpu : ∀ n, n = p.round → puB (rdx rd) p.because.toNat n = true → 0 ≤ rdx rd' p.because.toNat := by
        intro n hn hq
        unfold puB at hq
        simp only [Bool.and_eq_true, decide_eq_true_eq] at hq
        refine same _ hq.1 fun e => ?_
        rw [e] at hq; omega
      split at hj
      · simp only [Bool.and_eq_true] at hj
        have := (s2 _ hlt).1
        rw [hj.2.1, hj.2.2] at this; cases this
      · split at hj
        · simp only [Bool.and_eq_true] at hj
          have := (s2 _ hlt).2 (hpu _ rfl hj.2)
          rw [hj.1] at this; cases this.1
        · split at hj
          · simp only [Bool.and_eq_true] at hj
            have := (s2 _ hlt).2 (hpu _ rfl hj.2)
            rw [hj.1] at this; cases this.2
          · cases hj
theorem ne_irr {a : List Spot} {x : Nat} : neB a x x = false := by unfold neB; simp
theorem ah_irr {d : Disorder} {x : Nat} : ahB d x x = false := by unfold ahB; simp
/-- A pull added. -/
theorem more_no {d : Disorder} {a : List Spot} {l : List Pull} {rd rd' : List Int} {x : Nat} (hx : x < d.items.length) {r y : Int} (h : PsOk d a l rd) (hr : rdx rd x = -1) (h' : PsOk d a (l ++ [Pull.mk x r y 9]) rd') : False := by
  obtain ⟨s1, s2⟩ := h.st x hx hr
  have hj := h'.ju _ (List.mem_append.2 (.inr (List.mem_singleton.2 rfl))) x rfl
  have old : ∀ z, 0 ≤ rdx rd' z → z ≠ x → 0 ≤ rdx rd z := by
    intro z hz hzx
    obtain ⟨q, hq, he, _⟩ := rd_val h' hz
    rcases List.mem_append.1 hq with hq | hq
    · obtain ⟨z', k1, k2, k3, k4⟩ := h.it q hq
      have : z' = z := by omega
      subst this; omega
    · simp at hq; subst hq; simp only at he; omega
  unfold juB at hj
  simp only at hj
  split at hj
  · rw [s1] at hj; simp at hj
  · split at hj
    · cases hj
    · rename_i hrg
      have hlt : y.toNat < d.items.length := by omega
      have hpu : puB (rdx rd') y.toNat 9 = true → y.toNat ≠ x → 0 ≤ rdx rd y.toNat := by
        intro hq hne
        unfold puB at hq
        simp only [Bool.and_eq_true, decide_eq_true_eq] at hq
        exact old _ hq.1 hne
      split at hj
      · omega
      · split at hj
        · simp only [Bool.and_eq_true] at hj
          by_cases he : y.toNat = x
          · rw [he, ah_irr] at hj; cases hj.1
          · have := (s2 _ hlt).2 (hpu hj.2 he)
            rw [hj.1] at this; cases this.1
        · split at hj
          · simp only [Bool.and_eq_true] at hj
            by_cases he : y.toNat = x
            · rw [he, ne_irr] at hj; cases hj.1
            · have := (s2 _ hlt).2 (hpu hj.2 he)
              rw [hj.1] at this; cases this.2
          · cases hj
/-! ### The law -/
theorem place_ok (N : Nat) (x n : Int) (h : 1 ≤ n ∧ n ≤ 1000000) : ∃ r, yardgen_Place N x n = some r ∧ 0 ≤ r ∧ r < n := by
  unfold yardgen_Place
  rw [if_neg (by simp; omega)]
  have hm : modI x n = some (x.tmod n) := by unfold modI; rw [if_neg (by omega)]
  have h1 : x.tmod n < n := Int.tmod_lt_of_pos _ (by omega)
  have h2 : -n < x.tmod n := by have := Int.lt_tmod_of_pos x (by omega : 0 < n); omega
  rw [hm, bind_some']
  unfold yardgen_Place_0
  by_cases h3 : x.tmod n < 0
  · rw [if_pos (by simpa using h3), lt_def, bind_some', w64 (by omega) (by omega)]
    exact ⟨_, rfl, by omega, by omega⟩
  · rw [if_neg (by simpa using h3), bind_some']
    exact ⟨_, rfl, by omega, h1⟩
theorem pulled_ok (N : Nat) (l : List Pull) (x : Int) (hl : l.length < N) (hl2 : l.length ≤ 100000) : ∃ b, r33_Pulled N l x = some b ∧ (b = true ↔ ∃ p ∈ l, p.item = x) := by
  have h := first_gen (l := l) (fun _ p => p.item == x) (fun _ _ => true) (r33_Pulled_0 N l x) (fun n => by unfold r33_Pulled_0; rw [if_neg (by simp)]) (fun n i p hp => by
    have hi := (List.getElem?_eq_some_iff.1 hp).1
    rw [r33_Pulled_0, if_pos (by simp; omega), getI_nat hp, bind_some', w64s (by omega), lt_def]) l.length N 0 hl (by omega)
  have h : r33_Pulled_0 N l x N 0 = _ := h
  unfold r33_Pulled
  rw [h, bind_some', List.drop_zero]
  have key : ∀ (l : List Pull) (i : Nat), (res (fun (_ : Nat) p => p.item == x) (fun _ _ => true) i l = .inl () ∧ ¬ ∃ p ∈ l, p.item = x) ∨ (res (fun (_ : Nat) p => p.item == x) (fun _ _ => true) i l = .inr true ∧ ∃ p ∈ l, p.item = x) := by
    intro l
    induction l with
    | nil => intro i; exact .inl ⟨rfl, by simp⟩
    | cons p l ih =>
      intro i
      rw [res]
      by_cases hp : p.item = x
      · rw [if_pos (by simpa using hp)]; exact .inr ⟨rfl, p, by simp, hp⟩
      · rw [if_neg (by simpa using hp)]
        rcases ih (i + 1) with ⟨h1, h2⟩ | ⟨h1, q, h2, h3⟩
        · refine .inl ⟨h1, ?_⟩
          rintro ⟨q, hq, he⟩
          rcases List.mem_cons.1 hq with rfl | hq
          · exact hp he
          · exact h2 ⟨q, hq, he⟩
        · exact .inr ⟨h1, q, List.mem_cons_of_mem _ h2, h3⟩
  rcases key l 0 with ⟨h1, h2⟩ | ⟨h1, h2⟩
  · rw [h1]; exact ⟨false, rfl, by simpa using h2⟩
  · rw [h1]; exact ⟨true, rfl, by simpa using h2⟩
theorem PsOk.len {d : Disorder} {a : List Spot} {out : List Pull} {rd : List Int} (h : PsOk d a out rd) : out.length ≤ d.items.length := by
  have h1 : (out.map Pull.item).length ≤ ((List.range d.items.length).map fun (x : Nat) => (x : Int)).length := by
    refine List.Nodup.length_le_of_subset h.nd fun i hi => ?_
    obtain ⟨p, hp, rfl⟩ := List.mem_map.1 hi
    obtain ⟨x, h1, h2, _⟩ := h.it p hp
    exact List.mem_map.2 ⟨x, List.mem_range.2 h2, h1.symm⟩
  simpa using h1
theorem prv5 {d : Disorder} (hD : DOk d) {a : List Spot} {l : List Pull} {rd : List Int} (h : PsOk d a l rd) (i : Int) {x : Nat} (hx : x < d.items.length) (hr : rdx rd x = -1) : ∀ (k m j : Nat), k < m → j + k = 4 → l33_RepairProves_5 1000 i d l (x : Int) m (j : Int) = some (.inl ())
  | k, 0, j, hm, _ => by omega
  | 0, m + 1, j, hm, hj => by
    unfold l33_RepairProves_5
    rw [if_neg (by simp; omega)]
  | k + 1, m + 1, j, hm, hj => by
    have hli := hD.li
    have hlen := h.len
    unfold l33_RepairProves_5
    rw [if_pos (by simp; omega), appI_ok (by simp; omega), bind_some', w64 (n := (d.items.length : Int) + 1) (by omega) (by omega)]
    obtain ⟨r, h1, h2, h3⟩ := place_ok 1000 i ((d.items.length : Int) + 1) (by omega)
    rw [h1, bind_some', w64 (n := r - 1) (by omega) (by omega), List.nil_append, appI_ok (by simp; omega), bind_some']
    obtain ⟨b, g1, g2⟩ := Check_ok 1000 (by omega) hD h.sc.at' (l ++ [Pull.mk x j (r - 1) 9]) (by simp; omega)
    have hb : b = false := by
      cases b with
      | false => rfl
      | true =>
        obtain ⟨rd', hP⟩ := g2.1 rfl
        exact (more_no hx h hr hP).elim
    subst hb
    rw [g1, bind_some']
    have h6 : l33_RepairProves_6 1000 false 0 = some false := rfl
    simp only
    rw [h6, bind_some', if_neg (by simp), lt_def, w64s (by omega)]
    exact prv5 hD h i hx hr k m (j + 1) (by omega) (by omega)
theorem prv3 {d : Disorder} (hD : DOk d) {a : List Spot} {l : List Pull} {rd : List Int} (h : PsOk d a l rd) (i : Int) : ∀ (k m x : Nat), k < m → x + k = d.items.length → l33_RepairProves_3 1000 i d l m (x : Int) = some (.inl ())
  | k, 0, j, hm, _ => by omega
  | 0, m + 1, x, hm, hx => by
    unfold l33_RepairProves_3
    rw [if_neg (by simp; omega)]
  | k + 1, m + 1, x, hm, hx => by
    have hli := hD.li
    have hlen := h.len
    unfold l33_RepairProves_3
    rw [if_pos (by simp; omega)]
    have h4 : l33_RepairProves_4 1000 i d l (x : Int) = some (.inl ()) := by
      unfold l33_RepairProves_4
      obtain ⟨b, g1, g2⟩ := pulled_ok 1000 l (x : Int) (by omega) (by omega)
      rw [g1, bind_some']
      by_cases hb : b = true
      · rw [if_pos hb]
      · rw [if_neg hb]
        have hr : rdx rd x = -1 := by
          rcases h.on x with h1 | h1
          · exact h1
          · exact (hb (g2.2 h1)).elim
        have := prv5 hD h i (show x < d.items.length by omega) hr 3 1000 1 (by omega) (by omega)
        have this : l33_RepairProves_5 1000 i d l (x : Int) 1000 1 = _ := this
        rw [this, bind_some']
    rw [h4, bind_some']
    simp only
    rw [lt_def, w64s (by omega)]
    exact prv3 hD h i k m (x + 1) (by omega) (by omega)
theorem provesT : ∀ (t : List Int) (i : Int), ∃ N, l33_RepairProves N t i = some true := by
  intro t i
  refine ⟨1000, ?_⟩
  unfold l33_RepairProves gen_New
  rw [bind_some']
  obtain ⟨d, s', e1, hD, _, _⟩ := made_dis 1000 (by omega) (mk0 t) 14 (by omega)
  rw [e1, bind_some']
  obtain ⟨ps, a, rd, e2, hP, hsort⟩ := pulls_ok 1000 (by omega) (by omega) hD
  simp only
  rw [e2, bind_some']
  have hli := hD.li
  have hlen := hP.len
  obtain ⟨b, g1, g2⟩ := Check_ok 1000 (by omega) hD hP.sc.at' ps (by omega)
  have hb : b = true := g2.2 ⟨rd, hP⟩
  subst hb
  simp only
  rw [g1, bind_some']
  have h0 : l33_RepairProves_0 1000 0 true 0 = some false := rfl
  simp only
  rw [h0, bind_some', if_neg (by simp)]
  have h1 : l33_RepairProves_1 1000 i d ps (decide (0 < (ps.length : Int))) = some (.inl ()) := by
    unfold l33_RepairProves_1
    by_cases hp : 0 < (ps.length : Int)
    · rw [if_pos (by simpa using hp)]
      obtain ⟨r, p1, p2, p3⟩ := place_ok 1000 i (ps.length : Int) (by omega)
      obtain ⟨j, rfl⟩ := Int.eq_ofNat_of_zero_le p2
      have hj : j < ps.length := by omega
      rw [p1, bind_some', cutI_take (by omega), bind_some', appI_ok (by simp; omega), bind_some', w64s (by omega), cutI_drop (by omega), bind_some', List.nil_append, appI_ok (by simp; omega), bind_some']
      have hsplit : ps = ps.take j ++ ps[j] :: ps.drop (j + 1) := by
        conv => lhs; rw [← List.take_append_drop j ps, drop_at (at_lt hj)]
      obtain ⟨b, g1, g2⟩ := Check_ok 1000 (by omega) hD hP.sc.at' (ps.take j ++ ps.drop (j + 1)) (by simp; omega)
      have hb : b = false := by
        cases b with
        | false => rfl
        | true =>
          obtain ⟨rd', hP'⟩ := g2.1 rfl
          rw [hsplit] at hP
          exact (less_no hP hP').elim
      subst hb
      rw [g1, bind_some']
      rfl
    · rw [if_neg (by simpa using hp)]
  rw [h1, bind_some']
  simp only
  have h3 := prv3 hD hP i d.items.length 1000 0 (by omega) (by omega)
  have h3 : l33_RepairProves_3 1000 i d ps 1000 0 = _ := h3
  rw [h3, bind_some']
  simp only
  rw [sane33, bind_some']
end Go.W
end
section
set_option linter.unusedVariables false
set_option linter.unusedSimpArgs false
namespace Go.W
open Go.AM
def pulB (l : List Pull) (i : Int) : Bool := decide (∃ p ∈ l, p.item = i)
theorem conF (N : Nat) (l : List Pull) (i : Int) (hN : l.length < N) (hl : l.length ≤ 100000) : slices_ContainsFunc_api_Pull_api_Pull__repair_split_1_f62 N l i = some (pulB l i) := by
  unfold slices_ContainsFunc_api_Pull_api_Pull__repair_split_1_f62 slices_IndexFunc_api_Pull_api_Pull__repair_split_1_f62
  have h := first_gen (l := l) (fun _ p => p.item == i) (fun j _ => (j : Int)) (slices_IndexFunc_api_Pull_api_Pull__repair_split_1_f62_0 N l i (l.length : Int)) (fun n => by unfold slices_IndexFunc_api_Pull_api_Pull__repair_split_1_f62_0; rw [if_neg (by simp)]) (fun n j p hp => by
    have hj := (List.getElem?_eq_some_iff.1 hp).1
    have h1 : repair_split_1_f62 N p i = some (p.item == i) := rfl
    rw [slices_IndexFunc_api_Pull_api_Pull__repair_split_1_f62_0, if_pos (by simp; omega), getI_nat hp, bind_some', h1, bind_some', w64s (by omega)]) l.length N 0 hN (by omega)
  have h : slices_IndexFunc_api_Pull_api_Pull__repair_split_1_f62_0 N l i (l.length : Int) N 0 = _ := h
  rw [h, bind_some', List.drop_zero]
  have e : ∀ r : Int, (firstI (fun (_ : Nat) (p : Pull) => p.item == i) 0 l = r) → decide (0 ≤ r) = pulB l i := by
    intro r hr
    unfold pulB
    rcases firstI_spec (fun (_ : Nat) (p : Pull) => p.item == i) l 0 with ⟨h1, h2⟩ | ⟨j, p, h1, h2, h3, h4⟩
    · rw [← hr, h1]
      symm
      rw [show (decide ((0 : Int) ≤ -1)) = false from rfl, decide_eq_false_iff_not]
      rintro ⟨p, hp, he⟩
      obtain ⟨j, hj, hh⟩ := List.mem_iff_getElem.1 hp
      have := h2 j p (by rw [List.getElem?_eq_getElem hj, hh])
      simp [he] at this
    · rw [← hr, h1, decide_eq_true (by omega)]
      symm
      rw [decide_eq_true_iff]
      exact ⟨p, List.mem_of_getElem? h2, by simpa using h3⟩
  rcases res_first (fun (_ : Nat) (p : Pull) => p.item == i) l 0 with ⟨h1, h2⟩ | ⟨h1, h2⟩
  · rw [h1]
    simp only
    rw [bind_some', lt_def, e _ h2]
  · rw [h1]
    simp only
    rw [bind_some', lt_def, e _ rfl]
theorem set_self {α : Type} {l : List α} {i : Nat} {a : α} (h : l[i]? = some a) : l.set i a = l := by
  apply List.ext_getElem?
  intro j
  rw [List.getElem?_set]
  have hi := (List.getElem?_eq_some_iff.1 h).1
  by_cases hij : i = j
  · subst hij; rw [if_pos rfl, if_pos hi, h]
  · simp [hij]
/-- What is kept of a track. -/
def kpB (l : List Pull) (stay : Bool) (i : Int) : Bool := !(pulB l i == stay)
theorem split1 (N : Nat) (hN : 1000 ≤ N) (ps : List Pull) (hp : ps.length ≤ 900) (stay : Bool) (t : Nat) (l : List Int) (hl : l.length ≤ 1000) : ∀ (k m i : Nat) (x7 : List (List Int)) (cur : List Int), k < m → i + k = l.length → cur.length + k ≤ 2000 → x7[t]? = some cur →
    repair_split_1 N ps stay (t : Int) l (l.length : Int) m x7 (i : Int) = some (x7.set t (cur ++ (l.drop i).filter (kpB ps stay)))
  | k, 0, i, x7, cur, h, _, _, _ => by omega
  | 0, m + 1, i, x7, cur, h, hi, hc, hx => by
    unfold repair_split_1
    rw [if_neg (by simp; omega), List.drop_of_length_le (by omega), List.filter_nil, List.append_nil, set_self hx]
  | k + 1, m + 1, i, x7, cur, h, hi, hc, hx => by
    have hlt : i < l.length := by omega
    have ht := (List.getElem?_eq_some_iff.1 hx).1
    rw [repair_split_1, if_pos (by simp; omega)]
    have step : repair_split_2 N ps stay x7 (t : Int) l (i : Int) = some (if kpB ps stay l[i] = true then x7.set t (cur ++ [l[i]]) else x7) := by
      unfold repair_split_2
      rw [getI_nat (at_lt hlt), bind_some', conF N ps _ (by omega) (by omega), bind_some']
      show (if kpB ps stay l[i] = true then _ else _) = _
      by_cases hk : kpB ps stay l[i] = true
      · rw [if_pos hk, if_pos hk, getI_nat hx, bind_some', bind_some', appI_ok (by simp; omega), bind_some', bind_some', if_pos rfl, bind_some', Int.toNat_natCast]
      · rw [if_neg hk, if_neg hk]
    rw [step, bind_some', w64s (by omega), drop_at (at_lt hlt), List.filter_cons]
    by_cases hk : kpB ps stay l[i] = true
    · rw [if_pos hk, if_pos hk, split1 N hN ps hp stay t l hl k m (i + 1) _ (cur ++ [l[i]]) (by omega) (by omega) (by simp; omega) (by rw [List.getElem?_set_self ht]), List.set_set, List.append_assoc]
      rfl
    · rw [if_neg hk, if_neg hk, split1 N hN ps hp stay t l hl k m (i + 1) x7 cur (by omega) (by omega) (by omega) hx]
theorem split0 (N : Nat) (hN : 1000 ≤ N) (ps : List Pull) (hp : ps.length ≤ 900) (stay : Bool) (ts : List (List Int)) (hts : ts.length ≤ 900) (hl : ∀ l ∈ ts, l.length ≤ 900) : ∀ (k m t : Nat) (x7 : List (List Int)), k < m → t + k = ts.length → x7.length = ts.length →
    (∀ (t' : Nat) (l : List Int), ts[t']? = some l → x7[t']? = some (if t' < t then l.filter (kpB ps stay) else [])) → repair_split_0 N ps stay ts (ts.length : Int) m x7 (t : Int) = some (ts.map fun l => l.filter (kpB ps stay))
  | k, 0, t, x7, h, _, _, _ => by omega
  | 0, m + 1, t, x7, h, ht, hx, hI => by
    unfold repair_split_0
    rw [if_neg (by simp; omega)]
    congr 1
    refine List.ext_getElem (by simp [hx]) fun j h1 h2 => ?_
    have := hI j _ (at_lt (by omega))
    rw [at_lt h1, if_pos (by omega)] at this
    rw [List.getElem_map]
    exact Option.some.inj this
  | k + 1, m + 1, t, x7, h, ht, hx, hI => by
    have hlt : t < ts.length := by omega
    have hc := hI t _ (at_lt hlt)
    rw [if_neg (by omega)] at hc
    have hll := hl _ (List.getElem_mem hlt)
    have h1 := split1 N hN ps hp stay t ts[t] (by omega) ts[t].length N 0 x7 [] (by omega) (by omega) (by simp; omega) hc
    have h1 : repair_split_1 N ps stay (t : Int) ts[t] (ts[t].length : Int) N x7 0 = _ := h1
    rw [repair_split_0, if_pos (by simp; omega), getI_nat (at_lt hlt), bind_some', h1, bind_some', w64s (by omega), List.drop_zero, List.nil_append]
    refine split0 N hN ps hp stay ts hts hl k m (t + 1) _ (by omega) (by omega) (by simp [hx]) fun t' l hl' => ?_
    rw [List.getElem?_set]
    by_cases he : t = t'
    · subst he
      rw [if_pos rfl, if_pos (by omega), if_pos (by omega)]
      rw [at_lt hlt] at hl'; cases hl'; rfl
    · rw [if_neg he, hI t' l hl']
      congr 1
      by_cases h2 : t' < t
      · rw [if_pos h2, if_pos (by omega)]
      · rw [if_neg h2, if_neg (by omega)]
theorem trk_len {d : Disorder} (hD : DOk d) : ∀ l ∈ d.tracks, l.length ≤ 96 := by
  intro l hl
  obtain ⟨t, ht, he⟩ := List.mem_iff_getElem.1 hl
  have h0 : d.tracks[t]? = some l := by rw [List.getElem?_eq_getElem ht, he]
  have h1 := tot_succ h0
  have h2 := tot_le (ts := d.tracks) (d.tracks.length - (t + 1)) (t + 1)
  rw [show t + 1 + (d.tracks.length - (t + 1)) = d.tracks.length by omega, hD.tk.tot] at h2
  have := hD.li
  omega
theorem split_ok (N : Nat) (hN : 1000 ≤ N) {d : Disorder} (hD : DOk d) (ps : List Pull) (hp : ps.length ≤ 900) (stay : Bool) : repair_split N d ps stay = some (d.tracks.map fun l => l.filter (kpB ps stay)) := by
  have := hD.lt
  unfold repair_split
  rw [mkI_ok (by omega) (by omega), bind_some']
  have h := split0 N hN ps hp stay d.tracks (by omega) (fun l hl => by have := trk_len hD l hl; omega) d.tracks.length N 0 (List.replicate (d.tracks.length : Int).toNat []) (by omega) (by omega) (by simp) (fun t' l hl => by
    have := (List.getElem?_eq_some_iff.1 hl).1
    rw [List.getElem?_replicate, if_pos (by simpa using this), if_neg (by omega)])
  have h : repair_split_0 N ps stay d.tracks (d.tracks.length : Int) N (List.replicate (d.tracks.length : Int).toNat []) 0 = _ := h
  rw [h, bind_some']
theorem rest_ok (N : Nat) (hN : 1000 ≤ N) {d : Disorder} (hD : DOk d) {a : List Spot} {ps : List Pull} {rd : List Int} (hP : PsOk d a ps rd) : repair_Rest N d ps = some (d.tracks.map (fun l => l.filter (kpB ps true)), 0) := by
  have hli := hD.li
  have hlen := hP.len
  obtain ⟨b, g1, g2⟩ := Check_ok N hN hD hP.sc.at' ps (by omega)
  have hb : b = true := g2.2 ⟨rd, hP⟩
  subst hb
  unfold repair_Rest
  rw [g1, bind_some', lt_def, if_neg (by simp), lt_def, if_neg (by simp), split_ok N hN hD ps (by omega) true, bind_some']
  simp
/-! ### What stays are the first ones -/
theorem filter_pre {α : Type} {q : α → Bool} : ∀ {l : List α}, (∀ (i j : Nat) (x y : α), i < j → l[i]? = some x → l[j]? = some y → q y = true → q x = true) → l.filter q = l.take (l.filter q).length
  | [], _ => rfl
  | x :: l, h => by
    rw [List.filter_cons]
    by_cases hx : q x = true
    · rw [if_pos hx, List.length_cons, List.take_succ_cons]
      congr 1
      exact filter_pre fun i j a b hij ha hb => h (i + 1) (j + 1) a b (by omega) (by simpa using ha) (by simpa using hb)
    · rw [if_neg hx]
      have : l.filter q = [] := by
        rw [List.filter_eq_nil_iff]
        intro y hy hq
        obtain ⟨j, hj, he⟩ := List.mem_iff_getElem.1 hy
        exact hx (h 0 (j + 1) x y (by omega) rfl (by simp [List.getElem?_eq_getElem hj, he]) hq)
      rw [this]; rfl
theorem pul_rd {d : Disorder} {a : List Spot} {ps : List Pull} {rd : List Int} (hP : PsOk d a ps rd) (x : Nat) : kpB ps true (x : Int) = true ↔ rdx rd x = -1 := by
  unfold kpB pulB
  simp only [beq_true, Bool.not_eq_true', decide_eq_false_iff_not]
  constructor
  · intro h
    rcases hP.on x with h1 | h1
    · exact h1
    · exact (h h1).elim
  · rintro h ⟨p, hp, he⟩
    obtain ⟨y, g1, g2, g3, g4⟩ := hP.it p hp
    have : y = x := by omega
    subst this; omega
theorem spot_of {d : Disorder} {a : List Spot} (hA : AtOk d a) {t p x : Nat} (h : posD d.tracks t p = some (x : Int)) : atx a x = Spot.mk t p := by
  unfold atx; rw [hA.ps t p x h]; rfl
theorem near_of {d : Disorder} {a : List Spot} (hA : AtOk d a) {t p q x y : Nat} (h : posD d.tracks t p = some (x : Int)) (h' : posD d.tracks t q = some (y : Int)) (hpq : p < q) : neB a y x = true := by
  unfold neB
  rw [spot_of hA h, spot_of hA h']
  simp; omega
theorem stay_pre {d : Disorder} {a : List Spot} {ps : List Pull} {rd : List Int} (hP : PsOk d a ps rd) {t : Nat} {l : List Int} (hl : d.tracks[t]? = some l) : l.filter (kpB ps true) = l.take (l.filter (kpB ps true)).length := by
  have hD := hP.sc.ok
  refine filter_pre fun i j x y hij hx hy hq => ?_
  have px : posD d.tracks t i = some x := by unfold posD; rw [hl]; exact hx
  have py : posD d.tracks t j = some y := by unfold posD; rw [hl]; exact hy
  obtain ⟨x0, rfl⟩ := Int.eq_ofNat_of_zero_le (hD.tk.rg _ _ _ px).1
  obtain ⟨y0, rfl⟩ := Int.eq_ofNat_of_zero_le (hD.tk.rg _ _ _ py).1
  have rx := hD.tk.rg _ _ _ px
  have ry := hD.tk.rg _ _ _ py
  rw [pul_rd hP] at hq ⊢
  obtain ⟨_, s2⟩ := hP.st y0 (by omega) hq
  rcases hP.on x0 with h1 | ⟨p, hp, he⟩
  · exact h1
  · obtain ⟨z, g1, g2, g3, g4⟩ := hP.it p hp
    have : z = x0 := by omega
    subst this
    have := ((s2 z g2).2 (by omega)).2
    rw [near_of hP.sc.at' px py hij] at this
    cases this
/-! ### The law -/
theorem sty2 {d : Disorder} {a : List Spot} {ps : List Pull} {rd : List Int} (hP : PsOk d a ps rd) {t : Nat} {l : List Int} (hl : d.tracks[t]? = some l) : ∀ (k m j : Nat), k < m → j + k = (l.filter (kpB ps true)).length → l33_RepairStays_2 1000 d (d.tracks.map fun l => l.filter (kpB ps true)) (t : Int) m (j : Int) = some (.inl ())
  | k, 0, j, h, _ => by omega
  | 0, m + 1, j, h, hj => by
    have hr : (d.tracks.map fun l => l.filter (kpB ps true))[t]? = some (l.filter (kpB ps true)) := by rw [List.getElem?_map, hl]; rfl
    unfold l33_RepairStays_2
    rw [getI_nat hr, bind_some', if_neg (by simp; omega)]
  | k + 1, m + 1, j, h, hj => by
    have hD := hP.sc.ok
    have hr : (d.tracks.map fun l => l.filter (kpB ps true))[t]? = some (l.filter (kpB ps true)) := by rw [List.getElem?_map, hl]; rfl
    have hpre := stay_pre hP hl
    have hle : (l.filter (kpB ps true)).length ≤ l.length := List.length_filter_le _ _
    have hll := trk_len hD l (List.mem_of_getElem? hl)
    have hjl : j < (l.filter (kpB ps true)).length := by omega
    have get : ∀ i, i < (l.filter (kpB ps true)).length → (l.filter (kpB ps true))[i]? = l[i]? := by
      intro i hi
      rw [hpre, List.getElem?_take, if_pos hi]
    have item : ∀ i, i < (l.filter (kpB ps true)).length → ∃ x : Nat, l[i]? = some (x : Int) ∧ x < d.items.length ∧ rdx rd x = -1 ∧ posD d.tracks t i = some (x : Int) := by
      intro i hi
      have hi' := at_lt hi
      have hk := List.mem_filter.1 (List.getElem_mem hi)
      rw [get i hi] at hi'
      have px : posD d.tracks t i = some (l.filter (kpB ps true))[i] := by unfold posD; rw [hl]; exact hi'
      obtain ⟨x, hx⟩ := Int.eq_ofNat_of_zero_le (hD.tk.rg _ _ _ px).1
      have rx := hD.tk.rg _ _ _ px
      rw [hx] at hi' px rx hk
      exact ⟨x, hi', by omega, (pul_rd hP x).1 hk.2, px⟩
    obtain ⟨x, hx1, hx2, hx3, hx4⟩ := item j hjl
    have gx := get j hjl
    rw [hx1] at gx
    obtain ⟨s1, s2⟩ := hP.st x hx2 hx3
    have h3 : l33_RepairStays_3 1000 d (d.tracks.map fun l => l.filter (kpB ps true)) (t : Int) (j : Int) (x : Int) = some false := by
      unfold l33_RepairStays_3
      rw [getI_nat hl, bind_some', if_neg (by simp; omega), bind_some', getI_nat hx1, bind_some', if_neg (by simp), itm_at hx2, bind_some', hmx_at hP.sc hx2, bind_some', if_neg (by
        unfold homeB at s1
        rw [spot_of hP.sc.at' hx4] at s1
        simp only [beq_iff_eq] at s1
        simp [s1])]
      by_cases hj0 : 0 < j
      · obtain ⟨i, rfl⟩ : ∃ i, j = i + 1 := ⟨j - 1, by omega⟩
        obtain ⟨y, hy1, hy2, hy3, hy4⟩ := item i (by omega)
        have gy := get i (by omega)
        rw [hy1] at gy
        rw [if_pos (by simp), getI_nat hr, bind_some', w64p (by omega), getI_nat gy, bind_some', itm_at hy2, bind_some', bind_some']
        congr 1
        rw [decide_eq_false_iff_not]
        intro hlt
        obtain ⟨q1, q2⟩ := hP.st y hy2 hy3
        have hne := near_of hP.sc.at' hy4 hx4 (by omega)
        have hah : ahB d x y = true := by
          unfold ahB
          simp only [Bool.and_eq_true, beq_iff_eq, decide_eq_true_eq]
          refine ⟨?_, hlt⟩
          -- both stand at the home of their trains
          have s1' := s1
          unfold homeB at q1 s1'
          rw [spot_of hP.sc.at' hy4] at q1
          rw [spot_of hP.sc.at' hx4] at s1'
          simp only [beq_iff_eq] at q1 s1'
          have e1 := hmx_at hP.sc hx2
          have e2 := hmx_at hP.sc hy2
          rw [← s1'] at e1
          rw [← q1] at e2
          have hx0 := hD.it _ (itm_mem hx2)
          have hy0 := hD.it _ (itm_mem hy2)
          obtain ⟨u, hu⟩ := Int.eq_ofNat_of_zero_le hx0.1
          obtain ⟨v, hv⟩ := Int.eq_ofNat_of_zero_le hy0.1
          have hul : u < d.homes.length := by omega
          have hvl : v < d.homes.length := by omega
          rw [hu, getI_nat (at_lt hul)] at e1
          rw [hv, getI_nat (at_lt hvl)] at e2
          have e3 := Option.some.inj e1
          have e4 := Option.some.inj e2
          have huv : u = v := by
            rcases Nat.lt_trichotomy u v with h | h | h
            · exact ((List.pairwise_iff_getElem.1 hD.hd) u v hul hvl h (by rw [e3, e4])).elim
            · exact h
            · exact ((List.pairwise_iff_getElem.1 hD.hd) v u hvl hul h (by rw [e3, e4])).elim
          rw [hu, hv, huv]
        have := (q2 x hx2).1
        rw [hah, hne] at this
        cases this
      · rw [if_neg (by simp; omega)]
    unfold l33_RepairStays_2
    rw [getI_nat hr, bind_some', if_pos (by simp; omega), bind_some', getI_nat gx, bind_some', h3, bind_some', if_neg (by simp), lt_def, w64s (by omega)]
    exact sty2 hP hl k m (j + 1) (by omega) (by omega)
theorem sty1 {d : Disorder} {a : List Spot} {ps : List Pull} {rd : List Int} (hP : PsOk d a ps rd) : ∀ (k m t c : Nat), k < m → t + k = d.tracks.length → c + 100 * k ≤ 100000 → l33_RepairStays_1 1000 d (d.tracks.map fun l => l.filter (kpB ps true)) m (c : Int) (t : Int) = some (.inl ((c + (((d.tracks.map fun l => l.filter (kpB ps true)).drop t).map List.length).sum : Nat) : Int))
  | k, 0, t, c, h, _, _ => by omega
  | 0, m + 1, t, c, h, ht, hc => by
    unfold l33_RepairStays_1
    rw [if_neg (by simp; omega), List.drop_of_length_le (by simp; omega)]
    simp
  | k + 1, m + 1, t, c, h, ht, hc => by
    have hD := hP.sc.ok
    have hdl := hD.lt
    have hlt : t < d.tracks.length := by omega
    have hl := at_lt hlt
    have hr : (d.tracks.map fun l => l.filter (kpB ps true))[t]? = some (d.tracks[t].filter (kpB ps true)) := by rw [List.getElem?_map, hl]; rfl
    have hle : (d.tracks[t].filter (kpB ps true)).length ≤ d.tracks[t].length := List.length_filter_le _ _
    have hll := trk_len hD _ (List.mem_of_getElem? hl)
    have h2 := sty2 hP hl (d.tracks[t].filter (kpB ps true)).length 1000 0 (by omega) (by omega)
    have h2 : l33_RepairStays_2 1000 d (d.tracks.map fun l => l.filter (kpB ps true)) (t : Int) 1000 0 = _ := h2
    rw [l33_RepairStays_1, if_pos (by simp; omega), getI_nat hr, bind_some', lt_def, h2, bind_some']
    simp only
    rw [lt_def, w64s (by omega), w64 (by omega) (by omega), show (c : Int) + ((d.tracks[t].filter (kpB ps true)).length : Int) = ((c + (d.tracks[t].filter (kpB ps true)).length : Nat) : Int) by omega,
      sty1 hP k m (t + 1) _ (by omega) (by omega) (by omega), drop_at hr, List.map_cons, List.sum_cons, Nat.add_assoc]
theorem sum_len (ts : List (List Int)) (q : Int → Bool) : ((ts.map fun l => l.filter q).map List.length).sum = (ts.flatten.filter q).length := by
  rw [← List.length_flatten, ← List.filter_flatten]
theorem mem_flat {ts : List (List Int)} {i : Int} : i ∈ ts.flatten ↔ ∃ t p, posD ts t p = some i := by
  rw [List.mem_flatten]
  constructor
  · rintro ⟨l, hl, hi⟩
    obtain ⟨t, ht, he⟩ := List.mem_iff_getElem.1 hl
    obtain ⟨p, hp, hh⟩ := List.mem_iff_getElem.1 hi
    refine ⟨t, p, ?_⟩
    unfold posD
    rw [List.getElem?_eq_getElem ht, he, Option.bind_some, List.getElem?_eq_getElem hp, hh]
  · rintro ⟨t, p, h⟩
    unfold posD at h
    cases hl : ts[t]? with
    | none => rw [hl] at h; cases h
    | some l =>
      rw [hl] at h
      exact ⟨l, List.mem_of_getElem? hl, List.mem_of_getElem? h⟩
theorem flat_nd {ts : List (List Int)} {n : Nat} (h : TkOk ts n) : ts.flatten.Nodup := by
  rw [List.Nodup, List.pairwise_flatten]
  constructor
  · intro l hl
    obtain ⟨t, ht, he⟩ := List.mem_iff_getElem.1 hl
    refine List.pairwise_iff_getElem.2 fun i j hi hj hij hh => ?_
    have e1 : posD ts t i = some l[i] := by unfold posD; rw [List.getElem?_eq_getElem ht, he]; exact at_lt hi
    have e2 : posD ts t j = some l[j] := by unfold posD; rw [List.getElem?_eq_getElem ht, he]; exact at_lt hj
    rw [← hh] at e2
    have := (h.inj _ _ _ _ _ e1 e2).2
    omega
  · refine List.pairwise_iff_getElem.2 fun t t' ht ht' hlt => ?_
    intro i hi i' hi' hii
    subst hii
    obtain ⟨p, hp, hh⟩ := List.mem_iff_getElem.1 hi
    obtain ⟨q, hq, hg⟩ := List.mem_iff_getElem.1 hi'
    have e1 : posD ts t p = some i := by unfold posD; rw [List.getElem?_eq_getElem ht, Option.bind_some, List.getElem?_eq_getElem hp, hh]
    have e2 : posD ts t' q = some i := by unfold posD; rw [List.getElem?_eq_getElem ht', Option.bind_some, List.getElem?_eq_getElem hq, hg]
    have := (h.inj _ _ _ _ _ e1 e2).1
    omega
theorem stay_cnt {d : Disorder} {a : List Spot} {ps : List Pull} {rd : List Int} (hP : PsOk d a ps rd) : ps.length + (((d.tracks.map fun l => l.filter (kpB ps true))).map List.length).sum = d.items.length := by
  have hD := hP.sc.ok
  have hnd := flat_nd hD.tk
  have hfl : d.tracks.flatten.length = d.items.length := by
    rw [List.length_flatten, ← tot_all]; exact hD.tk.tot
  rw [sum_len]
  have h1 : (d.tracks.flatten.filter (fun i => !kpB ps true i)).length = ps.length := by
    have e : ∀ i, (!kpB ps true i) = pulB ps i := by intro i; unfold kpB; simp
    refine Nat.le_antisymm ?_ ?_
    · have : (d.tracks.flatten.filter (fun i => !kpB ps true i)).length ≤ (ps.map Pull.item).length := by
        refine List.Nodup.length_le_of_subset (hnd.filter _) fun i hi => ?_
        have := (List.mem_filter.1 hi).2
        rw [e] at this
        unfold pulB at this
        obtain ⟨p, hp, he⟩ := of_decide_eq_true this
        exact List.mem_map.2 ⟨p, hp, he⟩
      simpa using this
    · have : (ps.map Pull.item).length ≤ (d.tracks.flatten.filter (fun i => !kpB ps true i)).length := by
        refine List.Nodup.length_le_of_subset hP.nd fun i hi => ?_
        obtain ⟨p, hp, rfl⟩ := List.mem_map.1 hi
        obtain ⟨x, g1, g2, _⟩ := hP.it p hp
        refine List.mem_filter.2 ⟨?_, ?_⟩
        · rw [g1]; exact mem_flat.2 (hD.tk.all x g2)
        · rw [e]; unfold pulB; exact decide_eq_true ⟨p, hp, rfl⟩
      simpa using this
  have h2 : d.tracks.flatten.length = (d.tracks.flatten.filter (kpB ps true)).length + (d.tracks.flatten.filter (fun i => !kpB ps true i)).length := by
    induction d.tracks.flatten with
    | nil => rfl
    | cons i l ih =>
      rw [List.filter_cons, List.filter_cons]
      cases kpB ps true i <;> simp <;> omega
  omega
theorem staysT : ∀ (t : List Int), ∃ N, l33_RepairStays N t = some true := by
  intro t
  refine ⟨1000, ?_⟩
  unfold l33_RepairStays gen_New
  rw [bind_some']
  obtain ⟨d, s', e1, hD, _, _⟩ := made_dis 1000 (by omega) (mk0 t) 14 (by omega)
  rw [e1, bind_some']
  obtain ⟨ps, a, rd, e2, hP, hsort⟩ := pulls_ok 1000 (by omega) (by omega) hD
  simp only
  rw [e2, bind_some']
  have hli := hD.li
  have hlen := hP.len
  have hlt := hD.lt
  simp only
  rw [rest_ok 1000 (by omega) hD hP, bind_some']
  have h0 : l33_RepairStays_0 1000 d (d.tracks.map fun l => l.filter (kpB ps true)) 0 = some false := by
    unfold l33_RepairStays_0
    rw [if_neg (by simp)]; simp
  simp only
  rw [h0, bind_some', if_neg (by simp), lt_def]
  have h1 := sty1 hP d.tracks.length 1000 0 ps.length (by omega) (by omega) (by omega)
  rw [List.drop_zero, stay_cnt hP] at h1
  have h1 : l33_RepairStays_1 1000 d (d.tracks.map fun l => l.filter (kpB ps true)) 1000 (ps.length : Int) 0 = _ := h1
  rw [h1, bind_some']
  simp only
  unfold l33_RepairStays_4
  rw [if_pos (by simp), sane33]
  rfl
end Go.W
end
section
set_option linter.unusedVariables false
set_option linter.unusedSimpArgs false
namespace Go.W
open Go.AM
/-! ### Who stands nearer -/
def stF (x y : Int) : Bool → List Int → Bool
  | _, [] => false
  | f, z :: l => if (f && z == x) = true then true else stF x y (f || z == y) l
theorem stF_iff {x y : Int} : ∀ {l : List Int} {f : Bool}, stF x y f l = true ↔ ∃ q : Nat, l[q]? = some x ∧ (f = true ∨ ∃ p : Nat, p < q ∧ l[p]? = some y)
  | [], f => by simp [stF]
  | z :: l, f => by
    rw [stF]
    by_cases h : (f && z == x) = true
    · rw [if_pos h]
      simp only [Bool.and_eq_true, beq_iff_eq] at h
      simp only [true_iff]
      exact ⟨0, by rw [← h.2]; rfl, .inl h.1⟩
    · rw [if_neg h, stF_iff]
      constructor
      · rintro ⟨q, h1, h2⟩
        refine ⟨q + 1, by simpa using h1, ?_⟩
        rcases h2 with h2 | ⟨p, h2, h3⟩
        · simp only [Bool.or_eq_true, beq_iff_eq] at h2
          rcases h2 with h2 | h2
          · exact .inl h2
          · exact .inr ⟨0, by omega, by rw [← h2]; rfl⟩
        · exact .inr ⟨p + 1, by omega, by simpa using h3⟩
      · rintro ⟨q, h1, h2⟩
        cases q with
        | zero =>
          simp at h1
          rcases h2 with h2 | ⟨p, h2, _⟩
          · exact (h (by simp [h2, h1])).elim
          · omega
        | succ q =>
          refine ⟨q, by simpa using h1, ?_⟩
          rcases h2 with h2 | ⟨p, h2, h3⟩
          · exact .inl (by simp [h2])
          · cases p with
            | zero => simp at h3; exact .inl (by simp [h3])
            | succ p => exact .inr ⟨p, by omega, by simpa using h3⟩
theorem std1 {d : Disorder} (x y : Int) {t : Nat} {l : List Int} (hl : d.tracks[t]? = some l) (hll : l.length ≤ 900) : ∀ (k m j : Nat) (f : Bool), k < m → j + k = l.length → l33_stands_1 1000 x y d (t : Int) m f (j : Int) = some (if stF x y f (l.drop j) = true then .inr true else .inl ())
  | k, 0, j, f, h, _ => by omega
  | 0, m + 1, j, f, h, hj => by
    rw [l33_stands_1, getI_nat hl, bind_some', if_neg (by simp; omega), List.drop_of_length_le (by omega)]
    rfl
  | k + 1, m + 1, j, f, h, hj => by
    have hlt : j < l.length := by omega
    have h2 : l33_stands_2 1000 x d (t : Int) f (j : Int) = some (f && l[j] == x) := by
      unfold l33_stands_2
      cases f with
      | false => rfl
      | true => rw [if_pos rfl, getI_nat hl, bind_some', getI_nat (at_lt hlt), bind_some']; rfl
    have h3 : l33_stands_3 1000 y d (t : Int) f (j : Int) = some (f || l[j] == y) := by
      unfold l33_stands_3
      cases f with
      | true => rfl
      | false => rw [if_neg (by simp), getI_nat hl, bind_some', getI_nat (at_lt hlt), bind_some']; rfl
    rw [l33_stands_1, getI_nat hl, bind_some', if_pos (by simp; omega), h2, bind_some', drop_at (at_lt hlt), stF]
    by_cases hc : (f && l[j] == x) = true
    · rw [if_pos hc, if_pos hc]; rfl
    · rw [if_neg hc, if_neg hc, h3, bind_some', lt_def, w64s (by omega)]
      exact std1 x y hl hll k m (j + 1) _ (by omega) (by omega)
theorem std_ok {d : Disorder} {a : List Spot} (hD : DOk d) (hA : AtOk d a) {x y : Nat} (hx : x < d.items.length) (hy : y < d.items.length) : l33_stands 1000 d (x : Int) (y : Int) = some (neB a x y) := by
  have hlt := hD.lt
  have h := first_gen (l := d.tracks) (fun _ l => stF (x : Int) (y : Int) false l) (fun _ _ => true) (l33_stands_0 1000 (x : Int) (y : Int) d) (fun n => by unfold l33_stands_0; rw [if_neg (by simp)]) (fun n t l hl => by
    have ht := (List.getElem?_eq_some_iff.1 hl).1
    have hll := trk_len hD l (List.mem_of_getElem? hl)
    have h1 := std1 (x : Int) (y : Int) hl (by omega) l.length 1000 0 false (by omega) (by omega)
    have h1 : l33_stands_1 1000 (x : Int) (y : Int) d (t : Int) 1000 false 0 = _ := h1
    rw [l33_stands_0, if_pos (by simp; omega), h1, bind_some', List.drop_zero]
    by_cases hc : stF (x : Int) (y : Int) false l = true
    · rw [if_pos hc, if_pos hc]
    · rw [if_neg hc, if_neg hc]
      simp only
      rw [lt_def, w64s (by omega)]) d.tracks.length 1000 0 (by omega) (by omega)
  have h : l33_stands_0 1000 (x : Int) (y : Int) d 1000 0 = _ := h
  unfold l33_stands
  rw [h, bind_some', List.drop_zero]
  have key : ∀ (ls : List (List Int)) (i : Nat), (res (fun (_ : Nat) l => stF (x : Int) (y : Int) false l) (fun _ _ => true) i ls = .inl () ∧ ls.any (stF (x : Int) (y : Int) false) = false) ∨ (res (fun (_ : Nat) l => stF (x : Int) (y : Int) false l) (fun _ _ => true) i ls = .inr true ∧ ls.any (stF (x : Int) (y : Int) false) = true) := by
    intro ls
    induction ls with
    | nil => intro i; exact .inl ⟨rfl, rfl⟩
    | cons l ls ih =>
      intro i
      rw [res, List.any_cons]
      by_cases hc : stF (x : Int) (y : Int) false l = true
      · rw [if_pos hc, hc]; exact .inr ⟨rfl, rfl⟩
      · rw [if_neg hc]
        have hc : stF (x : Int) (y : Int) false l = false := by simpa using hc
        rw [hc, Bool.false_or]
        exact ih (i + 1)
  have hany : d.tracks.any (stF (x : Int) (y : Int) false) = neB a x y := by
    rw [Bool.eq_iff_iff, List.any_eq_true]
    constructor
    · rintro ⟨l, hl, hs⟩
      obtain ⟨t, ht, he⟩ := List.mem_iff_getElem.1 hl
      obtain ⟨q, h1, h2⟩ := stF_iff.1 hs
      rcases h2 with h2 | ⟨p, h2, h3⟩
      · cases h2
      · have e0 : d.tracks[t]? = some l := by rw [List.getElem?_eq_getElem ht, he]
        refine near_of (t := t) (p := p) (q := q) hA ?_ ?_ h2
        · unfold posD; rw [e0]; exact h3
        · unfold posD; rw [e0]; exact h1
    · intro hn
      obtain ⟨t, q, hq⟩ := hD.tk.all x hx
      obtain ⟨t', p, hp⟩ := hD.tk.all y hy
      unfold neB at hn
      rw [spot_of hA hq, spot_of hA hp] at hn
      simp only [Bool.and_eq_true, beq_iff_eq, decide_eq_true_eq] at hn
      have ht : t = t' := by omega
      subst ht
      unfold posD at hq hp
      cases hl : d.tracks[t]? with
      | none => rw [hl] at hq; cases hq
      | some l =>
        rw [hl] at hq hp
        exact ⟨l, List.mem_of_getElem? hl, stF_iff.2 ⟨q, hq, .inr ⟨p, by omega, hp⟩⟩⟩
  rcases key d.tracks 0 with ⟨h1, h2⟩ | ⟨h1, h2⟩
  · rw [h1, ← hany, h2]
  · rw [h1, ← hany, h2]
/-! ### Sets of items -/
def inB (s : List Bool) (x : Nat) : Bool := (s[x]?).getD false
theorem inB_at {s : List Bool} {x : Nat} (hx : x < s.length) : getI s (x : Int) = some (inB s x) := by
  rw [getI_nat (at_lt hx)]; unfold inB; rw [at_lt hx]; rfl
theorem inB_set {s : List Bool} {i j : Nat} {v : Bool} (hi : i < s.length) : inB (s.set i v) j = if i = j then v else inB s j := by
  unfold inB
  rw [List.getElem?_set]
  by_cases h : i = j
  · subst h; rw [if_pos rfl, if_pos hi, if_pos rfl]; rfl
  · rw [if_neg h, if_neg h]
/-- More, but nothing that a set 'S' lacks. -/
structure Gr (n : Nat) (s s' : List Bool) : Prop where
  len : s'.length = n
  mono : ∀ x, inB s x = true → inB s' x = true
theorem lst0 {n : Nat} (hn : n ≤ 96) (set : List Int) : ∀ (k m i : Nat) (s : List Bool), k < m → i + k = 12 → s.length = n → ∃ s', l33_RepairLeast_0 1000 set m s (i : Int) = some s' ∧ s'.length = n ∧ (set = [] → s' = s)
  | k, 0, i, s, h, _, _ => by omega
  | 0, m + 1, i, s, h, hi, hs => by
    have : l33_RepairLeast_1 1000 set (i : Int) = some false := by
      unfold l33_RepairLeast_1
      split
      · simp; omega
      · rfl
    rw [l33_RepairLeast_0, this, bind_some', if_neg (by simp)]
    exact ⟨s, rfl, hs, fun _ => rfl⟩
  | k + 1, m + 1, i, s, h, hi, hs => by
    rw [l33_RepairLeast_0]
    by_cases hl : (i : Int) < (set.length : Int)
    · have h1 : l33_RepairLeast_1 1000 set (i : Int) = some true := by
        unfold l33_RepairLeast_1
        rw [if_pos (by simpa using hl)]; simp; omega
      have h2 : ∃ s', l33_RepairLeast_2 1000 set s (i : Int) = some s' ∧ s'.length = n := by
        unfold l33_RepairLeast_2
        by_cases hp : 0 < (s.length : Int)
        · rw [if_pos (by simpa using hp), getI_nat (at_lt (by omega)), bind_some']
          obtain ⟨r, g1, g2, g3⟩ := place_ok 1000 set[i] (s.length : Int) (by omega)
          obtain ⟨j, rfl⟩ := Int.eq_ofNat_of_zero_le g2
          rw [g1, bind_some', inB_at (by omega), bind_some', bind_some', lt_def]
          exact ⟨_, rfl, by simp [hs]⟩
        · rw [if_neg (by simpa using hp)]; exact ⟨s, rfl, hs⟩
      obtain ⟨s1, e1, e2⟩ := h2
      rw [h1, bind_some', if_pos rfl, e1, bind_some', lt_def, w64s (by omega)]
      obtain ⟨s', g1, g2, g3⟩ := lst0 hn set k m (i + 1) s1 (by omega) (by omega) e2
      exact ⟨s', g1, g2, fun he => by subst he; simp at hl; omega⟩
    · have h1 : l33_RepairLeast_1 1000 set (i : Int) = some false := by
        unfold l33_RepairLeast_1
        rw [if_neg (by simpa using hl)]
      rw [h1, bind_some', if_neg (by simp)]
      exact ⟨s, rfl, hs, fun _ => rfl⟩
def cntT (s : List Bool) : Nat := (s.filter fun b => b).length
theorem cnt_set {s : List Bool} {x : Nat} (hx : x < s.length) (hb : inB s x = false) : cntT (s.set x true) = cntT s + 1 := by
  unfold cntT
  induction s generalizing x with
  | nil => simp at hx
  | cons b s ih =>
    cases x with
    | zero =>
      have : b = false := by simpa [inB] using hb
      subst this
      simp
    | succ x =>
      have := ih (x := x) (by simpa using hx) (by simpa [inB] using hb)
      simp only [List.set_cons_succ, List.filter_cons]
      split
      · simp [this]
      · exact this
theorem cnt_le (s : List Bool) : cntT s ≤ s.length := List.length_filter_le _ _
section
variable {d : Disorder} {a : List Spot} {rd : List Int} (hS : Sc d a rd)
include hS
/-- Those that stand on a wrong track. -/
theorem lst4 {t : Nat} {l : List Int} (hl : d.tracks[t]? = some l) : ∀ (k m j : Nat) (s : List Bool), k < m → j + k = l.length → s.length = d.items.length →
    ∃ s', l33_RepairLeast_4 1000 d (t : Int) m s (j : Int) = some s' ∧ Gr d.items.length s s' ∧ (∀ x, inB s' x = true → inB s x = true ∨ (x < d.items.length ∧ homeB d a x = false)) ∧ ∀ (p x : Nat), j ≤ p → posD d.tracks t p = some (x : Int) → homeB d a x = false → inB s' x = true
  | k, 0, j, s, h, _, _ => by omega
  | 0, m + 1, j, s, h, hj, hs => by
    rw [l33_RepairLeast_4, getI_nat hl, bind_some', if_neg (by simp; omega)]
    refine ⟨s, rfl, ⟨hs, fun _ h => h⟩, fun x h => .inl h, fun p x hp hx _ => ?_⟩
    unfold posD at hx
    rw [hl] at hx
    have hx : l[p]? = some (x : Int) := hx
    have := (List.getElem?_eq_some_iff.1 hx).1
    omega
  | k + 1, m + 1, j, s, h, hj, hs => by
    have hD := hS.ok
    have hll := trk_len hD l (List.mem_of_getElem? hl)
    have hlt : j < l.length := by omega
    have hp : posD d.tracks t j = some l[j] := by unfold posD; rw [hl]; exact at_lt hlt
    have hr := hD.tk.rg _ _ _ hp
    obtain ⟨x, hx⟩ := Int.eq_ofNat_of_zero_le hr.1
    rw [hx] at hp hr
    have hxn : x < d.items.length := by omega
    have hxs : x < s.length := by omega
    have hh : homeB d a x = ((t : Int) == hmx d x) := by unfold homeB; rw [spot_of hS.at' hp]
    have h5 : ∃ s1, l33_RepairLeast_5 1000 d s (t : Int) (x : Int) = some s1 ∧ s1 = s.set x (inB s x || !homeB d a x) := by
      unfold l33_RepairLeast_5
      rw [inB_at hxs, bind_some', bind_some']
      by_cases hb : inB s x = true
      · rw [if_pos hb, bind_some', bind_some', lt_def]
        exact ⟨_, rfl, by rw [hb]; rfl⟩
      · rw [if_neg hb, itm_at hxn, bind_some', hmx_at hS hxn, bind_some', bind_some', bind_some', lt_def]
        refine ⟨_, rfl, ?_⟩
        have hb : inB s x = false := by simpa using hb
        rw [hb, Bool.false_or, hh, Int.toNat_natCast]
        have e : (hmx d x != (t : Int)) = !((t : Int) == hmx d x) := by unfold bne; rw [BEq.comm]
        rw [e]
    obtain ⟨s1, e1, e2⟩ := h5
    rw [l33_RepairLeast_4, getI_nat hl, bind_some', if_pos (by simp; omega), bind_some', getI_nat (at_lt hlt), bind_some', hx, e1, bind_some', lt_def, w64s (by omega)]
    obtain ⟨s', g1, g2, g3, g4⟩ := lst4 hl k m (j + 1) s1 (by omega) (by omega) (by rw [e2]; simp [hs])
    have hin : ∀ z, inB s1 z = if x = z then (inB s x || !homeB d a x) else inB s z := fun z => by rw [e2]; exact inB_set hxs
    refine ⟨s', g1, ⟨g2.len, fun z hz => g2.mono z ?_⟩, fun z hz => ?_, fun p z hjp hz hw => ?_⟩
    · rw [hin z]
      split
      · rename_i e; subst e; rw [hz]; rfl
      · exact hz
    · rcases g3 z hz with h1 | h1
      · rw [hin z] at h1
        split at h1
        · rename_i e; subst e
          simp only [Bool.or_eq_true, Bool.not_eq_true'] at h1
          rcases h1 with h1 | h1
          · exact .inl h1
          · exact .inr ⟨hxn, h1⟩
        · exact .inl h1
      · exact .inr h1
    · by_cases e : p = j
      · subst e
        rw [hp] at hz
        have : x = z := by have := Option.some.inj hz; omega
        subst this
        refine g2.mono x ?_
        rw [hin x, if_pos rfl, hw]; simp
      · exact g4 p z (by omega) hz hw
theorem lst3 : ∀ (k m t : Nat) (s : List Bool), k < m → t + k = d.tracks.length → s.length = d.items.length →
    ∃ s', l33_RepairLeast_3 1000 d m s (t : Int) = some s' ∧ Gr d.items.length s s' ∧ (∀ x, inB s' x = true → inB s x = true ∨ (x < d.items.length ∧ homeB d a x = false)) ∧ ∀ (t' p x : Nat), t ≤ t' → posD d.tracks t' p = some (x : Int) → homeB d a x = false → inB s' x = true
  | k, 0, t, s, h, _, _ => by omega
  | 0, m + 1, t, s, h, ht, hs => by
    rw [l33_RepairLeast_3, if_neg (by simp; omega)]
    refine ⟨s, rfl, ⟨hs, fun _ h => h⟩, fun x h => .inl h, fun t' p x hp hx _ => ?_⟩
    unfold posD at hx
    rw [List.getElem?_eq_none (by omega)] at hx
    cases hx
  | k + 1, m + 1, t, s, h, ht, hs => by
    have hD := hS.ok
    have hdl := hD.lt
    have hlt : t < d.tracks.length := by omega
    have hl := at_lt hlt
    have hll := trk_len hD _ (List.mem_of_getElem? hl)
    obtain ⟨s1, e1, e2, e3, e4⟩ := lst4 hS hl d.tracks[t].length 1000 0 s (by omega) (by omega) hs
    have e1 : l33_RepairLeast_4 1000 d (t : Int) 1000 s 0 = _ := e1
    rw [l33_RepairLeast_3, if_pos (by simp; omega), e1, bind_some', lt_def, w64s (by omega)]
    obtain ⟨s', g1, g2, g3, g4⟩ := lst3 k m (t + 1) s1 (by omega) (by omega) e2.len
    refine ⟨s', g1, ⟨g2.len, fun z hz => g2.mono z (e2.mono z hz)⟩, fun z hz => ?_, fun t' p z htp hz hw => ?_⟩
    · rcases g3 z hz with h1 | h1
      · exact e3 z h1
      · exact .inr h1
    · by_cases e : t' = t
      · subst e
        exact g2.mono z (e4 p z (by omega) hz hw)
      · exact g4 t' p z (by omega) hz hw
/-! ### Closing -/
/-- Does something of the set pull an item? -/
def cdB (d : Disorder) (a : List Spot) (s : List Bool) (x y : Nat) : Bool := (inB s y && (neB a x y || ahB d y x)) || (ahB d y x && neB a y x)
theorem lst10 {x y : Nat} (hx : x < d.items.length) (hy : y < d.items.length) {s : List Bool} (hs : s.length = d.items.length) (ch : Bool) : l33_RepairLeast_10 1000 d s ch (x : Int) (y : Int) = some (if cdB d a s x y = true then (s.set x true, true) else (s, ch)) := by
  have hD := hS.ok
  have hA := hS.at'
  unfold l33_RepairLeast_10
  have h11 : l33_RepairLeast_11 1000 d (x : Int) (y : Int) = some (ahB d y x) := by
    unfold l33_RepairLeast_11 ahB
    rw [itm_at hy, bind_some', itm_at hx, bind_some']
    by_cases h : (itm d y).train = (itm d x).train
    · rw [if_pos (by simpa using h), bind_some', bind_some', lt_def, h]; simp
    · rw [if_neg (by simpa using h)]; simp [h]
  have h12 : l33_RepairLeast_12 1000 d s (x : Int) (y : Int) (ahB d y x) = some (cdB d a s x y) := by
    unfold l33_RepairLeast_12 cdB
    rw [inB_at (by omega), bind_some', bind_some']
    cases inB s y with
    | true =>
      rw [if_pos rfl, std_ok hD hA hx hy, bind_some']
      cases neB a x y with
      | true => rfl
      | false =>
        cases ahB d y x with
        | true => rfl
        | false => rfl
    | false =>
      rw [if_neg (by simp)]
      cases ahB d y x with
      | true => rw [if_pos rfl, std_ok hD hA hy hx, bind_some']; rfl
      | false => rfl
  rw [h11, bind_some', h12, bind_some']
  by_cases hc : cdB d a s x y = true
  · rw [if_pos hc, if_pos hc, inB_at (by omega), bind_some', bind_some', lt_def, Int.toNat_natCast]
  · rw [if_neg hc, if_neg hc]
/-- A row of the closing. -/
theorem lst8 {x : Nat} (hx : x < d.items.length) : ∀ (k m y : Nat) (s : List Bool) (ch : Bool), k < m → y + k = d.items.length → s.length = d.items.length →
    ∃ s' ch', l33_RepairLeast_8 1000 d (x : Int) m s ch (y : Int) = some (s', ch') ∧ ((s' = s ∧ ch' = ch ∧ (inB s x = true ∨ ∀ y', y ≤ y' → y' < d.items.length → cdB d a s x y' = false)) ∨ (s' = s.set x true ∧ ch' = true ∧ inB s x = false ∧ ∃ y', y' < d.items.length ∧ cdB d a s x y' = true))
  | k, 0, y, s, ch, h, _, _ => by omega
  | 0, m + 1, y, s, ch, h, hy, hs => by
    have h9 : l33_RepairLeast_9 1000 s (x : Int) (y : Int) = some false := by
      unfold l33_RepairLeast_9
      rw [if_neg (by simp; omega)]
    rw [l33_RepairLeast_8, h9, bind_some', if_neg (by simp)]
    exact ⟨s, ch, rfl, .inl ⟨rfl, rfl, .inr fun y' h1 h2 => by omega⟩⟩
  | k + 1, m + 1, y, s, ch, h, hy, hs => by
    have hli := hS.ok.li
    have h9 : l33_RepairLeast_9 1000 s (x : Int) (y : Int) = some (!inB s x) := by
      unfold l33_RepairLeast_9
      rw [if_pos (by simp; omega), inB_at (by omega), bind_some', bind_some']
    rw [l33_RepairLeast_8, h9, bind_some']
    cases hb : inB s x with
    | true =>
      rw [if_neg (by simp)]
      exact ⟨s, ch, rfl, .inl ⟨rfl, rfl, .inl rfl⟩⟩
    | false =>
      rw [if_pos (by simp), lst10 hS hx (by omega) hs, bind_some', lt_def, w64s (by omega)]
      by_cases hc : cdB d a s x y = true
      · rw [if_pos hc]
        obtain ⟨s', ch', g1, g2⟩ := lst8 hx k m (y + 1) (s.set x true) true (by omega) (by omega) (by simp [hs])
        refine ⟨s', ch', g1, .inr ?_⟩
        have hin : inB (s.set x true) x = true := by rw [inB_set (by omega), if_pos rfl]
        rcases g2 with ⟨e1, e2, _⟩ | ⟨_, _, e3, _⟩
        · exact ⟨e1, e2, rfl, y, by omega, hc⟩
        · rw [hin] at e3; cases e3
      · rw [if_neg hc]
        obtain ⟨s', ch', g1, g2⟩ := lst8 hx k m (y + 1) s ch (by omega) (by omega) hs
        refine ⟨s', ch', g1, ?_⟩
        rcases g2 with ⟨e1, e2, e3⟩ | ⟨e1, e2, e3, e4⟩
        · refine .inl ⟨e1, e2, .inr fun y' h1 h2 => ?_⟩
          rcases e3 with e3 | e3
          · rw [hb] at e3; cases e3
          · by_cases hy' : y' = y
            · subst hy'; simpa using hc
            · exact e3 y' (by omega) h2
        · exact .inr ⟨e1, e2, rfl, e4⟩
/-- A set that what is found stays in. -/
structure Cl33 (d : Disorder) (a : List Spot) (S : Nat → Prop) : Prop where
  cl : ∀ x y, x < d.items.length → y < d.items.length → (S y ∧ (neB a x y = true ∨ ahB d y x = true)) ∨ (ahB d y x = true ∧ neB a y x = true) → S x
structure Ps (d : Disorder) (a : List Spot) (x : Nat) (s s' : List Bool) (ch ch' : Bool) : Prop where
  len : s'.length = d.items.length
  mono : ∀ z, inB s z = true → inB s' z = true
  snd : ∀ S, Cl33 d a S → (∀ z, z < d.items.length → inB s z = true → S z) → ∀ z, z < d.items.length → inB s' z = true → S z
  alt : (s' = s ∧ ch' = ch ∧ ∀ x' y, x ≤ x' → x' < d.items.length → y < d.items.length → inB s x' = true ∨ cdB d a s x' y = false) ∨ (ch' = true ∧ cntT s < cntT s')
theorem lst7 : ∀ (k m x : Nat) (s : List Bool) (ch : Bool), k < m → x + k = d.items.length → s.length = d.items.length → ∃ s' ch', l33_RepairLeast_7 1000 d m s ch (x : Int) = some (s', ch') ∧ Ps d a x s s' ch ch'
  | k, 0, x, s, ch, h, _, _ => by omega
  | 0, m + 1, x, s, ch, h, hx, hs => by
    rw [l33_RepairLeast_7, if_neg (by simp; omega)]
    exact ⟨s, ch, rfl, hs, fun _ h => h, fun S _ h => h, .inl ⟨rfl, rfl, fun x' y h1 h2 => by omega⟩⟩
  | k + 1, m + 1, x, s, ch, h, hx, hs => by
    have hli := hS.ok.li
    obtain ⟨s1, ch1, e1, e2⟩ := lst8 hS (x := x) (by omega) d.items.length 1000 0 s ch (by omega) (by omega) hs
    have e1 : l33_RepairLeast_8 1000 d (x : Int) 1000 s ch 0 = _ := e1
    rw [l33_RepairLeast_7, if_pos (by simp; omega), e1, bind_some']
    simp only
    rw [lt_def, w64s (by omega)]
    rcases e2 with ⟨rfl, rfl, e3⟩ | ⟨rfl, rfl, e3, y, e4, e5⟩
    · obtain ⟨s', ch', g1, g2⟩ := lst7 k m (x + 1) s1 ch1 (by omega) (by omega) hs
      refine ⟨s', ch', g1, g2.len, g2.mono, g2.snd, ?_⟩
      rcases g2.alt with ⟨f1, f2, f3⟩ | ⟨f1, f2⟩
      · refine .inl ⟨f1, f2, fun x' y h1 h2 h3 => ?_⟩
        by_cases hxx : x' = x
        · subst hxx
          rcases e3 with e3 | e3
          · exact .inl e3
          · exact .inr (e3 y (by omega) h3)
        · exact f3 x' y (by omega) h2 h3
      · exact .inr ⟨f1, f2⟩
    · obtain ⟨s', ch', g1, g2⟩ := lst7 k m (x + 1) (s.set x true) true (by omega) (by omega) (by simp [hs])
      have hin : ∀ z, inB (s.set x true) z = if x = z then true else inB s z := fun z => inB_set (by omega)
      have hc := cnt_set (s := s) (x := x) (by omega) e3
      refine ⟨s', ch', g1, g2.len, fun z hz => g2.mono z (by rw [hin z]; split; rfl; exact hz), fun S hS' h z hz1 hz2 => ?_, .inr ?_⟩
      · refine g2.snd S hS' (fun w hw1 hw2 => ?_) z hz1 hz2
        rw [hin w] at hw2
        split at hw2
        · rename_i hxw
          subst hxw
          unfold cdB at e5
          simp only [Bool.or_eq_true, Bool.and_eq_true] at e5
          refine hS'.cl x y (by omega) e4 ?_
          rcases e5 with ⟨q1, q2⟩ | q1
          · exact .inl ⟨h y e4 q1, q2⟩
          · exact .inr q1
        · exact h w hw1 hw2
      · rcases g2.alt with ⟨f1, f2, _⟩ | ⟨f1, f2⟩
        · exact ⟨f2, by rw [f1]; omega⟩
        · exact ⟨f1, by omega⟩
theorem lst6 : ∀ (m : Nat) (s : List Bool), s.length = d.items.length → d.items.length + 2 ≤ cntT s + m →
    ∃ s', l33_RepairLeast_6 1000 d m s true = some s' ∧ s'.length = d.items.length ∧ (∀ z, inB s z = true → inB s' z = true) ∧ (∀ S, Cl33 d a S → (∀ z, z < d.items.length → inB s z = true → S z) → ∀ z, z < d.items.length → inB s' z = true → S z) ∧ ∀ x y, x < d.items.length → y < d.items.length → inB s' x = true ∨ cdB d a s' x y = false
  | 0, s, hs, h => by have := cnt_le s; omega
  | m + 1, s, hs, h => by
    have hli := hS.ok.li
    have hcl := cnt_le s
    obtain ⟨s1, ch1, e1, e2⟩ := lst7 hS d.items.length 1000 0 s false (by omega) (by omega) hs
    have e1 : l33_RepairLeast_7 1000 d 1000 s false 0 = _ := e1
    rw [l33_RepairLeast_6, if_pos rfl, e1, bind_some']
    simp only
    rcases e2.alt with ⟨f1, f2, f3⟩ | ⟨f1, f2⟩
    · subst f1; subst f2
      obtain ⟨m', rfl⟩ : ∃ m', m = m' + 1 := ⟨m - 1, by omega⟩
      rw [l33_RepairLeast_6, if_neg (by simp)]
      exact ⟨_, rfl, hs, fun _ h => h, fun S _ h => h, fun x y hx hy => f3 x y (by omega) hx hy⟩
    · subst f1
      obtain ⟨s', g1, g2, g3, g4, g5⟩ := lst6 m s1 e2.len (by omega)
      exact ⟨s', g1, g2, fun z hz => g3 z (e2.mono z hz), fun S hS' h => g4 S hS' (e2.snd S hS' h), g5⟩
end
/-! ### The law -/
theorem in_all {d : Disorder} {a : List Spot} {ps : List Pull} {rd : List Int} (hP : PsOk d a ps rd) {s : List Bool} (hw : ∀ x, x < d.items.length → homeB d a x = false → inB s x = true) (hc : ∀ x y, x < d.items.length → y < d.items.length → inB s x = true ∨ cdB d a s x y = false) : ∀ (n x : Nat), x < d.items.length → 0 ≤ rdx rd x → rdx rd x < n → inB s x = true
  | 0, x, hx, h0, h1 => by omega
  | n + 1, x, hx, h0, h1 => by
    obtain ⟨p, hp, he, hr⟩ := rd_val hP h0
    have hj := hP.ju p hp x he
    have use : ∀ y, y < d.items.length → cdB d a s x y = true → inB s x = true := by
      intro y hy h
      rcases hc x y hx hy with h1 | h1
      · exact h1
      · rw [h] at h1; cases h1
    unfold juB at hj
    split at hj
    · simp only [Bool.and_eq_true, Bool.not_eq_true'] at hj
      exact hw x hx hj.2
    · split at hj
      · cases hj
      · rename_i hrg
        have hlt : p.because.toNat < d.items.length := by omega
        have hin : puB (rdx rd) p.because.toNat p.round = true → inB s p.because.toNat = true := by
          intro h
          unfold puB at h
          simp only [Bool.and_eq_true, decide_eq_true_eq] at h
          exact in_all hP hw hc n _ hlt h.1 (by omega)
        split at hj
        · simp only [Bool.and_eq_true] at hj
          refine use _ hlt ?_
          unfold cdB; rw [hj.2.1, hj.2.2]; simp
        · split at hj
          · simp only [Bool.and_eq_true] at hj
            refine use _ hlt ?_
            unfold cdB; rw [hin hj.2, hj.1]; simp
          · split at hj
            · simp only [Bool.and_eq_true] at hj
              refine use _ hlt ?_
              unfold cdB; rw [hin hj.2, hj.1]; simp
            · cases hj
theorem pul_cl {d : Disorder} {a : List Spot} {ps : List Pull} {rd : List Int} (hP : PsOk d a ps rd) : Cl33 d a (fun x => 0 ≤ rdx rd x) where
  cl := fun x y hx hy h => by
    rcases hP.on x with h1 | ⟨p, hp, he⟩
    · exfalso
      obtain ⟨_, s2⟩ := hP.st x hx h1
      obtain ⟨q1, q2⟩ := s2 y hy
      rcases h with ⟨h2, h3⟩ | ⟨h2, h3⟩
      · obtain ⟨q3, q4⟩ := q2 h2
        rcases h3 with h3 | h3
        · rw [h3] at q4; cases q4
        · rw [h3] at q3; cases q3
      · rw [h2, h3] at q1; cases q1
    · obtain ⟨y', g1, _, g3, g4⟩ := hP.it p hp
      have : y' = x := by omega
      subst this; show 0 ≤ rdx rd y'; omega
theorem lst13 {d : Disorder} {a : List Spot} {ps : List Pull} {rd : List Int} (hP : PsOk d a ps rd) {s : List Bool} (hs : s.length = d.items.length) (hin : ∀ x, x < d.items.length → 0 ≤ rdx rd x → inB s x = true) : l33_RepairLeast_13 1000 ps s 1000 0 = some (.inl ()) := by
  have hlen := hP.len
  have hli := hP.sc.ok.li
  have h := first_gen (l := ps) (fun _ _ => false) (fun _ _ => false) (l33_RepairLeast_13 1000 ps s) (fun n => by unfold l33_RepairLeast_13; rw [if_neg (by simp)]) (fun n i p hp => by
    have hi := (List.getElem?_eq_some_iff.1 hp).1
    obtain ⟨x, g1, g2, g3, g4⟩ := hP.it p (List.mem_of_getElem? hp)
    have h14 : l33_RepairLeast_14 1000 ps s (i : Int) = some false := by
      unfold l33_RepairLeast_14
      rw [getI_nat hp, bind_some', bind_some', if_neg (by simp; omega), bind_some', bind_some', if_neg (by simp; omega), bind_some', bind_some', g1, inB_at (by omega), bind_some', bind_some', hin x g2 (by omega)]
      rfl
    rw [l33_RepairLeast_13, if_pos (by simp; omega), h14, bind_some', if_neg (by simp), if_neg (by simp), lt_def, w64s (by omega)]) ps.length 1000 0 (by omega) (by omega)
  have h : l33_RepairLeast_13 1000 ps s 1000 0 = _ := h
  rw [h]
  congr 1
  have : ∀ (l : List Pull) (i : Nat), res (fun (_ : Nat) (_ : Pull) => false) (fun (_ : Nat) (_ : Pull) => false) i l = .inl () := by
    intro l
    induction l with
    | nil => intro i; rfl
    | cons p l ih => intro i; rw [res, if_neg (by simp), ih]
  exact this _ _
theorem lst15 {s : List Bool} (hs : s.length ≤ 96) : ∀ (k m x c : Nat), k < m → x + k = s.length → c ≤ x → l33_RepairLeast_15 1000 s m (c : Int) (x : Int) = some ((c + cntT (s.drop x) : Nat) : Int)
  | k, 0, x, c, h, _, _ => by omega
  | 0, m + 1, x, c, h, hx, hc => by
    rw [l33_RepairLeast_15, if_neg (by simp; omega), List.drop_of_length_le (by omega)]
    rfl
  | k + 1, m + 1, x, c, h, hx, hc => by
    have hlt : x < s.length := by omega
    have h16 : l33_RepairLeast_16 1000 s (c : Int) (x : Int) = some ((c + (if s[x] = true then 1 else 0) : Nat) : Int) := by
      unfold l33_RepairLeast_16
      rw [getI_nat (at_lt hlt), bind_some', bind_some']
      by_cases hb : s[x] = true
      · rw [if_pos hb, if_pos hb, lt_def, w64s (by omega)]
      · rw [if_neg hb, if_neg hb]; rfl
    rw [l33_RepairLeast_15, if_pos (by simp; omega), h16, bind_some', lt_def, w64s (by omega), lst15 hs k m (x + 1) _ (by omega) (by omega) (by split <;> omega), drop_at (at_lt hlt)]
    congr 2
    unfold cntT
    rw [List.filter_cons]
    by_cases hb : s[x] = true
    · rw [if_pos hb, if_pos hb, List.length_cons]; omega
    · rw [if_neg hb, if_neg hb]; omega
theorem cnt_range (s : List Bool) : cntT s = ((List.range s.length).filter fun x => inB s x).length := by
  unfold cntT
  induction s with
  | nil => rfl
  | cons b s ih =>
    rw [List.length_cons, List.range_succ_eq_map, List.filter_cons, List.filter_cons, List.filter_map]
    have e : ((fun x => inB (b :: s) x) ∘ Nat.succ) = fun x => inB s x := by
      funext x; simp [inB]
    rw [e]
    have e0 : inB (b :: s) 0 = b := by simp [inB]
    rw [e0]
    cases b <;> simp [ih]
theorem leastT : ∀ (t set : List Int), ∃ N, l33_RepairLeast N t set = some true := by
  intro t set
  refine ⟨1000, ?_⟩
  unfold l33_RepairLeast gen_New
  rw [bind_some']
  obtain ⟨d, s', e1, hD, _, _⟩ := made_dis 1000 (by omega) (mk0 t) 12 (by omega)
  rw [e1, bind_some']
  obtain ⟨ps, a, rd, e2, hP, hsort⟩ := pulls_ok 1000 (by omega) (by omega) hD
  have hS := hP.sc
  have hli := hD.li
  have hlt := hD.lt
  have hlen := hP.len
  simp only
  rw [e2, bind_some', if_neg (by simp), mkI_ok (by omega) (by omega), bind_some']
  obtain ⟨s1, f1, f2, f3⟩ := lst0 (n := d.items.length) hli set 12 1000 0 (List.replicate (d.items.length : Int).toNat false) (by omega) (by omega) (by simp)
  have f1 : l33_RepairLeast_0 1000 set 1000 (List.replicate (d.items.length : Int).toNat false) 0 = _ := f1
  rw [f1, bind_some']
  obtain ⟨s2, g1, g2, g3, g4⟩ := lst3 hS d.tracks.length 1000 0 s1 (by omega) (by omega) f2
  have g1 : l33_RepairLeast_3 1000 d 1000 s1 0 = _ := g1
  rw [g1, bind_some']
  obtain ⟨s3, k1, k2, k3, k4, k5⟩ := lst6 hS 1000 s2 g2.len (by omega)
  rw [k1, bind_some']
  have hw : ∀ x, x < d.items.length → homeB d a x = false → inB s3 x = true := by
    intro x hx hb
    obtain ⟨t', p, hp⟩ := hD.tk.all x hx
    exact k3 x (g4 t' p x (by omega) hp hb)
  have hin : ∀ x, x < d.items.length → 0 ≤ rdx rd x → inB s3 x = true := fun x hx h0 => in_all hP hw k5 ((rdx rd x).toNat + 1) x hx h0 (by omega)
  rw [lst13 hP k2 hin, bind_some']
  simp only
  have h15 := lst15 (s := s3) (by omega) s3.length 1000 0 0 (by omega) (by omega) (by omega)
  rw [List.drop_zero, Nat.zero_add] at h15
  have h15 : l33_RepairLeast_15 1000 s3 1000 0 0 = _ := h15
  rw [h15, bind_some']
  unfold l33_RepairLeast_17
  by_cases hse : 0 < (set.length : Int)
  · rw [if_pos (by simpa using hse), sane33]; rfl
  · rw [if_neg (by simpa using hse)]
    have hnil : set = [] := List.length_eq_zero_iff.1 (by omega)
    have f3 := f3 hnil
    have hcnt : cntT s3 = ps.length := by
      rw [cnt_range]
      have sub : ∀ z, z < d.items.length → inB s3 z = true → 0 ≤ rdx rd z := by
        refine k4 _ (pul_cl hP) fun z hz h2 => ?_
        rcases g3 z h2 with h3 | ⟨_, h3⟩
        · rw [f3] at h3
          unfold inB at h3
          rw [List.getElem?_replicate] at h3
          split at h3 <;> simp at h3
        · show 0 ≤ rdx rd z
          rcases hP.on z with h4 | ⟨p, hp, he⟩
          · have := (hP.st z hz h4).1
            rw [h3] at this; cases this
          · obtain ⟨y', q1, _, q3, q4⟩ := hP.it p hp
            have : y' = z := by omega
            subst this; omega
      refine Nat.le_antisymm ?_ ?_
      · have h1 : (((List.range s3.length).filter fun x => inB s3 x).map fun (x : Nat) => (x : Int)).length ≤ (ps.map Pull.item).length := by
          refine List.Nodup.length_le_of_subset ?_ fun i hi => ?_
          · rw [List.Nodup, List.pairwise_map]
            exact (List.nodup_range.filter _).imp fun hne he => hne (by omega)
          · obtain ⟨x, hx, rfl⟩ := List.mem_map.1 hi
            obtain ⟨hx1, hx2⟩ := List.mem_filter.1 hx
            have hx1 := List.mem_range.1 hx1
            obtain ⟨p, hp, he, _⟩ := rd_val hP (sub x (by omega) hx2)
            exact List.mem_map.2 ⟨p, hp, he⟩
        simpa using h1
      · have h1 : (ps.map Pull.item).length ≤ (((List.range s3.length).filter fun x => inB s3 x).map fun (x : Nat) => (x : Int)).length := by
          refine List.Nodup.length_le_of_subset hP.nd fun i hi => ?_
          obtain ⟨p, hp, rfl⟩ := List.mem_map.1 hi
          obtain ⟨x, q1, q2, q3, q4⟩ := hP.it p hp
          exact List.mem_map.2 ⟨x, List.mem_filter.2 ⟨List.mem_range.2 (by omega), hin x q2 (by omega)⟩, q1.symm⟩
        simpa using h1
    rw [hcnt, if_pos (by simp), sane33]
    rfl
end Go.W
end
