/- W1 WLib LBas LPl1 LPl2 LPl3 LPl4 LPlM -/
import Derived.Test.YtkbomolgmgeogaaProg
import Derived.IntWalk
import Derived.Test.YtkbomolgmgeogaaMd
section
set_option linter.unusedVariables false
set_option linter.unusedSimpArgs false
set_option maxRecDepth 100000
set_option maxHeartbeats 1000000
namespace Go.W
open Go.AM Go.Proofs
noncomputable def Ty3 : Ty Int := TyOf 3 [.int .i64] fun x => (x, ())
noncomputable def Ty4 : Ty Bool := TyOf 4 [.bool] fun x => (x, ())
noncomputable def Ty5 : Ty UInt8 := TU8 5
noncomputable def Ty9 : Ty (List UInt8) := TyOf 9 [.str] fun x => (x, ())
noncomputable def Ty22 : Ty (List Int) := TyOf 22 [.sl Int Ty3] fun x => (x, ())
noncomputable def Ty32 : Ty Visit := TyOf 32 [.int .i64, .int .i64, .int .i64] fun x => (x.element, x.in_, x.out, ())
noncomputable def Ty46 : Ty PlantElement := TyOf 46 [.int .i64, .str, .int .i64, .int .i64, .int .i64, .int .i64] fun x => (x.kind, x.name, x.a, x.b, x.c, x.length, ())
noncomputable def Ty52 : Ty Setting := TyOf 52 [.int .i64, .int .i64] fun x => (x.element, x.position, ())
noncomputable def Ty55 : Ty Maker := TyOf 55 [.sl Int Ty3, .int .i64] fun x => (x.l, x.n, ())
noncomputable def Ty69 : Ty Place := TyOf 69 [.int .i64, .int .i64] fun x => (x.element, x.in_, ())
noncomputable def Ty81 : Ty Step := TyOf 81 [.int .i64, .int .i64] fun x => (x.element, x.in_, ())
structure TE where
  α : Type
  T : Ty α
  kc : α → List Value
noncomputable def tabL : Nat → TE
  | 3 => ⟨Int, Ty3, kInt .i64⟩
  | 4 => ⟨Bool, Ty4, kBool⟩
  | 5 => ⟨UInt8, Ty5, fun _ => []⟩
  | 9 => ⟨(List UInt8), Ty9, kStr⟩
  | 22 => ⟨(List Int), Ty22, fun _ => []⟩
  | 32 => ⟨Visit, Ty32, fun _ => []⟩
  | 46 => ⟨PlantElement, Ty46, fun _ => []⟩
  | 52 => ⟨Setting, Ty52, fun _ => []⟩
  | 55 => ⟨Maker, Ty55, fun _ => []⟩
  | 69 => ⟨Place, Ty69, fun x => [.int .i64 x.element, .int .i64 x.in_]⟩
  | 81 => ⟨Step, Ty81, fun x => [.int .i64 x.element, .int .i64 x.in_]⟩
  | _ => ⟨Bool, TBool 4, kBool⟩
noncomputable def D (t : Nat) : Type := (tabL t).α
noncomputable def G : Tab D := ⟨fun t => (tabL t).T, fun t => (tabL t).kc⟩
noncomputable def ti3 : TI Try.prog G 3 := tiOf [.int .i64] (fun (x : Int) => (x, ())) (fun y => (y.1 : Int)) (fun _ => rfl) (fun _ => rfl) (0 : Int) Try.t3 (.int .i64 0) rfl Try.type3 rfl rfl rfl rfl rfl rfl (fun z => ⟨rfl, trivial⟩) rfl
noncomputable def ti4 : TI Try.prog G 4 := tiOf [.bool] (fun (x : Bool) => (x, ())) (fun y => (y.1 : Bool)) (fun _ => rfl) (fun _ => rfl) (false : Bool) Try.t4 (.bool false) rfl Try.type4 rfl rfl rfl rfl rfl rfl (fun z => ⟨rfl, trivial⟩) rfl
noncomputable def ti5 : TI Try.prog G 5 := tiU8 (fun (x : UInt8) => x) (fun x => x) (fun x => x) (fun o => by cases o <;> rfl) (fun _ => rfl) (fun _ => rfl) Try.t5 rfl rfl (fun _ _ _ => Iff.rfl) Try.type5 rfl rfl rfl
noncomputable def ti9 : TI Try.prog G 9 := tiOf [.str] (fun (x : (List UInt8)) => (x, ())) (fun y => (y.1 : (List UInt8))) (fun _ => rfl) (fun _ => rfl) ([] : (List UInt8)) Try.t9 (.string ⟨#[]⟩) rfl Try.type9 rfl rfl rfl rfl rfl rfl (fun z => ⟨rfl, trivial⟩) rfl
noncomputable def ti22 : TI Try.prog G 22 := tiOf [.sl 3] (fun (x : (List Int)) => (x, ())) (fun y => (y.1 : (List Int))) (fun _ => rfl) (fun _ => rfl) ([] : (List Int)) Try.t22 (.slice none 0 0) rfl Try.type22 rfl rfl rfl rfl rfl rfl (fun z => ⟨.inl ⟨rfl, rfl⟩, trivial⟩) rfl
noncomputable def ti32 : TI Try.prog G 32 := tiOf [.int .i64, .int .i64, .int .i64] (fun (x : Visit) => (x.element, x.in_, x.out, ())) (fun y => ((Visit.mk y.1 y.2.1 y.2.2.1) : Visit)) (fun _ => rfl) (fun _ => rfl) ((Visit.mk 0 0 0) : Visit) Try.t32 (.agg #[.int .i64 0, .int .i64 0, .int .i64 0]) rfl Try.type32 rfl rfl rfl rfl rfl rfl (fun z => ⟨rfl, rfl, rfl, trivial⟩) rfl
noncomputable def ti46 : TI Try.prog G 46 := tiOf [.int .i64, .str, .int .i64, .int .i64, .int .i64, .int .i64] (fun (x : PlantElement) => (x.kind, x.name, x.a, x.b, x.c, x.length, ())) (fun y => ((PlantElement.mk y.1 y.2.1 y.2.2.1 y.2.2.2.1 y.2.2.2.2.1 y.2.2.2.2.2.1) : PlantElement)) (fun _ => rfl) (fun _ => rfl) ((PlantElement.mk 0 [] 0 0 0 0) : PlantElement) Try.t46 (.agg #[.int .i64 0, .string ⟨#[]⟩, .int .i64 0, .int .i64 0, .int .i64 0, .int .i64 0]) rfl Try.type46 rfl rfl rfl rfl rfl rfl (fun z => ⟨rfl, rfl, rfl, rfl, rfl, rfl, trivial⟩) rfl
noncomputable def ti52 : TI Try.prog G 52 := tiOf [.int .i64, .int .i64] (fun (x : Setting) => (x.element, x.position, ())) (fun y => ((Setting.mk y.1 y.2.1) : Setting)) (fun _ => rfl) (fun _ => rfl) ((Setting.mk 0 0) : Setting) Try.t52 (.agg #[.int .i64 0, .int .i64 0]) rfl Try.type52 rfl rfl rfl rfl rfl rfl (fun z => ⟨rfl, rfl, trivial⟩) rfl
noncomputable def ti55 : TI Try.prog G 55 := tiOf [.sl 3, .int .i64] (fun (x : Maker) => (x.l, x.n, ())) (fun y => ((Maker.mk y.1 y.2.1) : Maker)) (fun _ => rfl) (fun _ => rfl) ((Maker.mk [] 0) : Maker) Try.t55 (.agg #[.slice none 0 0, .int .i64 0]) rfl Try.type55 rfl rfl rfl rfl rfl rfl (fun z => ⟨.inl ⟨rfl, rfl⟩, rfl, trivial⟩) rfl
noncomputable def ti69 : TI Try.prog G 69 := tiOf [.int .i64, .int .i64] (fun (x : Place) => (x.element, x.in_, ())) (fun y => ((Place.mk y.1 y.2.1) : Place)) (fun _ => rfl) (fun _ => rfl) ((Place.mk 0 0) : Place) Try.t69 (.agg #[.int .i64 0, .int .i64 0]) rfl Try.type69 rfl rfl rfl rfl rfl rfl (fun z => ⟨rfl, rfl, trivial⟩) rfl
noncomputable def ti81 : TI Try.prog G 81 := tiOf [.int .i64, .int .i64] (fun (x : Step) => (x.element, x.in_, ())) (fun y => ((Step.mk y.1 y.2.1) : Step)) (fun _ => rfl) (fun _ => rfl) ((Step.mk 0 0) : Step) Try.t81 (.agg #[.int .i64 0, .int .i64 0]) rfl Try.type81 rfl rfl rfl rfl rfl rfl (fun z => ⟨rfl, rfl, trivial⟩) rfl
noncomputable def qi32 : QI Try.prog G 32 := qiOf [.int .i64, .int .i64, .int .i64] (fun (x : Visit) => (x.element, x.in_, x.out, ())) (fun y => ((Visit.mk y.1 y.2.1 y.2.2.1) : Visit)) (fun _ => rfl) _ (fun (x y : Visit) => decide (x = y)) rfl (fun (x y : Visit) => decide_eq_true_iff) Try.underlying32 (by kernel_rfl) (by kernel_rfl) (by kernel_rfl)
noncomputable def qi52 : QI Try.prog G 52 := qiOf [.int .i64, .int .i64] (fun (x : Setting) => (x.element, x.position, ())) (fun y => ((Setting.mk y.1 y.2.1) : Setting)) (fun _ => rfl) _ (fun (x y : Setting) => decide (x = y)) rfl (fun (x y : Setting) => decide_eq_true_iff) Try.underlying52 (by kernel_rfl) (by kernel_rfl) (by kernel_rfl)
noncomputable def bi5 : BI Try.prog G 5 := ⟨fun xs => xs, fun xs => xs, fun _ _ _ h => h, fun _ _ _ _ _ _ h => h, fun _ _ _ _ _ _ h => h, Try.t5, Try.underlying5, Try.type5, rfl⟩
noncomputable def ki69 : KI Try.prog G 69 := kiA (inferInstance : DecidableEq Place) ti69 [.int .i64, .int .i64] (fun (x : Place) => (x.element, x.in_, ())) (fun y => ((Place.mk y.1 y.2.1) : Place)) (fun _ => rfl) _ Try.t69 rfl Try.underlying69 Try.type69 (by kernel_rfl) rfl (by kernel_rfl) (fun _ => rfl) (fun _ => rfl)
noncomputable def vi3 : VI Try.prog G 3 := viI .i64 (fun n => n) (fun n => n) (fun _ => rfl) Try.t3 Try.underlying3 Try.type3 (valInt Try.underlying3 Try.type3 rfl) (fun _ => rfl) rfl
noncomputable def ki81 : KI Try.prog G 81 := kiA (inferInstance : DecidableEq Step) ti81 [.int .i64, .int .i64] (fun (x : Step) => (x.element, x.in_, ())) (fun y => ((Step.mk y.1 y.2.1) : Step)) (fun _ => rfl) _ Try.t81 rfl Try.underlying81 Try.type81 (by kernel_rfl) rfl (by kernel_rfl) (fun _ => rfl) (fun _ => rfl)
noncomputable def ki9 : KI Try.prog G 9 := kiS (fun n => n) (inferInstance : DecidableEq (List UInt8)) Try.underlying9 (keyStr Try.underlying9 Try.type9 rfl) (fun _ => rfl)
noncomputable def vi4 : VI Try.prog G 4 := viB (fun n => n) (fun n => n) (fun _ => rfl) Try.t4 Try.underlying4 Try.type4 (valBool Try.underlying4 Try.type4 rfl) (fun _ => rfl) rfl
noncomputable def ki3 : KI Try.prog G 3 := kiI .i64 (fun n => n) (inferInstance : DecidableEq Int) Try.t3 Try.underlying3 (keyInt Try.underlying3 Try.type3 rfl) (fun _ => rfl)
noncomputable def ai94 : AI Try.prog G 94 := ⟨3, 64, ti3, Try.t94, .agg #[.int .i64 0, .int .i64 0, .int .i64 0, .int .i64 0, .int .i64 0, .int .i64 0, .int .i64 0, .int .i64 0, .int .i64 0, .int .i64 0, .int .i64 0, .int .i64 0, .int .i64 0, .int .i64 0, .int .i64 0, .int .i64 0, .int .i64 0, .int .i64 0, .int .i64 0, .int .i64 0, .int .i64 0, .int .i64 0, .int .i64 0, .int .i64 0, .int .i64 0, .int .i64 0, .int .i64 0, .int .i64 0, .int .i64 0, .int .i64 0, .int .i64 0, .int .i64 0, .int .i64 0, .int .i64 0, .int .i64 0, .int .i64 0, .int .i64 0, .int .i64 0, .int .i64 0, .int .i64 0, .int .i64 0, .int .i64 0, .int .i64 0, .int .i64 0, .int .i64 0, .int .i64 0, .int .i64 0, .int .i64 0, .int .i64 0, .int .i64 0, .int .i64 0, .int .i64 0, .int .i64 0, .int .i64 0, .int .i64 0, .int .i64 0, .int .i64 0, .int .i64 0, .int .i64 0, .int .i64 0, .int .i64 0, .int .i64 0, .int .i64 0, .int .i64 0], Try.underlying94, Try.type94, rfl, rfl, rfl, rfl, rfl⟩
noncomputable def si46_47 : SI Try.prog G := siOf (t := 52) [.int .i64, .int .i64] (fun (x : Setting) => (x.element, x.position, ())) rfl rfl ((Setting.mk 0 0) : Setting) (fun (x : Setting) => x.element) sortL46 46 47 rfl (by kernel_rfl) Try.isAgg52 Try.sizeOf52 (Go.Proofs.enters_of Try.func47 (by kernel_rfl) rfl) rfl clos47
noncomputable def X0 : Ev Try.prog D where
  G := G
  S := [si46_47]
  I := fun t => match t with | 3 => some ti3 | 4 => some ti4 | 5 => some ti5 | 9 => some ti9 | 22 => some ti22 | 32 => some ti32 | 46 => some ti46 | 52 => some ti52 | 55 => some ti55 | 69 => some ti69 | 81 => some ti81 | _ => none
  A := fun t => match t with | 94 => some ai94 | _ => none
  J := fun k v => match k, v with | 3, 3 => some (miOf ki3 vi3) | 3, 4 => some (miOf ki3 vi4) | 9, 4 => some (miOf ki9 vi4) | 69, 3 => some (miOf ki69 vi3) | 81, 3 => some (miOf ki81 vi3) | _, _ => none
  B := fun t => match t with | 5 => some bi5 | _ => none
  Q := fun t => match t with | 32 => some qi32 | 52 => some qi52 | _ => none
  F := fun _ _ _ => false
  C := fun _ _ _ _ _ => none
noncomputable def fs0 (N : Nat) : List (FE D) := []
theorem all0 (N : Nat) : ∀ y ∈ fs0 N, CallOk X0 y.d y.F := fun y h => absurd h (by simp [fs0])
noncomputable def X00 (N : Nat) : Ev Try.prog D := X0.with (fs0 N)
theorem cok0 (N : Nat) : COk (X00 N) := COk.of (all0 N)
/-! ### humpyard/humpgen.New -/
noncomputable def u0_gen_New (N : Nat) : List (Pc D) := []
theorem oku0_gen_New (N : Nat) : ∀ u ∈ u0_gen_New N, PcOk (X00 N) (bodyOf Try.f8) u := pc_nil
noncomputable def dgen_New : FD D := { f := 8, np := 1, ins := [.v 0 (.sl 3)], fx := [], rcv := none, rk := 0, outs := [.o 2 (.box 55)], ofx := [(2, .box 0 0)], rvs := [.tmp 2], flat := false }
noncomputable def Fgen_New (N : Nat) : dgen_New.F := fun r x => gen_New N x.1
theorem ogen_New (N : Nat) : FOk Try.prog (X00 N) dgen_New (Fgen_New N) := ⟨⟨Try.f8, _, Try.func8, rfl, by kernel_rfl, by kernel_rfl, rfl, FC.of (cok0 N) (us := u0_gen_New N) (fun u h _ => oku0_gen_New N u h) (fun r x => by kernel_rfl)⟩, by kernel_rfl, by kernel_rfl, by kernel_rfl, by kernel_rfl⟩
noncomputable def fs1 (N : Nat) : List (FE D) := ⟨dgen_New, Fgen_New N⟩ :: fs0 N
theorem all1 (N : Nat) : ∀ y ∈ fs1 N, CallOk X0 y.d y.F := all_cons (x := ⟨dgen_New, Fgen_New N⟩) (ogen_New N) (all0 N)
noncomputable def X1 (N : Nat) : Ev Try.prog D := X0.with (fs1 N)
theorem cok1 (N : Nat) : COk (X1 N) := COk.of (all1 N)
/-! ### humpyard/yardgen.name -/
noncomputable def u0_yardgen_name (N : Nat) : List (Pc D) := []
theorem oku0_yardgen_name (N : Nat) : ∀ u ∈ u0_yardgen_name N, PcOk (X1 N) (bodyOf Try.f24) u := pc_nil
noncomputable def dyardgen_name : FD D := { f := 24, np := 1, ins := [.v 0 (.int .i64)], fx := [], rcv := none, rk := 0, outs := [.v 2 .str], ofx := [], rvs := [.tmp 2], flat := true }
noncomputable def Fyardgen_name (N : Nat) : dyardgen_name.F := fun r x => yardgen_name N x.1
theorem oyardgen_name (N : Nat) : FOk Try.prog (X1 N) dyardgen_name (Fyardgen_name N) := ⟨⟨Try.f24, _, Try.func24, rfl, by kernel_rfl, by kernel_rfl, rfl, FC.of (cok1 N) (us := u0_yardgen_name N) (fun u h _ => oku0_yardgen_name N u h) (fun r x => by kernel_rfl)⟩, by kernel_rfl, by kernel_rfl, by kernel_rfl, by kernel_rfl⟩
noncomputable def fs2 (N : Nat) : List (FE D) := ⟨dyardgen_name, Fyardgen_name N⟩ :: fs1 N
theorem all2 (N : Nat) : ∀ y ∈ fs2 N, CallOk X0 y.d y.F := all_cons (x := ⟨dyardgen_name, Fyardgen_name N⟩) (oyardgen_name N) (all1 N)
noncomputable def X2 (N : Nat) : Ev Try.prog D := X0.with (fs2 N)
theorem cok2 (N : Nat) : COk (X2 N) := COk.of (all2 N)
/-! ### (*humpyard/humpgen.Maker).Next -/
noncomputable def u0_Maker_Next (N : Nat) : List (Pc D) := []
theorem oku0_Maker_Next (N : Nat) : ∀ u ∈ u0_Maker_Next N, PcOk (X2 N) (bodyOf Try.f11) u := pc_nil
noncomputable def PMaker_Next_0 : PD D := { path := [1, 1, 0, 1], ins := [.o 0 (.recv 55), .v 5 (.int .i64), .v 11 .bool], fx := [(0, .box 0 0)], ks := [1], exs := [⟨.normal, [.v 5 (.int .i64)], []⟩], keep := [0, 1] }
noncomputable def FMaker_Next_0 (N : Nat) : PMaker_Next_0.F := fun x => Maker_Next_0 N x.1 x.2.1 x.2.2.1
theorem cMaker_Next_0 (N : Nat) : CC (X2 N) (bodyOf Try.f11) PMaker_Next_0 (FMaker_Next_0 N) := CC.of (cok2 N) (us := u0_Maker_Next N) (fun u h _ => oku0_Maker_Next N u h) (fun x => by kernel_rfl)
noncomputable def uMaker_Next_0 (N : Nat) : List (Pc D) := PMaker_Next_0.pc (X2 N) (FMaker_Next_0 N) :: u0_Maker_Next N
theorem okuMaker_Next_0 (N : Nat) : ∀ u ∈ uMaker_Next_0 N, PcOk (X2 N) (bodyOf Try.f11) u := pc_cons ((cMaker_Next_0 N).pc (by kernel_rfl)) (oku0_Maker_Next N)
noncomputable def PMaker_Next_1 : PD D := { path := [1, 1, 1, 1, 1, 0, 1], ins := [.o 0 (.recv 55), .v 1 (.int .i64), .v 5 (.int .i64), .v 51 .bool], fx := [(0, .box 0 0)], ks := [1], exs := [⟨.normal, [.v 5 (.int .i64)], []⟩], keep := [0] }
noncomputable def FMaker_Next_1 (N : Nat) : PMaker_Next_1.F := fun x => Maker_Next_1 N x.2.1 x.2.2.1 x.2.2.2.1
theorem cMaker_Next_1 (N : Nat) : CC (X2 N) (bodyOf Try.f11) PMaker_Next_1 (FMaker_Next_1 N) := CC.of (cok2 N) (us := uMaker_Next_0 N) (fun u h _ => okuMaker_Next_0 N u h) (fun x => by kernel_rfl)
noncomputable def uMaker_Next_1 (N : Nat) : List (Pc D) := PMaker_Next_1.pc (X2 N) (FMaker_Next_1 N) :: uMaker_Next_0 N
theorem okuMaker_Next_1 (N : Nat) : ∀ u ∈ uMaker_Next_1 N, PcOk (X2 N) (bodyOf Try.f11) u := pc_cons ((cMaker_Next_1 N).pc (by kernel_rfl)) (okuMaker_Next_0 N)
noncomputable def dMaker_Next : FD D := { f := 11, np := 2, ins := [.v 1 (.int .i64)], fx := [], rcv := some (0, 55), rk := 2, outs := [.v 4 (.int .i64), .u 0 (.recv 55)], ofx := [], rvs := [.tmp 4], flat := false }
noncomputable def FMaker_Next (N : Nat) : dMaker_Next.F := fun r x => Maker_Next N r x.1
theorem oMaker_Next (N : Nat) : FOk Try.prog (X2 N) dMaker_Next (FMaker_Next N) := ⟨⟨Try.f11, _, Try.func11, rfl, by kernel_rfl, by kernel_rfl, rfl, FC.of (cok2 N) (us := uMaker_Next_1 N) (fun u h _ => okuMaker_Next_1 N u h) (fun r x => by kernel_rfl)⟩, by kernel_rfl, by kernel_rfl, by kernel_rfl, by kernel_rfl⟩
noncomputable def fs3 (N : Nat) : List (FE D) := ⟨dMaker_Next, FMaker_Next N⟩ :: fs2 N
theorem all3 (N : Nat) : ∀ y ∈ fs3 N, CallOk X0 y.d y.F := all_cons (x := ⟨dMaker_Next, FMaker_Next N⟩) (oMaker_Next N) (all2 N)
noncomputable def X3 (N : Nat) : Ev Try.prog D := X0.with (fs3 N)
theorem cok3 (N : Nat) : COk (X3 N) := COk.of (all3 N)
/-! ### (*humpyard/humpgen.Maker).Pick -/
noncomputable def u0_Maker_Pick (N : Nat) : List (Pc D) := []
theorem oku0_Maker_Pick (N : Nat) : ∀ u ∈ u0_Maker_Pick N, PcOk (X3 N) (bodyOf Try.f12) u := pc_nil
noncomputable def dMaker_Pick : FD D := { f := 12, np := 2, ins := [.v 1 (.sl 3)], fx := [], rcv := some (0, 55), rk := 2, outs := [.v 4 (.int .i64), .u 0 (.recv 55)], ofx := [], rvs := [.tmp 4], flat := false }
noncomputable def FMaker_Pick (N : Nat) : dMaker_Pick.F := fun r x => Maker_Pick N r x.1
theorem oMaker_Pick (N : Nat) : FOk Try.prog (X3 N) dMaker_Pick (FMaker_Pick N) := ⟨⟨Try.f12, _, Try.func12, rfl, by kernel_rfl, by kernel_rfl, rfl, FC.of (cok3 N) (us := u0_Maker_Pick N) (fun u h _ => oku0_Maker_Pick N u h) (fun r x => by kernel_rfl)⟩, by kernel_rfl, by kernel_rfl, by kernel_rfl, by kernel_rfl⟩
noncomputable def fs4 (N : Nat) : List (FE D) := ⟨dMaker_Pick, FMaker_Pick N⟩ :: fs3 N
theorem all4 (N : Nat) : ∀ y ∈ fs4 N, CallOk X0 y.d y.F := all_cons (x := ⟨dMaker_Pick, FMaker_Pick N⟩) (oMaker_Pick N) (all3 N)
noncomputable def X4 (N : Nat) : Ev Try.prog D := X0.with (fs4 N)
theorem cok4 (N : Nat) : COk (X4 N) := COk.of (all4 N)
/-! ### humpyard/yardgen.Plant -/
noncomputable def Y4 (N : Nat) : Ev Try.prog D := (X4 N).cuts fun x lo hi => match x, lo, hi with | .tmp 42, none, some (.tmp 43) => 1 | .tmp 45, some (.tmp 47), none => 1 | .tmp 80, none, some (.tmp 83) => 2 | .tmp 178, some (.const _), none => 2 | _, _, _ => 0
theorem coky4 (N : Nat) : COk (Y4 N) := COk.cuts (cok4 N)
noncomputable def u0_yardgen_Plant (N : Nat) : List (Pc D) := []
theorem oku0_yardgen_Plant (N : Nat) : ∀ u ∈ u0_yardgen_Plant N, PcOk (Y4 N) (bodyOf Try.f9) u := pc_nil
noncomputable def Pyardgen_Plant_0 : PD D := { path := [1, 1, 1, 0, 1], ins := [.o 0 (.recv 55), .o 5 (.sl 46), .o 6 (.sl 3), .v 17 .bool], fx := [(0, .box 0 0), (5, .c (.own 1)), (6, .c (.own 2))], ks := [1, 1, 0], exs := [⟨.normal, [.o 6 (.sl 3)], [(6, .c (.own 3))]⟩], keep := [0, 1, 5, 7] }
noncomputable def Fyardgen_Plant_0 (N : Nat) : Pyardgen_Plant_0.F := fun x => yardgen_Plant_0 N x.2.2.1 x.2.2.2.1
theorem cyardgen_Plant_0 (N : Nat) : CC (Y4 N) (bodyOf Try.f9) Pyardgen_Plant_0 (Fyardgen_Plant_0 N) := CC.of (coky4 N) (us := u0_yardgen_Plant N) (fun u h _ => oku0_yardgen_Plant N u h) (fun x => by kernel_rfl)
noncomputable def uyardgen_Plant_0 (N : Nat) : List (Pc D) := Pyardgen_Plant_0.pc (Y4 N) (Fyardgen_Plant_0 N) :: u0_yardgen_Plant N
theorem okuyardgen_Plant_0 (N : Nat) : ∀ u ∈ uyardgen_Plant_0 N, PcOk (Y4 N) (bodyOf Try.f9) u := pc_cons ((cyardgen_Plant_0 N).pc (by kernel_rfl)) (oku0_yardgen_Plant N)
noncomputable def Pyardgen_Plant_2 : PD D := { path := [1, 1, 1, 1, 0, 0, 0, 0, 0], ins := [.o 0 (.recv 55), .v 1 (.int .i64), .o 5 (.sl 46), .o 6 (.sl 3), .v 7 (.int .i64)], fx := [(0, .box 0 0), (5, .c (.own 1)), (6, .c (.own 2))], ks := [1, 1, 1], exs := [⟨.normal, [.v 33 .bool], []⟩], keep := [0, 1, 5, 6, 7] }
noncomputable def Fyardgen_Plant_2 (N : Nat) : Pyardgen_Plant_2.F := fun x => yardgen_Plant_2 N x.2.1 x.2.2.1 x.2.2.2.1 x.2.2.2.2.1
theorem cyardgen_Plant_2 (N : Nat) : CC (Y4 N) (bodyOf Try.f9) Pyardgen_Plant_2 (Fyardgen_Plant_2 N) := CC.of (coky4 N) (us := uyardgen_Plant_0 N) (fun u h _ => okuyardgen_Plant_0 N u h) (fun x => by kernel_rfl)
noncomputable def uyardgen_Plant_2 (N : Nat) : List (Pc D) := Pyardgen_Plant_2.pc (Y4 N) (Fyardgen_Plant_2 N) :: uyardgen_Plant_0 N
theorem okuyardgen_Plant_2 (N : Nat) : ∀ u ∈ uyardgen_Plant_2 N, PcOk (Y4 N) (bodyOf Try.f9) u := pc_cons ((cyardgen_Plant_2 N).pc (by kernel_rfl)) (okuyardgen_Plant_0 N)
noncomputable def Pyardgen_Plant_4 : PD D := { path := [1, 1, 1, 1, 0, 0, 0, 1, 0, 1, 1, 1, 1, 0, 1, 0, 0, 1], ins := [.o 0 (.recv 55), .o 5 (.sl 46), .o 6 (.sl 3), .o 10 (.box 46), .v 55 (.int .i64), .v 96 .bool], fx := [(0, .box 0 0), (5, .c (.own 1)), (6, .c (.own 2)), (10, .box 3 0)], ks := [1, 1, 1, 1], exs := [⟨.normal, [.v 96 .bool], []⟩], keep := [0, 1, 5, 6, 7, 9, 10, 55] }
noncomputable def Fyardgen_Plant_4 (N : Nat) : Pyardgen_Plant_4.F := fun x => yardgen_Plant_4 N x.2.2.2.2.1 x.2.2.2.2.2.1
theorem cyardgen_Plant_4 (N : Nat) : CC (Y4 N) (bodyOf Try.f9) Pyardgen_Plant_4 (Fyardgen_Plant_4 N) := CC.of (coky4 N) (us := uyardgen_Plant_2 N) (fun u h _ => okuyardgen_Plant_2 N u h) (fun x => by kernel_rfl)
noncomputable def uyardgen_Plant_4 (N : Nat) : List (Pc D) := Pyardgen_Plant_4.pc (Y4 N) (Fyardgen_Plant_4 N) :: uyardgen_Plant_2 N
theorem okuyardgen_Plant_4 (N : Nat) : ∀ u ∈ uyardgen_Plant_4 N, PcOk (Y4 N) (bodyOf Try.f9) u := pc_cons ((cyardgen_Plant_4 N).pc (by kernel_rfl)) (okuyardgen_Plant_2 N)
noncomputable def Pyardgen_Plant_5 : PD D := { path := [1, 1, 1, 1, 0, 0, 0, 1, 0, 1, 1, 1, 1, 0, 1, 0, 1, 1, 1, 1, 1, 1, 1, 0], ins := [.o 0 (.recv 55), .o 5 (.sl 46), .o 6 (.sl 3), .o 10 (.box 46)], fx := [(0, .box 0 0), (5, .c (.own 1)), (6, .c (.own 2)), (10, .box 3 0)], ks := [2, 1, 1, 1], exs := [⟨.normal, [.u 0 (.recv 55), .v 72 .bool], []⟩], keep := [0, 1, 5, 6, 7, 10] }
noncomputable def Fyardgen_Plant_5 (N : Nat) : Pyardgen_Plant_5.F := fun x => yardgen_Plant_5 N x.1 x.2.2.1
theorem cyardgen_Plant_5 (N : Nat) : CC (Y4 N) (bodyOf Try.f9) Pyardgen_Plant_5 (Fyardgen_Plant_5 N) := CC.of (coky4 N) (us := uyardgen_Plant_4 N) (fun u h _ => okuyardgen_Plant_4 N u h) (fun x => by kernel_rfl)
noncomputable def uyardgen_Plant_5 (N : Nat) : List (Pc D) := Pyardgen_Plant_5.pc (Y4 N) (Fyardgen_Plant_5 N) :: uyardgen_Plant_4 N
theorem okuyardgen_Plant_5 (N : Nat) : ∀ u ∈ uyardgen_Plant_5 N, PcOk (Y4 N) (bodyOf Try.f9) u := pc_cons ((cyardgen_Plant_5 N).pc (by kernel_rfl)) (okuyardgen_Plant_4 N)
noncomputable def Pyardgen_Plant_3 : PD D := { path := [1, 1, 1, 1, 0, 0, 0, 1, 0, 1, 1, 1, 1, 0, 1], ins := [.o 0 (.recv 55), .o 5 (.sl 46), .o 6 (.sl 3), .v 7 (.int .i64), .v 9 (.int .i64), .o 10 (.box 46), .v 55 (.int .i64)], fx := [(0, .box 0 0), (5, .c (.own 1)), (6, .c (.own 2)), (10, .box 3 0)], ks := [2, 1, 0, 2], exs := [⟨.normal, [.u 0 (.recv 55), .o 6 (.sl 3), .v 7 (.int .i64), .u 3 (.box 46)], [(6, .c (.own 4))]⟩], keep := [0, 1, 5, 10] }
noncomputable def Fyardgen_Plant_3 (N : Nat) : Pyardgen_Plant_3.F := fun x => yardgen_Plant_3 N x.1 x.2.2.1 x.2.2.2.1 x.2.2.2.2.1 x.2.2.2.2.2.1 x.2.2.2.2.2.2.1
theorem cyardgen_Plant_3 (N : Nat) : CC (Y4 N) (bodyOf Try.f9) Pyardgen_Plant_3 (Fyardgen_Plant_3 N) := CC.of (coky4 N) (us := uyardgen_Plant_5 N) (fun u h _ => okuyardgen_Plant_5 N u h) (fun x => by kernel_rfl)
noncomputable def uyardgen_Plant_3 (N : Nat) : List (Pc D) := Pyardgen_Plant_3.pc (Y4 N) (Fyardgen_Plant_3 N) :: uyardgen_Plant_5 N
theorem okuyardgen_Plant_3 (N : Nat) : ∀ u ∈ uyardgen_Plant_3 N, PcOk (Y4 N) (bodyOf Try.f9) u := pc_cons ((cyardgen_Plant_3 N).pc (by kernel_rfl)) (okuyardgen_Plant_5 N)
noncomputable def Pyardgen_Plant_1 : PD D := { path := [1, 1, 1, 1, 0, 0], ins := [.o 0 (.recv 55), .v 1 (.int .i64), .o 5 (.sl 46), .o 6 (.sl 3), .v 7 (.int .i64)], fx := [(0, .box 0 0), (5, .c (.own 1)), (6, .c (.own 2))], ks := [2, 0, 0], exs := [⟨.exit 0, [.u 0 (.recv 55), .o 5 (.sl 46), .o 6 (.sl 3), .v 7 (.int .i64)], [(5, .c (.own 3)), (6, .c (.own 4))]⟩], keep := [0] }
noncomputable def Fyardgen_Plant_1 (N n : Nat) : Pyardgen_Plant_1.F := fun x => yardgen_Plant_1 N x.2.1 n x.1 x.2.2.1 x.2.2.2.1 x.2.2.2.2.1
theorem cyardgen_Plant_1 (N n : Nat) : CC (Y4 N) (bodyOf Try.f9) Pyardgen_Plant_1 (Fyardgen_Plant_1 N n) := CC.loop (coky4 N) (us := uyardgen_Plant_3 N) (c := sub (bodyOf Try.f9) [1, 1, 1, 1, 0, 0, 0]) (by kernel_rfl) (by kernel_rfl) (fun u h _ => okuyardgen_Plant_3 N u h) (fun x => rfl) (fun n x => by kernel_rfl) n
noncomputable def uyardgen_Plant_1 (N : Nat) : List (Pc D) := Pyardgen_Plant_1.pc (Y4 N) (Fyardgen_Plant_1 N N) :: uyardgen_Plant_3 N
theorem okuyardgen_Plant_1 (N : Nat) : ∀ u ∈ uyardgen_Plant_1 N, PcOk (Y4 N) (bodyOf Try.f9) u := pc_cons ((cyardgen_Plant_1 N N).pc (by kernel_rfl)) (okuyardgen_Plant_3 N)
noncomputable def Pyardgen_Plant_7 : PD D := { path := [1, 1, 1, 1, 1, 0, 0, 0, 0, 0], ins := [.o 0 (.recv 55), .o 5 (.sl 46), .o 6 (.sl 3), .v 7 (.int .i64)], fx := [(0, .box 0 0), (5, .c (.own 1)), (6, .c (.own 2))], ks := [1, 1, 1], exs := [⟨.normal, [.v 161 .bool], []⟩], keep := [0, 5, 6, 7] }
noncomputable def Fyardgen_Plant_7 (N : Nat) : Pyardgen_Plant_7.F := fun x => yardgen_Plant_7 N x.2.1 x.2.2.1 x.2.2.2.1
theorem cyardgen_Plant_7 (N : Nat) : CC (Y4 N) (bodyOf Try.f9) Pyardgen_Plant_7 (Fyardgen_Plant_7 N) := CC.of (coky4 N) (us := uyardgen_Plant_1 N) (fun u h _ => okuyardgen_Plant_1 N u h) (fun x => by kernel_rfl)
noncomputable def uyardgen_Plant_7 (N : Nat) : List (Pc D) := Pyardgen_Plant_7.pc (Y4 N) (Fyardgen_Plant_7 N) :: uyardgen_Plant_1 N
theorem okuyardgen_Plant_7 (N : Nat) : ∀ u ∈ uyardgen_Plant_7 N, PcOk (Y4 N) (bodyOf Try.f9) u := pc_cons ((cyardgen_Plant_7 N).pc (by kernel_rfl)) (okuyardgen_Plant_1 N)
noncomputable def Pyardgen_Plant_8 : PD D := { path := [1, 1, 1, 1, 1, 0, 0, 0, 1, 0, 0, 1], ins := [.o 0 (.recv 55), .o 5 (.sl 46), .o 6 (.sl 3), .v 7 (.int .i64), .v 164 .bool], fx := [(0, .box 0 0), (5, .c (.own 1)), (6, .c (.own 2))], ks := [1, 0, 1], exs := [⟨.normal, [.o 5 (.sl 46), .v 7 (.int .i64)], [(5, .c (.own 3))]⟩], keep := [0, 6] }
noncomputable def Fyardgen_Plant_8 (N : Nat) : Pyardgen_Plant_8.F := fun x => yardgen_Plant_8 N x.2.1 x.2.2.1 x.2.2.2.1 x.2.2.2.2.1
theorem cyardgen_Plant_8 (N : Nat) : CC (Y4 N) (bodyOf Try.f9) Pyardgen_Plant_8 (Fyardgen_Plant_8 N) := CC.of (coky4 N) (us := uyardgen_Plant_7 N) (fun u h _ => okuyardgen_Plant_7 N u h) (fun x => by kernel_rfl)
noncomputable def uyardgen_Plant_8 (N : Nat) : List (Pc D) := Pyardgen_Plant_8.pc (Y4 N) (Fyardgen_Plant_8 N) :: uyardgen_Plant_7 N
theorem okuyardgen_Plant_8 (N : Nat) : ∀ u ∈ uyardgen_Plant_8 N, PcOk (Y4 N) (bodyOf Try.f9) u := pc_cons ((cyardgen_Plant_8 N).pc (by kernel_rfl)) (okuyardgen_Plant_7 N)
noncomputable def Pyardgen_Plant_6 : PD D := { path := [1, 1, 1, 1, 1, 0, 0], ins := [.o 0 (.recv 55), .o 5 (.sl 46), .o 6 (.sl 3), .v 7 (.int .i64)], fx := [(0, .box 0 0), (5, .c (.own 1)), (6, .c (.own 2))], ks := [2, 0, 0], exs := [⟨.exit 3, [.u 0 (.recv 55), .o 5 (.sl 46)], [(5, .c (.own 3))]⟩], keep := [0] }
noncomputable def Fyardgen_Plant_6 (N n : Nat) : Pyardgen_Plant_6.F := fun x => yardgen_Plant_6 N n x.1 x.2.1 x.2.2.1 x.2.2.2.1
theorem cyardgen_Plant_6 (N n : Nat) : CC (Y4 N) (bodyOf Try.f9) Pyardgen_Plant_6 (Fyardgen_Plant_6 N n) := CC.loop (coky4 N) (us := uyardgen_Plant_8 N) (c := sub (bodyOf Try.f9) [1, 1, 1, 1, 1, 0, 0, 0]) (by kernel_rfl) (by kernel_rfl) (fun u h _ => okuyardgen_Plant_8 N u h) (fun x => rfl) (fun n x => by kernel_rfl) n
noncomputable def uyardgen_Plant_6 (N : Nat) : List (Pc D) := Pyardgen_Plant_6.pc (Y4 N) (Fyardgen_Plant_6 N N) :: uyardgen_Plant_8 N
theorem okuyardgen_Plant_6 (N : Nat) : ∀ u ∈ uyardgen_Plant_6 N, PcOk (Y4 N) (bodyOf Try.f9) u := pc_cons ((cyardgen_Plant_6 N N).pc (by kernel_rfl)) (okuyardgen_Plant_8 N)
noncomputable def dyardgen_Plant : FD D := { f := 9, np := 2, ins := [.v 1 (.int .i64)], fx := [], rcv := some (0, 55), rk := 2, outs := [.o 4 (.sl 46), .u 0 (.recv 55)], ofx := [(4, .c (.own 1))], rvs := [.tmp 4], flat := false }
noncomputable def Fyardgen_Plant (N : Nat) : dyardgen_Plant.F := fun r x => yardgen_Plant N r x.1
theorem oyardgen_Plant (N : Nat) : FOk Try.prog (Y4 N) dyardgen_Plant (Fyardgen_Plant N) := ⟨⟨Try.f9, _, Try.func9, rfl, by kernel_rfl, by kernel_rfl, rfl, FC.of (coky4 N) (us := uyardgen_Plant_6 N) (fun u h _ => okuyardgen_Plant_6 N u h) (fun r x => by kernel_rfl)⟩, by kernel_rfl, by kernel_rfl, by kernel_rfl, by kernel_rfl⟩
noncomputable def fs5 (N : Nat) : List (FE D) := ⟨dyardgen_Plant, Fyardgen_Plant N⟩ :: fs4 N
theorem all5 (N : Nat) : ∀ y ∈ fs5 N, CallOk X0 y.d y.F := all_call (x := ⟨dyardgen_Plant, Fyardgen_Plant N⟩) ((oyardgen_Plant N).call.cuts) (all4 N)
noncomputable def X5 (N : Nat) : Ev Try.prog D := X0.with (fs5 N)
theorem cok5 (N : Nat) : COk (X5 N) := COk.of (all5 N)
/-! ### humpyard/yardgen.Tracks -/
noncomputable def u0_yardgen_Tracks (N : Nat) : List (Pc D) := []
theorem oku0_yardgen_Tracks (N : Nat) : ∀ u ∈ u0_yardgen_Tracks N, PcOk (X5 N) (bodyOf Try.f25) u := pc_nil
noncomputable def Pyardgen_Tracks_1 : PD D := { path := [1, 1, 0, 1, 0, 0, 1, 0], ins := [.v 0 (.sl 46), .o 3 (.sl 3), .v 4 (.int .i64)], fx := [(3, .c (.own 0))], ks := [0], exs := [⟨.normal, [.o 3 (.sl 3)], [(3, .c (.own 1))]⟩], keep := [0, 4] }
noncomputable def Fyardgen_Tracks_1 (N : Nat) : Pyardgen_Tracks_1.F := fun x => yardgen_Tracks_1 N x.1 x.2.1 x.2.2.1
theorem cyardgen_Tracks_1 (N : Nat) : CC (X5 N) (bodyOf Try.f25) Pyardgen_Tracks_1 (Fyardgen_Tracks_1 N) := CC.of (cok5 N) (us := u0_yardgen_Tracks N) (fun u h _ => oku0_yardgen_Tracks N u h) (fun x => by kernel_rfl)
noncomputable def uyardgen_Tracks_1 (N : Nat) : List (Pc D) := Pyardgen_Tracks_1.pc (X5 N) (Fyardgen_Tracks_1 N) :: u0_yardgen_Tracks N
theorem okuyardgen_Tracks_1 (N : Nat) : ∀ u ∈ uyardgen_Tracks_1 N, PcOk (X5 N) (bodyOf Try.f25) u := pc_cons ((cyardgen_Tracks_1 N).pc (by kernel_rfl)) (oku0_yardgen_Tracks N)
noncomputable def Pyardgen_Tracks_0 : PD D := { path := [1, 1, 0, 1, 0], ins := [.v 0 (.sl 46), .o 3 (.sl 3), .v 4 (.int .i64)], fx := [(3, .c (.own 0))], ks := [0], exs := [⟨.exit 0, [.o 3 (.sl 3)], [(3, .c (.own 1))]⟩], keep := [] }
noncomputable def Fyardgen_Tracks_0 (N n : Nat) : Pyardgen_Tracks_0.F := fun x => yardgen_Tracks_0 N x.1 n x.2.1 x.2.2.1
theorem cyardgen_Tracks_0 (N n : Nat) : CC (X5 N) (bodyOf Try.f25) Pyardgen_Tracks_0 (Fyardgen_Tracks_0 N n) := CC.loop (cok5 N) (us := uyardgen_Tracks_1 N) (c := sub (bodyOf Try.f25) [1, 1, 0, 1, 0, 0]) (by kernel_rfl) (by kernel_rfl) (fun u h _ => okuyardgen_Tracks_1 N u h) (fun x => rfl) (fun n x => by kernel_rfl) n
noncomputable def uyardgen_Tracks_0 (N : Nat) : List (Pc D) := Pyardgen_Tracks_0.pc (X5 N) (Fyardgen_Tracks_0 N N) :: uyardgen_Tracks_1 N
theorem okuyardgen_Tracks_0 (N : Nat) : ∀ u ∈ uyardgen_Tracks_0 N, PcOk (X5 N) (bodyOf Try.f25) u := pc_cons ((cyardgen_Tracks_0 N N).pc (by kernel_rfl)) (okuyardgen_Tracks_1 N)
noncomputable def dyardgen_Tracks : FD D := { f := 25, np := 1, ins := [.v 0 (.sl 46)], fx := [], rcv := none, rk := 0, outs := [.o 2 (.sl 3)], ofx := [(2, .c (.own 0))], rvs := [.tmp 2], flat := false }
noncomputable def Fyardgen_Tracks (N : Nat) : dyardgen_Tracks.F := fun r x => yardgen_Tracks N x.1
theorem oyardgen_Tracks (N : Nat) : FOk Try.prog (X5 N) dyardgen_Tracks (Fyardgen_Tracks N) := ⟨⟨Try.f25, _, Try.func25, rfl, by kernel_rfl, by kernel_rfl, rfl, FC.of (cok5 N) (us := uyardgen_Tracks_0 N) (fun u h _ => okuyardgen_Tracks_0 N u h) (fun r x => by kernel_rfl)⟩, by kernel_rfl, by kernel_rfl, by kernel_rfl, by kernel_rfl⟩
noncomputable def fs6 (N : Nat) : List (FE D) := ⟨dyardgen_Tracks, Fyardgen_Tracks N⟩ :: fs5 N
theorem all6 (N : Nat) : ∀ y ∈ fs6 N, CallOk X0 y.d y.F := all_cons (x := ⟨dyardgen_Tracks, Fyardgen_Tracks N⟩) (oyardgen_Tracks N) (all5 N)
noncomputable def X6 (N : Nat) : Ev Try.prog D := X0.with (fs6 N)
theorem cok6 (N : Nat) : COk (X6 N) := COk.of (all6 N)
/-! ### humpyard/humpyardref26.Ends -/
noncomputable def u0_r26_Ends (N : Nat) : List (Pc D) := []
theorem oku0_r26_Ends (N : Nat) : ∀ u ∈ u0_r26_Ends N, PcOk (X6 N) (bodyOf Try.f26) u := pc_nil
noncomputable def Pr26_Ends_0 : PD D := { path := [1, 0, 0], ins := [.v 0 (.sl 46), .v 1 (.int .i64)], fx := [], ks := [], exs := [⟨.normal, [.v 12 .bool], []⟩], keep := [0, 1] }
noncomputable def Fr26_Ends_0 (N : Nat) : Pr26_Ends_0.F := fun x => r26_Ends_0 N x.1 x.2.1
theorem cr26_Ends_0 (N : Nat) : CC (X6 N) (bodyOf Try.f26) Pr26_Ends_0 (Fr26_Ends_0 N) := CC.of (cok6 N) (us := u0_r26_Ends N) (fun u h _ => oku0_r26_Ends N u h) (fun x => by kernel_rfl)
noncomputable def ur26_Ends_0 (N : Nat) : List (Pc D) := Pr26_Ends_0.pc (X6 N) (Fr26_Ends_0 N) :: u0_r26_Ends N
theorem okur26_Ends_0 (N : Nat) : ∀ u ∈ ur26_Ends_0 N, PcOk (X6 N) (bodyOf Try.f26) u := pc_cons ((cr26_Ends_0 N).pc (by kernel_rfl)) (oku0_r26_Ends N)
noncomputable def Pr26_Ends_1 : PD D := { path := [1, 1, 0, 1, 0, 0, 1], ins := [.v 17 (.int .i64), .v 18 .bool], fx := [], ks := [], exs := [⟨.normal, [.v 18 .bool], []⟩], keep := [0, 1, 17] }
noncomputable def Fr26_Ends_1 (N : Nat) : Pr26_Ends_1.F := fun x => r26_Ends_1 N x.1 x.2.1
theorem cr26_Ends_1 (N : Nat) : CC (X6 N) (bodyOf Try.f26) Pr26_Ends_1 (Fr26_Ends_1 N) := CC.of (cok6 N) (us := ur26_Ends_0 N) (fun u h _ => okur26_Ends_0 N u h) (fun x => by kernel_rfl)
noncomputable def ur26_Ends_1 (N : Nat) : List (Pc D) := Pr26_Ends_1.pc (X6 N) (Fr26_Ends_1 N) :: ur26_Ends_0 N
theorem okur26_Ends_1 (N : Nat) : ∀ u ∈ ur26_Ends_1 N, PcOk (X6 N) (bodyOf Try.f26) u := pc_cons ((cr26_Ends_1 N).pc (by kernel_rfl)) (okur26_Ends_0 N)
noncomputable def dr26_Ends : FD D := { f := 26, np := 2, ins := [.v 0 (.sl 46), .v 1 (.int .i64)], fx := [], rcv := none, rk := 0, outs := [.o 4 (.sl 3)], ofx := [(4, .c (.own 0))], rvs := [.tmp 4], flat := false }
noncomputable def Fr26_Ends (N : Nat) : dr26_Ends.F := fun r x => r26_Ends N x.1 x.2.1
theorem or26_Ends (N : Nat) : FOk Try.prog (X6 N) dr26_Ends (Fr26_Ends N) := ⟨⟨Try.f26, _, Try.func26, rfl, by kernel_rfl, by kernel_rfl, rfl, FC.of (cok6 N) (us := ur26_Ends_1 N) (fun u h _ => okur26_Ends_1 N u h) (fun r x => by kernel_rfl)⟩, by kernel_rfl, by kernel_rfl, by kernel_rfl, by kernel_rfl⟩
noncomputable def fs7 (N : Nat) : List (FE D) := ⟨dr26_Ends, Fr26_Ends N⟩ :: fs6 N
theorem all7 (N : Nat) : ∀ y ∈ fs7 N, CallOk X0 y.d y.F := all_cons (x := ⟨dr26_Ends, Fr26_Ends N⟩) (or26_Ends N) (all6 N)
noncomputable def X7 (N : Nat) : Ev Try.prog D := X0.with (fs7 N)
theorem cok7 (N : Nat) : COk (X7 N) := COk.of (all7 N)
/-! ### humpyard/humpyardref26.has -/
noncomputable def u0_r26_has (N : Nat) : List (Pc D) := []
theorem oku0_r26_has (N : Nat) : ∀ u ∈ u0_r26_has N, PcOk (X7 N) (bodyOf Try.f50) u := pc_nil
noncomputable def Pr26_has_0 : PD D := { path := [1, 0, 1, 0], ins := [.v 0 (.sl 3), .v 1 (.int .i64), .v 5 (.int .i64)], fx := [], ks := [], exs := [⟨.exit 0, [], []⟩, ⟨.ret, [.v 4 .bool], []⟩], keep := [] }
noncomputable def Fr26_has_0 (N n : Nat) : Pr26_has_0.F := fun x => r26_has_0 N x.1 x.2.1 n x.2.2.1
theorem cr26_has_0 (N n : Nat) : CC (X7 N) (bodyOf Try.f50) Pr26_has_0 (Fr26_has_0 N n) := CC.loop (cok7 N) (us := u0_r26_has N) (c := sub (bodyOf Try.f50) [1, 0, 1, 0, 0]) (by kernel_rfl) (by kernel_rfl) (fun u h _ => oku0_r26_has N u h) (fun x => rfl) (fun n x => by kernel_rfl) n
noncomputable def ur26_has_0 (N : Nat) : List (Pc D) := Pr26_has_0.pc (X7 N) (Fr26_has_0 N N) :: u0_r26_has N
theorem okur26_has_0 (N : Nat) : ∀ u ∈ ur26_has_0 N, PcOk (X7 N) (bodyOf Try.f50) u := pc_cons ((cr26_has_0 N N).pc (by kernel_rfl)) (oku0_r26_has N)
noncomputable def dr26_has : FD D := { f := 50, np := 2, ins := [.v 0 (.sl 3), .v 1 (.int .i64)], fx := [], rcv := none, rk := 0, outs := [.v 4 .bool], ofx := [], rvs := [.tmp 4], flat := true }
noncomputable def Fr26_has (N : Nat) : dr26_has.F := fun r x => r26_has N x.1 x.2.1
theorem or26_has (N : Nat) : FOk Try.prog (X7 N) dr26_has (Fr26_has N) := ⟨⟨Try.f50, _, Try.func50, rfl, by kernel_rfl, by kernel_rfl, rfl, FC.of (cok7 N) (us := ur26_has_0 N) (fun u h _ => okur26_has_0 N u h) (fun r x => by kernel_rfl)⟩, by kernel_rfl, by kernel_rfl, by kernel_rfl, by kernel_rfl⟩
noncomputable def fs8 (N : Nat) : List (FE D) := ⟨dr26_has, Fr26_has N⟩ :: fs7 N
theorem all8 (N : Nat) : ∀ y ∈ fs8 N, CallOk X0 y.d y.F := all_cons (x := ⟨dr26_has, Fr26_has N⟩) (or26_has N) (all7 N)
noncomputable def X8 (N : Nat) : Ev Try.prog D := X0.with (fs8 N)
theorem cok8 (N : Nat) : COk (X8 N) := COk.of (all8 N)
/-! ### humpyard/humpyardref26.Neighbour -/
noncomputable def u0_r26_Neighbour (N : Nat) : List (Pc D) := []
theorem oku0_r26_Neighbour (N : Nat) : ∀ u ∈ u0_r26_Neighbour N, PcOk (X8 N) (bodyOf Try.f27) u := pc_nil
noncomputable def Pr26_Neighbour_1 : PD D := { path := [1, 0, 1, 0, 0, 1, 0, 0, 0], ins := [.v 0 (.sl 46), .v 1 (.int .i64), .v 2 (.int .i64), .v 7 (.int .i64)], fx := [], ks := [], exs := [⟨.normal, [.v 23 .bool], []⟩], keep := [0, 1, 2, 7] }
noncomputable def Fr26_Neighbour_1 (N : Nat) : Pr26_Neighbour_1.F := fun x => r26_Neighbour_1 N x.1 x.2.1 x.2.2.1 x.2.2.2.1
theorem cr26_Neighbour_1 (N : Nat) : CC (X8 N) (bodyOf Try.f27) Pr26_Neighbour_1 (Fr26_Neighbour_1 N) := CC.of (cok8 N) (us := u0_r26_Neighbour N) (fun u h _ => oku0_r26_Neighbour N u h) (fun x => by kernel_rfl)
noncomputable def ur26_Neighbour_1 (N : Nat) : List (Pc D) := Pr26_Neighbour_1.pc (X8 N) (Fr26_Neighbour_1 N) :: u0_r26_Neighbour N
theorem okur26_Neighbour_1 (N : Nat) : ∀ u ∈ ur26_Neighbour_1 N, PcOk (X8 N) (bodyOf Try.f27) u := pc_cons ((cr26_Neighbour_1 N).pc (by kernel_rfl)) (oku0_r26_Neighbour N)
noncomputable def Pr26_Neighbour_0 : PD D := { path := [1, 0, 1, 0], ins := [.v 0 (.sl 46), .v 1 (.int .i64), .v 2 (.int .i64), .v 7 (.int .i64)], fx := [], ks := [], exs := [⟨.exit 0, [], []⟩, ⟨.ret, [.v 6 (.int .i64)], []⟩], keep := [] }
noncomputable def Fr26_Neighbour_0 (N n : Nat) : Pr26_Neighbour_0.F := fun x => r26_Neighbour_0 N x.1 x.2.1 x.2.2.1 n x.2.2.2.1
theorem cr26_Neighbour_0 (N n : Nat) : CC (X8 N) (bodyOf Try.f27) Pr26_Neighbour_0 (Fr26_Neighbour_0 N n) := CC.loop (cok8 N) (us := ur26_Neighbour_1 N) (c := sub (bodyOf Try.f27) [1, 0, 1, 0, 0]) (by kernel_rfl) (by kernel_rfl) (fun u h _ => okur26_Neighbour_1 N u h) (fun x => rfl) (fun n x => by kernel_rfl) n
noncomputable def ur26_Neighbour_0 (N : Nat) : List (Pc D) := Pr26_Neighbour_0.pc (X8 N) (Fr26_Neighbour_0 N N) :: ur26_Neighbour_1 N
theorem okur26_Neighbour_0 (N : Nat) : ∀ u ∈ ur26_Neighbour_0 N, PcOk (X8 N) (bodyOf Try.f27) u := pc_cons ((cr26_Neighbour_0 N N).pc (by kernel_rfl)) (okur26_Neighbour_1 N)
noncomputable def dr26_Neighbour : FD D := { f := 27, np := 3, ins := [.v 0 (.sl 46), .v 1 (.int .i64), .v 2 (.int .i64)], fx := [], rcv := none, rk := 0, outs := [.v 6 (.int .i64)], ofx := [], rvs := [.tmp 6], flat := true }
noncomputable def Fr26_Neighbour (N : Nat) : dr26_Neighbour.F := fun r x => r26_Neighbour N x.1 x.2.1 x.2.2.1
theorem or26_Neighbour (N : Nat) : FOk Try.prog (X8 N) dr26_Neighbour (Fr26_Neighbour N) := ⟨⟨Try.f27, _, Try.func27, rfl, by kernel_rfl, by kernel_rfl, rfl, FC.of (cok8 N) (us := ur26_Neighbour_0 N) (fun u h _ => okur26_Neighbour_0 N u h) (fun r x => by kernel_rfl)⟩, by kernel_rfl, by kernel_rfl, by kernel_rfl, by kernel_rfl⟩
noncomputable def fs9 (N : Nat) : List (FE D) := ⟨dr26_Neighbour, Fr26_Neighbour N⟩ :: fs8 N
theorem all9 (N : Nat) : ∀ y ∈ fs9 N, CallOk X0 y.d y.F := all_cons (x := ⟨dr26_Neighbour, Fr26_Neighbour N⟩) (or26_Neighbour N) (all8 N)
noncomputable def X9 (N : Nat) : Ev Try.prog D := X0.with (fs9 N)
theorem cok9 (N : Nat) : COk (X9 N) := COk.of (all9 N)
/-! ### humpyard/humpyardref26.Through -/
noncomputable def u0_r26_Through (N : Nat) : List (Pc D) := []
theorem oku0_r26_Through (N : Nat) : ∀ u ∈ u0_r26_Through N, PcOk (X9 N) (bodyOf Try.f23) u := pc_nil
noncomputable def dr26_Through : FD D := { f := 23, np := 3, ins := [.v 0 (.sl 46), .v 1 (.int .i64), .v 2 (.int .i64)], fx := [], rcv := none, rk := 0, outs := [.o 6 (.sl 3)], ofx := [(6, .c (.own 0))], rvs := [.tmp 6], flat := false }
noncomputable def Fr26_Through (N : Nat) : dr26_Through.F := fun r x => r26_Through N x.1 x.2.1 x.2.2.1
theorem or26_Through (N : Nat) : FOk Try.prog (X9 N) dr26_Through (Fr26_Through N) := ⟨⟨Try.f23, _, Try.func23, rfl, by kernel_rfl, by kernel_rfl, rfl, FC.of (cok9 N) (us := u0_r26_Through N) (fun u h _ => oku0_r26_Through N u h) (fun r x => by kernel_rfl)⟩, by kernel_rfl, by kernel_rfl, by kernel_rfl, by kernel_rfl⟩
noncomputable def fs10 (N : Nat) : List (FE D) := ⟨dr26_Through, Fr26_Through N⟩ :: fs9 N
theorem all10 (N : Nat) : ∀ y ∈ fs10 N, CallOk X0 y.d y.F := all_cons (x := ⟨dr26_Through, Fr26_Through N⟩) (or26_Through N) (all9 N)
noncomputable def X10 (N : Nat) : Ev Try.prog D := X0.with (fs10 N)
theorem cok10 (N : Nat) : COk (X10 N) := COk.of (all10 N)
/-! ### humpyard/yardgen.Walk -/
noncomputable def u0_yardgen_Walk (N : Nat) : List (Pc D) := []
theorem oku0_yardgen_Walk (N : Nat) : ∀ u ∈ u0_yardgen_Walk N, PcOk (X10 N) (bodyOf Try.f10) u := pc_nil
noncomputable def Pyardgen_Walk_1 : PD D := { path := [1, 1, 1, 1, 1, 1, 0, 1, 0, 0, 1, 0, 0, 1, 1, 1, 1, 0, 0], ins := [.o 0 (.recv 55), .v 1 (.sl 46), .o 6 (.box 32), .o 8 (.sl 32), .v 10 (.int .i64), .o 11 (.sl 3)], fx := [(0, .box 0 0), (6, .box 1 0), (8, .c (.own 2)), (11, .c (.own 3))], ks := [2, 1, 1, 1], exs := [⟨.normal, [.u 0 (.recv 55), .v 76 .bool], []⟩], keep := [0, 1, 6, 8, 9, 11] }
noncomputable def Fyardgen_Walk_1 (N : Nat) : Pyardgen_Walk_1.F := fun x => yardgen_Walk_1 N x.1 x.2.1 x.2.2.2.2.1 x.2.2.2.2.2.1
theorem cyardgen_Walk_1 (N : Nat) : CC (X10 N) (bodyOf Try.f10) Pyardgen_Walk_1 (Fyardgen_Walk_1 N) := CC.of (cok10 N) (us := u0_yardgen_Walk N) (fun u h _ => oku0_yardgen_Walk N u h) (fun x => by kernel_rfl)
noncomputable def uyardgen_Walk_1 (N : Nat) : List (Pc D) := Pyardgen_Walk_1.pc (X10 N) (Fyardgen_Walk_1 N) :: u0_yardgen_Walk N
theorem okuyardgen_Walk_1 (N : Nat) : ∀ u ∈ uyardgen_Walk_1 N, PcOk (X10 N) (bodyOf Try.f10) u := pc_cons ((cyardgen_Walk_1 N).pc (by kernel_rfl)) (oku0_yardgen_Walk N)
noncomputable def Pyardgen_Walk_0 : PD D := { path := [1, 1, 1, 1, 1, 1, 0, 1, 0], ins := [.o 0 (.recv 55), .v 1 (.sl 46), .o 6 (.box 32), .o 8 (.sl 32), .v 9 (.int .i64)], fx := [(0, .box 0 0), (6, .box 1 0), (8, .c (.own 2))], ks := [2, 0, 0], exs := [⟨.exit 0, [.u 0 (.recv 55), .o 8 (.sl 32)], [(8, .c (.own 3))]⟩, ⟨.ret, [.u 0 (.recv 55), .o 4 (.sl 32)], [(4, .c (.own 3))]⟩], keep := [0] }
noncomputable def Fyardgen_Walk_0 (N n : Nat) : Pyardgen_Walk_0.F := fun x => yardgen_Walk_0 N x.2.1 n x.1 x.2.2.1 x.2.2.2.1 x.2.2.2.2.1
theorem cyardgen_Walk_0 (N n : Nat) : CC (X10 N) (bodyOf Try.f10) Pyardgen_Walk_0 (Fyardgen_Walk_0 N n) := CC.loop (cok10 N) (us := uyardgen_Walk_1 N) (c := sub (bodyOf Try.f10) [1, 1, 1, 1, 1, 1, 0, 1, 0, 0]) (by kernel_rfl) (by kernel_rfl) (fun u h _ => okuyardgen_Walk_1 N u h) (fun x => rfl) (fun n x => by kernel_rfl) n
noncomputable def uyardgen_Walk_0 (N : Nat) : List (Pc D) := Pyardgen_Walk_0.pc (X10 N) (Fyardgen_Walk_0 N N) :: uyardgen_Walk_1 N
theorem okuyardgen_Walk_0 (N : Nat) : ∀ u ∈ uyardgen_Walk_0 N, PcOk (X10 N) (bodyOf Try.f10) u := pc_cons ((cyardgen_Walk_0 N N).pc (by kernel_rfl)) (okuyardgen_Walk_1 N)
noncomputable def dyardgen_Walk : FD D := { f := 10, np := 2, ins := [.v 1 (.sl 46)], fx := [], rcv := some (0, 55), rk := 2, outs := [.o 4 (.sl 32), .u 0 (.recv 55)], ofx := [(4, .c (.own 1))], rvs := [.tmp 4], flat := false }
noncomputable def Fyardgen_Walk (N : Nat) : dyardgen_Walk.F := fun r x => yardgen_Walk N r x.1
theorem oyardgen_Walk (N : Nat) : FOk Try.prog (X10 N) dyardgen_Walk (Fyardgen_Walk N) := ⟨⟨Try.f10, _, Try.func10, rfl, by kernel_rfl, by kernel_rfl, rfl, FC.of (cok10 N) (us := uyardgen_Walk_0 N) (fun u h _ => okuyardgen_Walk_0 N u h) (fun r x => by kernel_rfl)⟩, by kernel_rfl, by kernel_rfl, by kernel_rfl, by kernel_rfl⟩
noncomputable def fs11 (N : Nat) : List (FE D) := ⟨dyardgen_Walk, Fyardgen_Walk N⟩ :: fs10 N
theorem all11 (N : Nat) : ∀ y ∈ fs11 N, CallOk X0 y.d y.F := all_cons (x := ⟨dyardgen_Walk, Fyardgen_Walk N⟩) (oyardgen_Walk N) (all10 N)
noncomputable def X11 (N : Nat) : Ev Try.prog D := X0.with (fs11 N)
theorem cok11 (N : Nat) : COk (X11 N) := COk.of (all11 N)
/-! ### humpyard/yardgen.SpoilPlant -/
noncomputable def u0_yardgen_SpoilPlant (N : Nat) : List (Pc D) := []
theorem oku0_yardgen_SpoilPlant (N : Nat) : ∀ u ∈ u0_yardgen_SpoilPlant N, PcOk (X11 N) (bodyOf Try.f13) u := pc_nil
noncomputable def dyardgen_SpoilPlant : FD D := { f := 13, np := 2, ins := [.v 1 (.sl 46)], fx := [], rcv := some (0, 55), rk := 2, outs := [.o 4 (.sl 46), .u 0 (.recv 55)], ofx := [(4, .c (.own 1))], rvs := [.tmp 4], flat := false }
noncomputable def Fyardgen_SpoilPlant (N : Nat) : dyardgen_SpoilPlant.F := fun r x => yardgen_SpoilPlant N r x.1
theorem oyardgen_SpoilPlant (N : Nat) : FOk Try.prog (X11 N) dyardgen_SpoilPlant (Fyardgen_SpoilPlant N) := ⟨⟨Try.f13, _, Try.func13, rfl, by kernel_rfl, by kernel_rfl, rfl, FC.of (cok11 N) (us := u0_yardgen_SpoilPlant N) (fun u h _ => oku0_yardgen_SpoilPlant N u h) (fun r x => by kernel_rfl)⟩, by kernel_rfl, by kernel_rfl, by kernel_rfl, by kernel_rfl⟩
noncomputable def fs12 (N : Nat) : List (FE D) := ⟨dyardgen_SpoilPlant, Fyardgen_SpoilPlant N⟩ :: fs11 N
theorem all12 (N : Nat) : ∀ y ∈ fs12 N, CallOk X0 y.d y.F := all_cons (x := ⟨dyardgen_SpoilPlant, Fyardgen_SpoilPlant N⟩) (oyardgen_SpoilPlant N) (all11 N)
noncomputable def X12 (N : Nat) : Ev Try.prog D := X0.with (fs12 N)
theorem cok12 (N : Nat) : COk (X12 N) := COk.of (all12 N)
/-! ### humpyard/plant.ends -/
noncomputable def u0_plant_ends (N : Nat) : List (Pc D) := []
theorem oku0_plant_ends (N : Nat) : ∀ u ∈ u0_plant_ends N, PcOk (X12 N) (bodyOf Try.f55) u := pc_nil
noncomputable def Pplant_ends_0 : PD D := { path := [1, 0, 1, 0, 0, 1], ins := [.o 1 (.box 46), .v 4 (.int .i64), .v 5 .bool], fx := [(1, .box 0 0)], ks := [1], exs := [⟨.normal, [.v 5 .bool], []⟩], keep := [1, 4] }
noncomputable def Fplant_ends_0 (N : Nat) : Pplant_ends_0.F := fun x => plant_ends_0 N x.2.1 x.2.2.1
theorem cplant_ends_0 (N : Nat) : CC (X12 N) (bodyOf Try.f55) Pplant_ends_0 (Fplant_ends_0 N) := CC.of (cok12 N) (us := u0_plant_ends N) (fun u h _ => oku0_plant_ends N u h) (fun x => by kernel_rfl)
noncomputable def uplant_ends_0 (N : Nat) : List (Pc D) := Pplant_ends_0.pc (X12 N) (Fplant_ends_0 N) :: u0_plant_ends N
theorem okuplant_ends_0 (N : Nat) : ∀ u ∈ uplant_ends_0 N, PcOk (X12 N) (bodyOf Try.f55) u := pc_cons ((cplant_ends_0 N).pc (by kernel_rfl)) (oku0_plant_ends N)
noncomputable def dplant_ends : FD D := { f := 55, np := 1, ins := [.v 0 (.agg 46)], fx := [], rcv := none, rk := 0, outs := [.o 2 (.sl 3)], ofx := [(2, .c (.own 0))], rvs := [.tmp 2], flat := false }
noncomputable def Fplant_ends (N : Nat) : dplant_ends.F := fun r x => plant_ends N x.1
theorem oplant_ends (N : Nat) : FOk Try.prog (X12 N) dplant_ends (Fplant_ends N) := ⟨⟨Try.f55, _, Try.func55, rfl, by kernel_rfl, by kernel_rfl, rfl, FC.of (cok12 N) (us := uplant_ends_0 N) (fun u h _ => okuplant_ends_0 N u h) (fun r x => by kernel_rfl)⟩, by kernel_rfl, by kernel_rfl, by kernel_rfl, by kernel_rfl⟩
noncomputable def fs13 (N : Nat) : List (FE D) := ⟨dplant_ends, Fplant_ends N⟩ :: fs12 N
theorem all13 (N : Nat) : ∀ y ∈ fs13 N, CallOk X0 y.d y.F := all_cons (x := ⟨dplant_ends, Fplant_ends N⟩) (oplant_ends N) (all12 N)
noncomputable def X13 (N : Nat) : Ev Try.prog D := X0.with (fs13 N)
theorem cok13 (N : Nat) : COk (X13 N) := COk.of (all13 N)
/-! ### humpyard/plant.name -/
noncomputable def u0_plant_name (N : Nat) : List (Pc D) := []
theorem oku0_plant_name (N : Nat) : ∀ u ∈ u0_plant_name N, PcOk (X13 N) (bodyOf Try.f63) u := pc_nil
noncomputable def Pplant_name_0 : PD D := { path := [1, 0, 0], ins := [.v 0 .str], fx := [], ks := [], exs := [⟨.normal, [.v 11 .bool], []⟩], keep := [0] }
noncomputable def Fplant_name_0 (N : Nat) : Pplant_name_0.F := fun x => plant_name_0 N x.1
theorem cplant_name_0 (N : Nat) : CC (X13 N) (bodyOf Try.f63) Pplant_name_0 (Fplant_name_0 N) := CC.of (cok13 N) (us := u0_plant_name N) (fun u h _ => oku0_plant_name N u h) (fun x => by kernel_rfl)
noncomputable def uplant_name_0 (N : Nat) : List (Pc D) := Pplant_name_0.pc (X13 N) (Fplant_name_0 N) :: u0_plant_name N
theorem okuplant_name_0 (N : Nat) : ∀ u ∈ uplant_name_0 N, PcOk (X13 N) (bodyOf Try.f63) u := pc_cons ((cplant_name_0 N).pc (by kernel_rfl)) (oku0_plant_name N)
noncomputable def Pplant_name_2 : PD D := { path := [1, 1, 0, 1, 0, 0, 1, 1, 0, 0, 1, 0], ins := [.v 0 .str, .v 3 (.int .i64)], fx := [], ks := [], exs := [⟨.normal, [.v 38 .bool], []⟩], keep := [0, 13, 14] }
noncomputable def Fplant_name_2 (N : Nat) : Pplant_name_2.F := fun x => plant_name_2 N x.1 x.2.1
theorem cplant_name_2 (N : Nat) : CC (X13 N) (bodyOf Try.f63) Pplant_name_2 (Fplant_name_2 N) := CC.of (cok13 N) (us := uplant_name_0 N) (fun u h _ => okuplant_name_0 N u h) (fun x => by kernel_rfl)
noncomputable def uplant_name_2 (N : Nat) : List (Pc D) := Pplant_name_2.pc (X13 N) (Fplant_name_2 N) :: uplant_name_0 N
theorem okuplant_name_2 (N : Nat) : ∀ u ∈ uplant_name_2 N, PcOk (X13 N) (bodyOf Try.f63) u := pc_cons ((cplant_name_2 N).pc (by kernel_rfl)) (okuplant_name_0 N)
noncomputable def Pplant_name_1 : PD D := { path := [1, 1, 0, 1, 0], ins := [.v 0 .str, .v 13 (.int .i64), .v 14 (.int .i64)], fx := [], ks := [], exs := [⟨.exit 0, [], []⟩, ⟨.ret, [.v 2 .bool], []⟩], keep := [] }
noncomputable def Fplant_name_1 (N n : Nat) : Pplant_name_1.F := fun x => plant_name_1 N x.1 x.2.1 n x.2.2.1
theorem cplant_name_1 (N n : Nat) : CC (X13 N) (bodyOf Try.f63) Pplant_name_1 (Fplant_name_1 N n) := CC.loop (cok13 N) (us := uplant_name_2 N) (c := sub (bodyOf Try.f63) [1, 1, 0, 1, 0, 0]) (by kernel_rfl) (by kernel_rfl) (fun u h _ => okuplant_name_2 N u h) (fun x => rfl) (fun n x => by kernel_rfl) n
noncomputable def uplant_name_1 (N : Nat) : List (Pc D) := Pplant_name_1.pc (X13 N) (Fplant_name_1 N N) :: uplant_name_2 N
theorem okuplant_name_1 (N : Nat) : ∀ u ∈ uplant_name_1 N, PcOk (X13 N) (bodyOf Try.f63) u := pc_cons ((cplant_name_1 N N).pc (by kernel_rfl)) (okuplant_name_2 N)
noncomputable def dplant_name : FD D := { f := 63, np := 1, ins := [.v 0 .str], fx := [], rcv := none, rk := 0, outs := [.v 2 .bool], ofx := [], rvs := [.tmp 2], flat := true }
noncomputable def Fplant_name (N : Nat) : dplant_name.F := fun r x => plant_name N x.1
theorem oplant_name (N : Nat) : FOk Try.prog (X13 N) dplant_name (Fplant_name N) := ⟨⟨Try.f63, _, Try.func63, rfl, by kernel_rfl, by kernel_rfl, rfl, FC.of (cok13 N) (us := uplant_name_1 N) (fun u h _ => okuplant_name_1 N u h) (fun r x => by kernel_rfl)⟩, by kernel_rfl, by kernel_rfl, by kernel_rfl, by kernel_rfl⟩
noncomputable def fs14 (N : Nat) : List (FE D) := ⟨dplant_name, Fplant_name N⟩ :: fs13 N
theorem all14 (N : Nat) : ∀ y ∈ fs14 N, CallOk X0 y.d y.F := all_cons (x := ⟨dplant_name, Fplant_name N⟩) (oplant_name N) (all13 N)
noncomputable def X14 (N : Nat) : Ev Try.prog D := X0.with (fs14 N)
theorem cok14 (N : Nat) : COk (X14 N) := COk.of (all14 N)
/-! ### humpyard/plant.sound -/
noncomputable def u0_plant_sound_o (N : Nat) : List (Pc D) := []
theorem oku0_plant_sound_o (N : Nat) : ∀ u ∈ u0_plant_sound_o N, PcOk (X14 N) (bodyOf Try.f54) u := pc_nil
noncomputable def Pplant_sound_o_0 : PD D := { path := [1, 1, 0, 0], ins := [.o 1 (.box 46), .o 3 (.sl 3)], fx := [(1, .box 0 0), (3, .c (.own 1))], ks := [1, 1], exs := [⟨.normal, [.v 17 .bool], []⟩], keep := [1, 3] }
noncomputable def Fplant_sound_o_0 (N : Nat) : Pplant_sound_o_0.F := fun x => plant_sound_o_0 N x.1 x.2.1
theorem cplant_sound_o_0 (N : Nat) : CC (X14 N) (bodyOf Try.f54) Pplant_sound_o_0 (Fplant_sound_o_0 N) := CC.of (cok14 N) (us := u0_plant_sound_o N) (fun u h _ => oku0_plant_sound_o N u h) (fun x => by kernel_rfl)
noncomputable def uplant_sound_o_0 (N : Nat) : List (Pc D) := Pplant_sound_o_0.pc (X14 N) (Fplant_sound_o_0 N) :: u0_plant_sound_o N
theorem okuplant_sound_o_0 (N : Nat) : ∀ u ∈ uplant_sound_o_0 N, PcOk (X14 N) (bodyOf Try.f54) u := pc_cons ((cplant_sound_o_0 N).pc (by kernel_rfl)) (oku0_plant_sound_o N)
noncomputable def Pplant_sound_o_2 : PD D := { path := [1, 1, 1, 0, 1, 0, 0, 1, 1, 0, 0, 1, 0, 0], ins := [.o 1 (.box 46), .v 5 (.int .i64)], fx := [(1, .box 0 0)], ks := [1], exs := [⟨.normal, [.v 30 .bool], []⟩], keep := [1, 3, 4, 5, 18, 19, 20] }
noncomputable def Fplant_sound_o_2 (N : Nat) : Pplant_sound_o_2.F := fun x => plant_sound_o_2 N x.2.1
theorem cplant_sound_o_2 (N : Nat) : CC (X14 N) (bodyOf Try.f54) Pplant_sound_o_2 (Fplant_sound_o_2 N) := CC.of (cok14 N) (us := uplant_sound_o_0 N) (fun u h _ => okuplant_sound_o_0 N u h) (fun x => by kernel_rfl)
noncomputable def uplant_sound_o_2 (N : Nat) : List (Pc D) := Pplant_sound_o_2.pc (X14 N) (Fplant_sound_o_2 N) :: uplant_sound_o_0 N
theorem okuplant_sound_o_2 (N : Nat) : ∀ u ∈ uplant_sound_o_2 N, PcOk (X14 N) (bodyOf Try.f54) u := pc_cons ((cplant_sound_o_2 N).pc (by kernel_rfl)) (okuplant_sound_o_0 N)
noncomputable def Pplant_sound_o_3 : PD D := { path := [1, 1, 1, 0, 1, 0, 0, 1, 1, 0, 0, 1, 1, 1, 0], ins := [.o 1 (.box 46), .v 5 (.int .i64), .v 33 (.sl 3), .v 34 (.int .i64), .v 35 (.int .i64)], fx := [(1, .box 0 0)], ks := [1], exs := [⟨.exit 2, [], []⟩, ⟨.ret, [.v 2 .bool], []⟩], keep := [1, 3, 18, 19, 20] }
noncomputable def Fplant_sound_o_3 (N n : Nat) : Pplant_sound_o_3.F := fun x => plant_sound_o_3 N x.2.1 x.2.2.1 x.2.2.2.1 n x.2.2.2.2.1
theorem cplant_sound_o_3 (N n : Nat) : CC (X14 N) (bodyOf Try.f54) Pplant_sound_o_3 (Fplant_sound_o_3 N n) := CC.loop (cok14 N) (us := uplant_sound_o_2 N) (c := sub (bodyOf Try.f54) [1, 1, 1, 0, 1, 0, 0, 1, 1, 0, 0, 1, 1, 1, 0, 0]) (by kernel_rfl) (by kernel_rfl) (fun u h _ => okuplant_sound_o_2 N u h) (fun x => rfl) (fun n x => by kernel_rfl) n
noncomputable def uplant_sound_o_3 (N : Nat) : List (Pc D) := Pplant_sound_o_3.pc (X14 N) (Fplant_sound_o_3 N N) :: uplant_sound_o_2 N
theorem okuplant_sound_o_3 (N : Nat) : ∀ u ∈ uplant_sound_o_3 N, PcOk (X14 N) (bodyOf Try.f54) u := pc_cons ((cplant_sound_o_3 N N).pc (by kernel_rfl)) (okuplant_sound_o_2 N)
noncomputable def Pplant_sound_o_1 : PD D := { path := [1, 1, 1, 0, 1, 0], ins := [.o 1 (.box 46), .v 3 (.sl 3), .v 18 (.sl 3), .v 19 (.int .i64), .v 20 (.int .i64)], fx := [(1, .box 0 0)], ks := [1], exs := [⟨.exit 0, [], []⟩, ⟨.ret, [.v 2 .bool], []⟩], keep := [1] }
noncomputable def Fplant_sound_o_1 (N n : Nat) : Pplant_sound_o_1.F := fun x => plant_sound_o_1 N x.2.1 x.2.2.1 x.2.2.2.1 n x.2.2.2.2.1
theorem cplant_sound_o_1 (N n : Nat) : CC (X14 N) (bodyOf Try.f54) Pplant_sound_o_1 (Fplant_sound_o_1 N n) := CC.loop (cok14 N) (us := uplant_sound_o_3 N) (c := sub (bodyOf Try.f54) [1, 1, 1, 0, 1, 0, 0]) (by kernel_rfl) (by kernel_rfl) (fun u h _ => okuplant_sound_o_3 N u h) (fun x => rfl) (fun n x => by kernel_rfl) n
noncomputable def uplant_sound_o_1 (N : Nat) : List (Pc D) := Pplant_sound_o_1.pc (X14 N) (Fplant_sound_o_1 N N) :: uplant_sound_o_3 N
theorem okuplant_sound_o_1 (N : Nat) : ∀ u ∈ uplant_sound_o_1 N, PcOk (X14 N) (bodyOf Try.f54) u := pc_cons ((cplant_sound_o_1 N N).pc (by kernel_rfl)) (okuplant_sound_o_3 N)
noncomputable def Pplant_sound_o_4 : PD D := { path := [1, 1, 1, 1, 0, 1, 0, 0], ins := [.o 1 (.box 46)], fx := [(1, .box 0 0)], ks := [1], exs := [⟨.normal, [.v 2 .bool], []⟩], keep := [] }
noncomputable def Fplant_sound_o_4 (N : Nat) : Pplant_sound_o_4.F := fun x => plant_sound_o_4 N x.1
theorem cplant_sound_o_4 (N : Nat) : CC (X14 N) (bodyOf Try.f54) Pplant_sound_o_4 (Fplant_sound_o_4 N) := CC.of (cok14 N) (us := uplant_sound_o_1 N) (fun u h _ => okuplant_sound_o_1 N u h) (fun x => by kernel_rfl)
noncomputable def uplant_sound_o_4 (N : Nat) : List (Pc D) := Pplant_sound_o_4.pc (X14 N) (Fplant_sound_o_4 N) :: uplant_sound_o_1 N
theorem okuplant_sound_o_4 (N : Nat) : ∀ u ∈ uplant_sound_o_4 N, PcOk (X14 N) (bodyOf Try.f54) u := pc_cons ((cplant_sound_o_4 N).pc (by kernel_rfl)) (okuplant_sound_o_1 N)
noncomputable def Pplant_sound_o_5 : PD D := { path := [1, 1, 1, 1, 1, 0], ins := [.o 1 (.box 46)], fx := [(1, .box 0 0)], ks := [1], exs := [⟨.normal, [.v 2 .bool], []⟩], keep := [] }
noncomputable def Fplant_sound_o_5 (N : Nat) : Pplant_sound_o_5.F := fun x => plant_sound_o_5 N x.1
theorem cplant_sound_o_5 (N : Nat) : CC (X14 N) (bodyOf Try.f54) Pplant_sound_o_5 (Fplant_sound_o_5 N) := CC.of (cok14 N) (us := uplant_sound_o_4 N) (fun u h _ => okuplant_sound_o_4 N u h) (fun x => by kernel_rfl)
noncomputable def uplant_sound_o_5 (N : Nat) : List (Pc D) := Pplant_sound_o_5.pc (X14 N) (Fplant_sound_o_5 N) :: uplant_sound_o_4 N
theorem okuplant_sound_o_5 (N : Nat) : ∀ u ∈ uplant_sound_o_5 N, PcOk (X14 N) (bodyOf Try.f54) u := pc_cons ((cplant_sound_o_5 N).pc (by kernel_rfl)) (okuplant_sound_o_4 N)
noncomputable def dplant_sound_o : FD D := { f := 54, np := 1, ins := [.v 0 (.agg 46)], fx := [], rcv := none, rk := 0, outs := [.v 2 .bool], ofx := [], rvs := [.tmp 2], flat := true }
noncomputable def Fplant_sound_o (N : Nat) : dplant_sound_o.F := fun r x => plant_sound_o N x.1
theorem oplant_sound_o (N : Nat) : FOk Try.prog (X14 N) dplant_sound_o (Fplant_sound_o N) := ⟨⟨Try.f54, _, Try.func54, rfl, by kernel_rfl, by kernel_rfl, rfl, FC.of (cok14 N) (us := uplant_sound_o_5 N) (fun u h _ => okuplant_sound_o_5 N u h) (fun r x => by kernel_rfl)⟩, by kernel_rfl, by kernel_rfl, by kernel_rfl, by kernel_rfl⟩
theorem nplant_sound_o (N : Nat) : CallOk X0 dplant_sound_o (Fplant_sound_o N) := (oplant_sound_o N).call.base
/-! ### humpyard/plant.ends -/
noncomputable def u0_plant_ends_nil (N : Nat) : List (Pc D) := []
theorem oku0_plant_ends_nil (N : Nat) : ∀ u ∈ u0_plant_ends_nil N, PcOk (X14 N) (bodyOf Try.f55) u := pc_nil
noncomputable def Pplant_ends_nil_0 : PD D := { path := [1, 0, 1, 0, 0, 1], ins := [.o 1 (.box 46), .v 4 (.int .i64), .v 5 .bool], fx := [(1, .box 0 0)], ks := [1], exs := [⟨.normal, [.v 5 .bool], []⟩], keep := [1, 4] }
noncomputable def Fplant_ends_nil_0 (N : Nat) : Pplant_ends_nil_0.F := fun x => plant_ends_nil_0 N x.2.1 x.2.2.1
theorem cplant_ends_nil_0 (N : Nat) : CC (X14 N) (bodyOf Try.f55) Pplant_ends_nil_0 (Fplant_ends_nil_0 N) := CC.of (cok14 N) (us := u0_plant_ends_nil N) (fun u h _ => oku0_plant_ends_nil N u h) (fun x => by kernel_rfl)
noncomputable def uplant_ends_nil_0 (N : Nat) : List (Pc D) := Pplant_ends_nil_0.pc (X14 N) (Fplant_ends_nil_0 N) :: u0_plant_ends_nil N
theorem okuplant_ends_nil_0 (N : Nat) : ∀ u ∈ uplant_ends_nil_0 N, PcOk (X14 N) (bodyOf Try.f55) u := pc_cons ((cplant_ends_nil_0 N).pc (by kernel_rfl)) (oku0_plant_ends_nil N)
noncomputable def dplant_ends_nil : FD D := { f := 55, np := 1, ins := [.v 0 (.agg 46)], fx := [], rcv := none, rk := 0, outs := [], ofx := [(2, .c .nilS)], rvs := [.tmp 2], flat := false }
noncomputable def Fplant_ends_nil (N : Nat) : dplant_ends_nil.F := fun r x => plant_ends_nil N x.1
theorem oplant_ends_nil (N : Nat) : FOk Try.prog (X14 N) dplant_ends_nil (Fplant_ends_nil N) := ⟨⟨Try.f55, _, Try.func55, rfl, by kernel_rfl, by kernel_rfl, rfl, FC.of (cok14 N) (us := uplant_ends_nil_0 N) (fun u h _ => okuplant_ends_nil_0 N u h) (fun r x => by kernel_rfl)⟩, by kernel_rfl, by kernel_rfl, by kernel_rfl, by kernel_rfl⟩
theorem nplant_ends_nil (N : Nat) : CallOk X0 dplant_ends_nil (Fplant_ends_nil N) := (oplant_ends_nil N).call.base
/-! ### humpyard/plant.sound -/
noncomputable def Y14 (N : Nat) : Ev Try.prog D := (X14 N).sub ⟨dplant_ends_nil, Fplant_ends_nil N⟩
theorem coky14 (N : Nat) : COk (Y14 N) := COk.sub (cok14 N) (nplant_ends_nil N).up
noncomputable def u0_plant_sound_n (N : Nat) : List (Pc D) := []
theorem oku0_plant_sound_n (N : Nat) : ∀ u ∈ u0_plant_sound_n N, PcOk (Y14 N) (bodyOf Try.f54) u := pc_nil
noncomputable def Pplant_sound_n_0 : PD D := { path := [1, 1, 0, 0], ins := [.o 1 (.box 46)], fx := [(1, .box 0 0), (3, .c .nilS)], ks := [1], exs := [⟨.normal, [.v 17 .bool], []⟩], keep := [1, 3] }
noncomputable def Fplant_sound_n_0 (N : Nat) : Pplant_sound_n_0.F := fun x => plant_sound_n_0 N
theorem cplant_sound_n_0 (N : Nat) : CC (Y14 N) (bodyOf Try.f54) Pplant_sound_n_0 (Fplant_sound_n_0 N) := CC.of (coky14 N) (us := u0_plant_sound_n N) (fun u h _ => oku0_plant_sound_n N u h) (fun x => by kernel_rfl)
noncomputable def uplant_sound_n_0 (N : Nat) : List (Pc D) := Pplant_sound_n_0.pc (Y14 N) (Fplant_sound_n_0 N) :: u0_plant_sound_n N
theorem okuplant_sound_n_0 (N : Nat) : ∀ u ∈ uplant_sound_n_0 N, PcOk (Y14 N) (bodyOf Try.f54) u := pc_cons ((cplant_sound_n_0 N).pc (by kernel_rfl)) (oku0_plant_sound_n N)
noncomputable def Pplant_sound_n_1 : PD D := { path := [1, 1, 1, 0, 1, 0], ins := [.o 1 (.box 46), .v 19 (.int .i64), .v 20 (.int .i64)], fx := [(1, .box 0 0), (3, .c .nilS), (18, .c .nilS)], ks := [1], exs := [⟨.exit 0, [], []⟩], keep := [1] }
noncomputable def Fplant_sound_n_1 (N n : Nat) : Pplant_sound_n_1.F := fun x => plant_sound_n_1 N x.2.1 n x.2.2.1
theorem cplant_sound_n_1 (N n : Nat) : CC (Y14 N) (bodyOf Try.f54) Pplant_sound_n_1 (Fplant_sound_n_1 N n) := CC.loop (coky14 N) (us := uplant_sound_n_0 N) (c := sub (bodyOf Try.f54) [1, 1, 1, 0, 1, 0, 0]) (by kernel_rfl) (by kernel_rfl) (fun u h _ => okuplant_sound_n_0 N u h) (fun x => rfl) (fun n x => by kernel_rfl) n
noncomputable def uplant_sound_n_1 (N : Nat) : List (Pc D) := Pplant_sound_n_1.pc (Y14 N) (Fplant_sound_n_1 N N) :: uplant_sound_n_0 N
theorem okuplant_sound_n_1 (N : Nat) : ∀ u ∈ uplant_sound_n_1 N, PcOk (Y14 N) (bodyOf Try.f54) u := pc_cons ((cplant_sound_n_1 N N).pc (by kernel_rfl)) (okuplant_sound_n_0 N)
noncomputable def Pplant_sound_n_2 : PD D := { path := [1, 1, 1, 1, 0, 1, 0, 0], ins := [.o 1 (.box 46)], fx := [(1, .box 0 0)], ks := [1], exs := [⟨.normal, [.v 2 .bool], []⟩], keep := [] }
noncomputable def Fplant_sound_n_2 (N : Nat) : Pplant_sound_n_2.F := fun x => plant_sound_n_2 N x.1
theorem cplant_sound_n_2 (N : Nat) : CC (Y14 N) (bodyOf Try.f54) Pplant_sound_n_2 (Fplant_sound_n_2 N) := CC.of (coky14 N) (us := uplant_sound_n_1 N) (fun u h _ => okuplant_sound_n_1 N u h) (fun x => by kernel_rfl)
noncomputable def uplant_sound_n_2 (N : Nat) : List (Pc D) := Pplant_sound_n_2.pc (Y14 N) (Fplant_sound_n_2 N) :: uplant_sound_n_1 N
theorem okuplant_sound_n_2 (N : Nat) : ∀ u ∈ uplant_sound_n_2 N, PcOk (Y14 N) (bodyOf Try.f54) u := pc_cons ((cplant_sound_n_2 N).pc (by kernel_rfl)) (okuplant_sound_n_1 N)
noncomputable def Pplant_sound_n_3 : PD D := { path := [1, 1, 1, 1, 1, 0], ins := [.o 1 (.box 46)], fx := [(1, .box 0 0)], ks := [1], exs := [⟨.normal, [.v 2 .bool], []⟩], keep := [] }
noncomputable def Fplant_sound_n_3 (N : Nat) : Pplant_sound_n_3.F := fun x => plant_sound_n_3 N x.1
theorem cplant_sound_n_3 (N : Nat) : CC (Y14 N) (bodyOf Try.f54) Pplant_sound_n_3 (Fplant_sound_n_3 N) := CC.of (coky14 N) (us := uplant_sound_n_2 N) (fun u h _ => okuplant_sound_n_2 N u h) (fun x => by kernel_rfl)
noncomputable def uplant_sound_n_3 (N : Nat) : List (Pc D) := Pplant_sound_n_3.pc (Y14 N) (Fplant_sound_n_3 N) :: uplant_sound_n_2 N
theorem okuplant_sound_n_3 (N : Nat) : ∀ u ∈ uplant_sound_n_3 N, PcOk (Y14 N) (bodyOf Try.f54) u := pc_cons ((cplant_sound_n_3 N).pc (by kernel_rfl)) (okuplant_sound_n_2 N)
noncomputable def dplant_sound_n : FD D := { f := 54, np := 1, ins := [.v 0 (.agg 46)], fx := [], rcv := none, rk := 0, outs := [.v 2 .bool], ofx := [], rvs := [.tmp 2], flat := true }
noncomputable def Fplant_sound_n (N : Nat) : dplant_sound_n.F := fun r x => plant_sound_n N x.1
theorem oplant_sound_n (N : Nat) : FOk Try.prog (Y14 N) dplant_sound_n (Fplant_sound_n N) := ⟨⟨Try.f54, _, Try.func54, rfl, by kernel_rfl, by kernel_rfl, rfl, FC.of (coky14 N) (us := uplant_sound_n_3 N) (fun u h _ => okuplant_sound_n_3 N u h) (fun r x => by kernel_rfl)⟩, by kernel_rfl, by kernel_rfl, by kernel_rfl, by kernel_rfl⟩
theorem nplant_sound_n (N : Nat) : CallOk X0 dplant_sound_n (Fplant_sound_n N) := (oplant_sound_n N).call.sub.base
/-! ### humpyard/plant.sound -/
noncomputable def dplant_sound : FD D := dplant_sound_o
noncomputable def Fplant_sound (N : Nat) : dplant_sound.F := fun r x => orI (Fplant_sound_n N r x) (Fplant_sound_o N r x)
theorem wplant_sound (N : Nat) : CallOk X0 dplant_sound (Fplant_sound N) := CallOk.or (F1 := Fplant_sound_n N) (F2 := Fplant_sound_o N) rfl (fun r x y h => orI_or h) (nplant_sound_n N) (nplant_sound_o N)
noncomputable def fs15 (N : Nat) : List (FE D) := ⟨dplant_sound, Fplant_sound N⟩ :: fs14 N
theorem all15 (N : Nat) : ∀ y ∈ fs15 N, CallOk X0 y.d y.F := all_call0 (x := ⟨dplant_sound, Fplant_sound N⟩) (wplant_sound N) (all14 N)
noncomputable def X15 (N : Nat) : Ev Try.prog D := X0.with (fs15 N)
theorem cok15 (N : Nat) : COk (X15 N) := COk.of (all15 N)
/-! ### humpyard/plant.Valid -/
noncomputable def u0_plant_Valid (N : Nat) : List (Pc D) := []
theorem oku0_plant_Valid (N : Nat) : ∀ u ∈ u0_plant_Valid N, PcOk (X15 N) (bodyOf Try.f31) u := pc_nil
noncomputable def Pplant_Valid_1 : PD D := { path := [1, 1, 1, 1, 0, 1, 0, 0, 1, 1, 0, 0, 1, 1, 1, 1, 1, 0], ins := [.o 3 (.map 88 9 4), .o 4 (.map 89 3 3), .o 31 (.sl 3), .v 32 (.int .i64), .v 33 (.int .i64)], fx := [(3, .c (.own 0)), (4, .c (.own 1)), (31, .c (.own 2))], ks := [1, 2, 1], exs := [⟨.exit 2, [.u 1 (.map 89 3 3)], []⟩, ⟨.ret, [.v 2 (.int .i64)], []⟩], keep := [3, 4, 14, 15, 16] }
noncomputable def Fplant_Valid_1 (N n : Nat) : Pplant_Valid_1.F := fun x => plant_Valid_1 N x.2.2.1 x.2.2.2.1 n x.2.1 x.2.2.2.2.1
theorem cplant_Valid_1 (N n : Nat) : CC (X15 N) (bodyOf Try.f31) Pplant_Valid_1 (Fplant_Valid_1 N n) := CC.loop (cok15 N) (us := u0_plant_Valid N) (c := sub (bodyOf Try.f31) [1, 1, 1, 1, 0, 1, 0, 0, 1, 1, 0, 0, 1, 1, 1, 1, 1, 0, 0]) (by kernel_rfl) (by kernel_rfl) (fun u h _ => oku0_plant_Valid N u h) (fun x => rfl) (fun n x => by kernel_rfl) n
noncomputable def uplant_Valid_1 (N : Nat) : List (Pc D) := Pplant_Valid_1.pc (X15 N) (Fplant_Valid_1 N N) :: u0_plant_Valid N
theorem okuplant_Valid_1 (N : Nat) : ∀ u ∈ uplant_Valid_1 N, PcOk (X15 N) (bodyOf Try.f31) u := pc_cons ((cplant_Valid_1 N N).pc (by kernel_rfl)) (oku0_plant_Valid N)
noncomputable def Pplant_Valid_0 : PD D := { path := [1, 1, 1, 1, 0, 1, 0], ins := [.o 3 (.map 88 9 4), .o 4 (.map 89 3 3), .v 14 (.sl 46), .v 15 (.int .i64), .v 16 (.int .i64)], fx := [(3, .c (.own 0)), (4, .c (.own 1))], ks := [0, 0], exs := [⟨.exit 0, [], []⟩, ⟨.ret, [.v 2 (.int .i64)], []⟩], keep := [] }
noncomputable def Fplant_Valid_0 (N n : Nat) : Pplant_Valid_0.F := fun x => plant_Valid_0 N x.2.2.1 x.2.2.2.1 n x.1 x.2.1 x.2.2.2.2.1
theorem cplant_Valid_0 (N n : Nat) : CC (X15 N) (bodyOf Try.f31) Pplant_Valid_0 (Fplant_Valid_0 N n) := CC.loop (cok15 N) (us := uplant_Valid_1 N) (c := sub (bodyOf Try.f31) [1, 1, 1, 1, 0, 1, 0, 0]) (by kernel_rfl) (by kernel_rfl) (fun u h _ => okuplant_Valid_1 N u h) (fun x => rfl) (fun n x => by kernel_rfl) n
noncomputable def uplant_Valid_0 (N : Nat) : List (Pc D) := Pplant_Valid_0.pc (X15 N) (Fplant_Valid_0 N N) :: uplant_Valid_1 N
theorem okuplant_Valid_0 (N : Nat) : ∀ u ∈ uplant_Valid_0 N, PcOk (X15 N) (bodyOf Try.f31) u := pc_cons ((cplant_Valid_0 N N).pc (by kernel_rfl)) (okuplant_Valid_1 N)
noncomputable def dplant_Valid : FD D := { f := 31, np := 1, ins := [.v 0 (.sl 46)], fx := [], rcv := none, rk := 0, outs := [.v 2 (.int .i64)], ofx := [], rvs := [.tmp 2], flat := true }
noncomputable def Fplant_Valid (N : Nat) : dplant_Valid.F := fun r x => plant_Valid N x.1
theorem oplant_Valid (N : Nat) : FOk Try.prog (X15 N) dplant_Valid (Fplant_Valid N) := ⟨⟨Try.f31, _, Try.func31, rfl, by kernel_rfl, by kernel_rfl, rfl, FC.of (cok15 N) (us := uplant_Valid_0 N) (fun u h _ => okuplant_Valid_0 N u h) (fun r x => by kernel_rfl)⟩, by kernel_rfl, by kernel_rfl, by kernel_rfl, by kernel_rfl⟩
noncomputable def fs16 (N : Nat) : List (FE D) := ⟨dplant_Valid, Fplant_Valid N⟩ :: fs15 N
theorem all16 (N : Nat) : ∀ y ∈ fs16 N, CallOk X0 y.d y.F := all_cons (x := ⟨dplant_Valid, Fplant_Valid N⟩) (oplant_Valid N) (all15 N)
noncomputable def X16 (N : Nat) : Ev Try.prog D := X0.with (fs16 N)
theorem cok16 (N : Nat) : COk (X16 N) := COk.of (all16 N)
/-! ### humpyard/route.track -/
noncomputable def u0_route_track (N : Nat) : List (Pc D) := []
theorem oku0_route_track (N : Nat) : ∀ u ∈ u0_route_track N, PcOk (X16 N) (bodyOf Try.f32) u := pc_nil
noncomputable def Proute_track_0 : PD D := { path := [1, 0], ins := [.v 0 (.sl 46), .v 1 (.int .i64)], fx := [], ks := [], exs := [⟨.normal, [.v 4 .bool], []⟩], keep := [] }
noncomputable def Froute_track_0 (N : Nat) : Proute_track_0.F := fun x => route_track_0 N x.1 x.2.1
theorem croute_track_0 (N : Nat) : CC (X16 N) (bodyOf Try.f32) Proute_track_0 (Froute_track_0 N) := CC.of (cok16 N) (us := u0_route_track N) (fun u h _ => oku0_route_track N u h) (fun x => by kernel_rfl)
noncomputable def uroute_track_0 (N : Nat) : List (Pc D) := Proute_track_0.pc (X16 N) (Froute_track_0 N) :: u0_route_track N
theorem okuroute_track_0 (N : Nat) : ∀ u ∈ uroute_track_0 N, PcOk (X16 N) (bodyOf Try.f32) u := pc_cons ((croute_track_0 N).pc (by kernel_rfl)) (oku0_route_track N)
noncomputable def droute_track : FD D := { f := 32, np := 2, ins := [.v 0 (.sl 46), .v 1 (.int .i64)], fx := [], rcv := none, rk := 0, outs := [.v 4 .bool], ofx := [], rvs := [.tmp 4], flat := true }
noncomputable def Froute_track (N : Nat) : droute_track.F := fun r x => route_track N x.1 x.2.1
theorem oroute_track (N : Nat) : FOk Try.prog (X16 N) droute_track (Froute_track N) := ⟨⟨Try.f32, _, Try.func32, rfl, by kernel_rfl, by kernel_rfl, rfl, FC.of (cok16 N) (us := uroute_track_0 N) (fun u h _ => okuroute_track_0 N u h) (fun r x => by kernel_rfl)⟩, by kernel_rfl, by kernel_rfl, by kernel_rfl, by kernel_rfl⟩
noncomputable def fs17 (N : Nat) : List (FE D) := ⟨droute_track, Froute_track N⟩ :: fs16 N
theorem all17 (N : Nat) : ∀ y ∈ fs17 N, CallOk X0 y.d y.F := all_cons (x := ⟨droute_track, Froute_track N⟩) (oroute_track N) (all16 N)
noncomputable def X17 (N : Nat) : Ev Try.prog D := X0.with (fs17 N)
theorem cok17 (N : Nat) : COk (X17 N) := COk.of (all17 N)
/-! ### humpyard/plant.Ends -/
noncomputable def u0_plant_Ends (N : Nat) : List (Pc D) := []
theorem oku0_plant_Ends (N : Nat) : ∀ u ∈ u0_plant_Ends N, PcOk (X17 N) (bodyOf Try.f34) u := pc_nil
noncomputable def Pplant_Ends_0 : PD D := { path := [1, 0, 0], ins := [.v 0 (.sl 46), .v 1 (.int .i64)], fx := [], ks := [], exs := [⟨.normal, [.v 12 .bool], []⟩], keep := [0, 1] }
noncomputable def Fplant_Ends_0 (N : Nat) : Pplant_Ends_0.F := fun x => plant_Ends_0 N x.1 x.2.1
theorem cplant_Ends_0 (N : Nat) : CC (X17 N) (bodyOf Try.f34) Pplant_Ends_0 (Fplant_Ends_0 N) := CC.of (cok17 N) (us := u0_plant_Ends N) (fun u h _ => oku0_plant_Ends N u h) (fun x => by kernel_rfl)
noncomputable def uplant_Ends_0 (N : Nat) : List (Pc D) := Pplant_Ends_0.pc (X17 N) (Fplant_Ends_0 N) :: u0_plant_Ends N
theorem okuplant_Ends_0 (N : Nat) : ∀ u ∈ uplant_Ends_0 N, PcOk (X17 N) (bodyOf Try.f34) u := pc_cons ((cplant_Ends_0 N).pc (by kernel_rfl)) (oku0_plant_Ends N)
noncomputable def dplant_Ends : FD D := { f := 34, np := 2, ins := [.v 0 (.sl 46), .v 1 (.int .i64)], fx := [], rcv := none, rk := 0, outs := [.o 4 (.sl 3)], ofx := [(4, .c (.own 0))], rvs := [.tmp 4], flat := false }
noncomputable def Fplant_Ends (N : Nat) : dplant_Ends.F := fun r x => plant_Ends N x.1 x.2.1
theorem oplant_Ends (N : Nat) : FOk Try.prog (X17 N) dplant_Ends (Fplant_Ends N) := ⟨⟨Try.f34, _, Try.func34, rfl, by kernel_rfl, by kernel_rfl, rfl, FC.of (cok17 N) (us := uplant_Ends_0 N) (fun u h _ => okuplant_Ends_0 N u h) (fun r x => by kernel_rfl)⟩, by kernel_rfl, by kernel_rfl, by kernel_rfl, by kernel_rfl⟩
noncomputable def fs18 (N : Nat) : List (FE D) := ⟨dplant_Ends, Fplant_Ends N⟩ :: fs17 N
theorem all18 (N : Nat) : ∀ y ∈ fs18 N, CallOk X0 y.d y.F := all_cons (x := ⟨dplant_Ends, Fplant_Ends N⟩) (oplant_Ends N) (all17 N)
noncomputable def X18 (N : Nat) : Ev Try.prog D := X0.with (fs18 N)
theorem cok18 (N : Nat) : COk (X18 N) := COk.of (all18 N)
/-! ### humpyard/plant.Neighbour -/
noncomputable def u0_plant_Neighbour (N : Nat) : List (Pc D) := []
theorem oku0_plant_Neighbour (N : Nat) : ∀ u ∈ u0_plant_Neighbour N, PcOk (X18 N) (bodyOf Try.f56) u := pc_nil
noncomputable def Pplant_Neighbour_2 : PD D := { path := [1, 0, 1, 0, 0, 1, 1, 0, 0, 1, 1, 1, 0], ins := [.v 2 (.int .i64), .v 7 (.int .i64), .o 22 (.sl 3), .v 23 (.int .i64), .v 24 (.int .i64)], fx := [(22, .c (.own 0))], ks := [1], exs := [⟨.exit 2, [], []⟩, ⟨.ret, [.v 6 (.int .i64)], []⟩], keep := [1, 2, 11, 12, 13] }
noncomputable def Fplant_Neighbour_2 (N n : Nat) : Pplant_Neighbour_2.F := fun x => plant_Neighbour_2 N x.1 x.2.1 x.2.2.1 x.2.2.2.1 n x.2.2.2.2.1
theorem cplant_Neighbour_2 (N n : Nat) : CC (X18 N) (bodyOf Try.f56) Pplant_Neighbour_2 (Fplant_Neighbour_2 N n) := CC.loop (cok18 N) (us := u0_plant_Neighbour N) (c := sub (bodyOf Try.f56) [1, 0, 1, 0, 0, 1, 1, 0, 0, 1, 1, 1, 0, 0]) (by kernel_rfl) (by kernel_rfl) (fun u h _ => oku0_plant_Neighbour N u h) (fun x => rfl) (fun n x => by kernel_rfl) n
noncomputable def uplant_Neighbour_2 (N : Nat) : List (Pc D) := Pplant_Neighbour_2.pc (X18 N) (Fplant_Neighbour_2 N N) :: u0_plant_Neighbour N
theorem okuplant_Neighbour_2 (N : Nat) : ∀ u ∈ uplant_Neighbour_2 N, PcOk (X18 N) (bodyOf Try.f56) u := pc_cons ((cplant_Neighbour_2 N N).pc (by kernel_rfl)) (oku0_plant_Neighbour N)
noncomputable def Pplant_Neighbour_1 : PD D := { path := [1, 0, 1, 0, 0, 1, 1, 0], ins := [.v 1 (.int .i64), .v 2 (.int .i64), .v 11 (.sl 46), .v 13 (.int .i64)], fx := [], ks := [], exs := [⟨.normal, [], []⟩, ⟨.ret, [.v 6 (.int .i64)], []⟩], keep := [1, 2, 11, 12, 13] }
noncomputable def Fplant_Neighbour_1 (N : Nat) : Pplant_Neighbour_1.F := fun x => plant_Neighbour_1 N x.1 x.2.1 x.2.2.1 x.2.2.2.1
theorem cplant_Neighbour_1 (N : Nat) : CC (X18 N) (bodyOf Try.f56) Pplant_Neighbour_1 (Fplant_Neighbour_1 N) := CC.of (cok18 N) (us := uplant_Neighbour_2 N) (fun u h _ => okuplant_Neighbour_2 N u h) (fun x => by kernel_rfl)
noncomputable def uplant_Neighbour_1 (N : Nat) : List (Pc D) := Pplant_Neighbour_1.pc (X18 N) (Fplant_Neighbour_1 N) :: uplant_Neighbour_2 N
theorem okuplant_Neighbour_1 (N : Nat) : ∀ u ∈ uplant_Neighbour_1 N, PcOk (X18 N) (bodyOf Try.f56) u := pc_cons ((cplant_Neighbour_1 N).pc (by kernel_rfl)) (okuplant_Neighbour_2 N)
noncomputable def Pplant_Neighbour_0 : PD D := { path := [1, 0, 1, 0], ins := [.v 1 (.int .i64), .v 2 (.int .i64), .v 11 (.sl 46), .v 12 (.int .i64), .v 13 (.int .i64)], fx := [], ks := [], exs := [⟨.exit 0, [], []⟩, ⟨.ret, [.v 6 (.int .i64)], []⟩], keep := [] }
noncomputable def Fplant_Neighbour_0 (N n : Nat) : Pplant_Neighbour_0.F := fun x => plant_Neighbour_0 N x.1 x.2.1 x.2.2.1 x.2.2.2.1 n x.2.2.2.2.1
theorem cplant_Neighbour_0 (N n : Nat) : CC (X18 N) (bodyOf Try.f56) Pplant_Neighbour_0 (Fplant_Neighbour_0 N n) := CC.loop (cok18 N) (us := uplant_Neighbour_1 N) (c := sub (bodyOf Try.f56) [1, 0, 1, 0, 0]) (by kernel_rfl) (by kernel_rfl) (fun u h _ => okuplant_Neighbour_1 N u h) (fun x => rfl) (fun n x => by kernel_rfl) n
noncomputable def uplant_Neighbour_0 (N : Nat) : List (Pc D) := Pplant_Neighbour_0.pc (X18 N) (Fplant_Neighbour_0 N N) :: uplant_Neighbour_1 N
theorem okuplant_Neighbour_0 (N : Nat) : ∀ u ∈ uplant_Neighbour_0 N, PcOk (X18 N) (bodyOf Try.f56) u := pc_cons ((cplant_Neighbour_0 N N).pc (by kernel_rfl)) (okuplant_Neighbour_1 N)
noncomputable def dplant_Neighbour : FD D := { f := 56, np := 3, ins := [.v 0 (.sl 46), .v 1 (.int .i64), .v 2 (.int .i64)], fx := [], rcv := none, rk := 0, outs := [.v 6 (.int .i64)], ofx := [], rvs := [.tmp 6], flat := true }
noncomputable def Fplant_Neighbour (N : Nat) : dplant_Neighbour.F := fun r x => plant_Neighbour N x.1 x.2.1 x.2.2.1
theorem oplant_Neighbour (N : Nat) : FOk Try.prog (X18 N) dplant_Neighbour (Fplant_Neighbour N) := ⟨⟨Try.f56, _, Try.func56, rfl, by kernel_rfl, by kernel_rfl, rfl, FC.of (cok18 N) (us := uplant_Neighbour_0 N) (fun u h _ => okuplant_Neighbour_0 N u h) (fun r x => by kernel_rfl)⟩, by kernel_rfl, by kernel_rfl, by kernel_rfl, by kernel_rfl⟩
noncomputable def fs19 (N : Nat) : List (FE D) := ⟨dplant_Neighbour, Fplant_Neighbour N⟩ :: fs18 N
theorem all19 (N : Nat) : ∀ y ∈ fs19 N, CallOk X0 y.d y.F := all_cons (x := ⟨dplant_Neighbour, Fplant_Neighbour N⟩) (oplant_Neighbour N) (all18 N)
noncomputable def X19 (N : Nat) : Ev Try.prog D := X0.with (fs19 N)
theorem cok19 (N : Nat) : COk (X19 N) := COk.of (all19 N)
/-! ### humpyard/plant.Through -/
noncomputable def u0_plant_Through (N : Nat) : List (Pc D) := []
theorem oku0_plant_Through (N : Nat) : ∀ u ∈ u0_plant_Through N, PcOk (X19 N) (bodyOf Try.f36) u := pc_nil
noncomputable def Pplant_Through_0 : PD D := { path := [1, 1, 0, 1, 0], ins := [.v 2 (.int .i64), .o 7 (.sl 3), .v 14 (.int .i64), .v 15 (.int .i64)], fx := [(7, .c (.own 0)), (13, .c (.own 0))], ks := [0], exs := [⟨.exit 0, [], []⟩, ⟨.ret, [.v 6 (.sl 3)], []⟩], keep := [] }
noncomputable def Fplant_Through_0 (N n : Nat) : Pplant_Through_0.F := fun x => plant_Through_0 N x.1 x.2.2.1 n x.2.1 x.2.2.2.1
theorem cplant_Through_0 (N n : Nat) : CC (X19 N) (bodyOf Try.f36) Pplant_Through_0 (Fplant_Through_0 N n) := CC.loop (cok19 N) (us := u0_plant_Through N) (c := sub (bodyOf Try.f36) [1, 1, 0, 1, 0, 0]) (by kernel_rfl) (by kernel_rfl) (fun u h _ => oku0_plant_Through N u h) (fun x => rfl) (fun n x => by kernel_rfl) n
noncomputable def uplant_Through_0 (N : Nat) : List (Pc D) := Pplant_Through_0.pc (X19 N) (Fplant_Through_0 N N) :: u0_plant_Through N
theorem okuplant_Through_0 (N : Nat) : ∀ u ∈ uplant_Through_0 N, PcOk (X19 N) (bodyOf Try.f36) u := pc_cons ((cplant_Through_0 N N).pc (by kernel_rfl)) (oku0_plant_Through N)
noncomputable def dplant_Through : FD D := { f := 36, np := 3, ins := [.v 0 (.sl 46), .v 1 (.int .i64), .v 2 (.int .i64)], fx := [], rcv := none, rk := 0, outs := [.v 6 (.sl 3)], ofx := [], rvs := [.tmp 6], flat := false }
noncomputable def Fplant_Through (N : Nat) : dplant_Through.F := fun r x => plant_Through N x.1 x.2.1 x.2.2.1
theorem oplant_Through (N : Nat) : FOk Try.prog (X19 N) dplant_Through (Fplant_Through N) := ⟨⟨Try.f36, _, Try.func36, rfl, by kernel_rfl, by kernel_rfl, rfl, FC.of (cok19 N) (us := uplant_Through_0 N) (fun u h _ => okuplant_Through_0 N u h) (fun r x => by kernel_rfl)⟩, by kernel_rfl, by kernel_rfl, by kernel_rfl, by kernel_rfl⟩
noncomputable def fs20 (N : Nat) : List (FE D) := ⟨dplant_Through, Fplant_Through N⟩ :: fs19 N
theorem all20 (N : Nat) : ∀ y ∈ fs20 N, CallOk X0 y.d y.F := all_cons (x := ⟨dplant_Through, Fplant_Through N⟩) (oplant_Through N) (all19 N)
noncomputable def X20 (N : Nat) : Ev Try.prog D := X0.with (fs20 N)
theorem cok20 (N : Nat) : COk (X20 N) := COk.of (all20 N)
/-! ### humpyard/route.distances -/
noncomputable def Y20 (N : Nat) : Ev Try.prog D := (X20 N).cuts fun x lo hi => match x, lo, hi with | .tmp 42, some (.const _), none => 2 | _, _, _ => 0
theorem coky20 (N : Nat) : COk (Y20 N) := COk.cuts (cok20 N)
noncomputable def u0_route_distances (N : Nat) : List (Pc D) := []
theorem oku0_route_distances (N : Nat) : ∀ u ∈ u0_route_distances N, PcOk (Y20 N) (bodyOf Try.f33) u := pc_nil
noncomputable def Proute_distances_0 : PD D := { path := [1, 1, 1, 0, 1, 0], ins := [.v 1 (.int .i64), .o 5 (.map 66 69 3), .o 6 (.sl 69), .o 20 (.sl 3), .v 21 (.int .i64), .v 22 (.int .i64)], fx := [(5, .c (.own 0)), (6, .c (.own 1)), (20, .c (.own 2))], ks := [2, 0, 1], exs := [⟨.exit 0, [.u 0 (.map 66 69 3), .o 6 (.sl 69)], [(6, .c (.own 3))]⟩], keep := [0, 5] }
noncomputable def Froute_distances_0 (N n : Nat) : Proute_distances_0.F := fun x => route_distances_0 N x.1 x.2.2.2.1 x.2.2.2.2.1 n x.2.1 x.2.2.1 x.2.2.2.2.2.1
theorem croute_distances_0 (N n : Nat) : CC (Y20 N) (bodyOf Try.f33) Proute_distances_0 (Froute_distances_0 N n) := CC.loop (coky20 N) (us := u0_route_distances N) (c := sub (bodyOf Try.f33) [1, 1, 1, 0, 1, 0, 0]) (by kernel_rfl) (by kernel_rfl) (fun u h _ => oku0_route_distances N u h) (fun x => rfl) (fun n x => by kernel_rfl) n
noncomputable def uroute_distances_0 (N : Nat) : List (Pc D) := Proute_distances_0.pc (Y20 N) (Froute_distances_0 N N) :: u0_route_distances N
theorem okuroute_distances_0 (N : Nat) : ∀ u ∈ uroute_distances_0 N, PcOk (Y20 N) (bodyOf Try.f33) u := pc_cons ((croute_distances_0 N N).pc (by kernel_rfl)) (oku0_route_distances N)
noncomputable def Proute_distances_3 : PD D := { path := [1, 1, 1, 1, 0, 0, 0, 1, 0, 1, 1, 1, 1, 0, 0, 1, 1, 0], ins := [.o 5 (.map 66 69 3), .o 6 (.sl 69), .o 10 (.box 69), .v 11 (.int .i64), .v 54 (.sl 3), .v 56 (.int .i64)], fx := [(5, .c (.own 0)), (6, .c (.own 1)), (10, .box 2 0)], ks := [2, 0, 1], exs := [⟨.normal, [.u 0 (.map 66 69 3), .o 6 (.sl 69)], [(6, .c (.own 3))]⟩], keep := [0, 5, 10, 11, 54, 55, 56] }
noncomputable def Froute_distances_3 (N : Nat) : Proute_distances_3.F := fun x => route_distances_3 N x.1 x.2.1 x.2.2.1 x.2.2.2.1 x.2.2.2.2.1 x.2.2.2.2.2.1
theorem croute_distances_3 (N : Nat) : CC (Y20 N) (bodyOf Try.f33) Proute_distances_3 (Froute_distances_3 N) := CC.of (coky20 N) (us := uroute_distances_0 N) (fun u h _ => okuroute_distances_0 N u h) (fun x => by kernel_rfl)
noncomputable def uroute_distances_3 (N : Nat) : List (Pc D) := Proute_distances_3.pc (Y20 N) (Froute_distances_3 N) :: uroute_distances_0 N
theorem okuroute_distances_3 (N : Nat) : ∀ u ∈ uroute_distances_3 N, PcOk (Y20 N) (bodyOf Try.f33) u := pc_cons ((croute_distances_3 N).pc (by kernel_rfl)) (okuroute_distances_0 N)
noncomputable def Proute_distances_2 : PD D := { path := [1, 1, 1, 1, 0, 0, 0, 1, 0, 1, 1, 1, 1, 0], ins := [.o 5 (.map 66 69 3), .o 6 (.sl 69), .o 10 (.box 69), .v 11 (.int .i64), .v 54 (.sl 3), .v 55 (.int .i64), .v 56 (.int .i64)], fx := [(5, .c (.own 0)), (6, .c (.own 1)), (10, .box 2 0)], ks := [2, 0, 1], exs := [⟨.exit 4, [.u 0 (.map 66 69 3), .o 6 (.sl 69)], [(6, .c (.own 3))]⟩], keep := [0, 5] }
noncomputable def Froute_distances_2 (N n : Nat) : Proute_distances_2.F := fun x => route_distances_2 N x.2.2.1 x.2.2.2.1 x.2.2.2.2.1 x.2.2.2.2.2.1 n x.1 x.2.1 x.2.2.2.2.2.2.1
theorem croute_distances_2 (N n : Nat) : CC (Y20 N) (bodyOf Try.f33) Proute_distances_2 (Froute_distances_2 N n) := CC.loop (coky20 N) (us := uroute_distances_3 N) (c := sub (bodyOf Try.f33) [1, 1, 1, 1, 0, 0, 0, 1, 0, 1, 1, 1, 1, 0, 0]) (by kernel_rfl) (by kernel_rfl) (fun u h _ => okuroute_distances_3 N u h) (fun x => rfl) (fun n x => by kernel_rfl) n
noncomputable def uroute_distances_2 (N : Nat) : List (Pc D) := Proute_distances_2.pc (Y20 N) (Froute_distances_2 N N) :: uroute_distances_3 N
theorem okuroute_distances_2 (N : Nat) : ∀ u ∈ uroute_distances_2 N, PcOk (Y20 N) (bodyOf Try.f33) u := pc_cons ((croute_distances_2 N N).pc (by kernel_rfl)) (okuroute_distances_3 N)
noncomputable def Proute_distances_1 : PD D := { path := [1, 1, 1, 1, 0, 0], ins := [.v 0 (.sl 46), .o 5 (.map 66 69 3), .o 6 (.sl 69)], fx := [(5, .c (.own 0)), (6, .c (.own 1))], ks := [2, 0], exs := [⟨.exit 2, [.u 0 (.map 66 69 3)], []⟩], keep := [5] }
noncomputable def Froute_distances_1 (N n : Nat) : Proute_distances_1.F := fun x => route_distances_1 N x.1 n x.2.1 x.2.2.1
theorem croute_distances_1 (N n : Nat) : CC (Y20 N) (bodyOf Try.f33) Proute_distances_1 (Froute_distances_1 N n) := CC.loop (coky20 N) (us := uroute_distances_2 N) (c := sub (bodyOf Try.f33) [1, 1, 1, 1, 0, 0, 0]) (by kernel_rfl) (by kernel_rfl) (fun u h _ => okuroute_distances_2 N u h) (fun x => rfl) (fun n x => by kernel_rfl) n
noncomputable def uroute_distances_1 (N : Nat) : List (Pc D) := Proute_distances_1.pc (Y20 N) (Froute_distances_1 N N) :: uroute_distances_2 N
theorem okuroute_distances_1 (N : Nat) : ∀ u ∈ uroute_distances_1 N, PcOk (Y20 N) (bodyOf Try.f33) u := pc_cons ((croute_distances_1 N N).pc (by kernel_rfl)) (okuroute_distances_2 N)
noncomputable def droute_distances : FD D := { f := 33, np := 2, ins := [.v 0 (.sl 46), .v 1 (.int .i64)], fx := [], rcv := none, rk := 0, outs := [.o 4 (.map 66 69 3)], ofx := [(4, .c (.own 0))], rvs := [.tmp 4], flat := false }
noncomputable def Froute_distances (N : Nat) : droute_distances.F := fun r x => route_distances N x.1 x.2.1
theorem oroute_distances (N : Nat) : FOk Try.prog (Y20 N) droute_distances (Froute_distances N) := ⟨⟨Try.f33, _, Try.func33, rfl, by kernel_rfl, by kernel_rfl, rfl, FC.of (coky20 N) (us := uroute_distances_1 N) (fun u h _ => okuroute_distances_1 N u h) (fun r x => by kernel_rfl)⟩, by kernel_rfl, by kernel_rfl, by kernel_rfl, by kernel_rfl⟩
noncomputable def fs21 (N : Nat) : List (FE D) := ⟨droute_distances, Froute_distances N⟩ :: fs20 N
theorem all21 (N : Nat) : ∀ y ∈ fs21 N, CallOk X0 y.d y.F := all_call (x := ⟨droute_distances, Froute_distances N⟩) ((oroute_distances N).call.cuts) (all20 N)
noncomputable def X21 (N : Nat) : Ev Try.prog D := X0.with (fs21 N)
theorem cok21 (N : Nat) : COk (X21 N) := COk.of (all21 N)
/-! ### cmp.isNaN[int] -/
noncomputable def u0_cmp_isNaN_int (N : Nat) : List (Pc D) := []
theorem oku0_cmp_isNaN_int (N : Nat) : ∀ u ∈ u0_cmp_isNaN_int N, PcOk (X21 N) (bodyOf Try.f62) u := pc_nil
noncomputable def dcmp_isNaN_int : FD D := { f := 62, np := 1, ins := [.v 0 (.int .i64)], fx := [], rcv := none, rk := 0, outs := [.v 2 .bool], ofx := [], rvs := [.tmp 2], flat := true }
noncomputable def Fcmp_isNaN_int (N : Nat) : dcmp_isNaN_int.F := fun r x => cmp_isNaN_int N x.1
theorem ocmp_isNaN_int (N : Nat) : FOk Try.prog (X21 N) dcmp_isNaN_int (Fcmp_isNaN_int N) := ⟨⟨Try.f62, _, Try.func62, rfl, by kernel_rfl, by kernel_rfl, rfl, FC.of (cok21 N) (us := u0_cmp_isNaN_int N) (fun u h _ => oku0_cmp_isNaN_int N u h) (fun r x => by kernel_rfl)⟩, by kernel_rfl, by kernel_rfl, by kernel_rfl, by kernel_rfl⟩
noncomputable def fs22 (N : Nat) : List (FE D) := ⟨dcmp_isNaN_int, Fcmp_isNaN_int N⟩ :: fs21 N
theorem all22 (N : Nat) : ∀ y ∈ fs22 N, CallOk X0 y.d y.F := all_cons (x := ⟨dcmp_isNaN_int, Fcmp_isNaN_int N⟩) (ocmp_isNaN_int N) (all21 N)
noncomputable def X22 (N : Nat) : Ev Try.prog D := X0.with (fs22 N)
theorem cok22 (N : Nat) : COk (X22 N) := COk.of (all22 N)
/-! ### cmp.Compare[int] -/
noncomputable def u0_cmp_Compare_int (N : Nat) : List (Pc D) := []
theorem oku0_cmp_Compare_int (N : Nat) : ∀ u ∈ u0_cmp_Compare_int N, PcOk (X22 N) (bodyOf Try.f48) u := pc_nil
noncomputable def dcmp_Compare_int : FD D := { f := 48, np := 2, ins := [.v 0 (.int .i64), .v 1 (.int .i64)], fx := [], rcv := none, rk := 0, outs := [.v 4 (.int .i64)], ofx := [], rvs := [.tmp 4], flat := true }
noncomputable def Fcmp_Compare_int (N : Nat) : dcmp_Compare_int.F := fun r x => cmp_Compare_int N x.1 x.2.1
theorem ocmp_Compare_int (N : Nat) : FOk Try.prog (X22 N) dcmp_Compare_int (Fcmp_Compare_int N) := ⟨⟨Try.f48, _, Try.func48, rfl, by kernel_rfl, by kernel_rfl, rfl, FC.of (cok22 N) (us := u0_cmp_Compare_int N) (fun u h _ => oku0_cmp_Compare_int N u h) (fun r x => by kernel_rfl)⟩, by kernel_rfl, by kernel_rfl, by kernel_rfl, by kernel_rfl⟩
noncomputable def fs23 (N : Nat) : List (FE D) := ⟨dcmp_Compare_int, Fcmp_Compare_int N⟩ :: fs22 N
theorem all23 (N : Nat) : ∀ y ∈ fs23 N, CallOk X0 y.d y.F := all_cons (x := ⟨dcmp_Compare_int, Fcmp_Compare_int N⟩) (ocmp_Compare_int N) (all22 N)
noncomputable def X23 (N : Nat) : Ev Try.prog D := X0.with (fs23 N)
theorem cok23 (N : Nat) : COk (X23 N) := COk.of (all23 N)
/-! ### cmp.Or[int] -/
noncomputable def u0_cmp_Or_int (N : Nat) : List (Pc D) := []
theorem oku0_cmp_Or_int (N : Nat) : ∀ u ∈ u0_cmp_Or_int N, PcOk (X23 N) (bodyOf Try.f57) u := pc_nil
noncomputable def Pcmp_Or_int_0 : PD D := { path := [1, 1, 0, 1, 0], ins := [.v 3 (.int .i64), .v 6 (.sl 3), .v 7 (.int .i64), .v 8 (.int .i64)], fx := [], ks := [], exs := [⟨.exit 0, [], []⟩, ⟨.ret, [.v 2 (.int .i64)], []⟩], keep := [3] }
noncomputable def Fcmp_Or_int_0 (N n : Nat) : Pcmp_Or_int_0.F := fun x => cmp_Or_int_0 N x.1 x.2.1 x.2.2.1 n x.2.2.2.1
theorem ccmp_Or_int_0 (N n : Nat) : CC (X23 N) (bodyOf Try.f57) Pcmp_Or_int_0 (Fcmp_Or_int_0 N n) := CC.loop (cok23 N) (us := u0_cmp_Or_int N) (c := sub (bodyOf Try.f57) [1, 1, 0, 1, 0, 0]) (by kernel_rfl) (by kernel_rfl) (fun u h _ => oku0_cmp_Or_int N u h) (fun x => rfl) (fun n x => by kernel_rfl) n
noncomputable def ucmp_Or_int_0 (N : Nat) : List (Pc D) := Pcmp_Or_int_0.pc (X23 N) (Fcmp_Or_int_0 N N) :: u0_cmp_Or_int N
theorem okucmp_Or_int_0 (N : Nat) : ∀ u ∈ ucmp_Or_int_0 N, PcOk (X23 N) (bodyOf Try.f57) u := pc_cons ((ccmp_Or_int_0 N N).pc (by kernel_rfl)) (oku0_cmp_Or_int N)
noncomputable def dcmp_Or_int : FD D := { f := 57, np := 1, ins := [.v 0 (.sl 3)], fx := [], rcv := none, rk := 0, outs := [.v 2 (.int .i64)], ofx := [], rvs := [.tmp 2], flat := true }
noncomputable def Fcmp_Or_int (N : Nat) : dcmp_Or_int.F := fun r x => cmp_Or_int N x.1
theorem ocmp_Or_int (N : Nat) : FOk Try.prog (X23 N) dcmp_Or_int (Fcmp_Or_int N) := ⟨⟨Try.f57, _, Try.func57, rfl, by kernel_rfl, by kernel_rfl, rfl, FC.of (cok23 N) (us := ucmp_Or_int_0 N) (fun u h _ => okucmp_Or_int_0 N u h) (fun r x => by kernel_rfl)⟩, by kernel_rfl, by kernel_rfl, by kernel_rfl, by kernel_rfl⟩
noncomputable def fs24 (N : Nat) : List (FE D) := ⟨dcmp_Or_int, Fcmp_Or_int N⟩ :: fs23 N
theorem all24 (N : Nat) : ∀ y ∈ fs24 N, CallOk X0 y.d y.F := all_cons (x := ⟨dcmp_Or_int, Fcmp_Or_int N⟩) (ocmp_Or_int N) (all23 N)
noncomputable def X24 (N : Nat) : Ev Try.prog D := X0.with (fs24 N)
theorem cok24 (N : Nat) : COk (X24 N) := COk.of (all24 N)
/-! ### humpyard/route.next -/
noncomputable def u0_route_next (N : Nat) : List (Pc D) := []
theorem oku0_route_next (N : Nat) : ∀ u ∈ u0_route_next N, PcOk (X24 N) (bodyOf Try.f35) u := pc_nil
noncomputable def Proute_next_2 : PD D := { path := [1, 1, 0, 1, 0, 0, 1, 1, 0, 0, 1, 1, 1, 1, 0], ins := [.v 1 (.mp 66 69 3), .o 9 (.box 69), .v 11 (.int .i64), .o 12 (.box 69), .v 13 .bool, .v 15 (.int .i64), .o 16 (.box 69), .v 17 (.int .i64)], fx := [(9, .box 0 0), (12, .box 1 0), (16, .box 2 0)], ks := [1, 1, 1], exs := [⟨.normal, [.v 59 .bool], []⟩], keep := [0, 1, 2, 9, 11, 12, 13, 15, 16, 20, 21, 22] }
noncomputable def Froute_next_2 (N : Nat) : Proute_next_2.F := fun x => route_next_2 N x.1 x.2.2.1 x.2.2.2.1 x.2.2.2.2.1 x.2.2.2.2.2.1 x.2.2.2.2.2.2.1 x.2.2.2.2.2.2.2.1
theorem croute_next_2 (N : Nat) : CC (X24 N) (bodyOf Try.f35) Proute_next_2 (Froute_next_2 N) := CC.of (cok24 N) (us := u0_route_next N) (fun u h _ => oku0_route_next N u h) (fun x => by kernel_rfl)
noncomputable def uroute_next_2 (N : Nat) : List (Pc D) := Proute_next_2.pc (X24 N) (Froute_next_2 N) :: u0_route_next N
theorem okuroute_next_2 (N : Nat) : ∀ u ∈ uroute_next_2 N, PcOk (X24 N) (bodyOf Try.f35) u := pc_cons ((croute_next_2 N).pc (by kernel_rfl)) (oku0_route_next N)
noncomputable def Proute_next_1 : PD D := { path := [1, 1, 0, 1, 0, 0, 1, 1, 0], ins := [.v 0 (.sl 46), .v 1 (.mp 66 69 3), .v 2 (.int .i64), .o 9 (.box 69), .v 11 (.int .i64), .o 12 (.box 69), .v 13 .bool, .v 20 (.sl 3), .v 22 (.int .i64)], fx := [(9, .box 0 0), (12, .box 1 0)], ks := [1, 2], exs := [⟨.normal, [.v 11 (.int .i64), .u 1 (.box 69), .v 13 .bool], []⟩], keep := [0, 1, 2, 9, 12, 20, 21, 22] }
noncomputable def Froute_next_1 (N : Nat) : Proute_next_1.F := fun x => route_next_1 N x.1 x.2.1 x.2.2.1 x.2.2.2.2.1 x.2.2.2.2.2.1 x.2.2.2.2.2.2.1 x.2.2.2.2.2.2.2.1 x.2.2.2.2.2.2.2.2.1
theorem croute_next_1 (N : Nat) : CC (X24 N) (bodyOf Try.f35) Proute_next_1 (Froute_next_1 N) := CC.of (cok24 N) (us := uroute_next_2 N) (fun u h _ => okuroute_next_2 N u h) (fun x => by kernel_rfl)
noncomputable def uroute_next_1 (N : Nat) : List (Pc D) := Proute_next_1.pc (X24 N) (Froute_next_1 N) :: uroute_next_2 N
theorem okuroute_next_1 (N : Nat) : ∀ u ∈ uroute_next_1 N, PcOk (X24 N) (bodyOf Try.f35) u := pc_cons ((croute_next_1 N).pc (by kernel_rfl)) (okuroute_next_2 N)
noncomputable def Proute_next_0 : PD D := { path := [1, 1, 0, 1, 0], ins := [.v 0 (.sl 46), .v 1 (.mp 66 69 3), .v 2 (.int .i64), .o 9 (.box 69), .v 11 (.int .i64), .o 12 (.box 69), .v 13 .bool, .v 20 (.sl 3), .v 21 (.int .i64), .v 22 (.int .i64)], fx := [(9, .box 0 0), (12, .box 1 0)], ks := [1, 2], exs := [⟨.exit 0, [.v 11 (.int .i64), .u 1 (.box 69), .v 13 .bool], []⟩], keep := [9, 12] }
noncomputable def Froute_next_0 (N n : Nat) : Proute_next_0.F := fun x => route_next_0 N x.1 x.2.1 x.2.2.1 x.2.2.2.2.2.2.2.1 x.2.2.2.2.2.2.2.2.1 n x.2.2.2.2.1 x.2.2.2.2.2.1 x.2.2.2.2.2.2.1 x.2.2.2.2.2.2.2.2.2.1
theorem croute_next_0 (N n : Nat) : CC (X24 N) (bodyOf Try.f35) Proute_next_0 (Froute_next_0 N n) := CC.loop (cok24 N) (us := uroute_next_1 N) (c := sub (bodyOf Try.f35) [1, 1, 0, 1, 0, 0]) (by kernel_rfl) (by kernel_rfl) (fun u h _ => okuroute_next_1 N u h) (fun x => rfl) (fun n x => by kernel_rfl) n
noncomputable def uroute_next_0 (N : Nat) : List (Pc D) := Proute_next_0.pc (X24 N) (Froute_next_0 N N) :: uroute_next_1 N
theorem okuroute_next_0 (N : Nat) : ∀ u ∈ uroute_next_0 N, PcOk (X24 N) (bodyOf Try.f35) u := pc_cons ((croute_next_0 N N).pc (by kernel_rfl)) (okuroute_next_1 N)
noncomputable def droute_next : FD D := { f := 35, np := 4, ins := [.v 0 (.sl 46), .v 1 (.mp 66 69 3), .v 2 (.int .i64), .v 3 (.sl 3)], fx := [], rcv := none, rk := 0, outs := [.v 8 (.int .i64), .v 1000001 (.agg 69), .v 10 .bool], ofx := [], rvs := [.tmp 8, .cell 9 69, .tmp 10], flat := true }
noncomputable def Froute_next (N : Nat) : droute_next.F := fun r x => route_next N x.1 x.2.1 x.2.2.1 x.2.2.2.1
theorem oroute_next (N : Nat) : FOk Try.prog (X24 N) droute_next (Froute_next N) := ⟨⟨Try.f35, _, Try.func35, rfl, by kernel_rfl, by kernel_rfl, rfl, FC.of (cok24 N) (us := uroute_next_0 N) (fun u h _ => okuroute_next_0 N u h) (fun r x => by kernel_rfl)⟩, by kernel_rfl, by kernel_rfl, by kernel_rfl, by kernel_rfl⟩
noncomputable def fs25 (N : Nat) : List (FE D) := ⟨droute_next, Froute_next N⟩ :: fs24 N
theorem all25 (N : Nat) : ∀ y ∈ fs25 N, CallOk X0 y.d y.F := all_cons (x := ⟨droute_next, Froute_next N⟩) (oroute_next N) (all24 N)
noncomputable def X25 (N : Nat) : Ev Try.prog D := X0.with (fs25 N)
theorem cok25 (N : Nat) : COk (X25 N) := COk.of (all25 N)
/-! ### humpyard/route.twice -/
noncomputable def u0_route_twice (N : Nat) : List (Pc D) := []
theorem oku0_route_twice (N : Nat) : ∀ u ∈ u0_route_twice N, PcOk (X25 N) (bodyOf Try.f37) u := pc_nil
noncomputable def Proute_twice_0 : PD D := { path := [1, 1, 0, 1, 0], ins := [.o 3 (.map 93 3 4), .v 7 (.sl 32), .v 8 (.int .i64), .v 9 (.int .i64)], fx := [(3, .c (.own 0))], ks := [0], exs := [⟨.exit 0, [], []⟩, ⟨.ret, [.v 2 .bool], []⟩], keep := [] }
noncomputable def Froute_twice_0 (N n : Nat) : Proute_twice_0.F := fun x => route_twice_0 N x.2.1 x.2.2.1 n x.1 x.2.2.2.1
theorem croute_twice_0 (N n : Nat) : CC (X25 N) (bodyOf Try.f37) Proute_twice_0 (Froute_twice_0 N n) := CC.loop (cok25 N) (us := u0_route_twice N) (c := sub (bodyOf Try.f37) [1, 1, 0, 1, 0, 0]) (by kernel_rfl) (by kernel_rfl) (fun u h _ => oku0_route_twice N u h) (fun x => rfl) (fun n x => by kernel_rfl) n
noncomputable def uroute_twice_0 (N : Nat) : List (Pc D) := Proute_twice_0.pc (X25 N) (Froute_twice_0 N N) :: u0_route_twice N
theorem okuroute_twice_0 (N : Nat) : ∀ u ∈ uroute_twice_0 N, PcOk (X25 N) (bodyOf Try.f37) u := pc_cons ((croute_twice_0 N N).pc (by kernel_rfl)) (oku0_route_twice N)
noncomputable def droute_twice : FD D := { f := 37, np := 1, ins := [.v 0 (.sl 32)], fx := [], rcv := none, rk := 0, outs := [.v 2 .bool], ofx := [], rvs := [.tmp 2], flat := true }
noncomputable def Froute_twice (N : Nat) : droute_twice.F := fun r x => route_twice N x.1
theorem oroute_twice (N : Nat) : FOk Try.prog (X25 N) droute_twice (Froute_twice N) := ⟨⟨Try.f37, _, Try.func37, rfl, by kernel_rfl, by kernel_rfl, rfl, FC.of (cok25 N) (us := uroute_twice_0 N) (fun u h _ => okuroute_twice_0 N u h) (fun r x => by kernel_rfl)⟩, by kernel_rfl, by kernel_rfl, by kernel_rfl, by kernel_rfl⟩
noncomputable def fs26 (N : Nat) : List (FE D) := ⟨droute_twice, Froute_twice N⟩ :: fs25 N
theorem all26 (N : Nat) : ∀ y ∈ fs26 N, CallOk X0 y.d y.F := all_cons (x := ⟨droute_twice, Froute_twice N⟩) (oroute_twice N) (all25 N)
noncomputable def X26 (N : Nat) : Ev Try.prog D := X0.with (fs26 N)
theorem cok26 (N : Nat) : COk (X26 N) := COk.of (all26 N)
/-! ### humpyard/route.Find -/
noncomputable def u0_route_Find (N : Nat) : List (Pc D) := []
theorem oku0_route_Find (N : Nat) : ∀ u ∈ u0_route_Find N, PcOk (X26 N) (bodyOf Try.f17) u := pc_nil
noncomputable def Proute_Find_0 : PD D := { path := [1, 1, 0, 0], ins := [.v 0 (.sl 46), .v 1 (.int .i64), .v 2 (.int .i64)], fx := [], ks := [], exs := [⟨.normal, [.v 35 .bool], []⟩], keep := [0, 1, 2] }
noncomputable def Froute_Find_0 (N : Nat) : Proute_Find_0.F := fun x => route_Find_0 N x.1 x.2.1 x.2.2.1
theorem croute_Find_0 (N : Nat) : CC (X26 N) (bodyOf Try.f17) Proute_Find_0 (Froute_Find_0 N) := CC.of (cok26 N) (us := u0_route_Find N) (fun u h _ => oku0_route_Find N u h) (fun x => by kernel_rfl)
noncomputable def uroute_Find_0 (N : Nat) : List (Pc D) := Proute_Find_0.pc (X26 N) (Froute_Find_0 N) :: u0_route_Find N
theorem okuroute_Find_0 (N : Nat) : ∀ u ∈ uroute_Find_0 N, PcOk (X26 N) (bodyOf Try.f17) u := pc_cons ((croute_Find_0 N).pc (by kernel_rfl)) (oku0_route_Find N)
noncomputable def Proute_Find_1 : PD D := { path := [1, 1, 1, 1, 1, 1, 0, 0], ins := [.v 0 (.sl 46), .o 9 (.map 66 69 3), .o 10 (.sl 32), .v 11 (.sl 3)], fx := [(9, .c (.own 0)), (10, .c (.own 1))], ks := [1, 0], exs := [⟨.exit 0, [.o 10 (.sl 32)], [(10, .c (.own 2))]⟩, ⟨.ret, [.v 7 (.int .i64)], [(6, .c .nilS)]⟩], keep := [] }
noncomputable def Froute_Find_1 (N n : Nat) : Proute_Find_1.F := fun x => route_Find_1 N x.1 x.2.1 n x.2.2.1 x.2.2.2.1
theorem croute_Find_1 (N n : Nat) : CC (X26 N) (bodyOf Try.f17) Proute_Find_1 (Froute_Find_1 N n) := CC.loop (cok26 N) (us := uroute_Find_0 N) (c := sub (bodyOf Try.f17) [1, 1, 1, 1, 1, 1, 0, 0, 0]) (by kernel_rfl) (by kernel_rfl) (fun u h _ => okuroute_Find_0 N u h) (fun x => rfl) (fun n x => by kernel_rfl) n
noncomputable def uroute_Find_1 (N : Nat) : List (Pc D) := Proute_Find_1.pc (X26 N) (Froute_Find_1 N N) :: uroute_Find_0 N
theorem okuroute_Find_1 (N : Nat) : ∀ u ∈ uroute_Find_1 N, PcOk (X26 N) (bodyOf Try.f17) u := pc_cons ((croute_Find_1 N N).pc (by kernel_rfl)) (okuroute_Find_0 N)
noncomputable def droute_Find : FD D := { f := 17, np := 3, ins := [.v 0 (.sl 46), .v 1 (.int .i64), .v 2 (.int .i64)], fx := [], rcv := none, rk := 0, outs := [.o 6 (.sl 32), .v 7 (.int .i64)], ofx := [(6, .c (.own 0))], rvs := [.tmp 6, .tmp 7], flat := false }
noncomputable def Froute_Find (N : Nat) : droute_Find.F := fun r x => route_Find N x.1 x.2.1 x.2.2.1
theorem oroute_Find (N : Nat) : FOk Try.prog (X26 N) droute_Find (Froute_Find N) := ⟨⟨Try.f17, _, Try.func17, rfl, by kernel_rfl, by kernel_rfl, rfl, FC.of (cok26 N) (us := uroute_Find_1 N) (fun u h _ => okuroute_Find_1 N u h) (fun r x => by kernel_rfl)⟩, by kernel_rfl, by kernel_rfl, by kernel_rfl, by kernel_rfl⟩
noncomputable def fs27 (N : Nat) : List (FE D) := ⟨droute_Find, Froute_Find N⟩ :: fs26 N
theorem all27 (N : Nat) : ∀ y ∈ fs27 N, CallOk X0 y.d y.F := all_cons (x := ⟨droute_Find, Froute_Find N⟩) (oroute_Find N) (all26 N)
noncomputable def X27 (N : Nat) : Ev Try.prog D := X0.with (fs27 N)
theorem cok27 (N : Nat) : COk (X27 N) := COk.of (all27 N)
/-! ### humpyard/humpyardref06.Name -/
noncomputable def u0_r06_Name (N : Nat) : List (Pc D) := []
theorem oku0_r06_Name (N : Nat) : ∀ u ∈ u0_r06_Name N, PcOk (X27 N) (bodyOf Try.f65) u := pc_nil
noncomputable def Pr06_Name_1 : PD D := { path := [1, 0, 1, 0, 0, 1, 0, 0, 0], ins := [.v 0 .str, .v 3 (.int .i64)], fx := [], ks := [], exs := [⟨.normal, [.v 32 .bool], []⟩], keep := [0, 3] }
noncomputable def Fr06_Name_1 (N : Nat) : Pr06_Name_1.F := fun x => r06_Name_1 N x.1 x.2.1
theorem cr06_Name_1 (N : Nat) : CC (X27 N) (bodyOf Try.f65) Pr06_Name_1 (Fr06_Name_1 N) := CC.of (cok27 N) (us := u0_r06_Name N) (fun u h _ => oku0_r06_Name N u h) (fun x => by kernel_rfl)
noncomputable def ur06_Name_1 (N : Nat) : List (Pc D) := Pr06_Name_1.pc (X27 N) (Fr06_Name_1 N) :: u0_r06_Name N
theorem okur06_Name_1 (N : Nat) : ∀ u ∈ ur06_Name_1 N, PcOk (X27 N) (bodyOf Try.f65) u := pc_cons ((cr06_Name_1 N).pc (by kernel_rfl)) (oku0_r06_Name N)
noncomputable def Pr06_Name_0 : PD D := { path := [1, 0, 1, 0], ins := [.v 0 .str, .v 3 (.int .i64)], fx := [], ks := [], exs := [⟨.exit 0, [], []⟩, ⟨.ret, [.v 2 .bool], []⟩], keep := [0] }
noncomputable def Fr06_Name_0 (N n : Nat) : Pr06_Name_0.F := fun x => r06_Name_0 N x.1 n x.2.1
theorem cr06_Name_0 (N n : Nat) : CC (X27 N) (bodyOf Try.f65) Pr06_Name_0 (Fr06_Name_0 N n) := CC.loop (cok27 N) (us := ur06_Name_1 N) (c := sub (bodyOf Try.f65) [1, 0, 1, 0, 0]) (by kernel_rfl) (by kernel_rfl) (fun u h _ => okur06_Name_1 N u h) (fun x => rfl) (fun n x => by kernel_rfl) n
noncomputable def ur06_Name_0 (N : Nat) : List (Pc D) := Pr06_Name_0.pc (X27 N) (Fr06_Name_0 N N) :: ur06_Name_1 N
theorem okur06_Name_0 (N : Nat) : ∀ u ∈ ur06_Name_0 N, PcOk (X27 N) (bodyOf Try.f65) u := pc_cons ((cr06_Name_0 N N).pc (by kernel_rfl)) (okur06_Name_1 N)
noncomputable def Pr06_Name_2 : PD D := { path := [1, 1, 0], ins := [.v 0 .str], fx := [], ks := [], exs := [⟨.normal, [.v 2 .bool], []⟩], keep := [] }
noncomputable def Fr06_Name_2 (N : Nat) : Pr06_Name_2.F := fun x => r06_Name_2 N x.1
theorem cr06_Name_2 (N : Nat) : CC (X27 N) (bodyOf Try.f65) Pr06_Name_2 (Fr06_Name_2 N) := CC.of (cok27 N) (us := ur06_Name_0 N) (fun u h _ => okur06_Name_0 N u h) (fun x => by kernel_rfl)
noncomputable def ur06_Name_2 (N : Nat) : List (Pc D) := Pr06_Name_2.pc (X27 N) (Fr06_Name_2 N) :: ur06_Name_0 N
theorem okur06_Name_2 (N : Nat) : ∀ u ∈ ur06_Name_2 N, PcOk (X27 N) (bodyOf Try.f65) u := pc_cons ((cr06_Name_2 N).pc (by kernel_rfl)) (okur06_Name_0 N)
noncomputable def dr06_Name : FD D := { f := 65, np := 1, ins := [.v 0 .str], fx := [], rcv := none, rk := 0, outs := [.v 2 .bool], ofx := [], rvs := [.tmp 2], flat := true }
noncomputable def Fr06_Name (N : Nat) : dr06_Name.F := fun r x => r06_Name N x.1
theorem or06_Name (N : Nat) : FOk Try.prog (X27 N) dr06_Name (Fr06_Name N) := ⟨⟨Try.f65, _, Try.func65, rfl, by kernel_rfl, by kernel_rfl, rfl, FC.of (cok27 N) (us := ur06_Name_2 N) (fun u h _ => okur06_Name_2 N u h) (fun r x => by kernel_rfl)⟩, by kernel_rfl, by kernel_rfl, by kernel_rfl, by kernel_rfl⟩
noncomputable def fs28 (N : Nat) : List (FE D) := ⟨dr06_Name, Fr06_Name N⟩ :: fs27 N
theorem all28 (N : Nat) : ∀ y ∈ fs28 N, CallOk X0 y.d y.F := all_cons (x := ⟨dr06_Name, Fr06_Name N⟩) (or06_Name N) (all27 N)
noncomputable def X28 (N : Nat) : Ev Try.prog D := X0.with (fs28 N)
theorem cok28 (N : Nat) : COk (X28 N) := COk.of (all28 N)
/-! ### humpyard/humpyardref26.sound -/
noncomputable def u0_r26_sound (N : Nat) : List (Pc D) := []
theorem oku0_r26_sound (N : Nat) : ∀ u ∈ u0_r26_sound N, PcOk (X28 N) (bodyOf Try.f59) u := pc_nil
noncomputable def Pr26_sound_0 : PD D := { path := [1, 1, 0, 0], ins := [.o 5 (.box 46), .o 6 (.sl 3)], fx := [(5, .box 0 0), (6, .c (.own 1))], ks := [1, 1], exs := [⟨.normal, [.v 23 .bool], []⟩], keep := [5, 6] }
noncomputable def Fr26_sound_0 (N : Nat) : Pr26_sound_0.F := fun x => r26_sound_0 N x.1 x.2.1
theorem cr26_sound_0 (N : Nat) : CC (X28 N) (bodyOf Try.f59) Pr26_sound_0 (Fr26_sound_0 N) := CC.of (cok28 N) (us := u0_r26_sound N) (fun u h _ => oku0_r26_sound N u h) (fun x => by kernel_rfl)
noncomputable def ur26_sound_0 (N : Nat) : List (Pc D) := Pr26_sound_0.pc (X28 N) (Fr26_sound_0 N) :: u0_r26_sound N
theorem okur26_sound_0 (N : Nat) : ∀ u ∈ ur26_sound_0 N, PcOk (X28 N) (bodyOf Try.f59) u := pc_cons ((cr26_sound_0 N).pc (by kernel_rfl)) (oku0_r26_sound N)
noncomputable def Pr26_sound_2 : PD D := { path := [1, 1, 1, 0, 1, 0, 0, 1, 0, 0, 0], ins := [.o 5 (.box 46), .v 6 (.sl 3), .v 7 (.int .i64)], fx := [(5, .box 0 0)], ks := [1], exs := [⟨.normal, [.v 51 .bool], []⟩], keep := [5, 6, 7] }
noncomputable def Fr26_sound_2 (N : Nat) : Pr26_sound_2.F := fun x => r26_sound_2 N x.2.1 x.2.2.1
theorem cr26_sound_2 (N : Nat) : CC (X28 N) (bodyOf Try.f59) Pr26_sound_2 (Fr26_sound_2 N) := CC.of (cok28 N) (us := ur26_sound_0 N) (fun u h _ => okur26_sound_0 N u h) (fun x => by kernel_rfl)
noncomputable def ur26_sound_2 (N : Nat) : List (Pc D) := Pr26_sound_2.pc (X28 N) (Fr26_sound_2 N) :: ur26_sound_0 N
theorem okur26_sound_2 (N : Nat) : ∀ u ∈ ur26_sound_2 N, PcOk (X28 N) (bodyOf Try.f59) u := pc_cons ((cr26_sound_2 N).pc (by kernel_rfl)) (okur26_sound_0 N)
noncomputable def Pr26_sound_1 : PD D := { path := [1, 1, 1, 0, 1, 0], ins := [.o 5 (.box 46), .v 6 (.sl 3), .v 7 (.int .i64)], fx := [(5, .box 0 0)], ks := [1], exs := [⟨.exit 0, [], []⟩, ⟨.ret, [.v 4 .bool], []⟩], keep := [5, 6] }
noncomputable def Fr26_sound_1 (N n : Nat) : Pr26_sound_1.F := fun x => r26_sound_1 N x.2.1 n x.2.2.1
theorem cr26_sound_1 (N n : Nat) : CC (X28 N) (bodyOf Try.f59) Pr26_sound_1 (Fr26_sound_1 N n) := CC.loop (cok28 N) (us := ur26_sound_2 N) (c := sub (bodyOf Try.f59) [1, 1, 1, 0, 1, 0, 0]) (by kernel_rfl) (by kernel_rfl) (fun u h _ => okur26_sound_2 N u h) (fun x => rfl) (fun n x => by kernel_rfl) n
noncomputable def ur26_sound_1 (N : Nat) : List (Pc D) := Pr26_sound_1.pc (X28 N) (Fr26_sound_1 N N) :: ur26_sound_2 N
theorem okur26_sound_1 (N : Nat) : ∀ u ∈ ur26_sound_1 N, PcOk (X28 N) (bodyOf Try.f59) u := pc_cons ((cr26_sound_1 N N).pc (by kernel_rfl)) (okur26_sound_2 N)
noncomputable def Pr26_sound_3 : PD D := { path := [1, 1, 1, 1, 0, 0], ins := [.o 5 (.box 46), .v 6 (.sl 3)], fx := [(5, .box 0 0)], ks := [1], exs := [⟨.normal, [.v 59 .bool], []⟩], keep := [5] }
noncomputable def Fr26_sound_3 (N : Nat) : Pr26_sound_3.F := fun x => r26_sound_3 N x.1 x.2.1
theorem cr26_sound_3 (N : Nat) : CC (X28 N) (bodyOf Try.f59) Pr26_sound_3 (Fr26_sound_3 N) := CC.of (cok28 N) (us := ur26_sound_1 N) (fun u h _ => okur26_sound_1 N u h) (fun x => by kernel_rfl)
noncomputable def ur26_sound_3 (N : Nat) : List (Pc D) := Pr26_sound_3.pc (X28 N) (Fr26_sound_3 N) :: ur26_sound_1 N
theorem okur26_sound_3 (N : Nat) : ∀ u ∈ ur26_sound_3 N, PcOk (X28 N) (bodyOf Try.f59) u := pc_cons ((cr26_sound_3 N).pc (by kernel_rfl)) (okur26_sound_1 N)
noncomputable def Pr26_sound_4 : PD D := { path := [1, 1, 1, 1, 1, 0, 1, 0, 0], ins := [.o 5 (.box 46)], fx := [(5, .box 0 0)], ks := [1], exs := [⟨.normal, [.v 4 .bool], []⟩], keep := [] }
noncomputable def Fr26_sound_4 (N : Nat) : Pr26_sound_4.F := fun x => r26_sound_4 N x.1
theorem cr26_sound_4 (N : Nat) : CC (X28 N) (bodyOf Try.f59) Pr26_sound_4 (Fr26_sound_4 N) := CC.of (cok28 N) (us := ur26_sound_3 N) (fun u h _ => okur26_sound_3 N u h) (fun x => by kernel_rfl)
noncomputable def ur26_sound_4 (N : Nat) : List (Pc D) := Pr26_sound_4.pc (X28 N) (Fr26_sound_4 N) :: ur26_sound_3 N
theorem okur26_sound_4 (N : Nat) : ∀ u ∈ ur26_sound_4 N, PcOk (X28 N) (bodyOf Try.f59) u := pc_cons ((cr26_sound_4 N).pc (by kernel_rfl)) (okur26_sound_3 N)
noncomputable def dr26_sound : FD D := { f := 59, np := 2, ins := [.v 0 (.sl 46), .v 1 (.int .i64)], fx := [], rcv := none, rk := 0, outs := [.v 4 .bool], ofx := [], rvs := [.tmp 4], flat := true }
noncomputable def Fr26_sound (N : Nat) : dr26_sound.F := fun r x => r26_sound N x.1 x.2.1
theorem or26_sound (N : Nat) : FOk Try.prog (X28 N) dr26_sound (Fr26_sound N) := ⟨⟨Try.f59, _, Try.func59, rfl, by kernel_rfl, by kernel_rfl, rfl, FC.of (cok28 N) (us := ur26_sound_4 N) (fun u h _ => okur26_sound_4 N u h) (fun r x => by kernel_rfl)⟩, by kernel_rfl, by kernel_rfl, by kernel_rfl, by kernel_rfl⟩
noncomputable def fs29 (N : Nat) : List (FE D) := ⟨dr26_sound, Fr26_sound N⟩ :: fs28 N
theorem all29 (N : Nat) : ∀ y ∈ fs29 N, CallOk X0 y.d y.F := all_cons (x := ⟨dr26_sound, Fr26_sound N⟩) (or26_sound N) (all28 N)
noncomputable def X29 (N : Nat) : Ev Try.prog D := X0.with (fs29 N)
theorem cok29 (N : Nat) : COk (X29 N) := COk.of (all29 N)
/-! ### humpyard/humpyardref26.Valid -/
noncomputable def u0_r26_Valid (N : Nat) : List (Pc D) := []
theorem oku0_r26_Valid (N : Nat) : ∀ u ∈ u0_r26_Valid N, PcOk (X29 N) (bodyOf Try.f39) u := pc_nil
noncomputable def Pr26_Valid_1 : PD D := { path := [1, 1, 1, 0, 1, 0, 0, 1, 0, 0, 1, 0, 1, 0], ins := [.v 0 (.sl 46), .o 3 (.arr 3 94 64), .v 4 (.int .i64), .v 5 (.int .i64)], fx := [(3, .arr 0)], ks := [1], exs := [⟨.exit 2, [], []⟩, ⟨.ret, [.v 2 (.int .i64)], []⟩], keep := [0, 3, 4] }
noncomputable def Fr26_Valid_1 (N n : Nat) : Pr26_Valid_1.F := fun x => r26_Valid_1 N x.1 x.2.2.1 n x.2.2.2.1
theorem cr26_Valid_1 (N n : Nat) : CC (X29 N) (bodyOf Try.f39) Pr26_Valid_1 (Fr26_Valid_1 N n) := CC.loop (cok29 N) (us := u0_r26_Valid N) (c := sub (bodyOf Try.f39) [1, 1, 1, 0, 1, 0, 0, 1, 0, 0, 1, 0, 1, 0, 0]) (by kernel_rfl) (by kernel_rfl) (fun u h _ => oku0_r26_Valid N u h) (fun x => rfl) (fun n x => by kernel_rfl) n
noncomputable def ur26_Valid_1 (N : Nat) : List (Pc D) := Pr26_Valid_1.pc (X29 N) (Fr26_Valid_1 N N) :: u0_r26_Valid N
theorem okur26_Valid_1 (N : Nat) : ∀ u ∈ ur26_Valid_1 N, PcOk (X29 N) (bodyOf Try.f39) u := pc_cons ((cr26_Valid_1 N N).pc (by kernel_rfl)) (oku0_r26_Valid N)
noncomputable def Pr26_Valid_2 : PD D := { path := [1, 1, 1, 0, 1, 0, 0, 1, 0, 0, 1, 1, 1, 0, 1, 0], ins := [.o 3 (.arr 3 94 64), .o 6 (.sl 3), .v 7 (.int .i64)], fx := [(3, .arr 0), (6, .c (.own 1))], ks := [1, 1], exs := [⟨.exit 4, [], []⟩, ⟨.ret, [.v 2 (.int .i64)], []⟩], keep := [0, 3, 4, 6] }
noncomputable def Fr26_Valid_2 (N n : Nat) : Pr26_Valid_2.F := fun x => r26_Valid_2 N x.1 x.2.1 n x.2.2.1
theorem cr26_Valid_2 (N n : Nat) : CC (X29 N) (bodyOf Try.f39) Pr26_Valid_2 (Fr26_Valid_2 N n) := CC.loop (cok29 N) (us := ur26_Valid_1 N) (c := sub (bodyOf Try.f39) [1, 1, 1, 0, 1, 0, 0, 1, 0, 0, 1, 1, 1, 0, 1, 0, 0]) (by kernel_rfl) (by kernel_rfl) (fun u h _ => okur26_Valid_1 N u h) (fun x => rfl) (fun n x => by kernel_rfl) n
noncomputable def ur26_Valid_2 (N : Nat) : List (Pc D) := Pr26_Valid_2.pc (X29 N) (Fr26_Valid_2 N N) :: ur26_Valid_1 N
theorem okur26_Valid_2 (N : Nat) : ∀ u ∈ ur26_Valid_2 N, PcOk (X29 N) (bodyOf Try.f39) u := pc_cons ((cr26_Valid_2 N N).pc (by kernel_rfl)) (okur26_Valid_1 N)
noncomputable def Pr26_Valid_3 : PD D := { path := [1, 1, 1, 0, 1, 0, 0, 1, 0, 0, 1, 1, 1, 1, 1, 0], ins := [.o 3 (.arr 3 94 64), .o 6 (.sl 3), .v 8 (.int .i64)], fx := [(3, .arr 0), (6, .c (.own 1))], ks := [2, 1], exs := [⟨.exit 6, [.u 0 (.arr 3 94 64)], []⟩], keep := [0, 3, 4] }
noncomputable def Fr26_Valid_3 (N n : Nat) : Pr26_Valid_3.F := fun x => r26_Valid_3 N x.2.1 n x.1 x.2.2.1
theorem cr26_Valid_3 (N n : Nat) : CC (X29 N) (bodyOf Try.f39) Pr26_Valid_3 (Fr26_Valid_3 N n) := CC.loop (cok29 N) (us := ur26_Valid_2 N) (c := sub (bodyOf Try.f39) [1, 1, 1, 0, 1, 0, 0, 1, 0, 0, 1, 1, 1, 1, 1, 0, 0]) (by kernel_rfl) (by kernel_rfl) (fun u h _ => okur26_Valid_2 N u h) (fun x => rfl) (fun n x => by kernel_rfl) n
noncomputable def ur26_Valid_3 (N : Nat) : List (Pc D) := Pr26_Valid_3.pc (X29 N) (Fr26_Valid_3 N N) :: ur26_Valid_2 N
theorem okur26_Valid_3 (N : Nat) : ∀ u ∈ ur26_Valid_3 N, PcOk (X29 N) (bodyOf Try.f39) u := pc_cons ((cr26_Valid_3 N N).pc (by kernel_rfl)) (okur26_Valid_2 N)
noncomputable def Pr26_Valid_0 : PD D := { path := [1, 1, 1, 0, 1, 0], ins := [.v 0 (.sl 46), .o 3 (.arr 3 94 64), .v 4 (.int .i64)], fx := [(3, .arr 0)], ks := [0], exs := [⟨.exit 0, [], []⟩, ⟨.ret, [.v 2 (.int .i64)], []⟩], keep := [] }
noncomputable def Fr26_Valid_0 (N n : Nat) : Pr26_Valid_0.F := fun x => r26_Valid_0 N x.1 n x.2.1 x.2.2.1
theorem cr26_Valid_0 (N n : Nat) : CC (X29 N) (bodyOf Try.f39) Pr26_Valid_0 (Fr26_Valid_0 N n) := CC.loop (cok29 N) (us := ur26_Valid_3 N) (c := sub (bodyOf Try.f39) [1, 1, 1, 0, 1, 0, 0]) (by kernel_rfl) (by kernel_rfl) (fun u h _ => okur26_Valid_3 N u h) (fun x => rfl) (fun n x => by kernel_rfl) n
noncomputable def ur26_Valid_0 (N : Nat) : List (Pc D) := Pr26_Valid_0.pc (X29 N) (Fr26_Valid_0 N N) :: ur26_Valid_3 N
theorem okur26_Valid_0 (N : Nat) : ∀ u ∈ ur26_Valid_0 N, PcOk (X29 N) (bodyOf Try.f39) u := pc_cons ((cr26_Valid_0 N N).pc (by kernel_rfl)) (okur26_Valid_3 N)
noncomputable def dr26_Valid : FD D := { f := 39, np := 1, ins := [.v 0 (.sl 46)], fx := [], rcv := none, rk := 0, outs := [.v 2 (.int .i64)], ofx := [], rvs := [.tmp 2], flat := true }
noncomputable def Fr26_Valid (N : Nat) : dr26_Valid.F := fun r x => r26_Valid N x.1
theorem or26_Valid (N : Nat) : FOk Try.prog (X29 N) dr26_Valid (Fr26_Valid N) := ⟨⟨Try.f39, _, Try.func39, rfl, by kernel_rfl, by kernel_rfl, rfl, FC.of (cok29 N) (us := ur26_Valid_0 N) (fun u h _ => okur26_Valid_0 N u h) (fun r x => by kernel_rfl)⟩, by kernel_rfl, by kernel_rfl, by kernel_rfl, by kernel_rfl⟩
noncomputable def fs30 (N : Nat) : List (FE D) := ⟨dr26_Valid, Fr26_Valid N⟩ :: fs29 N
theorem all30 (N : Nat) : ∀ y ∈ fs30 N, CallOk X0 y.d y.F := all_cons (x := ⟨dr26_Valid, Fr26_Valid N⟩) (or26_Valid N) (all29 N)
noncomputable def X30 (N : Nat) : Ev Try.prog D := X0.with (fs30 N)
theorem cok30 (N : Nat) : COk (X30 N) := COk.of (all30 N)
/-! ### humpyard/humpyardref27.track -/
noncomputable def u0_r27_track (N : Nat) : List (Pc D) := []
theorem oku0_r27_track (N : Nat) : ∀ u ∈ u0_r27_track N, PcOk (X30 N) (bodyOf Try.f40) u := pc_nil
noncomputable def Pr27_track_0 : PD D := { path := [1, 0], ins := [.v 0 (.sl 46), .v 1 (.int .i64)], fx := [], ks := [], exs := [⟨.normal, [.v 4 .bool], []⟩], keep := [] }
noncomputable def Fr27_track_0 (N : Nat) : Pr27_track_0.F := fun x => r27_track_0 N x.1 x.2.1
theorem cr27_track_0 (N : Nat) : CC (X30 N) (bodyOf Try.f40) Pr27_track_0 (Fr27_track_0 N) := CC.of (cok30 N) (us := u0_r27_track N) (fun u h _ => oku0_r27_track N u h) (fun x => by kernel_rfl)
noncomputable def ur27_track_0 (N : Nat) : List (Pc D) := Pr27_track_0.pc (X30 N) (Fr27_track_0 N) :: u0_r27_track N
theorem okur27_track_0 (N : Nat) : ∀ u ∈ ur27_track_0 N, PcOk (X30 N) (bodyOf Try.f40) u := pc_cons ((cr27_track_0 N).pc (by kernel_rfl)) (oku0_r27_track N)
noncomputable def dr27_track : FD D := { f := 40, np := 2, ins := [.v 0 (.sl 46), .v 1 (.int .i64)], fx := [], rcv := none, rk := 0, outs := [.v 4 .bool], ofx := [], rvs := [.tmp 4], flat := true }
noncomputable def Fr27_track (N : Nat) : dr27_track.F := fun r x => r27_track N x.1 x.2.1
theorem or27_track (N : Nat) : FOk Try.prog (X30 N) dr27_track (Fr27_track N) := ⟨⟨Try.f40, _, Try.func40, rfl, by kernel_rfl, by kernel_rfl, rfl, FC.of (cok30 N) (us := ur27_track_0 N) (fun u h _ => okur27_track_0 N u h) (fun r x => by kernel_rfl)⟩, by kernel_rfl, by kernel_rfl, by kernel_rfl, by kernel_rfl⟩
noncomputable def fs31 (N : Nat) : List (FE D) := ⟨dr27_track, Fr27_track N⟩ :: fs30 N
theorem all31 (N : Nat) : ∀ y ∈ fs31 N, CallOk X0 y.d y.F := all_cons (x := ⟨dr27_track, Fr27_track N⟩) (or27_track N) (all30 N)
noncomputable def X31 (N : Nat) : Ev Try.prog D := X0.with (fs31 N)
theorem cok31 (N : Nat) : COk (X31 N) := COk.of (all31 N)
/-! ### humpyard/humpyardref27.outs -/
noncomputable def u0_r27_outs (N : Nat) : List (Pc D) := []
theorem oku0_r27_outs (N : Nat) : ∀ u ∈ u0_r27_outs N, PcOk (X31 N) (bodyOf Try.f45) u := pc_nil
noncomputable def dr27_outs : FD D := { f := 45, np := 2, ins := [.v 0 (.sl 46), .v 1 (.agg 32)], fx := [], rcv := none, rk := 0, outs := [.o 4 (.sl 3)], ofx := [(4, .c (.own 0))], rvs := [.tmp 4], flat := false }
noncomputable def Fr27_outs (N : Nat) : dr27_outs.F := fun r x => r27_outs N x.1 x.2.1
theorem or27_outs (N : Nat) : FOk Try.prog (X31 N) dr27_outs (Fr27_outs N) := ⟨⟨Try.f45, _, Try.func45, rfl, by kernel_rfl, by kernel_rfl, rfl, FC.of (cok31 N) (us := u0_r27_outs N) (fun u h _ => oku0_r27_outs N u h) (fun r x => by kernel_rfl)⟩, by kernel_rfl, by kernel_rfl, by kernel_rfl, by kernel_rfl⟩
noncomputable def fs32 (N : Nat) : List (FE D) := ⟨dr27_outs, Fr27_outs N⟩ :: fs31 N
theorem all32 (N : Nat) : ∀ y ∈ fs32 N, CallOk X0 y.d y.F := all_cons (x := ⟨dr27_outs, Fr27_outs N⟩) (or27_outs N) (all31 N)
noncomputable def X32 (N : Nat) : Ev Try.prog D := X0.with (fs32 N)
theorem cok32 (N : Nat) : COk (X32 N) := COk.of (all32 N)
/-! ### humpyard/humpyardref27.next -/
noncomputable def u0_r27_next (N : Nat) : List (Pc D) := []
theorem oku0_r27_next (N : Nat) : ∀ u ∈ u0_r27_next N, PcOk (X32 N) (bodyOf Try.f44) u := pc_nil
noncomputable def Pr27_next_2 : PD D := { path := [1, 1, 1, 0, 1, 0, 0, 1, 0, 0, 1, 0], ins := [.o 5 (.box 32), .v 8 (.int .i64), .v 9 .bool, .o 10 (.sl 3), .v 12 (.int .i64), .v 13 .bool], fx := [(5, .box 0 0), (10, .c (.own 1))], ks := [1, 1], exs := [⟨.normal, [.v 50 .bool], []⟩], keep := [0, 1, 5, 8, 9, 10, 11, 12] }
noncomputable def Fr27_next_2 (N : Nat) : Pr27_next_2.F := fun x => r27_next_2 N x.2.1 x.2.2.1 x.2.2.2.2.1 x.2.2.2.2.2.1
theorem cr27_next_2 (N : Nat) : CC (X32 N) (bodyOf Try.f44) Pr27_next_2 (Fr27_next_2 N) := CC.of (cok32 N) (us := u0_r27_next N) (fun u h _ => oku0_r27_next N u h) (fun x => by kernel_rfl)
noncomputable def ur27_next_2 (N : Nat) : List (Pc D) := Pr27_next_2.pc (X32 N) (Fr27_next_2 N) :: u0_r27_next N
theorem okur27_next_2 (N : Nat) : ∀ u ∈ ur27_next_2 N, PcOk (X32 N) (bodyOf Try.f44) u := pc_cons ((cr27_next_2 N).pc (by kernel_rfl)) (oku0_r27_next N)
noncomputable def Pr27_next_1 : PD D := { path := [1, 1, 1, 0, 1, 0, 0, 1, 0], ins := [.v 0 (.sl 46), .v 1 (.mp 75 81 3), .o 5 (.box 32), .v 8 (.int .i64), .v 9 .bool, .o 10 (.sl 3), .v 11 (.int .i64)], fx := [(5, .box 0 0), (10, .c (.own 1))], ks := [1, 1], exs := [⟨.normal, [.v 8 (.int .i64), .v 9 .bool], []⟩], keep := [0, 1, 5, 10, 11] }
noncomputable def Fr27_next_1 (N : Nat) : Pr27_next_1.F := fun x => r27_next_1 N x.1 x.2.1 x.2.2.1 x.2.2.2.1 x.2.2.2.2.1 x.2.2.2.2.2.1 x.2.2.2.2.2.2.1
theorem cr27_next_1 (N : Nat) : CC (X32 N) (bodyOf Try.f44) Pr27_next_1 (Fr27_next_1 N) := CC.of (cok32 N) (us := ur27_next_2 N) (fun u h _ => okur27_next_2 N u h) (fun x => by kernel_rfl)
noncomputable def ur27_next_1 (N : Nat) : List (Pc D) := Pr27_next_1.pc (X32 N) (Fr27_next_1 N) :: ur27_next_2 N
theorem okur27_next_1 (N : Nat) : ∀ u ∈ ur27_next_1 N, PcOk (X32 N) (bodyOf Try.f44) u := pc_cons ((cr27_next_1 N).pc (by kernel_rfl)) (okur27_next_2 N)
noncomputable def Pr27_next_0 : PD D := { path := [1, 1, 1, 0, 1, 0], ins := [.v 0 (.sl 46), .v 1 (.mp 75 81 3), .o 5 (.box 32), .v 8 (.int .i64), .v 9 .bool, .o 10 (.sl 3), .v 11 (.int .i64)], fx := [(5, .box 0 0), (10, .c (.own 1))], ks := [1, 1], exs := [⟨.exit 0, [.v 8 (.int .i64), .v 9 .bool], []⟩], keep := [] }
noncomputable def Fr27_next_0 (N n : Nat) : Pr27_next_0.F := fun x => r27_next_0 N x.1 x.2.1 x.2.2.1 x.2.2.2.2.2.1 n x.2.2.2.1 x.2.2.2.2.1 x.2.2.2.2.2.2.1
theorem cr27_next_0 (N n : Nat) : CC (X32 N) (bodyOf Try.f44) Pr27_next_0 (Fr27_next_0 N n) := CC.loop (cok32 N) (us := ur27_next_1 N) (c := sub (bodyOf Try.f44) [1, 1, 1, 0, 1, 0, 0]) (by kernel_rfl) (by kernel_rfl) (fun u h _ => okur27_next_1 N u h) (fun x => rfl) (fun n x => by kernel_rfl) n
noncomputable def ur27_next_0 (N : Nat) : List (Pc D) := Pr27_next_0.pc (X32 N) (Fr27_next_0 N N) :: ur27_next_1 N
theorem okur27_next_0 (N : Nat) : ∀ u ∈ ur27_next_0 N, PcOk (X32 N) (bodyOf Try.f44) u := pc_cons ((cr27_next_0 N N).pc (by kernel_rfl)) (okur27_next_1 N)
noncomputable def dr27_next : FD D := { f := 44, np := 3, ins := [.v 0 (.sl 46), .v 1 (.mp 75 81 3), .v 2 (.agg 32)], fx := [], rcv := none, rk := 0, outs := [.v 6 (.int .i64), .v 7 .bool], ofx := [], rvs := [.tmp 6, .tmp 7], flat := true }
noncomputable def Fr27_next (N : Nat) : dr27_next.F := fun r x => r27_next N x.1 x.2.1 x.2.2.1
theorem or27_next (N : Nat) : FOk Try.prog (X32 N) dr27_next (Fr27_next N) := ⟨⟨Try.f44, _, Try.func44, rfl, by kernel_rfl, by kernel_rfl, rfl, FC.of (cok32 N) (us := ur27_next_0 N) (fun u h _ => okur27_next_0 N u h) (fun r x => by kernel_rfl)⟩, by kernel_rfl, by kernel_rfl, by kernel_rfl, by kernel_rfl⟩
noncomputable def fs33 (N : Nat) : List (FE D) := ⟨dr27_next, Fr27_next N⟩ :: fs32 N
theorem all33 (N : Nat) : ∀ y ∈ fs33 N, CallOk X0 y.d y.F := all_cons (x := ⟨dr27_next, Fr27_next N⟩) (or27_next N) (all32 N)
noncomputable def X33 (N : Nat) : Ev Try.prog D := X0.with (fs33 N)
theorem cok33 (N : Nat) : COk (X33 N) := COk.of (all33 N)
/-! ### humpyard/humpyardref27.distances -/
noncomputable def u0_r27_distances (N : Nat) : List (Pc D) := []
theorem oku0_r27_distances (N : Nat) : ∀ u ∈ u0_r27_distances N, PcOk (X33 N) (bodyOf Try.f43) u := pc_nil
noncomputable def Pr27_distances_0 : PD D := { path := [1, 1, 1, 0, 1, 0], ins := [.v 1 (.int .i64), .o 5 (.map 75 81 3), .o 6 (.sl 3), .v 7 (.int .i64)], fx := [(5, .c (.own 0)), (6, .c (.own 1))], ks := [2, 1], exs := [⟨.exit 0, [.u 0 (.map 75 81 3)], []⟩], keep := [0, 1, 5] }
noncomputable def Fr27_distances_0 (N n : Nat) : Pr27_distances_0.F := fun x => r27_distances_0 N x.1 x.2.2.1 n x.2.1 x.2.2.2.1
theorem cr27_distances_0 (N n : Nat) : CC (X33 N) (bodyOf Try.f43) Pr27_distances_0 (Fr27_distances_0 N n) := CC.loop (cok33 N) (us := u0_r27_distances N) (c := sub (bodyOf Try.f43) [1, 1, 1, 0, 1, 0, 0]) (by kernel_rfl) (by kernel_rfl) (fun u h _ => oku0_r27_distances N u h) (fun x => rfl) (fun n x => by kernel_rfl) n
noncomputable def ur27_distances_0 (N : Nat) : List (Pc D) := Pr27_distances_0.pc (X33 N) (Fr27_distances_0 N N) :: u0_r27_distances N
theorem okur27_distances_0 (N : Nat) : ∀ u ∈ ur27_distances_0 N, PcOk (X33 N) (bodyOf Try.f43) u := pc_cons ((cr27_distances_0 N N).pc (by kernel_rfl)) (oku0_r27_distances N)
noncomputable def Pr27_distances_5 : PD D := { path := [1, 1, 1, 1, 0, 1, 0, 0, 1, 0, 1, 1, 0, 0, 1, 0, 0, 1, 1, 0, 0, 1, 0, 0, 1, 1, 1, 0], ins := [.o 5 (.map 75 81 3), .o 10 (.sl 3), .v 12 (.int .i64), .v 13 .bool, .v 14 (.int .i64), .v 15 .bool], fx := [(5, .c (.own 0)), (10, .c (.own 1))], ks := [1, 1], exs := [⟨.normal, [.v 85 .bool], []⟩], keep := [0, 1, 5, 8, 9, 10, 11, 12] }
noncomputable def Fr27_distances_5 (N : Nat) : Pr27_distances_5.F := fun x => r27_distances_5 N x.2.2.1 x.2.2.2.1 x.2.2.2.2.1 x.2.2.2.2.2.1
theorem cr27_distances_5 (N : Nat) : CC (X33 N) (bodyOf Try.f43) Pr27_distances_5 (Fr27_distances_5 N) := CC.of (cok33 N) (us := ur27_distances_0 N) (fun u h _ => okur27_distances_0 N u h) (fun x => by kernel_rfl)
noncomputable def ur27_distances_5 (N : Nat) : List (Pc D) := Pr27_distances_5.pc (X33 N) (Fr27_distances_5 N) :: ur27_distances_0 N
theorem okur27_distances_5 (N : Nat) : ∀ u ∈ ur27_distances_5 N, PcOk (X33 N) (bodyOf Try.f43) u := pc_cons ((cr27_distances_5 N).pc (by kernel_rfl)) (okur27_distances_0 N)
noncomputable def Pr27_distances_4 : PD D := { path := [1, 1, 1, 1, 0, 1, 0, 0, 1, 0, 1, 1, 0, 0, 1, 0, 0, 1, 1, 0, 0, 1, 0], ins := [.v 0 (.sl 46), .v 1 (.int .i64), .o 5 (.map 75 81 3), .v 8 .bool, .v 9 (.int .i64), .o 10 (.sl 3), .v 11 (.int .i64)], fx := [(5, .c (.own 0)), (10, .c (.own 1))], ks := [2, 1], exs := [⟨.normal, [.u 0 (.map 75 81 3), .v 8 .bool], []⟩], keep := [0, 1, 5, 9, 10, 11] }
noncomputable def Fr27_distances_4 (N : Nat) : Pr27_distances_4.F := fun x => r27_distances_4 N x.1 x.2.1 x.2.2.1 x.2.2.2.1 x.2.2.2.2.1 x.2.2.2.2.2.1 x.2.2.2.2.2.2.1
theorem cr27_distances_4 (N : Nat) : CC (X33 N) (bodyOf Try.f43) Pr27_distances_4 (Fr27_distances_4 N) := CC.of (cok33 N) (us := ur27_distances_5 N) (fun u h _ => okur27_distances_5 N u h) (fun x => by kernel_rfl)
noncomputable def ur27_distances_4 (N : Nat) : List (Pc D) := Pr27_distances_4.pc (X33 N) (Fr27_distances_4 N) :: ur27_distances_5 N
theorem okur27_distances_4 (N : Nat) : ∀ u ∈ ur27_distances_4 N, PcOk (X33 N) (bodyOf Try.f43) u := pc_cons ((cr27_distances_4 N).pc (by kernel_rfl)) (okur27_distances_5 N)
noncomputable def Pr27_distances_3 : PD D := { path := [1, 1, 1, 1, 0, 1, 0, 0, 1, 0, 1, 1, 0, 0, 1, 0, 0, 1, 1, 0], ins := [.v 0 (.sl 46), .v 1 (.int .i64), .o 5 (.map 75 81 3), .v 8 .bool, .v 9 (.int .i64), .o 10 (.sl 3), .v 11 (.int .i64)], fx := [(5, .c (.own 0)), (10, .c (.own 1))], ks := [2, 1], exs := [⟨.exit 6, [.u 0 (.map 75 81 3), .v 8 .bool], []⟩], keep := [0, 1, 5, 9] }
noncomputable def Fr27_distances_3 (N n : Nat) : Pr27_distances_3.F := fun x => r27_distances_3 N x.1 x.2.1 x.2.2.2.2.1 x.2.2.2.2.2.1 n x.2.2.1 x.2.2.2.1 x.2.2.2.2.2.2.1
theorem cr27_distances_3 (N n : Nat) : CC (X33 N) (bodyOf Try.f43) Pr27_distances_3 (Fr27_distances_3 N n) := CC.loop (cok33 N) (us := ur27_distances_4 N) (c := sub (bodyOf Try.f43) [1, 1, 1, 1, 0, 1, 0, 0, 1, 0, 1, 1, 0, 0, 1, 0, 0, 1, 1, 0, 0]) (by kernel_rfl) (by kernel_rfl) (fun u h _ => okur27_distances_4 N u h) (fun x => rfl) (fun n x => by kernel_rfl) n
noncomputable def ur27_distances_3 (N : Nat) : List (Pc D) := Pr27_distances_3.pc (X33 N) (Fr27_distances_3 N N) :: ur27_distances_4 N
theorem okur27_distances_3 (N : Nat) : ∀ u ∈ ur27_distances_3 N, PcOk (X33 N) (bodyOf Try.f43) u := pc_cons ((cr27_distances_3 N N).pc (by kernel_rfl)) (okur27_distances_4 N)
noncomputable def Pr27_distances_2 : PD D := { path := [1, 1, 1, 1, 0, 1, 0, 0, 1, 0, 1, 1, 0], ins := [.v 0 (.sl 46), .v 1 (.int .i64), .o 5 (.map 75 81 3), .v 8 .bool, .v 9 (.int .i64)], fx := [(5, .c (.own 0))], ks := [2], exs := [⟨.exit 4, [.u 0 (.map 75 81 3), .v 8 .bool], []⟩], keep := [0, 1, 5] }
noncomputable def Fr27_distances_2 (N n : Nat) : Pr27_distances_2.F := fun x => r27_distances_2 N x.1 x.2.1 n x.2.2.1 x.2.2.2.1 x.2.2.2.2.1
theorem cr27_distances_2 (N n : Nat) : CC (X33 N) (bodyOf Try.f43) Pr27_distances_2 (Fr27_distances_2 N n) := CC.loop (cok33 N) (us := ur27_distances_3 N) (c := sub (bodyOf Try.f43) [1, 1, 1, 1, 0, 1, 0, 0, 1, 0, 1, 1, 0, 0]) (by kernel_rfl) (by kernel_rfl) (fun u h _ => okur27_distances_3 N u h) (fun x => rfl) (fun n x => by kernel_rfl) n
noncomputable def ur27_distances_2 (N : Nat) : List (Pc D) := Pr27_distances_2.pc (X33 N) (Fr27_distances_2 N N) :: ur27_distances_3 N
theorem okur27_distances_2 (N : Nat) : ∀ u ∈ ur27_distances_2 N, PcOk (X33 N) (bodyOf Try.f43) u := pc_cons ((cr27_distances_2 N N).pc (by kernel_rfl)) (okur27_distances_3 N)
noncomputable def Pr27_distances_1 : PD D := { path := [1, 1, 1, 1, 0, 1, 0], ins := [.v 0 (.sl 46), .v 1 (.int .i64), .o 5 (.map 75 81 3), .v 8 .bool], fx := [(5, .c (.own 0))], ks := [2], exs := [⟨.exit 2, [.u 0 (.map 75 81 3)], []⟩], keep := [5] }
noncomputable def Fr27_distances_1 (N n : Nat) : Pr27_distances_1.F := fun x => r27_distances_1 N x.1 x.2.1 n x.2.2.1 x.2.2.2.1
theorem cr27_distances_1 (N n : Nat) : CC (X33 N) (bodyOf Try.f43) Pr27_distances_1 (Fr27_distances_1 N n) := CC.loop (cok33 N) (us := ur27_distances_2 N) (c := sub (bodyOf Try.f43) [1, 1, 1, 1, 0, 1, 0, 0]) (by kernel_rfl) (by kernel_rfl) (fun u h _ => okur27_distances_2 N u h) (fun x => rfl) (fun n x => by kernel_rfl) n
noncomputable def ur27_distances_1 (N : Nat) : List (Pc D) := Pr27_distances_1.pc (X33 N) (Fr27_distances_1 N N) :: ur27_distances_2 N
theorem okur27_distances_1 (N : Nat) : ∀ u ∈ ur27_distances_1 N, PcOk (X33 N) (bodyOf Try.f43) u := pc_cons ((cr27_distances_1 N N).pc (by kernel_rfl)) (okur27_distances_2 N)
noncomputable def dr27_distances : FD D := { f := 43, np := 2, ins := [.v 0 (.sl 46), .v 1 (.int .i64)], fx := [], rcv := none, rk := 0, outs := [.o 4 (.map 75 81 3)], ofx := [(4, .c (.own 0))], rvs := [.tmp 4], flat := false }
noncomputable def Fr27_distances (N : Nat) : dr27_distances.F := fun r x => r27_distances N x.1 x.2.1
theorem or27_distances (N : Nat) : FOk Try.prog (X33 N) dr27_distances (Fr27_distances N) := ⟨⟨Try.f43, _, Try.func43, rfl, by kernel_rfl, by kernel_rfl, rfl, FC.of (cok33 N) (us := ur27_distances_1 N) (fun u h _ => okur27_distances_1 N u h) (fun r x => by kernel_rfl)⟩, by kernel_rfl, by kernel_rfl, by kernel_rfl, by kernel_rfl⟩
noncomputable def fs34 (N : Nat) : List (FE D) := ⟨dr27_distances, Fr27_distances N⟩ :: fs33 N
theorem all34 (N : Nat) : ∀ y ∈ fs34 N, CallOk X0 y.d y.F := all_cons (x := ⟨dr27_distances, Fr27_distances N⟩) (or27_distances N) (all33 N)
noncomputable def X34 (N : Nat) : Ev Try.prog D := X0.with (fs34 N)
theorem cok34 (N : Nat) : COk (X34 N) := COk.of (all34 N)
/-! ### humpyard/humpyardref27.Visits -/
noncomputable def u0_r27_Visits (N : Nat) : List (Pc D) := []
theorem oku0_r27_Visits (N : Nat) : ∀ u ∈ u0_r27_Visits N, PcOk (X34 N) (bodyOf Try.f41) u := pc_nil
noncomputable def Pr27_Visits_0 : PD D := { path := [1, 0, 1, 0], ins := [.v 0 (.sl 32), .v 1 (.int .i64), .v 5 (.int .i64)], fx := [], ks := [], exs := [⟨.exit 0, [], []⟩, ⟨.ret, [.v 4 .bool], []⟩], keep := [] }
noncomputable def Fr27_Visits_0 (N n : Nat) : Pr27_Visits_0.F := fun x => r27_Visits_0 N x.1 x.2.1 n x.2.2.1
theorem cr27_Visits_0 (N n : Nat) : CC (X34 N) (bodyOf Try.f41) Pr27_Visits_0 (Fr27_Visits_0 N n) := CC.loop (cok34 N) (us := u0_r27_Visits N) (c := sub (bodyOf Try.f41) [1, 0, 1, 0, 0]) (by kernel_rfl) (by kernel_rfl) (fun u h _ => oku0_r27_Visits N u h) (fun x => rfl) (fun n x => by kernel_rfl) n
noncomputable def ur27_Visits_0 (N : Nat) : List (Pc D) := Pr27_Visits_0.pc (X34 N) (Fr27_Visits_0 N N) :: u0_r27_Visits N
theorem okur27_Visits_0 (N : Nat) : ∀ u ∈ ur27_Visits_0 N, PcOk (X34 N) (bodyOf Try.f41) u := pc_cons ((cr27_Visits_0 N N).pc (by kernel_rfl)) (oku0_r27_Visits N)
noncomputable def dr27_Visits : FD D := { f := 41, np := 2, ins := [.v 0 (.sl 32), .v 1 (.int .i64)], fx := [], rcv := none, rk := 0, outs := [.v 4 .bool], ofx := [], rvs := [.tmp 4], flat := true }
noncomputable def Fr27_Visits (N : Nat) : dr27_Visits.F := fun r x => r27_Visits N x.1 x.2.1
theorem or27_Visits (N : Nat) : FOk Try.prog (X34 N) dr27_Visits (Fr27_Visits N) := ⟨⟨Try.f41, _, Try.func41, rfl, by kernel_rfl, by kernel_rfl, rfl, FC.of (cok34 N) (us := ur27_Visits_0 N) (fun u h _ => okur27_Visits_0 N u h) (fun r x => by kernel_rfl)⟩, by kernel_rfl, by kernel_rfl, by kernel_rfl, by kernel_rfl⟩
noncomputable def fs35 (N : Nat) : List (FE D) := ⟨dr27_Visits, Fr27_Visits N⟩ :: fs34 N
theorem all35 (N : Nat) : ∀ y ∈ fs35 N, CallOk X0 y.d y.F := all_cons (x := ⟨dr27_Visits, Fr27_Visits N⟩) (or27_Visits N) (all34 N)
noncomputable def X35 (N : Nat) : Ev Try.prog D := X0.with (fs35 N)
theorem cok35 (N : Nat) : COk (X35 N) := COk.of (all35 N)
/-! ### humpyard/humpyardref27.Find -/
noncomputable def u0_r27_Find (N : Nat) : List (Pc D) := []
theorem oku0_r27_Find (N : Nat) : ∀ u ∈ u0_r27_Find N, PcOk (X35 N) (bodyOf Try.f20) u := pc_nil
noncomputable def Pr27_Find_0 : PD D := { path := [1, 1, 0, 0], ins := [.v 0 (.sl 46), .v 1 (.int .i64), .v 2 (.int .i64)], fx := [], ks := [], exs := [⟨.normal, [.v 39 .bool], []⟩], keep := [0, 1, 2] }
noncomputable def Fr27_Find_0 (N : Nat) : Pr27_Find_0.F := fun x => r27_Find_0 N x.1 x.2.1 x.2.2.1
theorem cr27_Find_0 (N : Nat) : CC (X35 N) (bodyOf Try.f20) Pr27_Find_0 (Fr27_Find_0 N) := CC.of (cok35 N) (us := u0_r27_Find N) (fun u h _ => oku0_r27_Find N u h) (fun x => by kernel_rfl)
noncomputable def ur27_Find_0 (N : Nat) : List (Pc D) := Pr27_Find_0.pc (X35 N) (Fr27_Find_0 N) :: u0_r27_Find N
theorem okur27_Find_0 (N : Nat) : ∀ u ∈ ur27_Find_0 N, PcOk (X35 N) (bodyOf Try.f20) u := pc_cons ((cr27_Find_0 N).pc (by kernel_rfl)) (oku0_r27_Find N)
noncomputable def Pr27_Find_4 : PD D := { path := [1, 1, 1, 1, 1, 1, 1, 1, 0, 0, 0, 1, 0, 0, 1, 1, 1, 0, 1, 0, 0, 1, 0, 0, 1, 1, 0], ins := [.o 9 (.map 75 81 3), .o 10 (.box 32), .v 11 (.int .i64), .o 13 (.sl 32), .o 14 (.sl 3), .v 15 (.int .i64), .v 16 (.int .i64), .v 17 (.int .i64), .v 18 (.int .i64), .v 19 .bool], fx := [(9, .c (.own 0)), (10, .box 1 0), (13, .c (.own 2)), (14, .c (.own 3))], ks := [1, 1, 1, 1], exs := [⟨.normal, [.v 115 .bool], []⟩], keep := [0, 2, 9, 10, 11, 13, 14, 15, 16, 17] }
noncomputable def Fr27_Find_4 (N : Nat) : Pr27_Find_4.F := fun x => r27_Find_4 N x.2.1 x.2.2.1 x.2.2.2.2.1 x.2.2.2.2.2.1 x.2.2.2.2.2.2.1 x.2.2.2.2.2.2.2.1 x.2.2.2.2.2.2.2.2.1 x.2.2.2.2.2.2.2.2.2.1
theorem cr27_Find_4 (N : Nat) : CC (X35 N) (bodyOf Try.f20) Pr27_Find_4 (Fr27_Find_4 N) := CC.of (cok35 N) (us := ur27_Find_0 N) (fun u h _ => okur27_Find_0 N u h) (fun x => by kernel_rfl)
noncomputable def ur27_Find_4 (N : Nat) : List (Pc D) := Pr27_Find_4.pc (X35 N) (Fr27_Find_4 N) :: ur27_Find_0 N
theorem okur27_Find_4 (N : Nat) : ∀ u ∈ ur27_Find_4 N, PcOk (X35 N) (bodyOf Try.f20) u := pc_cons ((cr27_Find_4 N).pc (by kernel_rfl)) (okur27_Find_0 N)
noncomputable def Pr27_Find_3 : PD D := { path := [1, 1, 1, 1, 1, 1, 1, 1, 0, 0, 0, 1, 0, 0, 1, 1, 1, 0, 1, 0, 0, 1, 0], ins := [.v 0 (.sl 46), .o 9 (.map 75 81 3), .o 10 (.box 32), .v 11 (.int .i64), .o 13 (.sl 32), .o 14 (.sl 3), .v 15 (.int .i64), .v 16 (.int .i64)], fx := [(9, .c (.own 0)), (10, .box 1 0), (13, .c (.own 2)), (14, .c (.own 3))], ks := [1, 2, 1, 1], exs := [⟨.normal, [.u 1 (.box 32), .v 15 (.int .i64)], []⟩], keep := [0, 2, 9, 10, 11, 13, 14, 16] }
noncomputable def Fr27_Find_3 (N : Nat) : Pr27_Find_3.F := fun x => r27_Find_3 N x.1 x.2.1 x.2.2.1 x.2.2.2.1 x.2.2.2.2.2.1 x.2.2.2.2.2.2.1 x.2.2.2.2.2.2.2.1
theorem cr27_Find_3 (N : Nat) : CC (X35 N) (bodyOf Try.f20) Pr27_Find_3 (Fr27_Find_3 N) := CC.of (cok35 N) (us := ur27_Find_4 N) (fun u h _ => okur27_Find_4 N u h) (fun x => by kernel_rfl)
noncomputable def ur27_Find_3 (N : Nat) : List (Pc D) := Pr27_Find_3.pc (X35 N) (Fr27_Find_3 N) :: ur27_Find_4 N
theorem okur27_Find_3 (N : Nat) : ∀ u ∈ ur27_Find_3 N, PcOk (X35 N) (bodyOf Try.f20) u := pc_cons ((cr27_Find_3 N).pc (by kernel_rfl)) (okur27_Find_4 N)
noncomputable def Pr27_Find_2 : PD D := { path := [1, 1, 1, 1, 1, 1, 1, 1, 0, 0, 0, 1, 0, 0, 1, 1, 1, 0, 1, 0], ins := [.v 0 (.sl 46), .o 9 (.map 75 81 3), .o 10 (.box 32), .v 11 (.int .i64), .o 13 (.sl 32), .o 14 (.sl 3), .v 15 (.int .i64), .v 16 (.int .i64)], fx := [(9, .c (.own 0)), (10, .box 1 0), (13, .c (.own 2)), (14, .c (.own 3))], ks := [1, 2, 1, 1], exs := [⟨.exit 2, [.u 1 (.box 32), .v 15 (.int .i64)], []⟩], keep := [0, 2, 9, 10, 11, 13] }
noncomputable def Fr27_Find_2 (N n : Nat) : Pr27_Find_2.F := fun x => r27_Find_2 N x.1 x.2.1 x.2.2.2.1 x.2.2.2.2.2.1 n x.2.2.1 x.2.2.2.2.2.2.1 x.2.2.2.2.2.2.2.1
theorem cr27_Find_2 (N n : Nat) : CC (X35 N) (bodyOf Try.f20) Pr27_Find_2 (Fr27_Find_2 N n) := CC.loop (cok35 N) (us := ur27_Find_3 N) (c := sub (bodyOf Try.f20) [1, 1, 1, 1, 1, 1, 1, 1, 0, 0, 0, 1, 0, 0, 1, 1, 1, 0, 1, 0, 0]) (by kernel_rfl) (by kernel_rfl) (fun u h _ => okur27_Find_3 N u h) (fun x => rfl) (fun n x => by kernel_rfl) n
noncomputable def ur27_Find_2 (N : Nat) : List (Pc D) := Pr27_Find_2.pc (X35 N) (Fr27_Find_2 N N) :: ur27_Find_3 N
theorem okur27_Find_2 (N : Nat) : ∀ u ∈ ur27_Find_2 N, PcOk (X35 N) (bodyOf Try.f20) u := pc_cons ((cr27_Find_2 N N).pc (by kernel_rfl)) (okur27_Find_3 N)
noncomputable def Pr27_Find_1 : PD D := { path := [1, 1, 1, 1, 1, 1, 1, 1, 0, 0], ins := [.v 0 (.sl 46), .o 9 (.map 75 81 3), .o 10 (.box 32), .v 11 (.int .i64), .o 13 (.sl 32)], fx := [(9, .c (.own 0)), (10, .box 1 0), (13, .c (.own 2))], ks := [1, 2, 0], exs := [⟨.exit 0, [.u 1 (.box 32), .o 13 (.sl 32)], [(13, .c (.own 3))]⟩, ⟨.ret, [.v 7 (.int .i64)], [(6, .c .nilS)]⟩], keep := [2, 10] }
noncomputable def Fr27_Find_1 (N n : Nat) : Pr27_Find_1.F := fun x => r27_Find_1 N x.1 x.2.1 n x.2.2.1 x.2.2.2.1 x.2.2.2.2.1
theorem cr27_Find_1 (N n : Nat) : CC (X35 N) (bodyOf Try.f20) Pr27_Find_1 (Fr27_Find_1 N n) := CC.loop (cok35 N) (us := ur27_Find_2 N) (c := sub (bodyOf Try.f20) [1, 1, 1, 1, 1, 1, 1, 1, 0, 0, 0]) (by kernel_rfl) (by kernel_rfl) (fun u h _ => okur27_Find_2 N u h) (fun x => rfl) (fun n x => by kernel_rfl) n
noncomputable def ur27_Find_1 (N : Nat) : List (Pc D) := Pr27_Find_1.pc (X35 N) (Fr27_Find_1 N N) :: ur27_Find_2 N
theorem okur27_Find_1 (N : Nat) : ∀ u ∈ ur27_Find_1 N, PcOk (X35 N) (bodyOf Try.f20) u := pc_cons ((cr27_Find_1 N N).pc (by kernel_rfl)) (okur27_Find_2 N)
noncomputable def dr27_Find : FD D := { f := 20, np := 3, ins := [.v 0 (.sl 46), .v 1 (.int .i64), .v 2 (.int .i64)], fx := [], rcv := none, rk := 0, outs := [.o 6 (.sl 32), .v 7 (.int .i64)], ofx := [(6, .c (.own 0))], rvs := [.tmp 6, .tmp 7], flat := false }
noncomputable def Fr27_Find (N : Nat) : dr27_Find.F := fun r x => r27_Find N x.1 x.2.1 x.2.2.1
theorem or27_Find (N : Nat) : FOk Try.prog (X35 N) dr27_Find (Fr27_Find N) := ⟨⟨Try.f20, _, Try.func20, rfl, by kernel_rfl, by kernel_rfl, rfl, FC.of (cok35 N) (us := ur27_Find_1 N) (fun u h _ => okur27_Find_1 N u h) (fun r x => by kernel_rfl)⟩, by kernel_rfl, by kernel_rfl, by kernel_rfl, by kernel_rfl⟩
noncomputable def fs36 (N : Nat) : List (FE D) := ⟨dr27_Find, Fr27_Find N⟩ :: fs35 N
theorem all36 (N : Nat) : ∀ y ∈ fs36 N, CallOk X0 y.d y.F := all_cons (x := ⟨dr27_Find, Fr27_Find N⟩) (or27_Find N) (all35 N)
noncomputable def X36 (N : Nat) : Ev Try.prog D := X0.with (fs36 N)
theorem cok36 (N : Nat) : COk (X36 N) := COk.of (all36 N)
/-! ### slices.Index[[]int,int] -/
noncomputable def u0_slices_Index_int_int (N : Nat) : List (Pc D) := []
theorem oku0_slices_Index_int_int (N : Nat) : ∀ u ∈ u0_slices_Index_int_int N, PcOk (X36 N) (bodyOf Try.f64) u := pc_nil
noncomputable def Pslices_Index_int_int_0 : PD D := { path := [1, 0, 1, 0], ins := [.v 0 (.sl 3), .v 1 (.int .i64), .v 7 (.int .i64), .v 8 (.int .i64)], fx := [], ks := [], exs := [⟨.exit 0, [], []⟩, ⟨.ret, [.v 4 (.int .i64)], []⟩], keep := [] }
noncomputable def Fslices_Index_int_int_0 (N n : Nat) : Pslices_Index_int_int_0.F := fun x => slices_Index_int_int_0 N x.1 x.2.1 x.2.2.1 n x.2.2.2.1
theorem cslices_Index_int_int_0 (N n : Nat) : CC (X36 N) (bodyOf Try.f64) Pslices_Index_int_int_0 (Fslices_Index_int_int_0 N n) := CC.loop (cok36 N) (us := u0_slices_Index_int_int N) (c := sub (bodyOf Try.f64) [1, 0, 1, 0, 0]) (by kernel_rfl) (by kernel_rfl) (fun u h _ => oku0_slices_Index_int_int N u h) (fun x => rfl) (fun n x => by kernel_rfl) n
noncomputable def uslices_Index_int_int_0 (N : Nat) : List (Pc D) := Pslices_Index_int_int_0.pc (X36 N) (Fslices_Index_int_int_0 N N) :: u0_slices_Index_int_int N
theorem okuslices_Index_int_int_0 (N : Nat) : ∀ u ∈ uslices_Index_int_int_0 N, PcOk (X36 N) (bodyOf Try.f64) u := pc_cons ((cslices_Index_int_int_0 N N).pc (by kernel_rfl)) (oku0_slices_Index_int_int N)
noncomputable def dslices_Index_int_int : FD D := { f := 64, np := 2, ins := [.v 0 (.sl 3), .v 1 (.int .i64)], fx := [], rcv := none, rk := 0, outs := [.v 4 (.int .i64)], ofx := [], rvs := [.tmp 4], flat := true }
noncomputable def Fslices_Index_int_int (N : Nat) : dslices_Index_int_int.F := fun r x => slices_Index_int_int N x.1 x.2.1
theorem oslices_Index_int_int (N : Nat) : FOk Try.prog (X36 N) dslices_Index_int_int (Fslices_Index_int_int N) := ⟨⟨Try.f64, _, Try.func64, rfl, by kernel_rfl, by kernel_rfl, rfl, FC.of (cok36 N) (us := uslices_Index_int_int_0 N) (fun u h _ => okuslices_Index_int_int_0 N u h) (fun r x => by kernel_rfl)⟩, by kernel_rfl, by kernel_rfl, by kernel_rfl, by kernel_rfl⟩
noncomputable def fs37 (N : Nat) : List (FE D) := ⟨dslices_Index_int_int, Fslices_Index_int_int N⟩ :: fs36 N
theorem all37 (N : Nat) : ∀ y ∈ fs37 N, CallOk X0 y.d y.F := all_cons (x := ⟨dslices_Index_int_int, Fslices_Index_int_int N⟩) (oslices_Index_int_int N) (all36 N)
noncomputable def X37 (N : Nat) : Ev Try.prog D := X0.with (fs37 N)
theorem cok37 (N : Nat) : COk (X37 N) := COk.of (all37 N)
/-! ### slices.Contains[[]int,int] -/
noncomputable def u0_slices_Contains_int_int (N : Nat) : List (Pc D) := []
theorem oku0_slices_Contains_int_int (N : Nat) : ∀ u ∈ u0_slices_Contains_int_int N, PcOk (X37 N) (bodyOf Try.f58) u := pc_nil
noncomputable def dslices_Contains_int_int : FD D := { f := 58, np := 2, ins := [.v 0 (.sl 3), .v 1 (.int .i64)], fx := [], rcv := none, rk := 0, outs := [.v 4 .bool], ofx := [], rvs := [.tmp 4], flat := true }
noncomputable def Fslices_Contains_int_int (N : Nat) : dslices_Contains_int_int.F := fun r x => slices_Contains_int_int N x.1 x.2.1
theorem oslices_Contains_int_int (N : Nat) : FOk Try.prog (X37 N) dslices_Contains_int_int (Fslices_Contains_int_int N) := ⟨⟨Try.f58, _, Try.func58, rfl, by kernel_rfl, by kernel_rfl, rfl, FC.of (cok37 N) (us := u0_slices_Contains_int_int N) (fun u h _ => oku0_slices_Contains_int_int N u h) (fun r x => by kernel_rfl)⟩, by kernel_rfl, by kernel_rfl, by kernel_rfl, by kernel_rfl⟩
noncomputable def fs38 (N : Nat) : List (FE D) := ⟨dslices_Contains_int_int, Fslices_Contains_int_int N⟩ :: fs37 N
theorem all38 (N : Nat) : ∀ y ∈ fs38 N, CallOk X0 y.d y.F := all_cons (x := ⟨dslices_Contains_int_int, Fslices_Contains_int_int N⟩) (oslices_Contains_int_int N) (all37 N)
noncomputable def X38 (N : Nat) : Ev Try.prog D := X0.with (fs38 N)
theorem cok38 (N : Nat) : COk (X38 N) := COk.of (all38 N)
/-! ### humpyard/route.way -/
noncomputable def u0_route_way (N : Nat) : List (Pc D) := []
theorem oku0_route_way (N : Nat) : ∀ u ∈ u0_route_way N, PcOk (X38 N) (bodyOf Try.f38) u := pc_nil
noncomputable def Proute_way_0 : PD D := { path := [1, 1, 0, 0], ins := [.v 0 (.sl 46), .v 1 (.sl 32), .v 5 (.int .i64)], fx := [], ks := [], exs := [⟨.normal, [.v 47 .bool], []⟩], keep := [0, 1, 5] }
noncomputable def Froute_way_0 (N : Nat) : Proute_way_0.F := fun x => route_way_0 N x.1 x.2.1 x.2.2.1
theorem croute_way_0 (N : Nat) : CC (X38 N) (bodyOf Try.f38) Proute_way_0 (Froute_way_0 N) := CC.of (cok38 N) (us := u0_route_way N) (fun u h _ => oku0_route_way N u h) (fun x => by kernel_rfl)
noncomputable def uroute_way_0 (N : Nat) : List (Pc D) := Proute_way_0.pc (X38 N) (Froute_way_0 N) :: u0_route_way N
theorem okuroute_way_0 (N : Nat) : ∀ u ∈ uroute_way_0 N, PcOk (X38 N) (bodyOf Try.f38) u := pc_cons ((croute_way_0 N).pc (by kernel_rfl)) (oku0_route_way N)
noncomputable def Proute_way_1 : PD D := { path := [1, 1, 1, 0, 0], ins := [.v 0 (.sl 46), .v 1 (.sl 32), .v 5 (.int .i64)], fx := [], ks := [], exs := [⟨.normal, [.v 75 .bool], []⟩], keep := [0, 1, 5] }
noncomputable def Froute_way_1 (N : Nat) : Proute_way_1.F := fun x => route_way_1 N x.1 x.2.1 x.2.2.1
theorem croute_way_1 (N : Nat) : CC (X38 N) (bodyOf Try.f38) Proute_way_1 (Froute_way_1 N) := CC.of (cok38 N) (us := uroute_way_0 N) (fun u h _ => okuroute_way_0 N u h) (fun x => by kernel_rfl)
noncomputable def uroute_way_1 (N : Nat) : List (Pc D) := Proute_way_1.pc (X38 N) (Froute_way_1 N) :: uroute_way_0 N
theorem okuroute_way_1 (N : Nat) : ∀ u ∈ uroute_way_1 N, PcOk (X38 N) (bodyOf Try.f38) u := pc_cons ((croute_way_1 N).pc (by kernel_rfl)) (okuroute_way_0 N)
noncomputable def Proute_way_3 : PD D := { path := [1, 1, 1, 1, 0, 1, 0, 0, 1, 1, 0, 0, 1, 1, 0, 0], ins := [.v 0 (.sl 46), .o 7 (.box 32), .o 8 (.box 32)], fx := [(7, .box 0 0), (8, .box 1 0)], ks := [1, 1], exs := [⟨.normal, [.v 108 .bool], []⟩], keep := [0, 1, 5, 6, 7, 77, 78, 79] }
noncomputable def Froute_way_3 (N : Nat) : Proute_way_3.F := fun x => route_way_3 N x.1 x.2.1 x.2.2.1
theorem croute_way_3 (N : Nat) : CC (X38 N) (bodyOf Try.f38) Proute_way_3 (Froute_way_3 N) := CC.of (cok38 N) (us := uroute_way_1 N) (fun u h _ => okuroute_way_1 N u h) (fun x => by kernel_rfl)
noncomputable def uroute_way_3 (N : Nat) : List (Pc D) := Proute_way_3.pc (X38 N) (Froute_way_3 N) :: uroute_way_1 N
theorem okuroute_way_3 (N : Nat) : ∀ u ∈ uroute_way_3 N, PcOk (X38 N) (bodyOf Try.f38) u := pc_cons ((croute_way_3 N).pc (by kernel_rfl)) (okuroute_way_1 N)
noncomputable def Proute_way_4 : PD D := { path := [1, 1, 1, 1, 0, 1, 0, 0, 1, 1, 0, 0, 1, 1, 1, 0], ins := [.v 0 (.sl 46), .v 5 (.int .i64), .v 6 (.int .i64), .o 7 (.box 32)], fx := [(7, .box 0 0)], ks := [1], exs := [⟨.normal, [.v 124 .bool], []⟩], keep := [0, 1, 5, 77, 78, 79] }
noncomputable def Froute_way_4 (N : Nat) : Proute_way_4.F := fun x => route_way_4 N x.1 x.2.1 x.2.2.1 x.2.2.2.1
theorem croute_way_4 (N : Nat) : CC (X38 N) (bodyOf Try.f38) Proute_way_4 (Froute_way_4 N) := CC.of (cok38 N) (us := uroute_way_3 N) (fun u h _ => okuroute_way_3 N u h) (fun x => by kernel_rfl)
noncomputable def uroute_way_4 (N : Nat) : List (Pc D) := Proute_way_4.pc (X38 N) (Froute_way_4 N) :: uroute_way_3 N
theorem okuroute_way_4 (N : Nat) : ∀ u ∈ uroute_way_4 N, PcOk (X38 N) (bodyOf Try.f38) u := pc_cons ((croute_way_4 N).pc (by kernel_rfl)) (okuroute_way_3 N)
noncomputable def Proute_way_2 : PD D := { path := [1, 1, 1, 1, 0, 1, 0], ins := [.v 0 (.sl 46), .v 1 (.sl 32), .v 5 (.int .i64), .v 77 (.sl 32), .v 78 (.int .i64), .v 79 (.int .i64)], fx := [], ks := [], exs := [⟨.exit 0, [], []⟩, ⟨.ret, [.v 4 .bool], []⟩], keep := [] }
noncomputable def Froute_way_2 (N n : Nat) : Proute_way_2.F := fun x => route_way_2 N x.1 x.2.1 x.2.2.1 x.2.2.2.1 x.2.2.2.2.1 n x.2.2.2.2.2.1
theorem croute_way_2 (N n : Nat) : CC (X38 N) (bodyOf Try.f38) Proute_way_2 (Froute_way_2 N n) := CC.loop (cok38 N) (us := uroute_way_4 N) (c := sub (bodyOf Try.f38) [1, 1, 1, 1, 0, 1, 0, 0]) (by kernel_rfl) (by kernel_rfl) (fun u h _ => okuroute_way_4 N u h) (fun x => rfl) (fun n x => by kernel_rfl) n
noncomputable def uroute_way_2 (N : Nat) : List (Pc D) := Proute_way_2.pc (X38 N) (Froute_way_2 N N) :: uroute_way_4 N
theorem okuroute_way_2 (N : Nat) : ∀ u ∈ uroute_way_2 N, PcOk (X38 N) (bodyOf Try.f38) u := pc_cons ((croute_way_2 N N).pc (by kernel_rfl)) (okuroute_way_4 N)
noncomputable def droute_way : FD D := { f := 38, np := 2, ins := [.v 0 (.sl 46), .v 1 (.sl 32)], fx := [], rcv := none, rk := 0, outs := [.v 4 .bool], ofx := [], rvs := [.tmp 4], flat := true }
noncomputable def Froute_way (N : Nat) : droute_way.F := fun r x => route_way N x.1 x.2.1
theorem oroute_way (N : Nat) : FOk Try.prog (X38 N) droute_way (Froute_way N) := ⟨⟨Try.f38, _, Try.func38, rfl, by kernel_rfl, by kernel_rfl, rfl, FC.of (cok38 N) (us := uroute_way_2 N) (fun u h _ => okuroute_way_2 N u h) (fun r x => by kernel_rfl)⟩, by kernel_rfl, by kernel_rfl, by kernel_rfl, by kernel_rfl⟩
noncomputable def fs39 (N : Nat) : List (FE D) := ⟨droute_way, Froute_way N⟩ :: fs38 N
theorem all39 (N : Nat) : ∀ y ∈ fs39 N, CallOk X0 y.d y.F := all_cons (x := ⟨droute_way, Froute_way N⟩) (oroute_way N) (all38 N)
noncomputable def X39 (N : Nat) : Ev Try.prog D := X0.with (fs39 N)
theorem cok39 (N : Nat) : COk (X39 N) := COk.of (all39 N)
/-! ### humpyard/route.Valid -/
noncomputable def u0_route_Valid (N : Nat) : List (Pc D) := []
theorem oku0_route_Valid (N : Nat) : ∀ u ∈ u0_route_Valid N, PcOk (X39 N) (bodyOf Try.f18) u := pc_nil
noncomputable def Proute_Valid_0 : PD D := { path := [1, 0], ins := [.v 0 (.sl 46), .v 1 (.sl 32)], fx := [], ks := [], exs := [⟨.normal, [.v 4 .bool], []⟩], keep := [] }
noncomputable def Froute_Valid_0 (N : Nat) : Proute_Valid_0.F := fun x => route_Valid_0 N x.1 x.2.1
theorem croute_Valid_0 (N : Nat) : CC (X39 N) (bodyOf Try.f18) Proute_Valid_0 (Froute_Valid_0 N) := CC.of (cok39 N) (us := u0_route_Valid N) (fun u h _ => oku0_route_Valid N u h) (fun x => by kernel_rfl)
noncomputable def uroute_Valid_0 (N : Nat) : List (Pc D) := Proute_Valid_0.pc (X39 N) (Froute_Valid_0 N) :: u0_route_Valid N
theorem okuroute_Valid_0 (N : Nat) : ∀ u ∈ uroute_Valid_0 N, PcOk (X39 N) (bodyOf Try.f18) u := pc_cons ((croute_Valid_0 N).pc (by kernel_rfl)) (oku0_route_Valid N)
noncomputable def droute_Valid : FD D := { f := 18, np := 2, ins := [.v 0 (.sl 46), .v 1 (.sl 32)], fx := [], rcv := none, rk := 0, outs := [.v 4 .bool], ofx := [], rvs := [.tmp 4], flat := true }
noncomputable def Froute_Valid (N : Nat) : droute_Valid.F := fun r x => route_Valid N x.1 x.2.1
theorem oroute_Valid (N : Nat) : FOk Try.prog (X39 N) droute_Valid (Froute_Valid N) := ⟨⟨Try.f18, _, Try.func18, rfl, by kernel_rfl, by kernel_rfl, rfl, FC.of (cok39 N) (us := uroute_Valid_0 N) (fun u h _ => okuroute_Valid_0 N u h) (fun r x => by kernel_rfl)⟩, by kernel_rfl, by kernel_rfl, by kernel_rfl, by kernel_rfl⟩
noncomputable def fs40 (N : Nat) : List (FE D) := ⟨droute_Valid, Froute_Valid N⟩ :: fs39 N
theorem all40 (N : Nat) : ∀ y ∈ fs40 N, CallOk X0 y.d y.F := all_cons (x := ⟨droute_Valid, Froute_Valid N⟩) (oroute_Valid N) (all39 N)
noncomputable def X40 (N : Nat) : Ev Try.prog D := X0.with (fs40 N)
theorem cok40 (N : Nat) : COk (X40 N) := COk.of (all40 N)
/-! ### humpyard/route.Settings$1 -/
noncomputable def u0_route_Settings_1_f47 (N : Nat) : List (Pc D) := []
theorem oku0_route_Settings_1_f47 (N : Nat) : ∀ u ∈ u0_route_Settings_1_f47 N, PcOk (X40 N) (bodyOf Try.f47) u := pc_nil
noncomputable def droute_Settings_1_f47 : FD D := { f := 47, np := 2, ins := [.v 0 (.agg 52), .v 1 (.agg 52)], fx := [], rcv := none, rk := 0, outs := [.v 4 (.int .i64)], ofx := [], rvs := [.tmp 4], flat := true }
noncomputable def Froute_Settings_1_f47 (N : Nat) : droute_Settings_1_f47.F := fun r x => route_Settings_1_f47 N x.1 x.2.1
theorem oroute_Settings_1_f47 (N : Nat) : FOk Try.prog (X40 N) droute_Settings_1_f47 (Froute_Settings_1_f47 N) := ⟨⟨Try.f47, _, Try.func47, rfl, by kernel_rfl, by kernel_rfl, rfl, FC.of (cok40 N) (us := u0_route_Settings_1_f47 N) (fun u h _ => oku0_route_Settings_1_f47 N u h) (fun r x => by kernel_rfl)⟩, by kernel_rfl, by kernel_rfl, by kernel_rfl, by kernel_rfl⟩
noncomputable def fs41 (N : Nat) : List (FE D) := ⟨droute_Settings_1_f47, Froute_Settings_1_f47 N⟩ :: fs40 N
theorem all41 (N : Nat) : ∀ y ∈ fs41 N, CallOk X0 y.d y.F := all_cons (x := ⟨droute_Settings_1_f47, Froute_Settings_1_f47 N⟩) (oroute_Settings_1_f47 N) (all40 N)
noncomputable def X41 (N : Nat) : Ev Try.prog D := X0.with (fs41 N)
theorem cok41 (N : Nat) : COk (X41 N) := COk.of (all41 N)
/-! ### humpyard/route.Settings -/
noncomputable def u0_route_Settings (N : Nat) : List (Pc D) := []
theorem oku0_route_Settings (N : Nat) : ∀ u ∈ u0_route_Settings N, PcOk (X41 N) (bodyOf Try.f21) u := pc_nil
noncomputable def Proute_Settings_2 : PD D := { path := [1, 1, 1, 0, 1, 0, 0, 1, 1, 0, 0, 1, 1, 0, 1, 1, 0], ins := [.o 6 (.sl 52), .o 8 (.box 32), .o 9 (.box 46)], fx := [(6, .c (.own 0)), (8, .box 1 0), (9, .box 2 0)], ks := [1, 1, 1], exs := [⟨.normal, [.v 35 .bool], []⟩], keep := [0, 6, 8, 9, 14, 15, 16] }
noncomputable def Froute_Settings_2 (N : Nat) : Proute_Settings_2.F := fun x => route_Settings_2 N x.2.1 x.2.2.1
theorem croute_Settings_2 (N : Nat) : CC (X41 N) (bodyOf Try.f21) Proute_Settings_2 (Froute_Settings_2 N) := CC.of (cok41 N) (us := u0_route_Settings N) (fun u h _ => oku0_route_Settings N u h) (fun x => by kernel_rfl)
noncomputable def uroute_Settings_2 (N : Nat) : List (Pc D) := Proute_Settings_2.pc (X41 N) (Froute_Settings_2 N) :: u0_route_Settings N
theorem okuroute_Settings_2 (N : Nat) : ∀ u ∈ uroute_Settings_2 N, PcOk (X41 N) (bodyOf Try.f21) u := pc_cons ((croute_Settings_2 N).pc (by kernel_rfl)) (oku0_route_Settings N)
noncomputable def Proute_Settings_1 : PD D := { path := [1, 1, 1, 0, 1, 0, 0, 1, 1, 0], ins := [.v 0 (.sl 46), .o 6 (.sl 52), .v 14 (.sl 32), .v 16 (.int .i64)], fx := [(6, .c (.own 0))], ks := [0], exs := [⟨.normal, [.o 6 (.sl 52)], [(6, .c (.own 1))]⟩], keep := [0, 14, 15, 16] }
noncomputable def Froute_Settings_1 (N : Nat) : Proute_Settings_1.F := fun x => route_Settings_1 N x.1 x.2.1 x.2.2.1 x.2.2.2.1
theorem croute_Settings_1 (N : Nat) : CC (X41 N) (bodyOf Try.f21) Proute_Settings_1 (Froute_Settings_1 N) := CC.of (cok41 N) (us := uroute_Settings_2 N) (fun u h _ => okuroute_Settings_2 N u h) (fun x => by kernel_rfl)
noncomputable def uroute_Settings_1 (N : Nat) : List (Pc D) := Proute_Settings_1.pc (X41 N) (Froute_Settings_1 N) :: uroute_Settings_2 N
theorem okuroute_Settings_1 (N : Nat) : ∀ u ∈ uroute_Settings_1 N, PcOk (X41 N) (bodyOf Try.f21) u := pc_cons ((croute_Settings_1 N).pc (by kernel_rfl)) (okuroute_Settings_2 N)
noncomputable def Proute_Settings_0 : PD D := { path := [1, 1, 1, 0, 1, 0], ins := [.v 0 (.sl 46), .o 6 (.sl 52), .v 14 (.sl 32), .v 15 (.int .i64), .v 16 (.int .i64)], fx := [(6, .c (.own 0))], ks := [0], exs := [⟨.exit 0, [.o 6 (.sl 52)], [(6, .c (.own 1))]⟩], keep := [] }
noncomputable def Froute_Settings_0 (N n : Nat) : Proute_Settings_0.F := fun x => route_Settings_0 N x.1 x.2.2.1 x.2.2.2.1 n x.2.1 x.2.2.2.2.1
theorem croute_Settings_0 (N n : Nat) : CC (X41 N) (bodyOf Try.f21) Proute_Settings_0 (Froute_Settings_0 N n) := CC.loop (cok41 N) (us := uroute_Settings_1 N) (c := sub (bodyOf Try.f21) [1, 1, 1, 0, 1, 0, 0]) (by kernel_rfl) (by kernel_rfl) (fun u h _ => okuroute_Settings_1 N u h) (fun x => rfl) (fun n x => by kernel_rfl) n
noncomputable def uroute_Settings_0 (N : Nat) : List (Pc D) := Proute_Settings_0.pc (X41 N) (Froute_Settings_0 N N) :: uroute_Settings_1 N
theorem okuroute_Settings_0 (N : Nat) : ∀ u ∈ uroute_Settings_0 N, PcOk (X41 N) (bodyOf Try.f21) u := pc_cons ((croute_Settings_0 N N).pc (by kernel_rfl)) (okuroute_Settings_1 N)
noncomputable def droute_Settings : FD D := { f := 21, np := 2, ins := [.v 0 (.sl 46), .v 1 (.sl 32)], fx := [], rcv := none, rk := 0, outs := [.o 4 (.sl 52), .v 5 (.int .i64)], ofx := [(4, .c (.own 0))], rvs := [.tmp 4, .tmp 5], flat := false }
noncomputable def Froute_Settings (N : Nat) : droute_Settings.F := fun r x => route_Settings N x.1 x.2.1
theorem oroute_Settings (N : Nat) : FOk Try.prog (X41 N) droute_Settings (Froute_Settings N) := ⟨⟨Try.f21, _, Try.func21, rfl, by kernel_rfl, by kernel_rfl, rfl, FC.of (cok41 N) (us := uroute_Settings_0 N) (fun u h _ => okuroute_Settings_0 N u h) (fun r x => by kernel_rfl)⟩, by kernel_rfl, by kernel_rfl, by kernel_rfl, by kernel_rfl⟩
noncomputable def fs42 (N : Nat) : List (FE D) := ⟨droute_Settings, Froute_Settings N⟩ :: fs41 N
theorem all42 (N : Nat) : ∀ y ∈ fs42 N, CallOk X0 y.d y.F := all_cons (x := ⟨droute_Settings, Froute_Settings N⟩) (oroute_Settings N) (all41 N)
noncomputable def X42 (N : Nat) : Ev Try.prog D := X0.with (fs42 N)
theorem cok42 (N : Nat) : COk (X42 N) := COk.of (all42 N)
/-! ### humpyard/humpyardref27.Has -/
noncomputable def u0_r27_Has (N : Nat) : List (Pc D) := []
theorem oku0_r27_Has (N : Nat) : ∀ u ∈ u0_r27_Has N, PcOk (X42 N) (bodyOf Try.f42) u := pc_nil
noncomputable def Pr27_Has_0 : PD D := { path := [1, 0, 1, 0], ins := [.v 0 (.sl 3), .v 1 (.int .i64), .v 5 (.int .i64)], fx := [], ks := [], exs := [⟨.exit 0, [], []⟩, ⟨.ret, [.v 4 .bool], []⟩], keep := [] }
noncomputable def Fr27_Has_0 (N n : Nat) : Pr27_Has_0.F := fun x => r27_Has_0 N x.1 x.2.1 n x.2.2.1
theorem cr27_Has_0 (N n : Nat) : CC (X42 N) (bodyOf Try.f42) Pr27_Has_0 (Fr27_Has_0 N n) := CC.loop (cok42 N) (us := u0_r27_Has N) (c := sub (bodyOf Try.f42) [1, 0, 1, 0, 0]) (by kernel_rfl) (by kernel_rfl) (fun u h _ => oku0_r27_Has N u h) (fun x => rfl) (fun n x => by kernel_rfl) n
noncomputable def ur27_Has_0 (N : Nat) : List (Pc D) := Pr27_Has_0.pc (X42 N) (Fr27_Has_0 N N) :: u0_r27_Has N
theorem okur27_Has_0 (N : Nat) : ∀ u ∈ ur27_Has_0 N, PcOk (X42 N) (bodyOf Try.f42) u := pc_cons ((cr27_Has_0 N N).pc (by kernel_rfl)) (oku0_r27_Has N)
noncomputable def dr27_Has : FD D := { f := 42, np := 2, ins := [.v 0 (.sl 3), .v 1 (.int .i64)], fx := [], rcv := none, rk := 0, outs := [.v 4 .bool], ofx := [], rvs := [.tmp 4], flat := true }
noncomputable def Fr27_Has (N : Nat) : dr27_Has.F := fun r x => r27_Has N x.1 x.2.1
theorem or27_Has (N : Nat) : FOk Try.prog (X42 N) dr27_Has (Fr27_Has N) := ⟨⟨Try.f42, _, Try.func42, rfl, by kernel_rfl, by kernel_rfl, rfl, FC.of (cok42 N) (us := ur27_Has_0 N) (fun u h _ => okur27_Has_0 N u h) (fun r x => by kernel_rfl)⟩, by kernel_rfl, by kernel_rfl, by kernel_rfl, by kernel_rfl⟩
noncomputable def fs43 (N : Nat) : List (FE D) := ⟨dr27_Has, Fr27_Has N⟩ :: fs42 N
theorem all43 (N : Nat) : ∀ y ∈ fs43 N, CallOk X0 y.d y.F := all_cons (x := ⟨dr27_Has, Fr27_Has N⟩) (or27_Has N) (all42 N)
noncomputable def X43 (N : Nat) : Ev Try.prog D := X0.with (fs43 N)
theorem cok43 (N : Nat) : COk (X43 N) := COk.of (all43 N)
/-! ### humpyard/humpyardref27.Valid -/
noncomputable def u0_r27_Valid (N : Nat) : List (Pc D) := []
theorem oku0_r27_Valid (N : Nat) : ∀ u ∈ u0_r27_Valid N, PcOk (X43 N) (bodyOf Try.f19) u := pc_nil
noncomputable def Pr27_Valid_0 : PD D := { path := [1, 1, 0, 0], ins := [.v 0 (.sl 46), .v 1 (.sl 32), .v 5 (.int .i64)], fx := [], ks := [], exs := [⟨.normal, [.v 50 .bool], []⟩], keep := [0, 1, 5] }
noncomputable def Fr27_Valid_0 (N : Nat) : Pr27_Valid_0.F := fun x => r27_Valid_0 N x.1 x.2.1 x.2.2.1
theorem cr27_Valid_0 (N : Nat) : CC (X43 N) (bodyOf Try.f19) Pr27_Valid_0 (Fr27_Valid_0 N) := CC.of (cok43 N) (us := u0_r27_Valid N) (fun u h _ => oku0_r27_Valid N u h) (fun x => by kernel_rfl)
noncomputable def ur27_Valid_0 (N : Nat) : List (Pc D) := Pr27_Valid_0.pc (X43 N) (Fr27_Valid_0 N) :: u0_r27_Valid N
theorem okur27_Valid_0 (N : Nat) : ∀ u ∈ ur27_Valid_0 N, PcOk (X43 N) (bodyOf Try.f19) u := pc_cons ((cr27_Valid_0 N).pc (by kernel_rfl)) (oku0_r27_Valid N)
noncomputable def Pr27_Valid_2 : PD D := { path := [1, 1, 1, 0, 1, 0, 0, 1, 0, 0, 0, 0], ins := [.v 0 (.sl 46), .v 1 (.sl 32), .v 6 (.int .i64)], fx := [], ks := [], exs := [⟨.normal, [.v 82 .bool], []⟩], keep := [0, 1, 5, 6] }
noncomputable def Fr27_Valid_2 (N : Nat) : Pr27_Valid_2.F := fun x => r27_Valid_2 N x.1 x.2.1 x.2.2.1
theorem cr27_Valid_2 (N : Nat) : CC (X43 N) (bodyOf Try.f19) Pr27_Valid_2 (Fr27_Valid_2 N) := CC.of (cok43 N) (us := ur27_Valid_0 N) (fun u h _ => okur27_Valid_0 N u h) (fun x => by kernel_rfl)
noncomputable def ur27_Valid_2 (N : Nat) : List (Pc D) := Pr27_Valid_2.pc (X43 N) (Fr27_Valid_2 N) :: ur27_Valid_0 N
theorem okur27_Valid_2 (N : Nat) : ∀ u ∈ ur27_Valid_2 N, PcOk (X43 N) (bodyOf Try.f19) u := pc_cons ((cr27_Valid_2 N).pc (by kernel_rfl)) (okur27_Valid_0 N)
noncomputable def Pr27_Valid_3 : PD D := { path := [1, 1, 1, 0, 1, 0, 0, 1, 0, 0, 1, 0, 0], ins := [.v 0 (.sl 46), .v 1 (.sl 32), .v 5 (.int .i64), .v 6 (.int .i64)], fx := [], ks := [], exs := [⟨.normal, [.v 136 .bool], []⟩], keep := [0, 1, 5, 6] }
noncomputable def Fr27_Valid_3 (N : Nat) : Pr27_Valid_3.F := fun x => r27_Valid_3 N x.1 x.2.1 x.2.2.1 x.2.2.2.1
theorem cr27_Valid_3 (N : Nat) : CC (X43 N) (bodyOf Try.f19) Pr27_Valid_3 (Fr27_Valid_3 N) := CC.of (cok43 N) (us := ur27_Valid_2 N) (fun u h _ => okur27_Valid_2 N u h) (fun x => by kernel_rfl)
noncomputable def ur27_Valid_3 (N : Nat) : List (Pc D) := Pr27_Valid_3.pc (X43 N) (Fr27_Valid_3 N) :: ur27_Valid_2 N
theorem okur27_Valid_3 (N : Nat) : ∀ u ∈ ur27_Valid_3 N, PcOk (X43 N) (bodyOf Try.f19) u := pc_cons ((cr27_Valid_3 N).pc (by kernel_rfl)) (okur27_Valid_2 N)
noncomputable def Pr27_Valid_4 : PD D := { path := [1, 1, 1, 0, 1, 0, 0, 1, 0, 0, 1, 1, 0], ins := [.v 0 (.sl 46), .v 1 (.sl 32), .v 5 (.int .i64), .v 6 (.int .i64)], fx := [], ks := [], exs := [⟨.normal, [.v 164 .bool], []⟩], keep := [0, 1, 5, 6] }
noncomputable def Fr27_Valid_4 (N : Nat) : Pr27_Valid_4.F := fun x => r27_Valid_4 N x.1 x.2.1 x.2.2.1 x.2.2.2.1
theorem cr27_Valid_4 (N : Nat) : CC (X43 N) (bodyOf Try.f19) Pr27_Valid_4 (Fr27_Valid_4 N) := CC.of (cok43 N) (us := ur27_Valid_3 N) (fun u h _ => okur27_Valid_3 N u h) (fun x => by kernel_rfl)
noncomputable def ur27_Valid_4 (N : Nat) : List (Pc D) := Pr27_Valid_4.pc (X43 N) (Fr27_Valid_4 N) :: ur27_Valid_3 N
theorem okur27_Valid_4 (N : Nat) : ∀ u ∈ ur27_Valid_4 N, PcOk (X43 N) (bodyOf Try.f19) u := pc_cons ((cr27_Valid_4 N).pc (by kernel_rfl)) (okur27_Valid_3 N)
noncomputable def Pr27_Valid_1 : PD D := { path := [1, 1, 1, 0, 1, 0], ins := [.v 0 (.sl 46), .v 1 (.sl 32), .v 5 (.int .i64), .v 6 (.int .i64)], fx := [], ks := [], exs := [⟨.exit 0, [], []⟩, ⟨.ret, [.v 4 .bool], []⟩], keep := [] }
noncomputable def Fr27_Valid_1 (N n : Nat) : Pr27_Valid_1.F := fun x => r27_Valid_1 N x.1 x.2.1 x.2.2.1 n x.2.2.2.1
theorem cr27_Valid_1 (N n : Nat) : CC (X43 N) (bodyOf Try.f19) Pr27_Valid_1 (Fr27_Valid_1 N n) := CC.loop (cok43 N) (us := ur27_Valid_4 N) (c := sub (bodyOf Try.f19) [1, 1, 1, 0, 1, 0, 0]) (by kernel_rfl) (by kernel_rfl) (fun u h _ => okur27_Valid_4 N u h) (fun x => rfl) (fun n x => by kernel_rfl) n
noncomputable def ur27_Valid_1 (N : Nat) : List (Pc D) := Pr27_Valid_1.pc (X43 N) (Fr27_Valid_1 N N) :: ur27_Valid_4 N
theorem okur27_Valid_1 (N : Nat) : ∀ u ∈ ur27_Valid_1 N, PcOk (X43 N) (bodyOf Try.f19) u := pc_cons ((cr27_Valid_1 N N).pc (by kernel_rfl)) (okur27_Valid_4 N)
noncomputable def dr27_Valid : FD D := { f := 19, np := 2, ins := [.v 0 (.sl 46), .v 1 (.sl 32)], fx := [], rcv := none, rk := 0, outs := [.v 4 .bool], ofx := [], rvs := [.tmp 4], flat := true }
noncomputable def Fr27_Valid (N : Nat) : dr27_Valid.F := fun r x => r27_Valid N x.1 x.2.1
theorem or27_Valid (N : Nat) : FOk Try.prog (X43 N) dr27_Valid (Fr27_Valid N) := ⟨⟨Try.f19, _, Try.func19, rfl, by kernel_rfl, by kernel_rfl, rfl, FC.of (cok43 N) (us := ur27_Valid_1 N) (fun u h _ => okur27_Valid_1 N u h) (fun r x => by kernel_rfl)⟩, by kernel_rfl, by kernel_rfl, by kernel_rfl, by kernel_rfl⟩
noncomputable def fs44 (N : Nat) : List (FE D) := ⟨dr27_Valid, Fr27_Valid N⟩ :: fs43 N
theorem all44 (N : Nat) : ∀ y ∈ fs44 N, CallOk X0 y.d y.F := all_cons (x := ⟨dr27_Valid, Fr27_Valid N⟩) (or27_Valid N) (all43 N)
noncomputable def X44 (N : Nat) : Ev Try.prog D := X0.with (fs44 N)
theorem cok44 (N : Nat) : COk (X44 N) := COk.of (all44 N)
/-! ### humpyard/humpyardref27.Position -/
noncomputable def u0_r27_Position (N : Nat) : List (Pc D) := []
theorem oku0_r27_Position (N : Nat) : ∀ u ∈ u0_r27_Position N, PcOk (X44 N) (bodyOf Try.f51) u := pc_nil
noncomputable def Pr27_Position_0 : PD D := { path := [1, 1, 0, 0, 1, 1, 0], ins := [.o 3 (.box 32), .o 5 (.box 46)], fx := [(3, .box 0 0), (5, .box 1 0)], ks := [1, 1], exs := [⟨.normal, [.v 15 .bool], []⟩], keep := [5] }
noncomputable def Fr27_Position_0 (N : Nat) : Pr27_Position_0.F := fun x => r27_Position_0 N x.1 x.2.1
theorem cr27_Position_0 (N : Nat) : CC (X44 N) (bodyOf Try.f51) Pr27_Position_0 (Fr27_Position_0 N) := CC.of (cok44 N) (us := u0_r27_Position N) (fun u h _ => oku0_r27_Position N u h) (fun x => by kernel_rfl)
noncomputable def ur27_Position_0 (N : Nat) : List (Pc D) := Pr27_Position_0.pc (X44 N) (Fr27_Position_0 N) :: u0_r27_Position N
theorem okur27_Position_0 (N : Nat) : ∀ u ∈ ur27_Position_0 N, PcOk (X44 N) (bodyOf Try.f51) u := pc_cons ((cr27_Position_0 N).pc (by kernel_rfl)) (oku0_r27_Position N)
noncomputable def dr27_Position : FD D := { f := 51, np := 2, ins := [.v 0 (.sl 46), .v 1 (.agg 32)], fx := [], rcv := none, rk := 0, outs := [.v 4 (.int .i64)], ofx := [], rvs := [.tmp 4], flat := true }
noncomputable def Fr27_Position (N : Nat) : dr27_Position.F := fun r x => r27_Position N x.1 x.2.1
theorem or27_Position (N : Nat) : FOk Try.prog (X44 N) dr27_Position (Fr27_Position N) := ⟨⟨Try.f51, _, Try.func51, rfl, by kernel_rfl, by kernel_rfl, rfl, FC.of (cok44 N) (us := ur27_Position_0 N) (fun u h _ => okur27_Position_0 N u h) (fun r x => by kernel_rfl)⟩, by kernel_rfl, by kernel_rfl, by kernel_rfl, by kernel_rfl⟩
noncomputable def fs45 (N : Nat) : List (FE D) := ⟨dr27_Position, Fr27_Position N⟩ :: fs44 N
theorem all45 (N : Nat) : ∀ y ∈ fs45 N, CallOk X0 y.d y.F := all_cons (x := ⟨dr27_Position, Fr27_Position N⟩) (or27_Position N) (all44 N)
noncomputable def X45 (N : Nat) : Ev Try.prog D := X0.with (fs45 N)
theorem cok45 (N : Nat) : COk (X45 N) := COk.of (all45 N)
/-! ### humpyard/humpyardref27.Put -/
noncomputable def u0_r27_Put (N : Nat) : List (Pc D) := []
theorem oku0_r27_Put (N : Nat) : ∀ u ∈ u0_r27_Put N, PcOk (X45 N) (bodyOf Try.f52) u := pc_nil
noncomputable def Pr27_Put_1 : PD D := { path := [1, 1, 0, 0, 0, 0, 0], ins := [.v 0 (.sl 52), .o 3 (.box 52), .v 5 (.int .i64)], fx := [(3, .box 0 0)], ks := [1], exs := [⟨.normal, [.v 20 .bool], []⟩], keep := [0, 3, 5] }
noncomputable def Fr27_Put_1 (N : Nat) : Pr27_Put_1.F := fun x => r27_Put_1 N x.1 x.2.1 x.2.2.1
theorem cr27_Put_1 (N : Nat) : CC (X45 N) (bodyOf Try.f52) Pr27_Put_1 (Fr27_Put_1 N) := CC.of (cok45 N) (us := u0_r27_Put N) (fun u h _ => oku0_r27_Put N u h) (fun x => by kernel_rfl)
noncomputable def ur27_Put_1 (N : Nat) : List (Pc D) := Pr27_Put_1.pc (X45 N) (Fr27_Put_1 N) :: u0_r27_Put N
theorem okur27_Put_1 (N : Nat) : ∀ u ∈ ur27_Put_1 N, PcOk (X45 N) (bodyOf Try.f52) u := pc_cons ((cr27_Put_1 N).pc (by kernel_rfl)) (oku0_r27_Put N)
noncomputable def Pr27_Put_0 : PD D := { path := [1, 1, 0, 0], ins := [.v 0 (.sl 52), .o 3 (.box 52), .v 5 (.int .i64)], fx := [(3, .box 0 0)], ks := [1], exs := [⟨.exit 0, [.v 5 (.int .i64)], []⟩], keep := [0, 3] }
noncomputable def Fr27_Put_0 (N n : Nat) : Pr27_Put_0.F := fun x => r27_Put_0 N x.1 x.2.1 n x.2.2.1
theorem cr27_Put_0 (N n : Nat) : CC (X45 N) (bodyOf Try.f52) Pr27_Put_0 (Fr27_Put_0 N n) := CC.loop (cok45 N) (us := ur27_Put_1 N) (c := sub (bodyOf Try.f52) [1, 1, 0, 0, 0]) (by kernel_rfl) (by kernel_rfl) (fun u h _ => okur27_Put_1 N u h) (fun x => rfl) (fun n x => by kernel_rfl) n
noncomputable def ur27_Put_0 (N : Nat) : List (Pc D) := Pr27_Put_0.pc (X45 N) (Fr27_Put_0 N N) :: ur27_Put_1 N
theorem okur27_Put_0 (N : Nat) : ∀ u ∈ ur27_Put_0 N, PcOk (X45 N) (bodyOf Try.f52) u := pc_cons ((cr27_Put_0 N N).pc (by kernel_rfl)) (okur27_Put_1 N)
noncomputable def Pr27_Put_2 : PD D := { path := [1, 1, 1, 0, 0], ins := [.v 0 (.sl 52), .o 3 (.box 52), .v 5 (.int .i64)], fx := [(3, .box 0 0)], ks := [1], exs := [⟨.normal, [.v 36 .bool], []⟩], keep := [0, 3, 5] }
noncomputable def Fr27_Put_2 (N : Nat) : Pr27_Put_2.F := fun x => r27_Put_2 N x.1 x.2.1 x.2.2.1
theorem cr27_Put_2 (N : Nat) : CC (X45 N) (bodyOf Try.f52) Pr27_Put_2 (Fr27_Put_2 N) := CC.of (cok45 N) (us := ur27_Put_0 N) (fun u h _ => okur27_Put_0 N u h) (fun x => by kernel_rfl)
noncomputable def ur27_Put_2 (N : Nat) : List (Pc D) := Pr27_Put_2.pc (X45 N) (Fr27_Put_2 N) :: ur27_Put_0 N
theorem okur27_Put_2 (N : Nat) : ∀ u ∈ ur27_Put_2 N, PcOk (X45 N) (bodyOf Try.f52) u := pc_cons ((cr27_Put_2 N).pc (by kernel_rfl)) (okur27_Put_0 N)
noncomputable def dr27_Put : FD D := { f := 52, np := 2, ins := [.v 0 (.sl 52), .v 1 (.agg 52)], fx := [], rcv := none, rk := 0, outs := [.v 4 (.sl 52)], ofx := [], rvs := [.tmp 4], flat := false }
noncomputable def Fr27_Put (N : Nat) : dr27_Put.F := fun r x => r27_Put N x.1 x.2.1
theorem or27_Put (N : Nat) : FOk Try.prog (X45 N) dr27_Put (Fr27_Put N) := ⟨⟨Try.f52, _, Try.func52, rfl, by kernel_rfl, by kernel_rfl, rfl, FC.of (cok45 N) (us := ur27_Put_2 N) (fun u h _ => okur27_Put_2 N u h) (fun r x => by kernel_rfl)⟩, by kernel_rfl, by kernel_rfl, by kernel_rfl, by kernel_rfl⟩
noncomputable def fs46 (N : Nat) : List (FE D) := ⟨dr27_Put, Fr27_Put N⟩ :: fs45 N
theorem all46 (N : Nat) : ∀ y ∈ fs46 N, CallOk X0 y.d y.F := all_cons (x := ⟨dr27_Put, Fr27_Put N⟩) (or27_Put N) (all45 N)
noncomputable def X46 (N : Nat) : Ev Try.prog D := X0.with (fs46 N)
theorem cok46 (N : Nat) : COk (X46 N) := COk.of (all46 N)
/-! ### humpyard/humpyardref27.Settings -/
noncomputable def u0_r27_Settings (N : Nat) : List (Pc D) := []
theorem oku0_r27_Settings (N : Nat) : ∀ u ∈ u0_r27_Settings N, PcOk (X46 N) (bodyOf Try.f28) u := pc_nil
noncomputable def Pr27_Settings_1 : PD D := { path := [1, 1, 1, 0, 1, 0, 0, 1, 0], ins := [.v 0 (.sl 46), .v 1 (.sl 32), .v 6 (.sl 52), .v 7 (.int .i64)], fx := [], ks := [], exs := [⟨.normal, [.v 6 (.sl 52)], []⟩], keep := [0, 1, 7] }
noncomputable def Fr27_Settings_1 (N : Nat) : Pr27_Settings_1.F := fun x => r27_Settings_1 N x.1 x.2.1 x.2.2.1 x.2.2.2.1
theorem cr27_Settings_1 (N : Nat) : CC (X46 N) (bodyOf Try.f28) Pr27_Settings_1 (Fr27_Settings_1 N) := CC.of (cok46 N) (us := u0_r27_Settings N) (fun u h _ => oku0_r27_Settings N u h) (fun x => by kernel_rfl)
noncomputable def ur27_Settings_1 (N : Nat) : List (Pc D) := Pr27_Settings_1.pc (X46 N) (Fr27_Settings_1 N) :: u0_r27_Settings N
theorem okur27_Settings_1 (N : Nat) : ∀ u ∈ ur27_Settings_1 N, PcOk (X46 N) (bodyOf Try.f28) u := pc_cons ((cr27_Settings_1 N).pc (by kernel_rfl)) (oku0_r27_Settings N)
noncomputable def Pr27_Settings_0 : PD D := { path := [1, 1, 1, 0, 1, 0], ins := [.v 0 (.sl 46), .v 1 (.sl 32), .v 6 (.sl 52), .v 7 (.int .i64)], fx := [], ks := [], exs := [⟨.exit 0, [.v 6 (.sl 52)], []⟩], keep := [] }
noncomputable def Fr27_Settings_0 (N n : Nat) : Pr27_Settings_0.F := fun x => r27_Settings_0 N x.1 x.2.1 n x.2.2.1 x.2.2.2.1
theorem cr27_Settings_0 (N n : Nat) : CC (X46 N) (bodyOf Try.f28) Pr27_Settings_0 (Fr27_Settings_0 N n) := CC.loop (cok46 N) (us := ur27_Settings_1 N) (c := sub (bodyOf Try.f28) [1, 1, 1, 0, 1, 0, 0]) (by kernel_rfl) (by kernel_rfl) (fun u h _ => okur27_Settings_1 N u h) (fun x => rfl) (fun n x => by kernel_rfl) n
noncomputable def ur27_Settings_0 (N : Nat) : List (Pc D) := Pr27_Settings_0.pc (X46 N) (Fr27_Settings_0 N N) :: ur27_Settings_1 N
theorem okur27_Settings_0 (N : Nat) : ∀ u ∈ ur27_Settings_0 N, PcOk (X46 N) (bodyOf Try.f28) u := pc_cons ((cr27_Settings_0 N N).pc (by kernel_rfl)) (okur27_Settings_1 N)
noncomputable def dr27_Settings : FD D := { f := 28, np := 2, ins := [.v 0 (.sl 46), .v 1 (.sl 32)], fx := [], rcv := none, rk := 0, outs := [.v 4 (.sl 52), .v 5 (.int .i64)], ofx := [], rvs := [.tmp 4, .tmp 5], flat := false }
noncomputable def Fr27_Settings (N : Nat) : dr27_Settings.F := fun r x => r27_Settings N x.1 x.2.1
theorem or27_Settings (N : Nat) : FOk Try.prog (X46 N) dr27_Settings (Fr27_Settings N) := ⟨⟨Try.f28, _, Try.func28, rfl, by kernel_rfl, by kernel_rfl, rfl, FC.of (cok46 N) (us := ur27_Settings_0 N) (fun u h _ => okur27_Settings_0 N u h) (fun r x => by kernel_rfl)⟩, by kernel_rfl, by kernel_rfl, by kernel_rfl, by kernel_rfl⟩
noncomputable def fs47 (N : Nat) : List (FE D) := ⟨dr27_Settings, Fr27_Settings N⟩ :: fs46 N
theorem all47 (N : Nat) : ∀ y ∈ fs47 N, CallOk X0 y.d y.F := all_cons (x := ⟨dr27_Settings, Fr27_Settings N⟩) (or27_Settings N) (all46 N)
noncomputable def X47 (N : Nat) : Ev Try.prog D := X0.with (fs47 N)
theorem cok47 (N : Nat) : COk (X47 N) := COk.of (all47 N)
/-! ### humpyard/humpyardref29.SameVisits -/
noncomputable def u0_r29_SameVisits (N : Nat) : List (Pc D) := []
theorem oku0_r29_SameVisits (N : Nat) : ∀ u ∈ u0_r29_SameVisits N, PcOk (X47 N) (bodyOf Try.f53) u := pc_nil
noncomputable def Pr29_SameVisits_0 : PD D := { path := [1, 1, 0, 1, 0], ins := [.v 0 (.sl 32), .v 1 (.sl 32), .v 5 (.int .i64)], fx := [], ks := [], exs := [⟨.exit 0, [], []⟩, ⟨.ret, [.v 4 .bool], []⟩], keep := [] }
noncomputable def Fr29_SameVisits_0 (N n : Nat) : Pr29_SameVisits_0.F := fun x => r29_SameVisits_0 N x.1 x.2.1 n x.2.2.1
theorem cr29_SameVisits_0 (N n : Nat) : CC (X47 N) (bodyOf Try.f53) Pr29_SameVisits_0 (Fr29_SameVisits_0 N n) := CC.loop (cok47 N) (us := u0_r29_SameVisits N) (c := sub (bodyOf Try.f53) [1, 1, 0, 1, 0, 0]) (by kernel_rfl) (by kernel_rfl) (fun u h _ => oku0_r29_SameVisits N u h) (fun x => rfl) (fun n x => by kernel_rfl) n
noncomputable def ur29_SameVisits_0 (N : Nat) : List (Pc D) := Pr29_SameVisits_0.pc (X47 N) (Fr29_SameVisits_0 N N) :: u0_r29_SameVisits N
theorem okur29_SameVisits_0 (N : Nat) : ∀ u ∈ ur29_SameVisits_0 N, PcOk (X47 N) (bodyOf Try.f53) u := pc_cons ((cr29_SameVisits_0 N N).pc (by kernel_rfl)) (oku0_r29_SameVisits N)
noncomputable def dr29_SameVisits : FD D := { f := 53, np := 2, ins := [.v 0 (.sl 32), .v 1 (.sl 32)], fx := [], rcv := none, rk := 0, outs := [.v 4 .bool], ofx := [], rvs := [.tmp 4], flat := true }
noncomputable def Fr29_SameVisits (N : Nat) : dr29_SameVisits.F := fun r x => r29_SameVisits N x.1 x.2.1
theorem or29_SameVisits (N : Nat) : FOk Try.prog (X47 N) dr29_SameVisits (Fr29_SameVisits N) := ⟨⟨Try.f53, _, Try.func53, rfl, by kernel_rfl, by kernel_rfl, rfl, FC.of (cok47 N) (us := ur29_SameVisits_0 N) (fun u h _ => okur29_SameVisits_0 N u h) (fun r x => by kernel_rfl)⟩, by kernel_rfl, by kernel_rfl, by kernel_rfl, by kernel_rfl⟩
noncomputable def fs48 (N : Nat) : List (FE D) := ⟨dr29_SameVisits, Fr29_SameVisits N⟩ :: fs47 N
theorem all48 (N : Nat) : ∀ y ∈ fs48 N, CallOk X0 y.d y.F := all_cons (x := ⟨dr29_SameVisits, Fr29_SameVisits N⟩) (or29_SameVisits N) (all47 N)
noncomputable def X48 (N : Nat) : Ev Try.prog D := X0.with (fs48 N)
theorem cok48 (N : Nat) : COk (X48 N) := COk.of (all48 N)
/-! ### humpyard/yardgen.SameVisits -/
noncomputable def u0_yardgen_SameVisits (N : Nat) : List (Pc D) := []
theorem oku0_yardgen_SameVisits (N : Nat) : ∀ u ∈ u0_yardgen_SameVisits N, PcOk (X48 N) (bodyOf Try.f29) u := pc_nil
noncomputable def dyardgen_SameVisits : FD D := { f := 29, np := 2, ins := [.v 0 (.sl 32), .v 1 (.sl 32)], fx := [], rcv := none, rk := 0, outs := [.v 4 .bool], ofx := [], rvs := [.tmp 4], flat := true }
noncomputable def Fyardgen_SameVisits (N : Nat) : dyardgen_SameVisits.F := fun r x => yardgen_SameVisits N x.1 x.2.1
theorem oyardgen_SameVisits (N : Nat) : FOk Try.prog (X48 N) dyardgen_SameVisits (Fyardgen_SameVisits N) := ⟨⟨Try.f29, _, Try.func29, rfl, by kernel_rfl, by kernel_rfl, rfl, FC.of (cok48 N) (us := u0_yardgen_SameVisits N) (fun u h _ => oku0_yardgen_SameVisits N u h) (fun r x => by kernel_rfl)⟩, by kernel_rfl, by kernel_rfl, by kernel_rfl, by kernel_rfl⟩
noncomputable def fs49 (N : Nat) : List (FE D) := ⟨dyardgen_SameVisits, Fyardgen_SameVisits N⟩ :: fs48 N
theorem all49 (N : Nat) : ∀ y ∈ fs49 N, CallOk X0 y.d y.F := all_cons (x := ⟨dyardgen_SameVisits, Fyardgen_SameVisits N⟩) (oyardgen_SameVisits N) (all48 N)
noncomputable def X49 (N : Nat) : Ev Try.prog D := X0.with (fs49 N)
theorem cok49 (N : Nat) : COk (X49 N) := COk.of (all49 N)
/-! ### humpyard/humpyardref29.SameSettings -/
noncomputable def u0_r29_SameSettings (N : Nat) : List (Pc D) := []
theorem oku0_r29_SameSettings (N : Nat) : ∀ u ∈ u0_r29_SameSettings N, PcOk (X49 N) (bodyOf Try.f49) u := pc_nil
noncomputable def Pr29_SameSettings_0 : PD D := { path := [1, 1, 0, 1, 0], ins := [.v 0 (.sl 52), .v 1 (.sl 52), .v 5 (.int .i64)], fx := [], ks := [], exs := [⟨.exit 0, [], []⟩, ⟨.ret, [.v 4 .bool], []⟩], keep := [] }
noncomputable def Fr29_SameSettings_0 (N n : Nat) : Pr29_SameSettings_0.F := fun x => r29_SameSettings_0 N x.1 x.2.1 n x.2.2.1
theorem cr29_SameSettings_0 (N n : Nat) : CC (X49 N) (bodyOf Try.f49) Pr29_SameSettings_0 (Fr29_SameSettings_0 N n) := CC.loop (cok49 N) (us := u0_r29_SameSettings N) (c := sub (bodyOf Try.f49) [1, 1, 0, 1, 0, 0]) (by kernel_rfl) (by kernel_rfl) (fun u h _ => oku0_r29_SameSettings N u h) (fun x => rfl) (fun n x => by kernel_rfl) n
noncomputable def ur29_SameSettings_0 (N : Nat) : List (Pc D) := Pr29_SameSettings_0.pc (X49 N) (Fr29_SameSettings_0 N N) :: u0_r29_SameSettings N
theorem okur29_SameSettings_0 (N : Nat) : ∀ u ∈ ur29_SameSettings_0 N, PcOk (X49 N) (bodyOf Try.f49) u := pc_cons ((cr29_SameSettings_0 N N).pc (by kernel_rfl)) (oku0_r29_SameSettings N)
noncomputable def dr29_SameSettings : FD D := { f := 49, np := 2, ins := [.v 0 (.sl 52), .v 1 (.sl 52)], fx := [], rcv := none, rk := 0, outs := [.v 4 .bool], ofx := [], rvs := [.tmp 4], flat := true }
noncomputable def Fr29_SameSettings (N : Nat) : dr29_SameSettings.F := fun r x => r29_SameSettings N x.1 x.2.1
theorem or29_SameSettings (N : Nat) : FOk Try.prog (X49 N) dr29_SameSettings (Fr29_SameSettings N) := ⟨⟨Try.f49, _, Try.func49, rfl, by kernel_rfl, by kernel_rfl, rfl, FC.of (cok49 N) (us := ur29_SameSettings_0 N) (fun u h _ => okur29_SameSettings_0 N u h) (fun r x => by kernel_rfl)⟩, by kernel_rfl, by kernel_rfl, by kernel_rfl, by kernel_rfl⟩
noncomputable def fs50 (N : Nat) : List (FE D) := ⟨dr29_SameSettings, Fr29_SameSettings N⟩ :: fs49 N
theorem all50 (N : Nat) : ∀ y ∈ fs50 N, CallOk X0 y.d y.F := all_cons (x := ⟨dr29_SameSettings, Fr29_SameSettings N⟩) (or29_SameSettings N) (all49 N)
noncomputable def X50 (N : Nat) : Ev Try.prog D := X0.with (fs50 N)
theorem cok50 (N : Nat) : COk (X50 N) := COk.of (all50 N)
/-! ### humpyard/yardgen.SameSettings -/
noncomputable def u0_yardgen_SameSettings (N : Nat) : List (Pc D) := []
theorem oku0_yardgen_SameSettings (N : Nat) : ∀ u ∈ u0_yardgen_SameSettings N, PcOk (X50 N) (bodyOf Try.f22) u := pc_nil
noncomputable def dyardgen_SameSettings : FD D := { f := 22, np := 2, ins := [.v 0 (.sl 52), .v 1 (.sl 52)], fx := [], rcv := none, rk := 0, outs := [.v 4 .bool], ofx := [], rvs := [.tmp 4], flat := true }
noncomputable def Fyardgen_SameSettings (N : Nat) : dyardgen_SameSettings.F := fun r x => yardgen_SameSettings N x.1 x.2.1
theorem oyardgen_SameSettings (N : Nat) : FOk Try.prog (X50 N) dyardgen_SameSettings (Fyardgen_SameSettings N) := ⟨⟨Try.f22, _, Try.func22, rfl, by kernel_rfl, by kernel_rfl, rfl, FC.of (cok50 N) (us := u0_yardgen_SameSettings N) (fun u h _ => oku0_yardgen_SameSettings N u h) (fun r x => by kernel_rfl)⟩, by kernel_rfl, by kernel_rfl, by kernel_rfl, by kernel_rfl⟩
noncomputable def fs51 (N : Nat) : List (FE D) := ⟨dyardgen_SameSettings, Fyardgen_SameSettings N⟩ :: fs50 N
theorem all51 (N : Nat) : ∀ y ∈ fs51 N, CallOk X0 y.d y.F := all_cons (x := ⟨dyardgen_SameSettings, Fyardgen_SameSettings N⟩) (oyardgen_SameSettings N) (all50 N)
noncomputable def X51 (N : Nat) : Ev Try.prog D := X0.with (fs51 N)
theorem cok51 (N : Nat) : COk (X51 N) := COk.of (all51 N)
/-! ### humpyard/humpyardlaw27.exact -/
noncomputable def u0_l27_exact (N : Nat) : List (Pc D) := []
theorem oku0_l27_exact (N : Nat) : ∀ u ∈ u0_l27_exact N, PcOk (X51 N) (bodyOf Try.f14) u := pc_nil
noncomputable def Pl27_exact_0 : PD D := { path := [1, 1, 1, 1, 1, 0], ins := [.v 0 (.sl 46), .v 3 (.sl 32), .o 9 (.sl 32), .v 10 (.int .i64), .o 11 (.sl 32), .v 12 (.int .i64), .o 13 (.sl 52), .v 14 (.int .i64), .v 15 (.sl 52), .v 16 (.int .i64)], fx := [(9, .c (.own 0)), (11, .c (.own 1)), (13, .c (.own 2))], ks := [1, 1, 1], exs := [⟨.normal, [.v 8 .bool], []⟩], keep := [] }
noncomputable def Fl27_exact_0 (N : Nat) : Pl27_exact_0.F := fun x => l27_exact_0 N x.1 x.2.1 x.2.2.1 x.2.2.2.1 x.2.2.2.2.1 x.2.2.2.2.2.1 x.2.2.2.2.2.2.1 x.2.2.2.2.2.2.2.1 x.2.2.2.2.2.2.2.2.1 x.2.2.2.2.2.2.2.2.2.1
theorem cl27_exact_0 (N : Nat) : CC (X51 N) (bodyOf Try.f14) Pl27_exact_0 (Fl27_exact_0 N) := CC.of (cok51 N) (us := u0_l27_exact N) (fun u h _ => oku0_l27_exact N u h) (fun x => by kernel_rfl)
noncomputable def ul27_exact_0 (N : Nat) : List (Pc D) := Pl27_exact_0.pc (X51 N) (Fl27_exact_0 N) :: u0_l27_exact N
theorem okul27_exact_0 (N : Nat) : ∀ u ∈ ul27_exact_0 N, PcOk (X51 N) (bodyOf Try.f14) u := pc_cons ((cl27_exact_0 N).pc (by kernel_rfl)) (oku0_l27_exact N)
noncomputable def dl27_exact : FD D := { f := 14, np := 4, ins := [.v 0 (.sl 46), .v 1 (.int .i64), .v 2 (.int .i64), .v 3 (.sl 32)], fx := [], rcv := none, rk := 0, outs := [.v 8 .bool], ofx := [], rvs := [.tmp 8], flat := true }
noncomputable def Fl27_exact (N : Nat) : dl27_exact.F := fun r x => l27_exact N x.1 x.2.1 x.2.2.1 x.2.2.2.1
theorem ol27_exact (N : Nat) : FOk Try.prog (X51 N) dl27_exact (Fl27_exact N) := ⟨⟨Try.f14, _, Try.func14, rfl, by kernel_rfl, by kernel_rfl, rfl, FC.of (cok51 N) (us := ul27_exact_0 N) (fun u h _ => okul27_exact_0 N u h) (fun r x => by kernel_rfl)⟩, by kernel_rfl, by kernel_rfl, by kernel_rfl, by kernel_rfl⟩
noncomputable def fs52 (N : Nat) : List (FE D) := ⟨dl27_exact, Fl27_exact N⟩ :: fs51 N
theorem all52 (N : Nat) : ∀ y ∈ fs52 N, CallOk X0 y.d y.F := all_cons (x := ⟨dl27_exact, Fl27_exact N⟩) (ol27_exact N) (all51 N)
noncomputable def X52 (N : Nat) : Ev Try.prog D := X0.with (fs52 N)
theorem cok52 (N : Nat) : COk (X52 N) := COk.of (all52 N)
/-! ### humpyard/humpyardlaw27.small -/
noncomputable def u0_l27_small (N : Nat) : List (Pc D) := []
theorem oku0_l27_small (N : Nat) : ∀ u ∈ u0_l27_small N, PcOk (X52 N) (bodyOf Try.f30) u := pc_nil
noncomputable def dl27_small : FD D := { f := 30, np := 0, ins := [], fx := [], rcv := none, rk := 0, outs := [.o 0 (.sl 46)], ofx := [(0, .c (.own 0))], rvs := [.tmp 0], flat := false }
noncomputable def Fl27_small (N : Nat) : dl27_small.F := fun r x => l27_small N
theorem ol27_small (N : Nat) : FOk Try.prog (X52 N) dl27_small (Fl27_small N) := ⟨⟨Try.f30, _, Try.func30, rfl, by kernel_rfl, by kernel_rfl, rfl, FC.of (cok52 N) (us := u0_l27_small N) (fun u h _ => oku0_l27_small N u h) (fun r x => by kernel_rfl)⟩, by kernel_rfl, by kernel_rfl, by kernel_rfl, by kernel_rfl⟩
noncomputable def fs53 (N : Nat) : List (FE D) := ⟨dl27_small, Fl27_small N⟩ :: fs52 N
theorem all53 (N : Nat) : ∀ y ∈ fs53 N, CallOk X0 y.d y.F := all_cons (x := ⟨dl27_small, Fl27_small N⟩) (ol27_small N) (all52 N)
noncomputable def X53 (N : Nat) : Ev Try.prog D := X0.with (fs53 N)
theorem cok53 (N : Nat) : COk (X53 N) := COk.of (all53 N)
/-! ### humpyard/humpyardlaw27.sane -/
noncomputable def u0_l27_sane (N : Nat) : List (Pc D) := []
theorem oku0_l27_sane (N : Nat) : ∀ u ∈ u0_l27_sane N, PcOk (X53 N) (bodyOf Try.f15) u := pc_nil
noncomputable def Pl27_sane_0 : PD D := { path := [1, 1, 1, 1, 0], ins := [.v 1 (.sl 32), .v 2 (.int .i64), .o 3 (.sl 52), .v 4 (.int .i64), .v 6 (.int .i64)], fx := [(3, .c (.own 0))], ks := [1], exs := [⟨.normal, [.v 0 .bool], []⟩], keep := [] }
noncomputable def Fl27_sane_0 (N : Nat) : Pl27_sane_0.F := fun x => l27_sane_0 N x.1 x.2.1 x.2.2.1 x.2.2.2.1 x.2.2.2.2.1
theorem cl27_sane_0 (N : Nat) : CC (X53 N) (bodyOf Try.f15) Pl27_sane_0 (Fl27_sane_0 N) := CC.of (cok53 N) (us := u0_l27_sane N) (fun u h _ => oku0_l27_sane N u h) (fun x => by kernel_rfl)
noncomputable def ul27_sane_0 (N : Nat) : List (Pc D) := Pl27_sane_0.pc (X53 N) (Fl27_sane_0 N) :: u0_l27_sane N
theorem okul27_sane_0 (N : Nat) : ∀ u ∈ ul27_sane_0 N, PcOk (X53 N) (bodyOf Try.f15) u := pc_cons ((cl27_sane_0 N).pc (by kernel_rfl)) (oku0_l27_sane N)
noncomputable def dl27_sane : FD D := { f := 15, np := 0, ins := [], fx := [], rcv := none, rk := 0, outs := [.v 0 .bool], ofx := [], rvs := [.tmp 0], flat := true }
noncomputable def Fl27_sane (N : Nat) : dl27_sane.F := fun r x => l27_sane N
theorem ol27_sane (N : Nat) : FOk Try.prog (X53 N) dl27_sane (Fl27_sane N) := ⟨⟨Try.f15, _, Try.func15, rfl, by kernel_rfl, by kernel_rfl, rfl, FC.of (cok53 N) (us := ul27_sane_0 N) (fun u h _ => okul27_sane_0 N u h) (fun r x => by kernel_rfl)⟩, by kernel_rfl, by kernel_rfl, by kernel_rfl, by kernel_rfl⟩
noncomputable def fs54 (N : Nat) : List (FE D) := ⟨dl27_sane, Fl27_sane N⟩ :: fs53 N
theorem all54 (N : Nat) : ∀ y ∈ fs54 N, CallOk X0 y.d y.F := all_cons (x := ⟨dl27_sane, Fl27_sane N⟩) (ol27_sane N) (all53 N)
noncomputable def X54 (N : Nat) : Ev Try.prog D := X0.with (fs54 N)
theorem cok54 (N : Nat) : COk (X54 N) := COk.of (all54 N)
/-! ### humpyard/humpyardlaw27.RouteExact -/
noncomputable def u0_l27_RouteExact (N : Nat) : List (Pc D) := []
theorem oku0_l27_RouteExact (N : Nat) : ∀ u ∈ u0_l27_RouteExact N, PcOk (X54 N) (bodyOf Try.f3) u := pc_nil
noncomputable def Pl27_RouteExact_1 : PD D := { path := [1, 1, 0, 1, 0, 0, 1, 0, 0, 1, 1, 0, 1], ins := [.o 11 (.box 55), .o 14 (.sl 32), .v 31 .bool], fx := [(11, .box 0 0), (14, .c (.own 1))], ks := [2, 2], exs := [⟨.normal, [.u 0 (.box 55), .u 1 (.sl 32)], []⟩], keep := [1, 2, 3, 4, 11, 12, 13, 14] }
noncomputable def Fl27_RouteExact_1 (N : Nat) : Pl27_RouteExact_1.F := fun x => l27_RouteExact_1 N x.1 x.2.1 x.2.2.1
theorem cl27_RouteExact_1 (N : Nat) : CC (X54 N) (bodyOf Try.f3) Pl27_RouteExact_1 (Fl27_RouteExact_1 N) := CC.of (cok54 N) (us := u0_l27_RouteExact N) (fun u h _ => oku0_l27_RouteExact N u h) (fun x => by kernel_rfl)
noncomputable def ul27_RouteExact_1 (N : Nat) : List (Pc D) := Pl27_RouteExact_1.pc (X54 N) (Fl27_RouteExact_1 N) :: u0_l27_RouteExact N
theorem okul27_RouteExact_1 (N : Nat) : ∀ u ∈ ul27_RouteExact_1 N, PcOk (X54 N) (bodyOf Try.f3) u := pc_cons ((cl27_RouteExact_1 N).pc (by kernel_rfl)) (oku0_l27_RouteExact N)
noncomputable def Pl27_RouteExact_2 : PD D := { path := [1, 1, 0, 1, 0, 0, 1, 0, 0, 1, 1, 1, 0, 1], ins := [.o 11 (.box 55), .v 13 (.sl 46), .o 14 (.sl 32), .v 67 .bool], fx := [(11, .box 0 0), (14, .c (.own 1))], ks := [2, 1], exs := [⟨.normal, [.u 0 (.box 55), .v 13 (.sl 46)], []⟩], keep := [1, 2, 3, 4, 11, 12, 14] }
noncomputable def Fl27_RouteExact_2 (N : Nat) : Pl27_RouteExact_2.F := fun x => l27_RouteExact_2 N x.1 x.2.1 x.2.2.2.1
theorem cl27_RouteExact_2 (N : Nat) : CC (X54 N) (bodyOf Try.f3) Pl27_RouteExact_2 (Fl27_RouteExact_2 N) := CC.of (cok54 N) (us := ul27_RouteExact_1 N) (fun u h _ => okul27_RouteExact_1 N u h) (fun x => by kernel_rfl)
noncomputable def ul27_RouteExact_2 (N : Nat) : List (Pc D) := Pl27_RouteExact_2.pc (X54 N) (Fl27_RouteExact_2 N) :: ul27_RouteExact_1 N
theorem okul27_RouteExact_2 (N : Nat) : ∀ u ∈ ul27_RouteExact_2 N, PcOk (X54 N) (bodyOf Try.f3) u := pc_cons ((cl27_RouteExact_2 N).pc (by kernel_rfl)) (okul27_RouteExact_1 N)
noncomputable def Pl27_RouteExact_3 : PD D := { path := [1, 1, 0, 1, 0, 0, 1, 0, 0, 1, 1, 1, 1, 1, 0], ins := [.v 4 (.sl 32), .o 11 (.box 55), .v 13 (.sl 46), .o 14 (.sl 32), .v 16 (.int .i64), .v 17 (.int .i64)], fx := [(11, .box 0 0), (14, .c (.own 1))], ks := [1, 1], exs := [⟨.normal, [.v 105 .bool], []⟩], keep := [1, 2, 3, 4, 11, 12] }
noncomputable def Fl27_RouteExact_3 (N : Nat) : Pl27_RouteExact_3.F := fun x => l27_RouteExact_3 N x.1 x.2.2.1 x.2.2.2.1 x.2.2.2.2.1 x.2.2.2.2.2.1
theorem cl27_RouteExact_3 (N : Nat) : CC (X54 N) (bodyOf Try.f3) Pl27_RouteExact_3 (Fl27_RouteExact_3 N) := CC.of (cok54 N) (us := ul27_RouteExact_2 N) (fun u h _ => okul27_RouteExact_2 N u h) (fun x => by kernel_rfl)
noncomputable def ul27_RouteExact_3 (N : Nat) : List (Pc D) := Pl27_RouteExact_3.pc (X54 N) (Fl27_RouteExact_3 N) :: ul27_RouteExact_2 N
theorem okul27_RouteExact_3 (N : Nat) : ∀ u ∈ ul27_RouteExact_3 N, PcOk (X54 N) (bodyOf Try.f3) u := pc_cons ((cl27_RouteExact_3 N).pc (by kernel_rfl)) (okul27_RouteExact_2 N)
noncomputable def Pl27_RouteExact_0 : PD D := { path := [1, 1, 0, 1, 0], ins := [.v 4 (.sl 32), .o 11 (.box 55), .v 12 (.int .i64)], fx := [(11, .box 0 0)], ks := [0], exs := [⟨.exit 0, [], []⟩, ⟨.ret, [.v 10 .bool], []⟩], keep := [1, 2, 3, 4] }
noncomputable def Fl27_RouteExact_0 (N n : Nat) : Pl27_RouteExact_0.F := fun x => l27_RouteExact_0 N x.1 n x.2.1 x.2.2.1
theorem cl27_RouteExact_0 (N n : Nat) : CC (X54 N) (bodyOf Try.f3) Pl27_RouteExact_0 (Fl27_RouteExact_0 N n) := CC.loop (cok54 N) (us := ul27_RouteExact_3 N) (c := sub (bodyOf Try.f3) [1, 1, 0, 1, 0, 0]) (by kernel_rfl) (by kernel_rfl) (fun u h _ => okul27_RouteExact_3 N u h) (fun x => rfl) (fun n x => by kernel_rfl) n
noncomputable def ul27_RouteExact_0 (N : Nat) : List (Pc D) := Pl27_RouteExact_0.pc (X54 N) (Fl27_RouteExact_0 N N) :: ul27_RouteExact_3 N
theorem okul27_RouteExact_0 (N : Nat) : ∀ u ∈ ul27_RouteExact_0 N, PcOk (X54 N) (bodyOf Try.f3) u := pc_cons ((cl27_RouteExact_0 N N).pc (by kernel_rfl)) (okul27_RouteExact_3 N)
noncomputable def Pl27_RouteExact_4 : PD D := { path := [1, 1, 1, 0], ins := [.v 1 (.sl 46), .v 2 (.int .i64), .v 3 (.int .i64), .v 4 (.sl 32)], fx := [], ks := [], exs := [⟨.normal, [.v 10 .bool], []⟩], keep := [] }
noncomputable def Fl27_RouteExact_4 (N : Nat) : Pl27_RouteExact_4.F := fun x => l27_RouteExact_4 N x.1 x.2.1 x.2.2.1 x.2.2.2.1
theorem cl27_RouteExact_4 (N : Nat) : CC (X54 N) (bodyOf Try.f3) Pl27_RouteExact_4 (Fl27_RouteExact_4 N) := CC.of (cok54 N) (us := ul27_RouteExact_0 N) (fun u h _ => okul27_RouteExact_0 N u h) (fun x => by kernel_rfl)
noncomputable def ul27_RouteExact_4 (N : Nat) : List (Pc D) := Pl27_RouteExact_4.pc (X54 N) (Fl27_RouteExact_4 N) :: ul27_RouteExact_0 N
theorem okul27_RouteExact_4 (N : Nat) : ∀ u ∈ ul27_RouteExact_4 N, PcOk (X54 N) (bodyOf Try.f3) u := pc_cons ((cl27_RouteExact_4 N).pc (by kernel_rfl)) (okul27_RouteExact_0 N)
noncomputable def dl27_RouteExact : FD D := { f := 3, np := 5, ins := [.v 0 (.sl 3), .v 1 (.sl 46), .v 2 (.int .i64), .v 3 (.int .i64), .v 4 (.sl 32)], fx := [], rcv := none, rk := 0, outs := [.v 10 .bool], ofx := [], rvs := [.tmp 10], flat := true }
noncomputable def Fl27_RouteExact (N : Nat) : dl27_RouteExact.F := fun r x => l27_RouteExact N x.1 x.2.1 x.2.2.1 x.2.2.2.1 x.2.2.2.2.1
theorem ol27_RouteExact (N : Nat) : FOk Try.prog (X54 N) dl27_RouteExact (Fl27_RouteExact N) := ⟨⟨Try.f3, _, Try.func3, rfl, by kernel_rfl, by kernel_rfl, rfl, FC.of (cok54 N) (us := ul27_RouteExact_4 N) (fun u h _ => okul27_RouteExact_4 N u h) (fun r x => by kernel_rfl)⟩, by kernel_rfl, by kernel_rfl, by kernel_rfl, by kernel_rfl⟩
noncomputable def fs55 (N : Nat) : List (FE D) := ⟨dl27_RouteExact, Fl27_RouteExact N⟩ :: fs54 N
theorem all55 (N : Nat) : ∀ y ∈ fs55 N, CallOk X0 y.d y.F := all_cons (x := ⟨dl27_RouteExact, Fl27_RouteExact N⟩) (ol27_RouteExact N) (all54 N)
noncomputable def X55 (N : Nat) : Ev Try.prog D := X0.with (fs55 N)
theorem cok55 (N : Nat) : COk (X55 N) := COk.of (all55 N)
end Go.W
end
section
set_option linter.unusedVariables false
set_option linter.unusedSimpArgs false
namespace Go.W
open Go.AM
theorem w64 {n : Int} (h : -9223372036854775808 ≤ n) (h' : n ≤ 9223372036854775807) : IntKind.wrap .i64 n = n := by rw [IntKind.wrap_i64]; omega
theorem w8 {n : Int} (h : 0 ≤ n) (h' : n ≤ 255) : IntKind.wrap .u8 n = n := by rw [IntKind.wrap_u8]; omega
theorem lt_def {α β : Type} (x : α) (f : α → Option β) : AM.lt x f = f x := rfl
theorem bind_some' {α β : Type} (x : α) (f : α → Option β) : Option.bind (some x) f = f x := rfl
theorem getI_ok {α : Type} {xs : List α} {i : Int} (h0 : 0 ≤ i) (h1 : i < xs.length) : ∃ x, getI xs i = some x ∧ x ∈ xs ∧ xs[i.toNat]? = some x := by
  have hlt : i.toNat < xs.length := by omega
  exact ⟨xs[i.toNat], by simp [getI, h0, hlt], by simp, by simp [hlt]⟩
/-- The maker's counter is in range. -/
def Mk (c : Int) (s : Maker) : Prop := 0 ≤ s.n ∧ s.n ≤ c
theorem next_ok (N : Nat) {c : Int} {s : Maker} (k : Int) (hk : 1 ≤ k) (hk2 : k ≤ 1000000) (hs : Mk c s) (hc : c ≤ 1000000000000) : ∃ r s', Maker_Next N s k = some (r, s') ∧ 0 ≤ r ∧ r < k ∧ Mk (c + 1) s' := by
  obtain ⟨h0, h1⟩ := hs
  have h15 : ∃ y, Maker_Next_0 N s 0 (decide (0 < (s.l.length : Int))) = some y := by
    unfold Maker_Next_0
    by_cases hl : 0 < (s.l.length : Int)
    · rw [if_pos (by simpa using hl)]
      have hne : (s.l.length : Int) ≠ 0 := by omega
      have hm : modI s.n s.l.length = some (s.n.tmod s.l.length) := by unfold modI; rw [if_neg hne]
      have hd : divI s.n s.l.length = some (s.n.tdiv s.l.length) := by unfold divI; rw [if_neg hne]
      have hr0 : 0 ≤ s.n.tmod s.l.length := Int.tmod_nonneg _ h0
      have hr1 : s.n.tmod s.l.length < s.l.length := Int.tmod_lt_of_pos _ hl
      obtain ⟨x, hx, _, _⟩ := getI_ok hr0 hr1
      rw [hm, bind_some', hx, bind_some', hd, bind_some', lt_def]
      exact ⟨_, rfl⟩
    · rw [if_neg (by simpa using hl)]
      exact ⟨_, rfl⟩
  obtain ⟨y, hy⟩ := h15
  unfold Maker_Next
  rw [hy, bind_some']
  have hm : modI y k = some (y.tmod k) := by simp [modI]; omega
  have hlt : y.tmod k < k := Int.tmod_lt_of_pos _ (by omega)
  have hgt : -k < y.tmod k := by
    have := Int.lt_tmod_of_pos y (by omega : 0 < k)
    omega
  have hn : IntKind.wrap .i64 (s.n + 1) = s.n + 1 := w64 (by omega) (by omega)
  simp only [hm, bind_some', hn]
  unfold Maker_Next_1
  by_cases hneg : y.tmod k < 0
  · rw [if_pos (by simpa using hneg), lt_def, bind_some', w64 (by omega) (by omega)]
    exact ⟨_, _, rfl, by omega, by omega, by constructor <;> simp <;> omega⟩
  · rw [if_neg (by simpa using hneg), bind_some']
    exact ⟨_, _, rfl, by omega, by omega, by constructor <;> simp <;> omega⟩
theorem pick_ok (N : Nat) {c : Int} {s : Maker} (l : List Int) (hl : 1 ≤ l.length) (hl2 : l.length ≤ 1000) (hs : Mk c s) (hc : c ≤ 1000000000000) : ∃ x s', Maker_Pick N s l = some (x, s') ∧ x ∈ l ∧ Mk (c + 1) s' := by
  obtain ⟨r, s', h1, h2, h3, h4⟩ := next_ok N (s := s) (c := c) (l.length : Int) (by omega) (by omega) hs hc
  obtain ⟨x, hx, hm, _⟩ := getI_ok h2 h3
  unfold Maker_Pick
  rw [h1, bind_some']
  simp only [hx, bind_some']
  exact ⟨x, s', rfl, hm, h4⟩
end Go.W
end
section
set_option linter.unusedVariables false
set_option linter.unusedSimpArgs false
namespace Go.W
open Go.AM
/-! ### Small things -/
theorem getI_nat {α : Type} {xs : List α} {i : Nat} {x : α} (h : xs[i]? = some x) : getI xs (i : Int) = some x := by simp [getI, h]
theorem at_lt {α : Type} {xs : List α} {i : Nat} (h : i < xs.length) : xs[i]? = some xs[i] := by simp [h]
theorem drop_at {α : Type} {xs : List α} {i : Nat} {x : α} (h : xs[i]? = some x) : xs.drop i = x :: xs.drop (i + 1) := by
  obtain ⟨hlt, rfl⟩ := List.getElem?_eq_some_iff.1 h
  exact List.drop_eq_getElem_cons hlt
theorem w64s {i : Nat} (h : i < 9223372036854775807) : IntKind.wrap .i64 ((i : Int) + 1) = ((i + 1 : Nat) : Int) := by rw [w64 (by omega) (by omega)]; omega
theorem w64p {i : Nat} (h : i < 9223372036854775807) : IntKind.wrap .i64 (((i + 1 : Nat) : Int) - 1) = (i : Int) := by rw [w64 (by omega) (by omega)]; omega
theorem dpos {a b : Int} (h : a < b) : decide (a < b) = true := decide_eq_true h
theorem dneg {a b : Int} (h : ¬ a < b) : ¬ decide (a < b) = true := by simpa using h
theorem lpos {a b : Int} (h : a ≤ b) : decide (a ≤ b) = true := decide_eq_true h
theorem lneg {a b : Int} (h : ¬ a ≤ b) : ¬ decide (a ≤ b) = true := by simpa using h
theorem appI_ok {α : Type} {xs ys : List α} (h : xs.length + ys.length ≤ 4294967296) : appI xs ys = some (xs ++ ys) := if_pos h
theorem cutI_drop {α : Type} {xs : List α} {i : Nat} (h : i ≤ xs.length) : cutI xs (i : Int) (xs.length : Int) = some (xs.drop i) := by
  unfold cutI; rw [if_pos (by omega)]; simp
theorem cutI_take {α : Type} {xs : List α} {i : Nat} (h : i ≤ xs.length) : cutI xs 0 (i : Int) = some (xs.take i) := by
  unfold cutI; rw [if_pos (by omega)]; simp
theorem Mk.le {c c' : Int} {s : Maker} (h : Mk c s) (hc : c ≤ c') : Mk c' s := ⟨h.1, Int.le_trans h.2 hc⟩
theorem mk0 (t : List Int) : Mk 0 (Maker.mk t 0) := ⟨by simp, by simp⟩
/-- The first element for which a condition holds. -/
def res {α β : Type} (p : Nat → α → Bool) (out : Nat → α → β) : Nat → List α → Sum Unit β
  | _, [] => .inl ()
  | i, x :: xs => if p i x = true then .inr (out i x) else res p out (i + 1) xs
theorem first_gen {α β : Type} {l : List α} (p : Nat → α → Bool) (out : Nat → α → β) (F : Nat → Int → Option (Sum Unit β)) (h0 : ∀ n, F (n + 1) (l.length : Int) = some (.inl ()))
    (h1 : ∀ (n i : Nat) (x : α), l[i]? = some x → F (n + 1) (i : Int) = if p i x = true then some (.inr (out i x)) else F n ((i + 1 : Nat) : Int)) : ∀ (k n i : Nat), k < n → i + k = l.length → F n (i : Int) = some (res p out i (l.drop i))
  | k, 0, i, hn, _ => by omega
  | 0, n + 1, i, hn, hi => by
    obtain rfl : i = l.length := by omega
    rw [h0, List.drop_length, res]
  | k + 1, n + 1, i, hn, hi => by
    have hlt : i < l.length := by omega
    rw [h1 n i _ (at_lt hlt), drop_at (at_lt hlt), res]
    split
    · rfl
    · exact first_gen p out F h0 h1 k n (i + 1) (by omega) (by omega)
/-- The number of the first element for which a condition holds, or -1. -/
def firstI {α : Type} (p : Nat → α → Bool) : Nat → List α → Int
  | _, [] => -1
  | i, x :: xs => if p i x = true then (i : Int) else firstI p (i + 1) xs
theorem res_first {α : Type} (p : Nat → α → Bool) : ∀ (l : List α) (i : Nat), res p (fun i _ => (i : Int)) i l = .inl () ∧ firstI p i l = -1 ∨ res p (fun i _ => (i : Int)) i l = .inr (firstI p i l) ∧ 0 ≤ firstI p i l
  | [], i => .inl ⟨rfl, rfl⟩
  | x :: xs, i => by
    rw [res, firstI]
    by_cases h : p i x = true
    · rw [if_pos h, if_pos h]; exact .inr ⟨rfl, by omega⟩
    · rw [if_neg h, if_neg h]; exact res_first p xs (i + 1)
theorem firstI_spec {α : Type} (p : Nat → α → Bool) : ∀ (l : List α) (i : Nat), (firstI p i l = -1 ∧ ∀ (j : Nat) (x : α), l[j]? = some x → p (i + j) x = false) ∨
    ∃ (j : Nat) (x : α), firstI p i l = ((i + j : Nat) : Int) ∧ l[j]? = some x ∧ p (i + j) x = true ∧ ∀ (j' : Nat) (y : α), j' < j → l[j']? = some y → p (i + j') y = false
  | [], i => .inl ⟨rfl, fun j x h => by simp at h⟩
  | x :: xs, i => by
    rw [firstI]
    by_cases h : p i x = true
    · rw [if_pos h]
      exact .inr ⟨0, x, by simp, by simp, by simpa using h, fun j' y hj => by omega⟩
    · rw [if_neg h]
      have h' : p i x = false := by simpa using h
      rcases firstI_spec p xs (i + 1) with ⟨h1, h2⟩ | ⟨j, y, h1, h2, h3, h4⟩
      · refine .inl ⟨h1, fun j y hj => ?_⟩
        cases j with
        | zero => simp at hj; subst hj; exact h'
        | succ j => have := h2 j y (by simpa using hj); rwa [show i + 1 + j = i + (j + 1) by omega] at this
      · refine .inr ⟨j + 1, y, by rw [h1]; omega, by simpa using h2, by rwa [show i + 1 + j = i + (j + 1) by omega] at h3, fun j' z hj hz => ?_⟩
        cases j' with
        | zero => simp at hz; subst hz; exact h'
        | succ j' => have := h4 j' z (by omega) (by simpa using hz); rwa [show i + 1 + j' = i + (j' + 1) by omega] at this
theorem mpGet_set {α β : Type} [DecidableEq α] (m : List (α × β)) (a k : α) (b : β) : mpGet (mpSet m a b) k = if a = k then some b else mpGet m k := by
  induction m with
  | nil => simp [mpSet, mpGet]
  | cons p m ih =>
    simp only [mpSet]
    by_cases h : p.1 = a
    · rw [if_pos h]
      simp only [mpGet]
      by_cases h2 : a = k
      · simp [h, h2]
      · simp [h, h2]
    · rw [if_neg h]
      simp only [mpGet, ih]
      by_cases h2 : p.1 = k
      · have : ¬ a = k := fun h3 => h (h2.trans h3.symm)
        simp [h2, this]
      · simp [h2]
end Go.W
end
section
set_option linter.unusedVariables false
set_option linter.unusedSimpArgs false
namespace Go.W
open Go.AM
/-- The largest length of lists of elements that is looked at. -/
theorem res_any {α : Type} (p : α → Bool) : ∀ (l : List α) (i : Nat), res (fun _ y => p y) (fun _ _ => true) i l = if l.any p = true then .inr true else .inl ()
  | [], i => rfl
  | y :: l, i => by
    rw [res, List.any_cons]
    by_cases h : p y = true
    · simp [h]
    · simp only [Bool.not_eq_true] at h
      rw [h, if_neg (by simp), res_any p l (i + 1), Bool.false_or]
theorem any_eq {l : List Int} {x : Int} : (l.any fun y => y == x) = l.contains x := by
  induction l with
  | nil => rfl
  | cons y l ih =>
    rw [List.any_cons, List.contains_cons, ih]
    congr 1
    by_cases h : y = x
    · rw [h]
    · have h' : ¬ x = y := fun hh => h hh.symm
      have e1 : (y == x) = false := by simpa using h
      have e2 : (x == y) = false := by simpa using h'
      rw [e1, e2]
/-! ### Ends -/
def endsP (x : PlantElement) : List Int := if x.kind = 1 ∨ x.kind = 3 then [x.a, x.b] else if x.kind = 2 then [x.a, x.b, x.c] else []
def eI (l : List PlantElement) (i : Int) : List Int := if 0 ≤ i then (match l[i.toNat]? with | some x => endsP x | none => []) else []
theorem endsP_len (x : PlantElement) : (endsP x).length ≤ 3 := by unfold endsP; split <;> (try split) <;> simp
theorem eI_len (l : List PlantElement) (i : Int) : (eI l i).length ≤ 3 := by
  unfold eI
  split
  · split
    · exact endsP_len _
    · simp
  · simp
theorem eI_nat {l : List PlantElement} {i : Nat} {x : PlantElement} (h : l[i]? = some x) : eI l (i : Int) = endsP x := by
  unfold eI; rw [if_pos (by omega)]; simp [h]
theorem eI_mem {l : List PlantElement} {i n : Int} (h : n ∈ eI l i) : 0 ≤ i ∧ i < l.length ∧ ∃ x, l[i.toNat]? = some x ∧ n ∈ endsP x := by
  unfold eI at h
  split at h
  · rename_i h0
    split at h
    · rename_i x hx
      have := (List.getElem?_eq_some_iff.1 hx).1
      exact ⟨h0, by omega, x, hx, h⟩
    · simp at h
  · simp at h
theorem pends_ok (N : Nat) (x : PlantElement) : plant_ends N x = some (endsP x) := by
  unfold plant_ends endsP plant_ends_0
  simp only [lt_def]
  by_cases h1 : x.kind = 1
  · simp [h1, bind_some']
  · by_cases h3 : x.kind = 3
    · simp [h3, bind_some']
    · by_cases h2 : x.kind = 2
      · simp [h2, bind_some']
      · simp [h1, h2, h3, bind_some']
theorem pEnds_ok (N : Nat) (l : List PlantElement) (i : Int) : plant_Ends N l i = some (eI l i) := by
  unfold plant_Ends plant_Ends_0 eI
  by_cases h0 : i < 0
  · rw [if_pos (dpos h0), bind_some', if_pos rfl, if_neg (by omega)]
  · rw [if_neg (dneg h0), bind_some', if_pos (by omega : 0 ≤ i)]
    by_cases h1 : (l.length : Int) ≤ i
    · rw [if_pos (lpos h1), List.getElem?_eq_none (by omega)]
    · rw [if_neg (lneg h1)]
      have hlt : i.toNat < l.length := by omega
      have hg : getI l i = some l[i.toNat] := by simp [getI, hlt]; omega
      rw [hg, bind_some', pends_ok, bind_some', at_lt hlt]
theorem rEnds_ok (N : Nat) (l : List PlantElement) (i : Int) : r26_Ends N l i = some (eI l i) := by
  unfold r26_Ends r26_Ends_0 eI
  by_cases h0 : i < 0
  · rw [if_pos (dpos h0), bind_some', if_pos rfl, if_neg (by omega)]
  · rw [if_neg (dneg h0), bind_some', if_pos (by omega : 0 ≤ i)]
    by_cases h1 : (l.length : Int) ≤ i
    · rw [if_pos (lpos h1), List.getElem?_eq_none (by omega)]
    · rw [if_neg (lneg h1)]
      have hlt : i.toNat < l.length := by omega
      have hg : getI l i = some l[i.toNat] := by simp [getI, hlt]; omega
      rw [hg, bind_some', at_lt hlt]
      generalize l[i.toNat] = x at *
      simp only [hg, bind_some', lt_def]
      unfold endsP r26_Ends_1
      by_cases h1 : x.kind = 1
      · simp [h1, bind_some']
      · by_cases h3 : x.kind = 3
        · simp [h3, bind_some', lt_def]
        · by_cases h2 : x.kind = 2
          · simp [h2, bind_some', lt_def]
          · simp [h1, h2, h3, bind_some', lt_def]
/-! ### Lists of numbers -/
theorem has_gen {l : List Int} {x : Int} (F : Nat → Int → Option (Sum Unit Bool)) (h0 : ∀ n, F (n + 1) (l.length : Int) = some (.inl ())) (h1 : ∀ (n i : Nat) (y : Int), l[i]? = some y → F (n + 1) (i : Int) = if (y == x) = true then some (.inr true) else F n ((i + 1 : Nat) : Int))
    {n : Nat} (hn : l.length < n) : F n 0 = some (if l.contains x = true then .inr true else .inl ()) := by
  have h := first_gen (l := l) (fun _ y => y == x) (fun _ _ => true) F h0 h1 l.length n 0 hn (by omega)
  simp only [Int.natCast_zero, List.drop_zero] at h
  rw [h, res_any (fun y => y == x), any_eq]
theorem rhas_ok (N : Nat) {l : List Int} (hN : l.length < N) (hl : l.length ≤ 1000000) (x : Int) : r26_has N l x = some (l.contains x) := by
  have h := has_gen (l := l) (x := x) (fun n i => r26_has_0 N l x n i) (fun n => by
    show r26_has_0 N l x (n + 1) _ = _
    rw [r26_has_0, if_neg (dneg (by omega))]) (fun n i y hy => by
    show r26_has_0 N l x (n + 1) _ = _
    have hlt := (List.getElem?_eq_some_iff.1 hy).1
    rw [r26_has_0, if_pos (dpos (by omega)), getI_nat hy, bind_some', lt_def, w64s (by omega)]) hN
  unfold r26_has
  rw [h, bind_some']
  cases l.contains x <;> rfl
/-! ### Neighbours -/
def nbrB (i n : Int) (k : Nat) (x : PlantElement) : Bool := ((k : Int) != i) && (endsP x).contains n
def nbr (l : List PlantElement) (i n : Int) : Int := firstI (nbrB i n) 0 l
theorem pnbr2 (N : Nat) (hN : 4 ≤ N) (x : PlantElement) (n k : Int) : plant_Neighbour_2 N n k (endsP x) (endsP x).length N 0 = some (if (endsP x).contains n = true then .inr k else .inl ()) := by
  have h := first_gen (l := endsP x) (fun _ y => y == n) (fun _ _ => k) (fun m i => plant_Neighbour_2 N n k (endsP x) (endsP x).length m i) (fun m => by
    show plant_Neighbour_2 N n k (endsP x) (endsP x).length (m + 1) _ = _
    rw [plant_Neighbour_2, if_neg (dneg (by omega))]) (fun m i y hy => by
    show plant_Neighbour_2 N n k (endsP x) (endsP x).length (m + 1) _ = _
    have hlt := (List.getElem?_eq_some_iff.1 hy).1
    have := endsP_len x
    rw [plant_Neighbour_2, if_pos (dpos (by omega)), getI_nat hy]
    simp only [bind_some', w64s (show i < 9223372036854775807 by omega)]) (endsP x).length N 0 (by have := endsP_len x; omega) (by omega)
  simp only [Int.natCast_zero, List.drop_zero] at h
  rw [h]
  congr 1
  rw [← any_eq]
  generalize endsP x = e
  have key : ∀ (e : List Int) (i : Nat), res (fun _ y => y == n) (fun _ _ => k) i e = if (e.any fun y => y == n) = true then .inr k else .inl () := by
    intro e
    induction e with
    | nil => intro i; rfl
    | cons y e ih =>
      intro i
      rw [res, List.any_cons]
      by_cases h : (y == n) = true
      · simp [h]
      · simp only [Bool.not_eq_true] at h
        rw [h, if_neg (by simp), ih, Bool.false_or]
  exact key e 0
theorem nbr_fin {F : Option (Sum Unit Int)} {l : List PlantElement} {i n : Int} (h : F = some (res (nbrB i n) (fun k _ => (k : Int)) 0 l)) : (Option.bind F fun y => match y with | .inl _ => some (-1) | .inr y => some y) = some (nbr l i n) := by
  rw [h, bind_some']
  unfold nbr
  rcases res_first (nbrB i n) l 0 with ⟨h1, h2⟩ | ⟨h1, h2⟩
  · rw [h1, h2]
  · rw [h1]
theorem pnbr_ok (N : Nat) {l : List PlantElement} (hN : l.length + 4 ≤ N) (hl : l.length ≤ 1000000) (i n : Int) : plant_Neighbour N l i n = some (nbr l i n) := by
  unfold plant_Neighbour
  refine nbr_fin ?_
  have h := first_gen (l := l) (nbrB i n) (fun k _ => (k : Int)) (fun m j => plant_Neighbour_0 N i n l l.length m j) (fun m => by
    show plant_Neighbour_0 N i n l l.length (m + 1) _ = _
    rw [plant_Neighbour_0, if_neg (dneg (by omega))]) (fun m j x hx => by
    show plant_Neighbour_0 N i n l l.length (m + 1) _ = _
    have hlt := (List.getElem?_eq_some_iff.1 hx).1
    rw [plant_Neighbour_0, if_pos (dpos (by omega))]
    unfold plant_Neighbour_1 nbrB
    rw [getI_nat hx, bind_some']
    by_cases hji : (j : Int) = i
    · rw [if_pos (by simpa using hji)]
      simp only [bind_some', hji, bne_self_eq_false, Bool.false_and, Bool.false_eq_true, if_false]
      rw [← hji, w64s (by omega)]
    · rw [if_neg (by simpa using hji), pends_ok, bind_some', pnbr2 N (by omega), bind_some']
      have hb : ((j : Int) != i) = true := by simpa using hji
      rw [hb, Bool.true_and]
      by_cases hc : (endsP x).contains n = true
      · rw [if_pos hc, if_pos hc]; rfl
      · rw [if_neg hc, if_neg hc]
        simp only [bind_some']
        rw [w64s (by omega)]) l.length N 0 (by omega) (by omega)
  simpa using h
theorem rnbr_ok (N : Nat) {l : List PlantElement} (hN : l.length + 4 ≤ N) (hl : l.length ≤ 1000000) (i n : Int) : r26_Neighbour N l i n = some (nbr l i n) := by
  unfold r26_Neighbour
  refine nbr_fin ?_
  have h := first_gen (l := l) (nbrB i n) (fun k _ => (k : Int)) (fun m j => r26_Neighbour_0 N l i n m j) (fun m => by
    show r26_Neighbour_0 N l i n (m + 1) _ = _
    rw [r26_Neighbour_0, if_neg (dneg (by omega))]) (fun m j x hx => by
    show r26_Neighbour_0 N l i n (m + 1) _ = _
    have hlt := (List.getElem?_eq_some_iff.1 hx).1
    have hlen := endsP_len x
    rw [r26_Neighbour_0, if_pos (dpos (by omega))]
    unfold r26_Neighbour_1 nbrB
    by_cases hji : (j : Int) = i
    · have hb : ((j : Int) != i) = false := by simpa using hji
      rw [hb, Bool.false_and]
      simp only [Bool.false_eq_true, if_false, bind_some', lt_def]
      rw [w64s (by omega)]
    · have hb : ((j : Int) != i) = true := by simpa using hji
      rw [hb, if_pos rfl, rEnds_ok, bind_some', eI_nat hx, rhas_ok N (by omega) (by omega), bind_some', bind_some', Bool.true_and, lt_def, w64s (by omega)]) l.length N 0 (by omega) (by omega)
  simpa using h
/-! ### Through -/
def thrE (e : List Int) (n : Int) : List Int := if e.contains n = true then (if e.head? = some n then e.tail else e.take 1) else []
def thr (l : List PlantElement) (i n : Int) : List Int := thrE (eI l i) n
theorem pthr_loop (N : Nat) (n : Int) {e : List Int} (he : e.length ≤ 3) : plant_Through_0 N n e.length 4 e 0 = some (if e.contains n = true then .inr (thrE e n) else .inl ()) := by
  match e, he with
  | [], _ => rfl
  | [a], _ =>
    by_cases h : a = n
    · subst h
      simp [plant_Through_0, getI, bind_some', lt_def, cutI, thrE, w64s]
    · have h' : ¬ n = a := fun hh => h hh.symm
      simp [plant_Through_0, getI, bind_some', lt_def, cutI, thrE, h, h', w64]
  | [a, b], _ =>
    by_cases h : a = n
    · subst h
      simp [plant_Through_0, getI, bind_some', lt_def, cutI, thrE, w64s]
    · have h' : ¬ n = a := fun hh => h hh.symm
      by_cases h2 : b = n
      · subst h2
        simp [plant_Through_0, getI, bind_some', lt_def, cutI, thrE, h, h', w64]
      · have h2' : ¬ n = b := fun hh => h2 hh.symm
        simp [plant_Through_0, getI, bind_some', lt_def, cutI, thrE, h, h', h2, h2', w64]
  | [a, b, c], _ =>
    by_cases h : a = n
    · subst h
      simp [plant_Through_0, getI, bind_some', lt_def, cutI, thrE, w64s]
    · have h' : ¬ n = a := fun hh => h hh.symm
      by_cases h2 : b = n
      · subst h2
        simp [plant_Through_0, getI, bind_some', lt_def, cutI, thrE, h, h', w64]
      · have h2' : ¬ n = b := fun hh => h2 hh.symm
        by_cases h3 : c = n
        · subst h3
          simp [plant_Through_0, getI, bind_some', lt_def, cutI, thrE, h, h', h2, h2', w64]
        · have h3' : ¬ n = c := fun hh => h3 hh.symm
          simp [plant_Through_0, getI, bind_some', lt_def, cutI, thrE, h, h', h2, h2', h3, h3', w64]
  | a :: b :: c :: d :: e, h => simp at h
theorem pthr0_mono {N : Nat} {n m : Int} : ∀ {k k' : Nat} {e : List Int} {i : Int} {r : Sum Unit (List Int)}, k ≤ k' → plant_Through_0 N n m k e i = some r → plant_Through_0 N n m k' e i = some r
  | 0, _, _, _, _, _, h => by cases h
  | k + 1, 0, _, _, _, hk, _ => by omega
  | k + 1, k' + 1, e, i, r, hk, h => by
    rw [plant_Through_0] at h ⊢
    split at h
    · rename_i hc
      rw [if_pos hc]
      cases h1 : getI e i with
      | none => rw [h1] at h; cases h
      | some a =>
        rw [h1] at h
        simp only [bind_some'] at h ⊢
        split at h
        · rename_i hn
          rw [if_pos hn]
          exact pthr0_mono (by omega) h
        · rename_i hn
          rw [if_neg hn]
          exact h
    · rename_i hc
      rw [if_neg hc]
      exact h
theorem pthr_ok (N : Nat) (hN : 4 ≤ N) (l : List PlantElement) (i n : Int) : plant_Through N l i n = some (thr l i n) := by
  unfold plant_Through thr
  rw [pEnds_ok, bind_some', pthr0_mono hN (pthr_loop N n (eI_len l i)), bind_some']
  by_cases hc : (eI l i).contains n = true
  · rw [if_pos hc]
  · rw [if_neg hc, thrE, if_neg hc]
theorem rthr_ok (N : Nat) (hN : 4 ≤ N) (l : List PlantElement) (i n : Int) : r26_Through N l i n = some (thr l i n) := by
  unfold r26_Through thr
  have hl := eI_len l i
  rw [rEnds_ok, bind_some', rhas_ok N (by omega) (by omega), bind_some', lt_def]
  generalize eI l i = e at *
  unfold thrE
  by_cases hc : e.contains n = true
  · rw [hc]
    cases e with
    | nil => simp at hc
    | cons a e =>
      simp only [Bool.not_true, Bool.false_eq_true, if_false, getI, Int.le_refl, if_true, Int.toNat_zero, List.getElem?_cons_zero, bind_some', lt_def, List.head?_cons, List.tail_cons]
      by_cases ha : a = n
      · subst ha
        have := cutI_drop (xs := a :: e) (i := 1) (by simp)
        simp only [beq_self_eq_true, if_true]
        rw [show (1 : Int) = ((1 : Nat) : Int) from rfl, this, bind_some', appI_ok (by simp at hl ⊢; omega), bind_some']
        simp
      · have : (a == n) = false := by simpa using ha
        rw [this]
        simp [ha]
  · simp only [Bool.not_eq_true] at hc
    rw [hc]
    simp
end Go.W
end
section
set_option linter.unusedVariables false
set_option linter.unusedSimpArgs false
namespace Go.W
open Go.AM
/-! ### Names -/
def pnCh (u : UInt8) : Bool := (decide (97 ≤ u.toNat) && decide (u.toNat ≤ 122)) || (decide (48 ≤ u.toNat) && decide (u.toNat ≤ 57))
def pnOk (l : List UInt8) : Bool := l.all pnCh && (decide (1 ≤ l.length) && decide (l.length ≤ 12))
theorem pname2 (N : Nat) {l : List UInt8} {i : Nat} {u : UInt8} (h : l[i]? = some u) : plant_name_2 N l i = some (!pnCh u) := by
  unfold plant_name_2 pnCh
  rw [getI_nat h]
  simp only [bind_some']
  by_cases a : 97 ≤ u.toNat
  · rw [if_neg (by simp; omega)]
    by_cases b : u.toNat ≤ 122
    · rw [if_neg (by simp; omega)]; simp [a, b]
    · rw [if_pos (by simp; omega), if_neg (by simp; omega)]
      simp [a, b, show ¬ u.toNat ≤ 57 by omega, show (57 : Int) < u.toNat by omega]
  · rw [if_pos (by simp; omega)]
    by_cases c : u.toNat < 48
    · rw [if_pos (by simp; omega)]; simp [a, show ¬ 48 ≤ u.toNat by omega]
    · rw [if_neg (by simp; omega)]
      by_cases d : u.toNat ≤ 57
      · simp [a, show 48 ≤ u.toNat by omega, d, show ¬ (57 : Int) < u.toNat by omega]
      · simp [a, show 48 ≤ u.toNat by omega, d, show (57 : Int) < u.toNat by omega]
theorem rname1 (N : Nat) {l : List UInt8} {i : Nat} {u : UInt8} (h : l[i]? = some u) : r06_Name_1 N l i = some (!pnCh u) := by
  unfold r06_Name_1 pnCh
  rw [getI_nat h]
  simp only [bind_some']
  by_cases a : 97 ≤ u.toNat
  · rw [if_pos (by simp; omega)]
    by_cases b : u.toNat ≤ 122
    · rw [if_pos (by simp; omega)]; simp [a, b]
    · rw [if_neg (by simp; omega)]
      by_cases c : 48 ≤ u.toNat
      · rw [if_pos (by simp; omega)]; simp [a, b, c]; omega
      · omega
  · rw [if_neg (by simp; omega)]
    by_cases c : 48 ≤ u.toNat
    · rw [if_pos (by simp; omega)]
      simp [a, c]
      omega
    · rw [if_neg (by simp; omega)]; simp [a, c]
theorem res_all {α β : Type} (p : α → Bool) (b : β) : ∀ (l : List α) (i : Nat), res (fun _ y => !p y) (fun _ _ => b) i l = if l.all p = true then .inl () else .inr b
  | [], i => rfl
  | y :: l, i => by
    rw [res, List.all_cons]
    by_cases h : p y = true
    · rw [h]; simp only [Bool.not_true, Bool.false_eq_true, if_false, Bool.true_and]; exact res_all p b l (i + 1)
    · simp only [Bool.not_eq_true] at h
      rw [h]; simp
theorem pname_ok (N : Nat) {l : List UInt8} (hN : 14 ≤ N) : plant_name N l = some (pnOk l) := by
  unfold plant_name plant_name_0 pnOk
  by_cases h1 : l.length < 1
  · rw [if_pos (dpos (by omega)), bind_some', if_pos rfl]
    simp [show ¬ 1 ≤ l.length by omega]
  · rw [if_neg (dneg (by omega)), bind_some']
    by_cases h2 : 12 < l.length
    · rw [if_pos (by simpa using by omega)]
      simp [show ¬ l.length ≤ 12 by omega]
    · rw [if_neg (by simpa using by omega)]
      have h := first_gen (l := l) (fun _ y => !pnCh y) (fun _ _ => false) (fun m i => plant_name_1 N l l.length m i) (fun m => by
        show plant_name_1 N l l.length (m + 1) _ = _
        rw [plant_name_1, if_neg (dneg (by omega))]) (fun m i y hy => by
        show plant_name_1 N l l.length (m + 1) _ = _
        have hlt := (List.getElem?_eq_some_iff.1 hy).1
        rw [plant_name_1, if_pos (dpos (by omega)), pname2 N hy, bind_some', w64s (by omega)]) l.length N 0 (by omega) (by omega)
      simp only [Int.natCast_zero, List.drop_zero] at h
      rw [h, res_all pnCh, bind_some']
      by_cases h3 : l.all pnCh = true
      · rw [if_pos h3, h3]; simp [show 1 ≤ l.length by omega, show l.length ≤ 12 by omega]
      · rw [if_neg h3]; simp only [Bool.not_eq_true] at h3; rw [h3]; simp
theorem rname_ok (N : Nat) {l : List UInt8} (hN : l.length < N) (hl : l.length ≤ 9223372036854775807) : r06_Name N l = some (pnOk l) := by
  unfold r06_Name pnOk
  have h := first_gen (l := l) (fun _ y => !pnCh y) (fun _ _ => false) (fun m i => r06_Name_0 N l m i) (fun m => by
    show r06_Name_0 N l (m + 1) _ = _
    rw [r06_Name_0, if_neg (dneg (by omega))]) (fun m i y hy => by
    show r06_Name_0 N l (m + 1) _ = _
    have hlt := (List.getElem?_eq_some_iff.1 hy).1
    rw [r06_Name_0, if_pos (dpos (by omega)), rname1 N hy, bind_some', lt_def, w64s (by omega)]) l.length N 0 (by omega) (by omega)
  simp only [Int.natCast_zero, List.drop_zero] at h
  rw [h, res_all pnCh, bind_some']
  by_cases h3 : l.all pnCh = true
  · rw [if_pos h3, h3]
    unfold r06_Name_2
    by_cases a : 1 ≤ l.length
    · rw [if_pos (lpos (by omega))]; simp only [lt_def, bind_some', decide_eq_true a, Bool.true_and]; congr 1; rw [decide_eq_decide]; omega
    · rw [if_neg (lneg (by omega))]; simp [a, bind_some']
  · rw [if_neg h3]; simp only [Bool.not_eq_true] at h3; rw [h3]; simp
/-! ### One element -/
def pE (e : List Int) (i : Nat) (a : Int) : Bool := (decide (a < 0) || decide (64 ≤ a)) || (e.take i).contains a
def okE (e : List Int) : Bool := match res (pE e) (fun _ _ => false) 0 e with | .inl _ => true | .inr _ => false
def soundP (x : PlantElement) : Bool :=
  (!(endsP x).isEmpty && pnOk x.name) && (okE (endsP x) && if x.kind = 1 then x.c == 0 && (decide (1 ≤ x.length) && decide (x.length ≤ 100000)) else x.length == 0 && (x.kind == 2 || x.c == 0))
theorem res_none {α β : Type} {p : Nat → α → Bool} {out : Nat → α → β} : ∀ {l : List α} {i : Nat}, res p out i l = .inl () ↔ ∀ (j : Nat) (x : α), l[j]? = some x → p (i + j) x = false
  | [], i => by simp [res]
  | x :: l, i => by
    rw [res]
    by_cases h : p i x = true
    · rw [if_pos h]
      constructor
      · intro hh; cases hh
      · intro hh
        have := hh 0 x rfl
        rw [Nat.add_zero, h] at this; cases this
    · rw [if_neg h, res_none]
      simp only [Bool.not_eq_true] at h
      constructor
      · intro hh j y hj
        cases j with
        | zero => simp at hj; subst hj; exact h
        | succ j => have := hh j y (by simpa using hj); rwa [show i + 1 + j = i + (j + 1) by omega] at this
      · intro hh j y hj
        have := hh (j + 1) y (by simpa using hj)
        rwa [show i + (j + 1) = i + 1 + j by omega] at this
theorem okE_iff {e : List Int} : okE e = true ↔ e.Nodup ∧ ∀ a ∈ e, 0 ≤ a ∧ a < 64 := by
  have h1 : okE e = true ↔ res (pE e) (fun _ _ => false) 0 e = .inl () := by
    unfold okE
    split
    · rename_i u h; simp [h]
    · rename_i u h; simp [h]
  rw [h1, res_none]
  constructor
  · intro h
    refine ⟨?_, fun a ha => ?_⟩
    · refine List.pairwise_iff_getElem.2 fun i j hi hj hij heq => ?_
      have hj' := at_lt hj
      have := h j _ hj'
      rw [Nat.zero_add] at this
      simp only [pE, Bool.or_eq_false_iff, List.contains_eq_mem, decide_eq_false_iff_not] at this
      apply this.2
      refine List.mem_of_getElem? (i := i) ?_
      rw [List.getElem?_take, if_pos hij, at_lt hi, heq]
    · obtain ⟨j, hj⟩ := List.getElem?_of_mem ha
      have := h j a hj
      simp only [pE, Bool.or_eq_false_iff, decide_eq_false_iff_not] at this
      omega
  · rintro ⟨h2, h3⟩ j x hj
    rw [Nat.zero_add]
    have := h3 x (List.mem_of_getElem? hj)
    simp only [pE, Bool.or_eq_false_iff, decide_eq_false_iff_not]
    refine ⟨⟨by omega, by omega⟩, ?_⟩
    simp only [List.contains_eq_mem, decide_eq_false_iff_not]
    intro hm
    obtain ⟨i, hi⟩ := List.getElem?_of_mem hm
    rw [List.getElem?_take] at hi
    split at hi
    · rename_i hij
      have hjl := (List.getElem?_eq_some_iff.1 hj).1
      obtain ⟨hil, hi⟩ := List.getElem?_eq_some_iff.1 hi
      obtain ⟨_, hj⟩ := List.getElem?_eq_some_iff.1 hj
      exact List.pairwise_iff_getElem.1 h2 i j hil hjl hij (by rw [hi, hj])
    · cases hi
theorem psound3 (N : Nat) {e : List Int} (hN : e.length < N) (hl : e.length ≤ 1000000) (a : Int) : plant_sound_o_3 N a e e.length N 0 = some (if e.contains a = true then .inr false else .inl ()) := by
  have h := first_gen (l := e) (fun _ y => y == a) (fun _ _ => false) (fun m i => plant_sound_o_3 N a e e.length m i) (fun m => by
    show plant_sound_o_3 N a e e.length (m + 1) _ = _
    rw [plant_sound_o_3, if_neg (dneg (by omega))]) (fun m i y hy => by
    show plant_sound_o_3 N a e e.length (m + 1) _ = _
    have hlt := (List.getElem?_eq_some_iff.1 hy).1
    rw [plant_sound_o_3, if_pos (dpos (by omega)), getI_nat hy, bind_some', w64s (by omega)]
    by_cases hay : a = y
    · rw [if_pos (by simpa using hay), if_pos (by simpa using hay.symm)]
    · rw [if_neg (by simpa using hay), if_neg (by simpa using fun hh : y = a => hay hh.symm)]) e.length N 0 hN (by omega)
  simp only [Int.natCast_zero, List.drop_zero] at h
  rw [h]
  congr 1
  have key : ∀ (e : List Int) (i : Nat), res (fun _ y => y == a) (fun _ _ => false) i e = if (e.any fun y => y == a) = true then .inr false else .inl () := by
    intro e
    induction e with
    | nil => intro i; rfl
    | cons y e ih =>
      intro i
      rw [res, List.any_cons]
      by_cases h : (y == a) = true
      · simp [h]
      · simp only [Bool.not_eq_true] at h
        rw [h, if_neg (by simp), ih, Bool.false_or]
  rw [key, any_eq]
theorem psound1 (N : Nat) (hN : 10 ≤ N) {e : List Int} (he : e.length ≤ 3) : plant_sound_o_1 N e e e.length N 0 = some (res (pE e) (fun _ _ => false) 0 e) := by
  have h := first_gen (l := e) (pE e) (fun _ _ => false) (fun m i => plant_sound_o_1 N e e e.length m i) (fun m => by
    show plant_sound_o_1 N e e e.length (m + 1) _ = _
    rw [plant_sound_o_1, if_neg (dneg (by omega))]) (fun m i a ha => by
    show plant_sound_o_1 N e e e.length (m + 1) _ = _
    have hlt := (List.getElem?_eq_some_iff.1 ha).1
    rw [plant_sound_o_1, if_pos (dpos (by omega)), getI_nat ha, bind_some']
    unfold plant_sound_o_2 pE
    by_cases h0 : a < 0
    · rw [if_pos (dpos h0), bind_some']; simp [h0]
    · rw [if_neg (dneg h0), bind_some']
      by_cases h1 : 64 ≤ a
      · simp [h1]
      · rw [if_neg (by simpa using by omega), cutI_take (by omega), bind_some', psound3 N (by rw [List.length_take]; omega) (by rw [List.length_take]; omega), bind_some']
        have e1 : decide (a < 0) = false := by simpa using by omega
        have e2 : decide (64 ≤ a) = false := by simpa using by omega
        rw [e1, e2, Bool.false_or, Bool.false_or]
        by_cases hc : (e.take i).contains a = true
        · rw [if_pos hc, if_pos hc]
        · rw [if_neg hc, if_neg hc]
          simp only []
          rw [w64s (by omega)]) e.length N 0 (by omega) (by omega)
  simpa using h
theorem rsound1 (N : Nat) (hN : 10 ≤ N) {e : List Int} (he : e.length ≤ 3) : r26_sound_1 N e N 0 = some (res (pE e) (fun _ _ => false) 0 e) := by
  have h := first_gen (l := e) (pE e) (fun _ _ => false) (fun m i => r26_sound_1 N e m i) (fun m => by
    show r26_sound_1 N e (m + 1) _ = _
    rw [r26_sound_1, if_neg (dneg (by omega))]) (fun m i a ha => by
    show r26_sound_1 N e (m + 1) _ = _
    have hlt := (List.getElem?_eq_some_iff.1 ha).1
    rw [r26_sound_1, if_pos (dpos (by omega))]
    unfold r26_sound_2 pE
    rw [getI_nat ha]
    simp only [bind_some']
    by_cases h0 : a < 0
    · rw [if_pos (dpos h0), bind_some']; simp [h0]
    · rw [if_neg (dneg h0)]
      by_cases h1 : 64 ≤ a
      · rw [if_pos (lpos h1), bind_some']; simp [h1]
      · rw [if_neg (lneg h1), cutI_take (by omega), bind_some', rhas_ok N (by rw [List.length_take]; omega) (by rw [List.length_take]; omega), bind_some', bind_some']
        have e1 : decide (a < 0) = false := by simpa using by omega
        have e2 : decide (64 ≤ a) = false := by simpa using by omega
        rw [e1, e2, Bool.false_or, Bool.false_or, lt_def, w64s (by omega)]) e.length N 0 (by omega) (by omega)
  simpa using h
theorem psoundo_ok (N : Nat) (hN : 20 ≤ N) (x : PlantElement) (hx : endsP x ≠ [] ∨ pnOk x.name = false) : plant_sound_o N x = some (soundP x) := by
  unfold plant_sound_o soundP plant_sound_o_0
  have he := endsP_len x
  rw [pends_ok, bind_some', pname_ok N (by omega)]
  by_cases hne : endsP x = []
  · have hn : pnOk x.name = false := by rcases hx with h | h; exact absurd hne h; exact h
    rw [hne, hn]
    simp [nilT, bind_some']
  · have hnil : ∀ {β : Type} (f : Bool → Option β), nilT (endsP x) f = f false := fun f => by unfold nilT; rw [if_neg hne]
    rw [hnil]
    have hie : (endsP x).isEmpty = false := by cases h : endsP x with | nil => exact absurd h hne | cons _ _ => rfl
    simp only [Bool.false_eq_true, if_false, bind_some', hie, Bool.not_false, Bool.true_and]
    by_cases hn : pnOk x.name = true
    · rw [hn]
      simp only [Bool.not_true, Bool.false_eq_true, if_false, Bool.true_and]
      rw [psound1 N (by omega) he, bind_some']
      unfold okE
      cases hr : res (pE (endsP x)) (fun _ _ => false) 0 (endsP x) with
      | inr b =>
        have : b = false := by
          have key : ∀ (e : List Int) (i : Nat) (b : Bool), res (pE (endsP x)) (fun _ _ => false) i e = .inr b → b = false := by
            intro e
            induction e with
            | nil => intro i b h; cases h
            | cons y e ih =>
              intro i b h
              rw [res] at h
              split at h
              · cases h; rfl
              · exact ih _ _ h
          exact key _ _ _ hr
        subst this
        simp
      | inl u =>
        simp only [Bool.true_and]
        by_cases h1 : x.kind = 1
        · rw [if_pos (by simpa using h1), if_pos h1]
          unfold plant_sound_o_4
          by_cases hc : x.c = 0
          · rw [if_pos (by simpa using hc)]
            by_cases ha : 1 ≤ x.length
            · rw [if_pos (lpos ha)]; simp [lt_def, bind_some', hc, ha]
            · rw [if_neg (lneg ha)]; simp [bind_some', ha]
          · rw [if_neg (by simpa using hc)]; simp [bind_some', hc]
        · rw [if_neg (by simpa using h1), if_neg h1]
          unfold plant_sound_o_5
          by_cases ha : x.length = 0
          · rw [if_pos (by simpa using ha)]
            by_cases h2 : x.kind = 2
            · rw [if_pos (by simpa using h2)]; simp [bind_some', ha, h2]
            · rw [if_neg (by simpa using h2)]; simp [lt_def, bind_some', ha, h2]
          · rw [if_neg (by simpa using ha)]; simp [bind_some', ha]
    · simp only [Bool.not_eq_true] at hn
      rw [hn]; simp
theorem pendsn_ok (N : Nat) (x : PlantElement) : plant_ends_nil N x = if endsP x = [] then some () else none := by
  unfold plant_ends_nil plant_ends_nil_0 endsP
  simp only [lt_def]
  by_cases h1 : x.kind = 1
  · simp [h1, bind_some']
  · by_cases h3 : x.kind = 3
    · simp [h3, bind_some']
    · by_cases h2 : x.kind = 2
      · simp [h2, bind_some']
      · simp [h1, h2, h3, bind_some']
theorem psound_ok (N : Nat) (hN : 20 ≤ N) (x : PlantElement) : plant_sound N x = some (soundP x) := by
  unfold plant_sound plant_sound_n
  rw [pendsn_ok]
  by_cases he : endsP x = []
  · rw [if_pos he, bind_some']
    have h0 : plant_sound_n_0 N = some true := rfl
    rw [h0, bind_some', if_pos rfl]
    unfold soundP
    rw [he]
    rfl
  · rw [if_neg he, psoundo_ok N hN x (.inl he)]
    rfl
theorem rsound_ok (N : Nat) {l : List PlantElement} {i : Nat} {x : PlantElement} (hx : l[i]? = some x) (hN : 20 ≤ N) (hn : x.name.length < N) (hn2 : x.name.length ≤ 9223372036854775807) : r26_sound N l i = some (soundP x) := by
  unfold r26_sound soundP r26_sound_0
  have he := endsP_len x
  rw [getI_nat hx, bind_some', rEnds_ok, eI_nat hx, bind_some', rname_ok N hn hn2]
  by_cases hne : endsP x = []
  · rw [hne]; simp [bind_some']
  · have hie : (endsP x).isEmpty = false := by cases h : endsP x with | nil => exact absurd h hne | cons _ _ => rfl
    have hlen : ((endsP x).length : Int) ≠ 0 := by cases h : endsP x with | nil => exact absurd h hne | cons _ _ => simp; omega
    rw [if_neg (by simpa using hlen)]
    simp only [bind_some', hie, Bool.not_false, Bool.true_and]
    by_cases hnm : pnOk x.name = true
    · rw [hnm]
      simp only [Bool.not_true, Bool.false_eq_true, if_false, Bool.true_and]
      rw [rsound1 N (by omega) he, bind_some']
      unfold okE
      cases hr : res (pE (endsP x)) (fun _ _ => false) 0 (endsP x) with
      | inr b =>
        have : b = false := by
          have key : ∀ (e : List Int) (i : Nat) (b : Bool), res (pE (endsP x)) (fun _ _ => false) i e = .inr b → b = false := by
            intro e
            induction e with
            | nil => intro i b h; cases h
            | cons y e ih =>
              intro i b h
              rw [res] at h
              split at h
              · cases h; rfl
              · exact ih _ _ h
          exact key _ _ _ hr
        subst this
        simp
      | inl u =>
        simp only [Bool.true_and]
        unfold r26_sound_3
        have hl2 : ((endsP x).length : Int) = 2 ↔ (x.kind = 1 ∨ x.kind = 3) := by
          unfold endsP
          split
          · rename_i h; simp [h]
          · rename_i h
            split
            · simp [h]
            · simp [h]
        by_cases h1 : x.kind = 1
        · rw [if_pos (by simpa using hl2.2 (.inl h1)), bind_some', if_pos h1]
          by_cases hc : x.c = 0
          · unfold r26_sound_4
            by_cases ha : 1 ≤ x.length
            · simp [lt_def, bind_some', hc, ha, h1]
            · simp [bind_some', ha, h1, hc]
          · simp [hc]
        · by_cases h3 : x.kind = 3
          · rw [if_pos (by simpa using hl2.2 (.inr h3)), bind_some', if_neg h1]
            by_cases hc : x.c = 0
            · simp [lt_def, hc, h3]
            · simp [hc, h3]
          · have h2 : x.kind = 2 := by
              have := hne
              unfold endsP at this
              rw [if_neg (by omega)] at this
              split at this
              · assumption
              · exact absurd rfl this
            have hl : ¬ ((endsP x).length : Int) = 2 := by rw [hl2]; omega
            rw [if_neg (by simpa using hl), bind_some', if_neg h1]
            simp [lt_def, h2]
    · simp only [Bool.not_eq_true] at hnm
      rw [hnm]; simp
end Go.W
end
section
set_option linter.unusedVariables false
set_option linter.unusedSimpArgs false
namespace Go.W
open Go.AM
/-- In how many elements a node stands. -/
def cnt (l : List PlantElement) (n : Int) : Int := ((l.filter fun x => (endsP x).contains n).length : Int)
theorem cnt_nonneg (l : List PlantElement) (n : Int) : 0 ≤ cnt l n := by unfold cnt; omega
theorem cnt_le (l : List PlantElement) (n : Int) : cnt l n ≤ l.length := by unfold cnt; have := List.length_filter_le (fun x => (endsP x).contains n) l; omega
theorem take_at {α : Type} {l : List α} {i : Nat} {x : α} (h : l[i]? = some x) : l.take (i + 1) = l.take i ++ [x] := by
  rw [List.take_add_one, h]; rfl
theorem cnt_app (l : List PlantElement) (x : PlantElement) (n : Int) : cnt (l ++ [x]) n = cnt l n + if n ∈ endsP x then 1 else 0 := by
  unfold cnt
  rw [List.filter_append]
  by_cases h : n ∈ endsP x
  · simp [h]
  · simp [h]
/-- What is wrong with an element, those before it being sound. -/
def codeAt (l : List PlantElement) (i : Nat) (x : PlantElement) : Int :=
  if soundP x = false then 1 else if ((l.take i).any fun y => y.name == x.name) = true then 8 else if ((endsP x).any fun n => cnt (l.take i) n == 2) = true then 17 else 0
def pC (l : List PlantElement) (i : Nat) (x : PlantElement) : Bool := codeAt l i x != 0
def vErr (l : List PlantElement) : Int := if 96 < l.length then 3 else match res (pC l) (codeAt l) 0 l with | .inl _ => 0 | .inr c => c
structure VInv (l : List PlantElement) (i : Nat) (x3 : List (List UInt8 × Bool)) (x4 : List (Int × Int)) : Prop where
  nm : ∀ k, (mpGet x3 k).getD false = (l.take i).any fun y => y.name == k
  ct : ∀ n, (mpGet x4 n).getD 0 = cnt (l.take i) n
theorem pv1 (N : Nat) {e : List Int} (hd : e.Nodup) (hl : e.length ≤ 3) : ∀ (k n i : Nat) (x4 : List (Int × Int)), k < n → i + k = e.length → (∀ a, 0 ≤ (mpGet x4 a).getD 0 ∧ (mpGet x4 a).getD 0 ≤ 1000 + i) →
    (((e.drop i).any fun a => (mpGet x4 a).getD 0 == 2) = true ∧ plant_Valid_1 N e e.length n x4 i = some (.inr 17)) ∨
    (((e.drop i).any fun a => (mpGet x4 a).getD 0 == 2) = false ∧ ∃ x4', plant_Valid_1 N e e.length n x4 i = some (.inl x4') ∧ ∀ m, (mpGet x4' m).getD 0 = (mpGet x4 m).getD 0 + if m ∈ e.drop i then 1 else 0)
  | k, 0, i, x4, hn, _, _ => by omega
  | 0, n + 1, i, x4, hn, hi, hb => by
    obtain rfl : i = e.length := by omega
    rw [plant_Valid_1, if_neg (dneg (by omega)), List.drop_length]
    exact .inr ⟨rfl, x4, rfl, fun m => by simp⟩
  | k + 1, n + 1, i, x4, hn, hi, hb => by
    have hlt : i < e.length := by omega
    have ha := at_lt hlt
    rw [plant_Valid_1, if_pos (dpos (by omega)), getI_nat ha, drop_at ha, List.any_cons]
    simp only [bind_some', lt_def]
    have hba := hb e[i]
    by_cases h2 : (mpGet x4 e[i]).getD 0 = 2
    · have h2' : ((mpGet x4 e[i]).getD 0 == 2) = true := by simpa using h2
      rw [if_pos h2', h2']
      exact .inl ⟨rfl, rfl⟩
    · have h2' : ((mpGet x4 e[i]).getD 0 == 2) = false := by simpa using h2
      rw [if_neg (by rw [h2']; simp), w64s (by omega), w64 (by omega) (by omega), h2', Bool.false_or]
      have hset : ∀ m, (mpGet (mpSet x4 e[i] ((mpGet x4 e[i]).getD 0 + 1)) m).getD 0 = (mpGet x4 m).getD 0 + if m = e[i] then 1 else 0 := by
        intro m
        rw [mpGet_set]
        by_cases hm : m = e[i]
        · subst hm; simp
        · rw [if_neg (fun hh => hm hh.symm), if_neg hm]; simp
      have hnot : e[i] ∉ e.drop (i + 1) := by
        intro hm
        obtain ⟨j, hj⟩ := List.getElem?_of_mem hm
        rw [List.getElem?_drop] at hj
        obtain ⟨hjl, hj⟩ := List.getElem?_eq_some_iff.1 hj
        exact List.pairwise_iff_getElem.1 hd i (i + 1 + j) hlt hjl (by omega) hj.symm
      have hany : ((e.drop (i + 1)).any fun a => (mpGet (mpSet x4 e[i] ((mpGet x4 e[i]).getD 0 + 1)) a).getD 0 == 2) = ((e.drop (i + 1)).any fun a => (mpGet x4 a).getD 0 == 2) := by
        rw [Bool.eq_iff_iff]
        simp only [List.any_eq_true]
        constructor
        · rintro ⟨a, h1, h3⟩
          refine ⟨a, h1, ?_⟩
          rw [hset, if_neg (fun hh => hnot (by rw [← hh]; exact h1)), Int.add_zero] at h3
          exact h3
        · rintro ⟨a, h1, h3⟩
          refine ⟨a, h1, ?_⟩
          rw [hset, if_neg (fun hh => hnot (by rw [← hh]; exact h1)), Int.add_zero]
          exact h3
      have ih := pv1 N hd hl k n (i + 1) (mpSet x4 e[i] ((mpGet x4 e[i]).getD 0 + 1)) (by omega) (by omega) (fun a => by
        rw [hset]
        have := hb a
        split
        · rename_i h; subst h; omega
        · omega)
      rw [hany] at ih
      rcases ih with ⟨g1, g2⟩ | ⟨g1, x4', g2, g3⟩
      · exact .inl ⟨g1, g2⟩
      · refine .inr ⟨g1, x4', g2, fun m => ?_⟩
        rw [g3 m, hset m]
        by_cases hm : m = e[i]
        · subst hm
          rw [if_pos rfl, if_neg hnot, if_pos List.mem_cons_self]; omega
        · rw [if_neg hm]
          by_cases hm2 : m ∈ e.drop (i + 1)
          · rw [if_pos hm2, if_pos (List.mem_cons_of_mem _ hm2)]; omega
          · rw [if_neg hm2, if_neg (by simp only [List.mem_cons, not_or]; exact ⟨hm, hm2⟩)]; omega
theorem soundP_ends {x : PlantElement} (h : soundP x = true) : (endsP x).Nodup ∧ (∀ a ∈ endsP x, 0 ≤ a ∧ a < 64) ∧ endsP x ≠ [] ∧ pnOk x.name = true := by
  unfold soundP at h
  simp only [Bool.and_eq_true, Bool.not_eq_true'] at h
  obtain ⟨h1, h2⟩ := okE_iff.1 h.2.1
  exact ⟨h1, h2, fun hh => by rw [hh] at h; simp at h, h.1.2⟩
theorem pvalid_loop (N : Nat) (hN : 100 ≤ N) {l : List PlantElement} (hl : l.length ≤ 96) : ∀ (k n i : Nat) (x3 : List (List UInt8 × Bool)) (x4 : List (Int × Int)), k < n → i + k = l.length → VInv l i x3 x4 →
    plant_Valid_0 N l l.length n x3 x4 i = some (res (pC l) (codeAt l) i (l.drop i))
  | k, 0, i, x3, x4, hn, _, _ => by omega
  | 0, n + 1, i, x3, x4, hn, hi, hI => by
    obtain rfl : i = l.length := by omega
    rw [plant_Valid_0, if_neg (dneg (by omega)), List.drop_length]
    rfl
  | k + 1, n + 1, i, x3, x4, hn, hi, hI => by
    have hlt : i < l.length := by omega
    have hx := at_lt hlt
    rw [plant_Valid_0, if_pos (dpos (by omega)), getI_nat hx, drop_at hx, res, bind_some', psound_ok N (by omega) _, bind_some']
    unfold pC
    by_cases hsd : soundP l[i] = true
    case neg =>
      simp only [Bool.not_eq_true] at hsd
      have hc : codeAt l i l[i] = 1 := by unfold codeAt; rw [if_pos hsd]
      rw [hsd, hc]; simp
    obtain ⟨e1, e2, e3, e4⟩ := soundP_ends hsd
    rw [hsd]
    simp only [Bool.not_true, Bool.false_eq_true, if_false, lt_def, hI.nm]
    by_cases hnm : ((l.take i).any fun y => y.name == l[i].name) = true
    · have hc : codeAt l i l[i] = 8 := by unfold codeAt; rw [if_neg (by rw [hsd]; simp), if_pos hnm]
      rw [if_pos hnm, hc]; simp
    · rw [if_neg hnm, pends_ok, bind_some']
      have hb : ∀ a, 0 ≤ (mpGet x4 a).getD 0 ∧ (mpGet x4 a).getD 0 ≤ 1000 + (0 : Nat) := fun a => by
        rw [hI.ct]
        have h1 := cnt_nonneg (l.take i) a
        have h2 := cnt_le (l.take i) a
        rw [List.length_take] at h2
        omega
      have hany : ((endsP l[i]).any fun a => (mpGet x4 a).getD 0 == 2) = ((endsP l[i]).any fun a => cnt (l.take i) a == 2) := by simp only [hI.ct]
      have h3 := endsP_len l[i]
      have := pv1 N e1 h3 (endsP l[i]).length N 0 x4 (by omega) (by omega) hb
      rw [List.drop_zero, hany] at this
      rcases this with ⟨g1, g2⟩ | ⟨g1, x4', g2, g3⟩
      · have hc : codeAt l i l[i] = 17 := by unfold codeAt; rw [if_neg (by rw [hsd]; simp), if_neg hnm, if_pos g1]
        have g2 : plant_Valid_1 N (endsP l[i]) (endsP l[i]).length N x4 0 = some (.inr 17) := g2
        rw [g2, hc]; simp [bind_some']
      · have hc : codeAt l i l[i] = 0 := by unfold codeAt; rw [if_neg (by rw [hsd]; simp), if_neg hnm, if_neg (by rw [g1]; simp)]
        have g2 : plant_Valid_1 N (endsP l[i]) (endsP l[i]).length N x4 0 = some (.inl x4') := g2
        rw [g2, hc]
        simp only [bind_some', bne_self_eq_false, Bool.false_eq_true, if_false]
        rw [w64s (by omega)]
        refine pvalid_loop N hN hl k n (i + 1) _ x4' (by omega) (by omega) ⟨fun q => ?_, fun m => ?_⟩
        · rw [mpGet_set, take_at hx, List.any_append]
          by_cases hq : l[i].name = q
          · rw [if_pos hq]; simp [hq]
          · rw [if_neg hq, hI.nm]; simp [hq]
        · rw [g3 m, hI.ct, take_at hx, cnt_app]
theorem pvalid_ok (N : Nat) (hN : 100 ≤ N) {l : List PlantElement} : plant_Valid N l = some (vErr l) := by
  unfold plant_Valid vErr
  by_cases hl : 96 < l.length
  · rw [if_pos (by simpa using by omega), if_pos hl]
  · rw [if_neg (by simpa using by omega), if_neg hl]
    have h := pvalid_loop N hN (l := l) (by omega) l.length N 0 [] [] (by omega) (by omega) ⟨fun k => by simp [mpGet], fun n => by simp [mpGet, cnt]⟩
    simp only [Int.natCast_zero, List.drop_zero] at h
    rw [h, bind_some']
    cases res (pC l) (codeAt l) 0 l <;> rfl
/-! ### The reference -/
structure RInv (l : List PlantElement) (i : Nat) (x3 : List Int) : Prop where
  len : x3.length = 64
  ct : ∀ n : Nat, n < 64 → x3[n]? = some (cnt (l.take i) (n : Int))
theorem RInv.get {l : List PlantElement} {i : Nat} {x3 : List Int} (h : RInv l i x3) {a : Int} (h0 : 0 ≤ a) (h1 : a < 64) : getI x3 a = some (cnt (l.take i) a) := by
  obtain ⟨n, rfl⟩ := Int.eq_ofNat_of_zero_le h0
  have := h.ct n (by omega)
  exact getI_nat this
theorem rv1 (N : Nat) {l : List PlantElement} {i : Nat} {x : PlantElement} (hx : l[i]? = some x) (hN : l.length < N) (hl : l.length ≤ 96) : r26_Valid_1 N l i N 0 = some (if ((l.take i).any fun y => y.name == x.name) = true then .inr 8 else .inl ()) := by
  have hi := (List.getElem?_eq_some_iff.1 hx).1
  have hlen : (l.take i).length = i := by rw [List.length_take]; omega
  have h := first_gen (l := l.take i) (fun _ y => y.name == x.name) (fun _ _ => (8 : Int)) (fun m j => r26_Valid_1 N l i m j) (fun m => by
    show r26_Valid_1 N l i (m + 1) _ = _
    rw [hlen, r26_Valid_1, if_neg (dneg (by omega))]) (fun m j y hy => by
    show r26_Valid_1 N l i (m + 1) _ = _
    have hlt := (List.getElem?_eq_some_iff.1 hy).1
    rw [hlen] at hlt
    rw [List.getElem?_take, if_pos hlt] at hy
    rw [r26_Valid_1, if_pos (dpos (by omega)), getI_nat hy, bind_some', getI_nat hx, bind_some', lt_def, w64s (by omega)]) i N 0 (by omega) (by rw [hlen]; omega)
  simp only [Int.natCast_zero, List.drop_zero] at h
  rw [h]
  congr 1
  have key : ∀ (q : List PlantElement) (j : Nat), res (fun _ y => y.name == x.name) (fun _ _ => (8 : Int)) j q = if (q.any fun y => y.name == x.name) = true then .inr 8 else .inl () := by
    intro q
    induction q with
    | nil => intro j; rfl
    | cons y q ih =>
      intro j
      rw [res, List.any_cons]
      by_cases h : (y.name == x.name) = true
      · simp [h]
      · simp only [Bool.not_eq_true] at h
        rw [h, if_neg (by simp), ih, Bool.false_or]
  exact key _ 0
theorem rv2 (N : Nat) (hN : 10 ≤ N) {l : List PlantElement} {i : Nat} {x3 : List Int} (hI : RInv l i x3) {e : List Int} (he : e.length ≤ 3) (hr : ∀ a ∈ e, 0 ≤ a ∧ a < 64) : r26_Valid_2 N x3 e N 0 = some (if (e.any fun a => cnt (l.take i) a == 2) = true then .inr 17 else .inl ()) := by
  have h := first_gen (l := e) (fun _ a => cnt (l.take i) a == 2) (fun _ _ => (17 : Int)) (fun m j => r26_Valid_2 N x3 e m j) (fun m => by
    show r26_Valid_2 N x3 e (m + 1) _ = _
    rw [r26_Valid_2, if_neg (dneg (by omega))]) (fun m j y hy => by
    show r26_Valid_2 N x3 e (m + 1) _ = _
    have hlt := (List.getElem?_eq_some_iff.1 hy).1
    obtain ⟨h0, h1⟩ := hr y (List.mem_of_getElem? hy)
    rw [r26_Valid_2, if_pos (dpos (by omega)), getI_nat hy]
    simp only [bind_some', hI.get h0 h1, lt_def]
    rw [w64s (by omega)]) e.length N 0 (by omega) (by omega)
  simp only [Int.natCast_zero, List.drop_zero] at h
  rw [h]
  congr 1
  have key : ∀ (q : List Int) (j : Nat), res (fun _ a => cnt (l.take i) a == 2) (fun _ _ => (17 : Int)) j q = if (q.any fun a => cnt (l.take i) a == 2) = true then .inr 17 else .inl () := by
    intro q
    induction q with
    | nil => intro j; rfl
    | cons y q ih =>
      intro j
      rw [res, List.any_cons]
      by_cases h : (cnt (l.take i) y == 2) = true
      · simp [h]
      · simp only [Bool.not_eq_true] at h
        rw [h, if_neg (by simp), ih, Bool.false_or]
  exact key _ 0
theorem rv3 (N : Nat) {e : List Int} (hd : e.Nodup) (he : e.length ≤ 3) (hr : ∀ a ∈ e, 0 ≤ a ∧ a < 64) : ∀ (k n i : Nat) (x3 : List Int) (f : Int → Int), k < n → i + k = e.length → x3.length = 64 → (∀ m : Nat, m < 64 → x3[m]? = some (f m)) → (∀ m, 0 ≤ f m ∧ f m ≤ 1000 + i) →
    ∃ x3', r26_Valid_3 N e n x3 i = some x3' ∧ x3'.length = 64 ∧ ∀ m : Nat, m < 64 → x3'[m]? = some (f m + if (m : Int) ∈ e.drop i then 1 else 0)
  | k, 0, i, x3, f, hn, _, _, _, _ => by omega
  | 0, n + 1, i, x3, f, hn, hi, h1, h2, h3 => by
    obtain rfl : i = e.length := by omega
    rw [r26_Valid_3, if_neg (dneg (by omega)), List.drop_length]
    exact ⟨x3, rfl, h1, fun m hm => by simpa using h2 m hm⟩
  | k + 1, n + 1, i, x3, f, hn, hi, h1, h2, h3 => by
    have hlt : i < e.length := by omega
    have ha := at_lt hlt
    obtain ⟨r0, r1⟩ := hr _ (List.getElem_mem hlt)
    obtain ⟨q, hq⟩ := Int.eq_ofNat_of_zero_le r0
    have hq64 : q < 64 := by omega
    have hg : getI x3 e[i] = some (f q) := by rw [hq]; exact getI_nat (h2 q hq64)
    have hf := h3 q
    rw [r26_Valid_3, if_pos (dpos (by omega)), getI_nat ha, drop_at ha]
    simp only [bind_some', lt_def, hg]
    rw [w64s (by omega), w64 (by omega) (by omega)]
    have hnot : e[i] ∉ e.drop (i + 1) := by
      intro hm
      obtain ⟨j, hj⟩ := List.getElem?_of_mem hm
      rw [List.getElem?_drop] at hj
      obtain ⟨hjl, hj⟩ := List.getElem?_eq_some_iff.1 hj
      exact List.pairwise_iff_getElem.1 hd i (i + 1 + j) hlt hjl (by omega) hj.symm
    obtain ⟨x3', g1, g2, g3⟩ := rv3 N hd he hr k n (i + 1) (x3.set q (f q + 1)) (fun m => if m = (q : Int) then f m + 1 else f m) (by omega) (by omega) (by rw [List.length_set]; exact h1) (fun m hm => by
      rw [List.getElem?_set]
      by_cases hmq : q = m
      · subst hmq; simp [h1, hq64]
      · rw [if_neg hmq, h2 m hm, if_neg (by omega)]) (fun m => by have := h3 m; split <;> omega)
    refine ⟨x3', by rw [hq]; exact g1, g2, fun m hm => ?_⟩
    rw [g3 m hm]
    congr 1
    by_cases hmq : (m : Int) = q
    · rw [if_pos hmq, if_neg (by rw [hmq, ← hq]; exact hnot), if_pos (by rw [hmq, ← hq]; exact List.mem_cons_self)]; omega
    · rw [if_neg hmq]
      by_cases hm2 : (m : Int) ∈ e.drop (i + 1)
      · rw [if_pos hm2, if_pos (List.mem_cons_of_mem _ hm2)]
      · rw [if_neg hm2, if_neg (by simp only [List.mem_cons, not_or]; exact ⟨by rw [hq]; exact hmq, hm2⟩)]
theorem rvalid_loop (N : Nat) (hN : 100 ≤ N) {l : List PlantElement} (hl : l.length ≤ 96) (hnm : ∀ x ∈ l, x.name.length < N ∧ x.name.length ≤ 9223372036854775807) : ∀ (k n i : Nat) (x3 : List Int), k < n → i + k = l.length → RInv l i x3 →
    r26_Valid_0 N l n x3 i = some (res (pC l) (codeAt l) i (l.drop i))
  | k, 0, i, x3, hn, _, _ => by omega
  | 0, n + 1, i, x3, hn, hi, hI => by
    obtain rfl : i = l.length := by omega
    rw [r26_Valid_0, if_neg (dneg (by omega)), List.drop_length]
    rfl
  | k + 1, n + 1, i, x3, hn, hi, hI => by
    have hlt : i < l.length := by omega
    have hx := at_lt hlt
    obtain ⟨q1, q2⟩ := hnm _ (List.getElem_mem hlt)
    rw [r26_Valid_0, if_pos (dpos (by omega)), rsound_ok N hx (by omega) q1 q2, drop_at hx, res, bind_some']
    unfold pC
    by_cases hsd : soundP l[i] = true
    case neg =>
      simp only [Bool.not_eq_true] at hsd
      have hc : codeAt l i l[i] = 1 := by unfold codeAt; rw [if_pos hsd]
      rw [hsd, hc]; simp
    obtain ⟨e1, e2, e3, e4⟩ := soundP_ends hsd
    rw [hsd]
    simp only [Bool.not_true, Bool.false_eq_true, if_false]
    rw [rv1 N hx (by omega) hl, bind_some']
    by_cases hnm' : ((l.take i).any fun y => y.name == l[i].name) = true
    · have hc : codeAt l i l[i] = 8 := by unfold codeAt; rw [if_neg (by rw [hsd]; simp), if_pos hnm']
      rw [if_pos hnm', hc]; simp
    · have h3 := endsP_len l[i]
      rw [if_neg hnm']
      simp only []
      rw [rEnds_ok, eI_nat hx, bind_some', rv2 N (by omega) hI h3 e2, bind_some']
      by_cases g1 : ((endsP l[i]).any fun a => cnt (l.take i) a == 2) = true
      · have hc : codeAt l i l[i] = 17 := by unfold codeAt; rw [if_neg (by rw [hsd]; simp), if_neg hnm', if_pos g1]
        rw [if_pos g1, hc]; simp
      · have hc : codeAt l i l[i] = 0 := by unfold codeAt; rw [if_neg (by rw [hsd]; simp), if_neg hnm', if_neg g1]
        rw [if_neg g1, hc]
        simp only [bne_self_eq_false, Bool.false_eq_true, if_false]
        obtain ⟨x3', k1, k2, k3⟩ := rv3 N e1 h3 e2 (endsP l[i]).length N 0 x3 (fun m => cnt (l.take i) m) (by omega) (by omega) hI.len hI.ct (fun m => by
          have h1 := cnt_nonneg (l.take i) m
          have h2 := cnt_le (l.take i) m
          rw [List.length_take] at h2
          omega)
        have k1 : r26_Valid_3 N (endsP l[i]) N x3 0 = some x3' := k1
        rw [k1, bind_some', lt_def, w64s (by omega)]
        refine rvalid_loop N hN hl hnm k n (i + 1) x3' (by omega) (by omega) ⟨k2, fun m hm => ?_⟩
        rw [k3 m hm, take_at hx, cnt_app, List.drop_zero]
theorem rvalid_ok (N : Nat) (hN : 100 ≤ N) {l : List PlantElement} (hnm : l.length ≤ 96 → ∀ x ∈ l, x.name.length < N ∧ x.name.length ≤ 9223372036854775807) : r26_Valid N l = some (vErr l) := by
  unfold r26_Valid vErr
  by_cases hl : 96 < l.length
  · rw [if_pos (by simpa using by omega), if_pos hl]
  · rw [if_neg (by simpa using by omega), if_neg hl]
    have h := rvalid_loop N hN (by omega) (hnm (by omega)) l.length N 0 (List.replicate 64 0) (by omega) (by omega) ⟨by simp, fun n hn => by rw [List.getElem?_replicate, if_pos hn]; simp [cnt]⟩
    simp only [Int.natCast_zero, List.drop_zero] at h
    rw [h, bind_some']
    cases res (pC l) (codeAt l) 0 l <;> rfl
/-! ### Nothing is wrong -/
structure PlOk (l : List PlantElement) : Prop where
  len : l.length ≤ 96
  snd : ∀ x ∈ l, soundP x = true
  nm : l.Pairwise fun x y => x.name ≠ y.name
  ct : ∀ n, cnt l n ≤ 2
theorem PlOk.err {l : List PlantElement} (h : PlOk l) : vErr l = 0 := by
  unfold vErr
  rw [if_neg (by have := h.len; omega)]
  have : res (pC l) (codeAt l) 0 l = .inl () := by
    rw [res_none]
    intro j x hj
    rw [Nat.zero_add]
    have hjl := (List.getElem?_eq_some_iff.1 hj).1
    have hc : codeAt l j x = 0 := by
      unfold codeAt
      rw [if_neg (by rw [h.snd x (List.mem_of_getElem? hj)]; simp), if_neg, if_neg]
      · intro hh
        obtain ⟨n, hn, hn2⟩ := List.any_eq_true.1 hh
        have h2 : cnt (l.take j) n = 2 := by simpa using hn2
        have h3 := cnt_app (l.take j) x n
        rw [if_pos hn, ← take_at hj, h2] at h3
        have h4 : cnt (l.take (j + 1)) n ≤ cnt l n := by
          unfold cnt
          have := (List.take_sublist (j + 1) l).filter (fun x => (endsP x).contains n)
          have := this.length_le
          omega
        have := h.ct n
        omega
      · intro hh
        obtain ⟨y, hy, hyn⟩ := List.any_eq_true.1 hh
        obtain ⟨i, hi⟩ := List.getElem?_of_mem hy
        rw [List.getElem?_take] at hi
        split at hi
        · rename_i hij
          obtain ⟨hil, hi⟩ := List.getElem?_eq_some_iff.1 hi
          obtain ⟨_, hj⟩ := List.getElem?_eq_some_iff.1 hj
          have := List.pairwise_iff_getElem.1 h.nm i j hil hjl hij
          rw [hi, hj] at this
          exact this (by simpa using hyn)
        · cases hi
    unfold pC
    rw [hc]; rfl
  rw [this]
theorem PlOk.p (N : Nat) (hN : 100 ≤ N) {l : List PlantElement} (h : PlOk l) : plant_Valid N l = some 0 := by
  rw [pvalid_ok N hN, h.err]
theorem PlOk.r (N : Nat) (hN : 100 ≤ N) {l : List PlantElement} (h : PlOk l) : r26_Valid N l = some 0 := by
  rw [rvalid_ok N hN fun _ x hx => by
    have h1 := (soundP_ends (h.snd x hx)).2.2.2
    unfold pnOk at h1
    simp only [Bool.and_eq_true, decide_eq_true_eq] at h1
    omega, h.err]
end Go.W
end
section
set_option linter.unusedVariables false
set_option linter.unusedSimpArgs false
namespace Go.W
open Go.AM
theorem cnt_take_le {l : List PlantElement} {n : Int} {a b : Nat} (h : a ≤ b) : cnt (l.take a) n ≤ cnt (l.take b) n := by
  unfold cnt
  have h1 : l.take a = (l.take b).take a := by rw [List.take_take]; congr 1; omega
  rw [h1]
  have := ((List.take_sublist a (l.take b)).filter (fun x => (endsP x).contains n)).length_le
  omega
theorem cnt_step {l : List PlantElement} {n : Int} {i : Nat} {x : PlantElement} (h : l[i]? = some x) (hn : n ∈ endsP x) : cnt (l.take (i + 1)) n = cnt (l.take i) n + 1 := by
  rw [take_at h, cnt_app, if_pos hn]
theorem cnt_all {l : List PlantElement} {n : Int} {a : Nat} : cnt (l.take a) n ≤ cnt l n := by
  have := cnt_take_le (l := l) (n := n) (Nat.le_max_left a l.length)
  rw [List.take_of_length_le (Nat.le_max_right _ _)] at this
  exact this
theorem cnt3 {l : List PlantElement} {n : Int} {i j k : Nat} {x y z : PlantElement} (hx : l[i]? = some x) (hy : l[j]? = some y) (hz : l[k]? = some z) (h1 : n ∈ endsP x) (h2 : n ∈ endsP y) (h3 : n ∈ endsP z) (hij : i < j) (hjk : j < k) : 3 ≤ cnt l n := by
  have a1 := cnt_step hx h1
  have a2 := cnt_step hy h2
  have a3 := cnt_step hz h3
  have b1 := cnt_take_le (l := l) (n := n) (show i + 1 ≤ j by omega)
  have b2 := cnt_take_le (l := l) (n := n) (show j + 1 ≤ k by omega)
  have b3 := cnt_all (l := l) (n := n) (a := k + 1)
  have b4 := cnt_nonneg (l.take i) n
  omega
/-- A plant that nothing is said to be wrong with. -/
theorem PlOk.of {l : List PlantElement} (h : vErr l = 0) : PlOk l := by
  unfold vErr at h
  split at h
  · cases h
  rename_i hl
  have hres : res (pC l) (codeAt l) 0 l = .inl () := by
    cases hr : res (pC l) (codeAt l) 0 l with
    | inl u => rfl
    | inr c =>
      rw [hr] at h
      simp only at h
      have key : ∀ (e : List PlantElement) (i : Nat) (c : Int), res (pC l) (codeAt l) i e = .inr c → c ≠ 0 := by
        intro e
        induction e with
        | nil => intro i c h; cases h
        | cons y e ih =>
          intro i c h
          rw [res] at h
          split at h
          · rename_i hp
            cases h
            unfold pC at hp
            simpa using hp
          · exact ih _ _ h
      exact absurd h (key _ _ _ hr)
  have hc : ∀ (j : Nat) (x : PlantElement), l[j]? = some x → codeAt l j x = 0 := fun j x hj => by
    have := (res_none.1 hres) j x hj
    rw [Nat.zero_add] at this
    unfold pC at this
    simpa using this
  have h3 : ∀ (j : Nat) (x : PlantElement), l[j]? = some x → soundP x = true ∧ ((l.take j).any fun y => y.name == x.name) = false ∧ ((endsP x).any fun n => cnt (l.take j) n == 2) = false := fun j x hj => by
    have := hc j x hj
    unfold codeAt at this
    split at this
    · cases this
    · rename_i a
      split at this
      · cases this
      · rename_i b
        split at this
        · cases this
        · rename_i c
          exact ⟨by simpa using a, by simpa using b, by simpa using c⟩
  refine ⟨by omega, fun x hx => ?_, ?_, fun n => ?_⟩
  · obtain ⟨j, hj⟩ := List.getElem?_of_mem hx
    exact (h3 j x hj).1
  · rw [List.pairwise_iff_getElem]
    intro i j hi hj hij hne
    have hb := (h3 j _ (at_lt hj)).2.1
    rw [List.any_eq_false] at hb
    have hm : l[i] ∈ l.take j := by
      refine List.mem_of_getElem? (i := i) ?_
      rw [List.getElem?_take, if_pos hij]
      exact at_lt hi
    exact hb _ hm (by simpa using hne)
  · have key : ∀ (i : Nat), i ≤ l.length → cnt (l.take i) n ≤ 2 := by
      intro i
      induction i with
      | zero => intro _; simp [cnt]
      | succ i ih =>
        intro hi
        have hx := at_lt (xs := l) (i := i) (by omega)
        rw [take_at hx, cnt_app]
        have := ih (by omega)
        split
        · rename_i hm
          have hb := (h3 i _ hx).2.2
          rw [List.any_eq_false] at hb
          have := hb n hm
          simp at this
          omega
        · omega
    have := key l.length (Nat.le_refl _)
    rw [List.take_length] at this
    exact this
theorem PlOk.two {l : List PlantElement} (h : PlOk l) {n : Int} {i j k : Nat} {x y z : PlantElement} (hx : l[i]? = some x) (hy : l[j]? = some y) (hz : l[k]? = some z) (h1 : n ∈ endsP x) (h2 : n ∈ endsP y) (h3 : n ∈ endsP z) : i = j ∨ j = k ∨ i = k := by
  have hc := h.ct n
  rcases Nat.lt_trichotomy i j with a | a | a
  · rcases Nat.lt_trichotomy j k with b | b | b
    · have := cnt3 hx hy hz h1 h2 h3 a b; omega
    · exact .inr (.inl b)
    · rcases Nat.lt_trichotomy i k with c | c | c
      · have := cnt3 hx hz hy h1 h3 h2 c b; omega
      · exact .inr (.inr c)
      · have := cnt3 hz hx hy h3 h1 h2 c a; omega
  · exact .inl a
  · rcases Nat.lt_trichotomy i k with b | b | b
    · have := cnt3 hy hx hz h2 h1 h3 a b; omega
    · exact .inr (.inr b)
    · rcases Nat.lt_trichotomy j k with c | c | c
      · have := cnt3 hy hz hx h2 h3 h1 c b; omega
      · exact .inr (.inl c)
      · have := cnt3 hz hy hx h3 h2 h1 c a; omega
theorem nbr_spec (l : List PlantElement) (i n : Int) : (nbr l i n = -1 ∧ ∀ (j : Nat) (x : PlantElement), l[j]? = some x → (j : Int) ≠ i → n ∉ endsP x) ∨
    ∃ (j : Nat) (x : PlantElement), nbr l i n = (j : Int) ∧ l[j]? = some x ∧ (j : Int) ≠ i ∧ n ∈ endsP x := by
  rcases firstI_spec (nbrB i n) l 0 with ⟨h1, h2⟩ | ⟨j, x, h1, h2, h3, _⟩
  · refine .inl ⟨h1, fun j x hj hji hn => ?_⟩
    have := h2 j x hj
    rw [Nat.zero_add] at this
    unfold nbrB at this
    have e1 : ((j : Int) != i) = true := by simpa using hji
    rw [e1] at this
    simp [hn] at this
  · rw [Nat.zero_add] at h1 h3
    unfold nbrB at h3
    simp only [Bool.and_eq_true, bne_iff_ne, ne_eq] at h3
    exact .inr ⟨j, x, h1, h2, h3.1, by simpa using h3.2⟩
theorem nbr_mem {l : List PlantElement} {i n : Int} (h : 0 ≤ nbr l i n) : n ∈ eI l (nbr l i n) ∧ nbr l i n ≠ i := by
  rcases nbr_spec l i n with ⟨h1, _⟩ | ⟨j, x, h1, h2, h3, h4⟩
  · omega
  · rw [h1, eI_nat h2]; exact ⟨h4, h3⟩
theorem PlOk.nbr_sym {l : List PlantElement} (h : PlOk l) {i n : Int} (hn : n ∈ eI l i) (hk : 0 ≤ nbr l i n) : nbr l (nbr l i n) n = i := by
  obtain ⟨h0, h1, x, hx, hxn⟩ := eI_mem hn
  obtain ⟨a, rfl⟩ := Int.eq_ofNat_of_zero_le h0
  rw [Int.toNat_natCast] at hx
  rcases nbr_spec l (a : Int) n with ⟨g1, _⟩ | ⟨j, y, g1, g2, g3, g4⟩
  · omega
  · rw [g1]
    rcases nbr_spec l (j : Int) n with ⟨k1, k2⟩ | ⟨c, z, k1, k2, k3, k4⟩
    · exact absurd hxn (k2 a x hx (by omega))
    · rw [k1]
      rcases h.two hx g2 k2 hxn g4 k4 with e | e | e
      · omega
      · omega
      · omega
theorem PlOk.nodup {l : List PlantElement} (h : PlOk l) (i : Int) : (eI l i).Nodup := by
  unfold eI
  split
  · split
    · rename_i x hx
      exact (soundP_ends (h.snd x (List.mem_of_getElem? hx))).1
    · exact List.nodup_nil
  · exact List.nodup_nil
theorem thrE_mem {e : List Int} {n m : Int} (h : m ∈ thrE e n) : n ∈ e ∧ m ∈ e := by
  unfold thrE at h
  split at h
  · rename_i hc
    refine ⟨by simpa using hc, ?_⟩
    split at h
    · exact List.mem_of_mem_tail h
    · exact List.mem_of_mem_take h
  · simp at h
theorem thrE_sym {e : List Int} (hd : e.Nodup) {n m : Int} (h : m ∈ thrE e n) : n ∈ thrE e m ∧ n ≠ m := by
  obtain ⟨h1, h2⟩ := thrE_mem h
  unfold thrE at h ⊢
  rw [if_pos (by simpa using h1)] at h
  rw [if_pos (by simpa using h2)]
  cases e with
  | nil => simp at h1
  | cons a e =>
    have hd' := List.nodup_cons.1 hd
    simp only [List.head?_cons, List.tail_cons, Option.some.injEq, List.take_succ_cons, List.take_zero, List.mem_cons, List.not_mem_nil, or_false] at h ⊢
    split at h
    · rename_i ha
      subst ha
      have hne : ¬ a = m := fun hh => hd'.1 (hh ▸ h)
      rw [if_neg hne]
      exact ⟨by simp, hne⟩
    · rename_i ha
      simp only [List.mem_cons, List.not_mem_nil, or_false] at h
      subst h
      rw [if_pos rfl]
      refine ⟨?_, fun hh => ha hh.symm⟩
      rcases List.mem_cons.1 h1 with hh | hh
      · exact absurd hh.symm ha
      · exact hh
theorem thr_mem {l : List PlantElement} {i n m : Int} (h : m ∈ thr l i n) : n ∈ eI l i ∧ m ∈ eI l i := thrE_mem h
theorem PlOk.thr_sym {l : List PlantElement} (h : PlOk l) {i n m : Int} (hm : m ∈ thr l i n) : n ∈ thr l i m ∧ n ≠ m := thrE_sym (h.nodup i) hm
theorem thr_len (l : List PlantElement) (i n : Int) : (thr l i n).length ≤ 3 := by
  have := eI_len l i
  unfold thr thrE
  split
  · split
    · rw [List.length_tail]; omega
    · rw [List.length_take]; omega
  · simp
end Go.W
end
section
set_option linter.unusedVariables false
set_option linter.unusedSimpArgs false
namespace Go.W
open Go.AM
/-! ### Names -/
def nameN (i : Nat) : List UInt8 := [112, UInt8.ofNat (48 + i / 10 % 10), UInt8.ofNat (48 + i % 10)]
theorem toU8_ok {n : Nat} (h : n < 256) : toU8 (n : Int) = some (UInt8.ofNat n) := by
  unfold toU8
  rw [if_pos (by omega)]
  simp
theorem yname_ok (N : Nat) {i : Nat} (h : i < 1000) : yardgen_name N (i : Int) = some (nameN i) := by
  unfold yardgen_name nameN
  have e1 : IntKind.wrap .i64 (Int.tdiv (i : Int) 10) = ((i / 10 : Nat) : Int) := by rw [Int.tdiv_eq_ediv_of_nonneg (by omega), w64 (by omega) (by omega)]; omega
  have e2 : Int.tmod ((i / 10 : Nat) : Int) 10 = ((i / 10 % 10 : Nat) : Int) := by rw [Int.tmod_eq_emod_of_nonneg (by omega)]; omega
  have e3 : Int.tmod (i : Int) 10 = ((i % 10 : Nat) : Int) := by rw [Int.tmod_eq_emod_of_nonneg (by omega)]; omega
  rw [e1, e2, e3, w64 (by omega) (by omega), w64 (by omega) (by omega), w8 (by omega) (by omega), w8 (by omega) (by omega)]
  have f1 := toU8_ok (n := 112) (by omega)
  have f2 := toU8_ok (n := 48 + i / 10 % 10) (by omega)
  have f3 := toU8_ok (n := 48 + i % 10) (by omega)
  rw [show ((48 : Int) + ((i / 10 % 10 : Nat) : Int)) = ((48 + i / 10 % 10 : Nat) : Int) by omega, show ((48 : Int) + ((i % 10 : Nat) : Int)) = ((48 + i % 10 : Nat) : Int) by omega, f2, f3]
  have f1 : toU8 112 = some (UInt8.ofNat 112) := f1
  rw [f1]
  rfl
theorem nameN_inj {i j : Nat} (hi : i < 100) (hj : j < 100) (h : nameN i = nameN j) : i = j := by
  unfold nameN at h
  simp only [List.cons.injEq, and_true, true_and] at h
  have a1 := congrArg UInt8.toNat h.1
  have a2 := congrArg UInt8.toNat h.2
  simp only [UInt8.toNat_ofNat'] at a1 a2
  omega
theorem nameN_ok (i : Nat) : pnOk (nameN i) = true := by
  have key : ∀ d : Nat, d < 10 → pnCh (UInt8.ofNat (48 + d)) = true := by
    intro d hd
    unfold pnCh
    rw [UInt8.toNat_ofNat']
    simp
    omega
  unfold pnOk nameN
  simp only [List.all_cons, List.all_nil, key (i / 10 % 10) (by omega), key (i % 10) (by omega)]
  rfl
/-! ### The parts of a made plant -/
structure PlI (l : List PlantElement) (op : List Int) (nx : Int) : Prop where
  snd : ∀ x ∈ l, soundP x = true
  nm : ∀ (i : Nat) (x : PlantElement), l[i]? = some x → x.name = nameN i
  ct : ∀ n, cnt l n ≤ 2
  op1 : ∀ n ∈ op, cnt l n ≤ 1
  nd : op.Nodup
  rg : ∀ n ∈ op, 0 ≤ n ∧ n < nx
  nw : ∀ n, nx ≤ n → cnt l n = 0
  ln : (op.length : Int) ≤ nx
  nx64 : nx ≤ 64
  nx0 : 0 ≤ nx
  fst : ∃ x, l[0]? = some x ∧ x.kind = 1
theorem PlI.add {l : List PlantElement} {op op' : List Int} {nx nx' : Int} {x : PlantElement} (h : PlI l op nx) (hs : soundP x = true) (hn : x.name = nameN l.length) (h1 : ∀ n ∈ endsP x, n ∈ op ∨ (nx ≤ n ∧ n < nx')) (h2 : ∀ n ∈ op', (n ∈ op ∧ n ∉ endsP x) ∨ (nx ≤ n ∧ n < nx'))
    (h3 : op'.Nodup) (h4 : nx ≤ nx') (h5 : nx' ≤ 64) (h6 : (op'.length : Int) ≤ nx') : PlI (l ++ [x]) op' nx' where
  snd := fun y hy => by
    rcases List.mem_append.1 hy with hy | hy
    · exact h.snd y hy
    · simp at hy; subst hy; exact hs
  nm := fun i y hy => by
    by_cases hi : i < l.length
    · rw [List.getElem?_append_left hi] at hy; exact h.nm i y hy
    · rw [List.getElem?_append_right (by omega)] at hy
      have hi2 := (List.getElem?_eq_some_iff.1 hy).1
      simp at hi2
      have : i = l.length := by omega
      subst this
      simp at hy; subst hy; exact hn
  ct := fun n => by
    rw [cnt_app]
    have a := h.ct n
    split
    · rename_i hm
      rcases h1 n hm with hm | ⟨hm, _⟩
      · have := h.op1 n hm; omega
      · have := h.nw n hm; omega
    · omega
  op1 := fun n hm => by
    rw [cnt_app]
    rcases h2 n hm with ⟨a, b⟩ | ⟨a, b⟩
    · have := h.op1 n a; rw [if_neg b]; omega
    · have := h.nw n a; split <;> omega
  nd := h3
  rg := fun n hm => by
    rcases h2 n hm with ⟨a, b⟩ | ⟨a, b⟩
    · have := h.rg n a; omega
    · have := h.nx0; omega
  nw := fun n hm => by
    rw [cnt_app, if_neg, h.nw n (by omega)]
    · rfl
    · intro hh
      rcases h1 n hh with a | a
      · have := h.rg n a; omega
      · omega
  ln := h6
  nx64 := h5
  nx0 := by have := h.nx0; omega
  fst := by
    obtain ⟨y, hy, hk⟩ := h.fst
    exact ⟨y, by rw [List.getElem?_append_left (List.getElem?_eq_some_iff.1 hy).1]; exact hy, hk⟩
theorem PlI.ok {l : List PlantElement} {op : List Int} {nx : Int} (h : PlI l op nx) (hl : l.length ≤ 96) : PlOk l where
  len := hl
  snd := h.snd
  nm := List.pairwise_iff_getElem.2 fun i j hi hj hij hh => by
    rw [h.nm i _ (at_lt hi), h.nm j _ (at_lt hj)] at hh
    have := nameN_inj (by omega) (by omega) hh
    omega
  ct := h.ct
/-! ### The parts of the sound -/
theorem snd_track {m : List UInt8} {a b len : Int} (hm : pnOk m = true) (ha : 0 ≤ a ∧ a < 64) (hb : 0 ≤ b ∧ b < 64) (hab : a ≠ b) (hl : 1 ≤ len ∧ len ≤ 100000) : soundP (PlantElement.mk 1 m a b 0 len) = true := by
  have he : okE [a, b] = true := okE_iff.2 ⟨by simp [hab], by simp; omega⟩
  unfold soundP
  have : endsP (PlantElement.mk 1 m a b 0 len) = [a, b] := by simp [endsP]
  rw [this]
  simp [hm, he, hl]
theorem snd_derail {m : List UInt8} {a b : Int} (hm : pnOk m = true) (ha : 0 ≤ a ∧ a < 64) (hb : 0 ≤ b ∧ b < 64) (hab : a ≠ b) : soundP (PlantElement.mk 3 m a b 0 0) = true := by
  have he : okE [a, b] = true := okE_iff.2 ⟨by simp [hab], by simp; omega⟩
  unfold soundP
  have : endsP (PlantElement.mk 3 m a b 0 0) = [a, b] := by simp [endsP]
  rw [this]
  simp [hm, he]
theorem snd_switch {m : List UInt8} {a b c : Int} (hm : pnOk m = true) (ha : 0 ≤ a ∧ a < 64) (hb : 0 ≤ b ∧ b < 64) (hc : 0 ≤ c ∧ c < 64) (hab : a ≠ b) (hac : a ≠ c) (hbc : b ≠ c) : soundP (PlantElement.mk 2 m a b c 0) = true := by
  have he : okE [a, b, c] = true := okE_iff.2 ⟨by simp [hab, hac, hbc], by simp; omega⟩
  unfold soundP
  have : endsP (PlantElement.mk 2 m a b c 0) = [a, b, c] := by simp [endsP]
  rw [this]
  simp [hm, he]
/-- An open node is taken. -/
theorem take_out {op : List Int} {r : Nat} {a : Int} (ha : op[r]? = some a) (hd : op.Nodup) : a ∉ op.take r ++ op.drop (r + 1) ∧ (∀ n ∈ op.take r ++ op.drop (r + 1), n ∈ op) ∧ (op.take r ++ op.drop (r + 1)).Nodup ∧ (op.take r ++ op.drop (r + 1)).length + 1 = op.length := by
  have hr := (List.getElem?_eq_some_iff.1 ha).1
  have hsplit : op = op.take r ++ a :: op.drop (r + 1) := by
    conv => lhs; rw [← List.take_append_drop r op, drop_at ha]
  have hd' := hd
  rw [hsplit, List.nodup_append] at hd'
  obtain ⟨d1, d2, d3⟩ := hd'
  have d2' := List.nodup_cons.1 d2
  refine ⟨?_, ?_, ?_, ?_⟩
  · intro hm
    rcases List.mem_append.1 hm with hm | hm
    · exact d3 a hm a List.mem_cons_self rfl
    · exact d2'.1 hm
  · intro n hn
    rcases List.mem_append.1 hn with hn | hn
    · exact List.mem_of_mem_take hn
    · exact List.mem_of_mem_drop hn
  · rw [List.nodup_append]
    exact ⟨d1, d2'.2, fun x hx y hy => d3 x hx y (List.mem_cons_of_mem _ hy)⟩
  · rw [List.length_append, List.length_take, List.length_drop]; omega
/-! ### One more element -/
theorem pl4 (N : Nat) (k : Int) (b : Bool) : yardgen_Plant_4 N k b = some (b || (k == 1)) := by
  unfold yardgen_Plant_4
  cases b <;> simp [lt_def]
theorem pl_step (N : Nat) {c : Int} {s : Maker} {l : List PlantElement} {op : List Int} {nx : Int} {r : Nat} {a : Int} {k : Int} (hI : PlI l op nx) (hl : l.length < 96) (hs : Mk c s) (hc : c ≤ 1000000) (hnx : nx < 62) (ha : op[r]? = some a) (hk0 : 0 ≤ k) (hk : k < 6) :
    ∃ s' op' nx' x, yardgen_Plant_3 N s (op.take r ++ op.drop (r + 1)) nx a (PlantElement.mk 0 (nameN l.length) 0 0 0 0) k = some (s', op', nx', x) ∧ Mk (c + 5) s' ∧ PlI (l ++ [x]) op' nx' := by
  obtain ⟨t1, t2, t3, t4⟩ := take_out ha hI.nd
  generalize hop : op.take r ++ op.drop (r + 1) = q at *
  have hnm := nameN_ok l.length
  have ham := List.mem_of_getElem? ha
  obtain ⟨a0, a1⟩ := hI.rg a ham
  have hq : (q.length : Int) + 1 ≤ nx := by have := hI.ln; omega
  have hnx0 := hI.nx0
  have fresh : ∀ n ∈ q, n < nx := fun n hn => (hI.rg n (t2 n hn)).2
  have f1 : nx ∉ q := fun h => by have := fresh _ h; omega
  have f2 : nx + 1 ∉ q := fun h => by have := fresh _ h; omega
  have w1 : IntKind.wrap .i64 (nx + 1) = nx + 1 := w64 (by omega) (by omega)
  have w2 : IntKind.wrap .i64 (nx + 2) = nx + 2 := w64 (by omega) (by omega)
  have nd1 : (q ++ [nx]).Nodup := by
    rw [List.nodup_append]
    exact ⟨t3, by simp, fun x hx y hy => by simp at hy; subst hy; exact fun hh => f1 (hh ▸ hx)⟩
  have nd2 : (q ++ [nx, nx + 1]).Nodup := by
    rw [List.nodup_append]
    refine ⟨t3, by simp; omega, fun x hx y hy => ?_⟩
    simp at hy
    rcases hy with rfl | rfl
    · exact fun hh => f1 (hh ▸ hx)
    · exact fun hh => f2 (hh ▸ hx)
  have ap1 : appI q [nx] = some (q ++ [nx]) := appI_ok (by simp; omega)
  have ap2 : appI q [nx, nx + 1] = some (q ++ [nx, nx + 1]) := appI_ok (by simp; omega)
  have old : ∀ n ∈ q, n ∈ op ∧ n ≠ a := fun n hn => ⟨t2 n hn, fun hh => t1 (hh ▸ hn)⟩
  have hMk : Mk (c + 5) s := hs.le (by omega)
  unfold yardgen_Plant_3
  simp only [lt_def, pl4, bind_some', w1, w2, ap1, ap2]
  by_cases k01 : k = 0 ∨ k = 1
  · have hb : ((k == 0) || (k == 1)) = true := by simpa using k01
    rw [if_pos hb]
    refine ⟨s, _, _, _, rfl, hMk, hI.add (snd_switch hnm ⟨a0, by omega⟩ ⟨hnx0, by omega⟩ ⟨by omega, by omega⟩ (by omega) (by omega) (by omega)) rfl ?_ ?_ nd2 (by omega) (by omega) (by simp; omega)⟩
    · intro n hn
      simp [endsP] at hn
      rcases hn with rfl | rfl | rfl
      · exact .inl ham
      · exact .inr (by omega)
      · exact .inr (by omega)
    · intro n hn
      rcases List.mem_append.1 hn with hn | hn
      · obtain ⟨o1, o2⟩ := old n hn
        have := fresh n hn
        refine .inl ⟨o1, ?_⟩
        simp [endsP]; omega
      · simp at hn; right; omega
  · have hb : ((k == 0) || (k == 1)) = false := by simp; omega
    rw [if_neg (by rw [hb]; simp)]
    by_cases k2 : k = 2
    · rw [if_pos (by simpa using k2)]
      refine ⟨s, _, _, _, rfl, hMk, hI.add (snd_switch hnm ⟨hnx0, by omega⟩ ⟨a0, by omega⟩ ⟨by omega, by omega⟩ (by omega) (by omega) (by omega)) rfl ?_ ?_ nd2 (by omega) (by omega) (by simp; omega)⟩
      · intro n hn
        simp [endsP] at hn
        rcases hn with rfl | rfl | rfl
        · exact .inr (by omega)
        · exact .inl ham
        · exact .inr (by omega)
      · intro n hn
        rcases List.mem_append.1 hn with hn | hn
        · obtain ⟨o1, o2⟩ := old n hn
          have := fresh n hn
          refine .inl ⟨o1, ?_⟩
          simp [endsP]; omega
        · simp at hn; right; omega
    · rw [if_neg (by simpa using k2)]
      by_cases k3 : k = 3
      · rw [if_pos (by simpa using k3)]
        refine ⟨s, _, _, _, rfl, hMk, hI.add (snd_derail hnm ⟨a0, by omega⟩ ⟨hnx0, by omega⟩ (by omega)) rfl ?_ ?_ nd1 (by omega) (by omega) (by simp; omega)⟩
        · intro n hn
          simp [endsP] at hn
          rcases hn with rfl | rfl
          · exact .inl ham
          · exact .inr (by omega)
        · intro n hn
          rcases List.mem_append.1 hn with hn | hn
          · obtain ⟨o1, o2⟩ := old n hn
            have := fresh n hn
            refine .inl ⟨o1, ?_⟩
            simp [endsP]; omega
          · simp at hn; right; omega
      · rw [if_neg (by simpa using k3)]
        obtain ⟨len, s1, g1, g2, g3⟩ := pick_ok N (s := s) (c := c) [1, 300, 100000] (by simp) (by simp) hs (by omega)
        have hlen : 1 ≤ len ∧ len ≤ 100000 := by simp at g2; omega
        rw [g1, bind_some']
        unfold yardgen_Plant_5
        obtain ⟨y, s2, h1, h2, h3, h4⟩ := next_ok N (s := s1) (c := c + 1) 3 (by omega) (by omega) g3 (by omega)
        simp only [h1, bind_some']
        by_cases hy : y = 0 ∧ 0 < q.length
        · obtain ⟨hy, hq0⟩ := hy
          rw [if_pos (by simpa using hy), bind_some', if_pos (dpos (by omega))]
          obtain ⟨p, hp⟩ : ∃ p, q.length = p + 1 := ⟨q.length - 1, by omega⟩
          have hw : IntKind.wrap .i64 ((q.length : Int) - 1) = (p : Int) := by rw [w64 (by omega) (by omega)]; omega
          have hpl : p < q.length := by omega
          rw [hw, getI_nat (at_lt hpl)]
          simp only [bind_some']
          rw [cutI_take (by omega), bind_some']
          have hbm := List.getElem_mem hpl
          obtain ⟨b0, b1⟩ := old _ hbm
          obtain ⟨r0, r1⟩ := hI.rg _ b0
          have hqs : q = q.take p ++ [q[p]] := by
            conv => lhs; rw [← List.take_append_drop p q, drop_at (at_lt hpl)]
            rw [List.drop_of_length_le (by omega)]
          have hnot : q[p] ∉ q.take p := by
            intro hh
            have hd := t3
            rw [hqs, List.nodup_append] at hd
            exact hd.2.2 _ hh q[p] (by simp) rfl
          refine ⟨s2, _, _, _, rfl, h4.le (by omega), hI.add (snd_track hnm ⟨a0, by omega⟩ ⟨r0, by omega⟩ (fun hh => b1 hh.symm) hlen) rfl ?_ ?_ (t3.sublist (List.take_sublist p q)) (by omega) (by omega) (by rw [List.length_take]; omega)⟩
          · intro n hn
            simp [endsP] at hn
            rcases hn with rfl | rfl
            · exact .inl ham
            · exact .inl b0
          · intro n hn
            obtain ⟨o1, o2⟩ := old n (List.mem_of_mem_take hn)
            refine .inl ⟨o1, ?_⟩
            simp [endsP]
            exact ⟨o2, fun hh => hnot (hh ▸ hn)⟩
        · have hgo : ∀ {β : Type} (f : Maker × Bool → Option β), (Option.bind (if (y == 0) = true then some (s2, decide (0 < (q.length : Int))) else some (s2, false)) f) = f (s2, false) := by
            intro β f
            by_cases h0 : y = 0
            · rw [if_pos (by simpa using h0), bind_some']
              have h00 : ¬ 0 < q.length := fun h => hy ⟨h0, h⟩
              have : decide (0 < (q.length : Int)) = false := by rw [decide_eq_false_iff_not]; omega
              rw [this]
            · rw [if_neg (by simpa using h0), bind_some']
          rw [hgo]
          simp only [Bool.false_eq_true, if_false]
          obtain ⟨y2, s3, i1, i2, i3, i4⟩ := next_ok N (s := s2) (c := c + 1 + 1) 2 (by omega) (by omega) h4 (by omega)
          rw [i1, bind_some']
          have hend : ∀ n ∈ endsP (PlantElement.mk 1 (nameN l.length) a nx 0 len), n ∈ op ∨ (nx ≤ n ∧ n < nx + 1) := by
            intro n hn
            simp [endsP] at hn
            rcases hn with rfl | rfl
            · exact .inl ham
            · exact .inr (by omega)
          have hold : ∀ n ∈ q, n ∈ op ∧ n ∉ endsP (PlantElement.mk 1 (nameN l.length) a nx 0 len) := by
            intro n hn
            obtain ⟨o1, o2⟩ := old n hn
            have := fresh n hn
            refine ⟨o1, ?_⟩
            simp [endsP]; omega
          by_cases hy2 : y2 = 0
          · rw [if_pos (by simpa using hy2)]
            refine ⟨s3, _, _, _, rfl, i4.le (by omega), hI.add (snd_track hnm ⟨a0, by omega⟩ ⟨hnx0, by omega⟩ (by omega) hlen) rfl hend ?_ nd1 (by omega) (by omega) (by simp; omega)⟩
            intro n hn
            rcases List.mem_append.1 hn with hn | hn
            · exact .inl (hold n hn)
            · simp at hn; right; omega
          · rw [if_neg (by simpa using hy2)]
            exact ⟨s3, _, _, _, rfl, i4.le (by omega), hI.add (snd_track hnm ⟨a0, by omega⟩ ⟨hnx0, by omega⟩ (by omega) hlen) rfl hend (fun n hn => .inl (hold n hn)) t3 (by omega) (by omega) (by omega)⟩
theorem pl2 (N : Nat) (k : Int) (l : List PlantElement) (op : List Int) (nx : Int) : yardgen_Plant_2 N k l op nx = some (decide ((l.length : Int) < k ∧ 0 < op.length ∧ nx < 62)) := by
  unfold yardgen_Plant_2
  by_cases h1 : (l.length : Int) < k
  · rw [if_pos (dpos h1)]
    by_cases h2 : 0 < op.length
    · rw [if_pos (dpos (by omega))]; simp [h1, h2]
    · rw [if_neg (dneg (by omega))]; simp [h2]
  · rw [if_neg (dneg h1)]; simp [h1]
theorem pl_loop1 (N : Nat) {b : Int} (hb0 : 0 ≤ b) (hb : b ≤ 900000) {k : Int} (hk : k ≤ 60) : ∀ (f n : Nat) (c : Int) (s : Maker) (l : List PlantElement) (op : List Int) (nx : Int), f < n → k ≤ (l.length : Int) + f → (l.length : Int) ≤ 61 → c ≤ b + 10000 → (l.length : Int) * 100 + c ≤ b + 9000 + (l.length : Int) * 107 → Mk c s → PlI l op nx →
    ∃ s' l' op' nx', yardgen_Plant_1 N k n s l op nx = some (s', l', op', nx') ∧ Mk (b + 20000) s' ∧ (l'.length : Int) ≤ 61 ∧ PlI l' op' nx'
  | f, 0, c, s, l, op, nx, hn, _, _, _, _, _, _ => by omega
  | f, n + 1, c, s, l, op, nx, hn, hf, hl, hc, hc2, hs, hI => by
    rw [yardgen_Plant_1, pl2, bind_some']
    by_cases hcond : (l.length : Int) < k ∧ 0 < op.length ∧ nx < 62
    · rw [decide_eq_true hcond, if_pos rfl]
      obtain ⟨c1, c2, c3⟩ := hcond
      have hol := hI.ln
      obtain ⟨r, s1, h1, h2, h3, h4⟩ := next_ok N (s := s) (c := c) (op.length : Int) (by omega) (by omega) hs (by omega)
      obtain ⟨q, rfl⟩ := Int.eq_ofNat_of_zero_le h2
      have hq : q < op.length := by omega
      have ha := at_lt hq
      rw [h1, bind_some']
      simp only []
      rw [getI_nat ha, bind_some', bind_some', cutI_take (by omega), bind_some', w64s (by omega), cutI_drop (by omega), bind_some']
      have e1 : List.take (Int.toNat (op.length : Int)) op = op := by rw [Int.toNat_natCast, List.take_length]
      rw [e1, Int.toNat_natCast, Int.toNat_natCast, appI_ok (by rw [List.length_take, List.length_drop]; omega), bind_some', yname_ok N (by omega), bind_some']
      obtain ⟨kd, s2, g1, g2, g3, g4⟩ := next_ok N (s := s1) (c := c + 1) 6 (by omega) (by omega) h4 (by omega)
      rw [g1, bind_some']
      simp only []
      obtain ⟨s3, op', nx', x, p1, p2, p3⟩ := pl_step N (c := c + 1 + 1) hI (by omega) g4 (by omega) c3 ha g2 g3
      rw [p1, bind_some']
      simp only []
      rw [appI_ok (by simp; omega), bind_some']
      cases f with
      | zero => omega
      | succ f =>
        exact pl_loop1 N hb0 hb hk f n (c + 7) s3 (l ++ [x]) op' nx' (by omega) (by simp; omega) (by simp; omega) (by simp at *; omega) (by simp; omega) (p2.le (by omega)) p3
    · rw [decide_eq_false hcond, if_neg (by simp)]
      exact ⟨s, l, op, nx, rfl, hs.le (by omega), hl, hI⟩
theorem pl7 (N : Nat) (l : List PlantElement) (op : List Int) (nx : Int) : yardgen_Plant_7 N l op nx = some (decide (0 < op.length ∧ l.length < 96 ∧ nx < 64)) := by
  unfold yardgen_Plant_7
  by_cases h1 : 0 < op.length
  · rw [if_pos (dpos (by omega))]
    by_cases h2 : l.length < 96
    · rw [if_pos (dpos (by omega))]; simp [h1, h2]
    · rw [if_neg (dneg (by omega))]; simp [h2]
  · rw [if_neg (dneg (by omega))]; simp [h1]
theorem pl_loop6 (N : Nat) {b : Int} (hb0 : 0 ≤ b) (hb : b ≤ 900000) : ∀ (f n : Nat) (c : Int) (s : Maker) (l : List PlantElement) (op : List Int) (nx : Int), f < n → op.length ≤ f → l.length ≤ 96 → c + op.length ≤ b + 30000 → Mk c s → PlI l op nx →
    ∃ s' l', yardgen_Plant_6 N n s l op nx = some (s', l') ∧ Mk (b + 30000) s' ∧ l'.length ≤ 96 ∧ ∃ op' nx', PlI l' op' nx'
  | f, 0, c, s, l, op, nx, hn, _, _, _, _, _ => by omega
  | f, n + 1, c, s, l, op, nx, hn, hf, hl, hc, hs, hI => by
    rw [yardgen_Plant_6, pl7, bind_some']
    by_cases hcond : 0 < op.length ∧ l.length < 96 ∧ nx < 64
    · rw [decide_eq_true hcond, if_pos rfl]
      obtain ⟨c1, c2, c3⟩ := hcond
      obtain ⟨r, s1, h1, h2, h3, h4⟩ := next_ok N (s := s) (c := c) 5 (by omega) (by omega) hs (by omega)
      rw [h1, bind_some']
      simp only []
      have ha := at_lt c1
      have hnx0 := hI.nx0
      obtain ⟨t1, t2, t3, t4⟩ := take_out ha hI.nd
      rw [List.take_zero, List.nil_append] at t1 t2 t3 t4
      have hcut : cutI op 1 (op.length : Int) = some (op.drop 1) := cutI_drop (i := 1) (by omega)
      obtain ⟨a0, a1⟩ := hI.rg _ (List.getElem_mem c1)
      have hln := hI.ln
      have fresh : ∀ n ∈ op.drop 1, n < nx := fun n hn => (hI.rg n (t2 n hn)).2
      cases f with
      | zero => omega
      | succ f =>
        unfold yardgen_Plant_8
        by_cases hr : 0 < r
        · rw [if_pos (dpos hr), yname_ok N (by omega), bind_some']
          have hg : getI op 0 = some op[0] := getI_nat ha
          rw [hg, bind_some', bind_some', appI_ok (by simp; omega), bind_some', lt_def, w64 (by omega) (by omega), bind_some', hcut, bind_some']
          refine pl_loop6 N hb0 hb f n (c + 1) s1 _ _ _ (by omega) (by rw [List.length_drop]; omega) (by simp; omega) (by rw [List.length_drop]; omega) h4 (hI.add (snd_track (nameN_ok _) ⟨a0, by omega⟩ ⟨hnx0, by omega⟩ (by omega) (by omega)) rfl ?_ ?_ t3 (by omega) (by omega) (by rw [List.length_drop]; omega))
          · intro n hn
            simp [endsP] at hn
            rcases hn with rfl | rfl
            · exact .inl (List.getElem_mem c1)
            · exact .inr (by omega)
          · intro n hn
            have := fresh n hn
            refine .inl ⟨t2 n hn, ?_⟩
            simp [endsP]
            exact ⟨fun hh => t1 (hh ▸ hn), by omega⟩
        · rw [if_neg (dneg hr), bind_some', hcut, bind_some']
          refine pl_loop6 N hb0 hb f n (c + 1) s1 _ _ _ (by omega) (by rw [List.length_drop]; omega) hl (by rw [List.length_drop]; omega) h4 ?_
          exact { hI with op1 := fun n hn => hI.op1 n (t2 n hn), nd := t3, rg := fun n hn => hI.rg n (t2 n hn), ln := by rw [List.length_drop]; omega }
    · rw [decide_eq_false hcond, if_neg (by simp)]
      exact ⟨s, l, rfl, hs.le (by omega), hl, op, nx, hI⟩
/-- A made plant has nothing wrong; its first element is a track. -/
structure MadeP (l : List PlantElement) : Prop where
  ok : PlOk l
  fst : ∃ x, l[0]? = some x ∧ x.kind = 1
theorem plant_at (N : Nat) (hN : 200 ≤ N) {b : Int} (hb0 : 0 ≤ b) (hb : b ≤ 900000) {s : Maker} (hs : Mk b s) {k : Int} (hk : k ≤ 60) : ∃ l s', yardgen_Plant N s k = some (l, s') ∧ Mk (b + 30000) s' ∧ MadeP l := by
  unfold yardgen_Plant
  have hnm : yardgen_name N 0 = some (nameN 0) := yname_ok N (i := 0) (by omega)
  obtain ⟨y, s1, h1, h2, h3, h4⟩ := next_ok N (s := s) (c := b) 2 (by omega) (by omega) hs (by omega)
  rw [hnm, bind_some', h1, bind_some']
  simp only []
  have hct : ∀ n, cnt [PlantElement.mk 1 (nameN 0) 0 1 0 500] n = if n = 0 ∨ n = 1 then 1 else 0 := by
    intro n
    unfold cnt
    have : (endsP (PlantElement.mk 1 (nameN 0) 0 1 0 500)) = [0, 1] := by simp [endsP]
    rw [List.filter_cons, this]
    by_cases hn : n = 0 ∨ n = 1
    · rw [if_pos (by simpa using hn), if_pos hn]; rfl
    · rw [if_neg (by simpa using hn), if_neg hn]; rfl
  have h0 : ∀ op : List Int, (∀ n ∈ op, n = 0 ∨ n = 1) → op.Nodup → op.length ≤ 2 → PlI [PlantElement.mk 1 (nameN 0) 0 1 0 500] op 2 := fun op ho hd hl =>
    { snd := fun x hx => by simp at hx; subst hx; exact snd_track (nameN_ok 0) (by omega) (by omega) (by omega) (by omega)
      nm := fun i x hx => by
        have := (List.getElem?_eq_some_iff.1 hx).1
        simp at this
        subst this
        simp at hx; subst hx; rfl
      ct := fun n => by rw [hct]; split <;> omega
      op1 := fun n _ => by rw [hct]; split <;> omega
      nd := hd
      rg := fun n hn => by rcases ho n hn with h | h <;> omega
      nw := fun n hn => by rw [hct, if_neg (by omega)]
      ln := by omega
      nx64 := by omega
      nx0 := by omega
      fst := ⟨_, rfl, rfl⟩ }
  have hop : ∃ op, yardgen_Plant_0 N [1] (y == 0) = some op ∧ PlI [PlantElement.mk 1 (nameN 0) 0 1 0 500] op 2 := by
    unfold yardgen_Plant_0
    by_cases hy : y = 0
    · rw [if_pos (by simpa using hy), appI_ok (by simp), bind_some']
      exact ⟨_, rfl, h0 _ (by simp) (by simp) (by simp)⟩
    · rw [if_neg (by simpa using hy)]
      exact ⟨_, rfl, h0 _ (by simp) (by simp) (by simp)⟩
  obtain ⟨op, g1, g2⟩ := hop
  rw [g1, bind_some']
  obtain ⟨s2, l2, op2, nx2, p1, p2, p3, p4⟩ := pl_loop1 N hb0 hb hk 100 N (b + 1) s1 _ op 2 (by omega) (by simp; omega) (by simp) (by omega) (by simp; omega) h4 g2
  rw [p1, bind_some']
  simp only []
  have := p4.ln
  have := p4.nx64
  obtain ⟨s3, l3, q1, q2, q3, op3, nx3, q4⟩ := pl_loop6 N hb0 hb 64 N (b + 20000) s2 l2 op2 nx2 (by omega) (by omega) (by omega) (by omega) p2 p4
  rw [q1, bind_some']
  exact ⟨l3, s3, rfl, q2, q4.ok q3, q4.fst⟩
end Go.W
end
