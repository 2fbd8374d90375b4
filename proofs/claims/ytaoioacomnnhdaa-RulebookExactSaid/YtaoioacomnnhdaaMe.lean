/- W1 WLib LNum LLoop WNum WNum2 WWag LWag LMade LVal LGen -/
import Derived.Test.YtaoioacomnnhdaaProg
import Derived.IntWalk
import Derived.Test.YtaoioacomnnhdaaMd
section
set_option linter.unusedVariables false
set_option linter.unusedSimpArgs false
set_option maxRecDepth 100000
set_option maxHeartbeats 1000000
namespace Go.W
open Go.AM Go.Proofs
noncomputable def Ty3 : Ty Int := TyOf 3 [.int .i64] fun x => (x, ())
noncomputable def Ty4 : Ty Bool := TyOf 4 [.bool] fun x => (x, ())
noncomputable def Ty5 : Ty UInt8 := TU8 5
noncomputable def Ty9 : Ty (List UInt8) := TyOf 9 [.str] fun x => (x, ())
noncomputable def Ty22 : Ty (List Int) := TyOf 22 [.sl Int Ty3] fun x => (x, ())
noncomputable def Ty36 : Ty Wagon := TyOf 36 [.str, .int .i64, .int .i64, .int .i64, .int .i64, .int .i64, .bool, .str] fun x => (x.number, x.length, x.axles, x.mass, x.brake, x.goods, x.gentle, x.dest, ())
noncomputable def Ty24 : Ty (List Wagon) := TyOf 24 [.sl Wagon Ty36] fun x => (x, ())
noncomputable def Ty32 : Ty Rule := TyOf 32 [.int .i64, .int .i64, .int .i64, .int .i64, .int .i64] fun x => (x.number, x.kind, x.a, x.b, x.c, ())
noncomputable def Ty52 : Ty Maker := TyOf 52 [.sl Int Ty3, .int .i64] fun x => (x.l, x.n, ())
noncomputable def Ty59 : Ty Brakes := TyOf 59 [.int .i64, .int .i64, .int .i64, .int .i64, .int .i64, .int .i64, .int .i64] fun x => (x.length, x.axles, x.mass, x.braked, x.percent, x.required, x.missing, ())
noncomputable def Ty63 : Ty Train := TyOf 63 [.sl Wagon Ty36, .sl Int Ty3, .int .i64, .int .i64, .int .i64, .int .i64, .int .i64, .int .i64, .int .i64] fun x => (x.l, x.off, x.total.length, x.total.axles, x.total.mass, x.total.braked, x.total.percent, x.total.required, x.total.missing, ())
structure TE where
  α : Type
  T : Ty α
  kc : α → List Value
noncomputable def tabL : Nat → TE
  | 3 => ⟨Int, Ty3, kInt .i64⟩
  | 4 => ⟨Bool, Ty4, kBool⟩
  | 5 => ⟨UInt8, Ty5, fun _ => []⟩
  | 9 => ⟨(List UInt8), Ty9, kStr⟩
  | 22 => ⟨(List Int), Ty22, fun _ => []⟩
  | 36 => ⟨Wagon, Ty36, fun _ => []⟩
  | 24 => ⟨(List Wagon), Ty24, fun _ => []⟩
  | 32 => ⟨Rule, Ty32, fun _ => []⟩
  | 52 => ⟨Maker, Ty52, fun _ => []⟩
  | 59 => ⟨Brakes, Ty59, fun _ => []⟩
  | 63 => ⟨Train, Ty63, fun _ => []⟩
  | _ => ⟨Bool, TBool 4, kBool⟩
noncomputable def D (t : Nat) : Type := (tabL t).α
noncomputable def G : Tab D := ⟨fun t => (tabL t).T, fun t => (tabL t).kc⟩
noncomputable def ti3 : TI Try.prog G 3 := tiOf [.int .i64] (fun (x : Int) => (x, ())) (fun y => (y.1 : Int)) (fun _ => rfl) (fun _ => rfl) (0 : Int) Try.t3 (.int .i64 0) rfl Try.type3 rfl rfl rfl rfl rfl rfl (fun z => ⟨rfl, trivial⟩) rfl
noncomputable def ti4 : TI Try.prog G 4 := tiOf [.bool] (fun (x : Bool) => (x, ())) (fun y => (y.1 : Bool)) (fun _ => rfl) (fun _ => rfl) (false : Bool) Try.t4 (.bool false) rfl Try.type4 rfl rfl rfl rfl rfl rfl (fun z => ⟨rfl, trivial⟩) rfl
noncomputable def ti5 : TI Try.prog G 5 := tiU8 (fun (x : UInt8) => x) (fun x => x) (fun x => x) (fun o => by cases o <;> rfl) (fun _ => rfl) (fun _ => rfl) Try.t5 rfl rfl (fun _ _ _ => Iff.rfl) Try.type5 rfl rfl rfl
noncomputable def ti9 : TI Try.prog G 9 := tiOf [.str] (fun (x : (List UInt8)) => (x, ())) (fun y => (y.1 : (List UInt8))) (fun _ => rfl) (fun _ => rfl) ([] : (List UInt8)) Try.t9 (.string ⟨#[]⟩) rfl Try.type9 rfl rfl rfl rfl rfl rfl (fun z => ⟨rfl, trivial⟩) rfl
noncomputable def ti22 : TI Try.prog G 22 := tiOf [.sl 3] (fun (x : (List Int)) => (x, ())) (fun y => (y.1 : (List Int))) (fun _ => rfl) (fun _ => rfl) ([] : (List Int)) Try.t22 (.slice none 0 0) rfl Try.type22 rfl rfl rfl rfl rfl rfl (fun z => ⟨.inl ⟨rfl, rfl⟩, trivial⟩) rfl
noncomputable def ti36 : TI Try.prog G 36 := tiOf [.str, .int .i64, .int .i64, .int .i64, .int .i64, .int .i64, .bool, .str] (fun (x : Wagon) => (x.number, x.length, x.axles, x.mass, x.brake, x.goods, x.gentle, x.dest, ())) (fun y => ((Wagon.mk y.1 y.2.1 y.2.2.1 y.2.2.2.1 y.2.2.2.2.1 y.2.2.2.2.2.1 y.2.2.2.2.2.2.1 y.2.2.2.2.2.2.2.1) : Wagon)) (fun _ => rfl) (fun _ => rfl) ((Wagon.mk [] 0 0 0 0 0 false []) : Wagon) Try.t36 (.agg #[.string ⟨#[]⟩, .int .i64 0, .int .i64 0, .int .i64 0, .int .i64 0, .int .i64 0, .bool false, .string ⟨#[]⟩]) rfl Try.type36 rfl rfl rfl rfl rfl rfl (fun z => ⟨rfl, rfl, rfl, rfl, rfl, rfl, rfl, rfl, trivial⟩) rfl
noncomputable def ti24 : TI Try.prog G 24 := tiOf [.sl 36] (fun (x : (List Wagon)) => (x, ())) (fun y => (y.1 : (List Wagon))) (fun _ => rfl) (fun _ => rfl) ([] : (List Wagon)) Try.t24 (.slice none 0 0) rfl Try.type24 rfl rfl rfl rfl rfl rfl (fun z => ⟨.inl ⟨rfl, rfl⟩, trivial⟩) rfl
noncomputable def ti32 : TI Try.prog G 32 := tiOf [.int .i64, .int .i64, .int .i64, .int .i64, .int .i64] (fun (x : Rule) => (x.number, x.kind, x.a, x.b, x.c, ())) (fun y => ((Rule.mk y.1 y.2.1 y.2.2.1 y.2.2.2.1 y.2.2.2.2.1) : Rule)) (fun _ => rfl) (fun _ => rfl) ((Rule.mk 0 0 0 0 0) : Rule) Try.t32 (.agg #[.int .i64 0, .int .i64 0, .int .i64 0, .int .i64 0, .int .i64 0]) rfl Try.type32 rfl rfl rfl rfl rfl rfl (fun z => ⟨rfl, rfl, rfl, rfl, rfl, trivial⟩) rfl
noncomputable def ti52 : TI Try.prog G 52 := tiOf [.sl 3, .int .i64] (fun (x : Maker) => (x.l, x.n, ())) (fun y => ((Maker.mk y.1 y.2.1) : Maker)) (fun _ => rfl) (fun _ => rfl) ((Maker.mk [] 0) : Maker) Try.t52 (.agg #[.slice none 0 0, .int .i64 0]) rfl Try.type52 rfl rfl rfl rfl rfl rfl (fun z => ⟨.inl ⟨rfl, rfl⟩, rfl, trivial⟩) rfl
noncomputable def ti59 : TI Try.prog G 59 := tiOf [.int .i64, .int .i64, .int .i64, .int .i64, .int .i64, .int .i64, .int .i64] (fun (x : Brakes) => (x.length, x.axles, x.mass, x.braked, x.percent, x.required, x.missing, ())) (fun y => ((Brakes.mk y.1 y.2.1 y.2.2.1 y.2.2.2.1 y.2.2.2.2.1 y.2.2.2.2.2.1 y.2.2.2.2.2.2.1) : Brakes)) (fun _ => rfl) (fun _ => rfl) ((Brakes.mk 0 0 0 0 0 0 0) : Brakes) Try.t59 (.agg #[.int .i64 0, .int .i64 0, .int .i64 0, .int .i64 0, .int .i64 0, .int .i64 0, .int .i64 0]) rfl Try.type59 rfl rfl rfl rfl rfl rfl (fun z => ⟨rfl, rfl, rfl, rfl, rfl, rfl, rfl, trivial⟩) rfl
noncomputable def ti63 : TI Try.prog G 63 := tiOf [.sl 36, .sl 3, .int .i64, .int .i64, .int .i64, .int .i64, .int .i64, .int .i64, .int .i64] (fun (x : Train) => (x.l, x.off, x.total.length, x.total.axles, x.total.mass, x.total.braked, x.total.percent, x.total.required, x.total.missing, ())) (fun y => ((Train.mk y.1 y.2.1 (Brakes.mk y.2.2.1 y.2.2.2.1 y.2.2.2.2.1 y.2.2.2.2.2.1 y.2.2.2.2.2.2.1 y.2.2.2.2.2.2.2.1 y.2.2.2.2.2.2.2.2.1)) : Train)) (fun _ => rfl) (fun _ => rfl) ((Train.mk [] [] (Brakes.mk 0 0 0 0 0 0 0)) : Train) Try.t63 (.agg #[.slice none 0 0, .slice none 0 0, .int .i64 0, .int .i64 0, .int .i64 0, .int .i64 0, .int .i64 0, .int .i64 0, .int .i64 0]) rfl Try.type63 rfl rfl rfl rfl rfl rfl (fun z => ⟨.inl ⟨rfl, rfl⟩, .inl ⟨rfl, rfl⟩, rfl, rfl, rfl, rfl, rfl, rfl, rfl, trivial⟩) rfl
noncomputable def bi5 : BI Try.prog G 5 := ⟨fun xs => xs, fun xs => xs, fun _ _ _ h => h, fun _ _ _ _ _ _ h => h, fun _ _ _ _ _ _ h => h, Try.t5, Try.underlying5, Try.type5, rfl⟩
noncomputable def ki9 : KI Try.prog G 9 := kiS (fun n => n) (inferInstance : DecidableEq (List UInt8)) Try.underlying9 (keyStr Try.underlying9 Try.type9 rfl) (fun _ => rfl)
noncomputable def vi4 : VI Try.prog G 4 := viB (fun n => n) (fun n => n) (fun _ => rfl) Try.t4 Try.underlying4 Try.type4 (valBool Try.underlying4 Try.type4 rfl) (fun _ => rfl) rfl
noncomputable def X0 : Ev Try.prog D where
  G := G
  I := fun t => match t with | 3 => some ti3 | 4 => some ti4 | 5 => some ti5 | 9 => some ti9 | 22 => some ti22 | 36 => some ti36 | 24 => some ti24 | 32 => some ti32 | 52 => some ti52 | 59 => some ti59 | 63 => some ti63 | _ => none
  A := fun _ => none
  J := fun k v => match k, v with | 9, 4 => some (miOf ki9 vi4) | _, _ => none
  B := fun t => match t with | 5 => some bi5 | _ => none
  Q := fun _ => none
  F := fun _ _ _ => false
  U := fun n => decide (n = 1)
  C := fun _ _ _ _ _ => none
noncomputable def fs0 (N : Nat) : List (FE D) := []
theorem all0 (N : Nat) : ∀ y ∈ fs0 N, CallOk X0 y.d y.F := fun y h => absurd h (by simp [fs0])
noncomputable def X00 (N : Nat) : Ev Try.prog D := X0.with (fs0 N)
theorem cok0 (N : Nat) : COk (X00 N) := COk.of (all0 N)
/-! ### humpyard/humpgen.New -/
noncomputable def u0_gen_New (N : Nat) : List (Pc D) := []
theorem oku0_gen_New (N : Nat) : ∀ u ∈ u0_gen_New N, PcOk (X00 N) (bodyOf Try.f9) u := pc_nil
noncomputable def dgen_New : FD D := { f := 9, np := 1, ins := [.v 0 (.sl 3)], fx := [], rcv := none, rk := 0, outs := [.o 2 (.box 52)], ofx := [(2, .box 0 0)], rvs := [.tmp 2], flat := false }
noncomputable def Fgen_New (N : Nat) : dgen_New.F := fun r x => gen_New N x.1
theorem ogen_New (N : Nat) : FOk Try.prog (X00 N) dgen_New (Fgen_New N) := ⟨⟨Try.f9, _, Try.func9, rfl, by kernel_rfl, by kernel_rfl, rfl, FC.of (cok0 N) (us := u0_gen_New N) (fun u h _ => oku0_gen_New N u h) (fun r x => by kernel_rfl)⟩, by kernel_rfl, by kernel_rfl, by kernel_rfl, by kernel_rfl⟩
noncomputable def fs1 (N : Nat) : List (FE D) := ⟨dgen_New, Fgen_New N⟩ :: fs0 N
theorem all1 (N : Nat) : ∀ y ∈ fs1 N, CallOk X0 y.d y.F := all_cons (x := ⟨dgen_New, Fgen_New N⟩) (ogen_New N) (all0 N)
noncomputable def X1 (N : Nat) : Ev Try.prog D := X0.with (fs1 N)
theorem cok1 (N : Nat) : COk (X1 N) := COk.of (all1 N)
/-! ### (*humpyard/humpgen.Maker).Next -/
noncomputable def u0_Maker_Next (N : Nat) : List (Pc D) := []
theorem oku0_Maker_Next (N : Nat) : ∀ u ∈ u0_Maker_Next N, PcOk (X1 N) (bodyOf Try.f13) u := pc_nil
noncomputable def PMaker_Next_0 : PD D := { path := [1, 1, 0, 1], ins := [.o 0 (.recv 52), .v 5 (.int .i64), .v 11 .bool], fx := [(0, .box 0 0)], ks := [1], exs := [⟨.normal, [.v 5 (.int .i64)], []⟩], keep := [0, 1] }
noncomputable def FMaker_Next_0 (N : Nat) : PMaker_Next_0.F := fun x => Maker_Next_0 N x.1 x.2.1 x.2.2.1
theorem cMaker_Next_0 (N : Nat) : CC (X1 N) (bodyOf Try.f13) PMaker_Next_0 (FMaker_Next_0 N) := CC.of (cok1 N) (us := u0_Maker_Next N) (fun u h _ => oku0_Maker_Next N u h) (fun x => by kernel_rfl)
noncomputable def uMaker_Next_0 (N : Nat) : List (Pc D) := PMaker_Next_0.pc (X1 N) (FMaker_Next_0 N) :: u0_Maker_Next N
theorem okuMaker_Next_0 (N : Nat) : ∀ u ∈ uMaker_Next_0 N, PcOk (X1 N) (bodyOf Try.f13) u := pc_cons ((cMaker_Next_0 N).pc (by kernel_rfl)) (oku0_Maker_Next N)
noncomputable def PMaker_Next_1 : PD D := { path := [1, 1, 1, 1, 1, 0, 1], ins := [.o 0 (.recv 52), .v 1 (.int .i64), .v 5 (.int .i64), .v 51 .bool], fx := [(0, .box 0 0)], ks := [1], exs := [⟨.normal, [.v 5 (.int .i64)], []⟩], keep := [0] }
noncomputable def FMaker_Next_1 (N : Nat) : PMaker_Next_1.F := fun x => Maker_Next_1 N x.2.1 x.2.2.1 x.2.2.2.1
theorem cMaker_Next_1 (N : Nat) : CC (X1 N) (bodyOf Try.f13) PMaker_Next_1 (FMaker_Next_1 N) := CC.of (cok1 N) (us := uMaker_Next_0 N) (fun u h _ => okuMaker_Next_0 N u h) (fun x => by kernel_rfl)
noncomputable def uMaker_Next_1 (N : Nat) : List (Pc D) := PMaker_Next_1.pc (X1 N) (FMaker_Next_1 N) :: uMaker_Next_0 N
theorem okuMaker_Next_1 (N : Nat) : ∀ u ∈ uMaker_Next_1 N, PcOk (X1 N) (bodyOf Try.f13) u := pc_cons ((cMaker_Next_1 N).pc (by kernel_rfl)) (okuMaker_Next_0 N)
noncomputable def dMaker_Next : FD D := { f := 13, np := 2, ins := [.v 1 (.int .i64)], fx := [], rcv := some (0, 52), rk := 2, outs := [.v 4 (.int .i64), .u 0 (.recv 52)], ofx := [], rvs := [.tmp 4], flat := false }
noncomputable def FMaker_Next (N : Nat) : dMaker_Next.F := fun r x => Maker_Next N r x.1
theorem oMaker_Next (N : Nat) : FOk Try.prog (X1 N) dMaker_Next (FMaker_Next N) := ⟨⟨Try.f13, _, Try.func13, rfl, by kernel_rfl, by kernel_rfl, rfl, FC.of (cok1 N) (us := uMaker_Next_1 N) (fun u h _ => okuMaker_Next_1 N u h) (fun r x => by kernel_rfl)⟩, by kernel_rfl, by kernel_rfl, by kernel_rfl, by kernel_rfl⟩
noncomputable def fs2 (N : Nat) : List (FE D) := ⟨dMaker_Next, FMaker_Next N⟩ :: fs1 N
theorem all2 (N : Nat) : ∀ y ∈ fs2 N, CallOk X0 y.d y.F := all_cons (x := ⟨dMaker_Next, FMaker_Next N⟩) (oMaker_Next N) (all1 N)
noncomputable def X2 (N : Nat) : Ev Try.prog D := X0.with (fs2 N)
theorem cok2 (N : Nat) : COk (X2 N) := COk.of (all2 N)
/-! ### (*humpyard/humpgen.Maker).Pick -/
noncomputable def u0_Maker_Pick (N : Nat) : List (Pc D) := []
theorem oku0_Maker_Pick (N : Nat) : ∀ u ∈ u0_Maker_Pick N, PcOk (X2 N) (bodyOf Try.f14) u := pc_nil
noncomputable def dMaker_Pick : FD D := { f := 14, np := 2, ins := [.v 1 (.sl 3)], fx := [], rcv := some (0, 52), rk := 2, outs := [.v 4 (.int .i64), .u 0 (.recv 52)], ofx := [], rvs := [.tmp 4], flat := false }
noncomputable def FMaker_Pick (N : Nat) : dMaker_Pick.F := fun r x => Maker_Pick N r x.1
theorem oMaker_Pick (N : Nat) : FOk Try.prog (X2 N) dMaker_Pick (FMaker_Pick N) := ⟨⟨Try.f14, _, Try.func14, rfl, by kernel_rfl, by kernel_rfl, rfl, FC.of (cok2 N) (us := u0_Maker_Pick N) (fun u h _ => oku0_Maker_Pick N u h) (fun r x => by kernel_rfl)⟩, by kernel_rfl, by kernel_rfl, by kernel_rfl, by kernel_rfl⟩
noncomputable def fs3 (N : Nat) : List (FE D) := ⟨dMaker_Pick, FMaker_Pick N⟩ :: fs2 N
theorem all3 (N : Nat) : ∀ y ∈ fs3 N, CallOk X0 y.d y.F := all_cons (x := ⟨dMaker_Pick, FMaker_Pick N⟩) (oMaker_Pick N) (all2 N)
noncomputable def X3 (N : Nat) : Ev Try.prog D := X0.with (fs3 N)
theorem cok3 (N : Nat) : COk (X3 N) := COk.of (all3 N)
/-! ### humpyard/yardgen.Rule -/
noncomputable def u0_yardgen_Rule (N : Nat) : List (Pc D) := []
theorem oku0_yardgen_Rule (N : Nat) : ∀ u ∈ u0_yardgen_Rule N, PcOk (X3 N) (bodyOf Try.f21) u := pc_nil
noncomputable def Pyardgen_Rule_0 : PD D := { path := [1, 1, 0, 1], ins := [.o 0 (.recv 52), .o 4 (.box 32), .o 5 (.box 32), .v 12 (.int .i64)], fx := [(0, .box 0 0), (4, .box 1 0), (5, .box 2 0)], ks := [2, 1, 2], exs := [⟨.normal, [.u 0 (.recv 52), .u 2 (.box 32)], []⟩], keep := [0, 4, 5] }
noncomputable def Fyardgen_Rule_0 (N : Nat) : Pyardgen_Rule_0.F := fun x => yardgen_Rule_0 N x.1 x.2.2.1 x.2.2.2.1
theorem cyardgen_Rule_0 (N : Nat) : CC (X3 N) (bodyOf Try.f21) Pyardgen_Rule_0 (Fyardgen_Rule_0 N) := CC.of (cok3 N) (us := u0_yardgen_Rule N) (fun u h _ => oku0_yardgen_Rule N u h) (fun x => by kernel_rfl)
noncomputable def uyardgen_Rule_0 (N : Nat) : List (Pc D) := Pyardgen_Rule_0.pc (X3 N) (Fyardgen_Rule_0 N) :: u0_yardgen_Rule N
theorem okuyardgen_Rule_0 (N : Nat) : ∀ u ∈ uyardgen_Rule_0 N, PcOk (X3 N) (bodyOf Try.f21) u := pc_cons ((cyardgen_Rule_0 N).pc (by kernel_rfl)) (oku0_yardgen_Rule N)
noncomputable def dyardgen_Rule : FD D := { f := 21, np := 2, ins := [.v 1 (.int .i64)], fx := [], rcv := some (0, 52), rk := 2, outs := [.v 1000000 (.agg 32), .u 0 (.recv 52)], ofx := [], rvs := [.cell 4 32], flat := false }
noncomputable def Fyardgen_Rule (N : Nat) : dyardgen_Rule.F := fun r x => yardgen_Rule N r x.1
theorem oyardgen_Rule (N : Nat) : FOk Try.prog (X3 N) dyardgen_Rule (Fyardgen_Rule N) := ⟨⟨Try.f21, _, Try.func21, rfl, by kernel_rfl, by kernel_rfl, rfl, FC.of (cok3 N) (us := uyardgen_Rule_0 N) (fun u h _ => okuyardgen_Rule_0 N u h) (fun r x => by kernel_rfl)⟩, by kernel_rfl, by kernel_rfl, by kernel_rfl, by kernel_rfl⟩
noncomputable def fs4 (N : Nat) : List (FE D) := ⟨dyardgen_Rule, Fyardgen_Rule N⟩ :: fs3 N
theorem all4 (N : Nat) : ∀ y ∈ fs4 N, CallOk X0 y.d y.F := all_cons (x := ⟨dyardgen_Rule, Fyardgen_Rule N⟩) (oyardgen_Rule N) (all3 N)
noncomputable def X4 (N : Nat) : Ev Try.prog D := X0.with (fs4 N)
theorem cok4 (N : Nat) : COk (X4 N) := COk.of (all4 N)
/-! ### humpyard/yardgen.Rules -/
noncomputable def u0_yardgen_Rules (N : Nat) : List (Pc D) := []
theorem oku0_yardgen_Rules (N : Nat) : ∀ u ∈ u0_yardgen_Rules N, PcOk (X4 N) (bodyOf Try.f10) u := pc_nil
noncomputable def Pyardgen_Rules_0 : PD D := { path := [1, 1, 0, 1, 0], ins := [.o 0 (.recv 52), .o 5 (.sl 32), .v 6 (.int .i64)], fx := [(0, .box 0 0), (5, .c (.own 1))], ks := [2, 0], exs := [⟨.exit 0, [.u 0 (.recv 52), .o 5 (.sl 32)], [(5, .c (.own 2))]⟩], keep := [0] }
noncomputable def Fyardgen_Rules_0 (N n : Nat) : Pyardgen_Rules_0.F := fun x => yardgen_Rules_0 N n x.1 x.2.1 x.2.2.1
theorem cyardgen_Rules_0 (N n : Nat) : CC (X4 N) (bodyOf Try.f10) Pyardgen_Rules_0 (Fyardgen_Rules_0 N n) := CC.loop (cok4 N) (us := u0_yardgen_Rules N) (c := sub (bodyOf Try.f10) [1, 1, 0, 1, 0, 0]) (by kernel_rfl) (by kernel_rfl) (fun u h _ => oku0_yardgen_Rules N u h) (fun x => rfl) (fun n x => by kernel_rfl) n
noncomputable def uyardgen_Rules_0 (N : Nat) : List (Pc D) := Pyardgen_Rules_0.pc (X4 N) (Fyardgen_Rules_0 N N) :: u0_yardgen_Rules N
theorem okuyardgen_Rules_0 (N : Nat) : ∀ u ∈ uyardgen_Rules_0 N, PcOk (X4 N) (bodyOf Try.f10) u := pc_cons ((cyardgen_Rules_0 N N).pc (by kernel_rfl)) (oku0_yardgen_Rules N)
noncomputable def dyardgen_Rules : FD D := { f := 10, np := 2, ins := [.v 1 (.int .i64)], fx := [], rcv := some (0, 52), rk := 2, outs := [.o 4 (.sl 32), .u 0 (.recv 52)], ofx := [(4, .c (.own 1))], rvs := [.tmp 4], flat := false }
noncomputable def Fyardgen_Rules (N : Nat) : dyardgen_Rules.F := fun r x => yardgen_Rules N r x.1
theorem oyardgen_Rules (N : Nat) : FOk Try.prog (X4 N) dyardgen_Rules (Fyardgen_Rules N) := ⟨⟨Try.f10, _, Try.func10, rfl, by kernel_rfl, by kernel_rfl, rfl, FC.of (cok4 N) (us := uyardgen_Rules_0 N) (fun u h _ => okuyardgen_Rules_0 N u h) (fun r x => by kernel_rfl)⟩, by kernel_rfl, by kernel_rfl, by kernel_rfl, by kernel_rfl⟩
noncomputable def fs5 (N : Nat) : List (FE D) := ⟨dyardgen_Rules, Fyardgen_Rules N⟩ :: fs4 N
theorem all5 (N : Nat) : ∀ y ∈ fs5 N, CallOk X0 y.d y.F := all_cons (x := ⟨dyardgen_Rules, Fyardgen_Rules N⟩) (oyardgen_Rules N) (all4 N)
noncomputable def X5 (N : Nat) : Ev Try.prog D := X0.with (fs5 N)
theorem cok5 (N : Nat) : COk (X5 N) := COk.of (all5 N)
/-! ### (*humpyard/humpgen.Maker).Digits -/
noncomputable def u0_Maker_Digits (N : Nat) : List (Pc D) := []
theorem oku0_Maker_Digits (N : Nat) : ∀ u ∈ u0_Maker_Digits N, PcOk (X5 N) (bodyOf Try.f55) u := pc_nil
noncomputable def PMaker_Digits_0 : PD D := { path := [1, 1, 0, 1, 0], ins := [.o 0 (.recv 52), .v 1 (.int .i64), .o 5 (.sl 5), .v 6 (.int .i64)], fx := [(0, .box 0 0), (5, .c (.own 1))], ks := [2, 2], exs := [⟨.exit 0, [.u 0 (.recv 52), .u 1 (.sl 5)], []⟩], keep := [0, 5] }
noncomputable def FMaker_Digits_0 (N n : Nat) : PMaker_Digits_0.F := fun x => Maker_Digits_0 N x.2.1 n x.1 x.2.2.1 x.2.2.2.1
theorem cMaker_Digits_0 (N n : Nat) : CC (X5 N) (bodyOf Try.f55) PMaker_Digits_0 (FMaker_Digits_0 N n) := CC.loop (cok5 N) (us := u0_Maker_Digits N) (c := sub (bodyOf Try.f55) [1, 1, 0, 1, 0, 0]) (by kernel_rfl) (by kernel_rfl) (fun u h _ => oku0_Maker_Digits N u h) (fun x => rfl) (fun n x => by kernel_rfl) n
noncomputable def uMaker_Digits_0 (N : Nat) : List (Pc D) := PMaker_Digits_0.pc (X5 N) (FMaker_Digits_0 N N) :: u0_Maker_Digits N
theorem okuMaker_Digits_0 (N : Nat) : ∀ u ∈ uMaker_Digits_0 N, PcOk (X5 N) (bodyOf Try.f55) u := pc_cons ((cMaker_Digits_0 N N).pc (by kernel_rfl)) (oku0_Maker_Digits N)
noncomputable def dMaker_Digits : FD D := { f := 55, np := 2, ins := [.v 1 (.int .i64)], fx := [], rcv := some (0, 52), rk := 2, outs := [.v 4 .str, .u 0 (.recv 52)], ofx := [], rvs := [.tmp 4], flat := false }
noncomputable def FMaker_Digits (N : Nat) : dMaker_Digits.F := fun r x => Maker_Digits N r x.1
theorem oMaker_Digits (N : Nat) : FOk Try.prog (X5 N) dMaker_Digits (FMaker_Digits N) := ⟨⟨Try.f55, _, Try.func55, rfl, by kernel_rfl, by kernel_rfl, rfl, FC.of (cok5 N) (us := uMaker_Digits_0 N) (fun u h _ => okuMaker_Digits_0 N u h) (fun r x => by kernel_rfl)⟩, by kernel_rfl, by kernel_rfl, by kernel_rfl, by kernel_rfl⟩
noncomputable def fs6 (N : Nat) : List (FE D) := ⟨dMaker_Digits, FMaker_Digits N⟩ :: fs5 N
theorem all6 (N : Nat) : ∀ y ∈ fs6 N, CallOk X0 y.d y.F := all_cons (x := ⟨dMaker_Digits, FMaker_Digits N⟩) (oMaker_Digits N) (all5 N)
noncomputable def X6 (N : Nat) : Ev Try.prog D := X0.with (fs6 N)
theorem cok6 (N : Nat) : COk (X6 N) := COk.of (all6 N)
/-! ### humpyard/humpyardref02.digits -/
noncomputable def u0_r02_digits (N : Nat) : List (Pc D) := []
theorem oku0_r02_digits (N : Nat) : ∀ u ∈ u0_r02_digits N, PcOk (X6 N) (bodyOf Try.f64) u := pc_nil
noncomputable def Pr02_digits_1 : PD D := { path := [1, 1, 0, 1, 0, 0, 1, 0, 0, 0], ins := [.v 0 .str, .v 5 (.int .i64)], fx := [], ks := [], exs := [⟨.normal, [.v 24 .bool], []⟩], keep := [0, 1, 5] }
noncomputable def Fr02_digits_1 (N : Nat) : Pr02_digits_1.F := fun x => r02_digits_1 N x.1 x.2.1
theorem cr02_digits_1 (N : Nat) : CC (X6 N) (bodyOf Try.f64) Pr02_digits_1 (Fr02_digits_1 N) := CC.of (cok6 N) (us := u0_r02_digits N) (fun u h _ => oku0_r02_digits N u h) (fun x => by kernel_rfl)
noncomputable def ur02_digits_1 (N : Nat) : List (Pc D) := Pr02_digits_1.pc (X6 N) (Fr02_digits_1 N) :: u0_r02_digits N
theorem okur02_digits_1 (N : Nat) : ∀ u ∈ ur02_digits_1 N, PcOk (X6 N) (bodyOf Try.f64) u := pc_cons ((cr02_digits_1 N).pc (by kernel_rfl)) (oku0_r02_digits N)
noncomputable def Pr02_digits_0 : PD D := { path := [1, 1, 0, 1, 0], ins := [.v 0 .str, .v 1 (.int .i64), .v 5 (.int .i64)], fx := [], ks := [], exs := [⟨.exit 0, [], []⟩, ⟨.ret, [.v 4 .bool], []⟩], keep := [] }
noncomputable def Fr02_digits_0 (N n : Nat) : Pr02_digits_0.F := fun x => r02_digits_0 N x.1 x.2.1 n x.2.2.1
theorem cr02_digits_0 (N n : Nat) : CC (X6 N) (bodyOf Try.f64) Pr02_digits_0 (Fr02_digits_0 N n) := CC.loop (cok6 N) (us := ur02_digits_1 N) (c := sub (bodyOf Try.f64) [1, 1, 0, 1, 0, 0]) (by kernel_rfl) (by kernel_rfl) (fun u h _ => okur02_digits_1 N u h) (fun x => rfl) (fun n x => by kernel_rfl) n
noncomputable def ur02_digits_0 (N : Nat) : List (Pc D) := Pr02_digits_0.pc (X6 N) (Fr02_digits_0 N N) :: ur02_digits_1 N
theorem okur02_digits_0 (N : Nat) : ∀ u ∈ ur02_digits_0 N, PcOk (X6 N) (bodyOf Try.f64) u := pc_cons ((cr02_digits_0 N N).pc (by kernel_rfl)) (okur02_digits_1 N)
noncomputable def dr02_digits : FD D := { f := 64, np := 2, ins := [.v 0 .str, .v 1 (.int .i64)], fx := [], rcv := none, rk := 0, outs := [.v 4 .bool], ofx := [], rvs := [.tmp 4], flat := true }
noncomputable def Fr02_digits (N : Nat) : dr02_digits.F := fun r x => r02_digits N x.1 x.2.1
theorem or02_digits (N : Nat) : FOk Try.prog (X6 N) dr02_digits (Fr02_digits N) := ⟨⟨Try.f64, _, Try.func64, rfl, by kernel_rfl, by kernel_rfl, rfl, FC.of (cok6 N) (us := ur02_digits_0 N) (fun u h _ => okur02_digits_0 N u h) (fun r x => by kernel_rfl)⟩, by kernel_rfl, by kernel_rfl, by kernel_rfl, by kernel_rfl⟩
noncomputable def fs7 (N : Nat) : List (FE D) := ⟨dr02_digits, Fr02_digits N⟩ :: fs6 N
theorem all7 (N : Nat) : ∀ y ∈ fs7 N, CallOk X0 y.d y.F := all_cons (x := ⟨dr02_digits, Fr02_digits N⟩) (or02_digits N) (all6 N)
noncomputable def X7 (N : Nat) : Ev Try.prog D := X0.with (fs7 N)
theorem cok7 (N : Nat) : COk (X7 N) := COk.of (all7 N)
/-! ### humpyard/humpyardref02.sum -/
noncomputable def u0_r02_sum (N : Nat) : List (Pc D) := []
theorem oku0_r02_sum (N : Nat) : ∀ u ∈ u0_r02_sum N, PcOk (X7 N) (bodyOf Try.f65) u := pc_nil
noncomputable def Pr02_sum_1 : PD D := { path := [1, 1, 0, 1, 0, 0, 1, 0, 0, 1, 0, 1], ins := [.v 7 (.int .i64), .v 20 .bool], fx := [], ks := [], exs := [⟨.normal, [.v 7 (.int .i64)], []⟩], keep := [0, 1, 5, 6] }
noncomputable def Fr02_sum_1 (N : Nat) : Pr02_sum_1.F := fun x => r02_sum_1 N x.1 x.2.1
theorem cr02_sum_1 (N : Nat) : CC (X7 N) (bodyOf Try.f65) Pr02_sum_1 (Fr02_sum_1 N) := CC.of (cok7 N) (us := u0_r02_sum N) (fun u h _ => oku0_r02_sum N u h) (fun x => by kernel_rfl)
noncomputable def ur02_sum_1 (N : Nat) : List (Pc D) := Pr02_sum_1.pc (X7 N) (Fr02_sum_1 N) :: u0_r02_sum N
theorem okur02_sum_1 (N : Nat) : ∀ u ∈ ur02_sum_1 N, PcOk (X7 N) (bodyOf Try.f65) u := pc_cons ((cr02_sum_1 N).pc (by kernel_rfl)) (oku0_r02_sum N)
noncomputable def Pr02_sum_0 : PD D := { path := [1, 1, 0, 1, 0], ins := [.v 0 .str, .v 1 (.int .i64), .v 5 (.int .i64), .v 6 (.int .i64)], fx := [], ks := [], exs := [⟨.exit 0, [.v 5 (.int .i64)], []⟩], keep := [] }
noncomputable def Fr02_sum_0 (N n : Nat) : Pr02_sum_0.F := fun x => r02_sum_0 N x.1 x.2.1 n x.2.2.1 x.2.2.2.1
theorem cr02_sum_0 (N n : Nat) : CC (X7 N) (bodyOf Try.f65) Pr02_sum_0 (Fr02_sum_0 N n) := CC.loop (cok7 N) (us := ur02_sum_1 N) (c := sub (bodyOf Try.f65) [1, 1, 0, 1, 0, 0]) (by kernel_rfl) (by kernel_rfl) (fun u h _ => okur02_sum_1 N u h) (fun x => rfl) (fun n x => by kernel_rfl) n
noncomputable def ur02_sum_0 (N : Nat) : List (Pc D) := Pr02_sum_0.pc (X7 N) (Fr02_sum_0 N N) :: ur02_sum_1 N
theorem okur02_sum_0 (N : Nat) : ∀ u ∈ ur02_sum_0 N, PcOk (X7 N) (bodyOf Try.f65) u := pc_cons ((cr02_sum_0 N N).pc (by kernel_rfl)) (okur02_sum_1 N)
noncomputable def dr02_sum : FD D := { f := 65, np := 2, ins := [.v 0 .str, .v 1 (.int .i64)], fx := [], rcv := none, rk := 0, outs := [.v 4 (.int .i64)], ofx := [], rvs := [.tmp 4], flat := true }
noncomputable def Fr02_sum (N : Nat) : dr02_sum.F := fun r x => r02_sum N x.1 x.2.1
theorem or02_sum (N : Nat) : FOk Try.prog (X7 N) dr02_sum (Fr02_sum N) := ⟨⟨Try.f65, _, Try.func65, rfl, by kernel_rfl, by kernel_rfl, rfl, FC.of (cok7 N) (us := ur02_sum_0 N) (fun u h _ => okur02_sum_0 N u h) (fun r x => by kernel_rfl)⟩, by kernel_rfl, by kernel_rfl, by kernel_rfl, by kernel_rfl⟩
noncomputable def fs8 (N : Nat) : List (FE D) := ⟨dr02_sum, Fr02_sum N⟩ :: fs7 N
theorem all8 (N : Nat) : ∀ y ∈ fs8 N, CallOk X0 y.d y.F := all_cons (x := ⟨dr02_sum, Fr02_sum N⟩) (or02_sum N) (all7 N)
noncomputable def X8 (N : Nat) : Ev Try.prog D := X0.with (fs8 N)
theorem cok8 (N : Nat) : COk (X8 N) := COk.of (all8 N)
/-! ### humpyard/humpyardref02.Digit -/
noncomputable def u0_r02_Digit (N : Nat) : List (Pc D) := []
theorem oku0_r02_Digit (N : Nat) : ∀ u ∈ u0_r02_Digit N, PcOk (X8 N) (bodyOf Try.f56) u := pc_nil
noncomputable def dr02_Digit : FD D := { f := 56, np := 1, ins := [.v 0 .str], fx := [], rcv := none, rk := 0, outs := [.v 2 (.int .i64), .v 3 (.int .i64)], ofx := [], rvs := [.tmp 2, .tmp 3], flat := true }
noncomputable def Fr02_Digit (N : Nat) : dr02_Digit.F := fun r x => r02_Digit N x.1
theorem or02_Digit (N : Nat) : FOk Try.prog (X8 N) dr02_Digit (Fr02_Digit N) := ⟨⟨Try.f56, _, Try.func56, rfl, by kernel_rfl, by kernel_rfl, rfl, FC.of (cok8 N) (us := u0_r02_Digit N) (fun u h _ => oku0_r02_Digit N u h) (fun r x => by kernel_rfl)⟩, by kernel_rfl, by kernel_rfl, by kernel_rfl, by kernel_rfl⟩
noncomputable def fs9 (N : Nat) : List (FE D) := ⟨dr02_Digit, Fr02_Digit N⟩ :: fs8 N
theorem all9 (N : Nat) : ∀ y ∈ fs9 N, CallOk X0 y.d y.F := all_cons (x := ⟨dr02_Digit, Fr02_Digit N⟩) (or02_Digit N) (all8 N)
noncomputable def X9 (N : Nat) : Ev Try.prog D := X0.with (fs9 N)
theorem cok9 (N : Nat) : COk (X9 N) := COk.of (all9 N)
/-! ### (*humpyard/humpgen.Maker).Number -/
noncomputable def u0_Maker_Number (N : Nat) : List (Pc D) := []
theorem oku0_Maker_Number (N : Nat) : ∀ u ∈ u0_Maker_Number N, PcOk (X9 N) (bodyOf Try.f32) u := pc_nil
noncomputable def dMaker_Number : FD D := { f := 32, np := 2, ins := [.v 1 (.int .i64)], fx := [], rcv := some (0, 52), rk := 2, outs := [.v 4 .str, .u 0 (.recv 52)], ofx := [], rvs := [.tmp 4], flat := false }
noncomputable def FMaker_Number (N : Nat) : dMaker_Number.F := fun r x => Maker_Number N r x.1
theorem oMaker_Number (N : Nat) : FOk Try.prog (X9 N) dMaker_Number (FMaker_Number N) := ⟨⟨Try.f32, _, Try.func32, rfl, by kernel_rfl, by kernel_rfl, rfl, FC.of (cok9 N) (us := u0_Maker_Number N) (fun u h _ => oku0_Maker_Number N u h) (fun r x => by kernel_rfl)⟩, by kernel_rfl, by kernel_rfl, by kernel_rfl, by kernel_rfl⟩
noncomputable def fs10 (N : Nat) : List (FE D) := ⟨dMaker_Number, FMaker_Number N⟩ :: fs9 N
theorem all10 (N : Nat) : ∀ y ∈ fs10 N, CallOk X0 y.d y.F := all_cons (x := ⟨dMaker_Number, FMaker_Number N⟩) (oMaker_Number N) (all9 N)
noncomputable def X10 (N : Nat) : Ev Try.prog D := X0.with (fs10 N)
theorem cok10 (N : Nat) : COk (X10 N) := COk.of (all10 N)
/-! ### (*humpyard/humpgen.Maker).Name -/
noncomputable def u0_Maker_Name (N : Nat) : List (Pc D) := []
theorem oku0_Maker_Name (N : Nat) : ∀ u ∈ u0_Maker_Name N, PcOk (X10 N) (bodyOf Try.f33) u := pc_nil
noncomputable def dMaker_Name : FD D := { f := 33, np := 1, ins := [], fx := [], rcv := some (0, 52), rk := 2, outs := [.v 2 .str, .u 0 (.recv 52)], ofx := [], rvs := [.tmp 2], flat := false }
noncomputable def FMaker_Name (N : Nat) : dMaker_Name.F := fun r x => Maker_Name N r
theorem oMaker_Name (N : Nat) : FOk Try.prog (X10 N) dMaker_Name (FMaker_Name N) := ⟨⟨Try.f33, _, Try.func33, rfl, by kernel_rfl, by kernel_rfl, rfl, FC.of (cok10 N) (us := u0_Maker_Name N) (fun u h _ => oku0_Maker_Name N u h) (fun r x => by kernel_rfl)⟩, by kernel_rfl, by kernel_rfl, by kernel_rfl, by kernel_rfl⟩
noncomputable def fs11 (N : Nat) : List (FE D) := ⟨dMaker_Name, FMaker_Name N⟩ :: fs10 N
theorem all11 (N : Nat) : ∀ y ∈ fs11 N, CallOk X0 y.d y.F := all_cons (x := ⟨dMaker_Name, FMaker_Name N⟩) (oMaker_Name N) (all10 N)
noncomputable def X11 (N : Nat) : Ev Try.prog D := X0.with (fs11 N)
theorem cok11 (N : Nat) : COk (X11 N) := COk.of (all11 N)
/-! ### (*humpyard/humpgen.Maker).Wagon -/
noncomputable def u0_Maker_Wagon (N : Nat) : List (Pc D) := []
theorem oku0_Maker_Wagon (N : Nat) : ∀ u ∈ u0_Maker_Wagon N, PcOk (X11 N) (bodyOf Try.f22) u := pc_nil
noncomputable def PMaker_Wagon_1 : PD D := { path := [1, 1, 0, 1, 0, 0, 1], ins := [.o 0 (.recv 52), .o 4 (.box 36), .o 5 (.box 36), .v 26 (.int .u8), .v 27 .bool], fx := [(0, .box 0 0), (4, .box 1 0), (5, .box 2 0)], ks := [1, 1, 1], exs := [⟨.normal, [.v 27 .bool], []⟩], keep := [0, 4, 5, 26] }
noncomputable def FMaker_Wagon_1 (N : Nat) : PMaker_Wagon_1.F := fun x => Maker_Wagon_1 N x.2.2.2.1 x.2.2.2.2.1
theorem cMaker_Wagon_1 (N : Nat) : CC (X11 N) (bodyOf Try.f22) PMaker_Wagon_1 (FMaker_Wagon_1 N) := CC.of (cok11 N) (us := u0_Maker_Wagon N) (fun u h _ => oku0_Maker_Wagon N u h) (fun x => by kernel_rfl)
noncomputable def uMaker_Wagon_1 (N : Nat) : List (Pc D) := PMaker_Wagon_1.pc (X11 N) (FMaker_Wagon_1 N) :: u0_Maker_Wagon N
theorem okuMaker_Wagon_1 (N : Nat) : ∀ u ∈ uMaker_Wagon_1 N, PcOk (X11 N) (bodyOf Try.f22) u := pc_cons ((cMaker_Wagon_1 N).pc (by kernel_rfl)) (oku0_Maker_Wagon N)
noncomputable def PMaker_Wagon_0 : PD D := { path := [1, 1, 0, 1], ins := [.o 0 (.recv 52), .o 4 (.box 36), .o 5 (.box 36), .v 26 (.int .u8)], fx := [(0, .box 0 0), (4, .box 1 0), (5, .box 2 0)], ks := [1, 1, 2], exs := [⟨.normal, [.u 2 (.box 36)], []⟩], keep := [0, 4, 5] }
noncomputable def FMaker_Wagon_0 (N : Nat) : PMaker_Wagon_0.F := fun x => Maker_Wagon_0 N x.2.2.1 x.2.2.2.1
theorem cMaker_Wagon_0 (N : Nat) : CC (X11 N) (bodyOf Try.f22) PMaker_Wagon_0 (FMaker_Wagon_0 N) := CC.of (cok11 N) (us := uMaker_Wagon_1 N) (fun u h _ => okuMaker_Wagon_1 N u h) (fun x => by kernel_rfl)
noncomputable def uMaker_Wagon_0 (N : Nat) : List (Pc D) := PMaker_Wagon_0.pc (X11 N) (FMaker_Wagon_0 N) :: uMaker_Wagon_1 N
theorem okuMaker_Wagon_0 (N : Nat) : ∀ u ∈ uMaker_Wagon_0 N, PcOk (X11 N) (bodyOf Try.f22) u := pc_cons ((cMaker_Wagon_0 N).pc (by kernel_rfl)) (okuMaker_Wagon_1 N)
noncomputable def dMaker_Wagon : FD D := { f := 22, np := 2, ins := [.v 1 (.int .i64)], fx := [], rcv := some (0, 52), rk := 2, outs := [.v 1000000 (.agg 36), .u 0 (.recv 52)], ofx := [], rvs := [.cell 4 36], flat := false }
noncomputable def FMaker_Wagon (N : Nat) : dMaker_Wagon.F := fun r x => Maker_Wagon N r x.1
theorem oMaker_Wagon (N : Nat) : FOk Try.prog (X11 N) dMaker_Wagon (FMaker_Wagon N) := ⟨⟨Try.f22, _, Try.func22, rfl, by kernel_rfl, by kernel_rfl, rfl, FC.of (cok11 N) (us := uMaker_Wagon_0 N) (fun u h _ => okuMaker_Wagon_0 N u h) (fun r x => by kernel_rfl)⟩, by kernel_rfl, by kernel_rfl, by kernel_rfl, by kernel_rfl⟩
noncomputable def fs12 (N : Nat) : List (FE D) := ⟨dMaker_Wagon, FMaker_Wagon N⟩ :: fs11 N
theorem all12 (N : Nat) : ∀ y ∈ fs12 N, CallOk X0 y.d y.F := all_cons (x := ⟨dMaker_Wagon, FMaker_Wagon N⟩) (oMaker_Wagon N) (all11 N)
noncomputable def X12 (N : Nat) : Ev Try.prog D := X0.with (fs12 N)
theorem cok12 (N : Nat) : COk (X12 N) := COk.of (all12 N)
/-! ### (*humpyard/humpgen.Maker).Wagons -/
noncomputable def u0_Maker_Wagons (N : Nat) : List (Pc D) := []
theorem oku0_Maker_Wagons (N : Nat) : ∀ u ∈ u0_Maker_Wagons N, PcOk (X12 N) (bodyOf Try.f11) u := pc_nil
noncomputable def PMaker_Wagons_0 : PD D := { path := [1, 1, 0, 1, 0], ins := [.o 0 (.recv 52), .o 5 (.sl 36), .v 6 (.int .i64)], fx := [(0, .box 0 0), (5, .c (.own 1))], ks := [2, 0], exs := [⟨.exit 0, [.u 0 (.recv 52), .o 5 (.sl 36)], [(5, .c (.own 2))]⟩], keep := [0] }
noncomputable def FMaker_Wagons_0 (N n : Nat) : PMaker_Wagons_0.F := fun x => Maker_Wagons_0 N n x.1 x.2.1 x.2.2.1
theorem cMaker_Wagons_0 (N n : Nat) : CC (X12 N) (bodyOf Try.f11) PMaker_Wagons_0 (FMaker_Wagons_0 N n) := CC.loop (cok12 N) (us := u0_Maker_Wagons N) (c := sub (bodyOf Try.f11) [1, 1, 0, 1, 0, 0]) (by kernel_rfl) (by kernel_rfl) (fun u h _ => oku0_Maker_Wagons N u h) (fun x => rfl) (fun n x => by kernel_rfl) n
noncomputable def uMaker_Wagons_0 (N : Nat) : List (Pc D) := PMaker_Wagons_0.pc (X12 N) (FMaker_Wagons_0 N N) :: u0_Maker_Wagons N
theorem okuMaker_Wagons_0 (N : Nat) : ∀ u ∈ uMaker_Wagons_0 N, PcOk (X12 N) (bodyOf Try.f11) u := pc_cons ((cMaker_Wagons_0 N N).pc (by kernel_rfl)) (oku0_Maker_Wagons N)
noncomputable def dMaker_Wagons : FD D := { f := 11, np := 2, ins := [.v 1 (.int .i64)], fx := [], rcv := some (0, 52), rk := 2, outs := [.o 4 (.sl 36), .u 0 (.recv 52)], ofx := [(4, .c (.own 1))], rvs := [.tmp 4], flat := false }
noncomputable def FMaker_Wagons (N : Nat) : dMaker_Wagons.F := fun r x => Maker_Wagons N r x.1
theorem oMaker_Wagons (N : Nat) : FOk Try.prog (X12 N) dMaker_Wagons (FMaker_Wagons N) := ⟨⟨Try.f11, _, Try.func11, rfl, by kernel_rfl, by kernel_rfl, rfl, FC.of (cok12 N) (us := uMaker_Wagons_0 N) (fun u h _ => okuMaker_Wagons_0 N u h) (fun r x => by kernel_rfl)⟩, by kernel_rfl, by kernel_rfl, by kernel_rfl, by kernel_rfl⟩
noncomputable def fs13 (N : Nat) : List (FE D) := ⟨dMaker_Wagons, FMaker_Wagons N⟩ :: fs12 N
theorem all13 (N : Nat) : ∀ y ∈ fs13 N, CallOk X0 y.d y.F := all_cons (x := ⟨dMaker_Wagons, FMaker_Wagons N⟩) (oMaker_Wagons N) (all12 N)
noncomputable def X13 (N : Nat) : Ev Try.prog D := X0.with (fs13 N)
theorem cok13 (N : Nat) : COk (X13 N) := COk.of (all13 N)
/-! ### humpyard/yardgen.Off -/
noncomputable def u0_yardgen_Off (N : Nat) : List (Pc D) := []
theorem oku0_yardgen_Off (N : Nat) : ∀ u ∈ u0_yardgen_Off N, PcOk (X13 N) (bodyOf Try.f12) u := pc_nil
noncomputable def Pyardgen_Off_1 : PD D := { path := [1, 1, 0, 1, 0, 0, 1, 0], ins := [.o 0 (.recv 52), .o 5 (.sl 3), .v 6 (.int .i64)], fx := [(0, .box 0 0), (5, .c (.own 1))], ks := [2, 0], exs := [⟨.normal, [.u 0 (.recv 52), .o 5 (.sl 3)], [(5, .c (.own 2))]⟩], keep := [0, 1, 6] }
noncomputable def Fyardgen_Off_1 (N : Nat) : Pyardgen_Off_1.F := fun x => yardgen_Off_1 N x.1 x.2.1 x.2.2.1
theorem cyardgen_Off_1 (N : Nat) : CC (X13 N) (bodyOf Try.f12) Pyardgen_Off_1 (Fyardgen_Off_1 N) := CC.of (cok13 N) (us := u0_yardgen_Off N) (fun u h _ => oku0_yardgen_Off N u h) (fun x => by kernel_rfl)
noncomputable def uyardgen_Off_1 (N : Nat) : List (Pc D) := Pyardgen_Off_1.pc (X13 N) (Fyardgen_Off_1 N) :: u0_yardgen_Off N
theorem okuyardgen_Off_1 (N : Nat) : ∀ u ∈ uyardgen_Off_1 N, PcOk (X13 N) (bodyOf Try.f12) u := pc_cons ((cyardgen_Off_1 N).pc (by kernel_rfl)) (oku0_yardgen_Off N)
noncomputable def Pyardgen_Off_0 : PD D := { path := [1, 1, 0, 1, 0], ins := [.o 0 (.recv 52), .v 1 (.int .i64), .o 5 (.sl 3), .v 6 (.int .i64)], fx := [(0, .box 0 0), (5, .c (.own 1))], ks := [2, 0], exs := [⟨.exit 0, [.u 0 (.recv 52), .o 5 (.sl 3)], [(5, .c (.own 2))]⟩], keep := [0] }
noncomputable def Fyardgen_Off_0 (N n : Nat) : Pyardgen_Off_0.F := fun x => yardgen_Off_0 N x.2.1 n x.1 x.2.2.1 x.2.2.2.1
theorem cyardgen_Off_0 (N n : Nat) : CC (X13 N) (bodyOf Try.f12) Pyardgen_Off_0 (Fyardgen_Off_0 N n) := CC.loop (cok13 N) (us := uyardgen_Off_1 N) (c := sub (bodyOf Try.f12) [1, 1, 0, 1, 0, 0]) (by kernel_rfl) (by kernel_rfl) (fun u h _ => okuyardgen_Off_1 N u h) (fun x => rfl) (fun n x => by kernel_rfl) n
noncomputable def uyardgen_Off_0 (N : Nat) : List (Pc D) := Pyardgen_Off_0.pc (X13 N) (Fyardgen_Off_0 N N) :: uyardgen_Off_1 N
theorem okuyardgen_Off_0 (N : Nat) : ∀ u ∈ uyardgen_Off_0 N, PcOk (X13 N) (bodyOf Try.f12) u := pc_cons ((cyardgen_Off_0 N N).pc (by kernel_rfl)) (okuyardgen_Off_1 N)
noncomputable def dyardgen_Off : FD D := { f := 12, np := 2, ins := [.v 1 (.int .i64)], fx := [], rcv := some (0, 52), rk := 2, outs := [.o 4 (.sl 3), .u 0 (.recv 52)], ofx := [(4, .c (.own 1))], rvs := [.tmp 4], flat := false }
noncomputable def Fyardgen_Off (N : Nat) : dyardgen_Off.F := fun r x => yardgen_Off N r x.1
theorem oyardgen_Off (N : Nat) : FOk Try.prog (X13 N) dyardgen_Off (Fyardgen_Off N) := ⟨⟨Try.f12, _, Try.func12, rfl, by kernel_rfl, by kernel_rfl, rfl, FC.of (cok13 N) (us := uyardgen_Off_0 N) (fun u h _ => okuyardgen_Off_0 N u h) (fun r x => by kernel_rfl)⟩, by kernel_rfl, by kernel_rfl, by kernel_rfl, by kernel_rfl⟩
noncomputable def fs14 (N : Nat) : List (FE D) := ⟨dyardgen_Off, Fyardgen_Off N⟩ :: fs13 N
theorem all14 (N : Nat) : ∀ y ∈ fs14 N, CallOk X0 y.d y.F := all_cons (x := ⟨dyardgen_Off, Fyardgen_Off N⟩) (oyardgen_Off N) (all13 N)
noncomputable def X14 (N : Nat) : Ev Try.prog D := X0.with (fs14 N)
theorem cok14 (N : Nat) : COk (X14 N) := COk.of (all14 N)
/-! ### (*humpyard/humpgen.Maker).Spoil -/
noncomputable def u0_Maker_Spoil (N : Nat) : List (Pc D) := []
theorem oku0_Maker_Spoil (N : Nat) : ∀ u ∈ u0_Maker_Spoil N, PcOk (X14 N) (bodyOf Try.f23) u := pc_nil
noncomputable def dMaker_Spoil : FD D := { f := 23, np := 2, ins := [.v 1 .str], fx := [], rcv := some (0, 52), rk := 2, outs := [.v 4 .str, .u 0 (.recv 52)], ofx := [], rvs := [.tmp 4], flat := false }
noncomputable def FMaker_Spoil (N : Nat) : dMaker_Spoil.F := fun r x => Maker_Spoil N r x.1
theorem oMaker_Spoil (N : Nat) : FOk Try.prog (X14 N) dMaker_Spoil (FMaker_Spoil N) := ⟨⟨Try.f23, _, Try.func23, rfl, by kernel_rfl, by kernel_rfl, rfl, FC.of (cok14 N) (us := u0_Maker_Spoil N) (fun u h _ => oku0_Maker_Spoil N u h) (fun r x => by kernel_rfl)⟩, by kernel_rfl, by kernel_rfl, by kernel_rfl, by kernel_rfl⟩
noncomputable def fs15 (N : Nat) : List (FE D) := ⟨dMaker_Spoil, FMaker_Spoil N⟩ :: fs14 N
theorem all15 (N : Nat) : ∀ y ∈ fs15 N, CallOk X0 y.d y.F := all_cons (x := ⟨dMaker_Spoil, FMaker_Spoil N⟩) (oMaker_Spoil N) (all14 N)
noncomputable def X15 (N : Nat) : Ev Try.prog D := X0.with (fs15 N)
theorem cok15 (N : Nat) : COk (X15 N) := COk.of (all15 N)
/-! ### (*humpyard/humpgen.Maker).SpoilWagon -/
noncomputable def u0_Maker_SpoilWagon (N : Nat) : List (Pc D) := []
theorem oku0_Maker_SpoilWagon (N : Nat) : ∀ u ∈ u0_Maker_SpoilWagon N, PcOk (X15 N) (bodyOf Try.f15) u := pc_nil
noncomputable def PMaker_SpoilWagon_0 : PD D := { path := [1, 0, 1], ins := [.o 0 (.recv 52), .o 3 (.box 36), .o 4 (.box 36), .v 6 (.int .i64)], fx := [(0, .box 0 0), (3, .box 1 0), (4, .box 2 0)], ks := [2, 2, 1], exs := [⟨.normal, [.u 0 (.recv 52), .u 1 (.box 36)], []⟩], keep := [0, 3, 4] }
noncomputable def FMaker_SpoilWagon_0 (N : Nat) : PMaker_SpoilWagon_0.F := fun x => Maker_SpoilWagon_0 N x.1 x.2.1 x.2.2.2.1
theorem cMaker_SpoilWagon_0 (N : Nat) : CC (X15 N) (bodyOf Try.f15) PMaker_SpoilWagon_0 (FMaker_SpoilWagon_0 N) := CC.of (cok15 N) (us := u0_Maker_SpoilWagon N) (fun u h _ => oku0_Maker_SpoilWagon N u h) (fun x => by kernel_rfl)
noncomputable def uMaker_SpoilWagon_0 (N : Nat) : List (Pc D) := PMaker_SpoilWagon_0.pc (X15 N) (FMaker_SpoilWagon_0 N) :: u0_Maker_SpoilWagon N
theorem okuMaker_SpoilWagon_0 (N : Nat) : ∀ u ∈ uMaker_SpoilWagon_0 N, PcOk (X15 N) (bodyOf Try.f15) u := pc_cons ((cMaker_SpoilWagon_0 N).pc (by kernel_rfl)) (oku0_Maker_SpoilWagon N)
noncomputable def dMaker_SpoilWagon : FD D := { f := 15, np := 2, ins := [.v 1 (.agg 36)], fx := [], rcv := some (0, 52), rk := 2, outs := [.v 1000000 (.agg 36), .u 0 (.recv 52)], ofx := [], rvs := [.cell 4 36], flat := false }
noncomputable def FMaker_SpoilWagon (N : Nat) : dMaker_SpoilWagon.F := fun r x => Maker_SpoilWagon N r x.1
theorem oMaker_SpoilWagon (N : Nat) : FOk Try.prog (X15 N) dMaker_SpoilWagon (FMaker_SpoilWagon N) := ⟨⟨Try.f15, _, Try.func15, rfl, by kernel_rfl, by kernel_rfl, rfl, FC.of (cok15 N) (us := uMaker_SpoilWagon_0 N) (fun u h _ => okuMaker_SpoilWagon_0 N u h) (fun r x => by kernel_rfl)⟩, by kernel_rfl, by kernel_rfl, by kernel_rfl, by kernel_rfl⟩
noncomputable def fs16 (N : Nat) : List (FE D) := ⟨dMaker_SpoilWagon, FMaker_SpoilWagon N⟩ :: fs15 N
theorem all16 (N : Nat) : ∀ y ∈ fs16 N, CallOk X0 y.d y.F := all_cons (x := ⟨dMaker_SpoilWagon, FMaker_SpoilWagon N⟩) (oMaker_SpoilWagon N) (all15 N)
noncomputable def X16 (N : Nat) : Ev Try.prog D := X0.with (fs16 N)
theorem cok16 (N : Nat) : COk (X16 N) := COk.of (all16 N)
/-! ### humpyard/rulebook.valid -/
noncomputable def u0_rulebook_valid (N : Nat) : List (Pc D) := []
theorem oku0_rulebook_valid (N : Nat) : ∀ u ∈ u0_rulebook_valid N, PcOk (X16 N) (bodyOf Try.f31) u := pc_nil
noncomputable def Prulebook_valid_1 : PD D := { path := [1, 0, 1, 0, 0, 1, 1, 0, 0, 1, 0], ins := [.o 1 (.box 32), .v 4 (.int .i64), .o 11 (.sl 3)], fx := [(1, .box 0 0), (11, .c (.own 1))], ks := [1, 1], exs := [⟨.normal, [.v 22 .bool], []⟩], keep := [1, 11, 12, 13] }
noncomputable def Frulebook_valid_1 (N : Nat) : Prulebook_valid_1.F := fun x => rulebook_valid_1 N x.2.1
theorem crulebook_valid_1 (N : Nat) : CC (X16 N) (bodyOf Try.f31) Prulebook_valid_1 (Frulebook_valid_1 N) := CC.of (cok16 N) (us := u0_rulebook_valid N) (fun u h _ => oku0_rulebook_valid N u h) (fun x => by kernel_rfl)
noncomputable def urulebook_valid_1 (N : Nat) : List (Pc D) := Prulebook_valid_1.pc (X16 N) (Frulebook_valid_1 N) :: u0_rulebook_valid N
theorem okurulebook_valid_1 (N : Nat) : ∀ u ∈ urulebook_valid_1 N, PcOk (X16 N) (bodyOf Try.f31) u := pc_cons ((crulebook_valid_1 N).pc (by kernel_rfl)) (oku0_rulebook_valid N)
noncomputable def Prulebook_valid_0 : PD D := { path := [1, 0, 1, 0], ins := [.o 1 (.box 32), .o 11 (.sl 3), .v 12 (.int .i64), .v 13 (.int .i64)], fx := [(1, .box 0 0), (11, .c (.own 1))], ks := [1, 1], exs := [⟨.exit 0, [], []⟩, ⟨.ret, [.v 2 .bool], []⟩], keep := [1] }
noncomputable def Frulebook_valid_0 (N n : Nat) : Prulebook_valid_0.F := fun x => rulebook_valid_0 N x.2.1 x.2.2.1 n x.2.2.2.1
theorem crulebook_valid_0 (N n : Nat) : CC (X16 N) (bodyOf Try.f31) Prulebook_valid_0 (Frulebook_valid_0 N n) := CC.loop (cok16 N) (us := urulebook_valid_1 N) (c := sub (bodyOf Try.f31) [1, 0, 1, 0, 0]) (by kernel_rfl) (by kernel_rfl) (fun u h _ => okurulebook_valid_1 N u h) (fun x => rfl) (fun n x => by kernel_rfl) n
noncomputable def urulebook_valid_0 (N : Nat) : List (Pc D) := Prulebook_valid_0.pc (X16 N) (Frulebook_valid_0 N N) :: urulebook_valid_1 N
theorem okurulebook_valid_0 (N : Nat) : ∀ u ∈ urulebook_valid_0 N, PcOk (X16 N) (bodyOf Try.f31) u := pc_cons ((crulebook_valid_0 N N).pc (by kernel_rfl)) (okurulebook_valid_1 N)
noncomputable def Prulebook_valid_2 : PD D := { path := [1, 1, 0], ins := [.o 1 (.box 32)], fx := [(1, .box 0 0)], ks := [1], exs := [⟨.normal, [.v 2 .bool], []⟩], keep := [] }
noncomputable def Frulebook_valid_2 (N : Nat) : Prulebook_valid_2.F := fun x => rulebook_valid_2 N x.1
theorem crulebook_valid_2 (N : Nat) : CC (X16 N) (bodyOf Try.f31) Prulebook_valid_2 (Frulebook_valid_2 N) := CC.of (cok16 N) (us := urulebook_valid_0 N) (fun u h _ => okurulebook_valid_0 N u h) (fun x => by kernel_rfl)
noncomputable def urulebook_valid_2 (N : Nat) : List (Pc D) := Prulebook_valid_2.pc (X16 N) (Frulebook_valid_2 N) :: urulebook_valid_0 N
theorem okurulebook_valid_2 (N : Nat) : ∀ u ∈ urulebook_valid_2 N, PcOk (X16 N) (bodyOf Try.f31) u := pc_cons ((crulebook_valid_2 N).pc (by kernel_rfl)) (okurulebook_valid_0 N)
noncomputable def drulebook_valid : FD D := { f := 31, np := 1, ins := [.v 0 (.agg 32)], fx := [], rcv := none, rk := 0, outs := [.v 2 .bool], ofx := [], rvs := [.tmp 2], flat := true }
noncomputable def Frulebook_valid (N : Nat) : drulebook_valid.F := fun r x => rulebook_valid N x.1
theorem orulebook_valid (N : Nat) : FOk Try.prog (X16 N) drulebook_valid (Frulebook_valid N) := ⟨⟨Try.f31, _, Try.func31, rfl, by kernel_rfl, by kernel_rfl, rfl, FC.of (cok16 N) (us := urulebook_valid_2 N) (fun u h _ => okurulebook_valid_2 N u h) (fun r x => by kernel_rfl)⟩, by kernel_rfl, by kernel_rfl, by kernel_rfl, by kernel_rfl⟩
noncomputable def fs17 (N : Nat) : List (FE D) := ⟨drulebook_valid, Frulebook_valid N⟩ :: fs16 N
theorem all17 (N : Nat) : ∀ y ∈ fs17 N, CallOk X0 y.d y.F := all_cons (x := ⟨drulebook_valid, Frulebook_valid N⟩) (orulebook_valid N) (all16 N)
noncomputable def X17 (N : Nat) : Ev Try.prog D := X0.with (fs17 N)
theorem cok17 (N : Nat) : COk (X17 N) := COk.of (all17 N)
/-! ### humpyard/rulebook.Valid$1 -/
noncomputable def u0_rulebook_Valid_1 (N : Nat) : List (Pc D) := []
theorem oku0_rulebook_Valid_1 (N : Nat) : ∀ u ∈ u0_rulebook_Valid_1 N, PcOk (X17 N) (bodyOf Try.f38) u := pc_nil
noncomputable def drulebook_Valid_1 : FD D := { f := 38, np := 2, ins := [.v 0 (.agg 32), .v 1 (.rp 32)], fx := [], rcv := none, rk := 0, outs := [.v 3 .bool], ofx := [], rvs := [.tmp 3], flat := true }
noncomputable def Frulebook_Valid_1 (N : Nat) : drulebook_Valid_1.F := fun r x => rulebook_Valid_1 N x.1 x.2.1
theorem orulebook_Valid_1 (N : Nat) : FOk Try.prog (X17 N) drulebook_Valid_1 (Frulebook_Valid_1 N) := ⟨⟨Try.f38, _, Try.func38, rfl, by kernel_rfl, by kernel_rfl, rfl, FC.of (cok17 N) (us := u0_rulebook_Valid_1 N) (fun u h _ => oku0_rulebook_Valid_1 N u h) (fun r x => by kernel_rfl)⟩, by kernel_rfl, by kernel_rfl, by kernel_rfl, by kernel_rfl⟩
noncomputable def fs18 (N : Nat) : List (FE D) := ⟨drulebook_Valid_1, Frulebook_Valid_1 N⟩ :: fs17 N
theorem all18 (N : Nat) : ∀ y ∈ fs18 N, CallOk X0 y.d y.F := all_cons (x := ⟨drulebook_Valid_1, Frulebook_Valid_1 N⟩) (orulebook_Valid_1 N) (all17 N)
noncomputable def X18 (N : Nat) : Ev Try.prog D := X0.with (fs18 N)
theorem cok18 (N : Nat) : COk (X18 N) := COk.of (all18 N)
/-! ### slices.IndexFunc[[]humpyard/api.Rule,humpyard/api.Rule] -/
noncomputable def u0_slices_IndexFunc_api_Rule_api_Rule__rulebook_Valid_1 (N : Nat) : List (Pc D) := []
theorem oku0_slices_IndexFunc_api_Rule_api_Rule__rulebook_Valid_1 (N : Nat) : ∀ u ∈ u0_slices_IndexFunc_api_Rule_api_Rule__rulebook_Valid_1 N, PcOk (X18 N) (bodyOf Try.f61) u := pc_nil
noncomputable def Pslices_IndexFunc_api_Rule_api_Rule__rulebook_Valid_1_0 : PD D := { path := [1, 0, 1, 0], ins := [.v 0 (.sl 32), .v 1 (.fn 38 [32]), .v 7 (.int .i64), .v 8 (.int .i64)], fx := [], ks := [], exs := [⟨.exit 0, [], []⟩, ⟨.ret, [.v 4 (.int .i64)], []⟩], keep := [] }
noncomputable def Fslices_IndexFunc_api_Rule_api_Rule__rulebook_Valid_1_0 (N n : Nat) : Pslices_IndexFunc_api_Rule_api_Rule__rulebook_Valid_1_0.F := fun x => slices_IndexFunc_api_Rule_api_Rule__rulebook_Valid_1_0 N x.1 x.2.1.1 x.2.2.1 n x.2.2.2.1
theorem cslices_IndexFunc_api_Rule_api_Rule__rulebook_Valid_1_0 (N n : Nat) : CC (X18 N) (bodyOf Try.f61) Pslices_IndexFunc_api_Rule_api_Rule__rulebook_Valid_1_0 (Fslices_IndexFunc_api_Rule_api_Rule__rulebook_Valid_1_0 N n) := CC.loop (cok18 N) (us := u0_slices_IndexFunc_api_Rule_api_Rule__rulebook_Valid_1 N) (c := sub (bodyOf Try.f61) [1, 0, 1, 0, 0]) (by kernel_rfl) (by kernel_rfl) (fun u h _ => oku0_slices_IndexFunc_api_Rule_api_Rule__rulebook_Valid_1 N u h) (fun x => rfl) (fun n x => by kernel_rfl) n
noncomputable def uslices_IndexFunc_api_Rule_api_Rule__rulebook_Valid_1_0 (N : Nat) : List (Pc D) := Pslices_IndexFunc_api_Rule_api_Rule__rulebook_Valid_1_0.pc (X18 N) (Fslices_IndexFunc_api_Rule_api_Rule__rulebook_Valid_1_0 N N) :: u0_slices_IndexFunc_api_Rule_api_Rule__rulebook_Valid_1 N
theorem okuslices_IndexFunc_api_Rule_api_Rule__rulebook_Valid_1_0 (N : Nat) : ∀ u ∈ uslices_IndexFunc_api_Rule_api_Rule__rulebook_Valid_1_0 N, PcOk (X18 N) (bodyOf Try.f61) u := pc_cons ((cslices_IndexFunc_api_Rule_api_Rule__rulebook_Valid_1_0 N N).pc (by kernel_rfl)) (oku0_slices_IndexFunc_api_Rule_api_Rule__rulebook_Valid_1 N)
noncomputable def dslices_IndexFunc_api_Rule_api_Rule__rulebook_Valid_1 : FD D := { f := 61, np := 2, ins := [.v 0 (.sl 32), .v 1 (.fn 38 [32])], fx := [], rcv := none, rk := 0, outs := [.v 4 (.int .i64)], ofx := [], rvs := [.tmp 4], flat := true }
noncomputable def Fslices_IndexFunc_api_Rule_api_Rule__rulebook_Valid_1 (N : Nat) : dslices_IndexFunc_api_Rule_api_Rule__rulebook_Valid_1.F := fun r x => slices_IndexFunc_api_Rule_api_Rule__rulebook_Valid_1 N x.1 x.2.1.1
theorem oslices_IndexFunc_api_Rule_api_Rule__rulebook_Valid_1 (N : Nat) : FOk Try.prog (X18 N) dslices_IndexFunc_api_Rule_api_Rule__rulebook_Valid_1 (Fslices_IndexFunc_api_Rule_api_Rule__rulebook_Valid_1 N) := ⟨⟨Try.f61, _, Try.func61, rfl, by kernel_rfl, by kernel_rfl, rfl, FC.of (cok18 N) (us := uslices_IndexFunc_api_Rule_api_Rule__rulebook_Valid_1_0 N) (fun u h _ => okuslices_IndexFunc_api_Rule_api_Rule__rulebook_Valid_1_0 N u h) (fun r x => by kernel_rfl)⟩, by kernel_rfl, by kernel_rfl, by kernel_rfl, by kernel_rfl⟩
noncomputable def fs19 (N : Nat) : List (FE D) := ⟨dslices_IndexFunc_api_Rule_api_Rule__rulebook_Valid_1, Fslices_IndexFunc_api_Rule_api_Rule__rulebook_Valid_1 N⟩ :: fs18 N
theorem all19 (N : Nat) : ∀ y ∈ fs19 N, CallOk X0 y.d y.F := all_cons (x := ⟨dslices_IndexFunc_api_Rule_api_Rule__rulebook_Valid_1, Fslices_IndexFunc_api_Rule_api_Rule__rulebook_Valid_1 N⟩) (oslices_IndexFunc_api_Rule_api_Rule__rulebook_Valid_1 N) (all18 N)
noncomputable def X19 (N : Nat) : Ev Try.prog D := X0.with (fs19 N)
theorem cok19 (N : Nat) : COk (X19 N) := COk.of (all19 N)
/-! ### slices.ContainsFunc[[]humpyard/api.Rule,humpyard/api.Rule] -/
noncomputable def u0_slices_ContainsFunc_api_Rule_api_Rule__rulebook_Valid_1 (N : Nat) : List (Pc D) := []
theorem oku0_slices_ContainsFunc_api_Rule_api_Rule__rulebook_Valid_1 (N : Nat) : ∀ u ∈ u0_slices_ContainsFunc_api_Rule_api_Rule__rulebook_Valid_1 N, PcOk (X19 N) (bodyOf Try.f37) u := pc_nil
noncomputable def dslices_ContainsFunc_api_Rule_api_Rule__rulebook_Valid_1 : FD D := { f := 37, np := 2, ins := [.v 0 (.sl 32), .v 1 (.fn 38 [32])], fx := [], rcv := none, rk := 0, outs := [.v 4 .bool], ofx := [], rvs := [.tmp 4], flat := true }
noncomputable def Fslices_ContainsFunc_api_Rule_api_Rule__rulebook_Valid_1 (N : Nat) : dslices_ContainsFunc_api_Rule_api_Rule__rulebook_Valid_1.F := fun r x => slices_ContainsFunc_api_Rule_api_Rule__rulebook_Valid_1 N x.1 x.2.1.1
theorem oslices_ContainsFunc_api_Rule_api_Rule__rulebook_Valid_1 (N : Nat) : FOk Try.prog (X19 N) dslices_ContainsFunc_api_Rule_api_Rule__rulebook_Valid_1 (Fslices_ContainsFunc_api_Rule_api_Rule__rulebook_Valid_1 N) := ⟨⟨Try.f37, _, Try.func37, rfl, by kernel_rfl, by kernel_rfl, rfl, FC.of (cok19 N) (us := u0_slices_ContainsFunc_api_Rule_api_Rule__rulebook_Valid_1 N) (fun u h _ => oku0_slices_ContainsFunc_api_Rule_api_Rule__rulebook_Valid_1 N u h) (fun r x => by kernel_rfl)⟩, by kernel_rfl, by kernel_rfl, by kernel_rfl, by kernel_rfl⟩
noncomputable def fs20 (N : Nat) : List (FE D) := ⟨dslices_ContainsFunc_api_Rule_api_Rule__rulebook_Valid_1, Fslices_ContainsFunc_api_Rule_api_Rule__rulebook_Valid_1 N⟩ :: fs19 N
theorem all20 (N : Nat) : ∀ y ∈ fs20 N, CallOk X0 y.d y.F := all_cons (x := ⟨dslices_ContainsFunc_api_Rule_api_Rule__rulebook_Valid_1, Fslices_ContainsFunc_api_Rule_api_Rule__rulebook_Valid_1 N⟩) (oslices_ContainsFunc_api_Rule_api_Rule__rulebook_Valid_1 N) (all19 N)
noncomputable def X20 (N : Nat) : Ev Try.prog D := X0.with (fs20 N)
theorem cok20 (N : Nat) : COk (X20 N) := COk.of (all20 N)
/-! ### humpyard/rulebook.Valid -/
noncomputable def u0_rulebook_Valid (N : Nat) : List (Pc D) := []
theorem oku0_rulebook_Valid (N : Nat) : ∀ u ∈ u0_rulebook_Valid N, PcOk (X20 N) (bodyOf Try.f26) u := pc_nil
noncomputable def Prulebook_Valid_0 : PD D := { path := [1, 1, 0, 1, 0], ins := [.v 0 (.sl 32), .v 8 (.sl 32), .v 9 (.int .i64), .v 10 (.int .i64)], fx := [], ks := [], exs := [⟨.exit 0, [], []⟩, ⟨.ret, [.v 2 (.int .i64)], []⟩], keep := [] }
noncomputable def Frulebook_Valid_0 (N n : Nat) : Prulebook_Valid_0.F := fun x => rulebook_Valid_0 N x.1 x.2.1 x.2.2.1 n x.2.2.2.1
theorem crulebook_Valid_0 (N n : Nat) : CC (X20 N) (bodyOf Try.f26) Prulebook_Valid_0 (Frulebook_Valid_0 N n) := CC.loop (cok20 N) (us := u0_rulebook_Valid N) (c := sub (bodyOf Try.f26) [1, 1, 0, 1, 0, 0]) (by kernel_rfl) (by kernel_rfl) (fun u h _ => oku0_rulebook_Valid N u h) (fun x => rfl) (fun n x => by kernel_rfl) n
noncomputable def urulebook_Valid_0 (N : Nat) : List (Pc D) := Prulebook_Valid_0.pc (X20 N) (Frulebook_Valid_0 N N) :: u0_rulebook_Valid N
theorem okurulebook_Valid_0 (N : Nat) : ∀ u ∈ urulebook_Valid_0 N, PcOk (X20 N) (bodyOf Try.f26) u := pc_cons ((crulebook_Valid_0 N N).pc (by kernel_rfl)) (oku0_rulebook_Valid N)
noncomputable def drulebook_Valid : FD D := { f := 26, np := 1, ins := [.v 0 (.sl 32)], fx := [], rcv := none, rk := 0, outs := [.v 2 (.int .i64)], ofx := [], rvs := [.tmp 2], flat := true }
noncomputable def Frulebook_Valid (N : Nat) : drulebook_Valid.F := fun r x => rulebook_Valid N x.1
theorem orulebook_Valid (N : Nat) : FOk Try.prog (X20 N) drulebook_Valid (Frulebook_Valid N) := ⟨⟨Try.f26, _, Try.func26, rfl, by kernel_rfl, by kernel_rfl, rfl, FC.of (cok20 N) (us := urulebook_Valid_0 N) (fun u h _ => okurulebook_Valid_0 N u h) (fun r x => by kernel_rfl)⟩, by kernel_rfl, by kernel_rfl, by kernel_rfl, by kernel_rfl⟩
noncomputable def fs21 (N : Nat) : List (FE D) := ⟨drulebook_Valid, Frulebook_Valid N⟩ :: fs20 N
theorem all21 (N : Nat) : ∀ y ∈ fs21 N, CallOk X0 y.d y.F := all_cons (x := ⟨drulebook_Valid, Frulebook_Valid N⟩) (orulebook_Valid N) (all20 N)
noncomputable def X21 (N : Nat) : Ev Try.prog D := X0.with (fs21 N)
theorem cok21 (N : Nat) : COk (X21 N) := COk.of (all21 N)
/-! ### humpyard/wagonnumber.digits -/
noncomputable def u0_wagonnumber_digits (N : Nat) : List (Pc D) := []
theorem oku0_wagonnumber_digits (N : Nat) : ∀ u ∈ u0_wagonnumber_digits N, PcOk (X21 N) (bodyOf Try.f79) u := pc_nil
noncomputable def Pwagonnumber_digits_1 : PD D := { path := [1, 0, 1, 0, 0, 1, 0, 0, 0], ins := [.v 0 .str, .v 5 (.int .i64)], fx := [], ks := [], exs := [⟨.normal, [.v 21 .bool], []⟩], keep := [0, 1, 5] }
noncomputable def Fwagonnumber_digits_1 (N : Nat) : Pwagonnumber_digits_1.F := fun x => wagonnumber_digits_1 N x.1 x.2.1
theorem cwagonnumber_digits_1 (N : Nat) : CC (X21 N) (bodyOf Try.f79) Pwagonnumber_digits_1 (Fwagonnumber_digits_1 N) := CC.of (cok21 N) (us := u0_wagonnumber_digits N) (fun u h _ => oku0_wagonnumber_digits N u h) (fun x => by kernel_rfl)
noncomputable def uwagonnumber_digits_1 (N : Nat) : List (Pc D) := Pwagonnumber_digits_1.pc (X21 N) (Fwagonnumber_digits_1 N) :: u0_wagonnumber_digits N
theorem okuwagonnumber_digits_1 (N : Nat) : ∀ u ∈ uwagonnumber_digits_1 N, PcOk (X21 N) (bodyOf Try.f79) u := pc_cons ((cwagonnumber_digits_1 N).pc (by kernel_rfl)) (oku0_wagonnumber_digits N)
noncomputable def Pwagonnumber_digits_0 : PD D := { path := [1, 0, 1, 0], ins := [.v 0 .str, .v 5 (.int .i64)], fx := [], ks := [], exs := [⟨.exit 0, [], []⟩, ⟨.ret, [.v 4 .bool], []⟩], keep := [0, 1] }
noncomputable def Fwagonnumber_digits_0 (N n : Nat) : Pwagonnumber_digits_0.F := fun x => wagonnumber_digits_0 N x.1 n x.2.1
theorem cwagonnumber_digits_0 (N n : Nat) : CC (X21 N) (bodyOf Try.f79) Pwagonnumber_digits_0 (Fwagonnumber_digits_0 N n) := CC.loop (cok21 N) (us := uwagonnumber_digits_1 N) (c := sub (bodyOf Try.f79) [1, 0, 1, 0, 0]) (by kernel_rfl) (by kernel_rfl) (fun u h _ => okuwagonnumber_digits_1 N u h) (fun x => rfl) (fun n x => by kernel_rfl) n
noncomputable def uwagonnumber_digits_0 (N : Nat) : List (Pc D) := Pwagonnumber_digits_0.pc (X21 N) (Fwagonnumber_digits_0 N N) :: uwagonnumber_digits_1 N
theorem okuwagonnumber_digits_0 (N : Nat) : ∀ u ∈ uwagonnumber_digits_0 N, PcOk (X21 N) (bodyOf Try.f79) u := pc_cons ((cwagonnumber_digits_0 N N).pc (by kernel_rfl)) (okuwagonnumber_digits_1 N)
noncomputable def dwagonnumber_digits : FD D := { f := 79, np := 2, ins := [.v 0 .str, .v 1 (.int .i64)], fx := [], rcv := none, rk := 0, outs := [.v 4 .bool], ofx := [], rvs := [.tmp 4], flat := true }
noncomputable def Fwagonnumber_digits (N : Nat) : dwagonnumber_digits.F := fun r x => wagonnumber_digits N x.1 x.2.1
theorem owagonnumber_digits (N : Nat) : FOk Try.prog (X21 N) dwagonnumber_digits (Fwagonnumber_digits N) := ⟨⟨Try.f79, _, Try.func79, rfl, by kernel_rfl, by kernel_rfl, rfl, FC.of (cok21 N) (us := uwagonnumber_digits_0 N) (fun u h _ => okuwagonnumber_digits_0 N u h) (fun r x => by kernel_rfl)⟩, by kernel_rfl, by kernel_rfl, by kernel_rfl, by kernel_rfl⟩
noncomputable def fs22 (N : Nat) : List (FE D) := ⟨dwagonnumber_digits, Fwagonnumber_digits N⟩ :: fs21 N
theorem all22 (N : Nat) : ∀ y ∈ fs22 N, CallOk X0 y.d y.F := all_cons (x := ⟨dwagonnumber_digits, Fwagonnumber_digits N⟩) (owagonnumber_digits N) (all21 N)
noncomputable def X22 (N : Nat) : Ev Try.prog D := X0.with (fs22 N)
theorem cok22 (N : Nat) : COk (X22 N) := COk.of (all22 N)
/-! ### humpyard/wagonnumber.sum -/
noncomputable def u0_wagonnumber_sum (N : Nat) : List (Pc D) := []
theorem oku0_wagonnumber_sum (N : Nat) : ∀ u ∈ u0_wagonnumber_sum N, PcOk (X22 N) (bodyOf Try.f81) u := pc_nil
noncomputable def Pwagonnumber_sum_1 : PD D := { path := [1, 1, 0, 1, 0, 0, 1, 0, 0, 1, 0, 1], ins := [.v 5 (.int .i64), .v 19 .bool], fx := [], ks := [], exs := [⟨.normal, [.v 5 (.int .i64)], []⟩], keep := [0, 3, 4] }
noncomputable def Fwagonnumber_sum_1 (N : Nat) : Pwagonnumber_sum_1.F := fun x => wagonnumber_sum_1 N x.1 x.2.1
theorem cwagonnumber_sum_1 (N : Nat) : CC (X22 N) (bodyOf Try.f81) Pwagonnumber_sum_1 (Fwagonnumber_sum_1 N) := CC.of (cok22 N) (us := u0_wagonnumber_sum N) (fun u h _ => oku0_wagonnumber_sum N u h) (fun x => by kernel_rfl)
noncomputable def uwagonnumber_sum_1 (N : Nat) : List (Pc D) := Pwagonnumber_sum_1.pc (X22 N) (Fwagonnumber_sum_1 N) :: u0_wagonnumber_sum N
theorem okuwagonnumber_sum_1 (N : Nat) : ∀ u ∈ uwagonnumber_sum_1 N, PcOk (X22 N) (bodyOf Try.f81) u := pc_cons ((cwagonnumber_sum_1 N).pc (by kernel_rfl)) (oku0_wagonnumber_sum N)
noncomputable def Pwagonnumber_sum_0 : PD D := { path := [1, 1, 0, 1, 0], ins := [.v 0 .str, .v 3 (.int .i64), .v 4 (.int .i64)], fx := [], ks := [], exs := [⟨.exit 0, [.v 3 (.int .i64)], []⟩], keep := [] }
noncomputable def Fwagonnumber_sum_0 (N n : Nat) : Pwagonnumber_sum_0.F := fun x => wagonnumber_sum_0 N x.1 n x.2.1 x.2.2.1
theorem cwagonnumber_sum_0 (N n : Nat) : CC (X22 N) (bodyOf Try.f81) Pwagonnumber_sum_0 (Fwagonnumber_sum_0 N n) := CC.loop (cok22 N) (us := uwagonnumber_sum_1 N) (c := sub (bodyOf Try.f81) [1, 1, 0, 1, 0, 0]) (by kernel_rfl) (by kernel_rfl) (fun u h _ => okuwagonnumber_sum_1 N u h) (fun x => rfl) (fun n x => by kernel_rfl) n
noncomputable def uwagonnumber_sum_0 (N : Nat) : List (Pc D) := Pwagonnumber_sum_0.pc (X22 N) (Fwagonnumber_sum_0 N N) :: uwagonnumber_sum_1 N
theorem okuwagonnumber_sum_0 (N : Nat) : ∀ u ∈ uwagonnumber_sum_0 N, PcOk (X22 N) (bodyOf Try.f81) u := pc_cons ((cwagonnumber_sum_0 N N).pc (by kernel_rfl)) (okuwagonnumber_sum_1 N)
noncomputable def dwagonnumber_sum : FD D := { f := 81, np := 1, ins := [.v 0 .str], fx := [], rcv := none, rk := 0, outs := [.v 2 (.int .i64)], ofx := [], rvs := [.tmp 2], flat := true }
noncomputable def Fwagonnumber_sum (N : Nat) : dwagonnumber_sum.F := fun r x => wagonnumber_sum N x.1
theorem owagonnumber_sum (N : Nat) : FOk Try.prog (X22 N) dwagonnumber_sum (Fwagonnumber_sum N) := ⟨⟨Try.f81, _, Try.func81, rfl, by kernel_rfl, by kernel_rfl, rfl, FC.of (cok22 N) (us := uwagonnumber_sum_0 N) (fun u h _ => okuwagonnumber_sum_0 N u h) (fun r x => by kernel_rfl)⟩, by kernel_rfl, by kernel_rfl, by kernel_rfl, by kernel_rfl⟩
noncomputable def fs23 (N : Nat) : List (FE D) := ⟨dwagonnumber_sum, Fwagonnumber_sum N⟩ :: fs22 N
theorem all23 (N : Nat) : ∀ y ∈ fs23 N, CallOk X0 y.d y.F := all_cons (x := ⟨dwagonnumber_sum, Fwagonnumber_sum N⟩) (owagonnumber_sum N) (all22 N)
noncomputable def X23 (N : Nat) : Ev Try.prog D := X0.with (fs23 N)
theorem cok23 (N : Nat) : COk (X23 N) := COk.of (all23 N)
/-! ### humpyard/wagonnumber.check -/
noncomputable def u0_wagonnumber_check (N : Nat) : List (Pc D) := []
theorem oku0_wagonnumber_check (N : Nat) : ∀ u ∈ u0_wagonnumber_check N, PcOk (X23 N) (bodyOf Try.f80) u := pc_nil
noncomputable def dwagonnumber_check : FD D := { f := 80, np := 1, ins := [.v 0 .str], fx := [], rcv := none, rk := 0, outs := [.v 2 (.int .i64)], ofx := [], rvs := [.tmp 2], flat := true }
noncomputable def Fwagonnumber_check (N : Nat) : dwagonnumber_check.F := fun r x => wagonnumber_check N x.1
theorem owagonnumber_check (N : Nat) : FOk Try.prog (X23 N) dwagonnumber_check (Fwagonnumber_check N) := ⟨⟨Try.f80, _, Try.func80, rfl, by kernel_rfl, by kernel_rfl, rfl, FC.of (cok23 N) (us := u0_wagonnumber_check N) (fun u h _ => oku0_wagonnumber_check N u h) (fun r x => by kernel_rfl)⟩, by kernel_rfl, by kernel_rfl, by kernel_rfl, by kernel_rfl⟩
noncomputable def fs24 (N : Nat) : List (FE D) := ⟨dwagonnumber_check, Fwagonnumber_check N⟩ :: fs23 N
theorem all24 (N : Nat) : ∀ y ∈ fs24 N, CallOk X0 y.d y.F := all_cons (x := ⟨dwagonnumber_check, Fwagonnumber_check N⟩) (owagonnumber_check N) (all23 N)
noncomputable def X24 (N : Nat) : Ev Try.prog D := X0.with (fs24 N)
theorem cok24 (N : Nat) : COk (X24 N) := COk.of (all24 N)
/-! ### humpyard/wagonnumber.Valid -/
noncomputable def u0_wagonnumber_Valid (N : Nat) : List (Pc D) := []
theorem oku0_wagonnumber_Valid (N : Nat) : ∀ u ∈ u0_wagonnumber_Valid N, PcOk (X24 N) (bodyOf Try.f77) u := pc_nil
noncomputable def dwagonnumber_Valid : FD D := { f := 77, np := 1, ins := [.v 0 .str], fx := [], rcv := none, rk := 0, outs := [.v 2 (.int .i64)], ofx := [], rvs := [.tmp 2], flat := true }
noncomputable def Fwagonnumber_Valid (N : Nat) : dwagonnumber_Valid.F := fun r x => wagonnumber_Valid N x.1
theorem owagonnumber_Valid (N : Nat) : FOk Try.prog (X24 N) dwagonnumber_Valid (Fwagonnumber_Valid N) := ⟨⟨Try.f77, _, Try.func77, rfl, by kernel_rfl, by kernel_rfl, rfl, FC.of (cok24 N) (us := u0_wagonnumber_Valid N) (fun u h _ => oku0_wagonnumber_Valid N u h) (fun r x => by kernel_rfl)⟩, by kernel_rfl, by kernel_rfl, by kernel_rfl, by kernel_rfl⟩
noncomputable def fs25 (N : Nat) : List (FE D) := ⟨dwagonnumber_Valid, Fwagonnumber_Valid N⟩ :: fs24 N
theorem all25 (N : Nat) : ∀ y ∈ fs25 N, CallOk X0 y.d y.F := all_cons (x := ⟨dwagonnumber_Valid, Fwagonnumber_Valid N⟩) (owagonnumber_Valid N) (all24 N)
noncomputable def X25 (N : Nat) : Ev Try.prog D := X0.with (fs25 N)
theorem cok25 (N : Nat) : COk (X25 N) := COk.of (all25 N)
/-! ### humpyard/wagonnumber.Kind -/
noncomputable def u0_wagonnumber_Kind (N : Nat) : List (Pc D) := []
theorem oku0_wagonnumber_Kind (N : Nat) : ∀ u ∈ u0_wagonnumber_Kind N, PcOk (X25 N) (bodyOf Try.f72) u := pc_nil
noncomputable def Pwagonnumber_Kind_0 : PD D := { path := [1, 1, 0, 1, 0, 0, 1], ins := [.v 11 (.int .u8), .v 12 .bool], fx := [], ks := [], exs := [⟨.normal, [.v 12 .bool], []⟩], keep := [11] }
noncomputable def Fwagonnumber_Kind_0 (N : Nat) : Pwagonnumber_Kind_0.F := fun x => wagonnumber_Kind_0 N x.1 x.2.1
theorem cwagonnumber_Kind_0 (N : Nat) : CC (X25 N) (bodyOf Try.f72) Pwagonnumber_Kind_0 (Fwagonnumber_Kind_0 N) := CC.of (cok25 N) (us := u0_wagonnumber_Kind N) (fun u h _ => oku0_wagonnumber_Kind N u h) (fun x => by kernel_rfl)
noncomputable def uwagonnumber_Kind_0 (N : Nat) : List (Pc D) := Pwagonnumber_Kind_0.pc (X25 N) (Fwagonnumber_Kind_0 N) :: u0_wagonnumber_Kind N
theorem okuwagonnumber_Kind_0 (N : Nat) : ∀ u ∈ uwagonnumber_Kind_0 N, PcOk (X25 N) (bodyOf Try.f72) u := pc_cons ((cwagonnumber_Kind_0 N).pc (by kernel_rfl)) (oku0_wagonnumber_Kind N)
noncomputable def Pwagonnumber_Kind_1 : PD D := { path := [1, 1, 0, 1, 0, 1, 1, 0, 1], ins := [.v 11 (.int .u8), .v 15 .bool], fx := [], ks := [], exs := [⟨.normal, [.v 15 .bool], []⟩], keep := [11] }
noncomputable def Fwagonnumber_Kind_1 (N : Nat) : Pwagonnumber_Kind_1.F := fun x => wagonnumber_Kind_1 N x.1 x.2.1
theorem cwagonnumber_Kind_1 (N : Nat) : CC (X25 N) (bodyOf Try.f72) Pwagonnumber_Kind_1 (Fwagonnumber_Kind_1 N) := CC.of (cok25 N) (us := uwagonnumber_Kind_0 N) (fun u h _ => okuwagonnumber_Kind_0 N u h) (fun x => by kernel_rfl)
noncomputable def uwagonnumber_Kind_1 (N : Nat) : List (Pc D) := Pwagonnumber_Kind_1.pc (X25 N) (Fwagonnumber_Kind_1 N) :: uwagonnumber_Kind_0 N
theorem okuwagonnumber_Kind_1 (N : Nat) : ∀ u ∈ uwagonnumber_Kind_1 N, PcOk (X25 N) (bodyOf Try.f72) u := pc_cons ((cwagonnumber_Kind_1 N).pc (by kernel_rfl)) (okuwagonnumber_Kind_0 N)
noncomputable def dwagonnumber_Kind : FD D := { f := 72, np := 1, ins := [.v 0 .str], fx := [], rcv := none, rk := 0, outs := [.v 2 (.int .i64), .v 3 (.int .i64)], ofx := [], rvs := [.tmp 2, .tmp 3], flat := true }
noncomputable def Fwagonnumber_Kind (N : Nat) : dwagonnumber_Kind.F := fun r x => wagonnumber_Kind N x.1
theorem owagonnumber_Kind (N : Nat) : FOk Try.prog (X25 N) dwagonnumber_Kind (Fwagonnumber_Kind N) := ⟨⟨Try.f72, _, Try.func72, rfl, by kernel_rfl, by kernel_rfl, rfl, FC.of (cok25 N) (us := uwagonnumber_Kind_1 N) (fun u h _ => okuwagonnumber_Kind_1 N u h) (fun r x => by kernel_rfl)⟩, by kernel_rfl, by kernel_rfl, by kernel_rfl, by kernel_rfl⟩
noncomputable def fs26 (N : Nat) : List (FE D) := ⟨dwagonnumber_Kind, Fwagonnumber_Kind N⟩ :: fs25 N
theorem all26 (N : Nat) : ∀ y ∈ fs26 N, CallOk X0 y.d y.F := all_cons (x := ⟨dwagonnumber_Kind, Fwagonnumber_Kind N⟩) (owagonnumber_Kind N) (all25 N)
noncomputable def X26 (N : Nat) : Ev Try.prog D := X0.with (fs26 N)
theorem cok26 (N : Nat) : COk (X26 N) := COk.of (all26 N)
/-! ### humpyard/consist.axles -/
noncomputable def u0_consist_axles (N : Nat) : List (Pc D) := []
theorem oku0_consist_axles (N : Nat) : ∀ u ∈ u0_consist_axles N, PcOk (X26 N) (bodyOf Try.f73) u := pc_nil
noncomputable def dconsist_axles : FD D := { f := 73, np := 1, ins := [.v 0 (.int .i64)], fx := [], rcv := none, rk := 0, outs := [.v 2 (.int .i64)], ofx := [], rvs := [.tmp 2], flat := true }
noncomputable def Fconsist_axles (N : Nat) : dconsist_axles.F := fun r x => consist_axles N x.1
theorem oconsist_axles (N : Nat) : FOk Try.prog (X26 N) dconsist_axles (Fconsist_axles N) := ⟨⟨Try.f73, _, Try.func73, rfl, by kernel_rfl, by kernel_rfl, rfl, FC.of (cok26 N) (us := u0_consist_axles N) (fun u h _ => oku0_consist_axles N u h) (fun r x => by kernel_rfl)⟩, by kernel_rfl, by kernel_rfl, by kernel_rfl, by kernel_rfl⟩
noncomputable def fs27 (N : Nat) : List (FE D) := ⟨dconsist_axles, Fconsist_axles N⟩ :: fs26 N
theorem all27 (N : Nat) : ∀ y ∈ fs27 N, CallOk X0 y.d y.F := all_cons (x := ⟨dconsist_axles, Fconsist_axles N⟩) (oconsist_axles N) (all26 N)
noncomputable def X27 (N : Nat) : Ev Try.prog D := X0.with (fs27 N)
theorem cok27 (N : Nat) : COk (X27 N) := COk.of (all27 N)
/-! ### humpyard/consist.name -/
noncomputable def u0_consist_name (N : Nat) : List (Pc D) := []
theorem oku0_consist_name (N : Nat) : ∀ u ∈ u0_consist_name N, PcOk (X27 N) (bodyOf Try.f74) u := pc_nil
noncomputable def Pconsist_name_1 : PD D := { path := [1, 0, 1, 0, 0, 1, 0, 0, 1, 0], ins := [.v 4 (.int .u8)], fx := [], ks := [], exs := [⟨.normal, [.v 27 .bool], []⟩], keep := [0, 3] }
noncomputable def Fconsist_name_1 (N : Nat) : Pconsist_name_1.F := fun x => consist_name_1 N x.1
theorem cconsist_name_1 (N : Nat) : CC (X27 N) (bodyOf Try.f74) Pconsist_name_1 (Fconsist_name_1 N) := CC.of (cok27 N) (us := u0_consist_name N) (fun u h _ => oku0_consist_name N u h) (fun x => by kernel_rfl)
noncomputable def uconsist_name_1 (N : Nat) : List (Pc D) := Pconsist_name_1.pc (X27 N) (Fconsist_name_1 N) :: u0_consist_name N
theorem okuconsist_name_1 (N : Nat) : ∀ u ∈ uconsist_name_1 N, PcOk (X27 N) (bodyOf Try.f74) u := pc_cons ((cconsist_name_1 N).pc (by kernel_rfl)) (oku0_consist_name N)
noncomputable def Pconsist_name_0 : PD D := { path := [1, 0, 1, 0], ins := [.v 0 .str, .v 3 (.int .i64)], fx := [], ks := [], exs := [⟨.exit 0, [], []⟩, ⟨.ret, [.v 2 .bool], []⟩], keep := [0] }
noncomputable def Fconsist_name_0 (N n : Nat) : Pconsist_name_0.F := fun x => consist_name_0 N x.1 n x.2.1
theorem cconsist_name_0 (N n : Nat) : CC (X27 N) (bodyOf Try.f74) Pconsist_name_0 (Fconsist_name_0 N n) := CC.loop (cok27 N) (us := uconsist_name_1 N) (c := sub (bodyOf Try.f74) [1, 0, 1, 0, 0]) (by kernel_rfl) (by kernel_rfl) (fun u h _ => okuconsist_name_1 N u h) (fun x => rfl) (fun n x => by kernel_rfl) n
noncomputable def uconsist_name_0 (N : Nat) : List (Pc D) := Pconsist_name_0.pc (X27 N) (Fconsist_name_0 N N) :: uconsist_name_1 N
theorem okuconsist_name_0 (N : Nat) : ∀ u ∈ uconsist_name_0 N, PcOk (X27 N) (bodyOf Try.f74) u := pc_cons ((cconsist_name_0 N N).pc (by kernel_rfl)) (okuconsist_name_1 N)
noncomputable def Pconsist_name_2 : PD D := { path := [1, 1, 0], ins := [.v 0 .str], fx := [], ks := [], exs := [⟨.normal, [.v 2 .bool], []⟩], keep := [] }
noncomputable def Fconsist_name_2 (N : Nat) : Pconsist_name_2.F := fun x => consist_name_2 N x.1
theorem cconsist_name_2 (N : Nat) : CC (X27 N) (bodyOf Try.f74) Pconsist_name_2 (Fconsist_name_2 N) := CC.of (cok27 N) (us := uconsist_name_0 N) (fun u h _ => okuconsist_name_0 N u h) (fun x => by kernel_rfl)
noncomputable def uconsist_name_2 (N : Nat) : List (Pc D) := Pconsist_name_2.pc (X27 N) (Fconsist_name_2 N) :: uconsist_name_0 N
theorem okuconsist_name_2 (N : Nat) : ∀ u ∈ uconsist_name_2 N, PcOk (X27 N) (bodyOf Try.f74) u := pc_cons ((cconsist_name_2 N).pc (by kernel_rfl)) (okuconsist_name_0 N)
noncomputable def dconsist_name : FD D := { f := 74, np := 1, ins := [.v 0 .str], fx := [], rcv := none, rk := 0, outs := [.v 2 .bool], ofx := [], rvs := [.tmp 2], flat := true }
noncomputable def Fconsist_name (N : Nat) : dconsist_name.F := fun r x => consist_name N x.1
theorem oconsist_name (N : Nat) : FOk Try.prog (X27 N) dconsist_name (Fconsist_name N) := ⟨⟨Try.f74, _, Try.func74, rfl, by kernel_rfl, by kernel_rfl, rfl, FC.of (cok27 N) (us := uconsist_name_2 N) (fun u h _ => okuconsist_name_2 N u h) (fun r x => by kernel_rfl)⟩, by kernel_rfl, by kernel_rfl, by kernel_rfl, by kernel_rfl⟩
noncomputable def fs28 (N : Nat) : List (FE D) := ⟨dconsist_name, Fconsist_name N⟩ :: fs27 N
theorem all28 (N : Nat) : ∀ y ∈ fs28 N, CallOk X0 y.d y.F := all_cons (x := ⟨dconsist_name, Fconsist_name N⟩) (oconsist_name N) (all27 N)
noncomputable def X28 (N : Nat) : Ev Try.prog D := X0.with (fs28 N)
theorem cok28 (N : Nat) : COk (X28 N) := COk.of (all28 N)
/-! ### humpyard/consist.Valid -/
noncomputable def u0_consist_Valid (N : Nat) : List (Pc D) := []
theorem oku0_consist_Valid (N : Nat) : ∀ u ∈ u0_consist_Valid N, PcOk (X28 N) (bodyOf Try.f69) u := pc_nil
noncomputable def Pconsist_Valid_0 : PD D := { path := [1, 1, 1, 1, 0, 1], ins := [.o 1 (.box 36), .v 5 (.int .i64), .v 16 .bool], fx := [(1, .box 0 0)], ks := [1], exs := [⟨.normal, [.v 5 (.int .i64)], []⟩], keep := [1, 3] }
noncomputable def Fconsist_Valid_0 (N : Nat) : Pconsist_Valid_0.F := fun x => consist_Valid_0 N x.2.1 x.2.2.1
theorem cconsist_Valid_0 (N : Nat) : CC (X28 N) (bodyOf Try.f69) Pconsist_Valid_0 (Fconsist_Valid_0 N) := CC.of (cok28 N) (us := u0_consist_Valid N) (fun u h _ => oku0_consist_Valid N u h) (fun x => by kernel_rfl)
noncomputable def uconsist_Valid_0 (N : Nat) : List (Pc D) := Pconsist_Valid_0.pc (X28 N) (Fconsist_Valid_0 N) :: u0_consist_Valid N
theorem okuconsist_Valid_0 (N : Nat) : ∀ u ∈ uconsist_Valid_0 N, PcOk (X28 N) (bodyOf Try.f69) u := pc_cons ((cconsist_Valid_0 N).pc (by kernel_rfl)) (oku0_consist_Valid N)
noncomputable def Pconsist_Valid_1 : PD D := { path := [1, 1, 1, 1, 1, 0, 0, 1, 1, 0], ins := [.o 1 (.box 36), .v 5 (.int .i64)], fx := [(1, .box 0 0)], ks := [1], exs := [⟨.normal, [.v 23 .bool], []⟩], keep := [1] }
noncomputable def Fconsist_Valid_1 (N : Nat) : Pconsist_Valid_1.F := fun x => consist_Valid_1 N x.1 x.2.1
theorem cconsist_Valid_1 (N : Nat) : CC (X28 N) (bodyOf Try.f69) Pconsist_Valid_1 (Fconsist_Valid_1 N) := CC.of (cok28 N) (us := uconsist_Valid_0 N) (fun u h _ => okuconsist_Valid_0 N u h) (fun x => by kernel_rfl)
noncomputable def uconsist_Valid_1 (N : Nat) : List (Pc D) := Pconsist_Valid_1.pc (X28 N) (Fconsist_Valid_1 N) :: uconsist_Valid_0 N
theorem okuconsist_Valid_1 (N : Nat) : ∀ u ∈ uconsist_Valid_1 N, PcOk (X28 N) (bodyOf Try.f69) u := pc_cons ((cconsist_Valid_1 N).pc (by kernel_rfl)) (okuconsist_Valid_0 N)
noncomputable def Pconsist_Valid_2 : PD D := { path := [1, 1, 1, 1, 1, 0, 0, 1, 1, 1, 1, 0], ins := [.o 1 (.box 36)], fx := [(1, .box 0 0)], ks := [1], exs := [⟨.normal, [.v 43 .bool], []⟩], keep := [1] }
noncomputable def Fconsist_Valid_2 (N : Nat) : Pconsist_Valid_2.F := fun x => consist_Valid_2 N x.1
theorem cconsist_Valid_2 (N : Nat) : CC (X28 N) (bodyOf Try.f69) Pconsist_Valid_2 (Fconsist_Valid_2 N) := CC.of (cok28 N) (us := uconsist_Valid_1 N) (fun u h _ => okuconsist_Valid_1 N u h) (fun x => by kernel_rfl)
noncomputable def uconsist_Valid_2 (N : Nat) : List (Pc D) := Pconsist_Valid_2.pc (X28 N) (Fconsist_Valid_2 N) :: uconsist_Valid_1 N
theorem okuconsist_Valid_2 (N : Nat) : ∀ u ∈ uconsist_Valid_2 N, PcOk (X28 N) (bodyOf Try.f69) u := pc_cons ((cconsist_Valid_2 N).pc (by kernel_rfl)) (okuconsist_Valid_1 N)
noncomputable def dconsist_Valid : FD D := { f := 69, np := 1, ins := [.v 0 (.agg 36)], fx := [], rcv := none, rk := 0, outs := [.v 2 (.int .i64)], ofx := [], rvs := [.tmp 2], flat := true }
noncomputable def Fconsist_Valid (N : Nat) : dconsist_Valid.F := fun r x => consist_Valid N x.1
theorem oconsist_Valid (N : Nat) : FOk Try.prog (X28 N) dconsist_Valid (Fconsist_Valid N) := ⟨⟨Try.f69, _, Try.func69, rfl, by kernel_rfl, by kernel_rfl, rfl, FC.of (cok28 N) (us := uconsist_Valid_2 N) (fun u h _ => okuconsist_Valid_2 N u h) (fun r x => by kernel_rfl)⟩, by kernel_rfl, by kernel_rfl, by kernel_rfl, by kernel_rfl⟩
noncomputable def fs29 (N : Nat) : List (FE D) := ⟨dconsist_Valid, Fconsist_Valid N⟩ :: fs28 N
theorem all29 (N : Nat) : ∀ y ∈ fs29 N, CallOk X0 y.d y.F := all_cons (x := ⟨dconsist_Valid, Fconsist_Valid N⟩) (oconsist_Valid N) (all28 N)
noncomputable def X29 (N : Nat) : Ev Try.prog D := X0.with (fs29 N)
theorem cok29 (N : Nat) : COk (X29 N) := COk.of (all29 N)
/-! ### humpyard/consist.check -/
noncomputable def u0_consist_check (N : Nat) : List (Pc D) := []
theorem oku0_consist_check (N : Nat) : ∀ u ∈ u0_consist_check N, PcOk (X29 N) (bodyOf Try.f62) u := pc_nil
noncomputable def Pconsist_check_0 : PD D := { path := [1, 1, 1, 0, 1, 0], ins := [.o 3 (.map 89 9 4), .v 11 (.sl 36), .v 12 (.int .i64), .v 13 (.int .i64)], fx := [(3, .c (.own 0))], ks := [0], exs := [⟨.exit 0, [], []⟩, ⟨.ret, [.v 2 (.int .i64)], []⟩], keep := [] }
noncomputable def Fconsist_check_0 (N n : Nat) : Pconsist_check_0.F := fun x => consist_check_0 N x.2.1 x.2.2.1 n x.1 x.2.2.2.1
theorem cconsist_check_0 (N n : Nat) : CC (X29 N) (bodyOf Try.f62) Pconsist_check_0 (Fconsist_check_0 N n) := CC.loop (cok29 N) (us := u0_consist_check N) (c := sub (bodyOf Try.f62) [1, 1, 1, 0, 1, 0, 0]) (by kernel_rfl) (by kernel_rfl) (fun u h _ => oku0_consist_check N u h) (fun x => rfl) (fun n x => by kernel_rfl) n
noncomputable def uconsist_check_0 (N : Nat) : List (Pc D) := Pconsist_check_0.pc (X29 N) (Fconsist_check_0 N N) :: u0_consist_check N
theorem okuconsist_check_0 (N : Nat) : ∀ u ∈ uconsist_check_0 N, PcOk (X29 N) (bodyOf Try.f62) u := pc_cons ((cconsist_check_0 N N).pc (by kernel_rfl)) (oku0_consist_check N)
noncomputable def dconsist_check : FD D := { f := 62, np := 1, ins := [.v 0 (.sl 36)], fx := [], rcv := none, rk := 0, outs := [.v 2 (.int .i64)], ofx := [], rvs := [.tmp 2], flat := true }
noncomputable def Fconsist_check (N : Nat) : dconsist_check.F := fun r x => consist_check N x.1
theorem oconsist_check (N : Nat) : FOk Try.prog (X29 N) dconsist_check (Fconsist_check N) := ⟨⟨Try.f62, _, Try.func62, rfl, by kernel_rfl, by kernel_rfl, rfl, FC.of (cok29 N) (us := uconsist_check_0 N) (fun u h _ => okuconsist_check_0 N u h) (fun r x => by kernel_rfl)⟩, by kernel_rfl, by kernel_rfl, by kernel_rfl, by kernel_rfl⟩
noncomputable def fs30 (N : Nat) : List (FE D) := ⟨dconsist_check, Fconsist_check N⟩ :: fs29 N
theorem all30 (N : Nat) : ∀ y ∈ fs30 N, CallOk X0 y.d y.F := all_cons (x := ⟨dconsist_check, Fconsist_check N⟩) (oconsist_check N) (all29 N)
noncomputable def X30 (N : Nat) : Ev Try.prog D := X0.with (fs30 N)
theorem cok30 (N : Nat) : COk (X30 N) := COk.of (all30 N)
/-! ### humpyard/consist.Total -/
noncomputable def u0_consist_Total (N : Nat) : List (Pc D) := []
theorem oku0_consist_Total (N : Nat) : ∀ u ∈ u0_consist_Total N, PcOk (X30 N) (bodyOf Try.f39) u := pc_nil
noncomputable def Pconsist_Total_0 : PD D := { path := [1, 1, 0, 1, 0], ins := [.v 2 (.int .i64), .v 3 (.int .i64), .v 4 (.int .i64), .v 14 (.sl 36), .v 15 (.int .i64), .v 16 (.int .i64)], fx := [], ks := [], exs := [⟨.exit 0, [.v 2 (.int .i64), .v 3 (.int .i64), .v 4 (.int .i64)], []⟩], keep := [] }
noncomputable def Fconsist_Total_0 (N n : Nat) : Pconsist_Total_0.F := fun x => consist_Total_0 N x.2.2.2.1 x.2.2.2.2.1 n x.1 x.2.1 x.2.2.1 x.2.2.2.2.2.1
theorem cconsist_Total_0 (N n : Nat) : CC (X30 N) (bodyOf Try.f39) Pconsist_Total_0 (Fconsist_Total_0 N n) := CC.loop (cok30 N) (us := u0_consist_Total N) (c := sub (bodyOf Try.f39) [1, 1, 0, 1, 0, 0]) (by kernel_rfl) (by kernel_rfl) (fun u h _ => oku0_consist_Total N u h) (fun x => rfl) (fun n x => by kernel_rfl) n
noncomputable def uconsist_Total_0 (N : Nat) : List (Pc D) := Pconsist_Total_0.pc (X30 N) (Fconsist_Total_0 N N) :: u0_consist_Total N
theorem okuconsist_Total_0 (N : Nat) : ∀ u ∈ uconsist_Total_0 N, PcOk (X30 N) (bodyOf Try.f39) u := pc_cons ((cconsist_Total_0 N N).pc (by kernel_rfl)) (oku0_consist_Total N)
noncomputable def dconsist_Total : FD D := { f := 39, np := 1, ins := [.v 0 (.sl 36)], fx := [], rcv := none, rk := 0, outs := [.v 2 (.int .i64), .v 3 (.int .i64), .v 4 (.int .i64), .v 5 (.int .i64)], ofx := [], rvs := [.tmp 2, .tmp 3, .tmp 4, .tmp 5], flat := true }
noncomputable def Fconsist_Total (N : Nat) : dconsist_Total.F := fun r x => consist_Total N x.1
theorem oconsist_Total (N : Nat) : FOk Try.prog (X30 N) dconsist_Total (Fconsist_Total N) := ⟨⟨Try.f39, _, Try.func39, rfl, by kernel_rfl, by kernel_rfl, rfl, FC.of (cok30 N) (us := uconsist_Total_0 N) (fun u h _ => okuconsist_Total_0 N u h) (fun r x => by kernel_rfl)⟩, by kernel_rfl, by kernel_rfl, by kernel_rfl, by kernel_rfl⟩
noncomputable def fs31 (N : Nat) : List (FE D) := ⟨dconsist_Total, Fconsist_Total N⟩ :: fs30 N
theorem all31 (N : Nat) : ∀ y ∈ fs31 N, CallOk X0 y.d y.F := all_cons (x := ⟨dconsist_Total, Fconsist_Total N⟩) (oconsist_Total N) (all30 N)
noncomputable def X31 (N : Nat) : Ev Try.prog D := X0.with (fs31 N)
theorem cok31 (N : Nat) : COk (X31 N) := COk.of (all31 N)
/-! ### humpyard/brake.in -/
noncomputable def u0_brake_in (N : Nat) : List (Pc D) := []
theorem oku0_brake_in (N : Nat) : ∀ u ∈ u0_brake_in N, PcOk (X31 N) (bodyOf Try.f40) u := pc_nil
noncomputable def Pbrake_in_0 : PD D := { path := [1, 0], ins := [.v 0 (.int .i64), .v 1 (.int .i64), .v 2 (.int .i64)], fx := [], ks := [], exs := [⟨.normal, [.v 6 .bool], []⟩], keep := [] }
noncomputable def Fbrake_in_0 (N : Nat) : Pbrake_in_0.F := fun x => brake_in_0 N x.1 x.2.1 x.2.2.1
theorem cbrake_in_0 (N : Nat) : CC (X31 N) (bodyOf Try.f40) Pbrake_in_0 (Fbrake_in_0 N) := CC.of (cok31 N) (us := u0_brake_in N) (fun u h _ => oku0_brake_in N u h) (fun x => by kernel_rfl)
noncomputable def ubrake_in_0 (N : Nat) : List (Pc D) := Pbrake_in_0.pc (X31 N) (Fbrake_in_0 N) :: u0_brake_in N
theorem okubrake_in_0 (N : Nat) : ∀ u ∈ ubrake_in_0 N, PcOk (X31 N) (bodyOf Try.f40) u := pc_cons ((cbrake_in_0 N).pc (by kernel_rfl)) (oku0_brake_in N)
noncomputable def dbrake_in : FD D := { f := 40, np := 3, ins := [.v 0 (.int .i64), .v 1 (.int .i64), .v 2 (.int .i64)], fx := [], rcv := none, rk := 0, outs := [.v 6 .bool], ofx := [], rvs := [.tmp 6], flat := true }
noncomputable def Fbrake_in (N : Nat) : dbrake_in.F := fun r x => brake_in N x.1 x.2.1 x.2.2.1
theorem obrake_in (N : Nat) : FOk Try.prog (X31 N) dbrake_in (Fbrake_in N) := ⟨⟨Try.f40, _, Try.func40, rfl, by kernel_rfl, by kernel_rfl, rfl, FC.of (cok31 N) (us := ubrake_in_0 N) (fun u h _ => okubrake_in_0 N u h) (fun r x => by kernel_rfl)⟩, by kernel_rfl, by kernel_rfl, by kernel_rfl, by kernel_rfl⟩
noncomputable def fs32 (N : Nat) : List (FE D) := ⟨dbrake_in, Fbrake_in N⟩ :: fs31 N
theorem all32 (N : Nat) : ∀ y ∈ fs32 N, CallOk X0 y.d y.F := all_cons (x := ⟨dbrake_in, Fbrake_in N⟩) (obrake_in N) (all31 N)
noncomputable def X32 (N : Nat) : Ev Try.prog D := X0.with (fs32 N)
theorem cok32 (N : Nat) : COk (X32 N) := COk.of (all32 N)
/-! ### humpyard/brake.Factor -/
noncomputable def u0_brake_Factor (N : Nat) : List (Pc D) := []
theorem oku0_brake_Factor (N : Nat) : ∀ u ∈ u0_brake_Factor N, PcOk (X32 N) (bodyOf Try.f41) u := pc_nil
noncomputable def dbrake_Factor : FD D := { f := 41, np := 1, ins := [.v 0 (.int .i64)], fx := [], rcv := none, rk := 0, outs := [.v 2 (.int .i64)], ofx := [], rvs := [.tmp 2], flat := true }
noncomputable def Fbrake_Factor (N : Nat) : dbrake_Factor.F := fun r x => brake_Factor N x.1
theorem obrake_Factor (N : Nat) : FOk Try.prog (X32 N) dbrake_Factor (Fbrake_Factor N) := ⟨⟨Try.f41, _, Try.func41, rfl, by kernel_rfl, by kernel_rfl, rfl, FC.of (cok32 N) (us := u0_brake_Factor N) (fun u h _ => oku0_brake_Factor N u h) (fun r x => by kernel_rfl)⟩, by kernel_rfl, by kernel_rfl, by kernel_rfl, by kernel_rfl⟩
noncomputable def fs33 (N : Nat) : List (FE D) := ⟨dbrake_Factor, Fbrake_Factor N⟩ :: fs32 N
theorem all33 (N : Nat) : ∀ y ∈ fs33 N, CallOk X0 y.d y.F := all_cons (x := ⟨dbrake_Factor, Fbrake_Factor N⟩) (obrake_Factor N) (all32 N)
noncomputable def X33 (N : Nat) : Ev Try.prog D := X0.with (fs33 N)
theorem cok33 (N : Nat) : COk (X33 N) := COk.of (all33 N)
/-! ### humpyard/brake.Total -/
noncomputable def u0_brake_Total (N : Nat) : List (Pc D) := []
theorem oku0_brake_Total (N : Nat) : ∀ u ∈ u0_brake_Total N, PcOk (X33 N) (bodyOf Try.f29) u := pc_nil
noncomputable def Pbrake_Total_0 : PD D := { path := [1, 1, 1, 1, 0, 1, 0], ins := [.v 0 (.sl 36), .o 4 (.box 59), .o 10 (.sl 4), .v 32 (.sl 3), .v 33 (.int .i64), .v 34 (.int .i64)], fx := [(4, .box 0 0), (10, .c (.own 1))], ks := [2, 1], exs := [⟨.exit 0, [.u 0 (.box 59)], []⟩, ⟨.ret, [.u 0 (.box 59), .v 5 (.int .i64)], []⟩], keep := [0, 1, 4, 6, 7, 8, 10] }
noncomputable def Fbrake_Total_0 (N n : Nat) : Pbrake_Total_0.F := fun x => brake_Total_0 N x.1 x.2.2.2.1 x.2.2.2.2.1 n x.2.1 x.2.2.2.2.2.1
theorem cbrake_Total_0 (N n : Nat) : CC (X33 N) (bodyOf Try.f29) Pbrake_Total_0 (Fbrake_Total_0 N n) := CC.loop (cok33 N) (us := u0_brake_Total N) (c := sub (bodyOf Try.f29) [1, 1, 1, 1, 0, 1, 0, 0]) (by kernel_rfl) (by kernel_rfl) (fun u h _ => oku0_brake_Total N u h) (fun x => rfl) (fun n x => by kernel_rfl) n
noncomputable def ubrake_Total_0 (N : Nat) : List (Pc D) := Pbrake_Total_0.pc (X33 N) (Fbrake_Total_0 N N) :: u0_brake_Total N
theorem okubrake_Total_0 (N : Nat) : ∀ u ∈ ubrake_Total_0 N, PcOk (X33 N) (bodyOf Try.f29) u := pc_cons ((cbrake_Total_0 N N).pc (by kernel_rfl)) (oku0_brake_Total N)
noncomputable def Pbrake_Total_1 : PD D := { path := [1, 1, 1, 1, 1, 0, 1, 0], ins := [.o 4 (.box 59), .o 10 (.sl 4), .v 46 (.sl 3), .v 47 (.int .i64), .v 48 (.int .i64)], fx := [(4, .box 0 0), (10, .c (.own 1))], ks := [2, 2], exs := [⟨.exit 2, [.u 0 (.box 59), .u 1 (.sl 4)], []⟩, ⟨.ret, [.u 0 (.box 59), .v 5 (.int .i64)], []⟩], keep := [0, 4, 6, 7, 8, 10] }
noncomputable def Fbrake_Total_1 (N n : Nat) : Pbrake_Total_1.F := fun x => brake_Total_1 N x.2.2.1 x.2.2.2.1 n x.1 x.2.1 x.2.2.2.2.1
theorem cbrake_Total_1 (N n : Nat) : CC (X33 N) (bodyOf Try.f29) Pbrake_Total_1 (Fbrake_Total_1 N n) := CC.loop (cok33 N) (us := ubrake_Total_0 N) (c := sub (bodyOf Try.f29) [1, 1, 1, 1, 1, 0, 1, 0, 0]) (by kernel_rfl) (by kernel_rfl) (fun u h _ => okubrake_Total_0 N u h) (fun x => rfl) (fun n x => by kernel_rfl) n
noncomputable def ubrake_Total_1 (N : Nat) : List (Pc D) := Pbrake_Total_1.pc (X33 N) (Fbrake_Total_1 N N) :: ubrake_Total_0 N
theorem okubrake_Total_1 (N : Nat) : ∀ u ∈ ubrake_Total_1 N, PcOk (X33 N) (bodyOf Try.f29) u := pc_cons ((cbrake_Total_1 N N).pc (by kernel_rfl)) (okubrake_Total_0 N)
noncomputable def Pbrake_Total_3 : PD D := { path := [1, 1, 1, 1, 1, 1, 1, 0, 1, 0, 0, 1, 1, 0], ins := [.o 4 (.box 59), .o 10 (.sl 4), .o 15 (.box 59), .v 65 (.sl 36), .v 67 (.int .i64)], fx := [(4, .box 0 0), (10, .c (.own 1)), (15, .box 2 0)], ks := [1, 1, 2], exs := [⟨.normal, [.u 2 (.box 59)], []⟩], keep := [4, 6, 7, 10, 15, 65, 66, 67] }
noncomputable def Fbrake_Total_3 (N : Nat) : Pbrake_Total_3.F := fun x => brake_Total_3 N x.2.1 x.2.2.1 x.2.2.2.1 x.2.2.2.2.1
theorem cbrake_Total_3 (N : Nat) : CC (X33 N) (bodyOf Try.f29) Pbrake_Total_3 (Fbrake_Total_3 N) := CC.of (cok33 N) (us := ubrake_Total_1 N) (fun u h _ => okubrake_Total_1 N u h) (fun x => by kernel_rfl)
noncomputable def ubrake_Total_3 (N : Nat) : List (Pc D) := Pbrake_Total_3.pc (X33 N) (Fbrake_Total_3 N) :: ubrake_Total_1 N
theorem okubrake_Total_3 (N : Nat) : ∀ u ∈ ubrake_Total_3 N, PcOk (X33 N) (bodyOf Try.f29) u := pc_cons ((cbrake_Total_3 N).pc (by kernel_rfl)) (okubrake_Total_1 N)
noncomputable def Pbrake_Total_2 : PD D := { path := [1, 1, 1, 1, 1, 1, 1, 0, 1, 0], ins := [.o 4 (.box 59), .o 10 (.sl 4), .o 15 (.box 59), .v 65 (.sl 36), .v 66 (.int .i64), .v 67 (.int .i64)], fx := [(4, .box 0 0), (10, .c (.own 1)), (15, .box 2 0)], ks := [1, 1, 2], exs := [⟨.exit 4, [.u 2 (.box 59)], []⟩], keep := [4, 6, 7, 15] }
noncomputable def Fbrake_Total_2 (N n : Nat) : Pbrake_Total_2.F := fun x => brake_Total_2 N x.2.1 x.2.2.2.1 x.2.2.2.2.1 n x.2.2.1 x.2.2.2.2.2.1
theorem cbrake_Total_2 (N n : Nat) : CC (X33 N) (bodyOf Try.f29) Pbrake_Total_2 (Fbrake_Total_2 N n) := CC.loop (cok33 N) (us := ubrake_Total_3 N) (c := sub (bodyOf Try.f29) [1, 1, 1, 1, 1, 1, 1, 0, 1, 0, 0]) (by kernel_rfl) (by kernel_rfl) (fun u h _ => okubrake_Total_3 N u h) (fun x => rfl) (fun n x => by kernel_rfl) n
noncomputable def ubrake_Total_2 (N : Nat) : List (Pc D) := Pbrake_Total_2.pc (X33 N) (Fbrake_Total_2 N N) :: ubrake_Total_3 N
theorem okubrake_Total_2 (N : Nat) : ∀ u ∈ ubrake_Total_2 N, PcOk (X33 N) (bodyOf Try.f29) u := pc_cons ((cbrake_Total_2 N N).pc (by kernel_rfl)) (okubrake_Total_3 N)
noncomputable def Pbrake_Total_4 : PD D := { path := [1, 1, 1, 1, 1, 1, 1, 1, 1, 0, 1], ins := [.o 4 (.box 59), .v 7 (.int .i64), .o 15 (.box 59), .v 92 .bool], fx := [(4, .box 0 0), (15, .box 1 0)], ks := [1, 2], exs := [⟨.normal, [.u 1 (.box 59)], []⟩], keep := [4, 15] }
noncomputable def Fbrake_Total_4 (N : Nat) : Pbrake_Total_4.F := fun x => brake_Total_4 N x.2.1 x.2.2.1 x.2.2.2.1
theorem cbrake_Total_4 (N : Nat) : CC (X33 N) (bodyOf Try.f29) Pbrake_Total_4 (Fbrake_Total_4 N) := CC.of (cok33 N) (us := ubrake_Total_2 N) (fun u h _ => okubrake_Total_2 N u h) (fun x => by kernel_rfl)
noncomputable def ubrake_Total_4 (N : Nat) : List (Pc D) := Pbrake_Total_4.pc (X33 N) (Fbrake_Total_4 N) :: ubrake_Total_2 N
theorem okubrake_Total_4 (N : Nat) : ∀ u ∈ ubrake_Total_4 N, PcOk (X33 N) (bodyOf Try.f29) u := pc_cons ((cbrake_Total_4 N).pc (by kernel_rfl)) (okubrake_Total_2 N)
noncomputable def dbrake_Total : FD D := { f := 29, np := 2, ins := [.v 0 (.sl 36), .v 1 (.sl 3)], fx := [], rcv := none, rk := 0, outs := [.v 1000000 (.agg 59), .v 5 (.int .i64)], ofx := [], rvs := [.cell 4 59, .tmp 5], flat := true }
noncomputable def Fbrake_Total (N : Nat) : dbrake_Total.F := fun r x => brake_Total N x.1 x.2.1
theorem obrake_Total (N : Nat) : FOk Try.prog (X33 N) dbrake_Total (Fbrake_Total N) := ⟨⟨Try.f29, _, Try.func29, rfl, by kernel_rfl, by kernel_rfl, rfl, FC.of (cok33 N) (us := ubrake_Total_4 N) (fun u h _ => okubrake_Total_4 N u h) (fun r x => by kernel_rfl)⟩, by kernel_rfl, by kernel_rfl, by kernel_rfl, by kernel_rfl⟩
noncomputable def fs34 (N : Nat) : List (FE D) := ⟨dbrake_Total, Fbrake_Total N⟩ :: fs33 N
theorem all34 (N : Nat) : ∀ y ∈ fs34 N, CallOk X0 y.d y.F := all_cons (x := ⟨dbrake_Total, Fbrake_Total N⟩) (obrake_Total N) (all33 N)
noncomputable def X34 (N : Nat) : Ev Try.prog D := X0.with (fs34 N)
theorem cok34 (N : Nat) : COk (X34 N) := COk.of (all34 N)
/-! ### (humpyard/rulebook.train).place$1 -/
noncomputable def u0_rulebook_train_place_1 (N : Nat) : List (Pc D) := []
theorem oku0_rulebook_train_place_1 (N : Nat) : ∀ u ∈ u0_rulebook_train_place_1 N, PcOk (X34 N) (bodyOf Try.f43) u := pc_nil
noncomputable def drulebook_train_place_1 : FD D := { f := 43, np := 1, ins := [.v 0 (.agg 36)], fx := [], rcv := none, rk := 0, outs := [.v 2 (.int .i64)], ofx := [], rvs := [.tmp 2], flat := true }
noncomputable def Frulebook_train_place_1 (N : Nat) : drulebook_train_place_1.F := fun r x => rulebook_train_place_1 N x.1
theorem orulebook_train_place_1 (N : Nat) : FOk Try.prog (X34 N) drulebook_train_place_1 (Frulebook_train_place_1 N) := ⟨⟨Try.f43, _, Try.func43, rfl, by kernel_rfl, by kernel_rfl, rfl, FC.of (cok34 N) (us := u0_rulebook_train_place_1 N) (fun u h _ => oku0_rulebook_train_place_1 N u h) (fun r x => by kernel_rfl)⟩, by kernel_rfl, by kernel_rfl, by kernel_rfl, by kernel_rfl⟩
noncomputable def fs35 (N : Nat) : List (FE D) := ⟨drulebook_train_place_1, Frulebook_train_place_1 N⟩ :: fs34 N
theorem all35 (N : Nat) : ∀ y ∈ fs35 N, CallOk X0 y.d y.F := all_cons (x := ⟨drulebook_train_place_1, Frulebook_train_place_1 N⟩) (orulebook_train_place_1 N) (all34 N)
noncomputable def X35 (N : Nat) : Ev Try.prog D := X0.with (fs35 N)
theorem cok35 (N : Nat) : COk (X35 N) := COk.of (all35 N)
/-! ### (humpyard/rulebook.train).beyond -/
noncomputable def u0_train_beyond__rulebook_train_place_1 (N : Nat) : List (Pc D) := []
theorem oku0_train_beyond__rulebook_train_place_1 (N : Nat) : ∀ u ∈ u0_train_beyond__rulebook_train_place_1 N, PcOk (X35 N) (bodyOf Try.f42) u := pc_nil
noncomputable def Ptrain_beyond__rulebook_train_place_1_0 : PD D := { path := [1, 1, 0, 1, 0], ins := [.v 1 (.int .i64), .v 7 (.int .i64), .v 11 (.sl 36), .v 12 (.int .i64), .v 13 (.int .i64)], fx := [(2, .fn 43 [])], ks := [], exs := [⟨.exit 0, [], []⟩, ⟨.ret, [.v 6 (.int .i64)], []⟩], keep := [] }
noncomputable def Ftrain_beyond__rulebook_train_place_1_0 (N n : Nat) : Ptrain_beyond__rulebook_train_place_1_0.F := fun x => train_beyond__rulebook_train_place_1_0 N x.1 x.2.2.1 x.2.2.2.1 n x.2.1 x.2.2.2.2.1
theorem ctrain_beyond__rulebook_train_place_1_0 (N n : Nat) : CC (X35 N) (bodyOf Try.f42) Ptrain_beyond__rulebook_train_place_1_0 (Ftrain_beyond__rulebook_train_place_1_0 N n) := CC.loop (cok35 N) (us := u0_train_beyond__rulebook_train_place_1 N) (c := sub (bodyOf Try.f42) [1, 1, 0, 1, 0, 0]) (by kernel_rfl) (by kernel_rfl) (fun u h _ => oku0_train_beyond__rulebook_train_place_1 N u h) (fun x => rfl) (fun n x => by kernel_rfl) n
noncomputable def utrain_beyond__rulebook_train_place_1_0 (N : Nat) : List (Pc D) := Ptrain_beyond__rulebook_train_place_1_0.pc (X35 N) (Ftrain_beyond__rulebook_train_place_1_0 N N) :: u0_train_beyond__rulebook_train_place_1 N
theorem okutrain_beyond__rulebook_train_place_1_0 (N : Nat) : ∀ u ∈ utrain_beyond__rulebook_train_place_1_0 N, PcOk (X35 N) (bodyOf Try.f42) u := pc_cons ((ctrain_beyond__rulebook_train_place_1_0 N N).pc (by kernel_rfl)) (oku0_train_beyond__rulebook_train_place_1 N)
noncomputable def dtrain_beyond__rulebook_train_place_1 : FD D := { f := 42, np := 3, ins := [.v 0 (.agg 63), .v 1 (.int .i64)], fx := [(2, .fn 43 [])], rcv := none, rk := 0, outs := [.v 6 (.int .i64)], ofx := [], rvs := [.tmp 6], flat := true }
noncomputable def Ftrain_beyond__rulebook_train_place_1 (N : Nat) : dtrain_beyond__rulebook_train_place_1.F := fun r x => train_beyond__rulebook_train_place_1 N x.1 x.2.1
theorem otrain_beyond__rulebook_train_place_1 (N : Nat) : FOk Try.prog (X35 N) dtrain_beyond__rulebook_train_place_1 (Ftrain_beyond__rulebook_train_place_1 N) := ⟨⟨Try.f42, _, Try.func42, rfl, by kernel_rfl, by kernel_rfl, rfl, FC.of (cok35 N) (us := utrain_beyond__rulebook_train_place_1_0 N) (fun u h _ => okutrain_beyond__rulebook_train_place_1_0 N u h) (fun r x => by kernel_rfl)⟩, by kernel_rfl, by kernel_rfl, by kernel_rfl, by kernel_rfl⟩
noncomputable def fs36 (N : Nat) : List (FE D) := ⟨dtrain_beyond__rulebook_train_place_1, Ftrain_beyond__rulebook_train_place_1 N⟩ :: fs35 N
theorem all36 (N : Nat) : ∀ y ∈ fs36 N, CallOk X0 y.d y.F := all_cons (x := ⟨dtrain_beyond__rulebook_train_place_1, Ftrain_beyond__rulebook_train_place_1 N⟩) (otrain_beyond__rulebook_train_place_1 N) (all35 N)
noncomputable def X36 (N : Nat) : Ev Try.prog D := X0.with (fs36 N)
theorem cok36 (N : Nat) : COk (X36 N) := COk.of (all36 N)
/-! ### (humpyard/rulebook.train).place$2 -/
noncomputable def u0_rulebook_train_place_2 (N : Nat) : List (Pc D) := []
theorem oku0_rulebook_train_place_2 (N : Nat) : ∀ u ∈ u0_rulebook_train_place_2 N, PcOk (X36 N) (bodyOf Try.f44) u := pc_nil
noncomputable def drulebook_train_place_2 : FD D := { f := 44, np := 1, ins := [.v 0 (.agg 36)], fx := [], rcv := none, rk := 0, outs := [.v 2 (.int .i64)], ofx := [], rvs := [.tmp 2], flat := true }
noncomputable def Frulebook_train_place_2 (N : Nat) : drulebook_train_place_2.F := fun r x => rulebook_train_place_2 N x.1
theorem orulebook_train_place_2 (N : Nat) : FOk Try.prog (X36 N) drulebook_train_place_2 (Frulebook_train_place_2 N) := ⟨⟨Try.f44, _, Try.func44, rfl, by kernel_rfl, by kernel_rfl, rfl, FC.of (cok36 N) (us := u0_rulebook_train_place_2 N) (fun u h _ => oku0_rulebook_train_place_2 N u h) (fun r x => by kernel_rfl)⟩, by kernel_rfl, by kernel_rfl, by kernel_rfl, by kernel_rfl⟩
noncomputable def fs37 (N : Nat) : List (FE D) := ⟨drulebook_train_place_2, Frulebook_train_place_2 N⟩ :: fs36 N
theorem all37 (N : Nat) : ∀ y ∈ fs37 N, CallOk X0 y.d y.F := all_cons (x := ⟨drulebook_train_place_2, Frulebook_train_place_2 N⟩) (orulebook_train_place_2 N) (all36 N)
noncomputable def X37 (N : Nat) : Ev Try.prog D := X0.with (fs37 N)
theorem cok37 (N : Nat) : COk (X37 N) := COk.of (all37 N)
/-! ### (humpyard/rulebook.train).beyond -/
noncomputable def u0_train_beyond__rulebook_train_place_2 (N : Nat) : List (Pc D) := []
theorem oku0_train_beyond__rulebook_train_place_2 (N : Nat) : ∀ u ∈ u0_train_beyond__rulebook_train_place_2 N, PcOk (X37 N) (bodyOf Try.f42) u := pc_nil
noncomputable def Ptrain_beyond__rulebook_train_place_2_0 : PD D := { path := [1, 1, 0, 1, 0], ins := [.v 1 (.int .i64), .v 7 (.int .i64), .v 11 (.sl 36), .v 12 (.int .i64), .v 13 (.int .i64)], fx := [(2, .fn 44 [])], ks := [], exs := [⟨.exit 0, [], []⟩, ⟨.ret, [.v 6 (.int .i64)], []⟩], keep := [] }
noncomputable def Ftrain_beyond__rulebook_train_place_2_0 (N n : Nat) : Ptrain_beyond__rulebook_train_place_2_0.F := fun x => train_beyond__rulebook_train_place_2_0 N x.1 x.2.2.1 x.2.2.2.1 n x.2.1 x.2.2.2.2.1
theorem ctrain_beyond__rulebook_train_place_2_0 (N n : Nat) : CC (X37 N) (bodyOf Try.f42) Ptrain_beyond__rulebook_train_place_2_0 (Ftrain_beyond__rulebook_train_place_2_0 N n) := CC.loop (cok37 N) (us := u0_train_beyond__rulebook_train_place_2 N) (c := sub (bodyOf Try.f42) [1, 1, 0, 1, 0, 0]) (by kernel_rfl) (by kernel_rfl) (fun u h _ => oku0_train_beyond__rulebook_train_place_2 N u h) (fun x => rfl) (fun n x => by kernel_rfl) n
noncomputable def utrain_beyond__rulebook_train_place_2_0 (N : Nat) : List (Pc D) := Ptrain_beyond__rulebook_train_place_2_0.pc (X37 N) (Ftrain_beyond__rulebook_train_place_2_0 N N) :: u0_train_beyond__rulebook_train_place_2 N
theorem okutrain_beyond__rulebook_train_place_2_0 (N : Nat) : ∀ u ∈ utrain_beyond__rulebook_train_place_2_0 N, PcOk (X37 N) (bodyOf Try.f42) u := pc_cons ((ctrain_beyond__rulebook_train_place_2_0 N N).pc (by kernel_rfl)) (oku0_train_beyond__rulebook_train_place_2 N)
noncomputable def dtrain_beyond__rulebook_train_place_2 : FD D := { f := 42, np := 3, ins := [.v 0 (.agg 63), .v 1 (.int .i64)], fx := [(2, .fn 44 [])], rcv := none, rk := 0, outs := [.v 6 (.int .i64)], ofx := [], rvs := [.tmp 6], flat := true }
noncomputable def Ftrain_beyond__rulebook_train_place_2 (N : Nat) : dtrain_beyond__rulebook_train_place_2.F := fun r x => train_beyond__rulebook_train_place_2 N x.1 x.2.1
theorem otrain_beyond__rulebook_train_place_2 (N : Nat) : FOk Try.prog (X37 N) dtrain_beyond__rulebook_train_place_2 (Ftrain_beyond__rulebook_train_place_2 N) := ⟨⟨Try.f42, _, Try.func42, rfl, by kernel_rfl, by kernel_rfl, rfl, FC.of (cok37 N) (us := utrain_beyond__rulebook_train_place_2_0 N) (fun u h _ => okutrain_beyond__rulebook_train_place_2_0 N u h) (fun r x => by kernel_rfl)⟩, by kernel_rfl, by kernel_rfl, by kernel_rfl, by kernel_rfl⟩
noncomputable def fs38 (N : Nat) : List (FE D) := ⟨dtrain_beyond__rulebook_train_place_2, Ftrain_beyond__rulebook_train_place_2 N⟩ :: fs37 N
theorem all38 (N : Nat) : ∀ y ∈ fs38 N, CallOk X0 y.d y.F := all_cons (x := ⟨dtrain_beyond__rulebook_train_place_2, Ftrain_beyond__rulebook_train_place_2 N⟩) (otrain_beyond__rulebook_train_place_2 N) (all37 N)
noncomputable def X38 (N : Nat) : Ev Try.prog D := X0.with (fs38 N)
theorem cok38 (N : Nat) : COk (X38 N) := COk.of (all38 N)
/-! ### (humpyard/rulebook.train).place$3 -/
noncomputable def u0_rulebook_train_place_3 (N : Nat) : List (Pc D) := []
theorem oku0_rulebook_train_place_3 (N : Nat) : ∀ u ∈ u0_rulebook_train_place_3 N, PcOk (X38 N) (bodyOf Try.f45) u := pc_nil
noncomputable def drulebook_train_place_3 : FD D := { f := 45, np := 1, ins := [.v 0 (.agg 36)], fx := [], rcv := none, rk := 0, outs := [.v 2 (.int .i64)], ofx := [], rvs := [.tmp 2], flat := true }
noncomputable def Frulebook_train_place_3 (N : Nat) : drulebook_train_place_3.F := fun r x => rulebook_train_place_3 N x.1
theorem orulebook_train_place_3 (N : Nat) : FOk Try.prog (X38 N) drulebook_train_place_3 (Frulebook_train_place_3 N) := ⟨⟨Try.f45, _, Try.func45, rfl, by kernel_rfl, by kernel_rfl, rfl, FC.of (cok38 N) (us := u0_rulebook_train_place_3 N) (fun u h _ => oku0_rulebook_train_place_3 N u h) (fun r x => by kernel_rfl)⟩, by kernel_rfl, by kernel_rfl, by kernel_rfl, by kernel_rfl⟩
noncomputable def fs39 (N : Nat) : List (FE D) := ⟨drulebook_train_place_3, Frulebook_train_place_3 N⟩ :: fs38 N
theorem all39 (N : Nat) : ∀ y ∈ fs39 N, CallOk X0 y.d y.F := all_cons (x := ⟨drulebook_train_place_3, Frulebook_train_place_3 N⟩) (orulebook_train_place_3 N) (all38 N)
noncomputable def X39 (N : Nat) : Ev Try.prog D := X0.with (fs39 N)
theorem cok39 (N : Nat) : COk (X39 N) := COk.of (all39 N)
/-! ### (humpyard/rulebook.train).beyond -/
noncomputable def u0_train_beyond__rulebook_train_place_3 (N : Nat) : List (Pc D) := []
theorem oku0_train_beyond__rulebook_train_place_3 (N : Nat) : ∀ u ∈ u0_train_beyond__rulebook_train_place_3 N, PcOk (X39 N) (bodyOf Try.f42) u := pc_nil
noncomputable def Ptrain_beyond__rulebook_train_place_3_0 : PD D := { path := [1, 1, 0, 1, 0], ins := [.v 1 (.int .i64), .v 7 (.int .i64), .v 11 (.sl 36), .v 12 (.int .i64), .v 13 (.int .i64)], fx := [(2, .fn 45 [])], ks := [], exs := [⟨.exit 0, [], []⟩, ⟨.ret, [.v 6 (.int .i64)], []⟩], keep := [] }
noncomputable def Ftrain_beyond__rulebook_train_place_3_0 (N n : Nat) : Ptrain_beyond__rulebook_train_place_3_0.F := fun x => train_beyond__rulebook_train_place_3_0 N x.1 x.2.2.1 x.2.2.2.1 n x.2.1 x.2.2.2.2.1
theorem ctrain_beyond__rulebook_train_place_3_0 (N n : Nat) : CC (X39 N) (bodyOf Try.f42) Ptrain_beyond__rulebook_train_place_3_0 (Ftrain_beyond__rulebook_train_place_3_0 N n) := CC.loop (cok39 N) (us := u0_train_beyond__rulebook_train_place_3 N) (c := sub (bodyOf Try.f42) [1, 1, 0, 1, 0, 0]) (by kernel_rfl) (by kernel_rfl) (fun u h _ => oku0_train_beyond__rulebook_train_place_3 N u h) (fun x => rfl) (fun n x => by kernel_rfl) n
noncomputable def utrain_beyond__rulebook_train_place_3_0 (N : Nat) : List (Pc D) := Ptrain_beyond__rulebook_train_place_3_0.pc (X39 N) (Ftrain_beyond__rulebook_train_place_3_0 N N) :: u0_train_beyond__rulebook_train_place_3 N
theorem okutrain_beyond__rulebook_train_place_3_0 (N : Nat) : ∀ u ∈ utrain_beyond__rulebook_train_place_3_0 N, PcOk (X39 N) (bodyOf Try.f42) u := pc_cons ((ctrain_beyond__rulebook_train_place_3_0 N N).pc (by kernel_rfl)) (oku0_train_beyond__rulebook_train_place_3 N)
noncomputable def dtrain_beyond__rulebook_train_place_3 : FD D := { f := 42, np := 3, ins := [.v 0 (.agg 63), .v 1 (.int .i64)], fx := [(2, .fn 45 [])], rcv := none, rk := 0, outs := [.v 6 (.int .i64)], ofx := [], rvs := [.tmp 6], flat := true }
noncomputable def Ftrain_beyond__rulebook_train_place_3 (N : Nat) : dtrain_beyond__rulebook_train_place_3.F := fun r x => train_beyond__rulebook_train_place_3 N x.1 x.2.1
theorem otrain_beyond__rulebook_train_place_3 (N : Nat) : FOk Try.prog (X39 N) dtrain_beyond__rulebook_train_place_3 (Ftrain_beyond__rulebook_train_place_3 N) := ⟨⟨Try.f42, _, Try.func42, rfl, by kernel_rfl, by kernel_rfl, rfl, FC.of (cok39 N) (us := utrain_beyond__rulebook_train_place_3_0 N) (fun u h _ => okutrain_beyond__rulebook_train_place_3_0 N u h) (fun r x => by kernel_rfl)⟩, by kernel_rfl, by kernel_rfl, by kernel_rfl, by kernel_rfl⟩
noncomputable def fs40 (N : Nat) : List (FE D) := ⟨dtrain_beyond__rulebook_train_place_3, Ftrain_beyond__rulebook_train_place_3 N⟩ :: fs39 N
theorem all40 (N : Nat) : ∀ y ∈ fs40 N, CallOk X0 y.d y.F := all_cons (x := ⟨dtrain_beyond__rulebook_train_place_3, Ftrain_beyond__rulebook_train_place_3 N⟩) (otrain_beyond__rulebook_train_place_3 N) (all39 N)
noncomputable def X40 (N : Nat) : Ev Try.prog D := X0.with (fs40 N)
theorem cok40 (N : Nat) : COk (X40 N) := COk.of (all40 N)
/-! ### (humpyard/rulebook.train).end -/
noncomputable def u0_train_end (N : Nat) : List (Pc D) := []
theorem oku0_train_end (N : Nat) : ∀ u ∈ u0_train_end N, PcOk (X40 N) (bodyOf Try.f46) u := pc_nil
noncomputable def dtrain_end : FD D := { f := 46, np := 2, ins := [.v 0 (.agg 63), .v 1 .bool], fx := [], rcv := none, rk := 0, outs := [.v 4 (.int .i64)], ofx := [], rvs := [.tmp 4], flat := true }
noncomputable def Ftrain_end (N : Nat) : dtrain_end.F := fun r x => train_end N x.1 x.2.1
theorem otrain_end (N : Nat) : FOk Try.prog (X40 N) dtrain_end (Ftrain_end N) := ⟨⟨Try.f46, _, Try.func46, rfl, by kernel_rfl, by kernel_rfl, rfl, FC.of (cok40 N) (us := u0_train_end N) (fun u h _ => oku0_train_end N u h) (fun r x => by kernel_rfl)⟩, by kernel_rfl, by kernel_rfl, by kernel_rfl, by kernel_rfl⟩
noncomputable def fs41 (N : Nat) : List (FE D) := ⟨dtrain_end, Ftrain_end N⟩ :: fs40 N
theorem all41 (N : Nat) : ∀ y ∈ fs41 N, CallOk X0 y.d y.F := all_cons (x := ⟨dtrain_end, Ftrain_end N⟩) (otrain_end N) (all40 N)
noncomputable def X41 (N : Nat) : Ev Try.prog D := X0.with (fs41 N)
theorem cok41 (N : Nat) : COk (X41 N) := COk.of (all41 N)
/-! ### (humpyard/rulebook.train).apart -/
noncomputable def u0_train_apart (N : Nat) : List (Pc D) := []
theorem oku0_train_apart (N : Nat) : ∀ u ∈ u0_train_apart N, PcOk (X41 N) (bodyOf Try.f49) u := pc_nil
noncomputable def Ptrain_apart_1 : PD D := { path := [1, 0, 1, 0, 0, 1, 1, 0, 0, 1, 1, 0], ins := [.v 2 (.int .i64), .o 3 (.box 63), .o 4 (.box 32), .v 7 (.int .i64), .v 8 (.int .i64), .v 9 (.int .i64)], fx := [(3, .box 0 0), (4, .box 1 0)], ks := [1, 1], exs := [⟨.normal, [.v 56 .bool], []⟩], keep := [2, 3, 4, 10, 11] }
noncomputable def Ftrain_apart_1 (N : Nat) : Ptrain_apart_1.F := fun x => train_apart_1 N x.1 x.2.2.1 x.2.2.2.1 x.2.2.2.2.1 x.2.2.2.2.2.1
theorem ctrain_apart_1 (N : Nat) : CC (X41 N) (bodyOf Try.f49) Ptrain_apart_1 (Ftrain_apart_1 N) := CC.of (cok41 N) (us := u0_train_apart N) (fun u h _ => oku0_train_apart N u h) (fun x => by kernel_rfl)
noncomputable def utrain_apart_1 (N : Nat) : List (Pc D) := Ptrain_apart_1.pc (X41 N) (Ftrain_apart_1 N) :: u0_train_apart N
theorem okutrain_apart_1 (N : Nat) : ∀ u ∈ utrain_apart_1 N, PcOk (X41 N) (bodyOf Try.f49) u := pc_cons ((ctrain_apart_1 N).pc (by kernel_rfl)) (oku0_train_apart N)
noncomputable def Ptrain_apart_0 : PD D := { path := [1, 0, 1, 0], ins := [.v 2 (.int .i64), .o 3 (.box 63), .o 4 (.box 32), .v 10 (.int .i64), .v 11 (.int .i64)], fx := [(3, .box 0 0), (4, .box 1 0)], ks := [1, 1], exs := [⟨.exit 0, [], []⟩, ⟨.ret, [.v 6 .bool], []⟩], keep := [] }
noncomputable def Ftrain_apart_0 (N n : Nat) : Ptrain_apart_0.F := fun x => train_apart_0 N x.1 x.2.1 x.2.2.1 x.2.2.2.1 n x.2.2.2.2.1
theorem ctrain_apart_0 (N n : Nat) : CC (X41 N) (bodyOf Try.f49) Ptrain_apart_0 (Ftrain_apart_0 N n) := CC.loop (cok41 N) (us := utrain_apart_1 N) (c := sub (bodyOf Try.f49) [1, 0, 1, 0, 0]) (by kernel_rfl) (by kernel_rfl) (fun u h _ => okutrain_apart_1 N u h) (fun x => rfl) (fun n x => by kernel_rfl) n
noncomputable def utrain_apart_0 (N : Nat) : List (Pc D) := Ptrain_apart_0.pc (X41 N) (Ftrain_apart_0 N N) :: utrain_apart_1 N
theorem okutrain_apart_0 (N : Nat) : ∀ u ∈ utrain_apart_0 N, PcOk (X41 N) (bodyOf Try.f49) u := pc_cons ((ctrain_apart_0 N N).pc (by kernel_rfl)) (okutrain_apart_1 N)
noncomputable def dtrain_apart : FD D := { f := 49, np := 3, ins := [.v 0 (.agg 63), .v 1 (.agg 32), .v 2 (.int .i64)], fx := [], rcv := none, rk := 0, outs := [.v 6 .bool], ofx := [], rvs := [.tmp 6], flat := true }
noncomputable def Ftrain_apart (N : Nat) : dtrain_apart.F := fun r x => train_apart N x.1 x.2.1 x.2.2.1
theorem otrain_apart (N : Nat) : FOk Try.prog (X41 N) dtrain_apart (Ftrain_apart N) := ⟨⟨Try.f49, _, Try.func49, rfl, by kernel_rfl, by kernel_rfl, rfl, FC.of (cok41 N) (us := utrain_apart_0 N) (fun u h _ => okutrain_apart_0 N u h) (fun r x => by kernel_rfl)⟩, by kernel_rfl, by kernel_rfl, by kernel_rfl, by kernel_rfl⟩
noncomputable def fs42 (N : Nat) : List (FE D) := ⟨dtrain_apart, Ftrain_apart N⟩ :: fs41 N
theorem all42 (N : Nat) : ∀ y ∈ fs42 N, CallOk X0 y.d y.F := all_cons (x := ⟨dtrain_apart, Ftrain_apart N⟩) (otrain_apart N) (all41 N)
noncomputable def X42 (N : Nat) : Ev Try.prog D := X0.with (fs42 N)
theorem cok42 (N : Nat) : COk (X42 N) := COk.of (all42 N)
/-! ### (humpyard/rulebook.train).place$4 -/
noncomputable def u0_rulebook_train_place_4 (N : Nat) : List (Pc D) := []
theorem oku0_rulebook_train_place_4 (N : Nat) : ∀ u ∈ u0_rulebook_train_place_4 N, PcOk (X42 N) (bodyOf Try.f48) u := pc_nil
noncomputable def drulebook_train_place_4 : FD D := { f := 48, np := 4, ins := [.v 0 (.int .i64), .v 1 (.agg 36), .v 2 (.rp 63), .v 3 (.rp 32)], fx := [], rcv := none, rk := 0, outs := [.v 6 .bool], ofx := [], rvs := [.tmp 6], flat := true }
noncomputable def Frulebook_train_place_4 (N : Nat) : drulebook_train_place_4.F := fun r x => rulebook_train_place_4 N x.1 x.2.2.1 x.2.2.2.1
theorem orulebook_train_place_4 (N : Nat) : FOk Try.prog (X42 N) drulebook_train_place_4 (Frulebook_train_place_4 N) := ⟨⟨Try.f48, _, Try.func48, rfl, by kernel_rfl, by kernel_rfl, rfl, FC.of (cok42 N) (us := u0_rulebook_train_place_4 N) (fun u h _ => oku0_rulebook_train_place_4 N u h) (fun r x => by kernel_rfl)⟩, by kernel_rfl, by kernel_rfl, by kernel_rfl, by kernel_rfl⟩
noncomputable def fs43 (N : Nat) : List (FE D) := ⟨drulebook_train_place_4, Frulebook_train_place_4 N⟩ :: fs42 N
theorem all43 (N : Nat) : ∀ y ∈ fs43 N, CallOk X0 y.d y.F := all_cons (x := ⟨drulebook_train_place_4, Frulebook_train_place_4 N⟩) (orulebook_train_place_4 N) (all42 N)
noncomputable def X43 (N : Nat) : Ev Try.prog D := X0.with (fs43 N)
theorem cok43 (N : Nat) : COk (X43 N) := COk.of (all43 N)
/-! ### (humpyard/rulebook.train).first -/
noncomputable def u0_train_first__rulebook_train_place_4 (N : Nat) : List (Pc D) := []
theorem oku0_train_first__rulebook_train_place_4 (N : Nat) : ∀ u ∈ u0_train_first__rulebook_train_place_4 N, PcOk (X43 N) (bodyOf Try.f47) u := pc_nil
noncomputable def Ptrain_first__rulebook_train_place_4_0 : PD D := { path := [1, 0, 1, 0], ins := [.v 1 (.fn 48 [63, 32]), .v 8 (.sl 36), .v 9 (.int .i64), .v 10 (.int .i64)], fx := [], ks := [], exs := [⟨.exit 0, [], []⟩, ⟨.ret, [.v 4 (.int .i64)], []⟩], keep := [] }
noncomputable def Ftrain_first__rulebook_train_place_4_0 (N n : Nat) : Ptrain_first__rulebook_train_place_4_0.F := fun x => train_first__rulebook_train_place_4_0 N (x.1.1, x.1.2.1) x.2.1 x.2.2.1 n x.2.2.2.1
theorem ctrain_first__rulebook_train_place_4_0 (N n : Nat) : CC (X43 N) (bodyOf Try.f47) Ptrain_first__rulebook_train_place_4_0 (Ftrain_first__rulebook_train_place_4_0 N n) := CC.loop (cok43 N) (us := u0_train_first__rulebook_train_place_4 N) (c := sub (bodyOf Try.f47) [1, 0, 1, 0, 0]) (by kernel_rfl) (by kernel_rfl) (fun u h _ => oku0_train_first__rulebook_train_place_4 N u h) (fun x => rfl) (fun n x => by kernel_rfl) n
noncomputable def utrain_first__rulebook_train_place_4_0 (N : Nat) : List (Pc D) := Ptrain_first__rulebook_train_place_4_0.pc (X43 N) (Ftrain_first__rulebook_train_place_4_0 N N) :: u0_train_first__rulebook_train_place_4 N
theorem okutrain_first__rulebook_train_place_4_0 (N : Nat) : ∀ u ∈ utrain_first__rulebook_train_place_4_0 N, PcOk (X43 N) (bodyOf Try.f47) u := pc_cons ((ctrain_first__rulebook_train_place_4_0 N N).pc (by kernel_rfl)) (oku0_train_first__rulebook_train_place_4 N)
noncomputable def dtrain_first__rulebook_train_place_4 : FD D := { f := 47, np := 2, ins := [.v 0 (.agg 63), .v 1 (.fn 48 [63, 32])], fx := [], rcv := none, rk := 0, outs := [.v 4 (.int .i64)], ofx := [], rvs := [.tmp 4], flat := true }
noncomputable def Ftrain_first__rulebook_train_place_4 (N : Nat) : dtrain_first__rulebook_train_place_4.F := fun r x => train_first__rulebook_train_place_4 N x.1 (x.2.1.1, x.2.1.2.1)
theorem otrain_first__rulebook_train_place_4 (N : Nat) : FOk Try.prog (X43 N) dtrain_first__rulebook_train_place_4 (Ftrain_first__rulebook_train_place_4 N) := ⟨⟨Try.f47, _, Try.func47, rfl, by kernel_rfl, by kernel_rfl, rfl, FC.of (cok43 N) (us := utrain_first__rulebook_train_place_4_0 N) (fun u h _ => okutrain_first__rulebook_train_place_4_0 N u h) (fun r x => by kernel_rfl)⟩, by kernel_rfl, by kernel_rfl, by kernel_rfl, by kernel_rfl⟩
noncomputable def fs44 (N : Nat) : List (FE D) := ⟨dtrain_first__rulebook_train_place_4, Ftrain_first__rulebook_train_place_4 N⟩ :: fs43 N
theorem all44 (N : Nat) : ∀ y ∈ fs44 N, CallOk X0 y.d y.F := all_cons (x := ⟨dtrain_first__rulebook_train_place_4, Ftrain_first__rulebook_train_place_4 N⟩) (otrain_first__rulebook_train_place_4 N) (all43 N)
noncomputable def X44 (N : Nat) : Ev Try.prog D := X0.with (fs44 N)
theorem cok44 (N : Nat) : COk (X44 N) := COk.of (all44 N)
/-! ### (humpyard/rulebook.train).place$5 -/
noncomputable def u0_rulebook_train_place_5 (N : Nat) : List (Pc D) := []
theorem oku0_rulebook_train_place_5 (N : Nat) : ∀ u ∈ u0_rulebook_train_place_5 N, PcOk (X44 N) (bodyOf Try.f50) u := pc_nil
noncomputable def Prulebook_train_place_5_0 : PD D := { path := [1, 0], ins := [.v 0 (.int .i64), .v 2 (.rp 32), .o 4 (.box 36)], fx := [(4, .box 0 0)], ks := [1], exs := [⟨.normal, [.v 5 .bool], []⟩], keep := [] }
noncomputable def Frulebook_train_place_5_0 (N : Nat) : Prulebook_train_place_5_0.F := fun x => rulebook_train_place_5_0 N x.1 x.2.1 x.2.2.1
theorem crulebook_train_place_5_0 (N : Nat) : CC (X44 N) (bodyOf Try.f50) Prulebook_train_place_5_0 (Frulebook_train_place_5_0 N) := CC.of (cok44 N) (us := u0_rulebook_train_place_5 N) (fun u h _ => oku0_rulebook_train_place_5 N u h) (fun x => by kernel_rfl)
noncomputable def urulebook_train_place_5_0 (N : Nat) : List (Pc D) := Prulebook_train_place_5_0.pc (X44 N) (Frulebook_train_place_5_0 N) :: u0_rulebook_train_place_5 N
theorem okurulebook_train_place_5_0 (N : Nat) : ∀ u ∈ urulebook_train_place_5_0 N, PcOk (X44 N) (bodyOf Try.f50) u := pc_cons ((crulebook_train_place_5_0 N).pc (by kernel_rfl)) (oku0_rulebook_train_place_5 N)
noncomputable def drulebook_train_place_5 : FD D := { f := 50, np := 3, ins := [.v 0 (.int .i64), .v 1 (.agg 36), .v 2 (.rp 32)], fx := [], rcv := none, rk := 0, outs := [.v 5 .bool], ofx := [], rvs := [.tmp 5], flat := true }
noncomputable def Frulebook_train_place_5 (N : Nat) : drulebook_train_place_5.F := fun r x => rulebook_train_place_5 N x.1 x.2.1 x.2.2.1
theorem orulebook_train_place_5 (N : Nat) : FOk Try.prog (X44 N) drulebook_train_place_5 (Frulebook_train_place_5 N) := ⟨⟨Try.f50, _, Try.func50, rfl, by kernel_rfl, by kernel_rfl, rfl, FC.of (cok44 N) (us := urulebook_train_place_5_0 N) (fun u h _ => okurulebook_train_place_5_0 N u h) (fun r x => by kernel_rfl)⟩, by kernel_rfl, by kernel_rfl, by kernel_rfl, by kernel_rfl⟩
noncomputable def fs45 (N : Nat) : List (FE D) := ⟨drulebook_train_place_5, Frulebook_train_place_5 N⟩ :: fs44 N
theorem all45 (N : Nat) : ∀ y ∈ fs45 N, CallOk X0 y.d y.F := all_cons (x := ⟨drulebook_train_place_5, Frulebook_train_place_5 N⟩) (orulebook_train_place_5 N) (all44 N)
noncomputable def X45 (N : Nat) : Ev Try.prog D := X0.with (fs45 N)
theorem cok45 (N : Nat) : COk (X45 N) := COk.of (all45 N)
/-! ### (humpyard/rulebook.train).first -/
noncomputable def u0_train_first__rulebook_train_place_5 (N : Nat) : List (Pc D) := []
theorem oku0_train_first__rulebook_train_place_5 (N : Nat) : ∀ u ∈ u0_train_first__rulebook_train_place_5 N, PcOk (X45 N) (bodyOf Try.f47) u := pc_nil
noncomputable def Ptrain_first__rulebook_train_place_5_0 : PD D := { path := [1, 0, 1, 0], ins := [.v 1 (.fn 50 [32]), .v 8 (.sl 36), .v 9 (.int .i64), .v 10 (.int .i64)], fx := [], ks := [], exs := [⟨.exit 0, [], []⟩, ⟨.ret, [.v 4 (.int .i64)], []⟩], keep := [] }
noncomputable def Ftrain_first__rulebook_train_place_5_0 (N n : Nat) : Ptrain_first__rulebook_train_place_5_0.F := fun x => train_first__rulebook_train_place_5_0 N x.1.1 x.2.1 x.2.2.1 n x.2.2.2.1
theorem ctrain_first__rulebook_train_place_5_0 (N n : Nat) : CC (X45 N) (bodyOf Try.f47) Ptrain_first__rulebook_train_place_5_0 (Ftrain_first__rulebook_train_place_5_0 N n) := CC.loop (cok45 N) (us := u0_train_first__rulebook_train_place_5 N) (c := sub (bodyOf Try.f47) [1, 0, 1, 0, 0]) (by kernel_rfl) (by kernel_rfl) (fun u h _ => oku0_train_first__rulebook_train_place_5 N u h) (fun x => rfl) (fun n x => by kernel_rfl) n
noncomputable def utrain_first__rulebook_train_place_5_0 (N : Nat) : List (Pc D) := Ptrain_first__rulebook_train_place_5_0.pc (X45 N) (Ftrain_first__rulebook_train_place_5_0 N N) :: u0_train_first__rulebook_train_place_5 N
theorem okutrain_first__rulebook_train_place_5_0 (N : Nat) : ∀ u ∈ utrain_first__rulebook_train_place_5_0 N, PcOk (X45 N) (bodyOf Try.f47) u := pc_cons ((ctrain_first__rulebook_train_place_5_0 N N).pc (by kernel_rfl)) (oku0_train_first__rulebook_train_place_5 N)
noncomputable def dtrain_first__rulebook_train_place_5 : FD D := { f := 47, np := 2, ins := [.v 0 (.agg 63), .v 1 (.fn 50 [32])], fx := [], rcv := none, rk := 0, outs := [.v 4 (.int .i64)], ofx := [], rvs := [.tmp 4], flat := true }
noncomputable def Ftrain_first__rulebook_train_place_5 (N : Nat) : dtrain_first__rulebook_train_place_5.F := fun r x => train_first__rulebook_train_place_5 N x.1 x.2.1.1
theorem otrain_first__rulebook_train_place_5 (N : Nat) : FOk Try.prog (X45 N) dtrain_first__rulebook_train_place_5 (Ftrain_first__rulebook_train_place_5 N) := ⟨⟨Try.f47, _, Try.func47, rfl, by kernel_rfl, by kernel_rfl, rfl, FC.of (cok45 N) (us := utrain_first__rulebook_train_place_5_0 N) (fun u h _ => okutrain_first__rulebook_train_place_5_0 N u h) (fun r x => by kernel_rfl)⟩, by kernel_rfl, by kernel_rfl, by kernel_rfl, by kernel_rfl⟩
noncomputable def fs46 (N : Nat) : List (FE D) := ⟨dtrain_first__rulebook_train_place_5, Ftrain_first__rulebook_train_place_5 N⟩ :: fs45 N
theorem all46 (N : Nat) : ∀ y ∈ fs46 N, CallOk X0 y.d y.F := all_cons (x := ⟨dtrain_first__rulebook_train_place_5, Ftrain_first__rulebook_train_place_5 N⟩) (otrain_first__rulebook_train_place_5 N) (all45 N)
noncomputable def X46 (N : Nat) : Ev Try.prog D := X0.with (fs46 N)
theorem cok46 (N : Nat) : COk (X46 N) := COk.of (all46 N)
/-! ### slices.Index[[]int,int] -/
noncomputable def u0_slices_Index_int_int (N : Nat) : List (Pc D) := []
theorem oku0_slices_Index_int_int (N : Nat) : ∀ u ∈ u0_slices_Index_int_int N, PcOk (X46 N) (bodyOf Try.f70) u := pc_nil
noncomputable def Pslices_Index_int_int_0 : PD D := { path := [1, 0, 1, 0], ins := [.v 0 (.sl 3), .v 1 (.int .i64), .v 7 (.int .i64), .v 8 (.int .i64)], fx := [], ks := [], exs := [⟨.exit 0, [], []⟩, ⟨.ret, [.v 4 (.int .i64)], []⟩], keep := [] }
noncomputable def Fslices_Index_int_int_0 (N n : Nat) : Pslices_Index_int_int_0.F := fun x => slices_Index_int_int_0 N x.1 x.2.1 x.2.2.1 n x.2.2.2.1
theorem cslices_Index_int_int_0 (N n : Nat) : CC (X46 N) (bodyOf Try.f70) Pslices_Index_int_int_0 (Fslices_Index_int_int_0 N n) := CC.loop (cok46 N) (us := u0_slices_Index_int_int N) (c := sub (bodyOf Try.f70) [1, 0, 1, 0, 0]) (by kernel_rfl) (by kernel_rfl) (fun u h _ => oku0_slices_Index_int_int N u h) (fun x => rfl) (fun n x => by kernel_rfl) n
noncomputable def uslices_Index_int_int_0 (N : Nat) : List (Pc D) := Pslices_Index_int_int_0.pc (X46 N) (Fslices_Index_int_int_0 N N) :: u0_slices_Index_int_int N
theorem okuslices_Index_int_int_0 (N : Nat) : ∀ u ∈ uslices_Index_int_int_0 N, PcOk (X46 N) (bodyOf Try.f70) u := pc_cons ((cslices_Index_int_int_0 N N).pc (by kernel_rfl)) (oku0_slices_Index_int_int N)
noncomputable def dslices_Index_int_int : FD D := { f := 70, np := 2, ins := [.v 0 (.sl 3), .v 1 (.int .i64)], fx := [], rcv := none, rk := 0, outs := [.v 4 (.int .i64)], ofx := [], rvs := [.tmp 4], flat := true }
noncomputable def Fslices_Index_int_int (N : Nat) : dslices_Index_int_int.F := fun r x => slices_Index_int_int N x.1 x.2.1
theorem oslices_Index_int_int (N : Nat) : FOk Try.prog (X46 N) dslices_Index_int_int (Fslices_Index_int_int N) := ⟨⟨Try.f70, _, Try.func70, rfl, by kernel_rfl, by kernel_rfl, rfl, FC.of (cok46 N) (us := uslices_Index_int_int_0 N) (fun u h _ => okuslices_Index_int_int_0 N u h) (fun r x => by kernel_rfl)⟩, by kernel_rfl, by kernel_rfl, by kernel_rfl, by kernel_rfl⟩
noncomputable def fs47 (N : Nat) : List (FE D) := ⟨dslices_Index_int_int, Fslices_Index_int_int N⟩ :: fs46 N
theorem all47 (N : Nat) : ∀ y ∈ fs47 N, CallOk X0 y.d y.F := all_cons (x := ⟨dslices_Index_int_int, Fslices_Index_int_int N⟩) (oslices_Index_int_int N) (all46 N)
noncomputable def X47 (N : Nat) : Ev Try.prog D := X0.with (fs47 N)
theorem cok47 (N : Nat) : COk (X47 N) := COk.of (all47 N)
/-! ### slices.Contains[[]int,int] -/
noncomputable def u0_slices_Contains_int_int (N : Nat) : List (Pc D) := []
theorem oku0_slices_Contains_int_int (N : Nat) : ∀ u ∈ u0_slices_Contains_int_int N, PcOk (X47 N) (bodyOf Try.f63) u := pc_nil
noncomputable def dslices_Contains_int_int : FD D := { f := 63, np := 2, ins := [.v 0 (.sl 3), .v 1 (.int .i64)], fx := [], rcv := none, rk := 0, outs := [.v 4 .bool], ofx := [], rvs := [.tmp 4], flat := true }
noncomputable def Fslices_Contains_int_int (N : Nat) : dslices_Contains_int_int.F := fun r x => slices_Contains_int_int N x.1 x.2.1
theorem oslices_Contains_int_int (N : Nat) : FOk Try.prog (X47 N) dslices_Contains_int_int (Fslices_Contains_int_int N) := ⟨⟨Try.f63, _, Try.func63, rfl, by kernel_rfl, by kernel_rfl, rfl, FC.of (cok47 N) (us := u0_slices_Contains_int_int N) (fun u h _ => oku0_slices_Contains_int_int N u h) (fun r x => by kernel_rfl)⟩, by kernel_rfl, by kernel_rfl, by kernel_rfl, by kernel_rfl⟩
noncomputable def fs48 (N : Nat) : List (FE D) := ⟨dslices_Contains_int_int, Fslices_Contains_int_int N⟩ :: fs47 N
theorem all48 (N : Nat) : ∀ y ∈ fs48 N, CallOk X0 y.d y.F := all_cons (x := ⟨dslices_Contains_int_int, Fslices_Contains_int_int N⟩) (oslices_Contains_int_int N) (all47 N)
noncomputable def X48 (N : Nat) : Ev Try.prog D := X0.with (fs48 N)
theorem cok48 (N : Nat) : COk (X48 N) := COk.of (all48 N)
/-! ### (humpyard/rulebook.train).tail -/
noncomputable def u0_train_tail (N : Nat) : List (Pc D) := []
theorem oku0_train_tail (N : Nat) : ∀ u ∈ u0_train_tail N, PcOk (X48 N) (bodyOf Try.f51) u := pc_nil
noncomputable def Ptrain_tail_2 : PD D := { path := [1, 1, 1, 0, 1, 0, 0, 1, 0, 0, 0], ins := [.o 2 (.box 63), .o 3 (.box 32), .v 7 (.int .i64)], fx := [(2, .box 0 0), (3, .box 1 0)], ks := [1, 1], exs := [⟨.normal, [.v 39 .bool], []⟩], keep := [2, 3, 5, 6, 7] }
noncomputable def Ftrain_tail_2 (N : Nat) : Ptrain_tail_2.F := fun x => train_tail_2 N x.1 x.2.2.1
theorem ctrain_tail_2 (N : Nat) : CC (X48 N) (bodyOf Try.f51) Ptrain_tail_2 (Ftrain_tail_2 N) := CC.of (cok48 N) (us := u0_train_tail N) (fun u h _ => oku0_train_tail N u h) (fun x => by kernel_rfl)
noncomputable def utrain_tail_2 (N : Nat) : List (Pc D) := Ptrain_tail_2.pc (X48 N) (Ftrain_tail_2 N) :: u0_train_tail N
theorem okutrain_tail_2 (N : Nat) : ∀ u ∈ utrain_tail_2 N, PcOk (X48 N) (bodyOf Try.f51) u := pc_cons ((ctrain_tail_2 N).pc (by kernel_rfl)) (oku0_train_tail N)
noncomputable def Ptrain_tail_1 : PD D := { path := [1, 1, 1, 0, 1, 0, 0, 1, 0], ins := [.o 2 (.box 63), .o 3 (.box 32), .v 6 (.int .i64), .v 7 (.int .i64)], fx := [(2, .box 0 0), (3, .box 1 0)], ks := [1, 1], exs := [⟨.normal, [.v 6 (.int .i64)], []⟩], keep := [2, 3, 5, 7] }
noncomputable def Ftrain_tail_1 (N : Nat) : Ptrain_tail_1.F := fun x => train_tail_1 N x.1 x.2.2.1 x.2.2.2.1
theorem ctrain_tail_1 (N : Nat) : CC (X48 N) (bodyOf Try.f51) Ptrain_tail_1 (Ftrain_tail_1 N) := CC.of (cok48 N) (us := utrain_tail_2 N) (fun u h _ => okutrain_tail_2 N u h) (fun x => by kernel_rfl)
noncomputable def utrain_tail_1 (N : Nat) : List (Pc D) := Ptrain_tail_1.pc (X48 N) (Ftrain_tail_1 N) :: utrain_tail_2 N
theorem okutrain_tail_1 (N : Nat) : ∀ u ∈ utrain_tail_1 N, PcOk (X48 N) (bodyOf Try.f51) u := pc_cons ((ctrain_tail_1 N).pc (by kernel_rfl)) (okutrain_tail_2 N)
noncomputable def Ptrain_tail_0 : PD D := { path := [1, 1, 1, 0, 1, 0], ins := [.o 2 (.box 63), .o 3 (.box 32), .v 6 (.int .i64), .v 7 (.int .i64)], fx := [(2, .box 0 0), (3, .box 1 0)], ks := [1, 1], exs := [⟨.exit 0, [.v 6 (.int .i64)], []⟩], keep := [3, 5] }
noncomputable def Ftrain_tail_0 (N n : Nat) : Ptrain_tail_0.F := fun x => train_tail_0 N x.1 n x.2.2.1 x.2.2.2.1
theorem ctrain_tail_0 (N n : Nat) : CC (X48 N) (bodyOf Try.f51) Ptrain_tail_0 (Ftrain_tail_0 N n) := CC.loop (cok48 N) (us := utrain_tail_1 N) (c := sub (bodyOf Try.f51) [1, 1, 1, 0, 1, 0, 0]) (by kernel_rfl) (by kernel_rfl) (fun u h _ => okutrain_tail_1 N u h) (fun x => rfl) (fun n x => by kernel_rfl) n
noncomputable def utrain_tail_0 (N : Nat) : List (Pc D) := Ptrain_tail_0.pc (X48 N) (Ftrain_tail_0 N N) :: utrain_tail_1 N
theorem okutrain_tail_0 (N : Nat) : ∀ u ∈ utrain_tail_0 N, PcOk (X48 N) (bodyOf Try.f51) u := pc_cons ((ctrain_tail_0 N N).pc (by kernel_rfl)) (okutrain_tail_1 N)
noncomputable def dtrain_tail : FD D := { f := 51, np := 2, ins := [.v 0 (.agg 63), .v 1 (.agg 32)], fx := [], rcv := none, rk := 0, outs := [.v 4 .bool], ofx := [], rvs := [.tmp 4], flat := true }
noncomputable def Ftrain_tail (N : Nat) : dtrain_tail.F := fun r x => train_tail N x.1 x.2.1
theorem otrain_tail (N : Nat) : FOk Try.prog (X48 N) dtrain_tail (Ftrain_tail N) := ⟨⟨Try.f51, _, Try.func51, rfl, by kernel_rfl, by kernel_rfl, rfl, FC.of (cok48 N) (us := utrain_tail_0 N) (fun u h _ => okutrain_tail_0 N u h) (fun r x => by kernel_rfl)⟩, by kernel_rfl, by kernel_rfl, by kernel_rfl, by kernel_rfl⟩
noncomputable def fs49 (N : Nat) : List (FE D) := ⟨dtrain_tail, Ftrain_tail N⟩ :: fs48 N
theorem all49 (N : Nat) : ∀ y ∈ fs49 N, CallOk X0 y.d y.F := all_cons (x := ⟨dtrain_tail, Ftrain_tail N⟩) (otrain_tail N) (all48 N)
noncomputable def X49 (N : Nat) : Ev Try.prog D := X0.with (fs49 N)
theorem cok49 (N : Nat) : COk (X49 N) := COk.of (all49 N)
/-! ### (humpyard/rulebook.train).place$6 -/
noncomputable def u0_rulebook_train_place_6 (N : Nat) : List (Pc D) := []
theorem oku0_rulebook_train_place_6 (N : Nat) : ∀ u ∈ u0_rulebook_train_place_6 N, PcOk (X49 N) (bodyOf Try.f52) u := pc_nil
noncomputable def drulebook_train_place_6 : FD D := { f := 52, np := 3, ins := [.v 0 (.int .i64), .v 1 (.agg 36), .v 2 (.rp 32)], fx := [], rcv := none, rk := 0, outs := [.v 5 .bool], ofx := [], rvs := [.tmp 5], flat := true }
noncomputable def Frulebook_train_place_6 (N : Nat) : drulebook_train_place_6.F := fun r x => rulebook_train_place_6 N x.2.1 x.2.2.1
theorem orulebook_train_place_6 (N : Nat) : FOk Try.prog (X49 N) drulebook_train_place_6 (Frulebook_train_place_6 N) := ⟨⟨Try.f52, _, Try.func52, rfl, by kernel_rfl, by kernel_rfl, rfl, FC.of (cok49 N) (us := u0_rulebook_train_place_6 N) (fun u h _ => oku0_rulebook_train_place_6 N u h) (fun r x => by kernel_rfl)⟩, by kernel_rfl, by kernel_rfl, by kernel_rfl, by kernel_rfl⟩
noncomputable def fs50 (N : Nat) : List (FE D) := ⟨drulebook_train_place_6, Frulebook_train_place_6 N⟩ :: fs49 N
theorem all50 (N : Nat) : ∀ y ∈ fs50 N, CallOk X0 y.d y.F := all_cons (x := ⟨drulebook_train_place_6, Frulebook_train_place_6 N⟩) (orulebook_train_place_6 N) (all49 N)
noncomputable def X50 (N : Nat) : Ev Try.prog D := X0.with (fs50 N)
theorem cok50 (N : Nat) : COk (X50 N) := COk.of (all50 N)
/-! ### (humpyard/rulebook.train).first -/
noncomputable def u0_train_first__rulebook_train_place_6 (N : Nat) : List (Pc D) := []
theorem oku0_train_first__rulebook_train_place_6 (N : Nat) : ∀ u ∈ u0_train_first__rulebook_train_place_6 N, PcOk (X50 N) (bodyOf Try.f47) u := pc_nil
noncomputable def Ptrain_first__rulebook_train_place_6_0 : PD D := { path := [1, 0, 1, 0], ins := [.v 1 (.fn 52 [32]), .v 8 (.sl 36), .v 9 (.int .i64), .v 10 (.int .i64)], fx := [], ks := [], exs := [⟨.exit 0, [], []⟩, ⟨.ret, [.v 4 (.int .i64)], []⟩], keep := [] }
noncomputable def Ftrain_first__rulebook_train_place_6_0 (N n : Nat) : Ptrain_first__rulebook_train_place_6_0.F := fun x => train_first__rulebook_train_place_6_0 N x.1.1 x.2.1 x.2.2.1 n x.2.2.2.1
theorem ctrain_first__rulebook_train_place_6_0 (N n : Nat) : CC (X50 N) (bodyOf Try.f47) Ptrain_first__rulebook_train_place_6_0 (Ftrain_first__rulebook_train_place_6_0 N n) := CC.loop (cok50 N) (us := u0_train_first__rulebook_train_place_6 N) (c := sub (bodyOf Try.f47) [1, 0, 1, 0, 0]) (by kernel_rfl) (by kernel_rfl) (fun u h _ => oku0_train_first__rulebook_train_place_6 N u h) (fun x => rfl) (fun n x => by kernel_rfl) n
noncomputable def utrain_first__rulebook_train_place_6_0 (N : Nat) : List (Pc D) := Ptrain_first__rulebook_train_place_6_0.pc (X50 N) (Ftrain_first__rulebook_train_place_6_0 N N) :: u0_train_first__rulebook_train_place_6 N
theorem okutrain_first__rulebook_train_place_6_0 (N : Nat) : ∀ u ∈ utrain_first__rulebook_train_place_6_0 N, PcOk (X50 N) (bodyOf Try.f47) u := pc_cons ((ctrain_first__rulebook_train_place_6_0 N N).pc (by kernel_rfl)) (oku0_train_first__rulebook_train_place_6 N)
noncomputable def dtrain_first__rulebook_train_place_6 : FD D := { f := 47, np := 2, ins := [.v 0 (.agg 63), .v 1 (.fn 52 [32])], fx := [], rcv := none, rk := 0, outs := [.v 4 (.int .i64)], ofx := [], rvs := [.tmp 4], flat := true }
noncomputable def Ftrain_first__rulebook_train_place_6 (N : Nat) : dtrain_first__rulebook_train_place_6.F := fun r x => train_first__rulebook_train_place_6 N x.1 x.2.1.1
theorem otrain_first__rulebook_train_place_6 (N : Nat) : FOk Try.prog (X50 N) dtrain_first__rulebook_train_place_6 (Ftrain_first__rulebook_train_place_6 N) := ⟨⟨Try.f47, _, Try.func47, rfl, by kernel_rfl, by kernel_rfl, rfl, FC.of (cok50 N) (us := utrain_first__rulebook_train_place_6_0 N) (fun u h _ => okutrain_first__rulebook_train_place_6_0 N u h) (fun r x => by kernel_rfl)⟩, by kernel_rfl, by kernel_rfl, by kernel_rfl, by kernel_rfl⟩
noncomputable def fs51 (N : Nat) : List (FE D) := ⟨dtrain_first__rulebook_train_place_6, Ftrain_first__rulebook_train_place_6 N⟩ :: fs50 N
theorem all51 (N : Nat) : ∀ y ∈ fs51 N, CallOk X0 y.d y.F := all_cons (x := ⟨dtrain_first__rulebook_train_place_6, Ftrain_first__rulebook_train_place_6 N⟩) (otrain_first__rulebook_train_place_6 N) (all50 N)
noncomputable def X51 (N : Nat) : Ev Try.prog D := X0.with (fs51 N)
theorem cok51 (N : Nat) : COk (X51 N) := COk.of (all51 N)
/-! ### (humpyard/rulebook.train).behind -/
noncomputable def u0_train_behind (N : Nat) : List (Pc D) := []
theorem oku0_train_behind (N : Nat) : ∀ u ∈ u0_train_behind N, PcOk (X51 N) (bodyOf Try.f54) u := pc_nil
noncomputable def Ptrain_behind_0 : PD D := { path := [1, 1, 0, 1, 0], ins := [.v 5 (.int .i64), .v 12 (.sl 36), .v 13 (.int .i64), .v 14 (.int .i64)], fx := [], ks := [], exs := [⟨.exit 0, [.v 5 (.int .i64)], []⟩], keep := [] }
noncomputable def Ftrain_behind_0 (N n : Nat) : Ptrain_behind_0.F := fun x => train_behind_0 N x.2.1 x.2.2.1 n x.1 x.2.2.2.1
theorem ctrain_behind_0 (N n : Nat) : CC (X51 N) (bodyOf Try.f54) Ptrain_behind_0 (Ftrain_behind_0 N n) := CC.loop (cok51 N) (us := u0_train_behind N) (c := sub (bodyOf Try.f54) [1, 1, 0, 1, 0, 0]) (by kernel_rfl) (by kernel_rfl) (fun u h _ => oku0_train_behind N u h) (fun x => rfl) (fun n x => by kernel_rfl) n
noncomputable def utrain_behind_0 (N : Nat) : List (Pc D) := Ptrain_behind_0.pc (X51 N) (Ftrain_behind_0 N N) :: u0_train_behind N
theorem okutrain_behind_0 (N : Nat) : ∀ u ∈ utrain_behind_0 N, PcOk (X51 N) (bodyOf Try.f54) u := pc_cons ((ctrain_behind_0 N N).pc (by kernel_rfl)) (oku0_train_behind N)
noncomputable def dtrain_behind : FD D := { f := 54, np := 2, ins := [.v 0 (.agg 63), .v 1 (.int .i64)], fx := [], rcv := none, rk := 0, outs := [.v 4 (.int .i64)], ofx := [], rvs := [.tmp 4], flat := true }
noncomputable def Ftrain_behind (N : Nat) : dtrain_behind.F := fun r x => train_behind N x.1 x.2.1
theorem otrain_behind (N : Nat) : FOk Try.prog (X51 N) dtrain_behind (Ftrain_behind N) := ⟨⟨Try.f54, _, Try.func54, rfl, by kernel_rfl, by kernel_rfl, rfl, FC.of (cok51 N) (us := utrain_behind_0 N) (fun u h _ => okutrain_behind_0 N u h) (fun r x => by kernel_rfl)⟩, by kernel_rfl, by kernel_rfl, by kernel_rfl, by kernel_rfl⟩
noncomputable def fs52 (N : Nat) : List (FE D) := ⟨dtrain_behind, Ftrain_behind N⟩ :: fs51 N
theorem all52 (N : Nat) : ∀ y ∈ fs52 N, CallOk X0 y.d y.F := all_cons (x := ⟨dtrain_behind, Ftrain_behind N⟩) (otrain_behind N) (all51 N)
noncomputable def X52 (N : Nat) : Ev Try.prog D := X0.with (fs52 N)
theorem cok52 (N : Nat) : COk (X52 N) := COk.of (all52 N)
/-! ### (humpyard/rulebook.train).place$7 -/
noncomputable def u0_rulebook_train_place_7 (N : Nat) : List (Pc D) := []
theorem oku0_rulebook_train_place_7 (N : Nat) : ∀ u ∈ u0_rulebook_train_place_7 N, PcOk (X52 N) (bodyOf Try.f53) u := pc_nil
noncomputable def Prulebook_train_place_7_0 : PD D := { path := [1, 0], ins := [.v 0 (.int .i64), .v 2 (.rp 32), .v 3 (.rp 63), .o 5 (.box 36)], fx := [(5, .box 0 0)], ks := [1], exs := [⟨.normal, [.v 6 .bool], []⟩], keep := [] }
noncomputable def Frulebook_train_place_7_0 (N : Nat) : Prulebook_train_place_7_0.F := fun x => rulebook_train_place_7_0 N x.1 x.2.1 x.2.2.1 x.2.2.2.1
theorem crulebook_train_place_7_0 (N : Nat) : CC (X52 N) (bodyOf Try.f53) Prulebook_train_place_7_0 (Frulebook_train_place_7_0 N) := CC.of (cok52 N) (us := u0_rulebook_train_place_7 N) (fun u h _ => oku0_rulebook_train_place_7 N u h) (fun x => by kernel_rfl)
noncomputable def urulebook_train_place_7_0 (N : Nat) : List (Pc D) := Prulebook_train_place_7_0.pc (X52 N) (Frulebook_train_place_7_0 N) :: u0_rulebook_train_place_7 N
theorem okurulebook_train_place_7_0 (N : Nat) : ∀ u ∈ urulebook_train_place_7_0 N, PcOk (X52 N) (bodyOf Try.f53) u := pc_cons ((crulebook_train_place_7_0 N).pc (by kernel_rfl)) (oku0_rulebook_train_place_7 N)
noncomputable def drulebook_train_place_7 : FD D := { f := 53, np := 4, ins := [.v 0 (.int .i64), .v 1 (.agg 36), .v 2 (.rp 32), .v 3 (.rp 63)], fx := [], rcv := none, rk := 0, outs := [.v 6 .bool], ofx := [], rvs := [.tmp 6], flat := true }
noncomputable def Frulebook_train_place_7 (N : Nat) : drulebook_train_place_7.F := fun r x => rulebook_train_place_7 N x.1 x.2.1 x.2.2.1 x.2.2.2.1
theorem orulebook_train_place_7 (N : Nat) : FOk Try.prog (X52 N) drulebook_train_place_7 (Frulebook_train_place_7 N) := ⟨⟨Try.f53, _, Try.func53, rfl, by kernel_rfl, by kernel_rfl, rfl, FC.of (cok52 N) (us := urulebook_train_place_7_0 N) (fun u h _ => okurulebook_train_place_7_0 N u h) (fun r x => by kernel_rfl)⟩, by kernel_rfl, by kernel_rfl, by kernel_rfl, by kernel_rfl⟩
noncomputable def fs53 (N : Nat) : List (FE D) := ⟨drulebook_train_place_7, Frulebook_train_place_7 N⟩ :: fs52 N
theorem all53 (N : Nat) : ∀ y ∈ fs53 N, CallOk X0 y.d y.F := all_cons (x := ⟨drulebook_train_place_7, Frulebook_train_place_7 N⟩) (orulebook_train_place_7 N) (all52 N)
noncomputable def X53 (N : Nat) : Ev Try.prog D := X0.with (fs53 N)
theorem cok53 (N : Nat) : COk (X53 N) := COk.of (all53 N)
/-! ### (humpyard/rulebook.train).first -/
noncomputable def u0_train_first__rulebook_train_place_7 (N : Nat) : List (Pc D) := []
theorem oku0_train_first__rulebook_train_place_7 (N : Nat) : ∀ u ∈ u0_train_first__rulebook_train_place_7 N, PcOk (X53 N) (bodyOf Try.f47) u := pc_nil
noncomputable def Ptrain_first__rulebook_train_place_7_0 : PD D := { path := [1, 0, 1, 0], ins := [.v 1 (.fn 53 [32, 63]), .v 8 (.sl 36), .v 9 (.int .i64), .v 10 (.int .i64)], fx := [], ks := [], exs := [⟨.exit 0, [], []⟩, ⟨.ret, [.v 4 (.int .i64)], []⟩], keep := [] }
noncomputable def Ftrain_first__rulebook_train_place_7_0 (N n : Nat) : Ptrain_first__rulebook_train_place_7_0.F := fun x => train_first__rulebook_train_place_7_0 N (x.1.1, x.1.2.1) x.2.1 x.2.2.1 n x.2.2.2.1
theorem ctrain_first__rulebook_train_place_7_0 (N n : Nat) : CC (X53 N) (bodyOf Try.f47) Ptrain_first__rulebook_train_place_7_0 (Ftrain_first__rulebook_train_place_7_0 N n) := CC.loop (cok53 N) (us := u0_train_first__rulebook_train_place_7 N) (c := sub (bodyOf Try.f47) [1, 0, 1, 0, 0]) (by kernel_rfl) (by kernel_rfl) (fun u h _ => oku0_train_first__rulebook_train_place_7 N u h) (fun x => rfl) (fun n x => by kernel_rfl) n
noncomputable def utrain_first__rulebook_train_place_7_0 (N : Nat) : List (Pc D) := Ptrain_first__rulebook_train_place_7_0.pc (X53 N) (Ftrain_first__rulebook_train_place_7_0 N N) :: u0_train_first__rulebook_train_place_7 N
theorem okutrain_first__rulebook_train_place_7_0 (N : Nat) : ∀ u ∈ utrain_first__rulebook_train_place_7_0 N, PcOk (X53 N) (bodyOf Try.f47) u := pc_cons ((ctrain_first__rulebook_train_place_7_0 N N).pc (by kernel_rfl)) (oku0_train_first__rulebook_train_place_7 N)
noncomputable def dtrain_first__rulebook_train_place_7 : FD D := { f := 47, np := 2, ins := [.v 0 (.agg 63), .v 1 (.fn 53 [32, 63])], fx := [], rcv := none, rk := 0, outs := [.v 4 (.int .i64)], ofx := [], rvs := [.tmp 4], flat := true }
noncomputable def Ftrain_first__rulebook_train_place_7 (N : Nat) : dtrain_first__rulebook_train_place_7.F := fun r x => train_first__rulebook_train_place_7 N x.1 (x.2.1.1, x.2.1.2.1)
theorem otrain_first__rulebook_train_place_7 (N : Nat) : FOk Try.prog (X53 N) dtrain_first__rulebook_train_place_7 (Ftrain_first__rulebook_train_place_7 N) := ⟨⟨Try.f47, _, Try.func47, rfl, by kernel_rfl, by kernel_rfl, rfl, FC.of (cok53 N) (us := utrain_first__rulebook_train_place_7_0 N) (fun u h _ => okutrain_first__rulebook_train_place_7_0 N u h) (fun r x => by kernel_rfl)⟩, by kernel_rfl, by kernel_rfl, by kernel_rfl, by kernel_rfl⟩
noncomputable def fs54 (N : Nat) : List (FE D) := ⟨dtrain_first__rulebook_train_place_7, Ftrain_first__rulebook_train_place_7 N⟩ :: fs53 N
theorem all54 (N : Nat) : ∀ y ∈ fs54 N, CallOk X0 y.d y.F := all_cons (x := ⟨dtrain_first__rulebook_train_place_7, Ftrain_first__rulebook_train_place_7 N⟩) (otrain_first__rulebook_train_place_7 N) (all53 N)
noncomputable def X54 (N : Nat) : Ev Try.prog D := X0.with (fs54 N)
theorem cok54 (N : Nat) : COk (X54 N) := COk.of (all54 N)
/-! ### (humpyard/rulebook.train).place -/
noncomputable def u0_train_place (N : Nat) : List (Pc D) := []
theorem oku0_train_place (N : Nat) : ∀ u ∈ u0_train_place N, PcOk (X54 N) (bodyOf Try.f30) u := pc_nil
noncomputable def Ptrain_place_0 : PD D := { path := [1, 0, 1, 0, 1, 1, 1, 1, 1, 1, 1, 0, 0], ins := [.o 2 (.box 63), .o 3 (.box 32)], fx := [(2, .box 0 0), (3, .box 1 0)], ks := [1, 1], exs := [⟨.normal, [.v 4 (.int .i64)], []⟩], keep := [] }
noncomputable def Ftrain_place_0 (N : Nat) : Ptrain_place_0.F := fun x => train_place_0 N x.1 x.2.1
theorem ctrain_place_0 (N : Nat) : CC (X54 N) (bodyOf Try.f30) Ptrain_place_0 (Ftrain_place_0 N) := CC.of (cok54 N) (us := u0_train_place N) (fun u h _ => oku0_train_place N u h) (fun x => by kernel_rfl)
noncomputable def utrain_place_0 (N : Nat) : List (Pc D) := Ptrain_place_0.pc (X54 N) (Ftrain_place_0 N) :: u0_train_place N
theorem okutrain_place_0 (N : Nat) : ∀ u ∈ utrain_place_0 N, PcOk (X54 N) (bodyOf Try.f30) u := pc_cons ((ctrain_place_0 N).pc (by kernel_rfl)) (oku0_train_place N)
noncomputable def dtrain_place : FD D := { f := 30, np := 2, ins := [.v 0 (.agg 63), .v 1 (.agg 32)], fx := [], rcv := none, rk := 0, outs := [.v 4 (.int .i64)], ofx := [], rvs := [.tmp 4], flat := true }
noncomputable def Ftrain_place (N : Nat) : dtrain_place.F := fun r x => train_place N x.1 x.2.1
theorem otrain_place (N : Nat) : FOk Try.prog (X54 N) dtrain_place (Ftrain_place N) := ⟨⟨Try.f30, _, Try.func30, rfl, by kernel_rfl, by kernel_rfl, rfl, FC.of (cok54 N) (us := utrain_place_0 N) (fun u h _ => okutrain_place_0 N u h) (fun r x => by kernel_rfl)⟩, by kernel_rfl, by kernel_rfl, by kernel_rfl, by kernel_rfl⟩
noncomputable def fs55 (N : Nat) : List (FE D) := ⟨dtrain_place, Ftrain_place N⟩ :: fs54 N
theorem all55 (N : Nat) : ∀ y ∈ fs55 N, CallOk X0 y.d y.F := all_cons (x := ⟨dtrain_place, Ftrain_place N⟩) (otrain_place N) (all54 N)
noncomputable def X55 (N : Nat) : Ev Try.prog D := X0.with (fs55 N)
theorem cok55 (N : Nat) : COk (X55 N) := COk.of (all55 N)
/-! ### humpyard/rulebook.Check -/
noncomputable def u0_rulebook_Check (N : Nat) : List (Pc D) := []
theorem oku0_rulebook_Check (N : Nat) : ∀ u ∈ u0_rulebook_Check N, PcOk (X55 N) (bodyOf Try.f18) u := pc_nil
noncomputable def Prulebook_Check_0 : PD D := { path := [1, 1, 1, 1, 1, 0, 1, 0], ins := [.o 10 (.box 63), .v 31 (.sl 32), .v 32 (.int .i64), .v 33 (.int .i64)], fx := [(10, .box 0 0)], ks := [1], exs := [⟨.exit 0, [], []⟩, ⟨.ret, [.v 6 (.int .i64), .v 7 (.int .i64), .v 8 (.int .i64)], []⟩], keep := [] }
noncomputable def Frulebook_Check_0 (N n : Nat) : Prulebook_Check_0.F := fun x => rulebook_Check_0 N x.1 x.2.1 x.2.2.1 n x.2.2.2.1
theorem crulebook_Check_0 (N n : Nat) : CC (X55 N) (bodyOf Try.f18) Prulebook_Check_0 (Frulebook_Check_0 N n) := CC.loop (cok55 N) (us := u0_rulebook_Check N) (c := sub (bodyOf Try.f18) [1, 1, 1, 1, 1, 0, 1, 0, 0]) (by kernel_rfl) (by kernel_rfl) (fun u h _ => oku0_rulebook_Check N u h) (fun x => rfl) (fun n x => by kernel_rfl) n
noncomputable def urulebook_Check_0 (N : Nat) : List (Pc D) := Prulebook_Check_0.pc (X55 N) (Frulebook_Check_0 N N) :: u0_rulebook_Check N
theorem okurulebook_Check_0 (N : Nat) : ∀ u ∈ urulebook_Check_0 N, PcOk (X55 N) (bodyOf Try.f18) u := pc_cons ((crulebook_Check_0 N N).pc (by kernel_rfl)) (oku0_rulebook_Check N)
noncomputable def drulebook_Check : FD D := { f := 18, np := 3, ins := [.v 0 (.sl 32), .v 1 (.sl 36), .v 2 (.sl 3)], fx := [], rcv := none, rk := 0, outs := [.v 6 (.int .i64), .v 7 (.int .i64), .v 8 (.int .i64)], ofx := [], rvs := [.tmp 6, .tmp 7, .tmp 8], flat := true }
noncomputable def Frulebook_Check (N : Nat) : drulebook_Check.F := fun r x => rulebook_Check N x.1 x.2.1 x.2.2.1
theorem orulebook_Check (N : Nat) : FOk Try.prog (X55 N) drulebook_Check (Frulebook_Check N) := ⟨⟨Try.f18, _, Try.func18, rfl, by kernel_rfl, by kernel_rfl, rfl, FC.of (cok55 N) (us := urulebook_Check_0 N) (fun u h _ => okurulebook_Check_0 N u h) (fun r x => by kernel_rfl)⟩, by kernel_rfl, by kernel_rfl, by kernel_rfl, by kernel_rfl⟩
noncomputable def fs56 (N : Nat) : List (FE D) := ⟨drulebook_Check, Frulebook_Check N⟩ :: fs55 N
theorem all56 (N : Nat) : ∀ y ∈ fs56 N, CallOk X0 y.d y.F := all_cons (x := ⟨drulebook_Check, Frulebook_Check N⟩) (orulebook_Check N) (all55 N)
noncomputable def X56 (N : Nat) : Ev Try.prog D := X0.with (fs56 N)
theorem cok56 (N : Nat) : COk (X56 N) := COk.of (all56 N)
/-! ### humpyard/humpyardref36.valid -/
noncomputable def u0_r36_valid (N : Nat) : List (Pc D) := []
theorem oku0_r36_valid (N : Nat) : ∀ u ∈ u0_r36_valid N, PcOk (X56 N) (bodyOf Try.f36) u := pc_nil
noncomputable def Pr36_valid_0 : PD D := { path := [1, 0, 0], ins := [.o 1 (.box 32)], fx := [(1, .box 0 0)], ks := [1], exs := [⟨.normal, [.v 20 .bool], []⟩], keep := [1] }
noncomputable def Fr36_valid_0 (N : Nat) : Pr36_valid_0.F := fun x => r36_valid_0 N x.1
theorem cr36_valid_0 (N : Nat) : CC (X56 N) (bodyOf Try.f36) Pr36_valid_0 (Fr36_valid_0 N) := CC.of (cok56 N) (us := u0_r36_valid N) (fun u h _ => oku0_r36_valid N u h) (fun x => by kernel_rfl)
noncomputable def ur36_valid_0 (N : Nat) : List (Pc D) := Pr36_valid_0.pc (X56 N) (Fr36_valid_0 N) :: u0_r36_valid N
theorem okur36_valid_0 (N : Nat) : ∀ u ∈ ur36_valid_0 N, PcOk (X56 N) (bodyOf Try.f36) u := pc_cons ((cr36_valid_0 N).pc (by kernel_rfl)) (oku0_r36_valid N)
noncomputable def Pr36_valid_1 : PD D := { path := [1, 1, 0], ins := [.o 1 (.box 32)], fx := [(1, .box 0 0)], ks := [1], exs := [⟨.normal, [.v 2 .bool], []⟩], keep := [] }
noncomputable def Fr36_valid_1 (N : Nat) : Pr36_valid_1.F := fun x => r36_valid_1 N x.1
theorem cr36_valid_1 (N : Nat) : CC (X56 N) (bodyOf Try.f36) Pr36_valid_1 (Fr36_valid_1 N) := CC.of (cok56 N) (us := ur36_valid_0 N) (fun u h _ => okur36_valid_0 N u h) (fun x => by kernel_rfl)
noncomputable def ur36_valid_1 (N : Nat) : List (Pc D) := Pr36_valid_1.pc (X56 N) (Fr36_valid_1 N) :: ur36_valid_0 N
theorem okur36_valid_1 (N : Nat) : ∀ u ∈ ur36_valid_1 N, PcOk (X56 N) (bodyOf Try.f36) u := pc_cons ((cr36_valid_1 N).pc (by kernel_rfl)) (okur36_valid_0 N)
noncomputable def dr36_valid : FD D := { f := 36, np := 1, ins := [.v 0 (.agg 32)], fx := [], rcv := none, rk := 0, outs := [.v 2 .bool], ofx := [], rvs := [.tmp 2], flat := true }
noncomputable def Fr36_valid (N : Nat) : dr36_valid.F := fun r x => r36_valid N x.1
theorem or36_valid (N : Nat) : FOk Try.prog (X56 N) dr36_valid (Fr36_valid N) := ⟨⟨Try.f36, _, Try.func36, rfl, by kernel_rfl, by kernel_rfl, rfl, FC.of (cok56 N) (us := ur36_valid_1 N) (fun u h _ => okur36_valid_1 N u h) (fun r x => by kernel_rfl)⟩, by kernel_rfl, by kernel_rfl, by kernel_rfl, by kernel_rfl⟩
noncomputable def fs57 (N : Nat) : List (FE D) := ⟨dr36_valid, Fr36_valid N⟩ :: fs56 N
theorem all57 (N : Nat) : ∀ y ∈ fs57 N, CallOk X0 y.d y.F := all_cons (x := ⟨dr36_valid, Fr36_valid N⟩) (or36_valid N) (all56 N)
noncomputable def X57 (N : Nat) : Ev Try.prog D := X0.with (fs57 N)
theorem cok57 (N : Nat) : COk (X57 N) := COk.of (all57 N)
/-! ### humpyard/humpyardref36.Valid -/
noncomputable def u0_r36_Valid (N : Nat) : List (Pc D) := []
theorem oku0_r36_Valid (N : Nat) : ∀ u ∈ u0_r36_Valid N, PcOk (X57 N) (bodyOf Try.f27) u := pc_nil
noncomputable def Pr36_Valid_1 : PD D := { path := [1, 1, 0, 1, 0, 0, 1, 0, 0, 1, 1, 0], ins := [.v 0 (.sl 32), .v 3 (.int .i64), .v 4 (.int .i64)], fx := [], ks := [], exs := [⟨.exit 2, [], []⟩, ⟨.ret, [.v 2 (.int .i64)], []⟩], keep := [0, 3] }
noncomputable def Fr36_Valid_1 (N n : Nat) : Pr36_Valid_1.F := fun x => r36_Valid_1 N x.1 x.2.1 n x.2.2.1
theorem cr36_Valid_1 (N n : Nat) : CC (X57 N) (bodyOf Try.f27) Pr36_Valid_1 (Fr36_Valid_1 N n) := CC.loop (cok57 N) (us := u0_r36_Valid N) (c := sub (bodyOf Try.f27) [1, 1, 0, 1, 0, 0, 1, 0, 0, 1, 1, 0, 0]) (by kernel_rfl) (by kernel_rfl) (fun u h _ => oku0_r36_Valid N u h) (fun x => rfl) (fun n x => by kernel_rfl) n
noncomputable def ur36_Valid_1 (N : Nat) : List (Pc D) := Pr36_Valid_1.pc (X57 N) (Fr36_Valid_1 N N) :: u0_r36_Valid N
theorem okur36_Valid_1 (N : Nat) : ∀ u ∈ ur36_Valid_1 N, PcOk (X57 N) (bodyOf Try.f27) u := pc_cons ((cr36_Valid_1 N N).pc (by kernel_rfl)) (oku0_r36_Valid N)
noncomputable def Pr36_Valid_0 : PD D := { path := [1, 1, 0, 1, 0], ins := [.v 0 (.sl 32), .v 3 (.int .i64)], fx := [], ks := [], exs := [⟨.exit 0, [], []⟩, ⟨.ret, [.v 2 (.int .i64)], []⟩], keep := [] }
noncomputable def Fr36_Valid_0 (N n : Nat) : Pr36_Valid_0.F := fun x => r36_Valid_0 N x.1 n x.2.1
theorem cr36_Valid_0 (N n : Nat) : CC (X57 N) (bodyOf Try.f27) Pr36_Valid_0 (Fr36_Valid_0 N n) := CC.loop (cok57 N) (us := ur36_Valid_1 N) (c := sub (bodyOf Try.f27) [1, 1, 0, 1, 0, 0]) (by kernel_rfl) (by kernel_rfl) (fun u h _ => okur36_Valid_1 N u h) (fun x => rfl) (fun n x => by kernel_rfl) n
noncomputable def ur36_Valid_0 (N : Nat) : List (Pc D) := Pr36_Valid_0.pc (X57 N) (Fr36_Valid_0 N N) :: ur36_Valid_1 N
theorem okur36_Valid_0 (N : Nat) : ∀ u ∈ ur36_Valid_0 N, PcOk (X57 N) (bodyOf Try.f27) u := pc_cons ((cr36_Valid_0 N N).pc (by kernel_rfl)) (okur36_Valid_1 N)
noncomputable def dr36_Valid : FD D := { f := 27, np := 1, ins := [.v 0 (.sl 32)], fx := [], rcv := none, rk := 0, outs := [.v 2 (.int .i64)], ofx := [], rvs := [.tmp 2], flat := true }
noncomputable def Fr36_Valid (N : Nat) : dr36_Valid.F := fun r x => r36_Valid N x.1
theorem or36_Valid (N : Nat) : FOk Try.prog (X57 N) dr36_Valid (Fr36_Valid N) := ⟨⟨Try.f27, _, Try.func27, rfl, by kernel_rfl, by kernel_rfl, rfl, FC.of (cok57 N) (us := ur36_Valid_0 N) (fun u h _ => okur36_Valid_0 N u h) (fun r x => by kernel_rfl)⟩, by kernel_rfl, by kernel_rfl, by kernel_rfl, by kernel_rfl⟩
noncomputable def fs58 (N : Nat) : List (FE D) := ⟨dr36_Valid, Fr36_Valid N⟩ :: fs57 N
theorem all58 (N : Nat) : ∀ y ∈ fs58 N, CallOk X0 y.d y.F := all_cons (x := ⟨dr36_Valid, Fr36_Valid N⟩) (or36_Valid N) (all57 N)
noncomputable def X58 (N : Nat) : Ev Try.prog D := X0.with (fs58 N)
theorem cok58 (N : Nat) : COk (X58 N) := COk.of (all58 N)
/-! ### humpyard/humpyardref02.Valid -/
noncomputable def u0_r02_Valid (N : Nat) : List (Pc D) := []
theorem oku0_r02_Valid (N : Nat) : ∀ u ∈ u0_r02_Valid N, PcOk (X58 N) (bodyOf Try.f78) u := pc_nil
noncomputable def dr02_Valid : FD D := { f := 78, np := 1, ins := [.v 0 .str], fx := [], rcv := none, rk := 0, outs := [.v 2 (.int .i64)], ofx := [], rvs := [.tmp 2], flat := true }
noncomputable def Fr02_Valid (N : Nat) : dr02_Valid.F := fun r x => r02_Valid N x.1
theorem or02_Valid (N : Nat) : FOk Try.prog (X58 N) dr02_Valid (Fr02_Valid N) := ⟨⟨Try.f78, _, Try.func78, rfl, by kernel_rfl, by kernel_rfl, rfl, FC.of (cok58 N) (us := u0_r02_Valid N) (fun u h _ => oku0_r02_Valid N u h) (fun r x => by kernel_rfl)⟩, by kernel_rfl, by kernel_rfl, by kernel_rfl, by kernel_rfl⟩
noncomputable def fs59 (N : Nat) : List (FE D) := ⟨dr02_Valid, Fr02_Valid N⟩ :: fs58 N
theorem all59 (N : Nat) : ∀ y ∈ fs59 N, CallOk X0 y.d y.F := all_cons (x := ⟨dr02_Valid, Fr02_Valid N⟩) (or02_Valid N) (all58 N)
noncomputable def X59 (N : Nat) : Ev Try.prog D := X0.with (fs59 N)
theorem cok59 (N : Nat) : COk (X59 N) := COk.of (all59 N)
/-! ### humpyard/humpyardref02.Kind -/
noncomputable def u0_r02_Kind (N : Nat) : List (Pc D) := []
theorem oku0_r02_Kind (N : Nat) : ∀ u ∈ u0_r02_Kind N, PcOk (X59 N) (bodyOf Try.f75) u := pc_nil
noncomputable def Pr02_Kind_0 : PD D := { path := [1, 1, 0, 1, 0, 0, 1], ins := [.v 11 (.int .u8), .v 12 .bool], fx := [], ks := [], exs := [⟨.normal, [.v 12 .bool], []⟩], keep := [11] }
noncomputable def Fr02_Kind_0 (N : Nat) : Pr02_Kind_0.F := fun x => r02_Kind_0 N x.1 x.2.1
theorem cr02_Kind_0 (N : Nat) : CC (X59 N) (bodyOf Try.f75) Pr02_Kind_0 (Fr02_Kind_0 N) := CC.of (cok59 N) (us := u0_r02_Kind N) (fun u h _ => oku0_r02_Kind N u h) (fun x => by kernel_rfl)
noncomputable def ur02_Kind_0 (N : Nat) : List (Pc D) := Pr02_Kind_0.pc (X59 N) (Fr02_Kind_0 N) :: u0_r02_Kind N
theorem okur02_Kind_0 (N : Nat) : ∀ u ∈ ur02_Kind_0 N, PcOk (X59 N) (bodyOf Try.f75) u := pc_cons ((cr02_Kind_0 N).pc (by kernel_rfl)) (oku0_r02_Kind N)
noncomputable def Pr02_Kind_1 : PD D := { path := [1, 1, 0, 1, 0, 1, 1, 0, 1], ins := [.v 11 (.int .u8), .v 15 .bool], fx := [], ks := [], exs := [⟨.normal, [.v 15 .bool], []⟩], keep := [11] }
noncomputable def Fr02_Kind_1 (N : Nat) : Pr02_Kind_1.F := fun x => r02_Kind_1 N x.1 x.2.1
theorem cr02_Kind_1 (N : Nat) : CC (X59 N) (bodyOf Try.f75) Pr02_Kind_1 (Fr02_Kind_1 N) := CC.of (cok59 N) (us := ur02_Kind_0 N) (fun u h _ => okur02_Kind_0 N u h) (fun x => by kernel_rfl)
noncomputable def ur02_Kind_1 (N : Nat) : List (Pc D) := Pr02_Kind_1.pc (X59 N) (Fr02_Kind_1 N) :: ur02_Kind_0 N
theorem okur02_Kind_1 (N : Nat) : ∀ u ∈ ur02_Kind_1 N, PcOk (X59 N) (bodyOf Try.f75) u := pc_cons ((cr02_Kind_1 N).pc (by kernel_rfl)) (okur02_Kind_0 N)
noncomputable def dr02_Kind : FD D := { f := 75, np := 1, ins := [.v 0 .str], fx := [], rcv := none, rk := 0, outs := [.v 2 (.int .i64), .v 3 (.int .i64)], ofx := [], rvs := [.tmp 2, .tmp 3], flat := true }
noncomputable def Fr02_Kind (N : Nat) : dr02_Kind.F := fun r x => r02_Kind N x.1
theorem or02_Kind (N : Nat) : FOk Try.prog (X59 N) dr02_Kind (Fr02_Kind N) := ⟨⟨Try.f75, _, Try.func75, rfl, by kernel_rfl, by kernel_rfl, rfl, FC.of (cok59 N) (us := ur02_Kind_1 N) (fun u h _ => okur02_Kind_1 N u h) (fun r x => by kernel_rfl)⟩, by kernel_rfl, by kernel_rfl, by kernel_rfl, by kernel_rfl⟩
noncomputable def fs60 (N : Nat) : List (FE D) := ⟨dr02_Kind, Fr02_Kind N⟩ :: fs59 N
theorem all60 (N : Nat) : ∀ y ∈ fs60 N, CallOk X0 y.d y.F := all_cons (x := ⟨dr02_Kind, Fr02_Kind N⟩) (or02_Kind N) (all59 N)
noncomputable def X60 (N : Nat) : Ev Try.prog D := X0.with (fs60 N)
theorem cok60 (N : Nat) : COk (X60 N) := COk.of (all60 N)
/-! ### humpyard/humpyardref06.Name -/
noncomputable def u0_r06_Name (N : Nat) : List (Pc D) := []
theorem oku0_r06_Name (N : Nat) : ∀ u ∈ u0_r06_Name N, PcOk (X60 N) (bodyOf Try.f76) u := pc_nil
noncomputable def Pr06_Name_1 : PD D := { path := [1, 0, 1, 0, 0, 1, 0, 0, 0], ins := [.v 0 .str, .v 3 (.int .i64)], fx := [], ks := [], exs := [⟨.normal, [.v 32 .bool], []⟩], keep := [0, 3] }
noncomputable def Fr06_Name_1 (N : Nat) : Pr06_Name_1.F := fun x => r06_Name_1 N x.1 x.2.1
theorem cr06_Name_1 (N : Nat) : CC (X60 N) (bodyOf Try.f76) Pr06_Name_1 (Fr06_Name_1 N) := CC.of (cok60 N) (us := u0_r06_Name N) (fun u h _ => oku0_r06_Name N u h) (fun x => by kernel_rfl)
noncomputable def ur06_Name_1 (N : Nat) : List (Pc D) := Pr06_Name_1.pc (X60 N) (Fr06_Name_1 N) :: u0_r06_Name N
theorem okur06_Name_1 (N : Nat) : ∀ u ∈ ur06_Name_1 N, PcOk (X60 N) (bodyOf Try.f76) u := pc_cons ((cr06_Name_1 N).pc (by kernel_rfl)) (oku0_r06_Name N)
noncomputable def Pr06_Name_0 : PD D := { path := [1, 0, 1, 0], ins := [.v 0 .str, .v 3 (.int .i64)], fx := [], ks := [], exs := [⟨.exit 0, [], []⟩, ⟨.ret, [.v 2 .bool], []⟩], keep := [0] }
noncomputable def Fr06_Name_0 (N n : Nat) : Pr06_Name_0.F := fun x => r06_Name_0 N x.1 n x.2.1
theorem cr06_Name_0 (N n : Nat) : CC (X60 N) (bodyOf Try.f76) Pr06_Name_0 (Fr06_Name_0 N n) := CC.loop (cok60 N) (us := ur06_Name_1 N) (c := sub (bodyOf Try.f76) [1, 0, 1, 0, 0]) (by kernel_rfl) (by kernel_rfl) (fun u h _ => okur06_Name_1 N u h) (fun x => rfl) (fun n x => by kernel_rfl) n
noncomputable def ur06_Name_0 (N : Nat) : List (Pc D) := Pr06_Name_0.pc (X60 N) (Fr06_Name_0 N N) :: ur06_Name_1 N
theorem okur06_Name_0 (N : Nat) : ∀ u ∈ ur06_Name_0 N, PcOk (X60 N) (bodyOf Try.f76) u := pc_cons ((cr06_Name_0 N N).pc (by kernel_rfl)) (okur06_Name_1 N)
noncomputable def Pr06_Name_2 : PD D := { path := [1, 1, 0], ins := [.v 0 .str], fx := [], ks := [], exs := [⟨.normal, [.v 2 .bool], []⟩], keep := [] }
noncomputable def Fr06_Name_2 (N : Nat) : Pr06_Name_2.F := fun x => r06_Name_2 N x.1
theorem cr06_Name_2 (N : Nat) : CC (X60 N) (bodyOf Try.f76) Pr06_Name_2 (Fr06_Name_2 N) := CC.of (cok60 N) (us := ur06_Name_0 N) (fun u h _ => okur06_Name_0 N u h) (fun x => by kernel_rfl)
noncomputable def ur06_Name_2 (N : Nat) : List (Pc D) := Pr06_Name_2.pc (X60 N) (Fr06_Name_2 N) :: ur06_Name_0 N
theorem okur06_Name_2 (N : Nat) : ∀ u ∈ ur06_Name_2 N, PcOk (X60 N) (bodyOf Try.f76) u := pc_cons ((cr06_Name_2 N).pc (by kernel_rfl)) (okur06_Name_0 N)
noncomputable def dr06_Name : FD D := { f := 76, np := 1, ins := [.v 0 .str], fx := [], rcv := none, rk := 0, outs := [.v 2 .bool], ofx := [], rvs := [.tmp 2], flat := true }
noncomputable def Fr06_Name (N : Nat) : dr06_Name.F := fun r x => r06_Name N x.1
theorem or06_Name (N : Nat) : FOk Try.prog (X60 N) dr06_Name (Fr06_Name N) := ⟨⟨Try.f76, _, Try.func76, rfl, by kernel_rfl, by kernel_rfl, rfl, FC.of (cok60 N) (us := ur06_Name_2 N) (fun u h _ => okur06_Name_2 N u h) (fun r x => by kernel_rfl)⟩, by kernel_rfl, by kernel_rfl, by kernel_rfl, by kernel_rfl⟩
noncomputable def fs61 (N : Nat) : List (FE D) := ⟨dr06_Name, Fr06_Name N⟩ :: fs60 N
theorem all61 (N : Nat) : ∀ y ∈ fs61 N, CallOk X0 y.d y.F := all_cons (x := ⟨dr06_Name, Fr06_Name N⟩) (or06_Name N) (all60 N)
noncomputable def X61 (N : Nat) : Ev Try.prog D := X0.with (fs61 N)
theorem cok61 (N : Nat) : COk (X61 N) := COk.of (all61 N)
/-! ### humpyard/humpyardref06.Valid -/
noncomputable def u0_r06_Valid (N : Nat) : List (Pc D) := []
theorem oku0_r06_Valid (N : Nat) : ∀ u ∈ u0_r06_Valid N, PcOk (X61 N) (bodyOf Try.f71) u := pc_nil
noncomputable def Pr06_Valid_0 : PD D := { path := [1, 1, 1, 1, 0, 1], ins := [.o 1 (.box 36), .v 5 (.int .i64), .v 6 (.int .i64), .v 16 (.int .i64)], fx := [(1, .box 0 0)], ks := [1], exs := [⟨.normal, [.v 5 (.int .i64), .v 6 (.int .i64)], []⟩], keep := [1] }
noncomputable def Fr06_Valid_0 (N : Nat) : Pr06_Valid_0.F := fun x => r06_Valid_0 N x.2.1 x.2.2.1 x.2.2.2.1
theorem cr06_Valid_0 (N : Nat) : CC (X61 N) (bodyOf Try.f71) Pr06_Valid_0 (Fr06_Valid_0 N) := CC.of (cok61 N) (us := u0_r06_Valid N) (fun u h _ => oku0_r06_Valid N u h) (fun x => by kernel_rfl)
noncomputable def ur06_Valid_0 (N : Nat) : List (Pc D) := Pr06_Valid_0.pc (X61 N) (Fr06_Valid_0 N) :: u0_r06_Valid N
theorem okur06_Valid_0 (N : Nat) : ∀ u ∈ ur06_Valid_0 N, PcOk (X61 N) (bodyOf Try.f71) u := pc_cons ((cr06_Valid_0 N).pc (by kernel_rfl)) (oku0_r06_Valid N)
noncomputable def Pr06_Valid_1 : PD D := { path := [1, 1, 1, 1, 1, 0, 0, 1, 1, 0], ins := [.o 1 (.box 36), .v 6 (.int .i64)], fx := [(1, .box 0 0)], ks := [1], exs := [⟨.normal, [.v 26 .bool], []⟩], keep := [1] }
noncomputable def Fr06_Valid_1 (N : Nat) : Pr06_Valid_1.F := fun x => r06_Valid_1 N x.1 x.2.1
theorem cr06_Valid_1 (N : Nat) : CC (X61 N) (bodyOf Try.f71) Pr06_Valid_1 (Fr06_Valid_1 N) := CC.of (cok61 N) (us := ur06_Valid_0 N) (fun u h _ => okur06_Valid_0 N u h) (fun x => by kernel_rfl)
noncomputable def ur06_Valid_1 (N : Nat) : List (Pc D) := Pr06_Valid_1.pc (X61 N) (Fr06_Valid_1 N) :: ur06_Valid_0 N
theorem okur06_Valid_1 (N : Nat) : ∀ u ∈ ur06_Valid_1 N, PcOk (X61 N) (bodyOf Try.f71) u := pc_cons ((cr06_Valid_1 N).pc (by kernel_rfl)) (okur06_Valid_0 N)
noncomputable def dr06_Valid : FD D := { f := 71, np := 1, ins := [.v 0 (.agg 36)], fx := [], rcv := none, rk := 0, outs := [.v 2 (.int .i64)], ofx := [], rvs := [.tmp 2], flat := true }
noncomputable def Fr06_Valid (N : Nat) : dr06_Valid.F := fun r x => r06_Valid N x.1
theorem or06_Valid (N : Nat) : FOk Try.prog (X61 N) dr06_Valid (Fr06_Valid N) := ⟨⟨Try.f71, _, Try.func71, rfl, by kernel_rfl, by kernel_rfl, rfl, FC.of (cok61 N) (us := ur06_Valid_1 N) (fun u h _ => okur06_Valid_1 N u h) (fun r x => by kernel_rfl)⟩, by kernel_rfl, by kernel_rfl, by kernel_rfl, by kernel_rfl⟩
noncomputable def fs62 (N : Nat) : List (FE D) := ⟨dr06_Valid, Fr06_Valid N⟩ :: fs61 N
theorem all62 (N : Nat) : ∀ y ∈ fs62 N, CallOk X0 y.d y.F := all_cons (x := ⟨dr06_Valid, Fr06_Valid N⟩) (or06_Valid N) (all61 N)
noncomputable def X62 (N : Nat) : Ev Try.prog D := X0.with (fs62 N)
theorem cok62 (N : Nat) : COk (X62 N) := COk.of (all62 N)
/-! ### humpyard/humpyardref06.ValidList -/
noncomputable def u0_r06_ValidList (N : Nat) : List (Pc D) := []
theorem oku0_r06_ValidList (N : Nat) : ∀ u ∈ u0_r06_ValidList N, PcOk (X62 N) (bodyOf Try.f66) u := pc_nil
noncomputable def Pr06_ValidList_1 : PD D := { path := [1, 1, 0, 1, 0, 0, 1, 0, 0, 1, 1, 0], ins := [.v 0 (.sl 36), .v 3 (.int .i64), .v 5 (.int .i64)], fx := [], ks := [], exs := [⟨.exit 2, [], []⟩, ⟨.ret, [.v 2 (.int .i64)], []⟩], keep := [0, 3] }
noncomputable def Fr06_ValidList_1 (N n : Nat) : Pr06_ValidList_1.F := fun x => r06_ValidList_1 N x.1 x.2.1 n x.2.2.1
theorem cr06_ValidList_1 (N n : Nat) : CC (X62 N) (bodyOf Try.f66) Pr06_ValidList_1 (Fr06_ValidList_1 N n) := CC.loop (cok62 N) (us := u0_r06_ValidList N) (c := sub (bodyOf Try.f66) [1, 1, 0, 1, 0, 0, 1, 0, 0, 1, 1, 0, 0]) (by kernel_rfl) (by kernel_rfl) (fun u h _ => oku0_r06_ValidList N u h) (fun x => rfl) (fun n x => by kernel_rfl) n
noncomputable def ur06_ValidList_1 (N : Nat) : List (Pc D) := Pr06_ValidList_1.pc (X62 N) (Fr06_ValidList_1 N N) :: u0_r06_ValidList N
theorem okur06_ValidList_1 (N : Nat) : ∀ u ∈ ur06_ValidList_1 N, PcOk (X62 N) (bodyOf Try.f66) u := pc_cons ((cr06_ValidList_1 N N).pc (by kernel_rfl)) (oku0_r06_ValidList N)
noncomputable def Pr06_ValidList_0 : PD D := { path := [1, 1, 0, 1, 0], ins := [.v 0 (.sl 36), .v 3 (.int .i64)], fx := [], ks := [], exs := [⟨.exit 0, [], []⟩, ⟨.ret, [.v 2 (.int .i64)], []⟩], keep := [] }
noncomputable def Fr06_ValidList_0 (N n : Nat) : Pr06_ValidList_0.F := fun x => r06_ValidList_0 N x.1 n x.2.1
theorem cr06_ValidList_0 (N n : Nat) : CC (X62 N) (bodyOf Try.f66) Pr06_ValidList_0 (Fr06_ValidList_0 N n) := CC.loop (cok62 N) (us := ur06_ValidList_1 N) (c := sub (bodyOf Try.f66) [1, 1, 0, 1, 0, 0]) (by kernel_rfl) (by kernel_rfl) (fun u h _ => okur06_ValidList_1 N u h) (fun x => rfl) (fun n x => by kernel_rfl) n
noncomputable def ur06_ValidList_0 (N : Nat) : List (Pc D) := Pr06_ValidList_0.pc (X62 N) (Fr06_ValidList_0 N N) :: ur06_ValidList_1 N
theorem okur06_ValidList_0 (N : Nat) : ∀ u ∈ ur06_ValidList_0 N, PcOk (X62 N) (bodyOf Try.f66) u := pc_cons ((cr06_ValidList_0 N N).pc (by kernel_rfl)) (okur06_ValidList_1 N)
noncomputable def dr06_ValidList : FD D := { f := 66, np := 1, ins := [.v 0 (.sl 36)], fx := [], rcv := none, rk := 0, outs := [.v 2 (.int .i64)], ofx := [], rvs := [.tmp 2], flat := true }
noncomputable def Fr06_ValidList (N : Nat) : dr06_ValidList.F := fun r x => r06_ValidList N x.1
theorem or06_ValidList (N : Nat) : FOk Try.prog (X62 N) dr06_ValidList (Fr06_ValidList N) := ⟨⟨Try.f66, _, Try.func66, rfl, by kernel_rfl, by kernel_rfl, rfl, FC.of (cok62 N) (us := ur06_ValidList_0 N) (fun u h _ => okur06_ValidList_0 N u h) (fun r x => by kernel_rfl)⟩, by kernel_rfl, by kernel_rfl, by kernel_rfl, by kernel_rfl⟩
noncomputable def fs63 (N : Nat) : List (FE D) := ⟨dr06_ValidList, Fr06_ValidList N⟩ :: fs62 N
theorem all63 (N : Nat) : ∀ y ∈ fs63 N, CallOk X0 y.d y.F := all_cons (x := ⟨dr06_ValidList, Fr06_ValidList N⟩) (or06_ValidList N) (all62 N)
noncomputable def X63 (N : Nat) : Ev Try.prog D := X0.with (fs63 N)
theorem cok63 (N : Nat) : COk (X63 N) := COk.of (all63 N)
/-! ### humpyard/humpyardref06.Total -/
noncomputable def u0_r06_Total (N : Nat) : List (Pc D) := []
theorem oku0_r06_Total (N : Nat) : ∀ u ∈ u0_r06_Total N, PcOk (X63 N) (bodyOf Try.f57) u := pc_nil
noncomputable def Pr06_Total_0 : PD D := { path := [1, 1, 0, 1, 0], ins := [.v 0 (.sl 36), .v 2 (.int .i64), .v 3 (.int .i64), .v 4 (.int .i64), .v 7 (.int .i64)], fx := [], ks := [], exs := [⟨.exit 0, [.v 2 (.int .i64), .v 3 (.int .i64), .v 4 (.int .i64)], []⟩], keep := [] }
noncomputable def Fr06_Total_0 (N n : Nat) : Pr06_Total_0.F := fun x => r06_Total_0 N x.1 n x.2.1 x.2.2.1 x.2.2.2.1 x.2.2.2.2.1
theorem cr06_Total_0 (N n : Nat) : CC (X63 N) (bodyOf Try.f57) Pr06_Total_0 (Fr06_Total_0 N n) := CC.loop (cok63 N) (us := u0_r06_Total N) (c := sub (bodyOf Try.f57) [1, 1, 0, 1, 0, 0]) (by kernel_rfl) (by kernel_rfl) (fun u h _ => oku0_r06_Total N u h) (fun x => rfl) (fun n x => by kernel_rfl) n
noncomputable def ur06_Total_0 (N : Nat) : List (Pc D) := Pr06_Total_0.pc (X63 N) (Fr06_Total_0 N N) :: u0_r06_Total N
theorem okur06_Total_0 (N : Nat) : ∀ u ∈ ur06_Total_0 N, PcOk (X63 N) (bodyOf Try.f57) u := pc_cons ((cr06_Total_0 N N).pc (by kernel_rfl)) (oku0_r06_Total N)
noncomputable def dr06_Total : FD D := { f := 57, np := 1, ins := [.v 0 (.sl 36)], fx := [], rcv := none, rk := 0, outs := [.v 2 (.int .i64), .v 3 (.int .i64), .v 4 (.int .i64), .v 5 (.int .i64)], ofx := [], rvs := [.tmp 2, .tmp 3, .tmp 4, .tmp 5], flat := true }
noncomputable def Fr06_Total (N : Nat) : dr06_Total.F := fun r x => r06_Total N x.1
theorem or06_Total (N : Nat) : FOk Try.prog (X63 N) dr06_Total (Fr06_Total N) := ⟨⟨Try.f57, _, Try.func57, rfl, by kernel_rfl, by kernel_rfl, rfl, FC.of (cok63 N) (us := ur06_Total_0 N) (fun u h _ => okur06_Total_0 N u h) (fun r x => by kernel_rfl)⟩, by kernel_rfl, by kernel_rfl, by kernel_rfl, by kernel_rfl⟩
noncomputable def fs64 (N : Nat) : List (FE D) := ⟨dr06_Total, Fr06_Total N⟩ :: fs63 N
theorem all64 (N : Nat) : ∀ y ∈ fs64 N, CallOk X0 y.d y.F := all_cons (x := ⟨dr06_Total, Fr06_Total N⟩) (or06_Total N) (all63 N)
noncomputable def X64 (N : Nat) : Ev Try.prog D := X0.with (fs64 N)
theorem cok64 (N : Nat) : COk (X64 N) := COk.of (all64 N)
/-! ### humpyard/humpyardref35.Off -/
noncomputable def u0_r35_Off (N : Nat) : List (Pc D) := []
theorem oku0_r35_Off (N : Nat) : ∀ u ∈ u0_r35_Off N, PcOk (X64 N) (bodyOf Try.f58) u := pc_nil
noncomputable def Pr35_Off_0 : PD D := { path := [1, 0, 1, 0], ins := [.v 0 (.sl 3), .v 1 (.int .i64), .v 5 (.int .i64)], fx := [], ks := [], exs := [⟨.exit 0, [], []⟩, ⟨.ret, [.v 4 .bool], []⟩], keep := [] }
noncomputable def Fr35_Off_0 (N n : Nat) : Pr35_Off_0.F := fun x => r35_Off_0 N x.1 x.2.1 n x.2.2.1
theorem cr35_Off_0 (N n : Nat) : CC (X64 N) (bodyOf Try.f58) Pr35_Off_0 (Fr35_Off_0 N n) := CC.loop (cok64 N) (us := u0_r35_Off N) (c := sub (bodyOf Try.f58) [1, 0, 1, 0, 0]) (by kernel_rfl) (by kernel_rfl) (fun u h _ => oku0_r35_Off N u h) (fun x => rfl) (fun n x => by kernel_rfl) n
noncomputable def ur35_Off_0 (N : Nat) : List (Pc D) := Pr35_Off_0.pc (X64 N) (Fr35_Off_0 N N) :: u0_r35_Off N
theorem okur35_Off_0 (N : Nat) : ∀ u ∈ ur35_Off_0 N, PcOk (X64 N) (bodyOf Try.f58) u := pc_cons ((cr35_Off_0 N N).pc (by kernel_rfl)) (oku0_r35_Off N)
noncomputable def dr35_Off : FD D := { f := 58, np := 2, ins := [.v 0 (.sl 3), .v 1 (.int .i64)], fx := [], rcv := none, rk := 0, outs := [.v 4 .bool], ofx := [], rvs := [.tmp 4], flat := true }
noncomputable def Fr35_Off (N : Nat) : dr35_Off.F := fun r x => r35_Off N x.1 x.2.1
theorem or35_Off (N : Nat) : FOk Try.prog (X64 N) dr35_Off (Fr35_Off N) := ⟨⟨Try.f58, _, Try.func58, rfl, by kernel_rfl, by kernel_rfl, rfl, FC.of (cok64 N) (us := ur35_Off_0 N) (fun u h _ => okur35_Off_0 N u h) (fun r x => by kernel_rfl)⟩, by kernel_rfl, by kernel_rfl, by kernel_rfl, by kernel_rfl⟩
noncomputable def fs65 (N : Nat) : List (FE D) := ⟨dr35_Off, Fr35_Off N⟩ :: fs64 N
theorem all65 (N : Nat) : ∀ y ∈ fs65 N, CallOk X0 y.d y.F := all_cons (x := ⟨dr35_Off, Fr35_Off N⟩) (or35_Off N) (all64 N)
noncomputable def X65 (N : Nat) : Ev Try.prog D := X0.with (fs65 N)
theorem cok65 (N : Nat) : COk (X65 N) := COk.of (all65 N)
/-! ### humpyard/humpyardref35.Factor -/
noncomputable def u0_r35_Factor (N : Nat) : List (Pc D) := []
theorem oku0_r35_Factor (N : Nat) : ∀ u ∈ u0_r35_Factor N, PcOk (X65 N) (bodyOf Try.f59) u := pc_nil
noncomputable def dr35_Factor : FD D := { f := 59, np := 1, ins := [.v 0 (.int .i64)], fx := [], rcv := none, rk := 0, outs := [.v 2 (.int .i64)], ofx := [], rvs := [.tmp 2], flat := true }
noncomputable def Fr35_Factor (N : Nat) : dr35_Factor.F := fun r x => r35_Factor N x.1
theorem or35_Factor (N : Nat) : FOk Try.prog (X65 N) dr35_Factor (Fr35_Factor N) := ⟨⟨Try.f59, _, Try.func59, rfl, by kernel_rfl, by kernel_rfl, rfl, FC.of (cok65 N) (us := u0_r35_Factor N) (fun u h _ => oku0_r35_Factor N u h) (fun r x => by kernel_rfl)⟩, by kernel_rfl, by kernel_rfl, by kernel_rfl, by kernel_rfl⟩
noncomputable def fs66 (N : Nat) : List (FE D) := ⟨dr35_Factor, Fr35_Factor N⟩ :: fs65 N
theorem all66 (N : Nat) : ∀ y ∈ fs66 N, CallOk X0 y.d y.F := all_cons (x := ⟨dr35_Factor, Fr35_Factor N⟩) (or35_Factor N) (all65 N)
noncomputable def X66 (N : Nat) : Ev Try.prog D := X0.with (fs66 N)
theorem cok66 (N : Nat) : COk (X66 N) := COk.of (all66 N)
/-! ### humpyard/humpyardref35.Total -/
noncomputable def u0_r35_Total (N : Nat) : List (Pc D) := []
theorem oku0_r35_Total (N : Nat) : ∀ u ∈ u0_r35_Total N, PcOk (X66 N) (bodyOf Try.f34) u := pc_nil
noncomputable def Pr35_Total_1 : PD D := { path := [1, 1, 1, 0, 1, 0, 0, 1, 0, 0, 0], ins := [.v 0 (.sl 36), .v 1 (.sl 3), .o 4 (.box 59), .v 10 (.int .i64)], fx := [(4, .box 0 0)], ks := [1], exs := [⟨.normal, [.v 44 .bool], []⟩], keep := [0, 1, 4, 6, 7, 8, 10] }
noncomputable def Fr35_Total_1 (N : Nat) : Pr35_Total_1.F := fun x => r35_Total_1 N x.1 x.2.1 x.2.2.2.1
theorem cr35_Total_1 (N : Nat) : CC (X66 N) (bodyOf Try.f34) Pr35_Total_1 (Fr35_Total_1 N) := CC.of (cok66 N) (us := u0_r35_Total N) (fun u h _ => oku0_r35_Total N u h) (fun x => by kernel_rfl)
noncomputable def ur35_Total_1 (N : Nat) : List (Pc D) := Pr35_Total_1.pc (X66 N) (Fr35_Total_1 N) :: u0_r35_Total N
theorem okur35_Total_1 (N : Nat) : ∀ u ∈ ur35_Total_1 N, PcOk (X66 N) (bodyOf Try.f34) u := pc_cons ((cr35_Total_1 N).pc (by kernel_rfl)) (oku0_r35_Total N)
noncomputable def Pr35_Total_0 : PD D := { path := [1, 1, 1, 0, 1, 0], ins := [.v 0 (.sl 36), .v 1 (.sl 3), .o 4 (.box 59), .v 10 (.int .i64)], fx := [(4, .box 0 0)], ks := [2], exs := [⟨.exit 0, [.u 0 (.box 59)], []⟩, ⟨.ret, [.u 0 (.box 59), .v 5 (.int .i64)], []⟩], keep := [0, 1, 4, 6, 7, 8] }
noncomputable def Fr35_Total_0 (N n : Nat) : Pr35_Total_0.F := fun x => r35_Total_0 N x.1 x.2.1 n x.2.2.1 x.2.2.2.1
theorem cr35_Total_0 (N n : Nat) : CC (X66 N) (bodyOf Try.f34) Pr35_Total_0 (Fr35_Total_0 N n) := CC.loop (cok66 N) (us := ur35_Total_1 N) (c := sub (bodyOf Try.f34) [1, 1, 1, 0, 1, 0, 0]) (by kernel_rfl) (by kernel_rfl) (fun u h _ => okur35_Total_1 N u h) (fun x => rfl) (fun n x => by kernel_rfl) n
noncomputable def ur35_Total_0 (N : Nat) : List (Pc D) := Pr35_Total_0.pc (X66 N) (Fr35_Total_0 N N) :: ur35_Total_1 N
theorem okur35_Total_0 (N : Nat) : ∀ u ∈ ur35_Total_0 N, PcOk (X66 N) (bodyOf Try.f34) u := pc_cons ((cr35_Total_0 N N).pc (by kernel_rfl)) (okur35_Total_1 N)
noncomputable def Pr35_Total_2 : PD D := { path := [1, 1, 1, 1, 0, 1, 0], ins := [.v 1 (.sl 3), .o 4 (.box 59), .v 11 (.int .i64)], fx := [(4, .box 0 0)], ks := [2], exs := [⟨.exit 2, [.u 0 (.box 59)], []⟩, ⟨.ret, [.u 0 (.box 59), .v 5 (.int .i64)], []⟩], keep := [0, 1, 4, 6, 7, 8] }
noncomputable def Fr35_Total_2 (N n : Nat) : Pr35_Total_2.F := fun x => r35_Total_2 N x.1 n x.2.1 x.2.2.1
theorem cr35_Total_2 (N n : Nat) : CC (X66 N) (bodyOf Try.f34) Pr35_Total_2 (Fr35_Total_2 N n) := CC.loop (cok66 N) (us := ur35_Total_0 N) (c := sub (bodyOf Try.f34) [1, 1, 1, 1, 0, 1, 0, 0]) (by kernel_rfl) (by kernel_rfl) (fun u h _ => okur35_Total_0 N u h) (fun x => rfl) (fun n x => by kernel_rfl) n
noncomputable def ur35_Total_2 (N : Nat) : List (Pc D) := Pr35_Total_2.pc (X66 N) (Fr35_Total_2 N N) :: ur35_Total_0 N
theorem okur35_Total_2 (N : Nat) : ∀ u ∈ ur35_Total_2 N, PcOk (X66 N) (bodyOf Try.f34) u := pc_cons ((cr35_Total_2 N N).pc (by kernel_rfl)) (okur35_Total_0 N)
noncomputable def Pr35_Total_4 : PD D := { path := [1, 1, 1, 1, 1, 1, 0, 1, 0, 0, 1, 0], ins := [.v 0 (.sl 36), .v 1 (.sl 3), .o 4 (.box 59), .o 12 (.box 59), .v 13 (.int .i64)], fx := [(4, .box 0 0), (12, .box 1 0)], ks := [1, 2], exs := [⟨.normal, [.u 1 (.box 59)], []⟩], keep := [0, 1, 4, 6, 7, 12, 13] }
noncomputable def Fr35_Total_4 (N : Nat) : Pr35_Total_4.F := fun x => r35_Total_4 N x.1 x.2.1 x.2.2.2.1 x.2.2.2.2.1
theorem cr35_Total_4 (N : Nat) : CC (X66 N) (bodyOf Try.f34) Pr35_Total_4 (Fr35_Total_4 N) := CC.of (cok66 N) (us := ur35_Total_2 N) (fun u h _ => okur35_Total_2 N u h) (fun x => by kernel_rfl)
noncomputable def ur35_Total_4 (N : Nat) : List (Pc D) := Pr35_Total_4.pc (X66 N) (Fr35_Total_4 N) :: ur35_Total_2 N
theorem okur35_Total_4 (N : Nat) : ∀ u ∈ ur35_Total_4 N, PcOk (X66 N) (bodyOf Try.f34) u := pc_cons ((cr35_Total_4 N).pc (by kernel_rfl)) (okur35_Total_2 N)
noncomputable def Pr35_Total_3 : PD D := { path := [1, 1, 1, 1, 1, 1, 0, 1, 0], ins := [.v 0 (.sl 36), .v 1 (.sl 3), .o 4 (.box 59), .o 12 (.box 59), .v 13 (.int .i64)], fx := [(4, .box 0 0), (12, .box 1 0)], ks := [1, 2], exs := [⟨.exit 4, [.u 1 (.box 59)], []⟩], keep := [4, 6, 7, 12] }
noncomputable def Fr35_Total_3 (N n : Nat) : Pr35_Total_3.F := fun x => r35_Total_3 N x.1 x.2.1 n x.2.2.2.1 x.2.2.2.2.1
theorem cr35_Total_3 (N n : Nat) : CC (X66 N) (bodyOf Try.f34) Pr35_Total_3 (Fr35_Total_3 N n) := CC.loop (cok66 N) (us := ur35_Total_4 N) (c := sub (bodyOf Try.f34) [1, 1, 1, 1, 1, 1, 0, 1, 0, 0]) (by kernel_rfl) (by kernel_rfl) (fun u h _ => okur35_Total_4 N u h) (fun x => rfl) (fun n x => by kernel_rfl) n
noncomputable def ur35_Total_3 (N : Nat) : List (Pc D) := Pr35_Total_3.pc (X66 N) (Fr35_Total_3 N N) :: ur35_Total_4 N
theorem okur35_Total_3 (N : Nat) : ∀ u ∈ ur35_Total_3 N, PcOk (X66 N) (bodyOf Try.f34) u := pc_cons ((cr35_Total_3 N N).pc (by kernel_rfl)) (okur35_Total_4 N)
noncomputable def Pr35_Total_5 : PD D := { path := [1, 1, 1, 1, 1, 1, 1, 1, 0, 1], ins := [.o 4 (.box 59), .v 7 (.int .i64), .o 12 (.box 59), .v 92 .bool], fx := [(4, .box 0 0), (12, .box 1 0)], ks := [1, 2], exs := [⟨.normal, [.u 1 (.box 59)], []⟩], keep := [4, 12] }
noncomputable def Fr35_Total_5 (N : Nat) : Pr35_Total_5.F := fun x => r35_Total_5 N x.2.1 x.2.2.1 x.2.2.2.1
theorem cr35_Total_5 (N : Nat) : CC (X66 N) (bodyOf Try.f34) Pr35_Total_5 (Fr35_Total_5 N) := CC.of (cok66 N) (us := ur35_Total_3 N) (fun u h _ => okur35_Total_3 N u h) (fun x => by kernel_rfl)
noncomputable def ur35_Total_5 (N : Nat) : List (Pc D) := Pr35_Total_5.pc (X66 N) (Fr35_Total_5 N) :: ur35_Total_3 N
theorem okur35_Total_5 (N : Nat) : ∀ u ∈ ur35_Total_5 N, PcOk (X66 N) (bodyOf Try.f34) u := pc_cons ((cr35_Total_5 N).pc (by kernel_rfl)) (okur35_Total_3 N)
noncomputable def dr35_Total : FD D := { f := 34, np := 2, ins := [.v 0 (.sl 36), .v 1 (.sl 3)], fx := [], rcv := none, rk := 0, outs := [.v 1000000 (.agg 59), .v 5 (.int .i64)], ofx := [], rvs := [.cell 4 59, .tmp 5], flat := true }
noncomputable def Fr35_Total (N : Nat) : dr35_Total.F := fun r x => r35_Total N x.1 x.2.1
theorem or35_Total (N : Nat) : FOk Try.prog (X66 N) dr35_Total (Fr35_Total N) := ⟨⟨Try.f34, _, Try.func34, rfl, by kernel_rfl, by kernel_rfl, rfl, FC.of (cok66 N) (us := ur35_Total_5 N) (fun u h _ => okur35_Total_5 N u h) (fun r x => by kernel_rfl)⟩, by kernel_rfl, by kernel_rfl, by kernel_rfl, by kernel_rfl⟩
noncomputable def fs67 (N : Nat) : List (FE D) := ⟨dr35_Total, Fr35_Total N⟩ :: fs66 N
theorem all67 (N : Nat) : ∀ y ∈ fs67 N, CallOk X0 y.d y.F := all_cons (x := ⟨dr35_Total, Fr35_Total N⟩) (or35_Total N) (all66 N)
noncomputable def X67 (N : Nat) : Ev Try.prog D := X0.with (fs67 N)
theorem cok67 (N : Nat) : COk (X67 N) := COk.of (all67 N)
/-! ### humpyard/humpyardref36.size -/
noncomputable def u0_r36_size (N : Nat) : List (Pc D) := []
theorem oku0_r36_size (N : Nat) : ∀ u ∈ u0_r36_size N, PcOk (X67 N) (bodyOf Try.f67) u := pc_nil
noncomputable def dr36_size : FD D := { f := 67, np := 2, ins := [.v 0 (.int .i64), .v 1 (.agg 36)], fx := [], rcv := none, rk := 0, outs := [.v 4 (.int .i64)], ofx := [], rvs := [.tmp 4], flat := true }
noncomputable def Fr36_size (N : Nat) : dr36_size.F := fun r x => r36_size N x.1 x.2.1
theorem or36_size (N : Nat) : FOk Try.prog (X67 N) dr36_size (Fr36_size N) := ⟨⟨Try.f67, _, Try.func67, rfl, by kernel_rfl, by kernel_rfl, rfl, FC.of (cok67 N) (us := u0_r36_size N) (fun u h _ => oku0_r36_size N u h) (fun r x => by kernel_rfl)⟩, by kernel_rfl, by kernel_rfl, by kernel_rfl, by kernel_rfl⟩
noncomputable def fs68 (N : Nat) : List (FE D) := ⟨dr36_size, Fr36_size N⟩ :: fs67 N
theorem all68 (N : Nat) : ∀ y ∈ fs68 N, CallOk X0 y.d y.F := all_cons (x := ⟨dr36_size, Fr36_size N⟩) (or36_size N) (all67 N)
noncomputable def X68 (N : Nat) : Ev Try.prog D := X0.with (fs68 N)
theorem cok68 (N : Nat) : COk (X68 N) := COk.of (all68 N)
/-! ### humpyard/humpyardref36.classes -/
noncomputable def u0_r36_classes (N : Nat) : List (Pc D) := []
theorem oku0_r36_classes (N : Nat) : ∀ u ∈ u0_r36_classes N, PcOk (X68 N) (bodyOf Try.f68) u := pc_nil
noncomputable def Pr36_classes_0 : PD D := { path := [1, 0], ins := [.v 2 (.int .i64), .v 3 (.int .i64), .o 4 (.box 36), .o 5 (.box 36)], fx := [(4, .box 0 0), (5, .box 1 0)], ks := [1, 1], exs := [⟨.normal, [.v 8 .bool], []⟩], keep := [] }
noncomputable def Fr36_classes_0 (N : Nat) : Pr36_classes_0.F := fun x => r36_classes_0 N x.1 x.2.1 x.2.2.1 x.2.2.2.1
theorem cr36_classes_0 (N : Nat) : CC (X68 N) (bodyOf Try.f68) Pr36_classes_0 (Fr36_classes_0 N) := CC.of (cok68 N) (us := u0_r36_classes N) (fun u h _ => oku0_r36_classes N u h) (fun x => by kernel_rfl)
noncomputable def ur36_classes_0 (N : Nat) : List (Pc D) := Pr36_classes_0.pc (X68 N) (Fr36_classes_0 N) :: u0_r36_classes N
theorem okur36_classes_0 (N : Nat) : ∀ u ∈ ur36_classes_0 N, PcOk (X68 N) (bodyOf Try.f68) u := pc_cons ((cr36_classes_0 N).pc (by kernel_rfl)) (oku0_r36_classes N)
noncomputable def dr36_classes : FD D := { f := 68, np := 4, ins := [.v 0 (.agg 36), .v 1 (.agg 36), .v 2 (.int .i64), .v 3 (.int .i64)], fx := [], rcv := none, rk := 0, outs := [.v 8 .bool], ofx := [], rvs := [.tmp 8], flat := true }
noncomputable def Fr36_classes (N : Nat) : dr36_classes.F := fun r x => r36_classes N x.1 x.2.1 x.2.2.1 x.2.2.2.1
theorem or36_classes (N : Nat) : FOk Try.prog (X68 N) dr36_classes (Fr36_classes N) := ⟨⟨Try.f68, _, Try.func68, rfl, by kernel_rfl, by kernel_rfl, rfl, FC.of (cok68 N) (us := ur36_classes_0 N) (fun u h _ => okur36_classes_0 N u h) (fun r x => by kernel_rfl)⟩, by kernel_rfl, by kernel_rfl, by kernel_rfl, by kernel_rfl⟩
noncomputable def fs69 (N : Nat) : List (FE D) := ⟨dr36_classes, Fr36_classes N⟩ :: fs68 N
theorem all69 (N : Nat) : ∀ y ∈ fs69 N, CallOk X0 y.d y.F := all_cons (x := ⟨dr36_classes, Fr36_classes N⟩) (or36_classes N) (all68 N)
noncomputable def X69 (N : Nat) : Ev Try.prog D := X0.with (fs69 N)
theorem cok69 (N : Nat) : COk (X69 N) := COk.of (all69 N)
/-! ### humpyard/humpyardref36.breaks -/
noncomputable def u0_r36_breaks (N : Nat) : List (Pc D) := []
theorem oku0_r36_breaks (N : Nat) : ∀ u ∈ u0_r36_breaks N, PcOk (X69 N) (bodyOf Try.f60) u := pc_nil
noncomputable def Pr36_breaks_1 : PD D := { path := [1, 1, 0, 1, 0, 0, 1], ins := [.o 3 (.box 32), .v 12 (.int .i64), .v 13 .bool], fx := [(3, .box 0 0)], ks := [1], exs := [⟨.normal, [.v 13 .bool], []⟩], keep := [1, 2, 3, 7, 12] }
noncomputable def Fr36_breaks_1 (N : Nat) : Pr36_breaks_1.F := fun x => r36_breaks_1 N x.2.1 x.2.2.1
theorem cr36_breaks_1 (N : Nat) : CC (X69 N) (bodyOf Try.f60) Pr36_breaks_1 (Fr36_breaks_1 N) := CC.of (cok69 N) (us := u0_r36_breaks N) (fun u h _ => oku0_r36_breaks N u h) (fun x => by kernel_rfl)
noncomputable def ur36_breaks_1 (N : Nat) : List (Pc D) := Pr36_breaks_1.pc (X69 N) (Fr36_breaks_1 N) :: u0_r36_breaks N
theorem okur36_breaks_1 (N : Nat) : ∀ u ∈ ur36_breaks_1 N, PcOk (X69 N) (bodyOf Try.f60) u := pc_cons ((cr36_breaks_1 N).pc (by kernel_rfl)) (oku0_r36_breaks N)
noncomputable def Pr36_breaks_2 : PD D := { path := [1, 1, 0, 1, 0, 1, 0, 0, 1, 0], ins := [.v 1 (.sl 36), .v 2 (.int .i64), .o 3 (.box 32), .v 7 (.int .i64), .v 8 (.int .i64)], fx := [(3, .box 0 0)], ks := [1], exs := [⟨.exit 1, [.v 7 (.int .i64)], []⟩], keep := [3] }
noncomputable def Fr36_breaks_2 (N n : Nat) : Pr36_breaks_2.F := fun x => r36_breaks_2 N x.1 x.2.1 x.2.2.1 n x.2.2.2.1 x.2.2.2.2.1
theorem cr36_breaks_2 (N n : Nat) : CC (X69 N) (bodyOf Try.f60) Pr36_breaks_2 (Fr36_breaks_2 N n) := CC.loop (cok69 N) (us := ur36_breaks_1 N) (c := sub (bodyOf Try.f60) [1, 1, 0, 1, 0, 1, 0, 0, 1, 0, 0]) (by kernel_rfl) (by kernel_rfl) (fun u h _ => okur36_breaks_1 N u h) (fun x => rfl) (fun n x => by kernel_rfl) n
noncomputable def ur36_breaks_2 (N : Nat) : List (Pc D) := Pr36_breaks_2.pc (X69 N) (Fr36_breaks_2 N N) :: ur36_breaks_1 N
theorem okur36_breaks_2 (N : Nat) : ∀ u ∈ ur36_breaks_2 N, PcOk (X69 N) (bodyOf Try.f60) u := pc_cons ((cr36_breaks_2 N N).pc (by kernel_rfl)) (okur36_breaks_1 N)
noncomputable def Pr36_breaks_4 : PD D := { path := [1, 1, 0, 1, 0, 1, 1, 1, 0, 1, 0, 0, 1, 0, 0, 0], ins := [.v 1 (.sl 36), .v 2 (.int .i64), .o 3 (.box 32), .v 9 (.int .i64)], fx := [(3, .box 0 0)], ks := [1], exs := [⟨.normal, [.v 63 .bool], []⟩], keep := [1, 2, 3, 9] }
noncomputable def Fr36_breaks_4 (N : Nat) : Pr36_breaks_4.F := fun x => r36_breaks_4 N x.1 x.2.1 x.2.2.1 x.2.2.2.1
theorem cr36_breaks_4 (N : Nat) : CC (X69 N) (bodyOf Try.f60) Pr36_breaks_4 (Fr36_breaks_4 N) := CC.of (cok69 N) (us := ur36_breaks_2 N) (fun u h _ => okur36_breaks_2 N u h) (fun x => by kernel_rfl)
noncomputable def ur36_breaks_4 (N : Nat) : List (Pc D) := Pr36_breaks_4.pc (X69 N) (Fr36_breaks_4 N) :: ur36_breaks_2 N
theorem okur36_breaks_4 (N : Nat) : ∀ u ∈ ur36_breaks_4 N, PcOk (X69 N) (bodyOf Try.f60) u := pc_cons ((cr36_breaks_4 N).pc (by kernel_rfl)) (okur36_breaks_2 N)
noncomputable def Pr36_breaks_3 : PD D := { path := [1, 1, 0, 1, 0, 1, 1, 1, 0, 1, 0], ins := [.v 1 (.sl 36), .v 2 (.int .i64), .o 3 (.box 32), .v 9 (.int .i64)], fx := [(3, .box 0 0)], ks := [1], exs := [⟨.exit 3, [], []⟩, ⟨.ret, [.v 6 .bool], []⟩], keep := [] }
noncomputable def Fr36_breaks_3 (N n : Nat) : Pr36_breaks_3.F := fun x => r36_breaks_3 N x.1 x.2.1 x.2.2.1 n x.2.2.2.1
theorem cr36_breaks_3 (N n : Nat) : CC (X69 N) (bodyOf Try.f60) Pr36_breaks_3 (Fr36_breaks_3 N n) := CC.loop (cok69 N) (us := ur36_breaks_4 N) (c := sub (bodyOf Try.f60) [1, 1, 0, 1, 0, 1, 1, 1, 0, 1, 0, 0]) (by kernel_rfl) (by kernel_rfl) (fun u h _ => okur36_breaks_4 N u h) (fun x => rfl) (fun n x => by kernel_rfl) n
noncomputable def ur36_breaks_3 (N : Nat) : List (Pc D) := Pr36_breaks_3.pc (X69 N) (Fr36_breaks_3 N N) :: ur36_breaks_4 N
theorem okur36_breaks_3 (N : Nat) : ∀ u ∈ ur36_breaks_3 N, PcOk (X69 N) (bodyOf Try.f60) u := pc_cons ((cr36_breaks_3 N N).pc (by kernel_rfl)) (okur36_breaks_4 N)
noncomputable def Pr36_breaks_5 : PD D := { path := [1, 1, 0, 1, 0, 1, 1, 1, 1, 1, 0, 0], ins := [.v 1 (.sl 36), .v 2 (.int .i64), .o 3 (.box 32)], fx := [(3, .box 0 0)], ks := [1], exs := [⟨.normal, [.v 6 .bool], []⟩], keep := [] }
noncomputable def Fr36_breaks_5 (N : Nat) : Pr36_breaks_5.F := fun x => r36_breaks_5 N x.1 x.2.1 x.2.2.1
theorem cr36_breaks_5 (N : Nat) : CC (X69 N) (bodyOf Try.f60) Pr36_breaks_5 (Fr36_breaks_5 N) := CC.of (cok69 N) (us := ur36_breaks_3 N) (fun u h _ => okur36_breaks_3 N u h) (fun x => by kernel_rfl)
noncomputable def ur36_breaks_5 (N : Nat) : List (Pc D) := Pr36_breaks_5.pc (X69 N) (Fr36_breaks_5 N) :: ur36_breaks_3 N
theorem okur36_breaks_5 (N : Nat) : ∀ u ∈ ur36_breaks_5 N, PcOk (X69 N) (bodyOf Try.f60) u := pc_cons ((cr36_breaks_5 N).pc (by kernel_rfl)) (okur36_breaks_3 N)
noncomputable def Pr36_breaks_6 : PD D := { path := [1, 1, 0, 1, 0, 1, 1, 1, 1, 1, 1, 1, 1, 1, 0, 0, 1, 0], ins := [.v 1 (.sl 36), .o 3 (.box 32), .v 7 (.int .i64), .v 10 (.int .i64)], fx := [(3, .box 0 0)], ks := [1], exs := [⟨.exit 5, [.v 7 (.int .i64)], []⟩], keep := [1, 2, 3] }
noncomputable def Fr36_breaks_6 (N n : Nat) : Pr36_breaks_6.F := fun x => r36_breaks_6 N x.1 n x.2.2.1 x.2.2.2.1
theorem cr36_breaks_6 (N n : Nat) : CC (X69 N) (bodyOf Try.f60) Pr36_breaks_6 (Fr36_breaks_6 N n) := CC.loop (cok69 N) (us := ur36_breaks_5 N) (c := sub (bodyOf Try.f60) [1, 1, 0, 1, 0, 1, 1, 1, 1, 1, 1, 1, 1, 1, 0, 0, 1, 0, 0]) (by kernel_rfl) (by kernel_rfl) (fun u h _ => okur36_breaks_5 N u h) (fun x => rfl) (fun n x => by kernel_rfl) n
noncomputable def ur36_breaks_6 (N : Nat) : List (Pc D) := Pr36_breaks_6.pc (X69 N) (Fr36_breaks_6 N N) :: ur36_breaks_5 N
theorem okur36_breaks_6 (N : Nat) : ∀ u ∈ ur36_breaks_6 N, PcOk (X69 N) (bodyOf Try.f60) u := pc_cons ((cr36_breaks_6 N N).pc (by kernel_rfl)) (okur36_breaks_5 N)
noncomputable def Pr36_breaks_7 : PD D := { path := [1, 1, 0, 1, 0, 1, 1, 1, 1, 1, 1, 1, 1, 1, 0, 1, 0], ins := [.v 1 (.sl 36), .v 2 (.int .i64), .o 3 (.box 32), .v 7 (.int .i64)], fx := [(3, .box 0 0)], ks := [1], exs := [⟨.normal, [.v 6 .bool], []⟩], keep := [] }
noncomputable def Fr36_breaks_7 (N : Nat) : Pr36_breaks_7.F := fun x => r36_breaks_7 N x.1 x.2.1 x.2.2.1 x.2.2.2.1
theorem cr36_breaks_7 (N : Nat) : CC (X69 N) (bodyOf Try.f60) Pr36_breaks_7 (Fr36_breaks_7 N) := CC.of (cok69 N) (us := ur36_breaks_6 N) (fun u h _ => okur36_breaks_6 N u h) (fun x => by kernel_rfl)
noncomputable def ur36_breaks_7 (N : Nat) : List (Pc D) := Pr36_breaks_7.pc (X69 N) (Fr36_breaks_7 N) :: ur36_breaks_6 N
theorem okur36_breaks_7 (N : Nat) : ∀ u ∈ ur36_breaks_7 N, PcOk (X69 N) (bodyOf Try.f60) u := pc_cons ((cr36_breaks_7 N).pc (by kernel_rfl)) (okur36_breaks_6 N)
noncomputable def Pr36_breaks_0 : PD D := { path := [1, 1, 0, 1], ins := [.v 1 (.sl 36), .v 2 (.int .i64), .o 3 (.box 32), .v 7 (.int .i64), .v 12 (.int .i64)], fx := [(3, .box 0 0)], ks := [1], exs := [⟨.normal, [], []⟩, ⟨.ret, [.v 6 .bool], []⟩], keep := [] }
noncomputable def Fr36_breaks_0 (N : Nat) : Pr36_breaks_0.F := fun x => r36_breaks_0 N x.1 x.2.1 x.2.2.1 x.2.2.2.1 x.2.2.2.2.1
theorem cr36_breaks_0 (N : Nat) : CC (X69 N) (bodyOf Try.f60) Pr36_breaks_0 (Fr36_breaks_0 N) := CC.of (cok69 N) (us := ur36_breaks_7 N) (fun u h _ => okur36_breaks_7 N u h) (fun x => by kernel_rfl)
noncomputable def ur36_breaks_0 (N : Nat) : List (Pc D) := Pr36_breaks_0.pc (X69 N) (Fr36_breaks_0 N) :: ur36_breaks_7 N
theorem okur36_breaks_0 (N : Nat) : ∀ u ∈ ur36_breaks_0 N, PcOk (X69 N) (bodyOf Try.f60) u := pc_cons ((cr36_breaks_0 N).pc (by kernel_rfl)) (okur36_breaks_7 N)
noncomputable def dr36_breaks : FD D := { f := 60, np := 3, ins := [.v 0 (.agg 32), .v 1 (.sl 36), .v 2 (.int .i64)], fx := [], rcv := none, rk := 0, outs := [.v 6 .bool], ofx := [], rvs := [.tmp 6], flat := true }
noncomputable def Fr36_breaks (N : Nat) : dr36_breaks.F := fun r x => r36_breaks N x.1 x.2.1 x.2.2.1
theorem or36_breaks (N : Nat) : FOk Try.prog (X69 N) dr36_breaks (Fr36_breaks N) := ⟨⟨Try.f60, _, Try.func60, rfl, by kernel_rfl, by kernel_rfl, rfl, FC.of (cok69 N) (us := ur36_breaks_0 N) (fun u h _ => okur36_breaks_0 N u h) (fun r x => by kernel_rfl)⟩, by kernel_rfl, by kernel_rfl, by kernel_rfl, by kernel_rfl⟩
noncomputable def fs70 (N : Nat) : List (FE D) := ⟨dr36_breaks, Fr36_breaks N⟩ :: fs69 N
theorem all70 (N : Nat) : ∀ y ∈ fs70 N, CallOk X0 y.d y.F := all_cons (x := ⟨dr36_breaks, Fr36_breaks N⟩) (or36_breaks N) (all69 N)
noncomputable def X70 (N : Nat) : Ev Try.prog D := X0.with (fs70 N)
theorem cok70 (N : Nat) : COk (X70 N) := COk.of (all70 N)
/-! ### humpyard/humpyardref36.place -/
noncomputable def u0_r36_place (N : Nat) : List (Pc D) := []
theorem oku0_r36_place (N : Nat) : ∀ u ∈ u0_r36_place N, PcOk (X70 N) (bodyOf Try.f35) u := pc_nil
noncomputable def Pr36_place_0 : PD D := { path := [1, 1, 0, 1, 0, 1, 0, 0, 1, 0], ins := [.o 3 (.box 32), .v 7 (.int .i64), .o 8 (.box 59)], fx := [(3, .box 0 0), (8, .box 1 0)], ks := [1, 1], exs := [⟨.normal, [.v 34 .bool], []⟩], keep := [7] }
noncomputable def Fr36_place_0 (N : Nat) : Pr36_place_0.F := fun x => r36_place_0 N x.1 x.2.1 x.2.2.1
theorem cr36_place_0 (N : Nat) : CC (X70 N) (bodyOf Try.f35) Pr36_place_0 (Fr36_place_0 N) := CC.of (cok70 N) (us := u0_r36_place N) (fun u h _ => oku0_r36_place N u h) (fun x => by kernel_rfl)
noncomputable def ur36_place_0 (N : Nat) : List (Pc D) := Pr36_place_0.pc (X70 N) (Fr36_place_0 N) :: u0_r36_place N
theorem okur36_place_0 (N : Nat) : ∀ u ∈ ur36_place_0 N, PcOk (X70 N) (bodyOf Try.f35) u := pc_cons ((cr36_place_0 N).pc (by kernel_rfl)) (oku0_r36_place N)
noncomputable def Pr36_place_3 : PD D := { path := [1, 1, 0, 1, 0, 1, 1, 1, 0, 1, 1, 0, 1, 0, 0, 1, 0, 0, 0], ins := [.v 1 (.sl 36), .v 2 (.sl 3), .o 3 (.box 32), .v 12 (.int .i64)], fx := [(3, .box 0 0)], ks := [1], exs := [⟨.normal, [.v 61 .bool], []⟩], keep := [1, 2, 3, 7, 10, 11, 12] }
noncomputable def Fr36_place_3 (N : Nat) : Pr36_place_3.F := fun x => r36_place_3 N x.1 x.2.1 x.2.2.2.1
theorem cr36_place_3 (N : Nat) : CC (X70 N) (bodyOf Try.f35) Pr36_place_3 (Fr36_place_3 N) := CC.of (cok70 N) (us := ur36_place_0 N) (fun u h _ => okur36_place_0 N u h) (fun x => by kernel_rfl)
noncomputable def ur36_place_3 (N : Nat) : List (Pc D) := Pr36_place_3.pc (X70 N) (Fr36_place_3 N) :: ur36_place_0 N
theorem okur36_place_3 (N : Nat) : ∀ u ∈ ur36_place_3 N, PcOk (X70 N) (bodyOf Try.f35) u := pc_cons ((cr36_place_3 N).pc (by kernel_rfl)) (okur36_place_0 N)
noncomputable def Pr36_place_2 : PD D := { path := [1, 1, 0, 1, 0, 1, 1, 1, 0, 1, 1, 0, 1, 0, 0, 1, 0], ins := [.v 1 (.sl 36), .v 2 (.sl 3), .o 3 (.box 32), .v 11 (.int .i64), .v 12 (.int .i64)], fx := [(3, .box 0 0)], ks := [1], exs := [⟨.normal, [.v 11 (.int .i64)], []⟩], keep := [1, 2, 3, 7, 10, 12] }
noncomputable def Fr36_place_2 (N : Nat) : Pr36_place_2.F := fun x => r36_place_2 N x.1 x.2.1 x.2.2.2.1 x.2.2.2.2.1
theorem cr36_place_2 (N : Nat) : CC (X70 N) (bodyOf Try.f35) Pr36_place_2 (Fr36_place_2 N) := CC.of (cok70 N) (us := ur36_place_3 N) (fun u h _ => okur36_place_3 N u h) (fun x => by kernel_rfl)
noncomputable def ur36_place_2 (N : Nat) : List (Pc D) := Pr36_place_2.pc (X70 N) (Fr36_place_2 N) :: ur36_place_3 N
theorem okur36_place_2 (N : Nat) : ∀ u ∈ ur36_place_2 N, PcOk (X70 N) (bodyOf Try.f35) u := pc_cons ((cr36_place_2 N).pc (by kernel_rfl)) (okur36_place_3 N)
noncomputable def Pr36_place_1 : PD D := { path := [1, 1, 0, 1, 0, 1, 1, 1, 0, 1, 1, 0, 1, 0], ins := [.v 1 (.sl 36), .v 2 (.sl 3), .o 3 (.box 32), .v 7 (.int .i64), .v 11 (.int .i64), .v 12 (.int .i64)], fx := [(3, .box 0 0)], ks := [1], exs := [⟨.exit 1, [.v 11 (.int .i64)], []⟩], keep := [3, 7, 10] }
noncomputable def Fr36_place_1 (N n : Nat) : Pr36_place_1.F := fun x => r36_place_1 N x.1 x.2.1 x.2.2.2.1 n x.2.2.2.2.1 x.2.2.2.2.2.1
theorem cr36_place_1 (N n : Nat) : CC (X70 N) (bodyOf Try.f35) Pr36_place_1 (Fr36_place_1 N n) := CC.loop (cok70 N) (us := ur36_place_2 N) (c := sub (bodyOf Try.f35) [1, 1, 0, 1, 0, 1, 1, 1, 0, 1, 1, 0, 1, 0, 0]) (by kernel_rfl) (by kernel_rfl) (fun u h _ => okur36_place_2 N u h) (fun x => rfl) (fun n x => by kernel_rfl) n
noncomputable def ur36_place_1 (N : Nat) : List (Pc D) := Pr36_place_1.pc (X70 N) (Fr36_place_1 N N) :: ur36_place_2 N
theorem okur36_place_1 (N : Nat) : ∀ u ∈ ur36_place_1 N, PcOk (X70 N) (bodyOf Try.f35) u := pc_cons ((cr36_place_1 N N).pc (by kernel_rfl)) (okur36_place_2 N)
noncomputable def Pr36_place_4 : PD D := { path := [1, 1, 1, 0, 1, 0], ins := [.v 1 (.sl 36), .o 3 (.box 32), .v 7 (.int .i64), .v 13 (.int .i64)], fx := [(3, .box 0 0)], ks := [1], exs := [⟨.exit 3, [], []⟩, ⟨.ret, [.v 6 (.int .i64)], []⟩], keep := [] }
noncomputable def Fr36_place_4 (N n : Nat) : Pr36_place_4.F := fun x => r36_place_4 N x.1 x.2.1 x.2.2.1 n x.2.2.2.1
theorem cr36_place_4 (N n : Nat) : CC (X70 N) (bodyOf Try.f35) Pr36_place_4 (Fr36_place_4 N n) := CC.loop (cok70 N) (us := ur36_place_1 N) (c := sub (bodyOf Try.f35) [1, 1, 1, 0, 1, 0, 0]) (by kernel_rfl) (by kernel_rfl) (fun u h _ => okur36_place_1 N u h) (fun x => rfl) (fun n x => by kernel_rfl) n
noncomputable def ur36_place_4 (N : Nat) : List (Pc D) := Pr36_place_4.pc (X70 N) (Fr36_place_4 N N) :: ur36_place_1 N
theorem okur36_place_4 (N : Nat) : ∀ u ∈ ur36_place_4 N, PcOk (X70 N) (bodyOf Try.f35) u := pc_cons ((cr36_place_4 N N).pc (by kernel_rfl)) (okur36_place_1 N)
noncomputable def dr36_place : FD D := { f := 35, np := 3, ins := [.v 0 (.agg 32), .v 1 (.sl 36), .v 2 (.sl 3)], fx := [], rcv := none, rk := 0, outs := [.v 6 (.int .i64)], ofx := [], rvs := [.tmp 6], flat := true }
noncomputable def Fr36_place (N : Nat) : dr36_place.F := fun r x => r36_place N x.1 x.2.1 x.2.2.1
theorem or36_place (N : Nat) : FOk Try.prog (X70 N) dr36_place (Fr36_place N) := ⟨⟨Try.f35, _, Try.func35, rfl, by kernel_rfl, by kernel_rfl, rfl, FC.of (cok70 N) (us := ur36_place_4 N) (fun u h _ => okur36_place_4 N u h) (fun r x => by kernel_rfl)⟩, by kernel_rfl, by kernel_rfl, by kernel_rfl, by kernel_rfl⟩
noncomputable def fs71 (N : Nat) : List (FE D) := ⟨dr36_place, Fr36_place N⟩ :: fs70 N
theorem all71 (N : Nat) : ∀ y ∈ fs71 N, CallOk X0 y.d y.F := all_cons (x := ⟨dr36_place, Fr36_place N⟩) (or36_place N) (all70 N)
noncomputable def X71 (N : Nat) : Ev Try.prog D := X0.with (fs71 N)
theorem cok71 (N : Nat) : COk (X71 N) := COk.of (all71 N)
/-! ### humpyard/humpyardref36.Check -/
noncomputable def u0_r36_Check (N : Nat) : List (Pc D) := []
theorem oku0_r36_Check (N : Nat) : ∀ u ∈ u0_r36_Check N, PcOk (X71 N) (bodyOf Try.f24) u := pc_nil
noncomputable def Pr36_Check_0 : PD D := { path := [1, 1, 1, 0, 1, 0], ins := [.v 0 (.sl 32), .v 1 (.sl 36), .v 2 (.sl 3), .v 12 (.int .i64)], fx := [], ks := [], exs := [⟨.exit 0, [], []⟩, ⟨.ret, [.v 6 (.int .i64), .v 7 (.int .i64), .v 8 (.int .i64)], []⟩], keep := [] }
noncomputable def Fr36_Check_0 (N n : Nat) : Pr36_Check_0.F := fun x => r36_Check_0 N x.1 x.2.1 x.2.2.1 n x.2.2.2.1
theorem cr36_Check_0 (N n : Nat) : CC (X71 N) (bodyOf Try.f24) Pr36_Check_0 (Fr36_Check_0 N n) := CC.loop (cok71 N) (us := u0_r36_Check N) (c := sub (bodyOf Try.f24) [1, 1, 1, 0, 1, 0, 0]) (by kernel_rfl) (by kernel_rfl) (fun u h _ => oku0_r36_Check N u h) (fun x => rfl) (fun n x => by kernel_rfl) n
noncomputable def ur36_Check_0 (N : Nat) : List (Pc D) := Pr36_Check_0.pc (X71 N) (Fr36_Check_0 N N) :: u0_r36_Check N
theorem okur36_Check_0 (N : Nat) : ∀ u ∈ ur36_Check_0 N, PcOk (X71 N) (bodyOf Try.f24) u := pc_cons ((cr36_Check_0 N N).pc (by kernel_rfl)) (oku0_r36_Check N)
noncomputable def dr36_Check : FD D := { f := 24, np := 3, ins := [.v 0 (.sl 32), .v 1 (.sl 36), .v 2 (.sl 3)], fx := [], rcv := none, rk := 0, outs := [.v 6 (.int .i64), .v 7 (.int .i64), .v 8 (.int .i64)], ofx := [], rvs := [.tmp 6, .tmp 7, .tmp 8], flat := true }
noncomputable def Fr36_Check (N : Nat) : dr36_Check.F := fun r x => r36_Check N x.1 x.2.1 x.2.2.1
theorem or36_Check (N : Nat) : FOk Try.prog (X71 N) dr36_Check (Fr36_Check N) := ⟨⟨Try.f24, _, Try.func24, rfl, by kernel_rfl, by kernel_rfl, rfl, FC.of (cok71 N) (us := ur36_Check_0 N) (fun u h _ => okur36_Check_0 N u h) (fun r x => by kernel_rfl)⟩, by kernel_rfl, by kernel_rfl, by kernel_rfl, by kernel_rfl⟩
noncomputable def fs72 (N : Nat) : List (FE D) := ⟨dr36_Check, Fr36_Check N⟩ :: fs71 N
theorem all72 (N : Nat) : ∀ y ∈ fs72 N, CallOk X0 y.d y.F := all_cons (x := ⟨dr36_Check, Fr36_Check N⟩) (or36_Check N) (all71 N)
noncomputable def X72 (N : Nat) : Ev Try.prog D := X0.with (fs72 N)
theorem cok72 (N : Nat) : COk (X72 N) := COk.of (all72 N)
/-! ### humpyard/rulebook.Place -/
noncomputable def u0_rulebook_Place (N : Nat) : List (Pc D) := []
theorem oku0_rulebook_Place (N : Nat) : ∀ u ∈ u0_rulebook_Place N, PcOk (X72 N) (bodyOf Try.f19) u := pc_nil
noncomputable def drulebook_Place : FD D := { f := 19, np := 3, ins := [.v 0 (.agg 32), .v 1 (.sl 36), .v 2 (.sl 3)], fx := [], rcv := none, rk := 0, outs := [.v 6 (.int .i64), .v 7 (.int .i64)], ofx := [], rvs := [.tmp 6, .tmp 7], flat := true }
noncomputable def Frulebook_Place (N : Nat) : drulebook_Place.F := fun r x => rulebook_Place N x.1 x.2.1 x.2.2.1
theorem orulebook_Place (N : Nat) : FOk Try.prog (X72 N) drulebook_Place (Frulebook_Place N) := ⟨⟨Try.f19, _, Try.func19, rfl, by kernel_rfl, by kernel_rfl, rfl, FC.of (cok72 N) (us := u0_rulebook_Place N) (fun u h _ => oku0_rulebook_Place N u h) (fun r x => by kernel_rfl)⟩, by kernel_rfl, by kernel_rfl, by kernel_rfl, by kernel_rfl⟩
noncomputable def fs73 (N : Nat) : List (FE D) := ⟨drulebook_Place, Frulebook_Place N⟩ :: fs72 N
theorem all73 (N : Nat) : ∀ y ∈ fs73 N, CallOk X0 y.d y.F := all_cons (x := ⟨drulebook_Place, Frulebook_Place N⟩) (orulebook_Place N) (all72 N)
noncomputable def X73 (N : Nat) : Ev Try.prog D := X0.with (fs73 N)
theorem cok73 (N : Nat) : COk (X73 N) := COk.of (all73 N)
/-! ### humpyard/humpyardref36.Place -/
noncomputable def u0_r36_Place (N : Nat) : List (Pc D) := []
theorem oku0_r36_Place (N : Nat) : ∀ u ∈ u0_r36_Place N, PcOk (X73 N) (bodyOf Try.f25) u := pc_nil
noncomputable def dr36_Place : FD D := { f := 25, np := 3, ins := [.v 0 (.agg 32), .v 1 (.sl 36), .v 2 (.sl 3)], fx := [], rcv := none, rk := 0, outs := [.v 6 (.int .i64), .v 7 (.int .i64)], ofx := [], rvs := [.tmp 6, .tmp 7], flat := true }
noncomputable def Fr36_Place (N : Nat) : dr36_Place.F := fun r x => r36_Place N x.1 x.2.1 x.2.2.1
theorem or36_Place (N : Nat) : FOk Try.prog (X73 N) dr36_Place (Fr36_Place N) := ⟨⟨Try.f25, _, Try.func25, rfl, by kernel_rfl, by kernel_rfl, rfl, FC.of (cok73 N) (us := u0_r36_Place N) (fun u h _ => oku0_r36_Place N u h) (fun r x => by kernel_rfl)⟩, by kernel_rfl, by kernel_rfl, by kernel_rfl, by kernel_rfl⟩
noncomputable def fs74 (N : Nat) : List (FE D) := ⟨dr36_Place, Fr36_Place N⟩ :: fs73 N
theorem all74 (N : Nat) : ∀ y ∈ fs74 N, CallOk X0 y.d y.F := all_cons (x := ⟨dr36_Place, Fr36_Place N⟩) (or36_Place N) (all73 N)
noncomputable def X74 (N : Nat) : Ev Try.prog D := X0.with (fs74 N)
theorem cok74 (N : Nat) : COk (X74 N) := COk.of (all74 N)
/-! ### humpyard/humpyardlaw36.exact -/
noncomputable def u0_l36_exact (N : Nat) : List (Pc D) := []
theorem oku0_l36_exact (N : Nat) : ∀ u ∈ u0_l36_exact N, PcOk (X74 N) (bodyOf Try.f16) u := pc_nil
noncomputable def Pl36_exact_1 : PD D := { path := [1, 1, 1, 0, 1, 0, 0, 1, 0, 0, 1, 1, 0], ins := [.v 14 (.int .i64), .v 15 (.int .i64), .v 16 (.int .i64), .v 17 (.int .i64)], fx := [], ks := [], exs := [⟨.normal, [.v 67 .bool], []⟩], keep := [0, 1, 2, 7, 8, 9, 10, 11, 12, 13] }
noncomputable def Fl36_exact_1 (N : Nat) : Pl36_exact_1.F := fun x => l36_exact_1 N x.1 x.2.1 x.2.2.1 x.2.2.2.1
theorem cl36_exact_1 (N : Nat) : CC (X74 N) (bodyOf Try.f16) Pl36_exact_1 (Fl36_exact_1 N) := CC.of (cok74 N) (us := u0_l36_exact N) (fun u h _ => oku0_l36_exact N u h) (fun x => by kernel_rfl)
noncomputable def ul36_exact_1 (N : Nat) : List (Pc D) := Pl36_exact_1.pc (X74 N) (Fl36_exact_1 N) :: u0_l36_exact N
theorem okul36_exact_1 (N : Nat) : ∀ u ∈ ul36_exact_1 N, PcOk (X74 N) (bodyOf Try.f16) u := pc_cons ((cl36_exact_1 N).pc (by kernel_rfl)) (oku0_l36_exact N)
noncomputable def Pl36_exact_0 : PD D := { path := [1, 1, 1, 0, 1, 0], ins := [.v 0 (.sl 32), .v 1 (.sl 36), .v 2 (.sl 3), .v 13 (.int .i64)], fx := [], ks := [], exs := [⟨.exit 0, [], []⟩, ⟨.ret, [.v 6 .bool], []⟩], keep := [0, 7, 8, 9, 10, 11, 12] }
noncomputable def Fl36_exact_0 (N n : Nat) : Pl36_exact_0.F := fun x => l36_exact_0 N x.1 x.2.1 x.2.2.1 n x.2.2.2.1
theorem cl36_exact_0 (N n : Nat) : CC (X74 N) (bodyOf Try.f16) Pl36_exact_0 (Fl36_exact_0 N n) := CC.loop (cok74 N) (us := ul36_exact_1 N) (c := sub (bodyOf Try.f16) [1, 1, 1, 0, 1, 0, 0]) (by kernel_rfl) (by kernel_rfl) (fun u h _ => okul36_exact_1 N u h) (fun x => rfl) (fun n x => by kernel_rfl) n
noncomputable def ul36_exact_0 (N : Nat) : List (Pc D) := Pl36_exact_0.pc (X74 N) (Fl36_exact_0 N N) :: ul36_exact_1 N
theorem okul36_exact_0 (N : Nat) : ∀ u ∈ ul36_exact_0 N, PcOk (X74 N) (bodyOf Try.f16) u := pc_cons ((cl36_exact_0 N N).pc (by kernel_rfl)) (okul36_exact_1 N)
noncomputable def Pl36_exact_2 : PD D := { path := [1, 1, 1, 1, 0], ins := [.v 0 (.sl 32), .v 7 (.int .i64), .v 8 (.int .i64), .v 9 (.int .i64), .v 10 (.int .i64), .v 11 (.int .i64), .v 12 (.int .i64)], fx := [], ks := [], exs := [⟨.normal, [.v 6 .bool], []⟩], keep := [] }
noncomputable def Fl36_exact_2 (N : Nat) : Pl36_exact_2.F := fun x => l36_exact_2 N x.1 x.2.1 x.2.2.1 x.2.2.2.1 x.2.2.2.2.1 x.2.2.2.2.2.1 x.2.2.2.2.2.2.1
theorem cl36_exact_2 (N : Nat) : CC (X74 N) (bodyOf Try.f16) Pl36_exact_2 (Fl36_exact_2 N) := CC.of (cok74 N) (us := ul36_exact_0 N) (fun u h _ => okul36_exact_0 N u h) (fun x => by kernel_rfl)
noncomputable def ul36_exact_2 (N : Nat) : List (Pc D) := Pl36_exact_2.pc (X74 N) (Fl36_exact_2 N) :: ul36_exact_0 N
theorem okul36_exact_2 (N : Nat) : ∀ u ∈ ul36_exact_2 N, PcOk (X74 N) (bodyOf Try.f16) u := pc_cons ((cl36_exact_2 N).pc (by kernel_rfl)) (okul36_exact_0 N)
noncomputable def dl36_exact : FD D := { f := 16, np := 3, ins := [.v 0 (.sl 32), .v 1 (.sl 36), .v 2 (.sl 3)], fx := [], rcv := none, rk := 0, outs := [.v 6 .bool], ofx := [], rvs := [.tmp 6], flat := true }
noncomputable def Fl36_exact (N : Nat) : dl36_exact.F := fun r x => l36_exact N x.1 x.2.1 x.2.2.1
theorem ol36_exact (N : Nat) : FOk Try.prog (X74 N) dl36_exact (Fl36_exact N) := ⟨⟨Try.f16, _, Try.func16, rfl, by kernel_rfl, by kernel_rfl, rfl, FC.of (cok74 N) (us := ul36_exact_2 N) (fun u h _ => okul36_exact_2 N u h) (fun r x => by kernel_rfl)⟩, by kernel_rfl, by kernel_rfl, by kernel_rfl, by kernel_rfl⟩
noncomputable def fs75 (N : Nat) : List (FE D) := ⟨dl36_exact, Fl36_exact N⟩ :: fs74 N
theorem all75 (N : Nat) : ∀ y ∈ fs75 N, CallOk X0 y.d y.F := all_cons (x := ⟨dl36_exact, Fl36_exact N⟩) (ol36_exact N) (all74 N)
noncomputable def X75 (N : Nat) : Ev Try.prog D := X0.with (fs75 N)
theorem cok75 (N : Nat) : COk (X75 N) := COk.of (all75 N)
/-! ### humpyard/humpyardlaw36.wagon -/
noncomputable def u0_l36_wagon (N : Nat) : List (Pc D) := []
theorem oku0_l36_wagon (N : Nat) : ∀ u ∈ u0_l36_wagon N, PcOk (X75 N) (bodyOf Try.f28) u := pc_nil
noncomputable def dl36_wagon : FD D := { f := 28, np := 2, ins := [.v 0 (.int .i64), .v 1 (.int .i64)], fx := [], rcv := none, rk := 0, outs := [.v 1000000 (.agg 36)], ofx := [], rvs := [.cell 4 36], flat := true }
noncomputable def Fl36_wagon (N : Nat) : dl36_wagon.F := fun r x => l36_wagon N x.1 x.2.1
theorem ol36_wagon (N : Nat) : FOk Try.prog (X75 N) dl36_wagon (Fl36_wagon N) := ⟨⟨Try.f28, _, Try.func28, rfl, by kernel_rfl, by kernel_rfl, rfl, FC.of (cok75 N) (us := u0_l36_wagon N) (fun u h _ => oku0_l36_wagon N u h) (fun r x => by kernel_rfl)⟩, by kernel_rfl, by kernel_rfl, by kernel_rfl, by kernel_rfl⟩
noncomputable def fs76 (N : Nat) : List (FE D) := ⟨dl36_wagon, Fl36_wagon N⟩ :: fs75 N
theorem all76 (N : Nat) : ∀ y ∈ fs76 N, CallOk X0 y.d y.F := all_cons (x := ⟨dl36_wagon, Fl36_wagon N⟩) (ol36_wagon N) (all75 N)
noncomputable def X76 (N : Nat) : Ev Try.prog D := X0.with (fs76 N)
theorem cok76 (N : Nat) : COk (X76 N) := COk.of (all76 N)
/-! ### humpyard/humpyardlaw36.sane -/
noncomputable def u0_l36_sane (N : Nat) : List (Pc D) := []
theorem oku0_l36_sane (N : Nat) : ∀ u ∈ u0_l36_sane N, PcOk (X76 N) (bodyOf Try.f17) u := pc_nil
noncomputable def Pl36_sane_0 : PD D := { path := [1, 1, 1, 1, 1, 1, 0], ins := [.o 2 (.sl 32), .v 3 (.int .i64), .v 4 (.int .i64), .v 5 (.int .i64), .v 6 (.int .i64), .v 7 (.int .i64), .v 8 (.int .i64), .v 9 (.int .i64), .v 10 (.int .i64)], fx := [(2, .c (.own 0))], ks := [0], exs := [⟨.normal, [.v 0 .bool], []⟩], keep := [] }
noncomputable def Fl36_sane_0 (N : Nat) : Pl36_sane_0.F := fun x => l36_sane_0 N x.1 x.2.1 x.2.2.1 x.2.2.2.1 x.2.2.2.2.1 x.2.2.2.2.2.1 x.2.2.2.2.2.2.1 x.2.2.2.2.2.2.2.1 x.2.2.2.2.2.2.2.2.1
theorem cl36_sane_0 (N : Nat) : CC (X76 N) (bodyOf Try.f17) Pl36_sane_0 (Fl36_sane_0 N) := CC.of (cok76 N) (us := u0_l36_sane N) (fun u h _ => oku0_l36_sane N u h) (fun x => by kernel_rfl)
noncomputable def ul36_sane_0 (N : Nat) : List (Pc D) := Pl36_sane_0.pc (X76 N) (Fl36_sane_0 N) :: u0_l36_sane N
theorem okul36_sane_0 (N : Nat) : ∀ u ∈ ul36_sane_0 N, PcOk (X76 N) (bodyOf Try.f17) u := pc_cons ((cl36_sane_0 N).pc (by kernel_rfl)) (oku0_l36_sane N)
noncomputable def dl36_sane : FD D := { f := 17, np := 0, ins := [], fx := [], rcv := none, rk := 0, outs := [.v 0 .bool], ofx := [], rvs := [.tmp 0], flat := true }
noncomputable def Fl36_sane (N : Nat) : dl36_sane.F := fun r x => l36_sane N
theorem ol36_sane (N : Nat) : FOk Try.prog (X76 N) dl36_sane (Fl36_sane N) := ⟨⟨Try.f17, _, Try.func17, rfl, by kernel_rfl, by kernel_rfl, rfl, FC.of (cok76 N) (us := ul36_sane_0 N) (fun u h _ => okul36_sane_0 N u h) (fun r x => by kernel_rfl)⟩, by kernel_rfl, by kernel_rfl, by kernel_rfl, by kernel_rfl⟩
noncomputable def fs77 (N : Nat) : List (FE D) := ⟨dl36_sane, Fl36_sane N⟩ :: fs76 N
theorem all77 (N : Nat) : ∀ y ∈ fs77 N, CallOk X0 y.d y.F := all_cons (x := ⟨dl36_sane, Fl36_sane N⟩) (ol36_sane N) (all76 N)
noncomputable def X77 (N : Nat) : Ev Try.prog D := X0.with (fs77 N)
theorem cok77 (N : Nat) : COk (X77 N) := COk.of (all77 N)
/-! ### humpyard/humpyardlaw36.RulebookExact -/
noncomputable def u0_l36_RulebookExact (N : Nat) : List (Pc D) := []
theorem oku0_l36_RulebookExact (N : Nat) : ∀ u ∈ u0_l36_RulebookExact N, PcOk (X77 N) (bodyOf Try.f3) u := pc_nil
noncomputable def Pl36_RulebookExact_1 : PD D := { path := [1, 1, 0, 1, 0, 0, 1, 0, 0, 1, 1, 0, 0], ins := [.o 9 (.box 52), .v 10 (.int .i64), .o 11 (.sl 32), .o 12 (.sl 36), .o 13 (.sl 3)], fx := [(9, .box 0 0), (11, .c (.own 1)), (12, .c (.own 2)), (13, .c (.own 3))], ks := [1, 1, 1, 1], exs := [⟨.normal, [.v 36 .bool], []⟩], keep := [1, 2, 3, 9, 10, 11, 12, 13] }
noncomputable def Fl36_RulebookExact_1 (N : Nat) : Pl36_RulebookExact_1.F := fun x => l36_RulebookExact_1 N x.2.1 x.2.2.1
theorem cl36_RulebookExact_1 (N : Nat) : CC (X77 N) (bodyOf Try.f3) Pl36_RulebookExact_1 (Fl36_RulebookExact_1 N) := CC.of (cok77 N) (us := u0_l36_RulebookExact N) (fun u h _ => oku0_l36_RulebookExact N u h) (fun x => by kernel_rfl)
noncomputable def ul36_RulebookExact_1 (N : Nat) : List (Pc D) := Pl36_RulebookExact_1.pc (X77 N) (Fl36_RulebookExact_1 N) :: u0_l36_RulebookExact N
theorem okul36_RulebookExact_1 (N : Nat) : ∀ u ∈ ul36_RulebookExact_1 N, PcOk (X77 N) (bodyOf Try.f3) u := pc_cons ((cl36_RulebookExact_1 N).pc (by kernel_rfl)) (oku0_l36_RulebookExact N)
noncomputable def Pl36_RulebookExact_2 : PD D := { path := [1, 1, 0, 1, 0, 0, 1, 0, 0, 1, 1, 0, 1], ins := [.o 9 (.box 52), .o 11 (.sl 32), .o 12 (.sl 36), .o 13 (.sl 3), .v 36 .bool], fx := [(9, .box 0 0), (11, .c (.own 1)), (12, .c (.own 2)), (13, .c (.own 3))], ks := [2, 2, 1, 1], exs := [⟨.normal, [.u 0 (.box 52), .u 1 (.sl 32)], []⟩], keep := [1, 2, 3, 9, 10, 11, 12, 13] }
noncomputable def Fl36_RulebookExact_2 (N : Nat) : Pl36_RulebookExact_2.F := fun x => l36_RulebookExact_2 N x.1 x.2.1 x.2.2.2.2.1
theorem cl36_RulebookExact_2 (N : Nat) : CC (X77 N) (bodyOf Try.f3) Pl36_RulebookExact_2 (Fl36_RulebookExact_2 N) := CC.of (cok77 N) (us := ul36_RulebookExact_1 N) (fun u h _ => okul36_RulebookExact_1 N u h) (fun x => by kernel_rfl)
noncomputable def ul36_RulebookExact_2 (N : Nat) : List (Pc D) := Pl36_RulebookExact_2.pc (X77 N) (Fl36_RulebookExact_2 N) :: ul36_RulebookExact_1 N
theorem okul36_RulebookExact_2 (N : Nat) : ∀ u ∈ ul36_RulebookExact_2 N, PcOk (X77 N) (bodyOf Try.f3) u := pc_cons ((cl36_RulebookExact_2 N).pc (by kernel_rfl)) (okul36_RulebookExact_1 N)
noncomputable def Pl36_RulebookExact_3 : PD D := { path := [1, 1, 0, 1, 0, 0, 1, 0, 0, 1, 1, 1, 0, 0], ins := [.o 9 (.box 52), .v 10 (.int .i64), .o 11 (.sl 32), .o 12 (.sl 36), .o 13 (.sl 3)], fx := [(9, .box 0 0), (11, .c (.own 1)), (12, .c (.own 2)), (13, .c (.own 3))], ks := [1, 1, 1, 1], exs := [⟨.normal, [.v 103 .bool], []⟩], keep := [1, 2, 3, 9, 10, 11, 12, 13] }
noncomputable def Fl36_RulebookExact_3 (N : Nat) : Pl36_RulebookExact_3.F := fun x => l36_RulebookExact_3 N x.2.1 x.2.2.2.1
theorem cl36_RulebookExact_3 (N : Nat) : CC (X77 N) (bodyOf Try.f3) Pl36_RulebookExact_3 (Fl36_RulebookExact_3 N) := CC.of (cok77 N) (us := ul36_RulebookExact_2 N) (fun u h _ => okul36_RulebookExact_2 N u h) (fun x => by kernel_rfl)
noncomputable def ul36_RulebookExact_3 (N : Nat) : List (Pc D) := Pl36_RulebookExact_3.pc (X77 N) (Fl36_RulebookExact_3 N) :: ul36_RulebookExact_2 N
theorem okul36_RulebookExact_3 (N : Nat) : ∀ u ∈ ul36_RulebookExact_3 N, PcOk (X77 N) (bodyOf Try.f3) u := pc_cons ((cl36_RulebookExact_3 N).pc (by kernel_rfl)) (okul36_RulebookExact_2 N)
noncomputable def Pl36_RulebookExact_4 : PD D := { path := [1, 1, 0, 1, 0, 0, 1, 0, 0, 1, 1, 1, 0, 1], ins := [.o 9 (.box 52), .o 11 (.sl 32), .o 12 (.sl 36), .o 13 (.sl 3), .v 103 .bool], fx := [(9, .box 0 0), (11, .c (.own 1)), (12, .c (.own 2)), (13, .c (.own 3))], ks := [2, 1, 2, 0], exs := [⟨.normal, [.u 0 (.box 52), .u 2 (.sl 36), .o 13 (.sl 3)], [(13, .c (.own 4))]⟩], keep := [1, 2, 3, 9, 10, 11, 12] }
noncomputable def Fl36_RulebookExact_4 (N : Nat) : Pl36_RulebookExact_4.F := fun x => l36_RulebookExact_4 N x.1 x.2.2.1 x.2.2.2.1 x.2.2.2.2.1
theorem cl36_RulebookExact_4 (N : Nat) : CC (X77 N) (bodyOf Try.f3) Pl36_RulebookExact_4 (Fl36_RulebookExact_4 N) := CC.of (cok77 N) (us := ul36_RulebookExact_3 N) (fun u h _ => okul36_RulebookExact_3 N u h) (fun x => by kernel_rfl)
noncomputable def ul36_RulebookExact_4 (N : Nat) : List (Pc D) := Pl36_RulebookExact_4.pc (X77 N) (Fl36_RulebookExact_4 N) :: ul36_RulebookExact_3 N
theorem okul36_RulebookExact_4 (N : Nat) : ∀ u ∈ ul36_RulebookExact_4 N, PcOk (X77 N) (bodyOf Try.f3) u := pc_cons ((cl36_RulebookExact_4 N).pc (by kernel_rfl)) (okul36_RulebookExact_3 N)
noncomputable def Pl36_RulebookExact_5 : PD D := { path := [1, 1, 0, 1, 0, 0, 1, 0, 0, 1, 1, 1, 1, 0], ins := [.v 1 (.sl 32), .o 9 (.box 52), .o 11 (.sl 32), .o 12 (.sl 36), .o 13 (.sl 3)], fx := [(9, .box 0 0), (11, .c (.own 1)), (12, .c (.own 2)), (13, .c (.own 3))], ks := [1, 1, 1, 1], exs := [⟨.normal, [.v 141 .bool], []⟩], keep := [1, 2, 3, 9, 10] }
noncomputable def Fl36_RulebookExact_5 (N : Nat) : Pl36_RulebookExact_5.F := fun x => l36_RulebookExact_5 N x.1 x.2.2.1 x.2.2.2.1 x.2.2.2.2.1
theorem cl36_RulebookExact_5 (N : Nat) : CC (X77 N) (bodyOf Try.f3) Pl36_RulebookExact_5 (Fl36_RulebookExact_5 N) := CC.of (cok77 N) (us := ul36_RulebookExact_4 N) (fun u h _ => okul36_RulebookExact_4 N u h) (fun x => by kernel_rfl)
noncomputable def ul36_RulebookExact_5 (N : Nat) : List (Pc D) := Pl36_RulebookExact_5.pc (X77 N) (Fl36_RulebookExact_5 N) :: ul36_RulebookExact_4 N
theorem okul36_RulebookExact_5 (N : Nat) : ∀ u ∈ ul36_RulebookExact_5 N, PcOk (X77 N) (bodyOf Try.f3) u := pc_cons ((cl36_RulebookExact_5 N).pc (by kernel_rfl)) (okul36_RulebookExact_4 N)
noncomputable def Pl36_RulebookExact_0 : PD D := { path := [1, 1, 0, 1, 0], ins := [.v 1 (.sl 32), .o 9 (.box 52), .v 10 (.int .i64)], fx := [(9, .box 0 0)], ks := [0], exs := [⟨.exit 0, [], []⟩, ⟨.ret, [.v 8 .bool], []⟩], keep := [1, 2, 3] }
noncomputable def Fl36_RulebookExact_0 (N n : Nat) : Pl36_RulebookExact_0.F := fun x => l36_RulebookExact_0 N x.1 n x.2.1 x.2.2.1
theorem cl36_RulebookExact_0 (N n : Nat) : CC (X77 N) (bodyOf Try.f3) Pl36_RulebookExact_0 (Fl36_RulebookExact_0 N n) := CC.loop (cok77 N) (us := ul36_RulebookExact_5 N) (c := sub (bodyOf Try.f3) [1, 1, 0, 1, 0, 0]) (by kernel_rfl) (by kernel_rfl) (fun u h _ => okul36_RulebookExact_5 N u h) (fun x => rfl) (fun n x => by kernel_rfl) n
noncomputable def ul36_RulebookExact_0 (N : Nat) : List (Pc D) := Pl36_RulebookExact_0.pc (X77 N) (Fl36_RulebookExact_0 N N) :: ul36_RulebookExact_5 N
theorem okul36_RulebookExact_0 (N : Nat) : ∀ u ∈ ul36_RulebookExact_0 N, PcOk (X77 N) (bodyOf Try.f3) u := pc_cons ((cl36_RulebookExact_0 N N).pc (by kernel_rfl)) (okul36_RulebookExact_5 N)
noncomputable def Pl36_RulebookExact_6 : PD D := { path := [1, 1, 1, 0, 0], ins := [.v 1 (.sl 32), .v 2 (.sl 36), .v 3 (.sl 3)], fx := [], ks := [], exs := [⟨.normal, [.v 154 .bool], []⟩], keep := [1, 2, 3] }
noncomputable def Fl36_RulebookExact_6 (N : Nat) : Pl36_RulebookExact_6.F := fun x => l36_RulebookExact_6 N x.1 x.2.1 x.2.2.1
theorem cl36_RulebookExact_6 (N : Nat) : CC (X77 N) (bodyOf Try.f3) Pl36_RulebookExact_6 (Fl36_RulebookExact_6 N) := CC.of (cok77 N) (us := ul36_RulebookExact_0 N) (fun u h _ => okul36_RulebookExact_0 N u h) (fun x => by kernel_rfl)
noncomputable def ul36_RulebookExact_6 (N : Nat) : List (Pc D) := Pl36_RulebookExact_6.pc (X77 N) (Fl36_RulebookExact_6 N) :: ul36_RulebookExact_0 N
theorem okul36_RulebookExact_6 (N : Nat) : ∀ u ∈ ul36_RulebookExact_6 N, PcOk (X77 N) (bodyOf Try.f3) u := pc_cons ((cl36_RulebookExact_6 N).pc (by kernel_rfl)) (okul36_RulebookExact_0 N)
noncomputable def Pl36_RulebookExact_7 : PD D := { path := [1, 1, 1, 1, 0], ins := [.v 1 (.sl 32), .v 2 (.sl 36), .v 3 (.sl 3)], fx := [], ks := [], exs := [⟨.normal, [.v 8 .bool], []⟩], keep := [] }
noncomputable def Fl36_RulebookExact_7 (N : Nat) : Pl36_RulebookExact_7.F := fun x => l36_RulebookExact_7 N x.1 x.2.1 x.2.2.1
theorem cl36_RulebookExact_7 (N : Nat) : CC (X77 N) (bodyOf Try.f3) Pl36_RulebookExact_7 (Fl36_RulebookExact_7 N) := CC.of (cok77 N) (us := ul36_RulebookExact_6 N) (fun u h _ => okul36_RulebookExact_6 N u h) (fun x => by kernel_rfl)
noncomputable def ul36_RulebookExact_7 (N : Nat) : List (Pc D) := Pl36_RulebookExact_7.pc (X77 N) (Fl36_RulebookExact_7 N) :: ul36_RulebookExact_6 N
theorem okul36_RulebookExact_7 (N : Nat) : ∀ u ∈ ul36_RulebookExact_7 N, PcOk (X77 N) (bodyOf Try.f3) u := pc_cons ((cl36_RulebookExact_7 N).pc (by kernel_rfl)) (okul36_RulebookExact_6 N)
noncomputable def dl36_RulebookExact : FD D := { f := 3, np := 4, ins := [.v 0 (.sl 3), .v 1 (.sl 32), .v 2 (.sl 36), .v 3 (.sl 3)], fx := [], rcv := none, rk := 0, outs := [.v 8 .bool], ofx := [], rvs := [.tmp 8], flat := true }
noncomputable def Fl36_RulebookExact (N : Nat) : dl36_RulebookExact.F := fun r x => l36_RulebookExact N x.1 x.2.1 x.2.2.1 x.2.2.2.1
theorem ol36_RulebookExact (N : Nat) : FOk Try.prog (X77 N) dl36_RulebookExact (Fl36_RulebookExact N) := ⟨⟨Try.f3, _, Try.func3, rfl, by kernel_rfl, by kernel_rfl, rfl, FC.of (cok77 N) (us := ul36_RulebookExact_7 N) (fun u h _ => okul36_RulebookExact_7 N u h) (fun r x => by kernel_rfl)⟩, by kernel_rfl, by kernel_rfl, by kernel_rfl, by kernel_rfl⟩
noncomputable def fs78 (N : Nat) : List (FE D) := ⟨dl36_RulebookExact, Fl36_RulebookExact N⟩ :: fs77 N
theorem all78 (N : Nat) : ∀ y ∈ fs78 N, CallOk X0 y.d y.F := all_cons (x := ⟨dl36_RulebookExact, Fl36_RulebookExact N⟩) (ol36_RulebookExact N) (all77 N)
noncomputable def X78 (N : Nat) : Ev Try.prog D := X0.with (fs78 N)
theorem cok78 (N : Nat) : COk (X78 N) := COk.of (all78 N)
end Go.W
end
section
set_option linter.unusedVariables false
set_option linter.unusedSimpArgs false
namespace Go.W
open Go.AM
theorem w64 {n : Int} (h : -9223372036854775808 ≤ n) (h' : n ≤ 9223372036854775807) : IntKind.wrap .i64 n = n := by rw [IntKind.wrap_i64]; omega
theorem w8 {n : Int} (h : 0 ≤ n) (h' : n ≤ 255) : IntKind.wrap .u8 n = n := by rw [IntKind.wrap_u8]; omega
theorem wrap64_lo (n : Int) : -9223372036854775808 ≤ IntKind.wrap .i64 n ∧ IntKind.wrap .i64 n ≤ 9223372036854775807 := by rw [IntKind.wrap_i64]; omega
theorem lt_def {α β : Type} (x : α) (f : α → Option β) : AM.lt x f = f x := rfl
theorem bind_some' {α β : Type} (x : α) (f : α → Option β) : Option.bind (some x) f = f x := rfl
theorem getI_ok {α : Type} {xs : List α} {i : Int} (h0 : 0 ≤ i) (h1 : i < xs.length) : ∃ x, getI xs i = some x ∧ x ∈ xs ∧ xs[i.toNat]? = some x := by
  have hlt : i.toNat < xs.length := by omega
  exact ⟨xs[i.toNat], by simp [getI, h0, hlt], by simp, by simp [hlt]⟩
/-- The maker's counter is in range. -/
def Mk (c : Int) (s : Maker) : Prop := 0 ≤ s.n ∧ s.n ≤ c
theorem next_ok (N : Nat) {c : Int} {s : Maker} (k : Int) (hk : 1 ≤ k) (hk2 : k ≤ 1000000) (hs : Mk c s) (hc : c ≤ 1000000000000) : ∃ r s', Maker_Next N s k = some (r, s') ∧ 0 ≤ r ∧ r < k ∧ Mk (c + 1) s' := by
  obtain ⟨h0, h1⟩ := hs
  have h15 : ∃ y, Maker_Next_0 N s 0 (decide (0 < (s.l.length : Int))) = some y := by
    unfold Maker_Next_0
    by_cases hl : 0 < (s.l.length : Int)
    · rw [if_pos (by simpa using hl)]
      have hne : (s.l.length : Int) ≠ 0 := by omega
      have hm : modI s.n s.l.length = some (s.n.tmod s.l.length) := by unfold modI; rw [if_neg hne]
      have hd : divI s.n s.l.length = some (s.n.tdiv s.l.length) := by unfold divI; rw [if_neg hne]
      have hr0 : 0 ≤ s.n.tmod s.l.length := Int.tmod_nonneg _ h0
      have hr1 : s.n.tmod s.l.length < s.l.length := Int.tmod_lt_of_pos _ hl
      obtain ⟨x, hx, _, _⟩ := getI_ok hr0 hr1
      rw [hm, bind_some', hx, bind_some', hd, bind_some', lt_def]
      exact ⟨_, rfl⟩
    · rw [if_neg (by simpa using hl)]
      exact ⟨_, rfl⟩
  obtain ⟨y, hy⟩ := h15
  unfold Maker_Next
  rw [hy, bind_some']
  have hm : modI y k = some (y.tmod k) := by simp [modI]; omega
  have hlt : y.tmod k < k := Int.tmod_lt_of_pos _ (by omega)
  have hgt : -k < y.tmod k := by
    have := Int.lt_tmod_of_pos y (by omega : 0 < k)
    omega
  have hn : IntKind.wrap .i64 (s.n + 1) = s.n + 1 := w64 (by omega) (by omega)
  simp only [hm, bind_some', hn]
  unfold Maker_Next_1
  by_cases hneg : y.tmod k < 0
  · rw [if_pos (by simpa using hneg), lt_def, bind_some', w64 (by omega) (by omega)]
    exact ⟨_, _, rfl, by omega, by omega, by constructor <;> simp <;> omega⟩
  · rw [if_neg (by simpa using hneg), bind_some']
    exact ⟨_, _, rfl, by omega, by omega, by constructor <;> simp <;> omega⟩
theorem pick_ok (N : Nat) {c : Int} {s : Maker} (l : List Int) (hl : 1 ≤ l.length) (hl2 : l.length ≤ 1000) (hs : Mk c s) (hc : c ≤ 1000000000000) : ∃ x s', Maker_Pick N s l = some (x, s') ∧ x ∈ l ∧ Mk (c + 1) s' := by
  obtain ⟨r, s', h1, h2, h3, h4⟩ := next_ok N (s := s) (c := c) (l.length : Int) (by omega) (by omega) hs hc
  obtain ⟨x, hx, hm, _⟩ := getI_ok h2 h3
  unfold Maker_Pick
  rw [h1, bind_some']
  simp only [hx, bind_some']
  exact ⟨x, s', rfl, hm, h4⟩
end Go.W
end
section
set_option linter.unusedVariables false
set_option linter.unusedSimpArgs false
namespace Go.W
open Go.AM
/-! ### Small things -/
theorem getI_nat {α : Type} {xs : List α} {i : Nat} {x : α} (h : xs[i]? = some x) : getI xs (i : Int) = some x := by simp [getI, h]
theorem at_lt {α : Type} {xs : List α} {i : Nat} (h : i < xs.length) : xs[i]? = some xs[i] := by simp [h]
theorem drop_at {α : Type} {xs : List α} {i : Nat} {x : α} (h : xs[i]? = some x) : xs.drop i = x :: xs.drop (i + 1) := by
  obtain ⟨hlt, rfl⟩ := List.getElem?_eq_some_iff.1 h
  exact List.drop_eq_getElem_cons hlt
theorem w64s {i : Nat} (h : i < 9223372036854775807) : IntKind.wrap .i64 ((i : Int) + 1) = ((i + 1 : Nat) : Int) := by rw [w64 (by omega) (by omega)]; omega
theorem w64p {i : Nat} (h : i < 9223372036854775807) : IntKind.wrap .i64 (((i + 1 : Nat) : Int) - 1) = (i : Int) := by rw [w64 (by omega) (by omega)]; omega
theorem bne00 : ((0 : Int) != 0) = false := rfl
theorem dpos {a b : Int} (h : a < b) : decide (a < b) = true := decide_eq_true h
theorem dneg {a b : Int} (h : ¬ a < b) : ¬ decide (a < b) = true := by simpa using h
theorem lpos {a b : Int} (h : a ≤ b) : decide (a ≤ b) = true := decide_eq_true h
theorem lneg {a b : Int} (h : ¬ a ≤ b) : ¬ decide (a ≤ b) = true := by simpa using h
theorem appI_ok {α : Type} {xs ys : List α} (h : xs.length + ys.length ≤ 4294967296) : appI xs ys = some (xs ++ ys) := if_pos h
theorem cutI_drop {α : Type} {xs : List α} {i : Nat} (h : i ≤ xs.length) : cutI xs (i : Int) (xs.length : Int) = some (xs.drop i) := by
  unfold cutI; rw [if_pos (by omega)]; simp
theorem cutI_take {α : Type} {xs : List α} {i : Nat} (h : i ≤ xs.length) : cutI xs 0 (i : Int) = some (xs.take i) := by
  unfold cutI; rw [if_pos (by omega)]; simp
theorem Mk.le {c c' : Int} {s : Maker} (h : Mk c s) (hc : c ≤ c') : Mk c' s := ⟨h.1, Int.le_trans h.2 hc⟩
theorem mk0 (t : List Int) : Mk 0 (Maker.mk t 0) := ⟨by simp, by simp⟩
/-! ### Digits -/
def isDig (u : UInt8) : Bool := decide (48 ≤ u.toNat) && decide (u.toNat ≤ 57)
theorem dig1 (N : Nat) {l : List UInt8} {i : Nat} {u : UInt8} (h : l[i]? = some u) : wagonnumber_digits_1 N l i = some (!isDig u) ∧ r02_digits_1 N l i = some (!isDig u) := by
  unfold wagonnumber_digits_1 r02_digits_1 isDig
  rw [getI_nat h]
  simp only [bind_some']
  by_cases h1 : u.toNat < 48
  · rw [if_pos (by simp; omega)]; simp [show ¬ 48 ≤ u.toNat by omega]
  · rw [if_neg (by simp; omega)]
    by_cases h2 : u.toNat ≤ 57
    · simp [show 48 ≤ u.toNat by omega, h2, show ¬ (57 : Int) < u.toNat by omega]
    · simp [show 48 ≤ u.toNat by omega, h2, show (57 : Int) < u.toNat by omega]
theorem pdig_loop (N : Nat) {l : List UInt8} (hl : l.length ≤ 9223372036854775807) : ∀ (k n i : Nat), k < n → i + k = l.length →
    wagonnumber_digits_0 N l n i = some (if (l.drop i).all isDig = true then .inl () else .inr false)
  | k, 0, i, hn, _ => by omega
  | 0, n + 1, i, hn, hi => by rw [wagonnumber_digits_0, if_neg (dneg (by omega)), List.drop_eq_nil_of_le (by omega)]; rfl
  | k + 1, n + 1, i, hn, hi => by
    have hlt : i < l.length := by omega
    rw [wagonnumber_digits_0, if_pos (dpos (by omega)), (dig1 N (at_lt hlt)).1, bind_some', drop_at (at_lt hlt), lt_def, w64s (by omega), pdig_loop N hl k n (i + 1) (by omega) (by omega), List.all_cons]
    by_cases h : isDig l[i] = true
    · simp only [h, Bool.not_true, Bool.false_eq_true, if_false, Bool.true_and]
    · simp only [Bool.not_eq_true] at h
      simp only [h, Bool.not_false, if_true, Bool.false_and, Bool.false_eq_true, if_false]
theorem rdig_loop (N : Nat) {l : List UInt8} (hl : l.length ≤ 9223372036854775807) : ∀ (k n i : Nat), k < n → i + k = l.length →
    r02_digits_0 N l l.length n i = some (if (l.drop i).all isDig = true then .inl () else .inr false)
  | k, 0, i, hn, _ => by omega
  | 0, n + 1, i, hn, hi => by rw [r02_digits_0, if_neg (dneg (by omega)), List.drop_eq_nil_of_le (by omega)]; rfl
  | k + 1, n + 1, i, hn, hi => by
    have hlt : i < l.length := by omega
    rw [r02_digits_0, if_pos (dpos (by omega)), (dig1 N (at_lt hlt)).2, bind_some', drop_at (at_lt hlt), lt_def, w64s (by omega), rdig_loop N hl k n (i + 1) (by omega) (by omega), List.all_cons]
    by_cases h : isDig l[i] = true
    · simp only [h, Bool.not_true, Bool.false_eq_true, if_false, Bool.true_and]
    · simp only [Bool.not_eq_true] at h
      simp only [h, Bool.not_false, if_true, Bool.false_and, Bool.false_eq_true, if_false]
/-- Do these bytes be 'n' digits? -/
def digs (l : List UInt8) (n : Nat) : Bool := decide (l.length = n) && l.all isDig
theorem pdigits (N : Nat) {l : List UInt8} (hN : l.length < N) (hl : l.length ≤ 9223372036854775807) (n : Nat) : wagonnumber_digits N l n = some (digs l n) := by
  unfold wagonnumber_digits digs
  have := pdig_loop N hl l.length N 0 hN (by omega)
  simp only [Int.natCast_zero, List.drop_zero] at this
  rw [this, bind_some']
  by_cases h : l.all isDig = true
  · rw [if_pos h]
    simp only [lt_def, h, Bool.and_true]
    congr 1
    rw [Bool.eq_iff_iff]; simp; omega
  · rw [if_neg h]
    simp only [Bool.not_eq_true] at h
    simp only [h, Bool.and_false]
theorem rdigits (N : Nat) {l : List UInt8} (hN : l.length < N) (hl : l.length ≤ 9223372036854775807) (n : Nat) : r02_digits N l n = some (digs l n) := by
  unfold r02_digits digs
  by_cases hn : l.length = n
  · subst hn
    rw [if_neg (by simp)]
    have := rdig_loop N hl l.length N 0 hN (by omega)
    simp only [Int.natCast_zero, List.drop_zero] at this
    rw [this, bind_some']
    by_cases h : l.all isDig = true
    · rw [if_pos h]; simp [h]
    · rw [if_neg h]
      simp only [Bool.not_eq_true] at h
      simp [h]
  · rw [if_pos (by simp; omega)]
    simp [hn]
/-! ### Sums -/
/-- What a digit counts: every other one is doubled, and its digits are added. -/
def dv (u : UInt8) (b : Bool) : Int := if b then (if 9 < 2 * ((u.toNat : Int) - 48) then 2 * ((u.toNat : Int) - 48) - 9 else 2 * ((u.toNat : Int) - 48)) else (u.toNat : Int) - 48
def sumD : List UInt8 → Bool → Int
  | [], _ => 0
  | u :: l, b => dv u b + sumD l (!b)
theorem isDig_iff {u : UInt8} : isDig u = true ↔ 48 ≤ u.toNat ∧ u.toNat ≤ 57 := by simp [isDig]
theorem dv_bound {u : UInt8} (h : isDig u = true) (b : Bool) : 0 ≤ dv u b ∧ dv u b ≤ 9 := by
  rw [isDig_iff] at h
  unfold dv
  cases b with
  | false => simp only [Bool.false_eq_true, if_false]; omega
  | true => simp only [if_true]; split <;> omega
theorem sumD_bound : ∀ {l : List UInt8} (b : Bool), l.all isDig = true → 0 ≤ sumD l b ∧ sumD l b ≤ 9 * l.length
  | [], b, _ => by simp [sumD]
  | u :: l, b, h => by
    simp only [List.all_cons, Bool.and_eq_true] at h
    have h1 := dv_bound h.1 b
    have h2 := sumD_bound (l := l) (!b) h.2
    simp only [sumD, List.length_cons]
    omega
theorem sum1 (N : Nat) {d : Int} (b : Bool) (h : 0 ≤ d ∧ d ≤ 9) : wagonnumber_sum_1 N d b = some (if b then (if 9 < 2 * d then 2 * d - 9 else 2 * d) else d) ∧ r02_sum_1 N d b = some (if b then (if 9 < 2 * d then 2 * d - 9 else 2 * d) else d) := by
  unfold wagonnumber_sum_1 r02_sum_1
  cases b with
  | false => exact ⟨rfl, rfl⟩
  | true =>
    simp only [if_true, lt_def]
    rw [w64 (n := d * 2) (by omega) (by omega), Int.mul_comm d 2]
    by_cases h9 : 9 < 2 * d
    · rw [if_pos (dpos h9), if_pos h9, w64 (by omega) (by omega)]; exact ⟨rfl, rfl⟩
    · rw [if_neg (dneg h9), if_neg h9]; exact ⟨rfl, rfl⟩
theorem par (i : Nat) : ((Int.tmod (i : Int) 2) == 0) = decide (i % 2 = 0) := by
  rw [Int.tmod_eq_emod_of_nonneg (by omega), Bool.eq_iff_iff]
  simp; omega
theorem par_s (i : Nat) : decide ((i + 1) % 2 = 0) = !decide (i % 2 = 0) := by
  by_cases h : i % 2 = 0
  · simp [h]; omega
  · simp [h]; omega
theorem sum_loop' (N : Nat) {l : List UInt8} (m : Nat) (hm : m ≤ l.length) (hl : m ≤ 100) (hd : (l.take m).all isDig = true) : ∀ (k n i : Nat) (s : Int), k < n → i + k = m → 0 ≤ s → s ≤ 9 * i →
    r02_sum_0 N l m n s i = some (s + sumD ((l.take m).drop i) (decide (i % 2 = 0))) ∧ (m = l.length → wagonnumber_sum_0 N l n s i = some (s + sumD ((l.take m).drop i) (decide (i % 2 = 0))))
  | k, 0, i, s, hn, _, _, _ => by omega
  | 0, n + 1, i, s, hn, hi, _, _ => by
    rw [r02_sum_0, wagonnumber_sum_0, if_neg (dneg (by omega)), List.drop_eq_nil_of_le (by rw [List.length_take]; omega)]
    refine ⟨by simp [sumD], fun h => ?_⟩
    rw [if_neg (dneg (by omega))]; simp [sumD]
  | k + 1, n + 1, i, s, hn, hi, h0, h9 => by
    have hlt : i < l.length := by omega
    have hg : (l.take m)[i]? = some l[i] := by rw [List.getElem?_take, if_pos (by omega)]; exact at_lt hlt
    have hdi : isDig l[i] = true := List.all_eq_true.1 hd _ (List.mem_of_getElem? hg)
    have hb := isDig_iff.1 hdi
    have e1 : IntKind.wrap .i64 (IntKind.wrap .u8 ((UInt8.toNat l[i] : Int) - 48)) = (l[i].toNat : Int) - 48 := by rw [w8 (by omega) (by omega), w64 (by omega) (by omega)]
    obtain ⟨s1, s2⟩ := sum1 N (d := (l[i].toNat : Int) - 48) (decide (i % 2 = 0)) (by omega)
    have hv : (if decide (i % 2 = 0) = true then (if 9 < 2 * ((l[i].toNat : Int) - 48) then 2 * ((l[i].toNat : Int) - 48) - 9 else 2 * ((l[i].toNat : Int) - 48)) else (l[i].toNat : Int) - 48) = dv l[i] (decide (i % 2 = 0)) := rfl
    rw [hv] at s1 s2
    have hdv := dv_bound hdi (decide (i % 2 = 0))
    have e2 : IntKind.wrap .i64 (s + dv l[i] (decide (i % 2 = 0))) = s + dv l[i] (decide (i % 2 = 0)) := w64 (by omega) (by omega)
    obtain ⟨i1, i2⟩ := sum_loop' N m hm hl hd k n (i + 1) (s + dv l[i] (decide (i % 2 = 0))) (by omega) (by omega) (by omega) (by omega)
    have hdrop : (l.take m).drop i = l[i] :: (l.take m).drop (i + 1) := drop_at hg
    constructor
    · rw [r02_sum_0, if_pos (dpos (by omega)), getI_nat (at_lt hlt), bind_some', lt_def, e1, par, s2, bind_some', lt_def, e2, lt_def, w64s (by omega), i1, hdrop, sumD, par_s]
      congr 1; omega
    · intro h
      rw [wagonnumber_sum_0, if_pos (dpos (by omega)), getI_nat (at_lt hlt), bind_some', lt_def, e1, par, s1, bind_some', lt_def, e2, lt_def, w64s (by omega), i2 h, hdrop, sumD, par_s]
      congr 1; omega
/-! ### Valid numbers -/
/-- The error of a number. -/
def numErr (l : List UInt8) : Int :=
  if digs l 12 = true then (if (sumD (l.take 11) true + (((l[11]?).map fun u => (u.toNat : Int) - 48).getD 0)) % 10 = 0 then 0 else 9) else 11
theorem numErr_ok (N : Nat) (h20 : 20 ≤ N) {l : List UInt8} (hN : l.length < N) (hl : l.length ≤ 9223372036854775807) : wagonnumber_Valid N l = some (numErr l) ∧ r02_Valid N l = some (numErr l) := by
  unfold wagonnumber_Valid r02_Valid numErr
  have hp := pdigits N hN hl 12
  have hr := rdigits N hN hl 12
  rw [show ((12 : Nat) : Int) = 12 from rfl] at hp hr
  rw [hp, hr, bind_some', bind_some']
  by_cases hd : digs l 12 = true
  · rw [hd]
    simp only [Bool.not_true, Bool.false_eq_true, if_false, if_true]
    simp only [digs, Bool.and_eq_true, decide_eq_true_eq] at hd
    obtain ⟨h12, hall⟩ := hd
    have h11 : l[11]? = some l[11] := at_lt (by omega)
    have hg : getI l 11 = some l[11] := getI_nat (i := 11) h11
    have hdi : isDig l[11] = true := List.all_eq_true.1 hall _ (List.getElem_mem (by omega))
    have hb := isDig_iff.1 hdi
    have htk : (l.take 11).all isDig = true := by
      rw [List.all_eq_true] at hall ⊢
      exact fun x hx => hall x (List.mem_of_mem_take hx)
    have hlt : (l.take 11).length = 11 := by rw [List.length_take]; omega
    have hcut : cutI l 0 11 = some (l.take 11) := cutI_take (i := 11) (by omega)
    obtain ⟨_, g1⟩ := sum_loop' N (l := l.take 11) 11 (by omega) (by omega) (by rw [List.take_of_length_le (by omega)]; exact htk) 11 N 0 0 (by omega) (by omega) (by omega) (by omega)
    obtain ⟨g2, _⟩ := sum_loop' N (l := l) 11 (by omega) (by omega) htk 11 N 0 0 (by omega) (by omega) (by omega) (by omega)
    have g1 := g1 hlt.symm
    rw [List.take_of_length_le (l := l.take 11) (by omega)] at g1
    simp only [Int.natCast_zero, List.drop_zero, Int.zero_add, Nat.zero_mod, decide_true] at g1 g2
    have hs := sumD_bound (l := l.take 11) true htk
    rw [hlt] at hs
    have e1 : IntKind.wrap .i64 (IntKind.wrap .u8 ((UInt8.toNat l[11] : Int) - 48)) = (l[11].toNat : Int) - 48 := by rw [w8 (by omega) (by omega), w64 (by omega) (by omega)]
    have hS : ∃ S, S = sumD (l.take 11) true := ⟨_, rfl⟩
    obtain ⟨S, hS⟩ := hS
    rw [← hS] at g1 g2 hs ⊢
    have t1 : Int.tmod S 10 = S % 10 := Int.tmod_eq_emod_of_nonneg (by omega)
    have e2 : Int.tmod (IntKind.wrap .i64 (10 - Int.tmod S 10)) 10 = (10 - S % 10) % 10 := by
      rw [t1, w64 (by omega) (by omega), Int.tmod_eq_emod_of_nonneg (by omega)]
    have e3 : Int.tmod (IntKind.wrap .i64 (S + ((l[11].toNat : Int) - 48))) 10 = (S + ((l[11].toNat : Int) - 48)) % 10 := by
      rw [w64 (by omega) (by omega), Int.tmod_eq_emod_of_nonneg (by omega)]
    rw [h11]
    simp only [Option.map_some, Option.getD_some]
    constructor
    · rw [hg, bind_some', hcut, bind_some']
      unfold wagonnumber_check wagonnumber_sum
      rw [g1, bind_some', bind_some', lt_def, bind_some', e1, e2]
      by_cases h : (S + ((l[11].toNat : Int) - 48)) % 10 = 0
      · rw [if_neg (by simp; omega), if_pos h]
      · rw [if_pos (by simp; omega), if_neg h]
    · unfold r02_sum
      rw [show (11 : Int) = ((11 : Nat) : Int) from rfl, g2, bind_some', bind_some', show ((11 : Nat) : Int) = 11 from rfl, hg, bind_some', e1, e3]
      by_cases h : (S + ((l[11].toNat : Int) - 48)) % 10 = 0
      · rw [if_neg (by simp [h]), if_pos h]
      · rw [if_pos (by simp [h]), if_neg h]
  · simp only [Bool.not_eq_true] at hd
    rw [hd]
    simp
/-- The kind that a number's fifth digit tells. -/
def kindOf (l : List UInt8) : Int := match l[4]? with
  | some u => if u.toNat = 55 ∨ u.toNat = 56 then 1 else if u.toNat = 50 ∨ u.toNat = 52 then 2 else if u.toNat = 57 then 3 else 0
  | none => 0
theorem kindOf_range (l : List UInt8) : kindOf l = 0 ∨ kindOf l = 1 ∨ kindOf l = 2 ∨ kindOf l = 3 := by
  unfold kindOf
  split
  · split
    · simp
    · split
      · simp
      · split <;> simp
  · simp
theorem numErr_len {l : List UInt8} (h : numErr l = 0) : l.length = 12 ∧ l.all isDig = true := by
  unfold numErr at h
  split at h
  · rename_i hd
    simpa [digs] using hd
  · cases h
theorem numErr_or (l : List UInt8) : numErr l = 0 ∨ numErr l = 9 ∨ numErr l = 11 := by
  unfold numErr
  split
  · split <;> simp
  · simp
theorem kind_ok' (N : Nat) (h20 : 20 ≤ N) {l : List UInt8} (hN : l.length < N) (hl : l.length ≤ 9223372036854775807) : wagonnumber_Kind N l = some (if numErr l = 0 then (kindOf l, 0) else (0, numErr l)) ∧ r02_Kind N l = some (if numErr l = 0 then (kindOf l, 0) else (0, numErr l)) := by
  obtain ⟨h1, h2⟩ := numErr_ok N h20 hN hl
  unfold wagonnumber_Kind r02_Kind
  rw [h1, h2, bind_some', bind_some']
  by_cases h : numErr l = 0
  · have hlen := (numErr_len h).1
    have h4 : l[4]? = some l[4] := at_lt (by omega)
    have hg : getI l 4 = some l[4] := getI_nat (i := 4) h4
    have e0 : ((0 : Int) != 0) = false := rfl
    rw [h, hg]
    simp only [e0, Bool.false_eq_true, if_false, if_true, bind_some', lt_def]
    unfold wagonnumber_Kind_0 wagonnumber_Kind_1 r02_Kind_0 r02_Kind_1 kindOf
    rw [h4]
    simp only [lt_def]
    generalize l[4].toNat = t
    by_cases a : t = 55
    · subst a; exact ⟨rfl, rfl⟩
    by_cases b : t = 56
    · subst b; exact ⟨rfl, rfl⟩
    by_cases c : t = 50
    · subst c; exact ⟨rfl, rfl⟩
    by_cases d : t = 52
    · subst d; exact ⟨rfl, rfl⟩
    by_cases e : t = 57
    · subst e; exact ⟨rfl, rfl⟩
    have a' : ((t : Int) == 55) = false := by simp; omega
    have b' : ((t : Int) == 56) = false := by simp; omega
    have c' : ((t : Int) == 50) = false := by simp; omega
    have d' : ((t : Int) == 52) = false := by simp; omega
    have e' : ((t : Int) == 57) = false := by simp; omega
    simp [a, b, c, d, e, a', b', c', d', e', bind_some']
  · have e0 : (numErr l != 0) = true := by simpa using h
    simp only [e0, h, if_true, if_false]
    exact ⟨trivial, trivial⟩
end Go.W
end
section
set_option linter.unusedVariables false
set_option linter.unusedSimpArgs false
namespace Go.W
open Go.AM
/-- The first element for which a condition holds. -/
def res {α β : Type} (p : Nat → α → Bool) (out : Nat → α → β) : Nat → List α → Sum Unit β
  | _, [] => .inl ()
  | i, x :: xs => if p i x = true then .inr (out i x) else res p out (i + 1) xs
theorem first_gen {α β : Type} {l : List α} (p : Nat → α → Bool) (out : Nat → α → β) (F : Nat → Int → Option (Sum Unit β)) (h0 : ∀ n, F (n + 1) (l.length : Int) = some (.inl ()))
    (h1 : ∀ (n i : Nat) (x : α), l[i]? = some x → F (n + 1) (i : Int) = if p i x = true then some (.inr (out i x)) else F n ((i + 1 : Nat) : Int)) : ∀ (k n i : Nat), k < n → i + k = l.length → F n (i : Int) = some (res p out i (l.drop i))
  | k, 0, i, hn, _ => by omega
  | 0, n + 1, i, hn, hi => by
    obtain rfl : i = l.length := by omega
    rw [h0, List.drop_length, res]
  | k + 1, n + 1, i, hn, hi => by
    have hlt : i < l.length := by omega
    rw [h1 n i _ (at_lt hlt), drop_at (at_lt hlt), res]
    split
    · rfl
    · exact first_gen p out F h0 h1 k n (i + 1) (by omega) (by omega)
/-- Something gathered from all elements. -/
def fold {α σ : Type} (g : Nat → α → σ → σ) : Nat → List α → σ → σ
  | _, [], s => s
  | i, x :: xs, s => fold g (i + 1) xs (g i x s)
theorem fold_gen {α σ β : Type} {l : List α} (g : Nat → α → σ → σ) (fin : σ → β) (I : Nat → σ → Prop) (F : Nat → σ → Int → Option β) (h0 : ∀ n s, I l.length s → F (n + 1) s (l.length : Int) = some (fin s))
    (h1 : ∀ (n i : Nat) (x : α) (s : σ), l[i]? = some x → I i s → F (n + 1) s (i : Int) = F n (g i x s) ((i + 1 : Nat) : Int) ∧ I (i + 1) (g i x s)) : ∀ (k n i : Nat) (s : σ), k < n → i + k = l.length → I i s → F n s (i : Int) = some (fin (fold g i (l.drop i) s)) ∧ I l.length (fold g i (l.drop i) s)
  | k, 0, i, s, hn, _, _ => by omega
  | 0, n + 1, i, s, hn, hi, hI => by
    obtain rfl : i = l.length := by omega
    rw [h0 n s hI, List.drop_length, fold]
    exact ⟨rfl, hI⟩
  | k + 1, n + 1, i, s, hn, hi, hI => by
    have hlt : i < l.length := by omega
    obtain ⟨g1, g2⟩ := h1 n i _ s (at_lt hlt) hI
    rw [g1, drop_at (at_lt hlt), fold]
    exact fold_gen g fin I F h0 h1 k n (i + 1) _ (by omega) (by omega) g2
/-- The number of the first element for which a condition holds, or -1. -/
def firstI {α : Type} (p : Nat → α → Bool) : Nat → List α → Int
  | _, [] => -1
  | i, x :: xs => if p i x = true then (i : Int) else firstI p (i + 1) xs
theorem res_first {α : Type} (p : Nat → α → Bool) : ∀ (l : List α) (i : Nat), res p (fun i _ => (i : Int)) i l = .inl () ∧ firstI p i l = -1 ∨ res p (fun i _ => (i : Int)) i l = .inr (firstI p i l) ∧ 0 ≤ firstI p i l
  | [], i => .inl ⟨rfl, rfl⟩
  | x :: xs, i => by
    rw [res, firstI]
    by_cases h : p i x = true
    · rw [if_pos h, if_pos h]; exact .inr ⟨rfl, by omega⟩
    · rw [if_neg h, if_neg h]; exact res_first p xs (i + 1)
theorem firstI_spec {α : Type} (p : Nat → α → Bool) : ∀ (l : List α) (i : Nat), (firstI p i l = -1 ∧ ∀ (j : Nat) (x : α), l[j]? = some x → p (i + j) x = false) ∨
    ∃ (j : Nat) (x : α), firstI p i l = ((i + j : Nat) : Int) ∧ l[j]? = some x ∧ p (i + j) x = true ∧ ∀ (j' : Nat) (y : α), j' < j → l[j']? = some y → p (i + j') y = false
  | [], i => .inl ⟨rfl, fun j x h => by simp at h⟩
  | x :: xs, i => by
    rw [firstI]
    by_cases h : p i x = true
    · rw [if_pos h]
      exact .inr ⟨0, x, by simp, by simp, by simpa using h, fun j' y hj => by omega⟩
    · rw [if_neg h]
      have h' : p i x = false := by simpa using h
      rcases firstI_spec p xs (i + 1) with ⟨h1, h2⟩ | ⟨j, y, h1, h2, h3, h4⟩
      · refine .inl ⟨h1, fun j y hj => ?_⟩
        cases j with
        | zero => simp at hj; subst hj; exact h'
        | succ j => have := h2 j y (by simpa using hj); rwa [show i + 1 + j = i + (j + 1) by omega] at this
      · refine .inr ⟨j + 1, y, by rw [h1]; omega, by simpa using h2, by rwa [show i + 1 + j = i + (j + 1) by omega] at h3, fun j' z hj hz => ?_⟩
        cases j' with
        | zero => simp at hz; subst hz; exact h'
        | succ j' => have := h4 j' z (by omega) (by simpa using hz); rwa [show i + 1 + j' = i + (j' + 1) by omega] at this
theorem firstI_congr {α : Type} {p q : Nat → α → Bool} : ∀ {l : List α} {i : Nat}, (∀ (j : Nat) (x : α), l[j]? = some x → p (i + j) x = q (i + j) x) → firstI p i l = firstI q i l
  | [], i, _ => rfl
  | x :: xs, i, h => by
    have h0 := h 0 x (by simp)
    rw [Nat.add_zero] at h0
    rw [firstI, firstI, h0, firstI_congr (i := i + 1) fun j y hj => ?_]
    have := h (j + 1) y (by simpa using hj)
    rwa [show i + 1 + j = i + (j + 1) by omega]
end Go.W
end
section
set_option linter.unusedVariables false
set_option linter.unusedSimpArgs false
namespace Go.W
open Go.AM
def Dig (u : UInt8) : Prop := 48 ≤ u.toNat ∧ u.toNat ≤ 57
theorem dig_u8 {r : Int} (h0 : 0 ≤ r) (h1 : r < 10) : ∃ u, toU8 (IntKind.wrap .u8 (IntKind.wrap .i64 (48 + r))) = some u ∧ Dig u ∧ (u.toNat : Int) = 48 + r := by
  rw [w64 (by omega) (by omega), w8 (by omega) (by omega)]
  have hc : 0 ≤ 48 + r ∧ 48 + r < 256 := by omega
  refine ⟨UInt8.ofNat (48 + r).toNat, by unfold toU8; rw [if_pos hc], ?_, ?_⟩
  · have : (UInt8.ofNat (48 + r).toNat).toNat = (48 + r).toNat := by simp; omega
    unfold Dig; rw [this]; omega
  · have : (UInt8.ofNat (48 + r).toNat).toNat = (48 + r).toNat := by simp; omega
    rw [this]; omega
theorem digits_loop (N : Nat) : ∀ (d n : Nat) (s : Maker) (l : List UInt8) (i c : Int), d + 1 ≤ n → i = 11 - (d : Int) → 0 ≤ i → l.length = 11 → (∀ (j : Nat) (u : UInt8), (j : Int) < i → l[j]? = some u → Dig u) → Mk c s → c + d ≤ 1000000000000 →
    ∃ s' l', Maker_Digits_0 N 11 n s l i = some (s', l') ∧ Mk (c + d) s' ∧ l'.length = 11 ∧ ∀ u ∈ l', Dig u
  | d, 0, s, l, i, c, hn, _, _, _, _, _, _ => by omega
  | 0, n + 1, s, l, i, c, hn, hi, hi0, hl, hd, hs, hc => by
    rw [Maker_Digits_0, if_neg (by simp; omega)]
    refine ⟨s, l, rfl, by simpa using hs, hl, fun u hu => ?_⟩
    obtain ⟨j, hj⟩ := List.getElem?_of_mem hu
    have hlt := (List.getElem?_eq_some_iff.1 hj).1
    exact hd j u (by omega) hj
  | d + 1, n + 1, s, l, i, c, hn, hi, hi0, hl, hd, hs, hc => by
    rw [Maker_Digits_0, if_pos (by simp; omega)]
    obtain ⟨r, s', h1, h2, h3, h4⟩ := next_ok N 10 (by omega) (by omega) hs (by omega)
    rw [h1, bind_some']
    obtain ⟨x, hx, _, hx2⟩ := getI_ok (xs := l) (i := i) hi0 (by omega)
    rw [hx, bind_some']
    obtain ⟨u, hu, hdu, _⟩ := dig_u8 h2 h3
    simp only [hu, bind_some', lt_def]
    rw [w64 (by omega) (by omega)]
    obtain ⟨s2, l2, g1, g2, g3, g4⟩ := digits_loop N d n s' (l.set i.toNat u) (i + 1) (c + 1) (by omega) (by omega) (by omega) (by simpa using hl) (fun j w hj hw => by
      rw [List.getElem?_set] at hw
      split at hw
      · split at hw
        · cases hw; exact hdu
        · cases hw
      · exact hd j w (by omega) hw) h4 (by omega)
    exact ⟨s2, l2, g1, by rw [show c + ((d + 1 : Nat) : Int) = c + 1 + d by omega]; exact g2, g3, g4⟩
theorem digits_ok (M : Nat) {c : Int} {s : Maker} (hs : Mk c s) (hc : c ≤ 1000000000) : ∃ l s', Maker_Digits (M + 60) s 11 = some (l, s') ∧ Mk (c + 11) s' ∧ l.length = 11 ∧ ∀ u ∈ l, Dig u := by
  unfold Maker_Digits
  have hm : mkI (0 : UInt8) 11 = some (List.replicate 11 0) := by simp [mkI]
  rw [hm, bind_some']
  obtain ⟨s', l', h1, h2, h3, h4⟩ := digits_loop (M + 60) 11 (M + 60) s (List.replicate 11 0) 0 c (by omega) (by omega) (by omega) (by simp) (fun j u hj => by omega) hs (by omega)
  rw [h1, bind_some']
  exact ⟨l', s', rfl, h2, h3, h4⟩
end Go.W
end
section
set_option linter.unusedVariables false
set_option linter.unusedSimpArgs false
namespace Go.W
open Go.AM
theorem m49_loop (N : Nat) {l : List UInt8} (hl : l.length = 11) (hd : ∀ u ∈ l, Dig u) : ∀ (d n : Nat) (i : Int), d + 1 ≤ n → i = 11 - (d : Int) → 0 ≤ i → r02_digits_0 N l 11 n i = some (.inl ())
  | d, 0, i, hn, _, _ => by omega
  | 0, n + 1, i, hn, hi, hi0 => by rw [r02_digits_0, if_neg (by simp; omega)]
  | d + 1, n + 1, i, hn, hi, hi0 => by
    rw [r02_digits_0, if_pos (by simp; omega)]
    obtain ⟨x, hx, hm, _⟩ := getI_ok (xs := l) (i := i) hi0 (by omega)
    have hdx := hd x hm
    unfold Dig at hdx
    have h1 : r02_digits_1 N l i = some false := by
      unfold r02_digits_1
      rw [hx, bind_some', if_neg (by simp; omega), bind_some']
      congr 1; simp; omega
    rw [h1, bind_some', if_neg (by simp), lt_def, w64 (by omega) (by omega)]
    exact m49_loop N hl hd d n (i + 1) (by omega) (by omega) (by omega)
theorem m52_loop (N : Nat) {l : List UInt8} (hl : l.length ≤ 1000) (hd : ∀ u ∈ l, Dig u) : ∀ (d n : Nat) (i : Int), d + 1 ≤ n → i = l.length - (d : Int) → 0 ≤ i → wagonnumber_digits_0 N l n i = some (.inl ())
  | d, 0, i, hn, _, _ => by omega
  | 0, n + 1, i, hn, hi, hi0 => by rw [wagonnumber_digits_0, if_neg (by simp; omega)]
  | d + 1, n + 1, i, hn, hi, hi0 => by
    rw [wagonnumber_digits_0, if_pos (by simp; omega)]
    obtain ⟨x, hx, hm, _⟩ := getI_ok (xs := l) (i := i) hi0 (by omega)
    have hdx := hd x hm
    unfold Dig at hdx
    have h1 : wagonnumber_digits_1 N l i = some false := by
      unfold wagonnumber_digits_1
      rw [hx, bind_some', if_neg (by simp; omega), bind_some']
      congr 1; simp; omega
    rw [h1, bind_some', if_neg (by simp), lt_def, w64 (by omega) (by omega)]
    exact m52_loop N hl hd d n (i + 1) (by omega) (by omega) (by omega)
theorem sum_loop (N : Nat) {l : List UInt8} (hl : l.length = 11) : ∀ (d n : Nat) (s i : Int), d + 1 ≤ n → i = 11 - (d : Int) → 0 ≤ i → ∃ S, r02_sum_0 N l 11 n s i = some S ∧ wagonnumber_sum_0 N l n s i = some S
  | d, 0, s, i, hn, _, _ => by omega
  | 0, n + 1, s, i, hn, hi, hi0 => by
    rw [r02_sum_0, wagonnumber_sum_0, if_neg (by simp; omega), if_neg (by simp; omega)]
    exact ⟨s, rfl, rfl⟩
  | d + 1, n + 1, s, i, hn, hi, hi0 => by
    rw [r02_sum_0, wagonnumber_sum_0, if_pos (by simp; omega), if_pos (by simp; omega)]
    obtain ⟨x, hx, hm, _⟩ := getI_ok (xs := l) (i := i) hi0 (by omega)
    rw [hx, bind_some', bind_some', lt_def, lt_def]
    have hq : ∀ a b, ∃ q, r02_sum_1 N a b = some q ∧ wagonnumber_sum_1 N a b = some q := by
      intro a b
      unfold r02_sum_1 wagonnumber_sum_1
      cases b with
      | false => exact ⟨a, rfl, rfl⟩
      | true =>
        simp only [if_true, lt_def]
        by_cases h9 : decide (9 < IntKind.wrap .i64 (a * 2)) = true
        · rw [if_pos h9]; exact ⟨_, rfl, rfl⟩
        · rw [if_neg h9]; exact ⟨_, rfl, rfl⟩
    obtain ⟨q, hq1, hq2⟩ := hq (IntKind.wrap .i64 (IntKind.wrap .u8 ((UInt8.toNat x : Int) - 48))) ((Int.tmod i 2) == 0)
    rw [hq1, hq2, bind_some', bind_some', lt_def, lt_def, lt_def, lt_def, w64 (n := i + 1) (by omega) (by omega)]
    exact sum_loop N hl d n _ (i + 1) (by omega) (by omega) (by omega)
theorem chkD {S : Int} : 0 ≤ Int.tmod (IntKind.wrap .i64 (10 - (Int.tmod S 10))) 10 ∧ Int.tmod (IntKind.wrap .i64 (10 - (Int.tmod S 10))) 10 < 10 := by
  have h1 : Int.tmod S 10 < 10 := Int.tmod_lt_of_pos _ (by omega)
  have h2 := Int.lt_tmod_of_pos S (by omega : (0 : Int) < 10)
  rw [w64 (by omega) (by omega)]
  exact ⟨Int.tmod_nonneg _ (by omega), Int.tmod_lt_of_pos _ (by omega)⟩
/-- Eleven digits and their check digit. -/
theorem valid_ok (M : Nat) {l : List UInt8} (hl : l.length = 11) (hd : ∀ u ∈ l, Dig u) : ∃ y u, r02_Digit (M + 60) l = some (y, 0) ∧ toU8 (IntKind.wrap .u8 (IntKind.wrap .i64 (48 + y))) = some u ∧ Dig u ∧ appI l [u] = some (l ++ [u]) ∧ wagonnumber_Valid (M + 60) (l ++ [u]) = some 0 := by
  obtain ⟨S, h1, h2⟩ := sum_loop (M + 60) hl 11 (M + 60) 0 0 (by omega) (by omega) (by omega)
  obtain ⟨c0, c1⟩ := chkD (S := S)
  obtain ⟨u, hu, hdu, hval⟩ := dig_u8 c0 c1
  refine ⟨_, u, ?_, hu, hdu, by simp [appI, LIM, hl], ?_⟩
  · unfold r02_Digit r02_digits
    rw [if_neg (by simp [hl]), m49_loop (M + 60) hl hd 11 (M + 60) 0 (by omega) (by omega) (by omega), bind_some']
    simp only [bind_some']
    rw [if_neg (by simp)]
    unfold r02_sum
    rw [h1, bind_some', bind_some', lt_def]
  · have hd12 : ∀ w ∈ l ++ [u], Dig w := by
      intro w hw
      rcases List.mem_append.1 hw with hw | hw
      · exact hd w hw
      · simp only [List.mem_singleton] at hw; subst hw; exact hdu
    have hg : getI (l ++ [u]) 11 = some u := by
      have : (l ++ [u])[11]? = some u := by rw [List.getElem?_append_right (by omega)]; simp [hl]
      simpa [getI] using this
    have hcut : cutI (l ++ [u]) 0 11 = some l := by
      unfold cutI
      rw [if_pos (by simp [hl])]
      simp [← hl]
    unfold wagonnumber_Valid wagonnumber_digits
    rw [m52_loop (M + 60) (by simp [hl]) hd12 12 (M + 60) 0 (by omega) (by simp [hl]) (by omega), bind_some']
    simp only [lt_def, bind_some']
    rw [if_neg (by simp [hl]), hg, bind_some', hcut, bind_some']
    unfold wagonnumber_check wagonnumber_sum
    rw [h2, bind_some', bind_some', lt_def, bind_some', if_neg]
    unfold Dig at hdu
    rw [hval, w8 (by omega) (by omega), w64 (n := 48 + _ - 48) (by omega) (by omega)]
    simp; omega
end Go.W
end
section
set_option linter.unusedVariables false
set_option linter.unusedSimpArgs false
set_option maxRecDepth 100000
namespace Go.W
open Go.AM
/-- The number that the digits 8 to 10 tell. -/
def tagOf (l : List UInt8) : Int := (((l[8]?).map fun u => (u.toNat : Int) - 48).getD 0) * 100 + (((l[9]?).map fun u => (u.toNat : Int) - 48).getD 0) * 10 + ((l[10]?).map fun u => (u.toNat : Int) - 48).getD 0
theorem number_ok (M : Nat) {c : Int} {s : Maker} {x1 : Int} (hs : Mk c s) (hc : c ≤ 1000000000) (h0 : 0 ≤ x1) (h1 : x1 ≤ 1000000) :
    ∃ num s' u, Maker_Number (M + 60) s x1 = some (num, s') ∧ Mk (c + 11) s' ∧ getI num 4 = some u ∧ wagonnumber_Valid (M + 60) num = some 0 ∧ (x1 ≤ 999 → tagOf num = x1) ∧ num.length = 12 := by
  obtain ⟨l, s', g1, g2, g3, g4⟩ := digits_ok M hs hc
  have t1 : ∀ q : Int, 0 ≤ Int.tmod q 10 ∨ q < 0 := fun q => by by_cases hq : 0 ≤ q; exact .inl (Int.tmod_nonneg _ hq); exact .inr (by omega)
  have dg : ∀ q : Int, 0 ≤ q → ∃ u, toU8 (IntKind.wrap .u8 (IntKind.wrap .i64 (48 + Int.tmod q 10))) = some u ∧ Dig u ∧ (u.toNat : Int) = 48 + Int.tmod q 10 := fun q hq => by
    obtain ⟨u, a, b, e⟩ := dig_u8 (Int.tmod_nonneg 10 hq) (Int.tmod_lt_of_pos q (by omega : (0 : Int) < 10))
    exact ⟨u, a, b, e⟩
  have q1 : 0 ≤ IntKind.wrap .i64 (Int.tdiv x1 100) := by rw [Int.tdiv_eq_ediv_of_nonneg h0, w64 (by omega) (by omega)]; omega
  have q2 : 0 ≤ IntKind.wrap .i64 (Int.tdiv x1 10) := by rw [Int.tdiv_eq_ediv_of_nonneg h0, w64 (by omega) (by omega)]; omega
  obtain ⟨u1, a1, b1, v1⟩ := dg _ q1
  obtain ⟨u2, a2, b2, v2⟩ := dg _ q2
  obtain ⟨u3, a3, b3, v3⟩ := dg _ h0
  have hap : appI l [] = some l := by simp [appI, LIM, g3]
  have hset : ∀ (l : List UInt8) (i : Nat) (u : UInt8), (∀ w ∈ l, Dig w) → Dig u → ∀ w ∈ l.set i u, Dig w := fun l i u hl hu w hw => by
    rcases List.mem_or_eq_of_mem_set hw with hw | hw
    · exact hl w hw
    · subst hw; exact hu
  have d1 := hset l 8 u1 g4 b1
  have d2 := hset _ 9 u2 d1 b2
  have d3 := hset _ 10 u3 d2 b3
  obtain ⟨y, u, e1, e2, e3, e4, e5⟩ := valid_ok M (l := ((l.set 8 u1).set 9 u2).set 10 u3) (by simp [g3]) d3
  obtain ⟨x8, hx8, _⟩ := getI_ok (xs := l) (i := 8) (by omega) (by omega)
  obtain ⟨x9, hx9, _⟩ := getI_ok (xs := l.set 8 u1) (i := 9) (by omega) (by simp [g3])
  obtain ⟨x10, hx10, _⟩ := getI_ok (xs := (l.set 8 u1).set 9 u2) (i := 10) (by omega) (by simp [g3])
  obtain ⟨x4, hx4, _⟩ := getI_ok (xs := ((l.set 8 u1).set 9 u2).set 10 u3 ++ [u]) (i := 4) (by omega) (by simp [g3])
  have htag : x1 ≤ 999 → tagOf (((l.set 8 u1).set 9 u2).set 10 u3 ++ [u]) = x1 := by
    intro h999
    have l8 : (((l.set 8 u1).set 9 u2).set 10 u3 ++ [u])[8]? = some u1 := by rw [List.getElem?_append_left (by simp [g3])]; simp [List.getElem?_set, g3]
    have l9 : (((l.set 8 u1).set 9 u2).set 10 u3 ++ [u])[9]? = some u2 := by rw [List.getElem?_append_left (by simp [g3])]; simp [List.getElem?_set, g3]
    have l10 : (((l.set 8 u1).set 9 u2).set 10 u3 ++ [u])[10]? = some u3 := by rw [List.getElem?_append_left (by simp [g3])]; simp [List.getElem?_set, g3]
    rw [Int.tdiv_eq_ediv_of_nonneg h0, w64 (by omega) (by omega), Int.tmod_eq_emod_of_nonneg (by omega)] at v1 v2
    rw [Int.tmod_eq_emod_of_nonneg h0] at v3
    unfold tagOf
    rw [l8, l9, l10]
    simp only [Option.map_some, Option.getD_some]
    omega
  refine ⟨_, s', x4, ?_, g2, hx4, e5, htag, by simp [g3]⟩
  unfold Maker_Number
  rw [g1, bind_some']
  simp only [hap, bind_some', hx8, a1, lt_def]
  rw [show ((8 : Int)).toNat = 8 from rfl, hx9]
  simp only [bind_some', a2, lt_def]
  rw [show ((9 : Int)).toNat = 9 from rfl, hx10]
  simp only [bind_some', a3, lt_def]
  rw [show ((10 : Int)).toNat = 10 from rfl, e1]
  simp only [bind_some', e2, e4]
def kd (t : Int) : Int := if t = 55 ∨ t = 56 then 1 else if t = 50 ∨ t = 52 then 2 else if t = 57 then 3 else 0
theorem kind_ok {N : Nat} {num : List UInt8} {u : UInt8} (h : wagonnumber_Valid N num = some 0) (hu : getI num 4 = some u) : wagonnumber_Kind N num = some (kd u.toNat, 0) := by
  unfold wagonnumber_Kind wagonnumber_Kind_0 wagonnumber_Kind_1 kd
  rw [h, bind_some', if_neg (by simp), hu, bind_some']
  simp only [lt_def]
  by_cases h1 : (u.toNat : Int) = 55
  · simp [h1]
  by_cases h2 : (u.toNat : Int) = 56
  · simp [h1, h2]
  by_cases h3 : (u.toNat : Int) = 50
  · simp [h1, h2, h3]
  by_cases h4 : (u.toNat : Int) = 52
  · simp [h1, h2, h3, h4]
  by_cases h5 : (u.toNat : Int) = 57
  · simp [h1, h2, h3, h4, h5]
  · simp [h1, h2, h3, h4, h5]
/-- A good wagon of a kind. -/
structure GW (N : Nat) (k : Int) (w : Wagon) : Prop where
  num : wagonnumber_Kind N w.number = some (k, 0)
  kind : k = 0 ∨ k = 1 ∨ k = 2 ∨ k = 3
  ax : w.axles = if k = 2 then 2 else if k = 3 then 6 else 4
  len : w.length ∈ ([80, 120, 142, 199, 262, 400] : List Int)
  len3 : k = 3 → 120 ≤ w.length
  mass : 50 ≤ w.mass ∧ w.mass ≤ 2000
  brake : 0 ≤ w.brake ∧ w.brake ≤ w.mass
  goods : 0 ≤ w.goods ∧ w.goods ≤ 9
  dest : consist_name N w.dest = some true
theorem GW.valid {N : Nat} {k : Int} {w : Wagon} (h : GW N k w) : consist_Valid N w = some 0 := by
  have hl : 80 ≤ w.length ∧ w.length ≤ 400 := by
    have := h.len
    simp only [List.mem_cons, List.not_mem_nil, or_false] at this
    omega
  have h3 := h.len3
  obtain ⟨main_main, gosem_cut⟩ := h.mass
  obtain ⟨b0, b1⟩ := h.brake
  obtain ⟨g0, g1⟩ := h.goods
  have hax := h.ax
  have e2 : consist_Valid_2 N w = some false := by
    unfold consist_Valid_2
    rw [if_neg (by simp; omega), if_neg (by simp; omega), if_neg (by simp; omega), lt_def]
    congr 1; simp; omega
  have e1 : ∀ x5, x5 ≤ w.length → consist_Valid_1 N w x5 = some false := fun x5 hx => by
    unfold consist_Valid_1
    rw [if_neg (by simp; omega), if_neg (by simp; omega), if_neg (by simp; omega), lt_def]
    congr 1; simp; omega
  unfold consist_Valid
  rw [h.num, bind_some']
  simp only []
  rw [if_neg (by simp)]
  rcases h.kind with hk | hk | hk | hk <;> subst hk <;> simp at hax h3 <;> simp [consist_Valid_0, consist_axles, lt_def, hax, e2, h.dest, e1 80 hl.1] <;> simp [e1 120 h3, e2, h.dest]
theorem name_ok (M : Nat) {c : Int} {s : Maker} (hs : Mk c s) (hc : c ≤ 1000000000) : ∃ nm s', Maker_Name (M + 60) s = some (nm, s') ∧ Mk (c + 1) s' ∧ consist_name (M + 60) nm = some true ∧ nm.length ≤ 12 := by
  obtain ⟨r, s', h1, h2, h3, h4⟩ := next_ok (M + 60) 10 (by omega) (by omega) hs (by omega)
  unfold Maker_Name
  rw [h1, bind_some']
  obtain ⟨x, hx, hm, _⟩ := getI_ok (xs := ([[97], [98], [99], [100], [101], [110, 111, 114, 116, 104], [115, 111, 117, 116, 104], [112, 111, 114, 116, 49], [120, 57], [97, 98, 99, 100, 101, 102, 103, 104, 105, 106, 107, 108]] : List (List UInt8))) h2 (by simpa using h3)
  simp only [hx, bind_some']
  refine ⟨x, s', rfl, h4, ?_⟩
  simp only [List.mem_cons, List.not_mem_nil, or_false] at hm
  rcases hm with rfl | rfl | rfl | rfl | rfl | rfl | rfl | rfl | rfl | rfl <;> exact ⟨rfl, by decide⟩
theorem wagon_ok (M : Nat) {c : Int} {s : Maker} {x1 : Int} (hs : Mk c s) (hc : c ≤ 900000000) (h0 : 0 ≤ x1) (h1 : x1 ≤ 1000000) :
    ∃ w s' k, Maker_Wagon (M + 60) s x1 = some (w, s') ∧ Mk (c + 17) s' ∧ GW (M + 60) k w ∧ (x1 ≤ 999 → tagOf w.number = x1) ∧ w.number.length = 12 ∧ w.dest.length ≤ 12 := by
  obtain ⟨num, s1, u, a1, a2, a3, a4, a5, a6⟩ := number_ok M hs (by omega) h0 h1
  obtain ⟨len, s2, b1, b2, b3⟩ := pick_ok (M + 60) [80, 120, 142, 199, 262, 400] (by simp) (by simp) a2 (by omega)
  obtain ⟨mass, s3, c1, c2, c3⟩ := pick_ok (M + 60) [50, 120, 400, 800, 2000] (by simp) (by simp) b3 (by omega)
  obtain ⟨goods, s4, d1, d2, d3⟩ := pick_ok (M + 60) [0, 0, 0, 1, 3, 9] (by simp) (by simp) c3 (by omega)
  obtain ⟨r, s5, e1, e2, e3, e4⟩ := next_ok (M + 60) 5 (by omega) (by omega) d3 (by omega)
  obtain ⟨nm, s6, f1, f2, f3, f4⟩ := name_ok M e4 (by omega)
  obtain ⟨q, s7, g1, g2, g3, g4⟩ := next_ok (M + 60) 5 (by omega) (by omega) f2 (by omega)
  have hk := kind_ok a4 a3
  have hm : 50 ≤ mass ∧ mass ≤ 2000 := by simp only [List.mem_cons, List.not_mem_nil, or_false] at c2; omega
  have hg : 0 ≤ goods ∧ goods ≤ 9 := by simp only [List.mem_cons, List.not_mem_nil, or_false] at d2; omega
  have hb : 0 ≤ IntKind.wrap .i64 (Int.tdiv (IntKind.wrap .i64 (mass * q)) 4) ∧ IntKind.wrap .i64 (Int.tdiv (IntKind.wrap .i64 (mass * q)) 4) ≤ mass := by
    have hq : q = 0 ∨ q = 1 ∨ q = 2 ∨ q = 3 ∨ q = 4 := by omega
    have hle : 0 ≤ mass * q ∧ mass * q ≤ mass * 4 := by rcases hq with rfl | rfl | rfl | rfl | rfl <;> omega
    rw [w64 (n := mass * q) (by omega) (by omega), Int.tdiv_eq_ediv_of_nonneg hle.1, w64 (by omega) (by omega)]
    omega
  have hmk : Mk (c + 17) s7 := by rw [show c + 17 = c + 11 + 1 + 1 + 1 + 1 + 1 + 1 by omega]; exact g4
  unfold Maker_Wagon
  simp only [a1, b1, c1, d1, e1, f1, a3, g1, bind_some']
  have ht : (u.toNat : Int) = 50 ∨ (u.toNat : Int) = 52 ∨ (u.toNat : Int) = 57 ∨ (u.toNat : Int) = 55 ∨ (u.toNat : Int) = 56 ∨ ((u.toNat : Int) ≠ 50 ∧ (u.toNat : Int) ≠ 52 ∧ (u.toNat : Int) ≠ 57 ∧ (u.toNat : Int) ≠ 55 ∧ (u.toNat : Int) ≠ 56) := by omega
  unfold Maker_Wagon_0 Maker_Wagon_1
  rcases ht with ht | ht | ht | ht | ht | ⟨n1, n2, n3, n4, n5⟩
  · rw [ht] at hk ⊢
    exact ⟨_, _, 2, rfl, hmk, ⟨hk, by simp, by simp, b2, by simp, hm, hb, hg, f3⟩, a5, a6, f4⟩
  · rw [ht] at hk ⊢
    exact ⟨_, _, 2, rfl, hmk, ⟨hk, by simp, by simp, b2, by simp, hm, hb, hg, f3⟩, a5, a6, f4⟩
  · rw [ht] at hk ⊢
    refine ⟨_, _, 3, rfl, hmk, ⟨hk, by simp, by simp, ?_, ?_, hm, hb, hg, f3⟩, a5, a6, f4⟩
    · simp only [List.mem_cons, List.not_mem_nil, or_false] at b2 ⊢
      rcases b2 with rfl | rfl | rfl | rfl | rfl | rfl <;> omega
    · intro _
      exact Int.le_max_right _ _
  · rw [ht] at hk ⊢
    exact ⟨_, _, 1, rfl, hmk, ⟨hk, by simp, by simp, b2, by simp, hm, hb, hg, f3⟩, a5, a6, f4⟩
  · rw [ht] at hk ⊢
    exact ⟨_, _, 1, rfl, hmk, ⟨hk, by simp, by simp, b2, by simp, hm, hb, hg, f3⟩, a5, a6, f4⟩
  · have hk0 : kd u.toNat = 0 := by unfold kd; rw [if_neg (by omega), if_neg (by omega), if_neg (by omega)]
    rw [hk0] at hk
    have hb50 : ((u.toNat : Int) == 50) = false := by simpa using n1
    have hb52 : ((u.toNat : Int) == 52) = false := by simpa using n2
    have hb57 : ((u.toNat : Int) == 57) = false := by simpa using n3
    simp only [lt_def, hb50, hb52, hb57, Bool.false_eq_true, if_false, bind_some']
    exact ⟨_, _, 0, rfl, hmk, ⟨hk, by simp, by simp, b2, by simp, hm, hb, hg, f3⟩, a5, a6, f4⟩
end Go.W
end
section
set_option linter.unusedVariables false
set_option linter.unusedSimpArgs false
namespace Go.W
open Go.AM
/-! ### Names -/
def nameCh (u : UInt8) : Bool := (decide (97 ≤ u.toNat) && decide (u.toNat ≤ 122)) || (decide (48 ≤ u.toNat) && decide (u.toNat ≤ 57))
def nameOk (l : List UInt8) : Bool := l.all nameCh && (decide (1 ≤ l.length) && decide (l.length ≤ 12))
theorem pname1 (N : Nat) (u : UInt8) : consist_name_1 N (u.toNat : Int) = some (!nameCh u) := by
  unfold consist_name_1 nameCh
  by_cases a : 97 ≤ u.toNat
  · rw [if_neg (by simp; omega)]
    by_cases b : u.toNat ≤ 122
    · rw [if_neg (by simp; omega)]; simp [a, b]
    · rw [if_pos (by simp; omega), if_neg (by simp; omega)]
      simp [a, b, show ¬ u.toNat ≤ 57 by omega, show (57 : Int) < u.toNat by omega]
  · rw [if_pos (by simp; omega)]
    by_cases c : u.toNat < 48
    · rw [if_pos (by simp; omega)]; simp [a, show ¬ 48 ≤ u.toNat by omega]
    · rw [if_neg (by simp; omega)]
      by_cases d : u.toNat ≤ 57
      · simp [a, show 48 ≤ u.toNat by omega, d, show ¬ (57 : Int) < u.toNat by omega]
      · simp [a, show 48 ≤ u.toNat by omega, d, show (57 : Int) < u.toNat by omega]
theorem rname1 (N : Nat) {l : List UInt8} {i : Nat} {u : UInt8} (h : l[i]? = some u) : r06_Name_1 N l i = some (!nameCh u) := by
  unfold r06_Name_1 nameCh
  rw [getI_nat h]
  simp only [bind_some']
  have c1 : decide ((97 : Int) ≤ u.toNat) = decide (97 ≤ u.toNat) := by rw [decide_eq_decide]; omega
  have c2 : decide ((u.toNat : Int) ≤ 122) = decide (u.toNat ≤ 122) := by rw [decide_eq_decide]; omega
  have c3 : decide ((48 : Int) ≤ u.toNat) = decide (48 ≤ u.toNat) := by rw [decide_eq_decide]; omega
  have c4 : decide ((u.toNat : Int) ≤ 57) = decide (u.toNat ≤ 57) := by rw [decide_eq_decide]; omega
  rw [c1, c2, c3, c4]
  cases decide (97 ≤ u.toNat) <;> cases decide (u.toNat ≤ 122) <;> cases decide (48 ≤ u.toNat) <;> cases decide (u.toNat ≤ 57) <;> rfl
theorem pname_loop (N : Nat) {l : List UInt8} (hl : l.length ≤ 9223372036854775807) : ∀ (k n i : Nat), k < n → i + k = l.length →
    consist_name_0 N l n i = some (if (l.drop i).all nameCh = true then .inl () else .inr false) ∧ r06_Name_0 N l n i = some (if (l.drop i).all nameCh = true then .inl () else .inr false)
  | k, 0, i, hn, _ => by omega
  | 0, n + 1, i, hn, hi => by
    rw [consist_name_0, r06_Name_0, if_neg (dneg (by omega)), if_neg (dneg (by omega)), List.drop_eq_nil_of_le (by omega)]
    exact ⟨rfl, rfl⟩
  | k + 1, n + 1, i, hn, hi => by
    have hlt : i < l.length := by omega
    obtain ⟨h1, h2⟩ := pname_loop N hl k n (i + 1) (by omega) (by omega)
    rw [consist_name_0, r06_Name_0, if_pos (dpos (by omega)), if_pos (dpos (by omega)), getI_nat (at_lt hlt), bind_some', lt_def, pname1, rname1 N (at_lt hlt), bind_some', bind_some', drop_at (at_lt hlt), lt_def, lt_def, w64s (by omega), h1, h2, List.all_cons]
    by_cases h : nameCh l[i] = true
    · simp only [h, Bool.not_true, Bool.false_eq_true, if_false, Bool.true_and, and_self]
    · simp only [Bool.not_eq_true] at h
      simp only [h, Bool.not_false, if_true, Bool.false_and, Bool.false_eq_true, if_false, and_self]
theorem name_ok' (N : Nat) {l : List UInt8} (hN : l.length < N) (hl : l.length ≤ 9223372036854775807) : consist_name N l = some (nameOk l) ∧ r06_Name N l = some (nameOk l) := by
  obtain ⟨h1, h2⟩ := pname_loop N hl l.length N 0 hN (by omega)
  simp only [Int.natCast_zero, List.drop_zero] at h1 h2
  unfold consist_name r06_Name nameOk
  rw [h1, h2, bind_some', bind_some']
  have h3 : consist_name_2 N l = some (decide (1 ≤ l.length) && decide (l.length ≤ 12)) := by
    unfold consist_name_2
    by_cases a : 1 ≤ l.length
    · rw [if_pos (dpos (by omega)), lt_def, decide_eq_true a, Bool.true_and]; congr 1; rw [decide_eq_decide]; omega
    · rw [if_neg (dneg (by omega)), decide_eq_false a, Bool.false_and]
  have h4 : r06_Name_2 N l = some (decide (1 ≤ l.length) && decide (l.length ≤ 12)) := by
    unfold r06_Name_2
    by_cases a : 1 ≤ l.length
    · rw [if_pos (lpos (by omega)), lt_def, decide_eq_true a, Bool.true_and]; congr 1; rw [decide_eq_decide]; omega
    · rw [if_neg (lneg (by omega)), decide_eq_false a, Bool.false_and]
  by_cases h : l.all nameCh = true
  · simp only [h, if_true, h3, h4, bind_some', Bool.true_and, and_self]
  · simp only [Bool.not_eq_true] at h
    simp only [h, Bool.false_eq_true, if_false, Bool.false_and, and_self]
/-! ### Wagons -/
def axOf (k : Int) : Int := if k = 2 then 2 else if k = 3 then 6 else 4
def leastOf (k : Int) : Int := if k = 3 then 120 else 80
/-- Are the numbers of a wagon in range? -/
def inRg (k : Int) (w : Wagon) : Prop := leastOf k ≤ w.length ∧ w.length ≤ 400 ∧ 50 ≤ w.mass ∧ w.mass ≤ 2000 ∧ 0 ≤ w.brake ∧ w.brake ≤ w.mass ∧ 0 ≤ w.goods ∧ w.goods ≤ 9
instance (k : Int) (w : Wagon) : Decidable (inRg k w) := by unfold inRg; infer_instance
/-- The error of a wagon. -/
def wagErr (w : Wagon) : Int :=
  if numErr w.number ≠ 0 then numErr w.number else if w.axles ≠ axOf (kindOf w.number) then 1 else if ¬ inRg (kindOf w.number) w then 2 else if nameOk w.dest = true then 0 else 7
/-- There is enough fuel for a wagon's strings. -/
def Fu (N : Nat) (w : Wagon) : Prop := (w.number.length < N ∧ w.number.length ≤ 9223372036854775807) ∧ w.dest.length < N ∧ w.dest.length ≤ 9223372036854775807
theorem pv1 (N : Nat) (w : Wagon) (m : Int) : consist_Valid_1 N w m = some (!(decide (m ≤ w.length ∧ w.length ≤ 400 ∧ 50 ≤ w.mass ∧ w.mass ≤ 2000))) := by
  unfold consist_Valid_1
  by_cases a : w.length < m
  · rw [if_pos (dpos a), decide_eq_false (by omega)]; rfl
  rw [if_neg (dneg a)]
  by_cases b : 400 < w.length
  · rw [if_pos (dpos b), decide_eq_false (by omega)]; rfl
  rw [if_neg (dneg b)]
  by_cases c : w.mass < 50
  · rw [if_pos (dpos c), decide_eq_false (by omega)]; rfl
  rw [if_neg (dneg c), lt_def]
  by_cases d : 2000 < w.mass
  · rw [decide_eq_true d, decide_eq_false (by omega)]; rfl
  · rw [decide_eq_false d, decide_eq_true (by omega)]; rfl
theorem pv2 (N : Nat) (w : Wagon) : consist_Valid_2 N w = some (!(decide (0 ≤ w.brake ∧ w.brake ≤ w.mass ∧ 0 ≤ w.goods ∧ w.goods ≤ 9))) := by
  unfold consist_Valid_2
  by_cases a : w.brake < 0
  · rw [if_pos (dpos a), decide_eq_false (by omega)]; rfl
  rw [if_neg (dneg a)]
  by_cases b : w.mass < w.brake
  · rw [if_pos (dpos b), decide_eq_false (by omega)]; rfl
  rw [if_neg (dneg b)]
  by_cases c : w.goods < 0
  · rw [if_pos (dpos c), decide_eq_false (by omega)]; rfl
  rw [if_neg (dneg c), lt_def]
  by_cases d : 9 < w.goods
  · rw [decide_eq_true d, decide_eq_false (by omega)]; rfl
  · rw [decide_eq_false d, decide_eq_true (by omega)]; rfl
theorem rv1 (N : Nat) (w : Wagon) (m : Int) : r06_Valid_1 N w m = some (!(decide (m ≤ w.length ∧ w.length ≤ 400 ∧ 50 ≤ w.mass ∧ w.mass ≤ 2000 ∧ 0 ≤ w.brake ∧ w.brake ≤ w.mass ∧ 0 ≤ w.goods ∧ w.goods ≤ 9))) := by
  unfold r06_Valid_1
  by_cases a : w.length < m
  · rw [if_pos (dpos a), decide_eq_false (by omega)]; rfl
  rw [if_neg (dneg a)]
  by_cases b : 400 < w.length
  · rw [if_pos (dpos b), decide_eq_false (by omega)]; rfl
  rw [if_neg (dneg b)]
  by_cases c : w.mass < 50
  · rw [if_pos (dpos c), decide_eq_false (by omega)]; rfl
  rw [if_neg (dneg c)]
  by_cases d : 2000 < w.mass
  · rw [if_pos (dpos d), decide_eq_false (by omega)]; rfl
  rw [if_neg (dneg d)]
  by_cases a' : w.brake < 0
  · rw [if_pos (dpos a'), decide_eq_false (by omega)]; rfl
  rw [if_neg (dneg a')]
  by_cases b' : w.mass < w.brake
  · rw [if_pos (dpos b'), decide_eq_false (by omega)]; rfl
  rw [if_neg (dneg b')]
  by_cases c' : w.goods < 0
  · rw [if_pos (dpos c'), decide_eq_false (by omega)]; rfl
  rw [if_neg (dneg c'), lt_def]
  by_cases d' : 9 < w.goods
  · rw [decide_eq_true d', decide_eq_false (by omega)]; rfl
  · rw [decide_eq_false d', decide_eq_true (by omega)]; rfl
theorem wag_ok (N : Nat) (h20 : 20 ≤ N) {w : Wagon} (hw : Fu N w) : consist_Valid N w = some (wagErr w) ∧ r06_Valid N w = some (wagErr w) := by
  obtain ⟨⟨a1, a2⟩, b1, b2⟩ := hw
  obtain ⟨k1, k2⟩ := kind_ok' N h20 a1 a2
  obtain ⟨n1, n2⟩ := name_ok' N b1 b2
  unfold consist_Valid r06_Valid wagErr
  rw [k1, k2, bind_some', bind_some']
  by_cases h : numErr w.number = 0
  · have e0 : ((0 : Int) != 0) = false := rfl
    simp only [h, if_true, e0, Bool.false_eq_true, if_false, ne_eq, not_true_eq_false]
    have hl : consist_Valid_0 N 80 (kindOf w.number == 3) = some (leastOf (kindOf w.number)) := by
      unfold consist_Valid_0 leastOf
      by_cases h3 : kindOf w.number = 3 <;> simp [h3]
    have ha : consist_axles N (kindOf w.number) = some (axOf (kindOf w.number)) := by
      unfold consist_axles axOf
      rcases kindOf_range w.number with h3 | h3 | h3 | h3 <;> rw [h3] <;> rfl
    have hr : r06_Valid_0 N 4 80 (kindOf w.number) = some (axOf (kindOf w.number), leastOf (kindOf w.number)) := by
      unfold r06_Valid_0 axOf leastOf
      rcases kindOf_range w.number with h3 | h3 | h3 | h3 <;> rw [h3] <;> rfl
    rw [hl, ha, hr]
    simp only [bind_some', lt_def, pv1, pv2, rv1, n1, n2]
    by_cases hx : w.axles = axOf (kindOf w.number)
    · have e1 : (w.axles != axOf (kindOf w.number)) = false := by simpa using hx
      simp only [e1, eq_true hx, Bool.false_eq_true, if_false, not_true_eq_false]
      by_cases hi : inRg (kindOf w.number) w
      · have hi' := hi
        unfold inRg at hi'
        rw [decide_eq_true (show leastOf (kindOf w.number) ≤ w.length ∧ w.length ≤ 400 ∧ 50 ≤ w.mass ∧ w.mass ≤ 2000 by omega), decide_eq_true (show 0 ≤ w.brake ∧ w.brake ≤ w.mass ∧ 0 ≤ w.goods ∧ w.goods ≤ 9 by omega), decide_eq_true hi']
        simp only [hi, not_true_eq_false, if_false, Bool.not_true, Bool.false_eq_true]
        cases nameOk w.dest <;> exact ⟨rfl, rfl⟩
      · have hi' := hi
        unfold inRg at hi'
        rw [decide_eq_false hi']
        simp only [hi, not_false_eq_true, if_true, Bool.not_false, if_true, and_true]
        by_cases hj : leastOf (kindOf w.number) ≤ w.length ∧ w.length ≤ 400 ∧ 50 ≤ w.mass ∧ w.mass ≤ 2000
        · rw [decide_eq_true hj, decide_eq_false (by omega)]; rfl
        · rw [decide_eq_false hj]; rfl
    · have e1 : (w.axles != axOf (kindOf w.number)) = true := by simpa using hx
      simp only [e1, hx, if_true, not_false_eq_true, and_self]
  · have e0 : (numErr w.number != 0) = true := by simpa using h
    simp only [h, if_false, e0, if_true, ne_eq, not_false_eq_true, and_self]
theorem wagErr_or (w : Wagon) : wagErr w = 0 ∨ wagErr w ≠ 0 := by omega
theorem wagErr_zero {w : Wagon} (h : wagErr w = 0) : numErr w.number = 0 ∧ w.axles = axOf (kindOf w.number) ∧ inRg (kindOf w.number) w ∧ nameOk w.dest = true := by
  unfold wagErr at h
  split at h
  · rename_i h1; exact absurd h h1
  · rename_i h1
    split at h
    · cases h
    · rename_i h2
      split at h
      · cases h
      · rename_i h3
        split at h
        · rename_i h4
          exact ⟨by simpa using h1, by simpa using h2, by simpa using h3, h4⟩
        · cases h
theorem wag_ranges {w : Wagon} (h : wagErr w = 0) : (80 ≤ w.length ∧ w.length ≤ 400) ∧ (50 ≤ w.mass ∧ w.mass ≤ 2000) ∧ (2 ≤ w.axles ∧ w.axles ≤ 6) ∧ 0 ≤ w.brake ∧ w.brake ≤ w.mass := by
  obtain ⟨_, h2, h3, _⟩ := wagErr_zero h
  have hl : 80 ≤ leastOf (kindOf w.number) := by unfold leastOf; split <;> omega
  have ha : 2 ≤ axOf (kindOf w.number) ∧ axOf (kindOf w.number) ≤ 6 := by
    unfold axOf
    split
    · omega
    · split <;> omega
  unfold inRg at h3
  omega
end Go.W
end
section
set_option linter.unusedVariables false
set_option linter.unusedSimpArgs false
namespace Go.W
open Go.AM
theorem Fu.of {N : Nat} {w : Wagon} (h1 : w.number.length < N) (h2 : w.dest.length < N) (hN : N ≤ 4294967296) : Fu N w := ⟨⟨h1, by omega⟩, h2, by omega⟩
theorem nameOk_len {l : List UInt8} (h : nameOk l = true) : l.length ≤ 12 := by
  simp only [nameOk, Bool.and_eq_true, decide_eq_true_eq] at h
  omega
theorem wagErr_len {w : Wagon} (h : wagErr w = 0) : w.number.length = 12 ∧ w.dest.length ≤ 12 := by
  obtain ⟨h1, _, _, h4⟩ := wagErr_zero h
  exact ⟨(numErr_len h1).1, nameOk_len h4⟩
theorem wagErr_fu {N : Nat} {w : Wagon} (h : wagErr w = 0) (hN : 20 ≤ N) : Fu N w := by
  obtain ⟨h1, h2⟩ := wagErr_len h
  exact ⟨⟨by omega, by omega⟩, by omega, by omega⟩
/-- A made wagon. -/
theorem made_ok (N : Nat) (hN : 60 ≤ N) {c : Int} {s : Maker} {i : Int} (hs : Mk c s) (hc : c ≤ 900000000) (h0 : 0 ≤ i) (h1 : i ≤ 999) :
    ∃ w s', Maker_Wagon N s i = some (w, s') ∧ Mk (c + 17) s' ∧ wagErr w = 0 ∧ tagOf w.number = i := by
  obtain ⟨M, rfl⟩ : ∃ M, N = M + 60 := ⟨N - 60, by omega⟩
  obtain ⟨w, s', k, a1, a2, a3, a4, a5, a6⟩ := wagon_ok M hs hc h0 (by omega)
  have hv := (wag_ok (M + 60) (by omega) (w := w) ⟨⟨by omega, by omega⟩, by omega, by omega⟩).1
  rw [a3.valid] at hv
  exact ⟨w, s', a1, a2, by simpa using hv.symm, a4 h1⟩
/-- Made wagons: valid, with numbers of their own. -/
structure MadeL (l : List Wagon) : Prop where
  ok : ∀ w ∈ l, wagErr w = 0
  tag : ∀ (i : Nat) (w : Wagon), l[i]? = some w → tagOf w.number = i
theorem MadeL.nodup {l : List Wagon} (h : MadeL l) : (l.map (·.number)).Nodup := by
  rw [List.nodup_iff_pairwise_ne, List.pairwise_iff_getElem]
  intro i j hi hj hij he
  rw [List.length_map] at hi hj
  simp only [List.getElem_map] at he
  have h1 := h.tag i _ (at_lt hi)
  have h2 := h.tag j _ (at_lt hj)
  rw [he, h2] at h1
  omega
theorem MadeL.nil : MadeL [] := ⟨fun w hw => by simp at hw, fun i w hw => by simp at hw⟩
theorem MadeL.snoc {l : List Wagon} (h : MadeL l) {w : Wagon} (hw : wagErr w = 0) (ht : tagOf w.number = l.length) : MadeL (l ++ [w]) := by
  refine ⟨fun x hx => ?_, fun i x hx => ?_⟩
  · rcases List.mem_append.1 hx with hx | hx
    · exact h.ok x hx
    · simp at hx; subst hx; exact hw
  · by_cases hi : i < l.length
    · rw [List.getElem?_append_left hi] at hx; exact h.tag i x hx
    · rw [List.getElem?_append_right (by omega)] at hx
      have hlt := (List.getElem?_eq_some_iff.1 hx).1
      simp at hlt
      have : i = l.length := by omega
      subst this
      simp at hx; subst hx; exact ht
theorem wagons_loop (N : Nat) (hN : 60 ≤ N) : ∀ (k n : Nat) (s : Maker) (out : List Wagon) (c : Int), k < n → Mk c s → c + 17 * k ≤ 900000000 → out.length + k ≤ 900 → MadeL out →
    ∃ s' out', Maker_Wagons_0 N n s out k = some (s', out') ∧ Mk (c + 17 * k) s' ∧ out'.length = out.length + k ∧ MadeL out'
  | k, 0, s, out, c, hn, _, _, _, _ => by omega
  | 0, n + 1, s, out, c, hn, hs, _, _, hm => by
    rw [Maker_Wagons_0, if_neg (dneg (by omega))]
    exact ⟨s, out, rfl, by simpa using hs, rfl, hm⟩
  | k + 1, n + 1, s, out, c, hn, hs, hc, ho, hm => by
    obtain ⟨w, s1, h1, h2, h3, h4⟩ := made_ok N hN (i := out.length) hs (by omega) (by omega) (by omega)
    rw [Maker_Wagons_0, if_pos (dpos (by omega)), h1, bind_some']
    simp only [appI_ok (xs := out) (ys := [w]) (by simp; omega), bind_some', lt_def, w64p (i := k) (by omega)]
    obtain ⟨s', out', g1, g2, g3, g4⟩ := wagons_loop N hN k n s1 (out ++ [w]) (c + 17) (by omega) h2 (by omega) (by simp; omega) (hm.snoc h3 h4)
    exact ⟨s', out', g1, g2.le (by omega), by simp at g3; omega, g4⟩
theorem wagons_ok (N : Nat) (hN : 1000 ≤ N) {c : Int} {s : Maker} (n : Nat) (hn : n ≤ 500) (hs : Mk c s) (hc : c ≤ 800000000) :
    ∃ l s', Maker_Wagons N s n = some (l, s') ∧ Mk (c + 10000) s' ∧ l.length ≤ n ∧ MadeL l := by
  unfold Maker_Wagons
  rw [w64s (by omega)]
  obtain ⟨r, s1, h1, r0, r1, m1⟩ := next_ok N ((n + 1 : Nat) : Int) (by omega) (by omega) hs (by omega)
  obtain ⟨r, rfl⟩ := Int.eq_ofNat_of_zero_le r0
  obtain ⟨s2, l, h2, m2, hl, hm⟩ := wagons_loop N (by omega) r N s1 [] (c + 1) (by omega) m1 (by omega) (by simp; omega) MadeL.nil
  rw [h1, bind_some']
  simp only []
  rw [h2, bind_some']
  exact ⟨l, s2, rfl, m2.le (by omega), by simp at hl; omega, hm⟩
theorem from_ok (N : Nat) {c : Int} {s : Maker} (a b : Int) (hab : a ≤ b) (ha : -1000000 ≤ a) (hb : b ≤ 1000000) (hd : b - a < 1000000) (hs : Mk c s) (hc : c ≤ 1000000000000) : ∃ r s', a ≤ r ∧ r ≤ b ∧ Mk (c + 1) s' ∧ Maker_Next N s (b - a + 1) = some (r - a, s') := by
  obtain ⟨r, s', h1, h2, h3, h4⟩ := next_ok N (b - a + 1) (by omega) (by omega) hs hc
  exact ⟨r + a, s', by omega, by omega, h4, by rw [h1]; congr 2; omega⟩
end Go.W
end
section
set_option linter.unusedVariables false
set_option linter.unusedSimpArgs false
namespace Go.W
open Go.AM
/-! ### Lists of wagons -/
/-- The first error, 'seen' having come ahead. -/
def chkL : List (List UInt8) → List Wagon → Int
  | _, [] => 0
  | seen, w :: l => if wagErr w ≠ 0 then wagErr w else if w.number ∈ seen then 8 else chkL (seen ++ [w.number]) l
def listErr (l : List Wagon) : Int := if 96 < l.length then 3 else chkL [] l
/-- A map that has just these keys, all true. -/
def SeenM (m : List (List UInt8 × Bool)) (seen : List (List UInt8)) : Prop := ∀ k, (mpGet m k).getD false = decide (k ∈ seen)
theorem mpGet_set {α β : Type} [DecidableEq α] (m : List (α × β)) (a k : α) (b : β) : mpGet (mpSet m a b) k = if a = k then some b else mpGet m k := by
  induction m with
  | nil => simp [mpSet, mpGet]
  | cons p m ih =>
    simp only [mpSet]
    by_cases h : p.1 = a
    · rw [if_pos h]
      simp only [mpGet]
      by_cases h2 : a = k
      · simp [h, h2]
      · simp [h, h2]
    · rw [if_neg h]
      simp only [mpGet, ih]
      by_cases h2 : p.1 = k
      · have : ¬ a = k := fun h3 => h (h2.trans h3.symm)
        simp [h2, this]
      · simp [h2]
theorem seen_nil : SeenM [] [] := fun k => by simp [mpGet]
theorem seen_set {m : List (List UInt8 × Bool)} {seen : List (List UInt8)} (h : SeenM m seen) (a : List UInt8) : SeenM (mpSet m a true) (seen ++ [a]) := by
  intro k
  rw [mpGet_set]
  by_cases hk : a = k
  · simp [hk]
  · rw [if_neg hk, h k, decide_eq_decide]
    simp
    intro e; exact absurd e.symm hk
theorem pchk_loop (N : Nat) (h20 : 20 ≤ N) {l : List Wagon} (hl : l.length ≤ 100) (hF : ∀ w ∈ l, Fu N w) : ∀ (k n i : Nat) (m : List (List UInt8 × Bool)) (seen : List (List UInt8)), k < n → i + k = l.length → SeenM m seen →
    consist_check_0 N l l.length n m i = some (if chkL seen (l.drop i) = 0 then .inl () else .inr (chkL seen (l.drop i)))
  | k, 0, i, m, seen, hn, _, _ => by omega
  | 0, n + 1, i, m, seen, hn, hi, _ => by rw [consist_check_0, if_neg (dneg (by omega)), List.drop_eq_nil_of_le (by omega)]; rfl
  | k + 1, n + 1, i, m, seen, hn, hi, hs => by
    have hlt : i < l.length := by omega
    have hw := (wag_ok N h20 (hF _ (List.getElem_mem hlt))).1
    rw [consist_check_0, if_pos (dpos (by omega)), getI_nat (at_lt hlt), bind_some', hw, bind_some', drop_at (at_lt hlt)]
    simp only [chkL, lt_def]
    by_cases he : wagErr l[i] = 0
    · have e0 : (wagErr l[i] != 0) = false := by simpa using he
      simp only [e0, bne00, Bool.false_eq_true, if_false, he, ne_eq, not_true_eq_false]
      rw [hs l[i].number]
      by_cases hm : l[i].number ∈ seen
      · simp [hm]
      · simp only [hm, decide_false, Bool.false_eq_true, if_false]
        rw [w64s (by omega)]
        exact pchk_loop N h20 hl hF k n (i + 1) _ _ (by omega) (by omega) (seen_set hs _)
    · have e0 : (wagErr l[i] != 0) = true := by simpa using he
      simp only [e0, if_true, he, ne_eq, not_false_eq_true, if_false]
theorem rdup_loop (N : Nat) {l : List Wagon} (hl : l.length ≤ 100) {j : Nat} (hj : j < l.length) : ∀ (k n i : Nat), k < n → i + k = j →
    r06_ValidList_1 N l j n i = some (if l[j].number ∈ ((l.take j).drop i).map (·.number) then .inr 8 else .inl ())
  | k, 0, i, hn, _ => by omega
  | 0, n + 1, i, hn, hi => by rw [r06_ValidList_1, if_neg (dneg (by omega)), List.drop_eq_nil_of_le (by rw [List.length_take]; omega)]; rfl
  | k + 1, n + 1, i, hn, hi => by
    have hlt : i < l.length := by omega
    have hg : (l.take j)[i]? = some l[i] := by rw [List.getElem?_take, if_pos (by omega)]; exact at_lt hlt
    rw [r06_ValidList_1, if_pos (dpos (by omega)), getI_nat (at_lt hlt), bind_some', getI_nat (at_lt hj), bind_some', drop_at hg]
    by_cases he : l[i].number = l[j].number
    · rw [if_pos (by simpa using he), if_pos (by simp [he])]
    · rw [if_neg (by simpa using he), lt_def, w64s (by omega), rdup_loop N hl hj k n (i + 1) (by omega) (by omega)]
      have : ¬ l[j].number = l[i].number := fun h => he h.symm
      simp only [List.map_cons, List.mem_cons, this, false_or]
theorem rchk_loop (N : Nat) (h20 : 200 ≤ N) {l : List Wagon} (hl : l.length ≤ 100) (hF : ∀ w ∈ l, Fu N w) : ∀ (k n i : Nat), k < n → i + k = l.length →
    r06_ValidList_0 N l n i = some (if chkL ((l.take i).map (·.number)) (l.drop i) = 0 then .inl () else .inr (chkL ((l.take i).map (·.number)) (l.drop i)))
  | k, 0, i, hn, _ => by omega
  | 0, n + 1, i, hn, hi => by rw [r06_ValidList_0, if_neg (dneg (by omega)), List.drop_eq_nil_of_le (by omega)]; rfl
  | k + 1, n + 1, i, hn, hi => by
    have hlt : i < l.length := by omega
    have hw := (wag_ok N (by omega) (hF _ (List.getElem_mem hlt))).2
    have hd := rdup_loop N hl hlt i N 0 (by omega) (by omega)
    simp only [Int.natCast_zero, List.drop_zero] at hd
    rw [r06_ValidList_0, if_pos (dpos (by omega)), getI_nat (at_lt hlt), bind_some', hw, bind_some', drop_at (at_lt hlt)]
    simp only [chkL]
    by_cases he : wagErr l[i] = 0
    · have e0 : (wagErr l[i] != 0) = false := by simpa using he
      simp only [e0, bne00, Bool.false_eq_true, if_false, he, ne_eq, not_true_eq_false, hd, bind_some']
      by_cases hm : l[i].number ∈ (l.take i).map (·.number)
      · simp only [hm, if_true]; rfl
      · simp only [hm, if_false, lt_def]
        rw [w64s (by omega), rchk_loop N h20 hl hF k n (i + 1) (by omega) (by omega)]
        have : (l.take (i + 1)).map (·.number) = (l.take i).map (·.number) ++ [l[i].number] := by
          rw [List.take_succ_eq_append_getElem hlt, List.map_append]; rfl
        rw [this]
    · have e0 : (wagErr l[i] != 0) = true := by simpa using he
      simp only [e0, if_true, he, ne_eq, not_false_eq_true, if_false]
theorem list_ok (N : Nat) (h20 : 200 ≤ N) {l : List Wagon} (hF : l.length ≤ 96 → ∀ w ∈ l, Fu N w) : consist_check N l = some (listErr l) ∧ r06_ValidList N l = some (listErr l) := by
  unfold consist_check r06_ValidList listErr
  by_cases h : 96 < l.length
  · rw [if_pos (dpos (by omega)), if_pos (dpos (by omega)), if_pos h]; exact ⟨rfl, rfl⟩
  · have h1 := pchk_loop N (by omega) (l := l) (by omega) (hF (by omega)) l.length N 0 [] [] (by omega) (by omega) seen_nil
    have h2 := rchk_loop N (by omega) (l := l) (by omega) (hF (by omega)) l.length N 0 (by omega) (by omega)
    simp only [Int.natCast_zero, List.drop_zero, List.take_zero, List.map_nil] at h1 h2
    rw [if_neg (dneg (by omega)), if_neg (dneg (by omega)), if_neg h, h1, h2]
    simp only [bind_some']
    by_cases he : chkL [] l = 0
    · rw [he]; exact ⟨rfl, rfl⟩
    · rw [if_neg he]; exact ⟨rfl, rfl⟩
theorem chkL_valid : ∀ {l : List Wagon} {seen : List (List UInt8)}, chkL seen l = 0 → (∀ w ∈ l, wagErr w = 0) ∧ (l.map (·.number)).Nodup ∧ ∀ w ∈ l, w.number ∉ seen
  | [], seen, _ => by simp
  | w :: l, seen, h => by
    simp only [chkL] at h
    split at h
    · rename_i h1; exact absurd h h1
    · rename_i h1
      split at h
      · cases h
      · rename_i h2
        obtain ⟨g1, g2, g3⟩ := chkL_valid h
        refine ⟨fun x hx => ?_, ?_, fun x hx => ?_⟩
        · rcases List.mem_cons.1 hx with rfl | hx
          · simpa using h1
          · exact g1 x hx
        · rw [List.map_cons, List.nodup_cons]
          refine ⟨fun hm => ?_, g2⟩
          obtain ⟨y, hy, he⟩ := List.mem_map.1 hm
          have := g3 y hy
          simp [he] at this
        · rcases List.mem_cons.1 hx with rfl | hx
          · exact h2
          · have := g3 x hx
            simp at this
            exact this.1
theorem chkL_zero : ∀ {l : List Wagon} {seen : List (List UInt8)}, (∀ w ∈ l, wagErr w = 0) → (l.map (·.number)).Nodup → (∀ w ∈ l, w.number ∉ seen) → chkL seen l = 0
  | [], seen, _, _, _ => rfl
  | w :: l, seen, h1, h2, h3 => by
    simp only [chkL]
    rw [if_neg (by simp [h1 w (by simp)]), if_neg (h3 w (by simp))]
    rw [List.map_cons, List.nodup_cons] at h2
    refine chkL_zero (fun x hx => h1 x (by simp [hx])) h2.2 fun x hx => ?_
    simp only [List.mem_append, List.mem_singleton, not_or]
    refine ⟨h3 x (by simp [hx]), fun he => h2.1 ?_⟩
    rw [← he]
    exact List.mem_map.2 ⟨x, hx, rfl⟩
theorem listErr_zero {l : List Wagon} : listErr l = 0 ↔ l.length ≤ 96 ∧ (∀ w ∈ l, wagErr w = 0) ∧ (l.map (·.number)).Nodup := by
  unfold listErr
  by_cases h : 96 < l.length
  · rw [if_pos h]; simp; omega
  · rw [if_neg h]
    constructor
    · intro h1
      obtain ⟨g1, g2, _⟩ := chkL_valid h1
      exact ⟨by omega, g1, g2⟩
    · rintro ⟨_, g1, g2⟩
      exact chkL_zero g1 g2 fun w _ => by simp
/-! ### Sums -/
def sumL (f : Wagon → Int) (l : List Wagon) : Int := l.foldr (fun w s => f w + s) 0
theorem sumL_nil (f : Wagon → Int) : sumL f [] = 0 := rfl
theorem sumL_cons (f : Wagon → Int) (w : Wagon) (l : List Wagon) : sumL f (w :: l) = f w + sumL f l := rfl
theorem sumL_append (f : Wagon → Int) : ∀ (a b : List Wagon), sumL f (a ++ b) = sumL f a + sumL f b
  | [], b => by simp [sumL]
  | w :: a, b => by simp [sumL_cons, sumL_append f a b]; omega
theorem sumL_bound {f : Wagon → Int} {lo hi : Int} : ∀ {l : List Wagon}, (∀ w ∈ l, lo ≤ f w ∧ f w ≤ hi) → lo * l.length ≤ sumL f l ∧ sumL f l ≤ hi * l.length
  | [], _ => by simp [sumL]
  | w :: l, h => by
    have h1 := h w (by simp)
    have h2 := sumL_bound (l := l) fun x hx => h x (by simp [hx])
    rw [sumL_cons]
    simp only [List.length_cons, Int.natCast_add, Int.natCast_one, Int.mul_add, Int.mul_one]
    omega
theorem total_loop (N : Nat) {l : List Wagon} (hl : l.length ≤ 100) (hv : ∀ w ∈ l, wagErr w = 0) : ∀ (k n i : Nat) (a b c : Int), k < n → i + k = l.length → 0 ≤ a → a ≤ 2000 * i → 0 ≤ b → b ≤ 2000 * i → 0 ≤ c → c ≤ 2000 * i →
    consist_Total_0 N l l.length n a b c i = some (a + sumL (·.length) (l.drop i), b + sumL (·.mass) (l.drop i), c + sumL (·.axles) (l.drop i)) ∧
    r06_Total_0 N l n a b c i = some (a + sumL (·.length) (l.drop i), b + sumL (·.mass) (l.drop i), c + sumL (·.axles) (l.drop i))
  | k, 0, i, a, b, c, hn, _, _, _, _, _, _, _ => by omega
  | 0, n + 1, i, a, b, c, hn, hi, _, _, _, _, _, _ => by
    rw [consist_Total_0, r06_Total_0, if_neg (dneg (by omega)), if_neg (dneg (by omega)), List.drop_eq_nil_of_le (by omega)]
    simp [sumL]
  | k + 1, n + 1, i, a, b, c, hn, hi, _, _, _, _, _, _ => by
    have hlt : i < l.length := by omega
    have hr := wag_ranges (hv _ (List.getElem_mem hlt))
    obtain ⟨h1, h2⟩ := total_loop N hl hv k n (i + 1) (a + l[i].length) (b + l[i].mass) (c + l[i].axles) (by omega) (by omega) (by omega) (by omega) (by omega) (by omega) (by omega) (by omega)
    rw [consist_Total_0, r06_Total_0, if_pos (dpos (by omega)), if_pos (dpos (by omega)), getI_nat (at_lt hlt)]
    simp only [bind_some', lt_def]
    rw [w64 (n := a + l[i].length) (by omega) (by omega), w64 (n := b + l[i].mass) (by omega) (by omega), w64 (n := c + l[i].axles) (by omega) (by omega), w64s (by omega), h1, h2, drop_at (at_lt hlt)]
    simp only [sumL_cons, Int.add_assoc, and_self]
/-- The sums of a list, or its error. -/
def totals (l : List Wagon) : Int × Int × Int × Int := if listErr l = 0 then (sumL (·.length) l, sumL (·.mass) l, sumL (·.axles) l, 0) else (0, 0, 0, listErr l)
theorem total_ok (N : Nat) (h20 : 200 ≤ N) {l : List Wagon} (hF : l.length ≤ 96 → ∀ w ∈ l, Fu N w) : consist_Total N l = some (totals l) ∧ r06_Total N l = some (totals l) := by
  obtain ⟨h1, h2⟩ := list_ok N h20 hF
  unfold consist_Total r06_Total totals
  rw [h1, h2, bind_some', bind_some']
  by_cases he : listErr l = 0
  · have hz := listErr_zero.1 he
    have e0 : (listErr l != 0) = false := by simpa using he
    obtain ⟨t1, t2⟩ := total_loop N (l := l) (by omega) hz.2.1 l.length N 0 0 0 0 (by omega) (by omega) (by omega) (by omega) (by omega) (by omega) (by omega) (by omega)
    simp only [Int.natCast_zero, List.drop_zero, Int.zero_add] at t1 t2
    simp only [e0, bne00, Bool.false_eq_true, if_false, he, if_true, t1, t2, bind_some', and_self]
  · have e0 : (listErr l != 0) = true := by simpa using he
    simp only [e0, if_true, he, if_false, and_self]
end Go.W
end
section
namespace Go.W
open Go.AM
theorem MadeL.err {l : List Wagon} (h : MadeL l) (hl : l.length ≤ 96) : listErr l = 0 := listErr_zero.2 ⟨hl, h.ok, h.nodup⟩
end Go.W
end
