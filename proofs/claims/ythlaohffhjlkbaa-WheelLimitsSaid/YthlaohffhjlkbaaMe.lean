/- W1 LWl0 LWlA LWlT LWlB LWlC LWlD LWlE WSane LWl -/
import Derived.Test.YthlaohffhjlkbaaProg
import Derived.IntWalk
import Derived.Test.YthlaohffhjlkbaaMd
section
set_option linter.unusedVariables false
set_option linter.unusedSimpArgs false
set_option maxRecDepth 100000
set_option maxHeartbeats 1000000
namespace Go.W
open Go.AM Go.Proofs
noncomputable def Ty3 : Ty Int := TyOf 3 [.int .i64] fun x => (x, ())
noncomputable def Ty4 : Ty Bool := TyOf 4 [.bool] fun x => (x, ())
noncomputable def Ty9 : Ty (List UInt8) := TyOf 9 [.str] fun x => (x, ())
noncomputable def Ty22 : Ty (List Int) := TyOf 22 [.sl Int Ty3] fun x => (x, ())
noncomputable def Ty30 : Ty Wagon := TyOf 30 [.str, .int .i64, .int .i64, .int .i64, .int .i64, .int .i64, .bool, .str] fun x => (x.number, x.length, x.axles, x.mass, x.brake, x.goods, x.gentle, x.dest, ())
structure TE where
  α : Type
  T : Ty α
  kc : α → List Value
noncomputable def tabL : Nat → TE
  | 3 => ⟨Int, Ty3, kInt .i64⟩
  | 4 => ⟨Bool, Ty4, kBool⟩
  | 9 => ⟨(List UInt8), Ty9, kStr⟩
  | 22 => ⟨(List Int), Ty22, fun _ => []⟩
  | 30 => ⟨Wagon, Ty30, fun _ => []⟩
  | _ => ⟨Bool, TBool 4, kBool⟩
noncomputable def D (t : Nat) : Type := (tabL t).α
noncomputable def G : Tab D := ⟨fun t => (tabL t).T, fun t => (tabL t).kc⟩
noncomputable def ti3 : TI Try.prog G 3 := tiOf [.int .i64] (fun (x : Int) => (x, ())) (fun y => (y.1 : Int)) (fun _ => rfl) (fun _ => rfl) (0 : Int) Try.t3 (.int .i64 0) rfl Try.type3 rfl rfl rfl rfl rfl rfl (fun z => ⟨rfl, trivial⟩) rfl
noncomputable def ti4 : TI Try.prog G 4 := tiOf [.bool] (fun (x : Bool) => (x, ())) (fun y => (y.1 : Bool)) (fun _ => rfl) (fun _ => rfl) (false : Bool) Try.t4 (.bool false) rfl Try.type4 rfl rfl rfl rfl rfl rfl (fun z => ⟨rfl, trivial⟩) rfl
noncomputable def ti9 : TI Try.prog G 9 := tiOf [.str] (fun (x : (List UInt8)) => (x, ())) (fun y => (y.1 : (List UInt8))) (fun _ => rfl) (fun _ => rfl) ([] : (List UInt8)) Try.t9 (.string ⟨#[]⟩) rfl Try.type9 rfl rfl rfl rfl rfl rfl (fun z => ⟨rfl, trivial⟩) rfl
noncomputable def ti22 : TI Try.prog G 22 := tiOf [.sl 3] (fun (x : (List Int)) => (x, ())) (fun y => (y.1 : (List Int))) (fun _ => rfl) (fun _ => rfl) ([] : (List Int)) Try.t22 (.slice none 0 0) rfl Try.type22 rfl rfl rfl rfl rfl rfl (fun z => ⟨.inl ⟨rfl, rfl⟩, trivial⟩) rfl
noncomputable def ti30 : TI Try.prog G 30 := tiOf [.str, .int .i64, .int .i64, .int .i64, .int .i64, .int .i64, .bool, .str] (fun (x : Wagon) => (x.number, x.length, x.axles, x.mass, x.brake, x.goods, x.gentle, x.dest, ())) (fun y => ((Wagon.mk y.1 y.2.1 y.2.2.1 y.2.2.2.1 y.2.2.2.2.1 y.2.2.2.2.2.1 y.2.2.2.2.2.2.1 y.2.2.2.2.2.2.2.1) : Wagon)) (fun _ => rfl) (fun _ => rfl) ((Wagon.mk [] 0 0 0 0 0 false []) : Wagon) Try.t30 (.agg #[.string ⟨#[]⟩, .int .i64 0, .int .i64 0, .int .i64 0, .int .i64 0, .int .i64 0, .bool false, .string ⟨#[]⟩]) rfl Try.type30 rfl rfl rfl rfl rfl rfl (fun z => ⟨rfl, rfl, rfl, rfl, rfl, rfl, rfl, rfl, trivial⟩) rfl
noncomputable def ni22_3 : NI Try.prog G 22 3 := ⟨fun xs => xs, rfl, rfl, fun _ _ _ h => ⟨h, trivial⟩, Try.t22, Try.type22, rfl, rfl, rfl, Try.underlying22, rfl⟩
noncomputable def X0 : Ev Try.prog D where
  G := G
  I := fun t => match t with | 3 => some ti3 | 4 => some ti4 | 9 => some ti9 | 22 => some ti22 | 30 => some ti30 | _ => none
  A := fun _ => none
  J := fun _ _ => none
  B := fun _ => none
  Q := fun _ => none
  N := fun e t => match e, t with | 22, 3 => some ni22_3 | _, _ => none
  F := fun _ _ _ => false
  C := fun _ _ _ _ _ => none
noncomputable def fs0 (N : Nat) : List (FE D) := []
theorem all0 (N : Nat) : ∀ y ∈ fs0 N, CallOk X0 y.d y.F := fun y h => absurd h (by simp [fs0])
noncomputable def X00 (N : Nat) : Ev Try.prog D := X0.with (fs0 N)
theorem cok0 (N : Nat) : COk (X00 N) := COk.of (all0 N)
/-! ### humpyard/wheel.distance -/
noncomputable def u0_wheel_distance (N : Nat) : List (Pc D) := []
theorem oku0_wheel_distance (N : Nat) : ∀ u ∈ u0_wheel_distance N, PcOk (X00 N) (bodyOf Try.f40) u := pc_nil
noncomputable def Pwheel_distance_0 : PD D := { path := [1, 0], ins := [.v 0 (.int .i64)], fx := [], ks := [], exs := [⟨.normal, [.v 2 .bool], []⟩], keep := [] }
noncomputable def Fwheel_distance_0 (N : Nat) : Pwheel_distance_0.F := fun x => wheel_distance_0 N x.1
theorem cwheel_distance_0 (N : Nat) : CC (X00 N) (bodyOf Try.f40) Pwheel_distance_0 (Fwheel_distance_0 N) := CC.of (cok0 N) (us := u0_wheel_distance N) (fun u h _ => oku0_wheel_distance N u h) (fun x => by kernel_rfl)
noncomputable def uwheel_distance_0 (N : Nat) : List (Pc D) := Pwheel_distance_0.pc (X00 N) (Fwheel_distance_0 N) :: u0_wheel_distance N
theorem okuwheel_distance_0 (N : Nat) : ∀ u ∈ uwheel_distance_0 N, PcOk (X00 N) (bodyOf Try.f40) u := pc_cons ((cwheel_distance_0 N).pc (by kernel_rfl)) (oku0_wheel_distance N)
noncomputable def dwheel_distance : FD D := { f := 40, np := 1, ins := [.v 0 (.int .i64)], fx := [], rcv := none, rk := 0, outs := [.v 2 .bool], ofx := [], rvs := [.tmp 2], flat := true }
noncomputable def Fwheel_distance (N : Nat) : dwheel_distance.F := fun r x => wheel_distance N x.1
theorem owheel_distance (N : Nat) : FOk Try.prog (X00 N) dwheel_distance (Fwheel_distance N) := ⟨⟨Try.f40, _, Try.func40, rfl, by kernel_rfl, by kernel_rfl, rfl, FC.of (cok0 N) (us := uwheel_distance_0 N) (fun u h _ => okuwheel_distance_0 N u h) (fun r x => by kernel_rfl)⟩, by kernel_rfl, by kernel_rfl, by kernel_rfl, by kernel_rfl⟩
noncomputable def fs1 (N : Nat) : List (FE D) := ⟨dwheel_distance, Fwheel_distance N⟩ :: fs0 N
theorem all1 (N : Nat) : ∀ y ∈ fs1 N, CallOk X0 y.d y.F := all_cons (x := ⟨dwheel_distance, Fwheel_distance N⟩) (owheel_distance N) (all0 N)
noncomputable def X1 (N : Nat) : Ev Try.prog D := X0.with (fs1 N)
theorem cok1 (N : Nat) : COk (X1 N) := COk.of (all1 N)
/-! ### humpyard/wheel.check -/
noncomputable def u0_wheel_check (N : Nat) : List (Pc D) := []
theorem oku0_wheel_check (N : Nat) : ∀ u ∈ u0_wheel_check N, PcOk (X1 N) (bodyOf Try.f29) u := pc_nil
noncomputable def Pwheel_check_0 : PD D := { path := [1, 0, 0], ins := [.v 0 (.sl 3), .v 1 (.sl 22)], fx := [], ks := [], exs := [⟨.normal, [.v 23 .bool], []⟩], keep := [0, 1, 2] }
noncomputable def Fwheel_check_0 (N : Nat) : Pwheel_check_0.F := fun x => wheel_check_0 N x.1 x.2.1
theorem cwheel_check_0 (N : Nat) : CC (X1 N) (bodyOf Try.f29) Pwheel_check_0 (Fwheel_check_0 N) := CC.of (cok1 N) (us := u0_wheel_check N) (fun u h _ => oku0_wheel_check N u h) (fun x => by kernel_rfl)
noncomputable def uwheel_check_0 (N : Nat) : List (Pc D) := Pwheel_check_0.pc (X1 N) (Fwheel_check_0 N) :: u0_wheel_check N
theorem okuwheel_check_0 (N : Nat) : ∀ u ∈ uwheel_check_0 N, PcOk (X1 N) (bodyOf Try.f29) u := pc_cons ((cwheel_check_0 N).pc (by kernel_rfl)) (oku0_wheel_check N)
noncomputable def Pwheel_check_1 : PD D := { path := [1, 1, 0, 1, 0], ins := [.v 24 (.sl 22), .v 25 (.int .i64), .v 26 (.int .i64)], fx := [], ks := [], exs := [⟨.exit 0, [], []⟩, ⟨.ret, [.v 6 (.int .i64)], []⟩], keep := [0, 1, 2] }
noncomputable def Fwheel_check_1 (N n : Nat) : Pwheel_check_1.F := fun x => wheel_check_1 N x.1 x.2.1 n x.2.2.1
theorem cwheel_check_1 (N n : Nat) : CC (X1 N) (bodyOf Try.f29) Pwheel_check_1 (Fwheel_check_1 N n) := CC.loop (cok1 N) (us := uwheel_check_0 N) (c := sub (bodyOf Try.f29) [1, 1, 0, 1, 0, 0]) (by kernel_rfl) (by kernel_rfl) (fun u h _ => okuwheel_check_0 N u h) (fun x => rfl) (fun n x => by kernel_rfl) n
noncomputable def uwheel_check_1 (N : Nat) : List (Pc D) := Pwheel_check_1.pc (X1 N) (Fwheel_check_1 N N) :: uwheel_check_0 N
theorem okuwheel_check_1 (N : Nat) : ∀ u ∈ uwheel_check_1 N, PcOk (X1 N) (bodyOf Try.f29) u := pc_cons ((cwheel_check_1 N N).pc (by kernel_rfl)) (okuwheel_check_0 N)
noncomputable def Pwheel_check_2 : PD D := { path := [1, 1, 1, 0], ins := [.v 2 (.int .i64)], fx := [], ks := [], exs := [⟨.normal, [.v 9 .bool], []⟩], keep := [0, 1] }
noncomputable def Fwheel_check_2 (N : Nat) : Pwheel_check_2.F := fun x => wheel_check_2 N x.1
theorem cwheel_check_2 (N : Nat) : CC (X1 N) (bodyOf Try.f29) Pwheel_check_2 (Fwheel_check_2 N) := CC.of (cok1 N) (us := uwheel_check_1 N) (fun u h _ => okuwheel_check_1 N u h) (fun x => by kernel_rfl)
noncomputable def uwheel_check_2 (N : Nat) : List (Pc D) := Pwheel_check_2.pc (X1 N) (Fwheel_check_2 N) :: uwheel_check_1 N
theorem okuwheel_check_2 (N : Nat) : ∀ u ∈ uwheel_check_2 N, PcOk (X1 N) (bodyOf Try.f29) u := pc_cons ((cwheel_check_2 N).pc (by kernel_rfl)) (okuwheel_check_1 N)
noncomputable def Pwheel_check_4 : PD D := { path := [1, 1, 1, 1, 0, 1, 0, 0, 1, 1, 0, 0, 1], ins := [.v 9 .bool, .v 11 (.int .i64)], fx := [], ks := [], exs := [⟨.normal, [.v 9 .bool], []⟩], keep := [1, 40, 41, 42] }
noncomputable def Fwheel_check_4 (N : Nat) : Pwheel_check_4.F := fun x => wheel_check_4 N x.1 x.2.1
theorem cwheel_check_4 (N : Nat) : CC (X1 N) (bodyOf Try.f29) Pwheel_check_4 (Fwheel_check_4 N) := CC.of (cok1 N) (us := uwheel_check_2 N) (fun u h _ => okuwheel_check_2 N u h) (fun x => by kernel_rfl)
noncomputable def uwheel_check_4 (N : Nat) : List (Pc D) := Pwheel_check_4.pc (X1 N) (Fwheel_check_4 N) :: uwheel_check_2 N
theorem okuwheel_check_4 (N : Nat) : ∀ u ∈ uwheel_check_4 N, PcOk (X1 N) (bodyOf Try.f29) u := pc_cons ((cwheel_check_4 N).pc (by kernel_rfl)) (okuwheel_check_2 N)
noncomputable def Pwheel_check_3 : PD D := { path := [1, 1, 1, 1, 0, 1, 0], ins := [.v 9 .bool, .v 40 (.sl 3), .v 41 (.int .i64), .v 42 (.int .i64)], fx := [], ks := [], exs := [⟨.exit 2, [.v 9 .bool], []⟩], keep := [1] }
noncomputable def Fwheel_check_3 (N n : Nat) : Pwheel_check_3.F := fun x => wheel_check_3 N x.2.1 x.2.2.1 n x.1 x.2.2.2.1
theorem cwheel_check_3 (N n : Nat) : CC (X1 N) (bodyOf Try.f29) Pwheel_check_3 (Fwheel_check_3 N n) := CC.loop (cok1 N) (us := uwheel_check_4 N) (c := sub (bodyOf Try.f29) [1, 1, 1, 1, 0, 1, 0, 0]) (by kernel_rfl) (by kernel_rfl) (fun u h _ => okuwheel_check_4 N u h) (fun x => rfl) (fun n x => by kernel_rfl) n
noncomputable def uwheel_check_3 (N : Nat) : List (Pc D) := Pwheel_check_3.pc (X1 N) (Fwheel_check_3 N N) :: uwheel_check_4 N
theorem okuwheel_check_3 (N : Nat) : ∀ u ∈ uwheel_check_3 N, PcOk (X1 N) (bodyOf Try.f29) u := pc_cons ((cwheel_check_3 N N).pc (by kernel_rfl)) (okuwheel_check_4 N)
noncomputable def Pwheel_check_7 : PD D := { path := [1, 1, 1, 1, 1, 0, 1, 0, 0, 1, 1, 0, 0, 1, 1, 0, 0, 1, 1, 0, 0, 1], ins := [.v 9 .bool, .v 15 (.int .i64)], fx := [], ks := [], exs := [⟨.normal, [.v 9 .bool], []⟩], keep := [52, 53, 54, 58, 59, 60] }
noncomputable def Fwheel_check_7 (N : Nat) : Pwheel_check_7.F := fun x => wheel_check_7 N x.1 x.2.1
theorem cwheel_check_7 (N : Nat) : CC (X1 N) (bodyOf Try.f29) Pwheel_check_7 (Fwheel_check_7 N) := CC.of (cok1 N) (us := uwheel_check_3 N) (fun u h _ => okuwheel_check_3 N u h) (fun x => by kernel_rfl)
noncomputable def uwheel_check_7 (N : Nat) : List (Pc D) := Pwheel_check_7.pc (X1 N) (Fwheel_check_7 N) :: uwheel_check_3 N
theorem okuwheel_check_7 (N : Nat) : ∀ u ∈ uwheel_check_7 N, PcOk (X1 N) (bodyOf Try.f29) u := pc_cons ((cwheel_check_7 N).pc (by kernel_rfl)) (okuwheel_check_3 N)
noncomputable def Pwheel_check_6 : PD D := { path := [1, 1, 1, 1, 1, 0, 1, 0, 0, 1, 1, 0, 0, 1, 1, 0], ins := [.v 9 .bool, .v 58 (.sl 3), .v 59 (.int .i64), .v 60 (.int .i64)], fx := [], ks := [], exs := [⟨.exit 6, [.v 9 .bool], []⟩], keep := [52, 53, 54] }
noncomputable def Fwheel_check_6 (N n : Nat) : Pwheel_check_6.F := fun x => wheel_check_6 N x.2.1 x.2.2.1 n x.1 x.2.2.2.1
theorem cwheel_check_6 (N n : Nat) : CC (X1 N) (bodyOf Try.f29) Pwheel_check_6 (Fwheel_check_6 N n) := CC.loop (cok1 N) (us := uwheel_check_7 N) (c := sub (bodyOf Try.f29) [1, 1, 1, 1, 1, 0, 1, 0, 0, 1, 1, 0, 0, 1, 1, 0, 0]) (by kernel_rfl) (by kernel_rfl) (fun u h _ => okuwheel_check_7 N u h) (fun x => rfl) (fun n x => by kernel_rfl) n
noncomputable def uwheel_check_6 (N : Nat) : List (Pc D) := Pwheel_check_6.pc (X1 N) (Fwheel_check_6 N N) :: uwheel_check_7 N
theorem okuwheel_check_6 (N : Nat) : ∀ u ∈ uwheel_check_6 N, PcOk (X1 N) (bodyOf Try.f29) u := pc_cons ((cwheel_check_6 N N).pc (by kernel_rfl)) (okuwheel_check_7 N)
noncomputable def Pwheel_check_5 : PD D := { path := [1, 1, 1, 1, 1, 0, 1, 0], ins := [.v 9 .bool, .v 52 (.sl 22), .v 53 (.int .i64), .v 54 (.int .i64)], fx := [], ks := [], exs := [⟨.exit 4, [.v 9 .bool], []⟩], keep := [] }
noncomputable def Fwheel_check_5 (N n : Nat) : Pwheel_check_5.F := fun x => wheel_check_5 N x.2.1 x.2.2.1 n x.1 x.2.2.2.1
theorem cwheel_check_5 (N n : Nat) : CC (X1 N) (bodyOf Try.f29) Pwheel_check_5 (Fwheel_check_5 N n) := CC.loop (cok1 N) (us := uwheel_check_6 N) (c := sub (bodyOf Try.f29) [1, 1, 1, 1, 1, 0, 1, 0, 0]) (by kernel_rfl) (by kernel_rfl) (fun u h _ => okuwheel_check_6 N u h) (fun x => rfl) (fun n x => by kernel_rfl) n
noncomputable def uwheel_check_5 (N : Nat) : List (Pc D) := Pwheel_check_5.pc (X1 N) (Fwheel_check_5 N N) :: uwheel_check_6 N
theorem okuwheel_check_5 (N : Nat) : ∀ u ∈ uwheel_check_5 N, PcOk (X1 N) (bodyOf Try.f29) u := pc_cons ((cwheel_check_5 N N).pc (by kernel_rfl)) (okuwheel_check_6 N)
noncomputable def dwheel_check : FD D := { f := 29, np := 3, ins := [.v 0 (.sl 3), .v 1 (.sl 22), .v 2 (.int .i64)], fx := [], rcv := none, rk := 0, outs := [.v 6 (.int .i64)], ofx := [], rvs := [.tmp 6], flat := true }
noncomputable def Fwheel_check (N : Nat) : dwheel_check.F := fun r x => wheel_check N x.1 x.2.1 x.2.2.1
theorem owheel_check (N : Nat) : FOk Try.prog (X1 N) dwheel_check (Fwheel_check N) := ⟨⟨Try.f29, _, Try.func29, rfl, by kernel_rfl, by kernel_rfl, rfl, FC.of (cok1 N) (us := uwheel_check_5 N) (fun u h _ => okuwheel_check_5 N u h) (fun r x => by kernel_rfl)⟩, by kernel_rfl, by kernel_rfl, by kernel_rfl, by kernel_rfl⟩
noncomputable def fs2 (N : Nat) : List (FE D) := ⟨dwheel_check, Fwheel_check N⟩ :: fs1 N
theorem all2 (N : Nat) : ∀ y ∈ fs2 N, CallOk X0 y.d y.F := all_cons (x := ⟨dwheel_check, Fwheel_check N⟩) (owheel_check N) (all1 N)
noncomputable def X2 (N : Nat) : Ev Try.prog D := X0.with (fs2 N)
theorem cok2 (N : Nat) : COk (X2 N) := COk.of (all2 N)
/-! ### humpyard/wheel.match -/
noncomputable def u0_wheel_match (N : Nat) : List (Pc D) := []
theorem oku0_wheel_match (N : Nat) : ∀ u ∈ u0_wheel_match N, PcOk (X2 N) (bodyOf Try.f30) u := pc_nil
noncomputable def Pwheel_match_0 : PD D := { path := [1, 1, 1, 0, 1, 0], ins := [.v 0 (.sl 3), .v 2 (.int .i64), .v 8 (.int .i64), .v 17 (.sl 3), .v 18 (.int .i64), .v 19 (.int .i64)], fx := [], ks := [], exs := [⟨.exit 0, [.v 8 (.int .i64)], []⟩, ⟨.ret, [.v 6 (.int .i64), .v 7 .bool], []⟩], keep := [] }
noncomputable def Fwheel_match_0 (N n : Nat) : Pwheel_match_0.F := fun x => wheel_match_0 N x.1 x.2.1 x.2.2.2.1 x.2.2.2.2.1 n x.2.2.1 x.2.2.2.2.2.1
theorem cwheel_match_0 (N n : Nat) : CC (X2 N) (bodyOf Try.f30) Pwheel_match_0 (Fwheel_match_0 N n) := CC.loop (cok2 N) (us := u0_wheel_match N) (c := sub (bodyOf Try.f30) [1, 1, 1, 0, 1, 0, 0]) (by kernel_rfl) (by kernel_rfl) (fun u h _ => oku0_wheel_match N u h) (fun x => rfl) (fun n x => by kernel_rfl) n
noncomputable def uwheel_match_0 (N : Nat) : List (Pc D) := Pwheel_match_0.pc (X2 N) (Fwheel_match_0 N N) :: u0_wheel_match N
theorem okuwheel_match_0 (N : Nat) : ∀ u ∈ uwheel_match_0 N, PcOk (X2 N) (bodyOf Try.f30) u := pc_cons ((cwheel_match_0 N N).pc (by kernel_rfl)) (oku0_wheel_match N)
noncomputable def dwheel_match : FD D := { f := 30, np := 3, ins := [.v 0 (.sl 3), .v 1 (.sl 3), .v 2 (.int .i64)], fx := [], rcv := none, rk := 0, outs := [.v 6 (.int .i64), .v 7 .bool], ofx := [], rvs := [.tmp 6, .tmp 7], flat := true }
noncomputable def Fwheel_match (N : Nat) : dwheel_match.F := fun r x => wheel_match N x.1 x.2.1 x.2.2.1
theorem owheel_match (N : Nat) : FOk Try.prog (X2 N) dwheel_match (Fwheel_match N) := ⟨⟨Try.f30, _, Try.func30, rfl, by kernel_rfl, by kernel_rfl, rfl, FC.of (cok2 N) (us := uwheel_match_0 N) (fun u h _ => okuwheel_match_0 N u h) (fun r x => by kernel_rfl)⟩, by kernel_rfl, by kernel_rfl, by kernel_rfl, by kernel_rfl⟩
noncomputable def fs3 (N : Nat) : List (FE D) := ⟨dwheel_match, Fwheel_match N⟩ :: fs2 N
theorem all3 (N : Nat) : ∀ y ∈ fs3 N, CallOk X0 y.d y.F := all_cons (x := ⟨dwheel_match, Fwheel_match N⟩) (owheel_match N) (all2 N)
noncomputable def X3 (N : Nat) : Ev Try.prog D := X0.with (fs3 N)
theorem cok3 (N : Nat) : COk (X3 N) := COk.of (all3 N)
/-! ### humpyard/wheel.Recognize -/
noncomputable def u0_wheel_Recognize (N : Nat) : List (Pc D) := []
theorem oku0_wheel_Recognize (N : Nat) : ∀ u ∈ u0_wheel_Recognize N, PcOk (X3 N) (bodyOf Try.f10) u := pc_nil
noncomputable def Pwheel_Recognize_3 : PD D := { path := [1, 1, 1, 1, 1, 0, 1, 0, 0, 1, 0, 0, 1, 1, 0, 0, 1, 1, 0, 0, 1, 1, 0, 0], ins := [.o 11 (.sl 3), .o 12 (.sl 3), .v 13 (.int .i64), .v 15 (.sl 3), .v 17 .bool], fx := [(11, .c (.own 0)), (12, .c (.own 1))], ks := [1, 1], exs := [⟨.normal, [.v 76 .bool], []⟩], keep := [0, 1, 2, 10, 11, 12, 13, 14, 15, 16, 48, 49, 50] }
noncomputable def Fwheel_Recognize_3 (N : Nat) : Pwheel_Recognize_3.F := fun x => wheel_Recognize_3 N x.1 x.2.2.1 x.2.2.2.1 x.2.2.2.2.1
theorem cwheel_Recognize_3 (N : Nat) : CC (X3 N) (bodyOf Try.f10) Pwheel_Recognize_3 (Fwheel_Recognize_3 N) := CC.of (cok3 N) (us := u0_wheel_Recognize N) (fun u h _ => oku0_wheel_Recognize N u h) (fun x => by kernel_rfl)
noncomputable def uwheel_Recognize_3 (N : Nat) : List (Pc D) := Pwheel_Recognize_3.pc (X3 N) (Fwheel_Recognize_3 N) :: u0_wheel_Recognize N
theorem okuwheel_Recognize_3 (N : Nat) : ∀ u ∈ uwheel_Recognize_3 N, PcOk (X3 N) (bodyOf Try.f10) u := pc_cons ((cwheel_Recognize_3 N).pc (by kernel_rfl)) (oku0_wheel_Recognize N)
noncomputable def Pwheel_Recognize_4 : PD D := { path := [1, 1, 1, 1, 1, 0, 1, 0, 0, 1, 0, 0, 1, 1, 0, 0, 1, 1, 0, 0, 1, 1, 1, 1, 0], ins := [.o 11 (.sl 3), .o 12 (.sl 3), .v 13 (.int .i64), .v 16 (.int .i64)], fx := [(11, .c (.own 0)), (12, .c (.own 1))], ks := [1, 1], exs := [⟨.normal, [.v 99 .bool], []⟩], keep := [0, 1, 2, 10, 11, 12, 13, 14, 16, 48, 49, 50] }
noncomputable def Fwheel_Recognize_4 (N : Nat) : Pwheel_Recognize_4.F := fun x => wheel_Recognize_4 N x.1 x.2.1 x.2.2.1 x.2.2.2.1
theorem cwheel_Recognize_4 (N : Nat) : CC (X3 N) (bodyOf Try.f10) Pwheel_Recognize_4 (Fwheel_Recognize_4 N) := CC.of (cok3 N) (us := uwheel_Recognize_3 N) (fun u h _ => okuwheel_Recognize_3 N u h) (fun x => by kernel_rfl)
noncomputable def uwheel_Recognize_4 (N : Nat) : List (Pc D) := Pwheel_Recognize_4.pc (X3 N) (Fwheel_Recognize_4 N) :: uwheel_Recognize_3 N
theorem okuwheel_Recognize_4 (N : Nat) : ∀ u ∈ uwheel_Recognize_4 N, PcOk (X3 N) (bodyOf Try.f10) u := pc_cons ((cwheel_Recognize_4 N).pc (by kernel_rfl)) (okuwheel_Recognize_3 N)
noncomputable def Pwheel_Recognize_2 : PD D := { path := [1, 1, 1, 1, 1, 0, 1, 0, 0, 1, 0, 0, 1, 1, 0, 0, 1, 1, 0], ins := [.v 0 (.sl 3), .v 2 (.int .i64), .o 11 (.sl 3), .o 12 (.sl 3), .v 13 (.int .i64), .v 48 (.sl 22), .v 50 (.int .i64)], fx := [(11, .c (.own 0)), (12, .c (.own 1))], ks := [2, 2], exs := [⟨.normal, [.u 0 (.sl 3), .u 1 (.sl 3)], []⟩], keep := [0, 1, 2, 10, 11, 12, 13, 48, 49, 50] }
noncomputable def Fwheel_Recognize_2 (N : Nat) : Pwheel_Recognize_2.F := fun x => wheel_Recognize_2 N x.1 x.2.1 x.2.2.1 x.2.2.2.1 x.2.2.2.2.1 x.2.2.2.2.2.1 x.2.2.2.2.2.2.1
theorem cwheel_Recognize_2 (N : Nat) : CC (X3 N) (bodyOf Try.f10) Pwheel_Recognize_2 (Fwheel_Recognize_2 N) := CC.of (cok3 N) (us := uwheel_Recognize_4 N) (fun u h _ => okuwheel_Recognize_4 N u h) (fun x => by kernel_rfl)
noncomputable def uwheel_Recognize_2 (N : Nat) : List (Pc D) := Pwheel_Recognize_2.pc (X3 N) (Fwheel_Recognize_2 N) :: uwheel_Recognize_4 N
theorem okuwheel_Recognize_2 (N : Nat) : ∀ u ∈ uwheel_Recognize_2 N, PcOk (X3 N) (bodyOf Try.f10) u := pc_cons ((cwheel_Recognize_2 N).pc (by kernel_rfl)) (okuwheel_Recognize_4 N)
noncomputable def Pwheel_Recognize_1 : PD D := { path := [1, 1, 1, 1, 1, 0, 1, 0, 0, 1, 0, 0, 1, 1, 0], ins := [.v 0 (.sl 3), .v 2 (.int .i64), .o 11 (.sl 3), .o 12 (.sl 3), .v 13 (.int .i64), .v 48 (.sl 22), .v 49 (.int .i64), .v 50 (.int .i64)], fx := [(11, .c (.own 0)), (12, .c (.own 1))], ks := [2, 2], exs := [⟨.exit 2, [.u 0 (.sl 3), .u 1 (.sl 3)], []⟩], keep := [0, 1, 2, 10, 11, 12, 13] }
noncomputable def Fwheel_Recognize_1 (N n : Nat) : Pwheel_Recognize_1.F := fun x => wheel_Recognize_1 N x.1 x.2.1 x.2.2.2.2.1 x.2.2.2.2.2.1 x.2.2.2.2.2.2.1 n x.2.2.1 x.2.2.2.1 x.2.2.2.2.2.2.2.1
theorem cwheel_Recognize_1 (N n : Nat) : CC (X3 N) (bodyOf Try.f10) Pwheel_Recognize_1 (Fwheel_Recognize_1 N n) := CC.loop (cok3 N) (us := uwheel_Recognize_2 N) (c := sub (bodyOf Try.f10) [1, 1, 1, 1, 1, 0, 1, 0, 0, 1, 0, 0, 1, 1, 0, 0]) (by kernel_rfl) (by kernel_rfl) (fun u h _ => okuwheel_Recognize_2 N u h) (fun x => rfl) (fun n x => by kernel_rfl) n
noncomputable def uwheel_Recognize_1 (N : Nat) : List (Pc D) := Pwheel_Recognize_1.pc (X3 N) (Fwheel_Recognize_1 N N) :: uwheel_Recognize_2 N
theorem okuwheel_Recognize_1 (N : Nat) : ∀ u ∈ uwheel_Recognize_1 N, PcOk (X3 N) (bodyOf Try.f10) u := pc_cons ((cwheel_Recognize_1 N N).pc (by kernel_rfl)) (okuwheel_Recognize_2 N)
noncomputable def Pwheel_Recognize_0 : PD D := { path := [1, 1, 1, 1, 1, 0, 1, 0], ins := [.v 0 (.sl 3), .v 1 (.sl 22), .v 2 (.int .i64), .o 11 (.sl 3), .o 12 (.sl 3), .v 13 (.int .i64)], fx := [(11, .c (.own 0)), (12, .c (.own 1))], ks := [2, 2], exs := [⟨.exit 0, [.u 0 (.sl 3), .u 1 (.sl 3)], []⟩], keep := [1, 10, 11, 12] }
noncomputable def Fwheel_Recognize_0 (N n : Nat) : Pwheel_Recognize_0.F := fun x => wheel_Recognize_0 N x.1 x.2.1 x.2.2.1 n x.2.2.2.1 x.2.2.2.2.1 x.2.2.2.2.2.1
theorem cwheel_Recognize_0 (N n : Nat) : CC (X3 N) (bodyOf Try.f10) Pwheel_Recognize_0 (Fwheel_Recognize_0 N n) := CC.loop (cok3 N) (us := uwheel_Recognize_1 N) (c := sub (bodyOf Try.f10) [1, 1, 1, 1, 1, 0, 1, 0, 0]) (by kernel_rfl) (by kernel_rfl) (fun u h _ => okuwheel_Recognize_1 N u h) (fun x => rfl) (fun n x => by kernel_rfl) n
noncomputable def uwheel_Recognize_0 (N : Nat) : List (Pc D) := Pwheel_Recognize_0.pc (X3 N) (Fwheel_Recognize_0 N N) :: uwheel_Recognize_1 N
theorem okuwheel_Recognize_0 (N : Nat) : ∀ u ∈ uwheel_Recognize_0 N, PcOk (X3 N) (bodyOf Try.f10) u := pc_cons ((cwheel_Recognize_0 N N).pc (by kernel_rfl)) (okuwheel_Recognize_1 N)
noncomputable def Pwheel_Recognize_5 : PD D := { path := [1, 1, 1, 1, 1, 1, 1, 1, 0, 1, 0], ins := [.v 1 (.sl 22), .v 10 (.int .i64), .o 11 (.sl 3), .o 12 (.sl 3), .o 18 (.sl 3), .v 19 (.int .i64)], fx := [(11, .c (.own 0)), (12, .c (.own 1)), (18, .c (.own 2))], ks := [1, 1, 0], exs := [⟨.exit 4, [.o 18 (.sl 3)], [(18, .c (.own 3))]⟩], keep := [11] }
noncomputable def Fwheel_Recognize_5 (N n : Nat) : Pwheel_Recognize_5.F := fun x => wheel_Recognize_5 N x.1 x.2.1 x.2.2.2.1 n x.2.2.2.2.1 x.2.2.2.2.2.1
theorem cwheel_Recognize_5 (N n : Nat) : CC (X3 N) (bodyOf Try.f10) Pwheel_Recognize_5 (Fwheel_Recognize_5 N n) := CC.loop (cok3 N) (us := uwheel_Recognize_0 N) (c := sub (bodyOf Try.f10) [1, 1, 1, 1, 1, 1, 1, 1, 0, 1, 0, 0]) (by kernel_rfl) (by kernel_rfl) (fun u h _ => okuwheel_Recognize_0 N u h) (fun x => rfl) (fun n x => by kernel_rfl) n
noncomputable def uwheel_Recognize_5 (N : Nat) : List (Pc D) := Pwheel_Recognize_5.pc (X3 N) (Fwheel_Recognize_5 N N) :: uwheel_Recognize_0 N
theorem okuwheel_Recognize_5 (N : Nat) : ∀ u ∈ uwheel_Recognize_5 N, PcOk (X3 N) (bodyOf Try.f10) u := pc_cons ((cwheel_Recognize_5 N N).pc (by kernel_rfl)) (okuwheel_Recognize_0 N)
noncomputable def dwheel_Recognize : FD D := { f := 10, np := 3, ins := [.v 0 (.sl 3), .v 1 (.sl 22), .v 2 (.int .i64)], fx := [], rcv := none, rk := 0, outs := [.o 6 (.sl 3), .v 7 (.int .i64), .v 8 (.int .i64)], ofx := [(6, .c (.own 0))], rvs := [.tmp 6, .tmp 7, .tmp 8], flat := false }
noncomputable def Fwheel_Recognize (N : Nat) : dwheel_Recognize.F := fun r x => wheel_Recognize N x.1 x.2.1 x.2.2.1
theorem owheel_Recognize (N : Nat) : FOk Try.prog (X3 N) dwheel_Recognize (Fwheel_Recognize N) := ⟨⟨Try.f10, _, Try.func10, rfl, by kernel_rfl, by kernel_rfl, rfl, FC.of (cok3 N) (us := uwheel_Recognize_5 N) (fun u h _ => okuwheel_Recognize_5 N u h) (fun r x => by kernel_rfl)⟩, by kernel_rfl, by kernel_rfl, by kernel_rfl, by kernel_rfl⟩
noncomputable def fs4 (N : Nat) : List (FE D) := ⟨dwheel_Recognize, Fwheel_Recognize N⟩ :: fs3 N
theorem all4 (N : Nat) : ∀ y ∈ fs4 N, CallOk X0 y.d y.F := all_cons (x := ⟨dwheel_Recognize, Fwheel_Recognize N⟩) (owheel_Recognize N) (all3 N)
noncomputable def X4 (N : Nat) : Ev Try.prog D := X0.with (fs4 N)
theorem cok4 (N : Nat) : COk (X4 N) := COk.of (all4 N)
/-! ### humpyard/wagonnumber.digits -/
noncomputable def u0_wagonnumber_digits (N : Nat) : List (Pc D) := []
theorem oku0_wagonnumber_digits (N : Nat) : ∀ u ∈ u0_wagonnumber_digits N, PcOk (X4 N) (bodyOf Try.f52) u := pc_nil
noncomputable def Pwagonnumber_digits_1 : PD D := { path := [1, 0, 1, 0, 0, 1, 0, 0, 0], ins := [.v 0 .str, .v 5 (.int .i64)], fx := [], ks := [], exs := [⟨.normal, [.v 21 .bool], []⟩], keep := [0, 1, 5] }
noncomputable def Fwagonnumber_digits_1 (N : Nat) : Pwagonnumber_digits_1.F := fun x => wagonnumber_digits_1 N x.1 x.2.1
theorem cwagonnumber_digits_1 (N : Nat) : CC (X4 N) (bodyOf Try.f52) Pwagonnumber_digits_1 (Fwagonnumber_digits_1 N) := CC.of (cok4 N) (us := u0_wagonnumber_digits N) (fun u h _ => oku0_wagonnumber_digits N u h) (fun x => by kernel_rfl)
noncomputable def uwagonnumber_digits_1 (N : Nat) : List (Pc D) := Pwagonnumber_digits_1.pc (X4 N) (Fwagonnumber_digits_1 N) :: u0_wagonnumber_digits N
theorem okuwagonnumber_digits_1 (N : Nat) : ∀ u ∈ uwagonnumber_digits_1 N, PcOk (X4 N) (bodyOf Try.f52) u := pc_cons ((cwagonnumber_digits_1 N).pc (by kernel_rfl)) (oku0_wagonnumber_digits N)
noncomputable def Pwagonnumber_digits_0 : PD D := { path := [1, 0, 1, 0], ins := [.v 0 .str, .v 5 (.int .i64)], fx := [], ks := [], exs := [⟨.exit 0, [], []⟩, ⟨.ret, [.v 4 .bool], []⟩], keep := [0, 1] }
noncomputable def Fwagonnumber_digits_0 (N n : Nat) : Pwagonnumber_digits_0.F := fun x => wagonnumber_digits_0 N x.1 n x.2.1
theorem cwagonnumber_digits_0 (N n : Nat) : CC (X4 N) (bodyOf Try.f52) Pwagonnumber_digits_0 (Fwagonnumber_digits_0 N n) := CC.loop (cok4 N) (us := uwagonnumber_digits_1 N) (c := sub (bodyOf Try.f52) [1, 0, 1, 0, 0]) (by kernel_rfl) (by kernel_rfl) (fun u h _ => okuwagonnumber_digits_1 N u h) (fun x => rfl) (fun n x => by kernel_rfl) n
noncomputable def uwagonnumber_digits_0 (N : Nat) : List (Pc D) := Pwagonnumber_digits_0.pc (X4 N) (Fwagonnumber_digits_0 N N) :: uwagonnumber_digits_1 N
theorem okuwagonnumber_digits_0 (N : Nat) : ∀ u ∈ uwagonnumber_digits_0 N, PcOk (X4 N) (bodyOf Try.f52) u := pc_cons ((cwagonnumber_digits_0 N N).pc (by kernel_rfl)) (okuwagonnumber_digits_1 N)
noncomputable def dwagonnumber_digits : FD D := { f := 52, np := 2, ins := [.v 0 .str, .v 1 (.int .i64)], fx := [], rcv := none, rk := 0, outs := [.v 4 .bool], ofx := [], rvs := [.tmp 4], flat := true }
noncomputable def Fwagonnumber_digits (N : Nat) : dwagonnumber_digits.F := fun r x => wagonnumber_digits N x.1 x.2.1
theorem owagonnumber_digits (N : Nat) : FOk Try.prog (X4 N) dwagonnumber_digits (Fwagonnumber_digits N) := ⟨⟨Try.f52, _, Try.func52, rfl, by kernel_rfl, by kernel_rfl, rfl, FC.of (cok4 N) (us := uwagonnumber_digits_0 N) (fun u h _ => okuwagonnumber_digits_0 N u h) (fun r x => by kernel_rfl)⟩, by kernel_rfl, by kernel_rfl, by kernel_rfl, by kernel_rfl⟩
noncomputable def fs5 (N : Nat) : List (FE D) := ⟨dwagonnumber_digits, Fwagonnumber_digits N⟩ :: fs4 N
theorem all5 (N : Nat) : ∀ y ∈ fs5 N, CallOk X0 y.d y.F := all_cons (x := ⟨dwagonnumber_digits, Fwagonnumber_digits N⟩) (owagonnumber_digits N) (all4 N)
noncomputable def X5 (N : Nat) : Ev Try.prog D := X0.with (fs5 N)
theorem cok5 (N : Nat) : COk (X5 N) := COk.of (all5 N)
/-! ### humpyard/wagonnumber.sum -/
noncomputable def u0_wagonnumber_sum (N : Nat) : List (Pc D) := []
theorem oku0_wagonnumber_sum (N : Nat) : ∀ u ∈ u0_wagonnumber_sum N, PcOk (X5 N) (bodyOf Try.f54) u := pc_nil
noncomputable def Pwagonnumber_sum_1 : PD D := { path := [1, 1, 0, 1, 0, 0, 1, 0, 0, 1, 0, 1], ins := [.v 5 (.int .i64), .v 19 .bool], fx := [], ks := [], exs := [⟨.normal, [.v 5 (.int .i64)], []⟩], keep := [0, 3, 4] }
noncomputable def Fwagonnumber_sum_1 (N : Nat) : Pwagonnumber_sum_1.F := fun x => wagonnumber_sum_1 N x.1 x.2.1
theorem cwagonnumber_sum_1 (N : Nat) : CC (X5 N) (bodyOf Try.f54) Pwagonnumber_sum_1 (Fwagonnumber_sum_1 N) := CC.of (cok5 N) (us := u0_wagonnumber_sum N) (fun u h _ => oku0_wagonnumber_sum N u h) (fun x => by kernel_rfl)
noncomputable def uwagonnumber_sum_1 (N : Nat) : List (Pc D) := Pwagonnumber_sum_1.pc (X5 N) (Fwagonnumber_sum_1 N) :: u0_wagonnumber_sum N
theorem okuwagonnumber_sum_1 (N : Nat) : ∀ u ∈ uwagonnumber_sum_1 N, PcOk (X5 N) (bodyOf Try.f54) u := pc_cons ((cwagonnumber_sum_1 N).pc (by kernel_rfl)) (oku0_wagonnumber_sum N)
noncomputable def Pwagonnumber_sum_0 : PD D := { path := [1, 1, 0, 1, 0], ins := [.v 0 .str, .v 3 (.int .i64), .v 4 (.int .i64)], fx := [], ks := [], exs := [⟨.exit 0, [.v 3 (.int .i64)], []⟩], keep := [] }
noncomputable def Fwagonnumber_sum_0 (N n : Nat) : Pwagonnumber_sum_0.F := fun x => wagonnumber_sum_0 N x.1 n x.2.1 x.2.2.1
theorem cwagonnumber_sum_0 (N n : Nat) : CC (X5 N) (bodyOf Try.f54) Pwagonnumber_sum_0 (Fwagonnumber_sum_0 N n) := CC.loop (cok5 N) (us := uwagonnumber_sum_1 N) (c := sub (bodyOf Try.f54) [1, 1, 0, 1, 0, 0]) (by kernel_rfl) (by kernel_rfl) (fun u h _ => okuwagonnumber_sum_1 N u h) (fun x => rfl) (fun n x => by kernel_rfl) n
noncomputable def uwagonnumber_sum_0 (N : Nat) : List (Pc D) := Pwagonnumber_sum_0.pc (X5 N) (Fwagonnumber_sum_0 N N) :: uwagonnumber_sum_1 N
theorem okuwagonnumber_sum_0 (N : Nat) : ∀ u ∈ uwagonnumber_sum_0 N, PcOk (X5 N) (bodyOf Try.f54) u := pc_cons ((cwagonnumber_sum_0 N N).pc (by kernel_rfl)) (okuwagonnumber_sum_1 N)
noncomputable def dwagonnumber_sum : FD D := { f := 54, np := 1, ins := [.v 0 .str], fx := [], rcv := none, rk := 0, outs := [.v 2 (.int .i64)], ofx := [], rvs := [.tmp 2], flat := true }
noncomputable def Fwagonnumber_sum (N : Nat) : dwagonnumber_sum.F := fun r x => wagonnumber_sum N x.1
theorem owagonnumber_sum (N : Nat) : FOk Try.prog (X5 N) dwagonnumber_sum (Fwagonnumber_sum N) := ⟨⟨Try.f54, _, Try.func54, rfl, by kernel_rfl, by kernel_rfl, rfl, FC.of (cok5 N) (us := uwagonnumber_sum_0 N) (fun u h _ => okuwagonnumber_sum_0 N u h) (fun r x => by kernel_rfl)⟩, by kernel_rfl, by kernel_rfl, by kernel_rfl, by kernel_rfl⟩
noncomputable def fs6 (N : Nat) : List (FE D) := ⟨dwagonnumber_sum, Fwagonnumber_sum N⟩ :: fs5 N
theorem all6 (N : Nat) : ∀ y ∈ fs6 N, CallOk X0 y.d y.F := all_cons (x := ⟨dwagonnumber_sum, Fwagonnumber_sum N⟩) (owagonnumber_sum N) (all5 N)
noncomputable def X6 (N : Nat) : Ev Try.prog D := X0.with (fs6 N)
theorem cok6 (N : Nat) : COk (X6 N) := COk.of (all6 N)
/-! ### humpyard/wagonnumber.check -/
noncomputable def u0_wagonnumber_check (N : Nat) : List (Pc D) := []
theorem oku0_wagonnumber_check (N : Nat) : ∀ u ∈ u0_wagonnumber_check N, PcOk (X6 N) (bodyOf Try.f53) u := pc_nil
noncomputable def dwagonnumber_check : FD D := { f := 53, np := 1, ins := [.v 0 .str], fx := [], rcv := none, rk := 0, outs := [.v 2 (.int .i64)], ofx := [], rvs := [.tmp 2], flat := true }
noncomputable def Fwagonnumber_check (N : Nat) : dwagonnumber_check.F := fun r x => wagonnumber_check N x.1
theorem owagonnumber_check (N : Nat) : FOk Try.prog (X6 N) dwagonnumber_check (Fwagonnumber_check N) := ⟨⟨Try.f53, _, Try.func53, rfl, by kernel_rfl, by kernel_rfl, rfl, FC.of (cok6 N) (us := u0_wagonnumber_check N) (fun u h _ => oku0_wagonnumber_check N u h) (fun r x => by kernel_rfl)⟩, by kernel_rfl, by kernel_rfl, by kernel_rfl, by kernel_rfl⟩
noncomputable def fs7 (N : Nat) : List (FE D) := ⟨dwagonnumber_check, Fwagonnumber_check N⟩ :: fs6 N
theorem all7 (N : Nat) : ∀ y ∈ fs7 N, CallOk X0 y.d y.F := all_cons (x := ⟨dwagonnumber_check, Fwagonnumber_check N⟩) (owagonnumber_check N) (all6 N)
noncomputable def X7 (N : Nat) : Ev Try.prog D := X0.with (fs7 N)
theorem cok7 (N : Nat) : COk (X7 N) := COk.of (all7 N)
/-! ### humpyard/wagonnumber.Valid -/
noncomputable def u0_wagonnumber_Valid (N : Nat) : List (Pc D) := []
theorem oku0_wagonnumber_Valid (N : Nat) : ∀ u ∈ u0_wagonnumber_Valid N, PcOk (X7 N) (bodyOf Try.f51) u := pc_nil
noncomputable def dwagonnumber_Valid : FD D := { f := 51, np := 1, ins := [.v 0 .str], fx := [], rcv := none, rk := 0, outs := [.v 2 (.int .i64)], ofx := [], rvs := [.tmp 2], flat := true }
noncomputable def Fwagonnumber_Valid (N : Nat) : dwagonnumber_Valid.F := fun r x => wagonnumber_Valid N x.1
theorem owagonnumber_Valid (N : Nat) : FOk Try.prog (X7 N) dwagonnumber_Valid (Fwagonnumber_Valid N) := ⟨⟨Try.f51, _, Try.func51, rfl, by kernel_rfl, by kernel_rfl, rfl, FC.of (cok7 N) (us := u0_wagonnumber_Valid N) (fun u h _ => oku0_wagonnumber_Valid N u h) (fun r x => by kernel_rfl)⟩, by kernel_rfl, by kernel_rfl, by kernel_rfl, by kernel_rfl⟩
noncomputable def fs8 (N : Nat) : List (FE D) := ⟨dwagonnumber_Valid, Fwagonnumber_Valid N⟩ :: fs7 N
theorem all8 (N : Nat) : ∀ y ∈ fs8 N, CallOk X0 y.d y.F := all_cons (x := ⟨dwagonnumber_Valid, Fwagonnumber_Valid N⟩) (owagonnumber_Valid N) (all7 N)
noncomputable def X8 (N : Nat) : Ev Try.prog D := X0.with (fs8 N)
theorem cok8 (N : Nat) : COk (X8 N) := COk.of (all8 N)
/-! ### humpyard/wagonnumber.Kind -/
noncomputable def u0_wagonnumber_Kind (N : Nat) : List (Pc D) := []
theorem oku0_wagonnumber_Kind (N : Nat) : ∀ u ∈ u0_wagonnumber_Kind N, PcOk (X8 N) (bodyOf Try.f43) u := pc_nil
noncomputable def Pwagonnumber_Kind_0 : PD D := { path := [1, 1, 0, 1, 0, 0, 1], ins := [.v 11 (.int .u8), .v 12 .bool], fx := [], ks := [], exs := [⟨.normal, [.v 12 .bool], []⟩], keep := [11] }
noncomputable def Fwagonnumber_Kind_0 (N : Nat) : Pwagonnumber_Kind_0.F := fun x => wagonnumber_Kind_0 N x.1 x.2.1
theorem cwagonnumber_Kind_0 (N : Nat) : CC (X8 N) (bodyOf Try.f43) Pwagonnumber_Kind_0 (Fwagonnumber_Kind_0 N) := CC.of (cok8 N) (us := u0_wagonnumber_Kind N) (fun u h _ => oku0_wagonnumber_Kind N u h) (fun x => by kernel_rfl)
noncomputable def uwagonnumber_Kind_0 (N : Nat) : List (Pc D) := Pwagonnumber_Kind_0.pc (X8 N) (Fwagonnumber_Kind_0 N) :: u0_wagonnumber_Kind N
theorem okuwagonnumber_Kind_0 (N : Nat) : ∀ u ∈ uwagonnumber_Kind_0 N, PcOk (X8 N) (bodyOf Try.f43) u := pc_cons ((cwagonnumber_Kind_0 N).pc (by kernel_rfl)) (oku0_wagonnumber_Kind N)
noncomputable def Pwagonnumber_Kind_1 : PD D := { path := [1, 1, 0, 1, 0, 1, 1, 0, 1], ins := [.v 11 (.int .u8), .v 15 .bool], fx := [], ks := [], exs := [⟨.normal, [.v 15 .bool], []⟩], keep := [11] }
noncomputable def Fwagonnumber_Kind_1 (N : Nat) : Pwagonnumber_Kind_1.F := fun x => wagonnumber_Kind_1 N x.1 x.2.1
theorem cwagonnumber_Kind_1 (N : Nat) : CC (X8 N) (bodyOf Try.f43) Pwagonnumber_Kind_1 (Fwagonnumber_Kind_1 N) := CC.of (cok8 N) (us := uwagonnumber_Kind_0 N) (fun u h _ => okuwagonnumber_Kind_0 N u h) (fun x => by kernel_rfl)
noncomputable def uwagonnumber_Kind_1 (N : Nat) : List (Pc D) := Pwagonnumber_Kind_1.pc (X8 N) (Fwagonnumber_Kind_1 N) :: uwagonnumber_Kind_0 N
theorem okuwagonnumber_Kind_1 (N : Nat) : ∀ u ∈ uwagonnumber_Kind_1 N, PcOk (X8 N) (bodyOf Try.f43) u := pc_cons ((cwagonnumber_Kind_1 N).pc (by kernel_rfl)) (okuwagonnumber_Kind_0 N)
noncomputable def dwagonnumber_Kind : FD D := { f := 43, np := 1, ins := [.v 0 .str], fx := [], rcv := none, rk := 0, outs := [.v 2 (.int .i64), .v 3 (.int .i64)], ofx := [], rvs := [.tmp 2, .tmp 3], flat := true }
noncomputable def Fwagonnumber_Kind (N : Nat) : dwagonnumber_Kind.F := fun r x => wagonnumber_Kind N x.1
theorem owagonnumber_Kind (N : Nat) : FOk Try.prog (X8 N) dwagonnumber_Kind (Fwagonnumber_Kind N) := ⟨⟨Try.f43, _, Try.func43, rfl, by kernel_rfl, by kernel_rfl, rfl, FC.of (cok8 N) (us := uwagonnumber_Kind_1 N) (fun u h _ => okuwagonnumber_Kind_1 N u h) (fun r x => by kernel_rfl)⟩, by kernel_rfl, by kernel_rfl, by kernel_rfl, by kernel_rfl⟩
noncomputable def fs9 (N : Nat) : List (FE D) := ⟨dwagonnumber_Kind, Fwagonnumber_Kind N⟩ :: fs8 N
theorem all9 (N : Nat) : ∀ y ∈ fs9 N, CallOk X0 y.d y.F := all_cons (x := ⟨dwagonnumber_Kind, Fwagonnumber_Kind N⟩) (owagonnumber_Kind N) (all8 N)
noncomputable def X9 (N : Nat) : Ev Try.prog D := X0.with (fs9 N)
theorem cok9 (N : Nat) : COk (X9 N) := COk.of (all9 N)
/-! ### humpyard/consist.axles -/
noncomputable def u0_consist_axles (N : Nat) : List (Pc D) := []
theorem oku0_consist_axles (N : Nat) : ∀ u ∈ u0_consist_axles N, PcOk (X9 N) (bodyOf Try.f44) u := pc_nil
noncomputable def dconsist_axles : FD D := { f := 44, np := 1, ins := [.v 0 (.int .i64)], fx := [], rcv := none, rk := 0, outs := [.v 2 (.int .i64)], ofx := [], rvs := [.tmp 2], flat := true }
noncomputable def Fconsist_axles (N : Nat) : dconsist_axles.F := fun r x => consist_axles N x.1
theorem oconsist_axles (N : Nat) : FOk Try.prog (X9 N) dconsist_axles (Fconsist_axles N) := ⟨⟨Try.f44, _, Try.func44, rfl, by kernel_rfl, by kernel_rfl, rfl, FC.of (cok9 N) (us := u0_consist_axles N) (fun u h _ => oku0_consist_axles N u h) (fun r x => by kernel_rfl)⟩, by kernel_rfl, by kernel_rfl, by kernel_rfl, by kernel_rfl⟩
noncomputable def fs10 (N : Nat) : List (FE D) := ⟨dconsist_axles, Fconsist_axles N⟩ :: fs9 N
theorem all10 (N : Nat) : ∀ y ∈ fs10 N, CallOk X0 y.d y.F := all_cons (x := ⟨dconsist_axles, Fconsist_axles N⟩) (oconsist_axles N) (all9 N)
noncomputable def X10 (N : Nat) : Ev Try.prog D := X0.with (fs10 N)
theorem cok10 (N : Nat) : COk (X10 N) := COk.of (all10 N)
/-! ### humpyard/consist.name -/
noncomputable def u0_consist_name (N : Nat) : List (Pc D) := []
theorem oku0_consist_name (N : Nat) : ∀ u ∈ u0_consist_name N, PcOk (X10 N) (bodyOf Try.f45) u := pc_nil
noncomputable def Pconsist_name_1 : PD D := { path := [1, 0, 1, 0, 0, 1, 0, 0, 1, 0], ins := [.v 4 (.int .u8)], fx := [], ks := [], exs := [⟨.normal, [.v 27 .bool], []⟩], keep := [0, 3] }
noncomputable def Fconsist_name_1 (N : Nat) : Pconsist_name_1.F := fun x => consist_name_1 N x.1
theorem cconsist_name_1 (N : Nat) : CC (X10 N) (bodyOf Try.f45) Pconsist_name_1 (Fconsist_name_1 N) := CC.of (cok10 N) (us := u0_consist_name N) (fun u h _ => oku0_consist_name N u h) (fun x => by kernel_rfl)
noncomputable def uconsist_name_1 (N : Nat) : List (Pc D) := Pconsist_name_1.pc (X10 N) (Fconsist_name_1 N) :: u0_consist_name N
theorem okuconsist_name_1 (N : Nat) : ∀ u ∈ uconsist_name_1 N, PcOk (X10 N) (bodyOf Try.f45) u := pc_cons ((cconsist_name_1 N).pc (by kernel_rfl)) (oku0_consist_name N)
noncomputable def Pconsist_name_0 : PD D := { path := [1, 0, 1, 0], ins := [.v 0 .str, .v 3 (.int .i64)], fx := [], ks := [], exs := [⟨.exit 0, [], []⟩, ⟨.ret, [.v 2 .bool], []⟩], keep := [0] }
noncomputable def Fconsist_name_0 (N n : Nat) : Pconsist_name_0.F := fun x => consist_name_0 N x.1 n x.2.1
theorem cconsist_name_0 (N n : Nat) : CC (X10 N) (bodyOf Try.f45) Pconsist_name_0 (Fconsist_name_0 N n) := CC.loop (cok10 N) (us := uconsist_name_1 N) (c := sub (bodyOf Try.f45) [1, 0, 1, 0, 0]) (by kernel_rfl) (by kernel_rfl) (fun u h _ => okuconsist_name_1 N u h) (fun x => rfl) (fun n x => by kernel_rfl) n
noncomputable def uconsist_name_0 (N : Nat) : List (Pc D) := Pconsist_name_0.pc (X10 N) (Fconsist_name_0 N N) :: uconsist_name_1 N
theorem okuconsist_name_0 (N : Nat) : ∀ u ∈ uconsist_name_0 N, PcOk (X10 N) (bodyOf Try.f45) u := pc_cons ((cconsist_name_0 N N).pc (by kernel_rfl)) (okuconsist_name_1 N)
noncomputable def Pconsist_name_2 : PD D := { path := [1, 1, 0], ins := [.v 0 .str], fx := [], ks := [], exs := [⟨.normal, [.v 2 .bool], []⟩], keep := [] }
noncomputable def Fconsist_name_2 (N : Nat) : Pconsist_name_2.F := fun x => consist_name_2 N x.1
theorem cconsist_name_2 (N : Nat) : CC (X10 N) (bodyOf Try.f45) Pconsist_name_2 (Fconsist_name_2 N) := CC.of (cok10 N) (us := uconsist_name_0 N) (fun u h _ => okuconsist_name_0 N u h) (fun x => by kernel_rfl)
noncomputable def uconsist_name_2 (N : Nat) : List (Pc D) := Pconsist_name_2.pc (X10 N) (Fconsist_name_2 N) :: uconsist_name_0 N
theorem okuconsist_name_2 (N : Nat) : ∀ u ∈ uconsist_name_2 N, PcOk (X10 N) (bodyOf Try.f45) u := pc_cons ((cconsist_name_2 N).pc (by kernel_rfl)) (okuconsist_name_0 N)
noncomputable def dconsist_name : FD D := { f := 45, np := 1, ins := [.v 0 .str], fx := [], rcv := none, rk := 0, outs := [.v 2 .bool], ofx := [], rvs := [.tmp 2], flat := true }
noncomputable def Fconsist_name (N : Nat) : dconsist_name.F := fun r x => consist_name N x.1
theorem oconsist_name (N : Nat) : FOk Try.prog (X10 N) dconsist_name (Fconsist_name N) := ⟨⟨Try.f45, _, Try.func45, rfl, by kernel_rfl, by kernel_rfl, rfl, FC.of (cok10 N) (us := uconsist_name_2 N) (fun u h _ => okuconsist_name_2 N u h) (fun r x => by kernel_rfl)⟩, by kernel_rfl, by kernel_rfl, by kernel_rfl, by kernel_rfl⟩
noncomputable def fs11 (N : Nat) : List (FE D) := ⟨dconsist_name, Fconsist_name N⟩ :: fs10 N
theorem all11 (N : Nat) : ∀ y ∈ fs11 N, CallOk X0 y.d y.F := all_cons (x := ⟨dconsist_name, Fconsist_name N⟩) (oconsist_name N) (all10 N)
noncomputable def X11 (N : Nat) : Ev Try.prog D := X0.with (fs11 N)
theorem cok11 (N : Nat) : COk (X11 N) := COk.of (all11 N)
/-! ### humpyard/consist.Valid -/
noncomputable def u0_consist_Valid (N : Nat) : List (Pc D) := []
theorem oku0_consist_Valid (N : Nat) : ∀ u ∈ u0_consist_Valid N, PcOk (X11 N) (bodyOf Try.f33) u := pc_nil
noncomputable def Pconsist_Valid_0 : PD D := { path := [1, 1, 1, 1, 0, 1], ins := [.o 1 (.box 30), .v 5 (.int .i64), .v 16 .bool], fx := [(1, .box 0 0)], ks := [1], exs := [⟨.normal, [.v 5 (.int .i64)], []⟩], keep := [1, 3] }
noncomputable def Fconsist_Valid_0 (N : Nat) : Pconsist_Valid_0.F := fun x => consist_Valid_0 N x.2.1 x.2.2.1
theorem cconsist_Valid_0 (N : Nat) : CC (X11 N) (bodyOf Try.f33) Pconsist_Valid_0 (Fconsist_Valid_0 N) := CC.of (cok11 N) (us := u0_consist_Valid N) (fun u h _ => oku0_consist_Valid N u h) (fun x => by kernel_rfl)
noncomputable def uconsist_Valid_0 (N : Nat) : List (Pc D) := Pconsist_Valid_0.pc (X11 N) (Fconsist_Valid_0 N) :: u0_consist_Valid N
theorem okuconsist_Valid_0 (N : Nat) : ∀ u ∈ uconsist_Valid_0 N, PcOk (X11 N) (bodyOf Try.f33) u := pc_cons ((cconsist_Valid_0 N).pc (by kernel_rfl)) (oku0_consist_Valid N)
noncomputable def Pconsist_Valid_1 : PD D := { path := [1, 1, 1, 1, 1, 0, 0, 1, 1, 0], ins := [.o 1 (.box 30), .v 5 (.int .i64)], fx := [(1, .box 0 0)], ks := [1], exs := [⟨.normal, [.v 23 .bool], []⟩], keep := [1] }
noncomputable def Fconsist_Valid_1 (N : Nat) : Pconsist_Valid_1.F := fun x => consist_Valid_1 N x.1 x.2.1
theorem cconsist_Valid_1 (N : Nat) : CC (X11 N) (bodyOf Try.f33) Pconsist_Valid_1 (Fconsist_Valid_1 N) := CC.of (cok11 N) (us := uconsist_Valid_0 N) (fun u h _ => okuconsist_Valid_0 N u h) (fun x => by kernel_rfl)
noncomputable def uconsist_Valid_1 (N : Nat) : List (Pc D) := Pconsist_Valid_1.pc (X11 N) (Fconsist_Valid_1 N) :: uconsist_Valid_0 N
theorem okuconsist_Valid_1 (N : Nat) : ∀ u ∈ uconsist_Valid_1 N, PcOk (X11 N) (bodyOf Try.f33) u := pc_cons ((cconsist_Valid_1 N).pc (by kernel_rfl)) (okuconsist_Valid_0 N)
noncomputable def Pconsist_Valid_2 : PD D := { path := [1, 1, 1, 1, 1, 0, 0, 1, 1, 1, 1, 0], ins := [.o 1 (.box 30)], fx := [(1, .box 0 0)], ks := [1], exs := [⟨.normal, [.v 43 .bool], []⟩], keep := [1] }
noncomputable def Fconsist_Valid_2 (N : Nat) : Pconsist_Valid_2.F := fun x => consist_Valid_2 N x.1
theorem cconsist_Valid_2 (N : Nat) : CC (X11 N) (bodyOf Try.f33) Pconsist_Valid_2 (Fconsist_Valid_2 N) := CC.of (cok11 N) (us := uconsist_Valid_1 N) (fun u h _ => okuconsist_Valid_1 N u h) (fun x => by kernel_rfl)
noncomputable def uconsist_Valid_2 (N : Nat) : List (Pc D) := Pconsist_Valid_2.pc (X11 N) (Fconsist_Valid_2 N) :: uconsist_Valid_1 N
theorem okuconsist_Valid_2 (N : Nat) : ∀ u ∈ uconsist_Valid_2 N, PcOk (X11 N) (bodyOf Try.f33) u := pc_cons ((cconsist_Valid_2 N).pc (by kernel_rfl)) (okuconsist_Valid_1 N)
noncomputable def dconsist_Valid : FD D := { f := 33, np := 1, ins := [.v 0 (.agg 30)], fx := [], rcv := none, rk := 0, outs := [.v 2 (.int .i64)], ofx := [], rvs := [.tmp 2], flat := true }
noncomputable def Fconsist_Valid (N : Nat) : dconsist_Valid.F := fun r x => consist_Valid N x.1
theorem oconsist_Valid (N : Nat) : FOk Try.prog (X11 N) dconsist_Valid (Fconsist_Valid N) := ⟨⟨Try.f33, _, Try.func33, rfl, by kernel_rfl, by kernel_rfl, rfl, FC.of (cok11 N) (us := uconsist_Valid_2 N) (fun u h _ => okuconsist_Valid_2 N u h) (fun r x => by kernel_rfl)⟩, by kernel_rfl, by kernel_rfl, by kernel_rfl, by kernel_rfl⟩
noncomputable def fs12 (N : Nat) : List (FE D) := ⟨dconsist_Valid, Fconsist_Valid N⟩ :: fs11 N
theorem all12 (N : Nat) : ∀ y ∈ fs12 N, CallOk X0 y.d y.F := all_cons (x := ⟨dconsist_Valid, Fconsist_Valid N⟩) (oconsist_Valid N) (all11 N)
noncomputable def X12 (N : Nat) : Ev Try.prog D := X0.with (fs12 N)
theorem cok12 (N : Nat) : COk (X12 N) := COk.of (all12 N)
/-! ### humpyard/wheel.offsets -/
noncomputable def u0_wheel_offsets (N : Nat) : List (Pc D) := []
theorem oku0_wheel_offsets (N : Nat) : ∀ u ∈ u0_wheel_offsets N, PcOk (X12 N) (bodyOf Try.f34) u := pc_nil
noncomputable def dwheel_offsets : FD D := { f := 34, np := 1, ins := [.v 0 (.agg 30)], fx := [], rcv := none, rk := 0, outs := [.o 2 (.sl 3)], ofx := [(2, .c (.own 0))], rvs := [.tmp 2], flat := false }
noncomputable def Fwheel_offsets (N : Nat) : dwheel_offsets.F := fun r x => wheel_offsets N x.1
theorem owheel_offsets (N : Nat) : FOk Try.prog (X12 N) dwheel_offsets (Fwheel_offsets N) := ⟨⟨Try.f34, _, Try.func34, rfl, by kernel_rfl, by kernel_rfl, rfl, FC.of (cok12 N) (us := u0_wheel_offsets N) (fun u h _ => oku0_wheel_offsets N u h) (fun r x => by kernel_rfl)⟩, by kernel_rfl, by kernel_rfl, by kernel_rfl, by kernel_rfl⟩
noncomputable def fs13 (N : Nat) : List (FE D) := ⟨dwheel_offsets, Fwheel_offsets N⟩ :: fs12 N
theorem all13 (N : Nat) : ∀ y ∈ fs13 N, CallOk X0 y.d y.F := all_cons (x := ⟨dwheel_offsets, Fwheel_offsets N⟩) (owheel_offsets N) (all12 N)
noncomputable def X13 (N : Nat) : Ev Try.prog D := X0.with (fs13 N)
theorem cok13 (N : Nat) : COk (X13 N) := COk.of (all13 N)
/-! ### humpyard/wheel.Offsets -/
noncomputable def u0_wheel_Offsets (N : Nat) : List (Pc D) := []
theorem oku0_wheel_Offsets (N : Nat) : ∀ u ∈ u0_wheel_Offsets N, PcOk (X13 N) (bodyOf Try.f14) u := pc_nil
noncomputable def dwheel_Offsets : FD D := { f := 14, np := 1, ins := [.v 0 (.agg 30)], fx := [], rcv := none, rk := 0, outs := [.o 2 (.sl 3), .v 3 (.int .i64)], ofx := [(2, .c (.own 0))], rvs := [.tmp 2, .tmp 3], flat := false }
noncomputable def Fwheel_Offsets (N : Nat) : dwheel_Offsets.F := fun r x => wheel_Offsets N x.1
theorem owheel_Offsets (N : Nat) : FOk Try.prog (X13 N) dwheel_Offsets (Fwheel_Offsets N) := ⟨⟨Try.f14, _, Try.func14, rfl, by kernel_rfl, by kernel_rfl, rfl, FC.of (cok13 N) (us := u0_wheel_Offsets N) (fun u h _ => oku0_wheel_Offsets N u h) (fun r x => by kernel_rfl)⟩, by kernel_rfl, by kernel_rfl, by kernel_rfl, by kernel_rfl⟩
noncomputable def fs14 (N : Nat) : List (FE D) := ⟨dwheel_Offsets, Fwheel_Offsets N⟩ :: fs13 N
theorem all14 (N : Nat) : ∀ y ∈ fs14 N, CallOk X0 y.d y.F := all_cons (x := ⟨dwheel_Offsets, Fwheel_Offsets N⟩) (owheel_Offsets N) (all13 N)
noncomputable def X14 (N : Nat) : Ev Try.prog D := X0.with (fs14 N)
theorem cok14 (N : Nat) : COk (X14 N) := COk.of (all14 N)
/-! ### humpyard/humpgen.Ints -/
noncomputable def u0_gen_Ints (N : Nat) : List (Pc D) := []
theorem oku0_gen_Ints (N : Nat) : ∀ u ∈ u0_gen_Ints N, PcOk (X14 N) (bodyOf Try.f25) u := pc_nil
noncomputable def Pgen_Ints_0 : PD D := { path := [1, 1, 0, 1, 0], ins := [.v 0 (.sl 3), .v 1 (.sl 3), .v 5 (.int .i64)], fx := [], ks := [], exs := [⟨.exit 0, [], []⟩, ⟨.ret, [.v 4 .bool], []⟩], keep := [] }
noncomputable def Fgen_Ints_0 (N n : Nat) : Pgen_Ints_0.F := fun x => gen_Ints_0 N x.1 x.2.1 n x.2.2.1
theorem cgen_Ints_0 (N n : Nat) : CC (X14 N) (bodyOf Try.f25) Pgen_Ints_0 (Fgen_Ints_0 N n) := CC.loop (cok14 N) (us := u0_gen_Ints N) (c := sub (bodyOf Try.f25) [1, 1, 0, 1, 0, 0]) (by kernel_rfl) (by kernel_rfl) (fun u h _ => oku0_gen_Ints N u h) (fun x => rfl) (fun n x => by kernel_rfl) n
noncomputable def ugen_Ints_0 (N : Nat) : List (Pc D) := Pgen_Ints_0.pc (X14 N) (Fgen_Ints_0 N N) :: u0_gen_Ints N
theorem okugen_Ints_0 (N : Nat) : ∀ u ∈ ugen_Ints_0 N, PcOk (X14 N) (bodyOf Try.f25) u := pc_cons ((cgen_Ints_0 N N).pc (by kernel_rfl)) (oku0_gen_Ints N)
noncomputable def dgen_Ints : FD D := { f := 25, np := 2, ins := [.v 0 (.sl 3), .v 1 (.sl 3)], fx := [], rcv := none, rk := 0, outs := [.v 4 .bool], ofx := [], rvs := [.tmp 4], flat := true }
noncomputable def Fgen_Ints (N : Nat) : dgen_Ints.F := fun r x => gen_Ints N x.1 x.2.1
theorem ogen_Ints (N : Nat) : FOk Try.prog (X14 N) dgen_Ints (Fgen_Ints N) := ⟨⟨Try.f25, _, Try.func25, rfl, by kernel_rfl, by kernel_rfl, rfl, FC.of (cok14 N) (us := ugen_Ints_0 N) (fun u h _ => okugen_Ints_0 N u h) (fun r x => by kernel_rfl)⟩, by kernel_rfl, by kernel_rfl, by kernel_rfl, by kernel_rfl⟩
noncomputable def fs15 (N : Nat) : List (FE D) := ⟨dgen_Ints, Fgen_Ints N⟩ :: fs14 N
theorem all15 (N : Nat) : ∀ y ∈ fs15 N, CallOk X0 y.d y.F := all_cons (x := ⟨dgen_Ints, Fgen_Ints N⟩) (ogen_Ints N) (all14 N)
noncomputable def X15 (N : Nat) : Ev Try.prog D := X0.with (fs15 N)
theorem cok15 (N : Nat) : COk (X15 N) := COk.of (all15 N)
/-! ### humpyard/humpyardlaw07.sane -/
noncomputable def u0_l07_sane (N : Nat) : List (Pc D) := []
theorem oku0_l07_sane (N : Nat) : ∀ u ∈ u0_l07_sane N, PcOk (X15 N) (bodyOf Try.f11) u := pc_nil
noncomputable def Pl07_sane_0 : PD D := { path := [1, 1, 1, 1, 0], ins := [.o 1 (.sl 3), .v 2 (.int .i64), .o 3 (.sl 3), .v 4 (.int .i64), .v 5 (.int .i64), .v 8 (.int .i64)], fx := [(1, .c (.own 0)), (3, .c (.own 1))], ks := [1, 1], exs := [⟨.normal, [.v 0 .bool], []⟩], keep := [] }
noncomputable def Fl07_sane_0 (N : Nat) : Pl07_sane_0.F := fun x => l07_sane_0 N x.1 x.2.1 x.2.2.1 x.2.2.2.1 x.2.2.2.2.1 x.2.2.2.2.2.1
theorem cl07_sane_0 (N : Nat) : CC (X15 N) (bodyOf Try.f11) Pl07_sane_0 (Fl07_sane_0 N) := CC.of (cok15 N) (us := u0_l07_sane N) (fun u h _ => oku0_l07_sane N u h) (fun x => by kernel_rfl)
noncomputable def ul07_sane_0 (N : Nat) : List (Pc D) := Pl07_sane_0.pc (X15 N) (Fl07_sane_0 N) :: u0_l07_sane N
theorem okul07_sane_0 (N : Nat) : ∀ u ∈ ul07_sane_0 N, PcOk (X15 N) (bodyOf Try.f11) u := pc_cons ((cl07_sane_0 N).pc (by kernel_rfl)) (oku0_l07_sane N)
noncomputable def dl07_sane : FD D := { f := 11, np := 0, ins := [], fx := [], rcv := none, rk := 0, outs := [.v 0 .bool], ofx := [], rvs := [.tmp 0], flat := true }
noncomputable def Fl07_sane (N : Nat) : dl07_sane.F := fun r x => l07_sane N
theorem ol07_sane (N : Nat) : FOk Try.prog (X15 N) dl07_sane (Fl07_sane N) := ⟨⟨Try.f11, _, Try.func11, rfl, by kernel_rfl, by kernel_rfl, rfl, FC.of (cok15 N) (us := ul07_sane_0 N) (fun u h _ => okul07_sane_0 N u h) (fun r x => by kernel_rfl)⟩, by kernel_rfl, by kernel_rfl, by kernel_rfl, by kernel_rfl⟩
noncomputable def fs16 (N : Nat) : List (FE D) := ⟨dl07_sane, Fl07_sane N⟩ :: fs15 N
theorem all16 (N : Nat) : ∀ y ∈ fs16 N, CallOk X0 y.d y.F := all_cons (x := ⟨dl07_sane, Fl07_sane N⟩) (ol07_sane N) (all15 N)
noncomputable def X16 (N : Nat) : Ev Try.prog D := X0.with (fs16 N)
theorem cok16 (N : Nat) : COk (X16 N) := COk.of (all16 N)
/-! ### humpyard/humpyardlaw07.WheelLimits -/
noncomputable def Y16 (N : Nat) : Ev Try.prog D := (X16 N).cuts fun x lo hi => match x, lo, hi with | .const (.int .i64 16), some (.const _), some (.const _) => 3 | .tmp 73, none, some (.const _) => 2 | .tmp 82, none, some (.const _) => 2 | .tmp 106, none, some (.const _) => 2 | .tmp 40, none, some (.const _) => 2 | _, _, _ => 0
theorem coky16 (N : Nat) : COk (Y16 N) := COk.cuts (cok16 N)
noncomputable def u0_l07_WheelLimits (N : Nat) : List (Pc D) := []
theorem oku0_l07_WheelLimits (N : Nat) : ∀ u ∈ u0_l07_WheelLimits N, PcOk (Y16 N) (bodyOf Try.f3) u := pc_nil
noncomputable def Pl07_WheelLimits_0 : PD D := { path := [1, 1, 1, 0, 1, 0], ins := [.o 5 (.sl 3), .v 24 (.int .i64), .v 25 (.int .i64)], fx := [(5, .c (.own 0))], ks := [2], exs := [⟨.exit 0, [.u 0 (.sl 3)], []⟩], keep := [0, 1, 5] }
noncomputable def Fl07_WheelLimits_0 (N n : Nat) : Pl07_WheelLimits_0.F := fun x => l07_WheelLimits_0 N x.2.1 n x.1 x.2.2.1
theorem cl07_WheelLimits_0 (N n : Nat) : CC (Y16 N) (bodyOf Try.f3) Pl07_WheelLimits_0 (Fl07_WheelLimits_0 N n) := CC.loop (coky16 N) (us := u0_l07_WheelLimits N) (c := sub (bodyOf Try.f3) [1, 1, 1, 0, 1, 0, 0]) (by kernel_rfl) (by kernel_rfl) (fun u h _ => oku0_l07_WheelLimits N u h) (fun x => rfl) (fun n x => by kernel_rfl) n
noncomputable def ul07_WheelLimits_0 (N : Nat) : List (Pc D) := Pl07_WheelLimits_0.pc (Y16 N) (Fl07_WheelLimits_0 N N) :: u0_l07_WheelLimits N
theorem okul07_WheelLimits_0 (N : Nat) : ∀ u ∈ ul07_WheelLimits_0 N, PcOk (Y16 N) (bodyOf Try.f3) u := pc_cons ((cl07_WheelLimits_0 N N).pc (by kernel_rfl)) (oku0_l07_WheelLimits N)
noncomputable def Pl07_WheelLimits_2 : PD D := { path := [1, 1, 1, 1, 1, 1, 1, 0, 1, 0, 1, 1, 1, 1, 1, 0, 1, 1, 0, 1, 0], ins := [.o 5 (.sl 3), .o 7 (.ne 22 3), .v 92 (.int .i64), .v 93 (.int .i64)], fx := [(5, .c (.own 0)), (7, .c (.own 1))], ks := [1, 2], exs := [⟨.exit 3, [.u 1 (.ne 22 3)], []⟩], keep := [0, 5, 7, 8] }
noncomputable def Fl07_WheelLimits_2 (N n : Nat) : Pl07_WheelLimits_2.F := fun x => l07_WheelLimits_2 N x.2.2.1 n x.2.1 x.2.2.2.1
theorem cl07_WheelLimits_2 (N n : Nat) : CC (Y16 N) (bodyOf Try.f3) Pl07_WheelLimits_2 (Fl07_WheelLimits_2 N n) := CC.loop (coky16 N) (us := ul07_WheelLimits_0 N) (c := sub (bodyOf Try.f3) [1, 1, 1, 1, 1, 1, 1, 0, 1, 0, 1, 1, 1, 1, 1, 0, 1, 1, 0, 1, 0, 0]) (by kernel_rfl) (by kernel_rfl) (fun u h _ => okul07_WheelLimits_0 N u h) (fun x => rfl) (fun n x => by kernel_rfl) n
noncomputable def ul07_WheelLimits_2 (N : Nat) : List (Pc D) := Pl07_WheelLimits_2.pc (Y16 N) (Fl07_WheelLimits_2 N N) :: ul07_WheelLimits_0 N
theorem okul07_WheelLimits_2 (N : Nat) : ∀ u ∈ ul07_WheelLimits_2 N, PcOk (Y16 N) (bodyOf Try.f3) u := pc_cons ((cl07_WheelLimits_2 N N).pc (by kernel_rfl)) (okul07_WheelLimits_0 N)
noncomputable def Pl07_WheelLimits_3 : PD D := { path := [1, 1, 1, 1, 1, 1, 1, 0, 1, 0, 1, 1, 1, 1, 1, 1, 1, 1, 1, 1, 0], ins := [.v 0 (.int .i64), .v 12 (.int .i64)], fx := [], ks := [], exs := [⟨.normal, [.v 4 .bool], []⟩], keep := [] }
noncomputable def Fl07_WheelLimits_3 (N : Nat) : Pl07_WheelLimits_3.F := fun x => l07_WheelLimits_3 N x.1 x.2.1
theorem cl07_WheelLimits_3 (N : Nat) : CC (Y16 N) (bodyOf Try.f3) Pl07_WheelLimits_3 (Fl07_WheelLimits_3 N) := CC.of (coky16 N) (us := ul07_WheelLimits_2 N) (fun u h _ => okul07_WheelLimits_2 N u h) (fun x => by kernel_rfl)
noncomputable def ul07_WheelLimits_3 (N : Nat) : List (Pc D) := Pl07_WheelLimits_3.pc (Y16 N) (Fl07_WheelLimits_3 N) :: ul07_WheelLimits_2 N
theorem okul07_WheelLimits_3 (N : Nat) : ∀ u ∈ ul07_WheelLimits_3 N, PcOk (Y16 N) (bodyOf Try.f3) u := pc_cons ((cl07_WheelLimits_3 N).pc (by kernel_rfl)) (okul07_WheelLimits_2 N)
noncomputable def Pl07_WheelLimits_1 : PD D := { path := [1, 1, 1, 1, 1, 1, 1, 0, 1], ins := [.v 0 (.int .i64), .o 5 (.sl 3), .o 7 (.ne 22 3), .v 8 (.int .i64), .v 39 (.int .i64)], fx := [(5, .c (.own 0)), (7, .c (.own 1))], ks := [0, 0], exs := [⟨.normal, [.o 5 (.sl 3), .o 7 (.ne 22 3), .v 8 (.int .i64)], [(5, .c (.own 2)), (7, .c (.own 3))]⟩, ⟨.ret, [.v 4 .bool], []⟩], keep := [] }
noncomputable def Fl07_WheelLimits_1 (N : Nat) : Pl07_WheelLimits_1.F := fun x => l07_WheelLimits_1 N x.1 x.2.1 x.2.2.1 x.2.2.2.1 x.2.2.2.2.1
theorem cl07_WheelLimits_1 (N : Nat) : CC (Y16 N) (bodyOf Try.f3) Pl07_WheelLimits_1 (Fl07_WheelLimits_1 N) := CC.of (coky16 N) (us := ul07_WheelLimits_3 N) (fun u h _ => okul07_WheelLimits_3 N u h) (fun x => by kernel_rfl)
noncomputable def ul07_WheelLimits_1 (N : Nat) : List (Pc D) := Pl07_WheelLimits_1.pc (Y16 N) (Fl07_WheelLimits_1 N) :: ul07_WheelLimits_3 N
theorem okul07_WheelLimits_1 (N : Nat) : ∀ u ∈ ul07_WheelLimits_1 N, PcOk (Y16 N) (bodyOf Try.f3) u := pc_cons ((cl07_WheelLimits_1 N).pc (by kernel_rfl)) (okul07_WheelLimits_3 N)
noncomputable def Pl07_WheelLimits_4 : PD D := { path := [1, 1, 1, 1, 1, 1, 1, 1, 1, 0], ins := [.v 5 (.sl 3), .v 8 (.int .i64), .o 13 (.sl 3), .v 14 (.int .i64), .v 15 (.int .i64)], fx := [(13, .c (.own 0))], ks := [1], exs := [⟨.normal, [.v 4 .bool], []⟩], keep := [] }
noncomputable def Fl07_WheelLimits_4 (N : Nat) : Pl07_WheelLimits_4.F := fun x => l07_WheelLimits_4 N x.1 x.2.1 x.2.2.1 x.2.2.2.1 x.2.2.2.2.1
theorem cl07_WheelLimits_4 (N : Nat) : CC (Y16 N) (bodyOf Try.f3) Pl07_WheelLimits_4 (Fl07_WheelLimits_4 N) := CC.of (coky16 N) (us := ul07_WheelLimits_1 N) (fun u h _ => okul07_WheelLimits_1 N u h) (fun x => by kernel_rfl)
noncomputable def ul07_WheelLimits_4 (N : Nat) : List (Pc D) := Pl07_WheelLimits_4.pc (Y16 N) (Fl07_WheelLimits_4 N) :: ul07_WheelLimits_1 N
theorem okul07_WheelLimits_4 (N : Nat) : ∀ u ∈ ul07_WheelLimits_4 N, PcOk (Y16 N) (bodyOf Try.f3) u := pc_cons ((cl07_WheelLimits_4 N).pc (by kernel_rfl)) (okul07_WheelLimits_1 N)
noncomputable def dl07_WheelLimits : FD D := { f := 3, np := 2, ins := [.v 0 (.int .i64), .v 1 (.int .i64)], fx := [], rcv := none, rk := 0, outs := [.v 4 .bool], ofx := [], rvs := [.tmp 4], flat := true }
noncomputable def Fl07_WheelLimits (N : Nat) : dl07_WheelLimits.F := fun r x => l07_WheelLimits N x.1 x.2.1
theorem ol07_WheelLimits (N : Nat) : FOk Try.prog (Y16 N) dl07_WheelLimits (Fl07_WheelLimits N) := ⟨⟨Try.f3, _, Try.func3, rfl, by kernel_rfl, by kernel_rfl, rfl, FC.of (coky16 N) (us := ul07_WheelLimits_4 N) (fun u h _ => okul07_WheelLimits_4 N u h) (fun r x => by kernel_rfl)⟩, by kernel_rfl, by kernel_rfl, by kernel_rfl, by kernel_rfl⟩
noncomputable def fs17 (N : Nat) : List (FE D) := ⟨dl07_WheelLimits, Fl07_WheelLimits N⟩ :: fs16 N
theorem all17 (N : Nat) : ∀ y ∈ fs17 N, CallOk X0 y.d y.F := all_call (x := ⟨dl07_WheelLimits, Fl07_WheelLimits N⟩) ((ol07_WheelLimits N).call.cuts) (all16 N)
noncomputable def X17 (N : Nat) : Ev Try.prog D := X0.with (fs17 N)
theorem cok17 (N : Nat) : COk (X17 N) := COk.of (all17 N)
end Go.W
end
section
set_option linter.unusedVariables false
set_option linter.unusedSimpArgs false
namespace Go.W
open Go.AM
theorem w64 {n : Int} (h : -9223372036854775808 ≤ n) (h' : n ≤ 9223372036854775807) : IntKind.wrap .i64 n = n := by rw [IntKind.wrap_i64]; omega
theorem w8 {n : Int} (h : 0 ≤ n) (h' : n ≤ 255) : IntKind.wrap .u8 n = n := by rw [IntKind.wrap_u8]; omega
theorem wrap64_lo (n : Int) : -9223372036854775808 ≤ IntKind.wrap .i64 n ∧ IntKind.wrap .i64 n ≤ 9223372036854775807 := by rw [IntKind.wrap_i64]; omega
theorem lt_def {α β : Type} (x : α) (f : α → Option β) : AM.lt x f = f x := rfl
theorem bind_some' {α β : Type} (x : α) (f : α → Option β) : Option.bind (some x) f = f x := rfl
theorem getI_ok {α : Type} {xs : List α} {i : Int} (h0 : 0 ≤ i) (h1 : i < xs.length) : ∃ x, getI xs i = some x ∧ x ∈ xs ∧ xs[i.toNat]? = some x := by
  have hlt : i.toNat < xs.length := by omega
  exact ⟨xs[i.toNat], by simp [getI, h0, hlt], by simp, by simp [hlt]⟩
end Go.W
end
section
set_option linter.unusedVariables false
set_option linter.unusedSimpArgs false
namespace Go.W
open Go.AM
/-- Distances in range. -/
def InR (x : Int) : Prop := 1 ≤ x ∧ x ≤ 10000
/-- What a pattern costs on the distances ahead, if it fits. -/
def fit (tol : Int) : List Int → List Int → Option Int
  | [], _ => some 0
  | _ :: _, [] => none
  | a :: q, b :: ds => if tol < max (b - a) (a - b) then none else (fit tol q ds).map (· + max (b - a) (a - b))
theorem fit_len {tol : Int} : ∀ {q ds : List Int} {c : Int}, fit tol q ds = some c → q.length ≤ ds.length
  | [], _, _, _ => by simp
  | _ :: _, [], _, h => by simp [fit] at h
  | a :: q, b :: ds, c, h => by
    simp only [fit] at h
    split at h
    · cases h
    · cases hq : fit tol q ds with
      | none => simp [hq] at h
      | some c' => have := fit_len hq; simp; exact this
theorem fit_bound {tol : Int} : ∀ {q ds : List Int} {c : Int}, (∀ x ∈ q, InR x) → (∀ x ∈ ds, InR x) → fit tol q ds = some c → 0 ≤ c ∧ c ≤ 10000 * q.length
  | [], _, c, _, _, h => by simp [fit] at h; subst h; simp
  | _ :: _, [], _, _, _, h => by simp [fit] at h
  | a :: q, b :: ds, c, hq, hd, h => by
    simp only [fit] at h
    split at h
    · cases h
    · cases hf : fit tol q ds with
      | none => simp [hf] at h
      | some c' =>
        simp [hf] at h
        have ih := fit_bound (fun x hx => hq x (by simp [hx])) (fun x hx => hd x (by simp [hx])) hf
        have h1 := hq a (by simp)
        have h2 := hd b (by simp)
        unfold InR at h1 h2
        simp only [List.length_cons]
        omega
theorem fit_short {tol : Int} : ∀ {q ds : List Int}, ds.length < q.length → fit tol q ds = none
  | [], _, h => by simp at h
  | _ :: _, [], _ => rfl
  | a :: q, b :: ds, h => by
    simp only [fit]
    split
    · rfl
    · rw [fit_short (by simpa using h)]; rfl
theorem wdrop_at {α : Type} {xs : List α} {i : Nat} {x : α} (h : xs[i]? = some x) : xs.drop i = x :: xs.drop (i + 1) := by
  obtain ⟨hlt, rfl⟩ := List.getElem?_eq_some_iff.1 h
  exact List.drop_eq_getElem_cons hlt
theorem match_loop (N : Nat) {ds q : List Int} {tol : Int} (hq : ∀ x ∈ q, InR x) (hd : ∀ x ∈ ds, InR x) (hl : q.length ≤ ds.length) (hl2 : q.length ≤ 1000) : ∀ (k n : Nat) (c : Int) (i : Nat), k + 1 ≤ n → i + k = q.length → 0 ≤ c → c ≤ 10000 * i →
    wheel_match_0 N ds tol q q.length n c i = some (match fit tol (q.drop i) (ds.drop i) with | some f => .inl (c + f) | none => .inr (0, false))
  | k, 0, c, i, hn, _, _, _ => by omega
  | 0, n + 1, c, i, hn, hi, hc0, hc1 => by
    rw [wheel_match_0, if_neg (by simp; omega)]
    have : q.drop i = [] := List.drop_eq_nil_of_le (by omega)
    rw [this]; simp [fit]
  | k + 1, n + 1, c, i, hn, hi, hc0, hc1 => by
    rw [wheel_match_0, if_pos (by simp; omega)]
    obtain ⟨a, ha, hma, ha2⟩ := getI_ok (xs := q) (i := i) (by omega) (by omega)
    obtain ⟨b, hb, hmb, hb2⟩ := getI_ok (xs := ds) (i := i) (by omega) (by omega)
    have h1 := hq a hma
    have h2 := hd b hmb
    unfold InR at h1 h2
    simp only [ha, hb, bind_some', lt_def]
    rw [w64 (n := b - a) (by omega) (by omega), w64 (n := a - b) (by omega) (by omega)]
    simp only [Int.toNat_natCast] at ha2 hb2
    rw [wdrop_at ha2, wdrop_at hb2]
    simp only [fit]
    by_cases ht : tol < max (b - a) (a - b)
    · rw [if_pos (by simpa using ht), if_pos ht]
    · rw [if_neg (by simpa using ht), if_neg ht, w64 (n := c + max (b - a) (a - b)) (by omega) (by omega), w64 (n := (i : Int) + 1) (by omega) (by omega)]
      have ih := match_loop N (tol := tol) hq hd hl hl2 k n (c + max (b - a) (a - b)) (i + 1) (by omega) (by omega) (by omega) (by omega)
      simp only [Int.natCast_add, Int.natCast_one] at ih
      rw [ih]
      cases hf : fit tol (q.drop (i + 1)) (ds.drop (i + 1)) with
      | none => simp
      | some f => simp; omega
/-- The program's 'match'. -/
theorem match_ok (M : Nat) {ds q : List Int} {tol : Int} (hq : ∀ x ∈ q, InR x) (hd : ∀ x ∈ ds, InR x) (hl2 : q.length ≤ 50) :
    wheel_match (M + 60) ds q tol = some (match fit tol q ds with | some f => (f, true) | none => (0, false)) := by
  unfold wheel_match
  by_cases hl : ds.length < q.length
  · rw [if_pos (by simp; omega), fit_short hl]
  · rw [if_neg (by simp; omega)]
    have := match_loop (M + 60) (tol := tol) hq hd (by omega) (by omega) q.length (M + 60) 0 0 (by omega) (by omega) (by omega) (by omega)
    simp only [List.drop_zero] at this
    rw [show ((0 : Nat) : Int) = 0 from rfl] at this
    rw [this, bind_some']
    cases fit tol q ds with
    | none => rfl
    | some f => simp
end Go.W
end
section
set_option linter.unusedVariables false
set_option linter.unusedSimpArgs false
namespace Go.W
open Go.AM
/-- One more pattern is looked at. -/
def better (tol : Int) (tl : List (Int × Int)) (ds q : List Int) (j : Nat) (b : Int × Int) : Int × Int :=
  match fit tol q ds, tl[q.length]? with
  | some f, some c => if c.1 < 0 then b else if b.2 < 0 ∨ f + c.1 < b.1 then (f + c.1, (j : Int)) else b
  | _, _ => b
def rowF (tol : Int) (tl : List (Int × Int)) (ds : List Int) : List (List Int) → Nat → Int × Int → Int × Int
  | [], _, b => b
  | q :: ps, j, b => rowF tol tl ds ps (j + 1) (better tol tl ds q j b)
/-- The rows from behind: 'k' of them, ahead of the last. -/
def tabN (tol : Int) (p : List (List Int)) (d : List Int) : Nat → List (Int × Int)
  | 0 => [(0, 0)]
  | k + 1 => rowF tol (tabN tol p d k) (d.drop (d.length - k)) p 0 (-1, -1) :: tabN tol p d k
theorem tabN_len {tol : Int} {p : List (List Int)} {d : List Int} : ∀ k, (tabN tol p d k).length = k + 1
  | 0 => rfl
  | k + 1 => by simp [tabN, tabN_len k]
/-- A row's place in range. -/
def RB (B : Int) (n : Nat) (b : Int × Int) : Prop := (b = (-1, -1)) ∨ (0 ≤ b.1 ∧ b.1 ≤ B ∧ 0 ≤ b.2 ∧ b.2 < n)
theorem better_rb {tol B : Int} {tl : List (Int × Int)} {ds q : List Int} {j n : Nat} {b : Int × Int} (hq : ∀ x ∈ q, InR x) (hd : ∀ x ∈ ds, InR x) (hl : q.length ≤ 5) (hj : j < n) (ht : ∀ c ∈ tl, c.1 ≤ B) (hb : RB (B + 50000) n b) : RB (B + 50000) n (better tol tl ds q j b) := by
  unfold better
  split
  · rename_i f c hf hc
    have hfb := fit_bound hq hd hf
    have hcb := ht c (List.mem_of_getElem? hc)
    split
    · exact hb
    · split
      · right; simp only []; omega
      · exact hb
  · exact hb
theorem rowF_rb {tol B : Int} {tl : List (Int × Int)} {ds : List Int} {n : Nat} (hd : ∀ x ∈ ds, InR x) (ht : ∀ c ∈ tl, c.1 ≤ B) : ∀ (ps : List (List Int)) (j : Nat) (b : Int × Int), (∀ q ∈ ps, q.length ≤ 5 ∧ ∀ x ∈ q, InR x) → j + ps.length ≤ n → RB (B + 50000) n b → RB (B + 50000) n (rowF tol tl ds ps j b)
  | [], j, b, _, _, hb => hb
  | q :: ps, j, b, hp, hj, hb => by
    simp only [List.length_cons] at hj
    obtain ⟨h1, h2⟩ := hp q (by simp)
    exact rowF_rb hd ht ps (j + 1) _ (fun q hq => hp q (by simp [hq])) (by omega) (better_rb h2 hd h1 (by omega) ht hb)
theorem tabN_rb {tol : Int} {p : List (List Int)} {d : List Int} (hd : ∀ x ∈ d, InR x) (hp : ∀ q ∈ p, q.length ≤ 5 ∧ ∀ x ∈ q, InR x) : ∀ (k : Nat), ∀ c ∈ tabN tol p d k, c = (0, 0) ∨ RB (50000 * k) p.length c
  | 0, c, hc => by simp [tabN] at hc; exact .inl hc
  | k + 1, c, hc => by
    simp only [tabN, List.mem_cons] at hc
    have ih := tabN_rb (tol := tol) hd hp k
    rcases hc with rfl | hc
    · right
      have := rowF_rb (tol := tol) (B := 50000 * k) (tl := tabN tol p d k) (ds := d.drop (d.length - k)) (n := p.length) (fun x hx => hd x (List.mem_of_mem_drop hx)) (fun c hc => by
        rcases ih c hc with rfl | h | h
        · simp; omega
        · rw [h]; simp; omega
        · exact h.2.1) p 0 (-1, -1) hp (by omega) (.inl rfl)
      rw [show (50000 : Int) * ((k + 1 : Nat) : Int) = 50000 * k + 50000 by omega]
      exact this
    · rcases ih c hc with h | h | h
      · exact .inl h
      · exact .inr (.inl h)
      · right; right; omega
end Go.W
end
section
set_option linter.unusedVariables false
set_option linter.unusedSimpArgs false
namespace Go.W
open Go.AM
/-- An array whose places from 'i' on are filled. -/
def arr (i : Nat) (c : Int) (T : List Int) : List Int := List.replicate i 0 ++ c :: T
theorem arr_at {i : Nat} {c : Int} {T : List Int} : getI (arr i c T) i = some c := by
  simp [getI, arr]
theorem arr_next {i k : Nat} {c x : Int} {T : List Int} (h : T[k]? = some x) {n : Int} (hn : n = (i : Int) + k + 1) : getI (arr i c T) n = some x := by
  subst hn
  unfold getI arr
  rw [if_pos (by omega), show ((i : Int) + k + 1).toNat = i + (k + 1) by omega, List.getElem?_append_right (by simp)]
  simp [h]
theorem arr_set {i : Nat} {c x : Int} {T : List Int} : (arr i c T).set ((i : Int).toNat) x = arr i x T := by
  unfold arr
  rw [Int.toNat_natCast, List.set_append_right _ _ (by simp)]
  simp
theorem inner_ok (M : Nat) {d q : List Int} {p : List (List Int)} {tol : Int} {i j : Nat} {b : Int × Int} {tl : List (Int × Int)} (hd : ∀ x ∈ d, InR x) (hq : q.length ≤ 5 ∧ ∀ x ∈ q, InR x) (hj : p[j]? = some q) (hi : i ≤ d.length) (hdl : d.length ≤ 768) (htl : tl.length = d.length - i + 1) (hb : ∀ c ∈ tl, -1 ≤ c.1 ∧ c.1 ≤ 100000000) :
    wheel_Recognize_2 (M + 60) d tol (arr i b.1 (tl.map Prod.fst)) (arr i b.2 (tl.map Prod.snd)) i p j =
      some (arr i (better tol tl (d.drop i) q j b).1 (tl.map Prod.fst), arr i (better tol tl (d.drop i) q j b).2 (tl.map Prod.snd)) := by
  obtain ⟨hq1, hq2⟩ := hq
  have hgq : getI p (j : Int) = some q := by simp [getI, hj]
  have hcut : cutI d (i : Int) (d.length : Int) = some (d.drop i) := by
    unfold cutI
    rw [if_pos (by omega)]
    simp
  have hdd : ∀ x ∈ d.drop i, InR x := fun x hx => hd x (List.mem_of_mem_drop hx)
  unfold wheel_Recognize_2
  rw [hgq, bind_some', hcut, bind_some', match_ok M hq2 hdd (by omega), bind_some']
  have hw : IntKind.wrap .i64 (IntKind.wrap .i64 ((i : Int) + (q.length : Int)) + 1) = (i : Int) + q.length + 1 := by rw [w64 (n := (i : Int) + q.length) (by omega) (by omega), w64 (by omega) (by omega)]
  unfold better
  cases hf : fit tol q (d.drop i) with
  | none =>
    simp only []
    unfold wheel_Recognize_3
    rw [if_pos (by simp), bind_some', if_pos rfl]
  | some f =>
    have hlen := fit_len hf
    have hfb := fit_bound hq2 hdd hf
    rw [List.length_drop] at hlen
    obtain ⟨c, hc⟩ : ∃ c, tl[q.length]? = some c := ⟨tl[q.length]'(by omega), by simp⟩
    have hcb := hb c (List.mem_of_getElem? hc)
    have hg : getI (arr i b.1 (tl.map Prod.fst)) ((i : Int) + q.length + 1) = some c.1 := arr_next (k := q.length) (by simp [hc]) rfl
    simp only [hc]
    unfold wheel_Recognize_3
    rw [if_neg (by simp), hw, hg, bind_some', bind_some', bind_some']
    by_cases hneg : c.1 < 0
    · rw [if_pos (by simpa using hneg), if_pos hneg]
    · rw [if_neg (by simpa using hneg), if_neg hneg, bind_some', bind_some', lt_def, w64 (n := f + c.1) (by omega) (by omega)]
      have h4 : wheel_Recognize_4 (M + 60) (arr i b.1 (tl.map Prod.fst)) (arr i b.2 (tl.map Prod.snd)) i (f + c.1) = some (decide (b.2 < 0 ∨ f + c.1 < b.1)) := by
        unfold wheel_Recognize_4
        rw [arr_at, bind_some', bind_some']
        by_cases h2 : b.2 < 0
        · rw [if_pos (by simpa using h2)]; simp [h2]
        · rw [if_neg (by simpa using h2), arr_at, bind_some', bind_some']; simp [h2]
      rw [h4, bind_some']
      by_cases h5 : b.2 < 0 ∨ f + c.1 < b.1
      · rw [if_pos (by simpa using h5), if_pos h5, arr_at, bind_some', bind_some', lt_def, arr_at, bind_some', bind_some', lt_def, arr_set, arr_set]
      · rw [if_neg (by simpa using h5), if_neg h5]
theorem patterns_loop (M : Nat) {d : List Int} {p : List (List Int)} {tol : Int} {i : Nat} {tl : List (Int × Int)} (hd : ∀ x ∈ d, InR x) (hp : ∀ q ∈ p, q.length ≤ 5 ∧ ∀ x ∈ q, InR x) (hi : i ≤ d.length) (hdl : d.length ≤ 768) (hpl : p.length ≤ 16) (htl : tl.length = d.length - i + 1) (hb : ∀ c ∈ tl, -1 ≤ c.1 ∧ c.1 ≤ 100000000) :
    ∀ (k n j : Nat) (b : Int × Int), k + 1 ≤ n → j + k = p.length → wheel_Recognize_1 (M + 60) d tol i p p.length n (arr i b.1 (tl.map Prod.fst)) (arr i b.2 (tl.map Prod.snd)) j =
      some (arr i (rowF tol tl (d.drop i) (p.drop j) j b).1 (tl.map Prod.fst), arr i (rowF tol tl (d.drop i) (p.drop j) j b).2 (tl.map Prod.snd))
  | k, 0, j, b, hn, _ => by omega
  | 0, n + 1, j, b, hn, hj => by
    rw [wheel_Recognize_1, if_neg (by simp; omega)]
    have : p.drop j = [] := List.drop_eq_nil_of_le (by omega)
    rw [this]; rfl
  | k + 1, n + 1, j, b, hn, hj => by
    rw [wheel_Recognize_1, if_pos (by simp; omega)]
    have hjl : j < p.length := by omega
    have hpj : p[j]? = some p[j] := by simp [hjl]
    rw [inner_ok M hd (hp _ (List.getElem_mem hjl)) hpj hi hdl htl hb, bind_some', w64 (n := (j : Int) + 1) (by omega) (by omega)]
    have ih := patterns_loop M (tol := tol) hd hp hi hdl hpl htl hb k n (j + 1) (better tol tl (d.drop i) p[j] j b) (by omega) (by omega)
    simp only [Int.natCast_add, Int.natCast_one] at ih
    simp only []
    rw [ih, wdrop_at hpj]
    rfl
end Go.W
end
section
set_option linter.unusedVariables false
set_option linter.unusedSimpArgs false
namespace Go.W
open Go.AM
theorem wgetI_nat {α : Type} {xs : List α} {i : Nat} {x : α} (h : xs[i]? = some x) : getI xs (i : Int) = some x := by simp [getI, h]
theorem wat_lt {α : Type} {xs : List α} {i : Nat} (h : i < xs.length) : xs[i]? = some xs[i] := by simp [h]
theorem ww64s {i : Nat} (h : i ≤ 4294967296) : IntKind.wrap .i64 ((i : Int) + 1) = ((i + 1 : Nat) : Int) := by rw [w64 (by omega) (by omega)]; omega
def inR (x : Int) : Bool := decide (1 ≤ x) && decide (x ≤ 10000)
theorem inR_iff {x : Int} : inR x = true ↔ InR x := by simp [inR, InR]
/-- The error of the arguments. -/
def chk (d : List Int) (p : List (List Int)) (tol : Int) : Int :=
  if 768 < d.length ∨ 16 < p.length then 3 else if p.any (fun q => decide (5 < q.length)) = true then 3
  else if (decide (0 ≤ tol) && decide (tol ≤ 10000)) && d.all inR && p.all (fun q => q.all inR) then 0 else 2
theorem distance_ok (N : Nat) (x : Int) : wheel_distance N x = some (inR x) := by
  unfold wheel_distance wheel_distance_0 inR
  by_cases h : 1 ≤ x <;> simp [h, lt_def, bind_some']
theorem len_loop (N : Nat) {p : List (List Int)} (hp : p.length ≤ 16) : ∀ (k n i : Nat), k < n → i + k = p.length →
    wheel_check_1 N p p.length n i = some (if (p.drop i).any (fun q => decide (5 < q.length)) = true then .inr 3 else .inl ())
  | k, 0, i, hn, _ => by omega
  | 0, n + 1, i, hn, hi => by rw [wheel_check_1, if_neg (by simp; omega), List.drop_eq_nil_of_le (by omega)]; rfl
  | k + 1, n + 1, i, hn, hi => by
    have hl : i < p.length := by omega
    rw [wheel_check_1, if_pos (by simp; omega), wgetI_nat (wat_lt hl), bind_some', wdrop_at (wat_lt hl), ww64s (by omega), len_loop N hp k n (i + 1) (by omega) (by omega)]
    generalize p[i] = q, p.drop (i + 1) = r
    by_cases h : 5 < q.length
    · rw [if_pos (by simp; omega)]; simp [h]
    · rw [if_neg (by simp; omega)]; simp [h]
theorem all_loop (N : Nat) {d : List Int} (hd : d.length ≤ 768) : ∀ (k n i : Nat) (b : Bool), k < n → i + k = d.length →
    wheel_check_3 N d d.length n b i = some (b && (d.drop i).all inR) ∧ wheel_check_6 N d d.length n b i = some (b && (d.drop i).all inR)
  | k, 0, i, b, hn, _ => by omega
  | 0, n + 1, i, b, hn, hi => by
    rw [wheel_check_3, wheel_check_6, if_neg (by simp; omega), if_neg (by simp; omega), List.drop_eq_nil_of_le (by omega)]; simp
  | k + 1, n + 1, i, b, hn, hi => by
    have hl : i < d.length := by omega
    have h4 : wheel_check_4 N b d[i] = some (b && inR d[i]) := by unfold wheel_check_4; cases b <;> simp [distance_ok, bind_some']
    have h7 : wheel_check_7 N b d[i] = some (b && inR d[i]) := by unfold wheel_check_7; cases b <;> simp [distance_ok, bind_some']
    obtain ⟨g1, g2⟩ := all_loop N hd k n (i + 1) (b && inR d[i]) (by omega) (by omega)
    rw [wheel_check_3, wheel_check_6, if_pos (by simp; omega), if_pos (by simp; omega), wgetI_nat (wat_lt hl), bind_some', bind_some', h4, h7, bind_some', bind_some', ww64s (by omega), g1, g2, wdrop_at (wat_lt hl), List.all_cons, Bool.and_assoc]
    exact ⟨rfl, rfl⟩
theorem alls_loop (N : Nat) (hN : 10 ≤ N) {p : List (List Int)} (hp : p.length ≤ 16) (hp5 : ∀ q ∈ p, q.length ≤ 5) : ∀ (k n i : Nat) (b : Bool), k < n → i + k = p.length →
    wheel_check_5 N p p.length n b i = some (b && (p.drop i).all fun q => q.all inR)
  | k, 0, i, b, hn, _ => by omega
  | 0, n + 1, i, b, hn, hi => by rw [wheel_check_5, if_neg (by simp; omega), List.drop_eq_nil_of_le (by omega)]; simp
  | k + 1, n + 1, i, b, hn, hi => by
    have hl : i < p.length := by omega
    have h5 := hp5 p[i] (List.getElem_mem hl)
    have h1 := (all_loop N (d := p[i]) (by omega) p[i].length N 0 b (by omega) (by omega)).2
    simp only [List.drop_zero, Int.natCast_zero] at h1
    rw [wheel_check_5, if_pos (by simp; omega), wgetI_nat (wat_lt hl), bind_some', h1, bind_some', ww64s (by omega), alls_loop N hN hp hp5 k n (i + 1) _ (by omega) (by omega), wdrop_at (wat_lt hl), List.all_cons, Bool.and_assoc]
theorem any_false {p : List (List Int)} (h : ¬ p.any (fun q => decide (5 < q.length)) = true) : ∀ q ∈ p, q.length ≤ 5 := by
  intro q hq
  simp only [List.any_eq_true, decide_eq_true_eq, not_exists, not_and] at h
  have := h q hq
  omega
theorem check_ok (N : Nat) (hN : 800 ≤ N) (d : List Int) (p : List (List Int)) (tol : Int) : wheel_check N d p tol = some (chk d p tol) := by
  unfold wheel_check
  have h0 : wheel_check_0 N d p = some (decide (768 < d.length ∨ 16 < p.length)) := by
    unfold wheel_check_0
    by_cases h1 : 768 < d.length
    · rw [if_pos (by simp; omega)]; simp [h1]
    · rw [if_neg (by simp; omega)]; simp only [h1, false_or]; congr 1; simp only [decide_eq_decide]; omega
  rw [h0, bind_some']
  unfold chk
  by_cases h1 : 768 < d.length ∨ 16 < p.length
  · rw [if_pos (by simpa using h1), if_pos h1]
  · rw [if_neg (by simpa using h1), if_neg h1]
    have hl := len_loop N (p := p) (by omega) p.length N 0 (by omega) (by omega)
    rw [show ((0 : Nat) : Int) = 0 from rfl] at hl
    rw [hl, bind_some', List.drop_zero]
    by_cases h2 : p.any (fun q => decide (5 < q.length)) = true
    · rw [if_pos h2, if_pos h2]
    · rw [if_neg h2, if_neg h2]
      have h3 : wheel_check_2 N tol = some (decide (0 ≤ tol) && decide (tol ≤ 10000)) := by
        unfold wheel_check_2
        by_cases h : 0 ≤ tol <;> simp [h, lt_def]
      have h4 := (all_loop N (d := d) (by omega) d.length N 0 (decide (0 ≤ tol) && decide (tol ≤ 10000)) (by omega) (by omega)).1
      have h5 := alls_loop N (by omega) (p := p) (by omega) (any_false h2) p.length N 0 ((decide (0 ≤ tol) && decide (tol ≤ 10000)) && d.all inR) (by omega) (by omega)
      rw [show ((0 : Nat) : Int) = 0 from rfl, List.drop_zero] at h4 h5
      simp only [h3, bind_some', h4, h5]
      cases (decide (0 ≤ tol) && decide (tol ≤ 10000) && d.all inR && p.all fun q => q.all inR) <;> rfl
end Go.W
end
section
set_option linter.unusedVariables false
set_option linter.unusedSimpArgs false
namespace Go.W
open Go.AM
/-- What a row's choice means. -/
def RowOk (tol : Int) (tl : List (Int × Int)) (ds : List Int) (p : List (List Int)) (b : Int × Int) : Prop :=
  b = (-1, -1) ∨ ∃ (j : Nat) (q : List Int) (f : Int) (c : Int × Int), p[j]? = some q ∧ fit tol q ds = some f ∧ tl[q.length]? = some c ∧ 0 ≤ c.1 ∧ 0 ≤ f ∧ b = (f + c.1, (j : Int))
theorem better_row {tol : Int} {tl : List (Int × Int)} {ds q : List Int} {p : List (List Int)} {j : Nat} {b : Int × Int} (hp : ∀ q ∈ p, q.length ≤ 5 ∧ ∀ x ∈ q, InR x) (hd : ∀ x ∈ ds, InR x) (hj : p[j]? = some q) (hb : RowOk tol tl ds p b) : RowOk tol tl ds p (better tol tl ds q j b) := by
  unfold better
  split
  · rename_i f c hf hc
    split
    · exact hb
    · split
      · have := fit_bound (hp q (List.mem_of_getElem? hj)).2 hd hf
        exact .inr ⟨j, q, f, c, hj, hf, hc, by omega, this.1, rfl⟩
      · exact hb
  · exact hb
theorem rowF_row {tol : Int} {tl : List (Int × Int)} {ds : List Int} {p : List (List Int)} (hp : ∀ q ∈ p, q.length ≤ 5 ∧ ∀ x ∈ q, InR x) (hd : ∀ x ∈ ds, InR x) : ∀ (k j : Nat) (b : Int × Int), j + k = p.length → RowOk tol tl ds p b → RowOk tol tl ds p (rowF tol tl ds (p.drop j) j b)
  | 0, j, b, hj, hb => by rw [List.drop_eq_nil_of_le (by omega)]; exact hb
  | k + 1, j, b, hj, hb => by
    have hl : j < p.length := by omega
    rw [wdrop_at (wat_lt hl)]
    exact rowF_row hp hd k (j + 1) _ (by omega) (better_row hp hd (wat_lt hl) hb)
theorem RowOk.sign {tol : Int} {tl : List (Int × Int)} {ds : List Int} {p : List (List Int)} {b : Int × Int} (h : RowOk tol tl ds p b) : (b.2 < 0 ↔ b.1 < 0) ∧ -1 ≤ b.2 := by
  rcases h with rfl | ⟨j, q, f, c, _, _, _, h1, h2, rfl⟩
  · simp
  · simp only []; omega
/-- The data is as 'check' wants it. -/
structure Fine (d : List Int) (p : List (List Int)) : Prop where
  dl : d.length ≤ 768
  pl : p.length ≤ 16
  d : ∀ x ∈ d, InR x
  p : ∀ q ∈ p, q.length ≤ 5 ∧ ∀ x ∈ q, InR x
section
variable {d : List Int} {p : List (List Int)} {tol : Int}
theorem tab_row (F : Fine d p) (k : Nat) (hk : k ≤ d.length) : RowOk tol (tabN tol p d k) (d.drop (d.length - k)) p (rowF tol (tabN tol p d k) (d.drop (d.length - k)) p 0 (-1, -1)) := by
  have := rowF_row (tol := tol) (tl := tabN tol p d k) (ds := d.drop (d.length - k)) F.p (fun x hx => F.d x (List.mem_of_mem_drop hx)) p.length 0 (-1, -1) (by omega) (.inl rfl)
  simpa using this
theorem tab_bound (F : Fine d p) (k : Nat) (hk : k ≤ d.length + 1) : ∀ c ∈ tabN tol p d k, -1 ≤ c.1 ∧ c.1 ≤ 100000000 := by
  intro c hc
  have := F.dl
  rcases tabN_rb F.d F.p k c hc with rfl | h | h
  · simp
  · rw [h]; simp
  · omega
/-- The columns of the table, ahead of them what is not yet filled. -/
def colA (n : Nat) (t : List (Int × Int)) : List Int := List.replicate n 0 ++ t.map Prod.fst
def colB (n : Nat) (t : List (Int × Int)) : List Int := List.replicate n 0 ++ t.map Prod.snd
def colC (n : Nat) (t : List (Int × Int)) : List Int := List.replicate n 0 ++ t.map fun c => max c.2 0
theorem rep_arr (n : Nat) (T : List Int) (c : Int) : List.replicate (n + 1) 0 ++ T = arr n 0 T := by
  unfold arr
  rw [List.replicate_succ', List.append_assoc]
  rfl
theorem outer_loop (M : Nat) (F : Fine d p) : ∀ (r n k : Nat), r < n → k + r = d.length + 1 →
    wheel_Recognize_0 (M + 60) d p tol n (colA (d.length + 1 - k) (tabN tol p d k)) (colB (d.length + 1 - k) (tabN tol p d k)) ((d.length : Int) - k) = some ((tabN tol p d (d.length + 1)).map Prod.fst, (tabN tol p d (d.length + 1)).map Prod.snd)
  | r, 0, k, hr, _ => by omega
  | 0, n + 1, k, hr, hk => by
    have : k = d.length + 1 := by omega
    subst this
    rw [wheel_Recognize_0, if_neg (by simp; omega)]
    simp [colA, colB]
  | r + 1, n + 1, k, hr, hk => by
    have hkl : k ≤ d.length := by omega
    have hi : d.length + 1 - k = (d.length - k) + 1 := by omega
    have hic : (d.length : Int) - k = ((d.length - k : Nat) : Int) := by omega
    have hl := tabN_len (tol := tol) (p := p) (d := d) k
    have hdl := F.dl
    have hpl := F.pl
    have hpat := patterns_loop M (tol := tol) (i := d.length - k) (tl := tabN tol p d k) F.d F.p (by omega) F.dl F.pl (by rw [hl]; omega) (tab_bound F k (by omega)) p.length (M + 60) 0 (-1, -1) (by omega) (by omega)
    rw [wheel_Recognize_0, if_pos (by simp; omega), hic]
    simp only [colA, colB, hi]
    rw [rep_arr _ _ 0, rep_arr _ _ 0, arr_at, bind_some', bind_some', lt_def, arr_at, bind_some', bind_some', lt_def, arr_set, arr_set]
    simp only [List.drop_zero, Int.natCast_zero] at hpat
    rw [hpat, bind_some', lt_def]
    have ih := outer_loop M F r n (k + 1) (by omega) (by omega)
    have e : IntKind.wrap .i64 (((d.length - k : Nat) : Int) - 1) = (d.length : Int) - ((k + 1 : Nat) : Int) := by rw [w64 (by omega) (by omega)]; omega
    rw [e]
    rw [← ih]
    simp only [colA, colB, tabN, List.map_cons, show d.length + 1 - (k + 1) = d.length - k by omega]
    rfl
/-! ### The reference -/
end
end Go.W
end
section
set_option linter.unusedVariables false
set_option linter.unusedSimpArgs false
namespace Go.W
open Go.AM
section
variable {d : List Int} {p : List (List Int)} {tol : Int}
/-- The choices along the cheapest division, from 'k' rows before the end on. -/
def picks (tol : Int) (p : List (List Int)) (d : List Int) : Nat → Nat → List Int
  | 0, _ => []
  | _ + 1, 0 => []
  | n + 1, k + 1 => match (tabN tol p d (k + 1)).head? with
    | some c => c.2 :: picks tol p d n (k - ((p[c.2.toNat]?).map List.length).getD 0)
    | none => []
theorem tab_drop : ∀ (k i : Nat), i ≤ k → (tabN tol p d k).drop i = tabN tol p d (k - i)
  | k, 0, _ => by simp
  | 0, i + 1, h => by omega
  | k + 1, i + 1, h => by
    rw [show k + 1 - (i + 1) = k - i by omega, ← tab_drop k i (by omega)]
    rfl
theorem tab_get (n i : Nat) (h : i ≤ n) : (tabN tol p d n)[i]? = (tabN tol p d (n - i)).head? := by
  rw [← tab_drop n i h, List.head?_drop]
theorem head_some (k : Nat) : ∃ c, (tabN tol p d k).head? = some c := by
  have := tabN_len (tol := tol) (p := p) (d := d) k
  cases h : tabN tol p d k with
  | nil => simp [h] at this
  | cons c l => exact ⟨c, rfl⟩
/-- A row that has a division: its choice, and where it leads. -/
theorem row_ok (F : Fine d p) {k : Nat} (hk : k ≤ d.length) {c : Int × Int} (hc : (tabN tol p d (k + 1)).head? = some c) (h0 : 0 ≤ c.1) :
    ∃ (j : Nat) (q : List Int) (f : Int) (c' : Int × Int), p[j]? = some q ∧ c.2 = j ∧ fit tol q (d.drop (d.length - k)) = some f ∧ 0 ≤ f ∧ q.length ≤ k ∧ (tabN tol p d (k - q.length)).head? = some c' ∧ 0 ≤ c'.1 ∧ c.1 = f + c'.1 := by
  have hr := tab_row (tol := tol) F k hk
  simp only [tabN, List.head?_cons, Option.some.injEq] at hc
  rw [hc] at hr
  rcases hr with rfl | ⟨j, q, f, c', h1, h2, h3, h4, h5, rfl⟩
  · simp at h0
  · have hl := fit_len h2
    rw [List.length_drop] at hl
    have hl' : q.length ≤ k := by omega
    rw [tab_get k q.length hl'] at h3
    exact ⟨j, q, f, c', h1, rfl, h2, h5, hl', h3, h4, rfl⟩
theorem path_loop (M : Nat) (F : Fine d p) : ∀ (n k fuel : Nat) (out : List Int) (c : Int × Int), k ≤ n → n < fuel → k ≤ d.length + 1 → out.length + k ≤ d.length + 1 → (tabN tol p d k).head? = some c → 0 ≤ c.1 →
    wheel_Recognize_5 M p ((d.length : Int) + 1) ((tabN tol p d (d.length + 1)).map Prod.snd) fuel out ((d.length : Int) + 1 - k) = some (out ++ picks tol p d n k)
  | n, k, 0, out, c, hkn, hf, _, _, _, _ => by omega
  | n, 0, fuel + 1, out, c, hkn, hf, _, _, _, _ => by
    rw [wheel_Recognize_5, if_neg (by simp)]
    cases n <;> simp [picks]
  | 0, k + 1, fuel + 1, out, c, hkn, hf, _, _, _, _ => by omega
  | n + 1, k + 1, fuel + 1, out, c, hkn, hf, hk, ho, hc, h0 => by
    have hdl := F.dl
    obtain ⟨j, q, f, c', h1, h2, h3, h4, h5, h6, h7, h8⟩ := row_ok F (by omega) hc h0
    have hq := (F.p q (List.mem_of_getElem? h1)).1
    have hat : (d.length : Int) + 1 - ((k + 1 : Nat) : Int) = ((d.length - k : Nat) : Int) := by omega
    have hrow : (tabN tol p d (d.length + 1))[d.length - k]? = some c := by
      rw [tab_get _ _ (by omega), show d.length + 1 - (d.length - k) = k + 1 by omega]; exact hc
    have g1 : getI ((tabN tol p d (d.length + 1)).map Prod.snd) ((d.length - k : Nat) : Int) = some (j : Int) := wgetI_nat (by simp [hrow, h2])
    have g3 : appI out [(j : Int)] = some (out ++ [(j : Int)]) := by simp [appI, LIM]; omega
    have g4 : getI p (j : Int) = some q := wgetI_nat h1
    have e : IntKind.wrap .i64 (((d.length - k : Nat) : Int) + IntKind.wrap .i64 ((q.length : Int) + 1)) = (d.length : Int) + 1 - ((k - q.length : Nat) : Int) := by
      rw [w64 (n := (q.length : Int) + 1) (by omega) (by omega), w64 (by omega) (by omega)]; omega
    have i1 := path_loop M F n (k - q.length) fuel (out ++ [(j : Int)]) c' (by omega) (by omega) (by omega) (by simp; omega) h6 h7
    have hp : picks tol p d (n + 1) (k + 1) = (j : Int) :: picks tol p d n (k - q.length) := by
      simp only [picks, hc, h2, Int.toNat_natCast, h1, Option.map_some, Option.getD_some]
    rw [hat, wheel_Recognize_5, if_pos (by simp; omega), g1]
    simp only [bind_some', g3, g1, g4, lt_def, e, hp]
    rw [i1]
    simp
/-- What Recognize answers. -/
def recog (d : List Int) (p : List (List Int)) (tol : Int) : List Int × Int × Int :=
  if chk d p tol = 0 then
    match (tabN tol p d (d.length + 1)).head? with
    | some c => if c.1 < 0 then ([], 0, 15) else (picks tol p d (d.length + 1) (d.length + 1), c.1, 0)
    | none => ([], 0, 15)
  else ([], 0, chk d p tol)
theorem fine_of (h : chk d p tol = 0) : Fine d p ∧ 0 ≤ tol ∧ tol ≤ 10000 := by
  unfold chk at h
  split at h
  · cases h
  · rename_i h1
    split at h
    · cases h
    · rename_i h2
      split at h
      · rename_i h3
        simp only [Bool.and_eq_true, decide_eq_true_eq, List.all_eq_true] at h3
        obtain ⟨⟨h3, h4⟩, h5⟩ := h3
        exact ⟨⟨by omega, by omega, fun x hx => inR_iff.1 (h4 x hx), fun q hq => ⟨any_false h2 q hq, fun x hx => inR_iff.1 (h5 q hq x hx)⟩⟩, h3.1, h3.2⟩
      · cases h
theorem chk_or : chk d p tol = 0 ∨ chk d p tol = 2 ∨ chk d p tol = 3 := by
  unfold chk
  split
  · simp
  · split
    · simp
    · split <;> simp
theorem head_zero (k : Nat) {c : Int × Int} (h : (tabN tol p d k).head? = some c) {f : Int × Int → Int} : ((tabN tol p d k).map f)[0]? = some (f c) := by
  rw [List.getElem?_map, ← List.head?_eq_getElem?, h]; rfl
theorem recognize_ok (N : Nat) (hN : 800 ≤ N) (d : List Int) (p : List (List Int)) (tol : Int) : wheel_Recognize N d p tol = some (recog d p tol) := by
  unfold wheel_Recognize recog
  rw [check_ok N hN, bind_some']
  by_cases h : chk d p tol = 0
  · obtain ⟨F, _, _⟩ := fine_of h
    have hdl := F.dl
    obtain ⟨M, rfl⟩ : ∃ M, N = M + 60 := ⟨N - 60, by omega⟩
    obtain ⟨c, hc⟩ := head_some (tol := tol) (p := p) (d := d) (d.length + 1)
    have e1 : IntKind.wrap .i64 ((d.length : Int) + 1) = (d.length : Int) + 1 := w64 (by omega) (by omega)
    have e2 : IntKind.wrap .i64 ((d.length : Int) + 1 + 1) = (d.length : Int) + 2 := by rw [w64 (by omega) (by omega)]; omega
    have e3 : IntKind.wrap .i64 ((d.length : Int) + 1 - 1) = (d.length : Int) := by rw [w64 (by omega) (by omega)]; omega
    have hm : mkI (0 : Int) ((d.length : Int) + 2) = some (List.replicate (d.length + 2) 0) := by
      unfold mkI
      rw [if_pos (by omega)]
      congr 2
    have ho := outer_loop M (tol := tol) F (d.length + 1) (M + 60) 0 (by omega) (by omega)
    have hcol : ∀ f : Int × Int → Int, f (0, 0) = 0 → List.replicate (d.length + 1 - 0) 0 ++ (tabN tol p d 0).map f = List.replicate (d.length + 2) (0 : Int) := by
      intro f hf
      simp only [tabN, List.map_cons, List.map_nil, hf, Nat.sub_zero]
      rw [show d.length + 2 = d.length + 1 + 1 from rfl, List.replicate_succ' (n := d.length + 1)]
    simp only [colA, colB] at ho
    rw [hcol _ rfl, hcol _ rfl] at ho
    simp only [Int.natCast_zero, Int.sub_zero] at ho
    rw [if_neg (by simp [h]), if_pos h, hc, lt_def, e1, e2, hm, bind_some', bind_some', lt_def, e3, ho, bind_some']
    simp only []
    have g := wgetI_nat (head_zero (d.length + 1) hc (f := Prod.fst))
    simp only [Int.natCast_zero] at g
    rw [g, bind_some', bind_some']
    by_cases hneg : c.1 < 0
    · rw [if_pos (by simpa using hneg), if_pos hneg]
    · rw [if_neg (by simpa using hneg), if_neg hneg]
      have hp := (path_loop (M + 60) F (d.length + 1) (d.length + 1) (M + 60) [] c (by omega) (by omega) (by omega) (by simp) hc (by omega))
      rw [show (d.length : Int) + 1 - ((d.length + 1 : Nat) : Int) = 0 by omega] at hp
      rw [hp, bind_some', bind_some']
      rfl
  · rw [if_pos (by simpa using h), if_neg h]
end
theorem ints_loop (N : Nat) {l : List Int} (hl : l.length ≤ 4294967296) : ∀ (k n i : Nat), k < n → i + k = l.length → gen_Ints_0 N l l n i = some (.inl ())
  | k, 0, i, hn, _ => by omega
  | 0, n + 1, i, hn, hi => by rw [gen_Ints_0, if_neg (by simp; omega)]
  | k + 1, n + 1, i, hn, hi => by
    have hlt : i < l.length := by omega
    rw [gen_Ints_0, if_pos (by simp; omega), wgetI_nat (wat_lt hlt), bind_some', bind_some', if_neg (by simp), lt_def, ww64s (by omega)]
    exact ints_loop N hl k n (i + 1) (by omega) (by omega)
theorem ints_ok (N : Nat) {l : List Int} (hN : l.length < N) (hl : l.length ≤ 4294967296) : gen_Ints N l l = some true := by
  unfold gen_Ints
  rw [if_neg (by simp)]
  have := ints_loop N hl l.length N 0 (by omega) (by omega)
  rw [show ((0 : Nat) : Int) = 0 from rfl] at this
  rw [this, bind_some']
theorem picks_len {d : List Int} {p : List (List Int)} {tol : Int} : ∀ (n k : Nat), (picks tol p d n k).length ≤ n
  | 0, k => by simp [picks]
  | n + 1, 0 => by simp [picks]
  | n + 1, k + 1 => by
    simp only [picks]
    split
    · rename_i c _
      have := picks_len (d := d) (p := p) (tol := tol) n (k - ((p[c.2.toNat]?).map List.length).getD 0)
      simp only [List.length_cons]; omega
    · simp
theorem recog_len {d : List Int} {p : List (List Int)} {tol : Int} : (recog d p tol).1.length ≤ 800 := by
  unfold recog
  split
  · rename_i h
    have hdl := (fine_of h).1.dl
    split
    · split
      · simp
      · have := picks_len (d := d) (p := p) (tol := tol) (d.length + 1) (d.length + 1)
        simp only []; omega
    · simp
  · simp
end Go.W
end
section
namespace Go.W
open Go.AM
set_option maxRecDepth 100000
theorem sane (M : Nat) : l07_sane (M + 60) = some true := by rfl
end Go.W
end
section
set_option linter.unusedVariables false
set_option linter.unusedSimpArgs false
set_option maxRecDepth 100000
namespace Go.W
open Go.AM
/-! ### A pattern without distances costs nothing -/
theorem better_nil {tol : Int} {k : Nat} {ds q : List Int} {j : Nat} (hq : ∀ x ∈ q, InR x) (hd : ∀ x ∈ ds, InR x) : better tol (List.replicate k (0, 0)) ds q j (0, 0) = (0, 0) := by
  unfold better
  split
  · rename_i f c hf hc
    have hc : c = (0, 0) := by
      rw [List.getElem?_replicate] at hc
      split at hc
      · cases hc; rfl
      · cases hc
    subst hc
    have := (fit_bound hq hd hf).1
    rw [if_neg (by simp), if_neg (by simp; omega)]
  · rfl
theorem row_nil {tol : Int} {k : Nat} {ds : List Int} (hd : ∀ x ∈ ds, InR x) : ∀ (ps : List (List Int)) (j : Nat), (∀ q ∈ ps, ∀ x ∈ q, InR x) → rowF tol (List.replicate k (0, 0)) ds ps j (0, 0) = (0, 0)
  | [], j, _ => rfl
  | q :: ps, j, h => by
    rw [rowF, better_nil (h q List.mem_cons_self) hd]
    exact row_nil hd ps (j + 1) fun q hq => h q (List.mem_cons_of_mem _ hq)
theorem tab_nil {tol : Int} {ps : List (List Int)} {d : List Int} (hd : ∀ x ∈ d, InR x) (hp : ∀ q ∈ ps, ∀ x ∈ q, InR x) : ∀ k, tabN tol ([] :: ps) d k = List.replicate (k + 1) (0, 0)
  | 0 => rfl
  | k + 1 => by
    rw [tabN, tab_nil hd hp k, rowF]
    have : better tol (List.replicate (k + 1) (0, 0)) (d.drop (d.length - k)) [] 0 (-1, -1) = (0, 0) := by
      simp [better, fit, List.replicate_succ]
    rw [this, row_nil (fun x hx => hd x (List.mem_of_mem_drop hx)) ps _ hp]
    rfl
theorem picks_nil {tol : Int} {ps : List (List Int)} {d : List Int} (hd : ∀ x ∈ d, InR x) (hp : ∀ q ∈ ps, ∀ x ∈ q, InR x) : ∀ n k, k ≤ n → (picks tol ([] :: ps) d n k).length = k
  | 0, k, h => by have : k = 0 := by omega
                  subst this; rfl
  | n + 1, 0, h => rfl
  | n + 1, k + 1, h => by
    rw [picks, tab_nil hd hp (k + 1)]
    have ih := picks_nil (tol := tol) hd hp n k (by omega)
    simp [List.replicate_succ, ih]
theorem recog_nil {tol : Int} {ps : List (List Int)} {d : List Int} (h : chk d ([] :: ps) tol = 0) : ∃ l, recog d ([] :: ps) tol = (l, 0, 0) ∧ l.length = d.length + 1 := by
  obtain ⟨F, _, _⟩ := fine_of h
  have hp : ∀ q ∈ ps, ∀ x ∈ q, InR x := fun q hq => (F.p q (List.mem_cons_of_mem _ hq)).2
  refine ⟨picks tol ([] :: ps) d (d.length + 1) (d.length + 1), ?_, picks_nil F.d hp _ _ (Nat.le_refl _)⟩
  unfold recog
  rw [if_pos h, tab_nil F.d hp]
  simp [List.replicate_succ]
/-! ### The law -/
theorem lim0 (N : Nat) : ∀ (k m i : Nat) (x5 : List Int), k < m → i + k = x5.length → x5.length ≤ 1000 → l07_WheelLimits_0 N (x5.length : Int) m x5 (i : Int) = some (x5.take i ++ List.replicate k 10000)
  | k, 0, i, x5, h, _, _ => by omega
  | 0, m + 1, i, x5, h, hi, _ => by
    rw [l07_WheelLimits_0, if_neg (by simp; omega), List.take_of_length_le (by omega)]; simp
  | k + 1, m + 1, i, x5, h, hi, hl => by
    have hlt : i < x5.length := by omega
    have ih := lim0 N k m (i + 1) (x5.set i 10000) (by omega) (by rw [List.length_set]; omega) (by rw [List.length_set]; omega)
    rw [List.length_set] at ih
    rw [l07_WheelLimits_0, if_pos (by simp; omega), wgetI_nat (wat_lt hlt), bind_some', bind_some', lt_def, ww64s (by omega), Int.toNat_natCast, ih, List.take_add_one, List.getElem?_set_self hlt]
    have : (x5.set i 10000).take i = x5.take i := by
      rw [List.take_set]
      exact List.set_eq_of_length_le (by rw [List.length_take]; omega)
    rw [this, List.append_assoc]
    rfl
def pLim : List (List Int) := (List.replicate 16 ([] : List Int)).set 15 [10000, 10000, 10000, 10000, 10000]
theorem rep_mem {n : Nat} : ∀ x ∈ List.replicate n (10000 : Int), inR x = true := fun x hx => by rw [List.eq_of_mem_replicate hx]; rfl
theorem chk0 (n : Nat) (h : n ≤ 768) : chk (List.replicate n 10000) pLim 5 = 0 := by
  unfold chk
  rw [List.length_replicate, if_neg (by
    have : pLim.length = 16 := rfl
    omega), if_neg (by decide), if_pos]
  have : (List.replicate n (10000 : Int)).all inR = true := List.all_eq_true.2 rep_mem
  rw [this]
  decide
theorem kd0 (n : Nat) (hn : n ≤ 2) : Option.bind (wheel_Recognize 860 (List.replicate (767 + n) 10000) (List.map (fun (z : List Int) => z) pLim) 5) (fun y42 => Option.bind (l07_WheelLimits_4 860 (List.replicate (767 + n) 10000) (if 1 < n then 3 else 0) y42.1 y42.2.1 y42.2.2) fun y45 => some y45) = some true := by
  rw [List.map_id', recognize_ok 860 (by omega), bind_some']
  by_cases h : 1 < n
  · have hc : chk (List.replicate (767 + n) 10000) pLim 5 = 3 := by
      unfold chk
      rw [List.length_replicate, if_pos (by omega)]
    have hr : recog (List.replicate (767 + n) 10000) pLim 5 = ([], 0, 3) := by
      unfold recog
      rw [hc, if_neg (by omega)]
    rw [hr, if_pos h]
    unfold l07_WheelLimits_4
    simp only
    rw [if_pos (by simp), if_pos (by simp), sane 800]; rfl
  · obtain ⟨l, hr, hl⟩ := recog_nil (d := List.replicate (767 + n) 10000) (ps := pLim.tail) (tol := 5) (chk0 (767 + n) (by omega))
    have hr : recog (List.replicate (767 + n) 10000) pLim 5 = (l, 0, 0) := hr
    rw [hr, if_neg h]
    unfold l07_WheelLimits_4
    rw [List.length_replicate] at hl
    simp only
    rw [if_pos (by simp), if_neg (by simp), List.length_replicate, hl, if_pos (by rw [w64 (by omega) (by omega)]; simp), if_pos (by simp), sane 800]; rfl
theorem tmod3 (x : Int) : Int.tmod (IntKind.wrap .i64 (Int.tmod x 3 + 3)) 3 = 0 ∨ Int.tmod (IntKind.wrap .i64 (Int.tmod x 3 + 3)) 3 = 1 ∨ Int.tmod (IntKind.wrap .i64 (Int.tmod x 3 + 3)) 3 = 2 := by
  have h1 := Int.tmod_lt_of_pos x (show (0 : Int) < 3 by omega)
  have h2 : -3 < Int.tmod x 3 := by
    have := Int.lt_tmod_of_pos x (show (0 : Int) < 3 by omega)
    omega
  rw [w64 (by omega) (by omega)]
  have h3 := Int.tmod_lt_of_pos (Int.tmod x 3 + 3) (show (0 : Int) < 3 by omega)
  have h4 := Int.tmod_nonneg (3 : Int) (show 0 ≤ Int.tmod x 3 + 3 by omega)
  omega
theorem tmod5 (x : Int) : Int.tmod (IntKind.wrap .i64 (Int.tmod x 5 + 5)) 5 = 0 ∨ Int.tmod (IntKind.wrap .i64 (Int.tmod x 5 + 5)) 5 = 1 ∨ Int.tmod (IntKind.wrap .i64 (Int.tmod x 5 + 5)) 5 = 2 ∨ Int.tmod (IntKind.wrap .i64 (Int.tmod x 5 + 5)) 5 = 3 ∨ Int.tmod (IntKind.wrap .i64 (Int.tmod x 5 + 5)) 5 = 4 := by
  have h1 := Int.tmod_lt_of_pos x (show (0 : Int) < 5 by omega)
  have h2 : -5 < Int.tmod x 5 := by
    have := Int.lt_tmod_of_pos x (show (0 : Int) < 5 by omega)
    omega
  rw [w64 (by omega) (by omega)]
  have h3 := Int.tmod_lt_of_pos (Int.tmod x 5 + 5) (show (0 : Int) < 5 by omega)
  have h4 := Int.tmod_nonneg (5 : Int) (show 0 ≤ Int.tmod x 5 + 5 by omega)
  omega
/-- What is behind the first lines. -/
def limF (n kind : Int) (d : List Int) : Option Bool :=
  Option.bind (l07_WheelLimits_1 860 n d pLim 0 kind) fun y40 =>
  match y40 with
  | Sum.inl y41 =>
    Option.bind (wheel_Recognize 860 y41.1 (List.map (fun (z : List Int) => z) y41.2.1) 5) fun y42 =>
    Option.bind (l07_WheelLimits_4 860 y41.1 y41.2.2 y42.1 y42.2.1 y42.2.2) fun y45 =>
    some y45
  | Sum.inr y46 =>
    some y46
theorem limitsT : ∀ (n kind : Int), ∃ N, l07_WheelLimits N n kind = some true := by
  intro x0 x1
  refine ⟨860, ?_⟩
  unfold l07_WheelLimits
  rw [lt_def]
  have h3 := tmod3 x0
  have h5 := tmod5 x1
  generalize Int.tmod (IntKind.wrap .i64 (Int.tmod x0 3 + 3)) 3 = y at h3
  generalize Int.tmod (IntKind.wrap .i64 (Int.tmod x1 5 + 5)) 5 = kd at h5
  have hmk : mkI (0 : Int) (IntKind.wrap .i64 (767 + y)) = some (List.replicate (767 + y).toNat 0) := by
    rw [w64 (by omega) (by omega)]
    unfold mkI
    rw [if_pos (by omega)]
  have e0 := lim0 860 (767 + y).toNat 860 0 (List.replicate (767 + y).toNat 0) (by omega) (by simp) (by simp; omega)
  rw [List.take_zero, List.nil_append] at e0
  have e0 : l07_WheelLimits_0 860 ((List.replicate (767 + y).toNat (0 : Int)).length : Int) 860 (List.replicate (767 + y).toNat 0) 0 = _ := e0
  rw [hmk, bind_some', e0, bind_some']
  have e1 : mkI ([] : List Int) 16 = some (List.replicate 16 []) := rfl
  have e2 : getI (List.replicate 16 ([] : List Int)) 15 = some [] := rfl
  rw [e1, bind_some', e2, bind_some', bind_some']
  show limF y kd (List.replicate (767 + y).toNat 10000) = some true
  rcases h5 with rfl | rfl | rfl | rfl | rfl
  · -- as many distances as are permitted
    obtain ⟨n, rfl⟩ := Int.eq_ofNat_of_zero_le (show 0 ≤ y by omega)
    have hn : n ≤ 2 := by omega
    have e : (767 + (n : Int)).toNat = 767 + n := by omega
    have h := kd0 n hn
    unfold limF l07_WheelLimits_1
    rw [e, lt_def, if_pos (by simp)]
    by_cases h1 : 1 < n
    · rw [if_pos h1] at h
      rw [if_pos (by simp; omega), bind_some']
      exact h
    · rw [if_neg h1] at h
      rw [if_neg (by simp; omega), bind_some']
      exact h
  all_goals
    rcases h3 with rfl | rfl | rfl
    all_goals kernel_rfl
end Go.W
end
