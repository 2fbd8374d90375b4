/- W2 WLib WNum WNum2 WWag LNum LWag LMade LVal LGen LTot LReq LTotF LReqG LLoop LRul LRul2 LRul3 LRulG LTbA LTbB LTbC LTbD LTbS -/
import Derived.Test.YtbnnlbjljgampaaProg
import Derived.IntWalk
import Derived.Test.YtbnnlbjljgampaaMe
section
set_option linter.unusedVariables false
set_option linter.unusedSimpArgs false
set_option maxRecDepth 100000
set_option maxHeartbeats 1000000
namespace Go.W
open Go.AM Go.Proofs
/-! ### humpyard/humpyardref35.Total -/
noncomputable def u0_r35_Total (N : Nat) : List (Pc D) := []
theorem oku0_r35_Total (N : Nat) : ∀ u ∈ u0_r35_Total N, PcOk (X88 N) (bodyOf Try.f28) u := pc_nil
noncomputable def Pr35_Total_1 : PD D := { path := [1, 1, 1, 0, 1, 0, 0, 1, 0, 0, 0], ins := [.v 0 (.sl 53), .v 1 (.sl 3), .o 4 (.box 37), .v 10 (.int .i64)], fx := [(4, .box 0 0)], ks := [1], exs := [⟨.normal, [.v 44 .bool], []⟩], keep := [0, 1, 4, 6, 7, 8, 10] }
noncomputable def Fr35_Total_1 (N : Nat) : Pr35_Total_1.F := fun x => r35_Total_1 N x.1 x.2.1 x.2.2.2.1
theorem cr35_Total_1 (N : Nat) : CC (X88 N) (bodyOf Try.f28) Pr35_Total_1 (Fr35_Total_1 N) := CC.of (cok88 N) (us := u0_r35_Total N) (fun u h _ => oku0_r35_Total N u h) (fun x => by kernel_rfl)
noncomputable def ur35_Total_1 (N : Nat) : List (Pc D) := Pr35_Total_1.pc (X88 N) (Fr35_Total_1 N) :: u0_r35_Total N
theorem okur35_Total_1 (N : Nat) : ∀ u ∈ ur35_Total_1 N, PcOk (X88 N) (bodyOf Try.f28) u := pc_cons ((cr35_Total_1 N).pc (by kernel_rfl)) (oku0_r35_Total N)
noncomputable def Pr35_Total_0 : PD D := { path := [1, 1, 1, 0, 1, 0], ins := [.v 0 (.sl 53), .v 1 (.sl 3), .o 4 (.box 37), .v 10 (.int .i64)], fx := [(4, .box 0 0)], ks := [2], exs := [⟨.exit 0, [.u 0 (.box 37)], []⟩, ⟨.ret, [.u 0 (.box 37), .v 5 (.int .i64)], []⟩], keep := [0, 1, 4, 6, 7, 8] }
noncomputable def Fr35_Total_0 (N n : Nat) : Pr35_Total_0.F := fun x => r35_Total_0 N x.1 x.2.1 n x.2.2.1 x.2.2.2.1
theorem cr35_Total_0 (N n : Nat) : CC (X88 N) (bodyOf Try.f28) Pr35_Total_0 (Fr35_Total_0 N n) := CC.loop (cok88 N) (us := ur35_Total_1 N) (c := sub (bodyOf Try.f28) [1, 1, 1, 0, 1, 0, 0]) (by kernel_rfl) (by kernel_rfl) (fun u h _ => okur35_Total_1 N u h) (fun x => rfl) (fun n x => by kernel_rfl) n
noncomputable def ur35_Total_0 (N : Nat) : List (Pc D) := Pr35_Total_0.pc (X88 N) (Fr35_Total_0 N N) :: ur35_Total_1 N
theorem okur35_Total_0 (N : Nat) : ∀ u ∈ ur35_Total_0 N, PcOk (X88 N) (bodyOf Try.f28) u := pc_cons ((cr35_Total_0 N N).pc (by kernel_rfl)) (okur35_Total_1 N)
noncomputable def Pr35_Total_2 : PD D := { path := [1, 1, 1, 1, 0, 1, 0], ins := [.v 1 (.sl 3), .o 4 (.box 37), .v 11 (.int .i64)], fx := [(4, .box 0 0)], ks := [2], exs := [⟨.exit 2, [.u 0 (.box 37)], []⟩, ⟨.ret, [.u 0 (.box 37), .v 5 (.int .i64)], []⟩], keep := [0, 1, 4, 6, 7, 8] }
noncomputable def Fr35_Total_2 (N n : Nat) : Pr35_Total_2.F := fun x => r35_Total_2 N x.1 n x.2.1 x.2.2.1
theorem cr35_Total_2 (N n : Nat) : CC (X88 N) (bodyOf Try.f28) Pr35_Total_2 (Fr35_Total_2 N n) := CC.loop (cok88 N) (us := ur35_Total_0 N) (c := sub (bodyOf Try.f28) [1, 1, 1, 1, 0, 1, 0, 0]) (by kernel_rfl) (by kernel_rfl) (fun u h _ => okur35_Total_0 N u h) (fun x => rfl) (fun n x => by kernel_rfl) n
noncomputable def ur35_Total_2 (N : Nat) : List (Pc D) := Pr35_Total_2.pc (X88 N) (Fr35_Total_2 N N) :: ur35_Total_0 N
theorem okur35_Total_2 (N : Nat) : ∀ u ∈ ur35_Total_2 N, PcOk (X88 N) (bodyOf Try.f28) u := pc_cons ((cr35_Total_2 N N).pc (by kernel_rfl)) (okur35_Total_0 N)
noncomputable def Pr35_Total_4 : PD D := { path := [1, 1, 1, 1, 1, 1, 0, 1, 0, 0, 1, 0], ins := [.v 0 (.sl 53), .v 1 (.sl 3), .o 4 (.box 37), .o 12 (.box 37), .v 13 (.int .i64)], fx := [(4, .box 0 0), (12, .box 1 0)], ks := [1, 2], exs := [⟨.normal, [.u 1 (.box 37)], []⟩], keep := [0, 1, 4, 6, 7, 12, 13] }
noncomputable def Fr35_Total_4 (N : Nat) : Pr35_Total_4.F := fun x => r35_Total_4 N x.1 x.2.1 x.2.2.2.1 x.2.2.2.2.1
theorem cr35_Total_4 (N : Nat) : CC (X88 N) (bodyOf Try.f28) Pr35_Total_4 (Fr35_Total_4 N) := CC.of (cok88 N) (us := ur35_Total_2 N) (fun u h _ => okur35_Total_2 N u h) (fun x => by kernel_rfl)
noncomputable def ur35_Total_4 (N : Nat) : List (Pc D) := Pr35_Total_4.pc (X88 N) (Fr35_Total_4 N) :: ur35_Total_2 N
theorem okur35_Total_4 (N : Nat) : ∀ u ∈ ur35_Total_4 N, PcOk (X88 N) (bodyOf Try.f28) u := pc_cons ((cr35_Total_4 N).pc (by kernel_rfl)) (okur35_Total_2 N)
noncomputable def Pr35_Total_3 : PD D := { path := [1, 1, 1, 1, 1, 1, 0, 1, 0], ins := [.v 0 (.sl 53), .v 1 (.sl 3), .o 4 (.box 37), .o 12 (.box 37), .v 13 (.int .i64)], fx := [(4, .box 0 0), (12, .box 1 0)], ks := [1, 2], exs := [⟨.exit 4, [.u 1 (.box 37)], []⟩], keep := [4, 6, 7, 12] }
noncomputable def Fr35_Total_3 (N n : Nat) : Pr35_Total_3.F := fun x => r35_Total_3 N x.1 x.2.1 n x.2.2.2.1 x.2.2.2.2.1
theorem cr35_Total_3 (N n : Nat) : CC (X88 N) (bodyOf Try.f28) Pr35_Total_3 (Fr35_Total_3 N n) := CC.loop (cok88 N) (us := ur35_Total_4 N) (c := sub (bodyOf Try.f28) [1, 1, 1, 1, 1, 1, 0, 1, 0, 0]) (by kernel_rfl) (by kernel_rfl) (fun u h _ => okur35_Total_4 N u h) (fun x => rfl) (fun n x => by kernel_rfl) n
noncomputable def ur35_Total_3 (N : Nat) : List (Pc D) := Pr35_Total_3.pc (X88 N) (Fr35_Total_3 N N) :: ur35_Total_4 N
theorem okur35_Total_3 (N : Nat) : ∀ u ∈ ur35_Total_3 N, PcOk (X88 N) (bodyOf Try.f28) u := pc_cons ((cr35_Total_3 N N).pc (by kernel_rfl)) (okur35_Total_4 N)
noncomputable def Pr35_Total_5 : PD D := { path := [1, 1, 1, 1, 1, 1, 1, 1, 0, 1], ins := [.o 4 (.box 37), .v 7 (.int .i64), .o 12 (.box 37), .v 92 .bool], fx := [(4, .box 0 0), (12, .box 1 0)], ks := [1, 2], exs := [⟨.normal, [.u 1 (.box 37)], []⟩], keep := [4, 12] }
noncomputable def Fr35_Total_5 (N : Nat) : Pr35_Total_5.F := fun x => r35_Total_5 N x.2.1 x.2.2.1 x.2.2.2.1
theorem cr35_Total_5 (N : Nat) : CC (X88 N) (bodyOf Try.f28) Pr35_Total_5 (Fr35_Total_5 N) := CC.of (cok88 N) (us := ur35_Total_3 N) (fun u h _ => okur35_Total_3 N u h) (fun x => by kernel_rfl)
noncomputable def ur35_Total_5 (N : Nat) : List (Pc D) := Pr35_Total_5.pc (X88 N) (Fr35_Total_5 N) :: ur35_Total_3 N
theorem okur35_Total_5 (N : Nat) : ∀ u ∈ ur35_Total_5 N, PcOk (X88 N) (bodyOf Try.f28) u := pc_cons ((cr35_Total_5 N).pc (by kernel_rfl)) (okur35_Total_3 N)
noncomputable def dr35_Total : FD D := { f := 28, np := 2, ins := [.v 0 (.sl 53), .v 1 (.sl 3)], fx := [], rcv := none, rk := 0, outs := [.v 1000000 (.agg 37), .v 5 (.int .i64)], ofx := [], rvs := [.cell 4 37, .tmp 5], flat := true }
noncomputable def Fr35_Total (N : Nat) : dr35_Total.F := fun r x => r35_Total N x.1 x.2.1
theorem or35_Total (N : Nat) : FOk Try.prog (X88 N) dr35_Total (Fr35_Total N) := ⟨⟨Try.f28, _, Try.func28, rfl, by kernel_rfl, by kernel_rfl, rfl, FC.of (cok88 N) (us := ur35_Total_5 N) (fun u h _ => okur35_Total_5 N u h) (fun r x => by kernel_rfl)⟩, by kernel_rfl, by kernel_rfl, by kernel_rfl, by kernel_rfl⟩
noncomputable def fs89 (N : Nat) : List (FE D) := ⟨dr35_Total, Fr35_Total N⟩ :: fs88 N
theorem all89 (N : Nat) : ∀ y ∈ fs89 N, CallOk X0 y.d y.F := all_cons (x := ⟨dr35_Total, Fr35_Total N⟩) (or35_Total N) (all88 N)
noncomputable def X89 (N : Nat) : Ev Try.prog D := X0.with (fs89 N)
theorem cok89 (N : Nat) : COk (X89 N) := COk.of (all89 N)
/-! ### humpyard/humpyardref36.size -/
noncomputable def u0_r36_size (N : Nat) : List (Pc D) := []
theorem oku0_r36_size (N : Nat) : ∀ u ∈ u0_r36_size N, PcOk (X89 N) (bodyOf Try.f81) u := pc_nil
noncomputable def dr36_size : FD D := { f := 81, np := 2, ins := [.v 0 (.int .i64), .v 1 (.agg 53)], fx := [], rcv := none, rk := 0, outs := [.v 4 (.int .i64)], ofx := [], rvs := [.tmp 4], flat := true }
noncomputable def Fr36_size (N : Nat) : dr36_size.F := fun r x => r36_size N x.1 x.2.1
theorem or36_size (N : Nat) : FOk Try.prog (X89 N) dr36_size (Fr36_size N) := ⟨⟨Try.f81, _, Try.func81, rfl, by kernel_rfl, by kernel_rfl, rfl, FC.of (cok89 N) (us := u0_r36_size N) (fun u h _ => oku0_r36_size N u h) (fun r x => by kernel_rfl)⟩, by kernel_rfl, by kernel_rfl, by kernel_rfl, by kernel_rfl⟩
noncomputable def fs90 (N : Nat) : List (FE D) := ⟨dr36_size, Fr36_size N⟩ :: fs89 N
theorem all90 (N : Nat) : ∀ y ∈ fs90 N, CallOk X0 y.d y.F := all_cons (x := ⟨dr36_size, Fr36_size N⟩) (or36_size N) (all89 N)
noncomputable def X90 (N : Nat) : Ev Try.prog D := X0.with (fs90 N)
theorem cok90 (N : Nat) : COk (X90 N) := COk.of (all90 N)
/-! ### humpyard/humpyardref36.classes -/
noncomputable def u0_r36_classes (N : Nat) : List (Pc D) := []
theorem oku0_r36_classes (N : Nat) : ∀ u ∈ u0_r36_classes N, PcOk (X90 N) (bodyOf Try.f82) u := pc_nil
noncomputable def Pr36_classes_0 : PD D := { path := [1, 0], ins := [.v 2 (.int .i64), .v 3 (.int .i64), .o 4 (.box 53), .o 5 (.box 53)], fx := [(4, .box 0 0), (5, .box 1 0)], ks := [1, 1], exs := [⟨.normal, [.v 8 .bool], []⟩], keep := [] }
noncomputable def Fr36_classes_0 (N : Nat) : Pr36_classes_0.F := fun x => r36_classes_0 N x.1 x.2.1 x.2.2.1 x.2.2.2.1
theorem cr36_classes_0 (N : Nat) : CC (X90 N) (bodyOf Try.f82) Pr36_classes_0 (Fr36_classes_0 N) := CC.of (cok90 N) (us := u0_r36_classes N) (fun u h _ => oku0_r36_classes N u h) (fun x => by kernel_rfl)
noncomputable def ur36_classes_0 (N : Nat) : List (Pc D) := Pr36_classes_0.pc (X90 N) (Fr36_classes_0 N) :: u0_r36_classes N
theorem okur36_classes_0 (N : Nat) : ∀ u ∈ ur36_classes_0 N, PcOk (X90 N) (bodyOf Try.f82) u := pc_cons ((cr36_classes_0 N).pc (by kernel_rfl)) (oku0_r36_classes N)
noncomputable def dr36_classes : FD D := { f := 82, np := 4, ins := [.v 0 (.agg 53), .v 1 (.agg 53), .v 2 (.int .i64), .v 3 (.int .i64)], fx := [], rcv := none, rk := 0, outs := [.v 8 .bool], ofx := [], rvs := [.tmp 8], flat := true }
noncomputable def Fr36_classes (N : Nat) : dr36_classes.F := fun r x => r36_classes N x.1 x.2.1 x.2.2.1 x.2.2.2.1
theorem or36_classes (N : Nat) : FOk Try.prog (X90 N) dr36_classes (Fr36_classes N) := ⟨⟨Try.f82, _, Try.func82, rfl, by kernel_rfl, by kernel_rfl, rfl, FC.of (cok90 N) (us := ur36_classes_0 N) (fun u h _ => okur36_classes_0 N u h) (fun r x => by kernel_rfl)⟩, by kernel_rfl, by kernel_rfl, by kernel_rfl, by kernel_rfl⟩
noncomputable def fs91 (N : Nat) : List (FE D) := ⟨dr36_classes, Fr36_classes N⟩ :: fs90 N
theorem all91 (N : Nat) : ∀ y ∈ fs91 N, CallOk X0 y.d y.F := all_cons (x := ⟨dr36_classes, Fr36_classes N⟩) (or36_classes N) (all90 N)
noncomputable def X91 (N : Nat) : Ev Try.prog D := X0.with (fs91 N)
theorem cok91 (N : Nat) : COk (X91 N) := COk.of (all91 N)
/-! ### humpyard/humpyardref36.breaks -/
noncomputable def u0_r36_breaks (N : Nat) : List (Pc D) := []
theorem oku0_r36_breaks (N : Nat) : ∀ u ∈ u0_r36_breaks N, PcOk (X91 N) (bodyOf Try.f50) u := pc_nil
noncomputable def Pr36_breaks_1 : PD D := { path := [1, 1, 0, 1, 0, 0, 1], ins := [.o 3 (.box 75), .v 12 (.int .i64), .v 13 .bool], fx := [(3, .box 0 0)], ks := [1], exs := [⟨.normal, [.v 13 .bool], []⟩], keep := [1, 2, 3, 7, 12] }
noncomputable def Fr36_breaks_1 (N : Nat) : Pr36_breaks_1.F := fun x => r36_breaks_1 N x.2.1 x.2.2.1
theorem cr36_breaks_1 (N : Nat) : CC (X91 N) (bodyOf Try.f50) Pr36_breaks_1 (Fr36_breaks_1 N) := CC.of (cok91 N) (us := u0_r36_breaks N) (fun u h _ => oku0_r36_breaks N u h) (fun x => by kernel_rfl)
noncomputable def ur36_breaks_1 (N : Nat) : List (Pc D) := Pr36_breaks_1.pc (X91 N) (Fr36_breaks_1 N) :: u0_r36_breaks N
theorem okur36_breaks_1 (N : Nat) : ∀ u ∈ ur36_breaks_1 N, PcOk (X91 N) (bodyOf Try.f50) u := pc_cons ((cr36_breaks_1 N).pc (by kernel_rfl)) (oku0_r36_breaks N)
noncomputable def Pr36_breaks_2 : PD D := { path := [1, 1, 0, 1, 0, 1, 0, 0, 1, 0], ins := [.v 1 (.sl 53), .v 2 (.int .i64), .o 3 (.box 75), .v 7 (.int .i64), .v 8 (.int .i64)], fx := [(3, .box 0 0)], ks := [1], exs := [⟨.exit 1, [.v 7 (.int .i64)], []⟩], keep := [3] }
noncomputable def Fr36_breaks_2 (N n : Nat) : Pr36_breaks_2.F := fun x => r36_breaks_2 N x.1 x.2.1 x.2.2.1 n x.2.2.2.1 x.2.2.2.2.1
theorem cr36_breaks_2 (N n : Nat) : CC (X91 N) (bodyOf Try.f50) Pr36_breaks_2 (Fr36_breaks_2 N n) := CC.loop (cok91 N) (us := ur36_breaks_1 N) (c := sub (bodyOf Try.f50) [1, 1, 0, 1, 0, 1, 0, 0, 1, 0, 0]) (by kernel_rfl) (by kernel_rfl) (fun u h _ => okur36_breaks_1 N u h) (fun x => rfl) (fun n x => by kernel_rfl) n
noncomputable def ur36_breaks_2 (N : Nat) : List (Pc D) := Pr36_breaks_2.pc (X91 N) (Fr36_breaks_2 N N) :: ur36_breaks_1 N
theorem okur36_breaks_2 (N : Nat) : ∀ u ∈ ur36_breaks_2 N, PcOk (X91 N) (bodyOf Try.f50) u := pc_cons ((cr36_breaks_2 N N).pc (by kernel_rfl)) (okur36_breaks_1 N)
noncomputable def Pr36_breaks_4 : PD D := { path := [1, 1, 0, 1, 0, 1, 1, 1, 0, 1, 0, 0, 1, 0, 0, 0], ins := [.v 1 (.sl 53), .v 2 (.int .i64), .o 3 (.box 75), .v 9 (.int .i64)], fx := [(3, .box 0 0)], ks := [1], exs := [⟨.normal, [.v 63 .bool], []⟩], keep := [1, 2, 3, 9] }
noncomputable def Fr36_breaks_4 (N : Nat) : Pr36_breaks_4.F := fun x => r36_breaks_4 N x.1 x.2.1 x.2.2.1 x.2.2.2.1
theorem cr36_breaks_4 (N : Nat) : CC (X91 N) (bodyOf Try.f50) Pr36_breaks_4 (Fr36_breaks_4 N) := CC.of (cok91 N) (us := ur36_breaks_2 N) (fun u h _ => okur36_breaks_2 N u h) (fun x => by kernel_rfl)
noncomputable def ur36_breaks_4 (N : Nat) : List (Pc D) := Pr36_breaks_4.pc (X91 N) (Fr36_breaks_4 N) :: ur36_breaks_2 N
theorem okur36_breaks_4 (N : Nat) : ∀ u ∈ ur36_breaks_4 N, PcOk (X91 N) (bodyOf Try.f50) u := pc_cons ((cr36_breaks_4 N).pc (by kernel_rfl)) (okur36_breaks_2 N)
noncomputable def Pr36_breaks_3 : PD D := { path := [1, 1, 0, 1, 0, 1, 1, 1, 0, 1, 0], ins := [.v 1 (.sl 53), .v 2 (.int .i64), .o 3 (.box 75), .v 9 (.int .i64)], fx := [(3, .box 0 0)], ks := [1], exs := [⟨.exit 3, [], []⟩, ⟨.ret, [.v 6 .bool], []⟩], keep := [] }
noncomputable def Fr36_breaks_3 (N n : Nat) : Pr36_breaks_3.F := fun x => r36_breaks_3 N x.1 x.2.1 x.2.2.1 n x.2.2.2.1
theorem cr36_breaks_3 (N n : Nat) : CC (X91 N) (bodyOf Try.f50) Pr36_breaks_3 (Fr36_breaks_3 N n) := CC.loop (cok91 N) (us := ur36_breaks_4 N) (c := sub (bodyOf Try.f50) [1, 1, 0, 1, 0, 1, 1, 1, 0, 1, 0, 0]) (by kernel_rfl) (by kernel_rfl) (fun u h _ => okur36_breaks_4 N u h) (fun x => rfl) (fun n x => by kernel_rfl) n
noncomputable def ur36_breaks_3 (N : Nat) : List (Pc D) := Pr36_breaks_3.pc (X91 N) (Fr36_breaks_3 N N) :: ur36_breaks_4 N
theorem okur36_breaks_3 (N : Nat) : ∀ u ∈ ur36_breaks_3 N, PcOk (X91 N) (bodyOf Try.f50) u := pc_cons ((cr36_breaks_3 N N).pc (by kernel_rfl)) (okur36_breaks_4 N)
noncomputable def Pr36_breaks_5 : PD D := { path := [1, 1, 0, 1, 0, 1, 1, 1, 1, 1, 0, 0], ins := [.v 1 (.sl 53), .v 2 (.int .i64), .o 3 (.box 75)], fx := [(3, .box 0 0)], ks := [1], exs := [⟨.normal, [.v 6 .bool], []⟩], keep := [] }
noncomputable def Fr36_breaks_5 (N : Nat) : Pr36_breaks_5.F := fun x => r36_breaks_5 N x.1 x.2.1 x.2.2.1
theorem cr36_breaks_5 (N : Nat) : CC (X91 N) (bodyOf Try.f50) Pr36_breaks_5 (Fr36_breaks_5 N) := CC.of (cok91 N) (us := ur36_breaks_3 N) (fun u h _ => okur36_breaks_3 N u h) (fun x => by kernel_rfl)
noncomputable def ur36_breaks_5 (N : Nat) : List (Pc D) := Pr36_breaks_5.pc (X91 N) (Fr36_breaks_5 N) :: ur36_breaks_3 N
theorem okur36_breaks_5 (N : Nat) : ∀ u ∈ ur36_breaks_5 N, PcOk (X91 N) (bodyOf Try.f50) u := pc_cons ((cr36_breaks_5 N).pc (by kernel_rfl)) (okur36_breaks_3 N)
noncomputable def Pr36_breaks_6 : PD D := { path := [1, 1, 0, 1, 0, 1, 1, 1, 1, 1, 1, 1, 1, 1, 0, 0, 1, 0], ins := [.v 1 (.sl 53), .o 3 (.box 75), .v 7 (.int .i64), .v 10 (.int .i64)], fx := [(3, .box 0 0)], ks := [1], exs := [⟨.exit 5, [.v 7 (.int .i64)], []⟩], keep := [1, 2, 3] }
noncomputable def Fr36_breaks_6 (N n : Nat) : Pr36_breaks_6.F := fun x => r36_breaks_6 N x.1 n x.2.2.1 x.2.2.2.1
theorem cr36_breaks_6 (N n : Nat) : CC (X91 N) (bodyOf Try.f50) Pr36_breaks_6 (Fr36_breaks_6 N n) := CC.loop (cok91 N) (us := ur36_breaks_5 N) (c := sub (bodyOf Try.f50) [1, 1, 0, 1, 0, 1, 1, 1, 1, 1, 1, 1, 1, 1, 0, 0, 1, 0, 0]) (by kernel_rfl) (by kernel_rfl) (fun u h _ => okur36_breaks_5 N u h) (fun x => rfl) (fun n x => by kernel_rfl) n
noncomputable def ur36_breaks_6 (N : Nat) : List (Pc D) := Pr36_breaks_6.pc (X91 N) (Fr36_breaks_6 N N) :: ur36_breaks_5 N
theorem okur36_breaks_6 (N : Nat) : ∀ u ∈ ur36_breaks_6 N, PcOk (X91 N) (bodyOf Try.f50) u := pc_cons ((cr36_breaks_6 N N).pc (by kernel_rfl)) (okur36_breaks_5 N)
noncomputable def Pr36_breaks_7 : PD D := { path := [1, 1, 0, 1, 0, 1, 1, 1, 1, 1, 1, 1, 1, 1, 0, 1, 0], ins := [.v 1 (.sl 53), .v 2 (.int .i64), .o 3 (.box 75), .v 7 (.int .i64)], fx := [(3, .box 0 0)], ks := [1], exs := [⟨.normal, [.v 6 .bool], []⟩], keep := [] }
noncomputable def Fr36_breaks_7 (N : Nat) : Pr36_breaks_7.F := fun x => r36_breaks_7 N x.1 x.2.1 x.2.2.1 x.2.2.2.1
theorem cr36_breaks_7 (N : Nat) : CC (X91 N) (bodyOf Try.f50) Pr36_breaks_7 (Fr36_breaks_7 N) := CC.of (cok91 N) (us := ur36_breaks_6 N) (fun u h _ => okur36_breaks_6 N u h) (fun x => by kernel_rfl)
noncomputable def ur36_breaks_7 (N : Nat) : List (Pc D) := Pr36_breaks_7.pc (X91 N) (Fr36_breaks_7 N) :: ur36_breaks_6 N
theorem okur36_breaks_7 (N : Nat) : ∀ u ∈ ur36_breaks_7 N, PcOk (X91 N) (bodyOf Try.f50) u := pc_cons ((cr36_breaks_7 N).pc (by kernel_rfl)) (okur36_breaks_6 N)
noncomputable def Pr36_breaks_0 : PD D := { path := [1, 1, 0, 1], ins := [.v 1 (.sl 53), .v 2 (.int .i64), .o 3 (.box 75), .v 7 (.int .i64), .v 12 (.int .i64)], fx := [(3, .box 0 0)], ks := [1], exs := [⟨.normal, [], []⟩, ⟨.ret, [.v 6 .bool], []⟩], keep := [] }
noncomputable def Fr36_breaks_0 (N : Nat) : Pr36_breaks_0.F := fun x => r36_breaks_0 N x.1 x.2.1 x.2.2.1 x.2.2.2.1 x.2.2.2.2.1
theorem cr36_breaks_0 (N : Nat) : CC (X91 N) (bodyOf Try.f50) Pr36_breaks_0 (Fr36_breaks_0 N) := CC.of (cok91 N) (us := ur36_breaks_7 N) (fun u h _ => okur36_breaks_7 N u h) (fun x => by kernel_rfl)
noncomputable def ur36_breaks_0 (N : Nat) : List (Pc D) := Pr36_breaks_0.pc (X91 N) (Fr36_breaks_0 N) :: ur36_breaks_7 N
theorem okur36_breaks_0 (N : Nat) : ∀ u ∈ ur36_breaks_0 N, PcOk (X91 N) (bodyOf Try.f50) u := pc_cons ((cr36_breaks_0 N).pc (by kernel_rfl)) (okur36_breaks_7 N)
noncomputable def dr36_breaks : FD D := { f := 50, np := 3, ins := [.v 0 (.agg 75), .v 1 (.sl 53), .v 2 (.int .i64)], fx := [], rcv := none, rk := 0, outs := [.v 6 .bool], ofx := [], rvs := [.tmp 6], flat := true }
noncomputable def Fr36_breaks (N : Nat) : dr36_breaks.F := fun r x => r36_breaks N x.1 x.2.1 x.2.2.1
theorem or36_breaks (N : Nat) : FOk Try.prog (X91 N) dr36_breaks (Fr36_breaks N) := ⟨⟨Try.f50, _, Try.func50, rfl, by kernel_rfl, by kernel_rfl, rfl, FC.of (cok91 N) (us := ur36_breaks_0 N) (fun u h _ => okur36_breaks_0 N u h) (fun r x => by kernel_rfl)⟩, by kernel_rfl, by kernel_rfl, by kernel_rfl, by kernel_rfl⟩
noncomputable def fs92 (N : Nat) : List (FE D) := ⟨dr36_breaks, Fr36_breaks N⟩ :: fs91 N
theorem all92 (N : Nat) : ∀ y ∈ fs92 N, CallOk X0 y.d y.F := all_cons (x := ⟨dr36_breaks, Fr36_breaks N⟩) (or36_breaks N) (all91 N)
noncomputable def X92 (N : Nat) : Ev Try.prog D := X0.with (fs92 N)
theorem cok92 (N : Nat) : COk (X92 N) := COk.of (all92 N)
/-! ### humpyard/humpyardref36.place -/
noncomputable def u0_r36_place (N : Nat) : List (Pc D) := []
theorem oku0_r36_place (N : Nat) : ∀ u ∈ u0_r36_place N, PcOk (X92 N) (bodyOf Try.f29) u := pc_nil
noncomputable def Pr36_place_0 : PD D := { path := [1, 1, 0, 1, 0, 1, 0, 0, 1, 0], ins := [.o 3 (.box 75), .v 7 (.int .i64), .o 8 (.box 37)], fx := [(3, .box 0 0), (8, .box 1 0)], ks := [1, 1], exs := [⟨.normal, [.v 34 .bool], []⟩], keep := [7] }
noncomputable def Fr36_place_0 (N : Nat) : Pr36_place_0.F := fun x => r36_place_0 N x.1 x.2.1 x.2.2.1
theorem cr36_place_0 (N : Nat) : CC (X92 N) (bodyOf Try.f29) Pr36_place_0 (Fr36_place_0 N) := CC.of (cok92 N) (us := u0_r36_place N) (fun u h _ => oku0_r36_place N u h) (fun x => by kernel_rfl)
noncomputable def ur36_place_0 (N : Nat) : List (Pc D) := Pr36_place_0.pc (X92 N) (Fr36_place_0 N) :: u0_r36_place N
theorem okur36_place_0 (N : Nat) : ∀ u ∈ ur36_place_0 N, PcOk (X92 N) (bodyOf Try.f29) u := pc_cons ((cr36_place_0 N).pc (by kernel_rfl)) (oku0_r36_place N)
noncomputable def Pr36_place_3 : PD D := { path := [1, 1, 0, 1, 0, 1, 1, 1, 0, 1, 1, 0, 1, 0, 0, 1, 0, 0, 0], ins := [.v 1 (.sl 53), .v 2 (.sl 3), .o 3 (.box 75), .v 12 (.int .i64)], fx := [(3, .box 0 0)], ks := [1], exs := [⟨.normal, [.v 61 .bool], []⟩], keep := [1, 2, 3, 7, 10, 11, 12] }
noncomputable def Fr36_place_3 (N : Nat) : Pr36_place_3.F := fun x => r36_place_3 N x.1 x.2.1 x.2.2.2.1
theorem cr36_place_3 (N : Nat) : CC (X92 N) (bodyOf Try.f29) Pr36_place_3 (Fr36_place_3 N) := CC.of (cok92 N) (us := ur36_place_0 N) (fun u h _ => okur36_place_0 N u h) (fun x => by kernel_rfl)
noncomputable def ur36_place_3 (N : Nat) : List (Pc D) := Pr36_place_3.pc (X92 N) (Fr36_place_3 N) :: ur36_place_0 N
theorem okur36_place_3 (N : Nat) : ∀ u ∈ ur36_place_3 N, PcOk (X92 N) (bodyOf Try.f29) u := pc_cons ((cr36_place_3 N).pc (by kernel_rfl)) (okur36_place_0 N)
noncomputable def Pr36_place_2 : PD D := { path := [1, 1, 0, 1, 0, 1, 1, 1, 0, 1, 1, 0, 1, 0, 0, 1, 0], ins := [.v 1 (.sl 53), .v 2 (.sl 3), .o 3 (.box 75), .v 11 (.int .i64), .v 12 (.int .i64)], fx := [(3, .box 0 0)], ks := [1], exs := [⟨.normal, [.v 11 (.int .i64)], []⟩], keep := [1, 2, 3, 7, 10, 12] }
noncomputable def Fr36_place_2 (N : Nat) : Pr36_place_2.F := fun x => r36_place_2 N x.1 x.2.1 x.2.2.2.1 x.2.2.2.2.1
theorem cr36_place_2 (N : Nat) : CC (X92 N) (bodyOf Try.f29) Pr36_place_2 (Fr36_place_2 N) := CC.of (cok92 N) (us := ur36_place_3 N) (fun u h _ => okur36_place_3 N u h) (fun x => by kernel_rfl)
noncomputable def ur36_place_2 (N : Nat) : List (Pc D) := Pr36_place_2.pc (X92 N) (Fr36_place_2 N) :: ur36_place_3 N
theorem okur36_place_2 (N : Nat) : ∀ u ∈ ur36_place_2 N, PcOk (X92 N) (bodyOf Try.f29) u := pc_cons ((cr36_place_2 N).pc (by kernel_rfl)) (okur36_place_3 N)
noncomputable def Pr36_place_1 : PD D := { path := [1, 1, 0, 1, 0, 1, 1, 1, 0, 1, 1, 0, 1, 0], ins := [.v 1 (.sl 53), .v 2 (.sl 3), .o 3 (.box 75), .v 7 (.int .i64), .v 11 (.int .i64), .v 12 (.int .i64)], fx := [(3, .box 0 0)], ks := [1], exs := [⟨.exit 1, [.v 11 (.int .i64)], []⟩], keep := [3, 7, 10] }
noncomputable def Fr36_place_1 (N n : Nat) : Pr36_place_1.F := fun x => r36_place_1 N x.1 x.2.1 x.2.2.2.1 n x.2.2.2.2.1 x.2.2.2.2.2.1
theorem cr36_place_1 (N n : Nat) : CC (X92 N) (bodyOf Try.f29) Pr36_place_1 (Fr36_place_1 N n) := CC.loop (cok92 N) (us := ur36_place_2 N) (c := sub (bodyOf Try.f29) [1, 1, 0, 1, 0, 1, 1, 1, 0, 1, 1, 0, 1, 0, 0]) (by kernel_rfl) (by kernel_rfl) (fun u h _ => okur36_place_2 N u h) (fun x => rfl) (fun n x => by kernel_rfl) n
noncomputable def ur36_place_1 (N : Nat) : List (Pc D) := Pr36_place_1.pc (X92 N) (Fr36_place_1 N N) :: ur36_place_2 N
theorem okur36_place_1 (N : Nat) : ∀ u ∈ ur36_place_1 N, PcOk (X92 N) (bodyOf Try.f29) u := pc_cons ((cr36_place_1 N N).pc (by kernel_rfl)) (okur36_place_2 N)
noncomputable def Pr36_place_4 : PD D := { path := [1, 1, 1, 0, 1, 0], ins := [.v 1 (.sl 53), .o 3 (.box 75), .v 7 (.int .i64), .v 13 (.int .i64)], fx := [(3, .box 0 0)], ks := [1], exs := [⟨.exit 3, [], []⟩, ⟨.ret, [.v 6 (.int .i64)], []⟩], keep := [] }
noncomputable def Fr36_place_4 (N n : Nat) : Pr36_place_4.F := fun x => r36_place_4 N x.1 x.2.1 x.2.2.1 n x.2.2.2.1
theorem cr36_place_4 (N n : Nat) : CC (X92 N) (bodyOf Try.f29) Pr36_place_4 (Fr36_place_4 N n) := CC.loop (cok92 N) (us := ur36_place_1 N) (c := sub (bodyOf Try.f29) [1, 1, 1, 0, 1, 0, 0]) (by kernel_rfl) (by kernel_rfl) (fun u h _ => okur36_place_1 N u h) (fun x => rfl) (fun n x => by kernel_rfl) n
noncomputable def ur36_place_4 (N : Nat) : List (Pc D) := Pr36_place_4.pc (X92 N) (Fr36_place_4 N N) :: ur36_place_1 N
theorem okur36_place_4 (N : Nat) : ∀ u ∈ ur36_place_4 N, PcOk (X92 N) (bodyOf Try.f29) u := pc_cons ((cr36_place_4 N N).pc (by kernel_rfl)) (okur36_place_1 N)
noncomputable def dr36_place : FD D := { f := 29, np := 3, ins := [.v 0 (.agg 75), .v 1 (.sl 53), .v 2 (.sl 3)], fx := [], rcv := none, rk := 0, outs := [.v 6 (.int .i64)], ofx := [], rvs := [.tmp 6], flat := true }
noncomputable def Fr36_place (N : Nat) : dr36_place.F := fun r x => r36_place N x.1 x.2.1 x.2.2.1
theorem or36_place (N : Nat) : FOk Try.prog (X92 N) dr36_place (Fr36_place N) := ⟨⟨Try.f29, _, Try.func29, rfl, by kernel_rfl, by kernel_rfl, rfl, FC.of (cok92 N) (us := ur36_place_4 N) (fun u h _ => okur36_place_4 N u h) (fun r x => by kernel_rfl)⟩, by kernel_rfl, by kernel_rfl, by kernel_rfl, by kernel_rfl⟩
noncomputable def fs93 (N : Nat) : List (FE D) := ⟨dr36_place, Fr36_place N⟩ :: fs92 N
theorem all93 (N : Nat) : ∀ y ∈ fs93 N, CallOk X0 y.d y.F := all_cons (x := ⟨dr36_place, Fr36_place N⟩) (or36_place N) (all92 N)
noncomputable def X93 (N : Nat) : Ev Try.prog D := X0.with (fs93 N)
theorem cok93 (N : Nat) : COk (X93 N) := COk.of (all93 N)
/-! ### humpyard/humpyardref36.Check -/
noncomputable def u0_r36_Check (N : Nat) : List (Pc D) := []
theorem oku0_r36_Check (N : Nat) : ∀ u ∈ u0_r36_Check N, PcOk (X93 N) (bodyOf Try.f10) u := pc_nil
noncomputable def Pr36_Check_0 : PD D := { path := [1, 1, 1, 0, 1, 0], ins := [.v 0 (.sl 75), .v 1 (.sl 53), .v 2 (.sl 3), .v 12 (.int .i64)], fx := [], ks := [], exs := [⟨.exit 0, [], []⟩, ⟨.ret, [.v 6 (.int .i64), .v 7 (.int .i64), .v 8 (.int .i64)], []⟩], keep := [] }
noncomputable def Fr36_Check_0 (N n : Nat) : Pr36_Check_0.F := fun x => r36_Check_0 N x.1 x.2.1 x.2.2.1 n x.2.2.2.1
theorem cr36_Check_0 (N n : Nat) : CC (X93 N) (bodyOf Try.f10) Pr36_Check_0 (Fr36_Check_0 N n) := CC.loop (cok93 N) (us := u0_r36_Check N) (c := sub (bodyOf Try.f10) [1, 1, 1, 0, 1, 0, 0]) (by kernel_rfl) (by kernel_rfl) (fun u h _ => oku0_r36_Check N u h) (fun x => rfl) (fun n x => by kernel_rfl) n
noncomputable def ur36_Check_0 (N : Nat) : List (Pc D) := Pr36_Check_0.pc (X93 N) (Fr36_Check_0 N N) :: u0_r36_Check N
theorem okur36_Check_0 (N : Nat) : ∀ u ∈ ur36_Check_0 N, PcOk (X93 N) (bodyOf Try.f10) u := pc_cons ((cr36_Check_0 N N).pc (by kernel_rfl)) (oku0_r36_Check N)
noncomputable def dr36_Check : FD D := { f := 10, np := 3, ins := [.v 0 (.sl 75), .v 1 (.sl 53), .v 2 (.sl 3)], fx := [], rcv := none, rk := 0, outs := [.v 6 (.int .i64), .v 7 (.int .i64), .v 8 (.int .i64)], ofx := [], rvs := [.tmp 6, .tmp 7, .tmp 8], flat := true }
noncomputable def Fr36_Check (N : Nat) : dr36_Check.F := fun r x => r36_Check N x.1 x.2.1 x.2.2.1
theorem or36_Check (N : Nat) : FOk Try.prog (X93 N) dr36_Check (Fr36_Check N) := ⟨⟨Try.f10, _, Try.func10, rfl, by kernel_rfl, by kernel_rfl, rfl, FC.of (cok93 N) (us := ur36_Check_0 N) (fun u h _ => okur36_Check_0 N u h) (fun r x => by kernel_rfl)⟩, by kernel_rfl, by kernel_rfl, by kernel_rfl, by kernel_rfl⟩
noncomputable def fs94 (N : Nat) : List (FE D) := ⟨dr36_Check, Fr36_Check N⟩ :: fs93 N
theorem all94 (N : Nat) : ∀ y ∈ fs94 N, CallOk X0 y.d y.F := all_cons (x := ⟨dr36_Check, Fr36_Check N⟩) (or36_Check N) (all93 N)
noncomputable def X94 (N : Nat) : Ev Try.prog D := X0.with (fs94 N)
theorem cok94 (N : Nat) : COk (X94 N) := COk.of (all94 N)
/-! ### humpyard/humpyardref35.ValidTable -/
noncomputable def u0_r35_ValidTable (N : Nat) : List (Pc D) := []
theorem oku0_r35_ValidTable (N : Nat) : ∀ u ∈ u0_r35_ValidTable N, PcOk (X94 N) (bodyOf Try.f51) u := pc_nil
noncomputable def Pr35_ValidTable_1 : PD D := { path := [1, 1, 0, 1, 0, 0, 1, 0, 0, 0], ins := [.v 0 (.sl 72), .v 3 (.int .i64)], fx := [], ks := [], exs := [⟨.normal, [.v 58 .bool], []⟩], keep := [0, 3] }
noncomputable def Fr35_ValidTable_1 (N : Nat) : Pr35_ValidTable_1.F := fun x => r35_ValidTable_1 N x.1 x.2.1
theorem cr35_ValidTable_1 (N : Nat) : CC (X94 N) (bodyOf Try.f51) Pr35_ValidTable_1 (Fr35_ValidTable_1 N) := CC.of (cok94 N) (us := u0_r35_ValidTable N) (fun u h _ => oku0_r35_ValidTable N u h) (fun x => by kernel_rfl)
noncomputable def ur35_ValidTable_1 (N : Nat) : List (Pc D) := Pr35_ValidTable_1.pc (X94 N) (Fr35_ValidTable_1 N) :: u0_r35_ValidTable N
theorem okur35_ValidTable_1 (N : Nat) : ∀ u ∈ ur35_ValidTable_1 N, PcOk (X94 N) (bodyOf Try.f51) u := pc_cons ((cr35_ValidTable_1 N).pc (by kernel_rfl)) (oku0_r35_ValidTable N)
noncomputable def Pr35_ValidTable_0 : PD D := { path := [1, 1, 0, 1, 0], ins := [.v 0 (.sl 72), .v 3 (.int .i64)], fx := [], ks := [], exs := [⟨.exit 0, [], []⟩, ⟨.ret, [.v 2 .bool], []⟩], keep := [] }
noncomputable def Fr35_ValidTable_0 (N n : Nat) : Pr35_ValidTable_0.F := fun x => r35_ValidTable_0 N x.1 n x.2.1
theorem cr35_ValidTable_0 (N n : Nat) : CC (X94 N) (bodyOf Try.f51) Pr35_ValidTable_0 (Fr35_ValidTable_0 N n) := CC.loop (cok94 N) (us := ur35_ValidTable_1 N) (c := sub (bodyOf Try.f51) [1, 1, 0, 1, 0, 0]) (by kernel_rfl) (by kernel_rfl) (fun u h _ => okur35_ValidTable_1 N u h) (fun x => rfl) (fun n x => by kernel_rfl) n
noncomputable def ur35_ValidTable_0 (N : Nat) : List (Pc D) := Pr35_ValidTable_0.pc (X94 N) (Fr35_ValidTable_0 N N) :: ur35_ValidTable_1 N
theorem okur35_ValidTable_0 (N : Nat) : ∀ u ∈ ur35_ValidTable_0 N, PcOk (X94 N) (bodyOf Try.f51) u := pc_cons ((cr35_ValidTable_0 N N).pc (by kernel_rfl)) (okur35_ValidTable_1 N)
noncomputable def dr35_ValidTable : FD D := { f := 51, np := 1, ins := [.v 0 (.sl 72)], fx := [], rcv := none, rk := 0, outs := [.v 2 .bool], ofx := [], rvs := [.tmp 2], flat := true }
noncomputable def Fr35_ValidTable (N : Nat) : dr35_ValidTable.F := fun r x => r35_ValidTable N x.1
theorem or35_ValidTable (N : Nat) : FOk Try.prog (X94 N) dr35_ValidTable (Fr35_ValidTable N) := ⟨⟨Try.f51, _, Try.func51, rfl, by kernel_rfl, by kernel_rfl, rfl, FC.of (cok94 N) (us := ur35_ValidTable_0 N) (fun u h _ => okur35_ValidTable_0 N u h) (fun r x => by kernel_rfl)⟩, by kernel_rfl, by kernel_rfl, by kernel_rfl, by kernel_rfl⟩
noncomputable def fs95 (N : Nat) : List (FE D) := ⟨dr35_ValidTable, Fr35_ValidTable N⟩ :: fs94 N
theorem all95 (N : Nat) : ∀ y ∈ fs95 N, CallOk X0 y.d y.F := all_cons (x := ⟨dr35_ValidTable, Fr35_ValidTable N⟩) (or35_ValidTable N) (all94 N)
noncomputable def X95 (N : Nat) : Ev Try.prog D := X0.with (fs95 N)
theorem cok95 (N : Nat) : COk (X95 N) := COk.of (all95 N)
/-! ### humpyard/humpyardref35.need -/
noncomputable def u0_r35_need (N : Nat) : List (Pc D) := []
theorem oku0_r35_need (N : Nat) : ∀ u ∈ u0_r35_need N, PcOk (X95 N) (bodyOf Try.f52) u := pc_nil
noncomputable def Pr35_need_2 : PD D := { path := [1, 1, 0, 1, 0, 0, 1, 0, 0, 0], ins := [.v 0 (.sl 72), .v 1 (.int .i64), .v 2 (.int .i64), .v 8 (.int .i64), .v 9 .bool, .v 10 (.int .i64)], fx := [], ks := [], exs := [⟨.normal, [.v 45 .bool], []⟩], keep := [0, 1, 2, 8, 9, 10] }
noncomputable def Fr35_need_2 (N : Nat) : Pr35_need_2.F := fun x => r35_need_2 N x.1 x.2.1 x.2.2.1 x.2.2.2.1 x.2.2.2.2.1 x.2.2.2.2.2.1
theorem cr35_need_2 (N : Nat) : CC (X95 N) (bodyOf Try.f52) Pr35_need_2 (Fr35_need_2 N) := CC.of (cok95 N) (us := u0_r35_need N) (fun u h _ => oku0_r35_need N u h) (fun x => by kernel_rfl)
noncomputable def ur35_need_2 (N : Nat) : List (Pc D) := Pr35_need_2.pc (X95 N) (Fr35_need_2 N) :: u0_r35_need N
theorem okur35_need_2 (N : Nat) : ∀ u ∈ ur35_need_2 N, PcOk (X95 N) (bodyOf Try.f52) u := pc_cons ((cr35_need_2 N).pc (by kernel_rfl)) (oku0_r35_need N)
noncomputable def Pr35_need_1 : PD D := { path := [1, 1, 0, 1, 0, 0, 1, 0], ins := [.v 0 (.sl 72), .v 1 (.int .i64), .v 2 (.int .i64), .v 8 (.int .i64), .v 9 .bool, .v 10 (.int .i64)], fx := [], ks := [], exs := [⟨.normal, [.v 8 (.int .i64), .v 9 .bool], []⟩], keep := [0, 1, 2, 10] }
noncomputable def Fr35_need_1 (N : Nat) : Pr35_need_1.F := fun x => r35_need_1 N x.1 x.2.1 x.2.2.1 x.2.2.2.1 x.2.2.2.2.1 x.2.2.2.2.2.1
theorem cr35_need_1 (N : Nat) : CC (X95 N) (bodyOf Try.f52) Pr35_need_1 (Fr35_need_1 N) := CC.of (cok95 N) (us := ur35_need_2 N) (fun u h _ => okur35_need_2 N u h) (fun x => by kernel_rfl)
noncomputable def ur35_need_1 (N : Nat) : List (Pc D) := Pr35_need_1.pc (X95 N) (Fr35_need_1 N) :: ur35_need_2 N
theorem okur35_need_1 (N : Nat) : ∀ u ∈ ur35_need_1 N, PcOk (X95 N) (bodyOf Try.f52) u := pc_cons ((cr35_need_1 N).pc (by kernel_rfl)) (okur35_need_2 N)
noncomputable def Pr35_need_0 : PD D := { path := [1, 1, 0, 1, 0], ins := [.v 0 (.sl 72), .v 1 (.int .i64), .v 2 (.int .i64), .v 8 (.int .i64), .v 9 .bool, .v 10 (.int .i64)], fx := [], ks := [], exs := [⟨.exit 0, [.v 8 (.int .i64), .v 9 .bool], []⟩], keep := [] }
noncomputable def Fr35_need_0 (N n : Nat) : Pr35_need_0.F := fun x => r35_need_0 N x.1 x.2.1 x.2.2.1 n x.2.2.2.1 x.2.2.2.2.1 x.2.2.2.2.2.1
theorem cr35_need_0 (N n : Nat) : CC (X95 N) (bodyOf Try.f52) Pr35_need_0 (Fr35_need_0 N n) := CC.loop (cok95 N) (us := ur35_need_1 N) (c := sub (bodyOf Try.f52) [1, 1, 0, 1, 0, 0]) (by kernel_rfl) (by kernel_rfl) (fun u h _ => okur35_need_1 N u h) (fun x => rfl) (fun n x => by kernel_rfl) n
noncomputable def ur35_need_0 (N : Nat) : List (Pc D) := Pr35_need_0.pc (X95 N) (Fr35_need_0 N N) :: ur35_need_1 N
theorem okur35_need_0 (N : Nat) : ∀ u ∈ ur35_need_0 N, PcOk (X95 N) (bodyOf Try.f52) u := pc_cons ((cr35_need_0 N N).pc (by kernel_rfl)) (okur35_need_1 N)
noncomputable def dr35_need : FD D := { f := 52, np := 3, ins := [.v 0 (.sl 72), .v 1 (.int .i64), .v 2 (.int .i64)], fx := [], rcv := none, rk := 0, outs := [.v 6 (.int .i64), .v 7 .bool], ofx := [], rvs := [.tmp 6, .tmp 7], flat := true }
noncomputable def Fr35_need (N : Nat) : dr35_need.F := fun r x => r35_need N x.1 x.2.1 x.2.2.1
theorem or35_need (N : Nat) : FOk Try.prog (X95 N) dr35_need (Fr35_need N) := ⟨⟨Try.f52, _, Try.func52, rfl, by kernel_rfl, by kernel_rfl, rfl, FC.of (cok95 N) (us := ur35_need_0 N) (fun u h _ => okur35_need_0 N u h) (fun r x => by kernel_rfl)⟩, by kernel_rfl, by kernel_rfl, by kernel_rfl, by kernel_rfl⟩
noncomputable def fs96 (N : Nat) : List (FE D) := ⟨dr35_need, Fr35_need N⟩ :: fs95 N
theorem all96 (N : Nat) : ∀ y ∈ fs96 N, CallOk X0 y.d y.F := all_cons (x := ⟨dr35_need, Fr35_need N⟩) (or35_need N) (all95 N)
noncomputable def X96 (N : Nat) : Ev Try.prog D := X0.with (fs96 N)
theorem cok96 (N : Nat) : COk (X96 N) := COk.of (all96 N)
/-! ### humpyard/humpyardref35.Required -/
noncomputable def u0_r35_Required (N : Nat) : List (Pc D) := []
theorem oku0_r35_Required (N : Nat) : ∀ u ∈ u0_r35_Required N, PcOk (X96 N) (bodyOf Try.f30) u := pc_nil
noncomputable def Pr35_Required_0 : PD D := { path := [1, 1, 0, 0], ins := [.v 1 (.int .i64), .v 2 (.int .i64)], fx := [], ks := [], exs := [⟨.normal, [.v 26 .bool], []⟩], keep := [0, 1, 2] }
noncomputable def Fr35_Required_0 (N : Nat) : Pr35_Required_0.F := fun x => r35_Required_0 N x.1 x.2.1
theorem cr35_Required_0 (N : Nat) : CC (X96 N) (bodyOf Try.f30) Pr35_Required_0 (Fr35_Required_0 N) := CC.of (cok96 N) (us := u0_r35_Required N) (fun u h _ => oku0_r35_Required N u h) (fun x => by kernel_rfl)
noncomputable def ur35_Required_0 (N : Nat) : List (Pc D) := Pr35_Required_0.pc (X96 N) (Fr35_Required_0 N) :: u0_r35_Required N
theorem okur35_Required_0 (N : Nat) : ∀ u ∈ ur35_Required_0 N, PcOk (X96 N) (bodyOf Try.f30) u := pc_cons ((cr35_Required_0 N).pc (by kernel_rfl)) (oku0_r35_Required N)
noncomputable def dr35_Required : FD D := { f := 30, np := 3, ins := [.v 0 (.sl 72), .v 1 (.int .i64), .v 2 (.int .i64)], fx := [], rcv := none, rk := 0, outs := [.v 6 (.int .i64), .v 7 (.int .i64)], ofx := [], rvs := [.tmp 6, .tmp 7], flat := true }
noncomputable def Fr35_Required (N : Nat) : dr35_Required.F := fun r x => r35_Required N x.1 x.2.1 x.2.2.1
theorem or35_Required (N : Nat) : FOk Try.prog (X96 N) dr35_Required (Fr35_Required N) := ⟨⟨Try.f30, _, Try.func30, rfl, by kernel_rfl, by kernel_rfl, rfl, FC.of (cok96 N) (us := ur35_Required_0 N) (fun u h _ => okur35_Required_0 N u h) (fun r x => by kernel_rfl)⟩, by kernel_rfl, by kernel_rfl, by kernel_rfl, by kernel_rfl⟩
noncomputable def fs97 (N : Nat) : List (FE D) := ⟨dr35_Required, Fr35_Required N⟩ :: fs96 N
theorem all97 (N : Nat) : ∀ y ∈ fs97 N, CallOk X0 y.d y.F := all_cons (x := ⟨dr35_Required, Fr35_Required N⟩) (or35_Required N) (all96 N)
noncomputable def X97 (N : Nat) : Ev Try.prog D := X0.with (fs97 N)
theorem cok97 (N : Nat) : COk (X97 N) := COk.of (all97 N)
/-! ### humpyard/humpyardref35.Sheet -/
noncomputable def u0_r35_Sheet (N : Nat) : List (Pc D) := []
theorem oku0_r35_Sheet (N : Nat) : ∀ u ∈ u0_r35_Sheet N, PcOk (X97 N) (bodyOf Try.f11) u := pc_nil
noncomputable def dr35_Sheet : FD D := { f := 11, np := 5, ins := [.v 0 (.sl 53), .v 1 (.sl 3), .v 2 (.sl 72), .v 3 (.int .i64), .v 4 (.int .i64)], fx := [], rcv := none, rk := 0, outs := [.v 1000000 (.agg 37), .v 11 (.int .i64)], ofx := [], rvs := [.cell 10 37, .tmp 11], flat := true }
noncomputable def Fr35_Sheet (N : Nat) : dr35_Sheet.F := fun r x => r35_Sheet N x.1 x.2.1 x.2.2.1 x.2.2.2.1 x.2.2.2.2.1
theorem or35_Sheet (N : Nat) : FOk Try.prog (X97 N) dr35_Sheet (Fr35_Sheet N) := ⟨⟨Try.f11, _, Try.func11, rfl, by kernel_rfl, by kernel_rfl, rfl, FC.of (cok97 N) (us := u0_r35_Sheet N) (fun u h _ => oku0_r35_Sheet N u h) (fun r x => by kernel_rfl)⟩, by kernel_rfl, by kernel_rfl, by kernel_rfl, by kernel_rfl⟩
noncomputable def fs98 (N : Nat) : List (FE D) := ⟨dr35_Sheet, Fr35_Sheet N⟩ :: fs97 N
theorem all98 (N : Nat) : ∀ y ∈ fs98 N, CallOk X0 y.d y.F := all_cons (x := ⟨dr35_Sheet, Fr35_Sheet N⟩) (or35_Sheet N) (all97 N)
noncomputable def X98 (N : Nat) : Ev Try.prog D := X0.with (fs98 N)
theorem cok98 (N : Nat) : COk (X98 N) := COk.of (all98 N)
/-! ### humpyard/humpgen.Wagons -/
noncomputable def u0_gen_Wagons (N : Nat) : List (Pc D) := []
theorem oku0_gen_Wagons (N : Nat) : ∀ u ∈ u0_gen_Wagons N, PcOk (X98 N) (bodyOf Try.f12) u := pc_nil
noncomputable def Pgen_Wagons_0 : PD D := { path := [1, 1, 0, 1, 0], ins := [.v 0 (.sl 53), .v 1 (.sl 53), .v 5 (.int .i64)], fx := [], ks := [], exs := [⟨.exit 0, [], []⟩, ⟨.ret, [.v 4 .bool], []⟩], keep := [] }
noncomputable def Fgen_Wagons_0 (N n : Nat) : Pgen_Wagons_0.F := fun x => gen_Wagons_0 N x.1 x.2.1 n x.2.2.1
theorem cgen_Wagons_0 (N n : Nat) : CC (X98 N) (bodyOf Try.f12) Pgen_Wagons_0 (Fgen_Wagons_0 N n) := CC.loop (cok98 N) (us := u0_gen_Wagons N) (c := sub (bodyOf Try.f12) [1, 1, 0, 1, 0, 0]) (by kernel_rfl) (by kernel_rfl) (fun u h _ => oku0_gen_Wagons N u h) (fun x => rfl) (fun n x => by kernel_rfl) n
noncomputable def ugen_Wagons_0 (N : Nat) : List (Pc D) := Pgen_Wagons_0.pc (X98 N) (Fgen_Wagons_0 N N) :: u0_gen_Wagons N
theorem okugen_Wagons_0 (N : Nat) : ∀ u ∈ ugen_Wagons_0 N, PcOk (X98 N) (bodyOf Try.f12) u := pc_cons ((cgen_Wagons_0 N N).pc (by kernel_rfl)) (oku0_gen_Wagons N)
noncomputable def dgen_Wagons : FD D := { f := 12, np := 2, ins := [.v 0 (.sl 53), .v 1 (.sl 53)], fx := [], rcv := none, rk := 0, outs := [.v 4 .bool], ofx := [], rvs := [.tmp 4], flat := true }
noncomputable def Fgen_Wagons (N : Nat) : dgen_Wagons.F := fun r x => gen_Wagons N x.1 x.2.1
theorem ogen_Wagons (N : Nat) : FOk Try.prog (X98 N) dgen_Wagons (Fgen_Wagons N) := ⟨⟨Try.f12, _, Try.func12, rfl, by kernel_rfl, by kernel_rfl, rfl, FC.of (cok98 N) (us := ugen_Wagons_0 N) (fun u h _ => okugen_Wagons_0 N u h) (fun r x => by kernel_rfl)⟩, by kernel_rfl, by kernel_rfl, by kernel_rfl, by kernel_rfl⟩
noncomputable def fs99 (N : Nat) : List (FE D) := ⟨dgen_Wagons, Fgen_Wagons N⟩ :: fs98 N
theorem all99 (N : Nat) : ∀ y ∈ fs99 N, CallOk X0 y.d y.F := all_cons (x := ⟨dgen_Wagons, Fgen_Wagons N⟩) (ogen_Wagons N) (all98 N)
noncomputable def X99 (N : Nat) : Ev Try.prog D := X0.with (fs99 N)
theorem cok99 (N : Nat) : COk (X99 N) := COk.of (all99 N)
/-! ### humpyard/humpyardlaw37.TrainbuildSheets -/
noncomputable def u0_l37_TrainbuildSheets (N : Nat) : List (Pc D) := []
theorem oku0_l37_TrainbuildSheets (N : Nat) : ∀ u ∈ u0_l37_TrainbuildSheets N, PcOk (X99 N) (bodyOf Try.f3) u := pc_nil
noncomputable def Pl37_TrainbuildSheets_0 : PD D := { path := [1, 1, 1, 1, 0, 1, 0, 0], ins := [.o 7 (.box 40)], fx := [(7, .box 0 0)], ks := [1], exs := [⟨.normal, [.v 2 .bool], []⟩], keep := [] }
noncomputable def Fl37_TrainbuildSheets_0 (N : Nat) : Pl37_TrainbuildSheets_0.F := fun x => l37_TrainbuildSheets_0 N x.1
theorem cl37_TrainbuildSheets_0 (N : Nat) : CC (X99 N) (bodyOf Try.f3) Pl37_TrainbuildSheets_0 (Fl37_TrainbuildSheets_0 N) := CC.of (cok99 N) (us := u0_l37_TrainbuildSheets N) (fun u h _ => oku0_l37_TrainbuildSheets N u h) (fun x => by kernel_rfl)
noncomputable def ul37_TrainbuildSheets_0 (N : Nat) : List (Pc D) := Pl37_TrainbuildSheets_0.pc (X99 N) (Fl37_TrainbuildSheets_0 N) :: u0_l37_TrainbuildSheets N
theorem okul37_TrainbuildSheets_0 (N : Nat) : ∀ u ∈ ul37_TrainbuildSheets_0 N, PcOk (X99 N) (bodyOf Try.f3) u := pc_cons ((cl37_TrainbuildSheets_0 N).pc (by kernel_rfl)) (oku0_l37_TrainbuildSheets N)
noncomputable def Pl37_TrainbuildSheets_1 : PD D := { path := [1, 1, 1, 1, 1, 1, 1, 0, 0], ins := [.o 5 (.box 32), .v 6 (.sl 53), .o 7 (.box 40), .v 8 (.int .i64), .v 9 (.int .i64), .v 11 (.int .i64), .v 13 (.int .i64), .o 14 (.box 37), .v 15 (.int .i64)], fx := [(5, .box 0 0), (7, .box 1 0), (14, .box 2 0)], ks := [1, 1, 1], exs := [⟨.normal, [.v 107 .bool], []⟩], keep := [5, 6, 7] }
noncomputable def Fl37_TrainbuildSheets_1 (N : Nat) : Pl37_TrainbuildSheets_1.F := fun x => l37_TrainbuildSheets_1 N x.1 x.2.1 x.2.2.1 x.2.2.2.1 x.2.2.2.2.1 x.2.2.2.2.2.1 x.2.2.2.2.2.2.1 x.2.2.2.2.2.2.2.1 x.2.2.2.2.2.2.2.2.1
theorem cl37_TrainbuildSheets_1 (N : Nat) : CC (X99 N) (bodyOf Try.f3) Pl37_TrainbuildSheets_1 (Fl37_TrainbuildSheets_1 N) := CC.of (cok99 N) (us := ul37_TrainbuildSheets_0 N) (fun u h _ => okul37_TrainbuildSheets_0 N u h) (fun x => by kernel_rfl)
noncomputable def ul37_TrainbuildSheets_1 (N : Nat) : List (Pc D) := Pl37_TrainbuildSheets_1.pc (X99 N) (Fl37_TrainbuildSheets_1 N) :: ul37_TrainbuildSheets_0 N
theorem okul37_TrainbuildSheets_1 (N : Nat) : ∀ u ∈ ul37_TrainbuildSheets_1 N, PcOk (X99 N) (bodyOf Try.f3) u := pc_cons ((cl37_TrainbuildSheets_1 N).pc (by kernel_rfl)) (okul37_TrainbuildSheets_0 N)
noncomputable def Pl37_TrainbuildSheets_3 : PD D := { path := [1, 1, 1, 1, 1, 1, 1, 1, 1, 0, 1, 0, 0, 1, 0, 0, 1, 0, 0], ins := [.o 5 (.box 32), .o 7 (.box 40), .v 16 (.int .i64), .o 18 (.box 51)], fx := [(5, .box 0 0), (7, .box 1 0), (18, .box 2 0)], ks := [1, 1, 1], exs := [⟨.normal, [.v 148 .bool], []⟩], keep := [5, 6, 7, 16, 17, 18] }
noncomputable def Fl37_TrainbuildSheets_3 (N : Nat) : Pl37_TrainbuildSheets_3.F := fun x => l37_TrainbuildSheets_3 N x.1 x.2.2.1 x.2.2.2.1
theorem cl37_TrainbuildSheets_3 (N : Nat) : CC (X99 N) (bodyOf Try.f3) Pl37_TrainbuildSheets_3 (Fl37_TrainbuildSheets_3 N) := CC.of (cok99 N) (us := ul37_TrainbuildSheets_1 N) (fun u h _ => okul37_TrainbuildSheets_1 N u h) (fun x => by kernel_rfl)
noncomputable def ul37_TrainbuildSheets_3 (N : Nat) : List (Pc D) := Pl37_TrainbuildSheets_3.pc (X99 N) (Fl37_TrainbuildSheets_3 N) :: ul37_TrainbuildSheets_1 N
theorem okul37_TrainbuildSheets_3 (N : Nat) : ∀ u ∈ ul37_TrainbuildSheets_3 N, PcOk (X99 N) (bodyOf Try.f3) u := pc_cons ((cl37_TrainbuildSheets_3 N).pc (by kernel_rfl)) (okul37_TrainbuildSheets_1 N)
noncomputable def Pl37_TrainbuildSheets_4 : PD D := { path := [1, 1, 1, 1, 1, 1, 1, 1, 1, 0, 1, 0, 0, 1, 0, 0, 1, 1, 0, 1, 0], ins := [.o 5 (.box 32), .v 6 (.sl 53), .o 7 (.box 40), .v 16 (.int .i64), .o 18 (.box 51), .v 19 (.int .i64)], fx := [(5, .box 0 0), (7, .box 1 0), (18, .box 2 0)], ks := [1, 1, 1], exs := [⟨.exit 2, [], []⟩, ⟨.ret, [.v 2 .bool], []⟩], keep := [5, 6, 7, 16, 17, 18] }
noncomputable def Fl37_TrainbuildSheets_4 (N n : Nat) : Pl37_TrainbuildSheets_4.F := fun x => l37_TrainbuildSheets_4 N x.1 x.2.1 x.2.2.2.1 x.2.2.2.2.1 n x.2.2.2.2.2.1
theorem cl37_TrainbuildSheets_4 (N n : Nat) : CC (X99 N) (bodyOf Try.f3) Pl37_TrainbuildSheets_4 (Fl37_TrainbuildSheets_4 N n) := CC.loop (cok99 N) (us := ul37_TrainbuildSheets_3 N) (c := sub (bodyOf Try.f3) [1, 1, 1, 1, 1, 1, 1, 1, 1, 0, 1, 0, 0, 1, 0, 0, 1, 1, 0, 1, 0, 0]) (by kernel_rfl) (by kernel_rfl) (fun u h _ => okul37_TrainbuildSheets_3 N u h) (fun x => rfl) (fun n x => by kernel_rfl) n
noncomputable def ul37_TrainbuildSheets_4 (N : Nat) : List (Pc D) := Pl37_TrainbuildSheets_4.pc (X99 N) (Fl37_TrainbuildSheets_4 N N) :: ul37_TrainbuildSheets_3 N
theorem okul37_TrainbuildSheets_4 (N : Nat) : ∀ u ∈ ul37_TrainbuildSheets_4 N, PcOk (X99 N) (bodyOf Try.f3) u := pc_cons ((cl37_TrainbuildSheets_4 N N).pc (by kernel_rfl)) (okul37_TrainbuildSheets_3 N)
noncomputable def Pl37_TrainbuildSheets_2 : PD D := { path := [1, 1, 1, 1, 1, 1, 1, 1, 1, 0, 1, 0], ins := [.o 5 (.box 32), .v 6 (.sl 53), .o 7 (.box 40), .v 16 (.int .i64), .v 17 (.int .i64)], fx := [(5, .box 0 0), (7, .box 1 0)], ks := [1, 1], exs := [⟨.exit 0, [.v 16 (.int .i64)], []⟩, ⟨.ret, [.v 2 .bool], []⟩], keep := [] }
noncomputable def Fl37_TrainbuildSheets_2 (N n : Nat) : Pl37_TrainbuildSheets_2.F := fun x => l37_TrainbuildSheets_2 N x.1 x.2.1 x.2.2.1 n x.2.2.2.1 x.2.2.2.2.1
theorem cl37_TrainbuildSheets_2 (N n : Nat) : CC (X99 N) (bodyOf Try.f3) Pl37_TrainbuildSheets_2 (Fl37_TrainbuildSheets_2 N n) := CC.loop (cok99 N) (us := ul37_TrainbuildSheets_4 N) (c := sub (bodyOf Try.f3) [1, 1, 1, 1, 1, 1, 1, 1, 1, 0, 1, 0, 0]) (by kernel_rfl) (by kernel_rfl) (fun u h _ => okul37_TrainbuildSheets_4 N u h) (fun x => rfl) (fun n x => by kernel_rfl) n
noncomputable def ul37_TrainbuildSheets_2 (N : Nat) : List (Pc D) := Pl37_TrainbuildSheets_2.pc (X99 N) (Fl37_TrainbuildSheets_2 N N) :: ul37_TrainbuildSheets_4 N
theorem okul37_TrainbuildSheets_2 (N : Nat) : ∀ u ∈ ul37_TrainbuildSheets_2 N, PcOk (X99 N) (bodyOf Try.f3) u := pc_cons ((cl37_TrainbuildSheets_2 N N).pc (by kernel_rfl)) (okul37_TrainbuildSheets_4 N)
noncomputable def Pl37_TrainbuildSheets_5 : PD D := { path := [1, 1, 1, 1, 1, 1, 1, 1, 1, 1, 0], ins := [.v 16 (.int .i64)], fx := [], ks := [], exs := [⟨.normal, [.v 2 .bool], []⟩], keep := [] }
noncomputable def Fl37_TrainbuildSheets_5 (N : Nat) : Pl37_TrainbuildSheets_5.F := fun x => l37_TrainbuildSheets_5 N x.1
theorem cl37_TrainbuildSheets_5 (N : Nat) : CC (X99 N) (bodyOf Try.f3) Pl37_TrainbuildSheets_5 (Fl37_TrainbuildSheets_5 N) := CC.of (cok99 N) (us := ul37_TrainbuildSheets_2 N) (fun u h _ => okul37_TrainbuildSheets_2 N u h) (fun x => by kernel_rfl)
noncomputable def ul37_TrainbuildSheets_5 (N : Nat) : List (Pc D) := Pl37_TrainbuildSheets_5.pc (X99 N) (Fl37_TrainbuildSheets_5 N) :: ul37_TrainbuildSheets_2 N
theorem okul37_TrainbuildSheets_5 (N : Nat) : ∀ u ∈ ul37_TrainbuildSheets_5 N, PcOk (X99 N) (bodyOf Try.f3) u := pc_cons ((cl37_TrainbuildSheets_5 N).pc (by kernel_rfl)) (okul37_TrainbuildSheets_2 N)
noncomputable def dl37_TrainbuildSheets : FD D := { f := 3, np := 1, ins := [.v 0 (.sl 3)], fx := [], rcv := none, rk := 0, outs := [.v 2 .bool], ofx := [], rvs := [.tmp 2], flat := true }
noncomputable def Fl37_TrainbuildSheets (N : Nat) : dl37_TrainbuildSheets.F := fun r x => l37_TrainbuildSheets N x.1
theorem ol37_TrainbuildSheets (N : Nat) : FOk Try.prog (X99 N) dl37_TrainbuildSheets (Fl37_TrainbuildSheets N) := ⟨⟨Try.f3, _, Try.func3, rfl, by kernel_rfl, by kernel_rfl, rfl, FC.of (cok99 N) (us := ul37_TrainbuildSheets_5 N) (fun u h _ => okul37_TrainbuildSheets_5 N u h) (fun r x => by kernel_rfl)⟩, by kernel_rfl, by kernel_rfl, by kernel_rfl, by kernel_rfl⟩
noncomputable def fs100 (N : Nat) : List (FE D) := ⟨dl37_TrainbuildSheets, Fl37_TrainbuildSheets N⟩ :: fs99 N
theorem all100 (N : Nat) : ∀ y ∈ fs100 N, CallOk X0 y.d y.F := all_cons (x := ⟨dl37_TrainbuildSheets, Fl37_TrainbuildSheets N⟩) (ol37_TrainbuildSheets N) (all99 N)
noncomputable def X100 (N : Nat) : Ev Try.prog D := X0.with (fs100 N)
theorem cok100 (N : Nat) : COk (X100 N) := COk.of (all100 N)
end Go.W
end
section
set_option linter.unusedVariables false
set_option linter.unusedSimpArgs false
namespace Go.W
open Go.AM
theorem w64 {n : Int} (h : -9223372036854775808 ≤ n) (h' : n ≤ 9223372036854775807) : IntKind.wrap .i64 n = n := by rw [IntKind.wrap_i64]; omega
theorem w8 {n : Int} (h : 0 ≤ n) (h' : n ≤ 255) : IntKind.wrap .u8 n = n := by rw [IntKind.wrap_u8]; omega
theorem wrap64_lo (n : Int) : -9223372036854775808 ≤ IntKind.wrap .i64 n ∧ IntKind.wrap .i64 n ≤ 9223372036854775807 := by rw [IntKind.wrap_i64]; omega
theorem lt_def {α β : Type} (x : α) (f : α → Option β) : AM.lt x f = f x := rfl
theorem bind_some' {α β : Type} (x : α) (f : α → Option β) : Option.bind (some x) f = f x := rfl
theorem getI_ok {α : Type} {xs : List α} {i : Int} (h0 : 0 ≤ i) (h1 : i < xs.length) : ∃ x, getI xs i = some x ∧ x ∈ xs ∧ xs[i.toNat]? = some x := by
  have hlt : i.toNat < xs.length := by omega
  exact ⟨xs[i.toNat], by simp [getI, h0, hlt], by simp, by simp [hlt]⟩
/-- The maker's counter is in range. -/
def Mk (c : Int) (s : Maker) : Prop := 0 ≤ s.n ∧ s.n ≤ c
theorem next_ok (N : Nat) {c : Int} {s : Maker} (k : Int) (hk : 1 ≤ k) (hk2 : k ≤ 1000000) (hs : Mk c s) (hc : c ≤ 1000000000000) : ∃ r s', Maker_Next N s k = some (r, s') ∧ 0 ≤ r ∧ r < k ∧ Mk (c + 1) s' := by
  obtain ⟨h0, h1⟩ := hs
  have h15 : ∃ y, Maker_Next_0 N s 0 (decide (0 < (s.l.length : Int))) = some y := by
    unfold Maker_Next_0
    by_cases hl : 0 < (s.l.length : Int)
    · rw [if_pos (by simpa using hl)]
      have hne : (s.l.length : Int) ≠ 0 := by omega
      have hm : modI s.n s.l.length = some (s.n.tmod s.l.length) := by unfold modI; rw [if_neg hne]
      have hd : divI s.n s.l.length = some (s.n.tdiv s.l.length) := by unfold divI; rw [if_neg hne]
      have hr0 : 0 ≤ s.n.tmod s.l.length := Int.tmod_nonneg _ h0
      have hr1 : s.n.tmod s.l.length < s.l.length := Int.tmod_lt_of_pos _ hl
      obtain ⟨x, hx, _, _⟩ := getI_ok hr0 hr1
      rw [hm, bind_some', hx, bind_some', hd, bind_some', lt_def]
      exact ⟨_, rfl⟩
    · rw [if_neg (by simpa using hl)]
      exact ⟨_, rfl⟩
  obtain ⟨y, hy⟩ := h15
  unfold Maker_Next
  rw [hy, bind_some']
  have hm : modI y k = some (y.tmod k) := by simp [modI]; omega
  have hlt : y.tmod k < k := Int.tmod_lt_of_pos _ (by omega)
  have hgt : -k < y.tmod k := by
    have := Int.lt_tmod_of_pos y (by omega : 0 < k)
    omega
  have hn : IntKind.wrap .i64 (s.n + 1) = s.n + 1 := w64 (by omega) (by omega)
  simp only [hm, bind_some', hn]
  unfold Maker_Next_1
  by_cases hneg : y.tmod k < 0
  · rw [if_pos (by simpa using hneg), lt_def, bind_some', w64 (by omega) (by omega)]
    exact ⟨_, _, rfl, by omega, by omega, by constructor <;> simp <;> omega⟩
  · rw [if_neg (by simpa using hneg), bind_some']
    exact ⟨_, _, rfl, by omega, by omega, by constructor <;> simp <;> omega⟩
theorem pick_ok (N : Nat) {c : Int} {s : Maker} (l : List Int) (hl : 1 ≤ l.length) (hl2 : l.length ≤ 1000) (hs : Mk c s) (hc : c ≤ 1000000000000) : ∃ x s', Maker_Pick N s l = some (x, s') ∧ x ∈ l ∧ Mk (c + 1) s' := by
  obtain ⟨r, s', h1, h2, h3, h4⟩ := next_ok N (s := s) (c := c) (l.length : Int) (by omega) (by omega) hs hc
  obtain ⟨x, hx, hm, _⟩ := getI_ok h2 h3
  unfold Maker_Pick
  rw [h1, bind_some']
  simp only [hx, bind_some']
  exact ⟨x, s', rfl, hm, h4⟩
end Go.W
end
section
set_option linter.unusedVariables false
set_option linter.unusedSimpArgs false
namespace Go.W
open Go.AM
def Dig (u : UInt8) : Prop := 48 ≤ u.toNat ∧ u.toNat ≤ 57
theorem dig_u8 {r : Int} (h0 : 0 ≤ r) (h1 : r < 10) : ∃ u, toU8 (IntKind.wrap .u8 (IntKind.wrap .i64 (48 + r))) = some u ∧ Dig u ∧ (u.toNat : Int) = 48 + r := by
  rw [w64 (by omega) (by omega), w8 (by omega) (by omega)]
  have hc : 0 ≤ 48 + r ∧ 48 + r < 256 := by omega
  refine ⟨UInt8.ofNat (48 + r).toNat, by unfold toU8; rw [if_pos hc], ?_, ?_⟩
  · have : (UInt8.ofNat (48 + r).toNat).toNat = (48 + r).toNat := by simp; omega
    unfold Dig; rw [this]; omega
  · have : (UInt8.ofNat (48 + r).toNat).toNat = (48 + r).toNat := by simp; omega
    rw [this]; omega
theorem digits_loop (N : Nat) : ∀ (d n : Nat) (s : Maker) (l : List UInt8) (i c : Int), d + 1 ≤ n → i = 11 - (d : Int) → 0 ≤ i → l.length = 11 → (∀ (j : Nat) (u : UInt8), (j : Int) < i → l[j]? = some u → Dig u) → Mk c s → c + d ≤ 1000000000000 →
    ∃ s' l', Maker_Digits_0 N 11 n s l i = some (s', l') ∧ Mk (c + d) s' ∧ l'.length = 11 ∧ ∀ u ∈ l', Dig u
  | d, 0, s, l, i, c, hn, _, _, _, _, _, _ => by omega
  | 0, n + 1, s, l, i, c, hn, hi, hi0, hl, hd, hs, hc => by
    rw [Maker_Digits_0, if_neg (by simp; omega)]
    refine ⟨s, l, rfl, by simpa using hs, hl, fun u hu => ?_⟩
    obtain ⟨j, hj⟩ := List.getElem?_of_mem hu
    have hlt := (List.getElem?_eq_some_iff.1 hj).1
    exact hd j u (by omega) hj
  | d + 1, n + 1, s, l, i, c, hn, hi, hi0, hl, hd, hs, hc => by
    rw [Maker_Digits_0, if_pos (by simp; omega)]
    obtain ⟨r, s', h1, h2, h3, h4⟩ := next_ok N 10 (by omega) (by omega) hs (by omega)
    rw [h1, bind_some']
    obtain ⟨x, hx, _, hx2⟩ := getI_ok (xs := l) (i := i) hi0 (by omega)
    rw [hx, bind_some']
    obtain ⟨u, hu, hdu, _⟩ := dig_u8 h2 h3
    simp only [hu, bind_some', lt_def]
    rw [w64 (by omega) (by omega)]
    obtain ⟨s2, l2, g1, g2, g3, g4⟩ := digits_loop N d n s' (l.set i.toNat u) (i + 1) (c + 1) (by omega) (by omega) (by omega) (by simpa using hl) (fun j w hj hw => by
      rw [List.getElem?_set] at hw
      split at hw
      · split at hw
        · cases hw; exact hdu
        · cases hw
      · exact hd j w (by omega) hw) h4 (by omega)
    exact ⟨s2, l2, g1, by rw [show c + ((d + 1 : Nat) : Int) = c + 1 + d by omega]; exact g2, g3, g4⟩
theorem digits_ok (M : Nat) {c : Int} {s : Maker} (hs : Mk c s) (hc : c ≤ 1000000000) : ∃ l s', Maker_Digits (M + 60) s 11 = some (l, s') ∧ Mk (c + 11) s' ∧ l.length = 11 ∧ ∀ u ∈ l, Dig u := by
  unfold Maker_Digits
  have hm : mkI (0 : UInt8) 11 = some (List.replicate 11 0) := by simp [mkI]
  rw [hm, bind_some']
  obtain ⟨s', l', h1, h2, h3, h4⟩ := digits_loop (M + 60) 11 (M + 60) s (List.replicate 11 0) 0 c (by omega) (by omega) (by omega) (by simp) (fun j u hj => by omega) hs (by omega)
  rw [h1, bind_some']
  exact ⟨l', s', rfl, h2, h3, h4⟩
end Go.W
end
section
set_option linter.unusedVariables false
set_option linter.unusedSimpArgs false
namespace Go.W
open Go.AM
theorem m49_loop (N : Nat) {l : List UInt8} (hl : l.length = 11) (hd : ∀ u ∈ l, Dig u) : ∀ (d n : Nat) (i : Int), d + 1 ≤ n → i = 11 - (d : Int) → 0 ≤ i → r02_digits_0 N l 11 n i = some (.inl ())
  | d, 0, i, hn, _, _ => by omega
  | 0, n + 1, i, hn, hi, hi0 => by rw [r02_digits_0, if_neg (by simp; omega)]
  | d + 1, n + 1, i, hn, hi, hi0 => by
    rw [r02_digits_0, if_pos (by simp; omega)]
    obtain ⟨x, hx, hm, _⟩ := getI_ok (xs := l) (i := i) hi0 (by omega)
    have hdx := hd x hm
    unfold Dig at hdx
    have h1 : r02_digits_1 N l i = some false := by
      unfold r02_digits_1
      rw [hx, bind_some', if_neg (by simp; omega), bind_some']
      congr 1; simp; omega
    rw [h1, bind_some', if_neg (by simp), lt_def, w64 (by omega) (by omega)]
    exact m49_loop N hl hd d n (i + 1) (by omega) (by omega) (by omega)
theorem m52_loop (N : Nat) {l : List UInt8} (hl : l.length ≤ 1000) (hd : ∀ u ∈ l, Dig u) : ∀ (d n : Nat) (i : Int), d + 1 ≤ n → i = l.length - (d : Int) → 0 ≤ i → wagonnumber_digits_0 N l n i = some (.inl ())
  | d, 0, i, hn, _, _ => by omega
  | 0, n + 1, i, hn, hi, hi0 => by rw [wagonnumber_digits_0, if_neg (by simp; omega)]
  | d + 1, n + 1, i, hn, hi, hi0 => by
    rw [wagonnumber_digits_0, if_pos (by simp; omega)]
    obtain ⟨x, hx, hm, _⟩ := getI_ok (xs := l) (i := i) hi0 (by omega)
    have hdx := hd x hm
    unfold Dig at hdx
    have h1 : wagonnumber_digits_1 N l i = some false := by
      unfold wagonnumber_digits_1
      rw [hx, bind_some', if_neg (by simp; omega), bind_some']
      congr 1; simp; omega
    rw [h1, bind_some', if_neg (by simp), lt_def, w64 (by omega) (by omega)]
    exact m52_loop N hl hd d n (i + 1) (by omega) (by omega) (by omega)
theorem sum_loop (N : Nat) {l : List UInt8} (hl : l.length = 11) : ∀ (d n : Nat) (s i : Int), d + 1 ≤ n → i = 11 - (d : Int) → 0 ≤ i → ∃ S, r02_sum_0 N l 11 n s i = some S ∧ wagonnumber_sum_0 N l n s i = some S
  | d, 0, s, i, hn, _, _ => by omega
  | 0, n + 1, s, i, hn, hi, hi0 => by
    rw [r02_sum_0, wagonnumber_sum_0, if_neg (by simp; omega), if_neg (by simp; omega)]
    exact ⟨s, rfl, rfl⟩
  | d + 1, n + 1, s, i, hn, hi, hi0 => by
    rw [r02_sum_0, wagonnumber_sum_0, if_pos (by simp; omega), if_pos (by simp; omega)]
    obtain ⟨x, hx, hm, _⟩ := getI_ok (xs := l) (i := i) hi0 (by omega)
    rw [hx, bind_some', bind_some', lt_def, lt_def]
    have hq : ∀ a b, ∃ q, r02_sum_1 N a b = some q ∧ wagonnumber_sum_1 N a b = some q := by
      intro a b
      unfold r02_sum_1 wagonnumber_sum_1
      cases b with
      | false => exact ⟨a, rfl, rfl⟩
      | true =>
        simp only [if_true, lt_def]
        by_cases h9 : decide (9 < IntKind.wrap .i64 (a * 2)) = true
        · rw [if_pos h9]; exact ⟨_, rfl, rfl⟩
        · rw [if_neg h9]; exact ⟨_, rfl, rfl⟩
    obtain ⟨q, hq1, hq2⟩ := hq (IntKind.wrap .i64 (IntKind.wrap .u8 ((UInt8.toNat x : Int) - 48))) ((Int.tmod i 2) == 0)
    rw [hq1, hq2, bind_some', bind_some', lt_def, lt_def, lt_def, lt_def, w64 (n := i + 1) (by omega) (by omega)]
    exact sum_loop N hl d n _ (i + 1) (by omega) (by omega) (by omega)
theorem chkD {S : Int} : 0 ≤ Int.tmod (IntKind.wrap .i64 (10 - (Int.tmod S 10))) 10 ∧ Int.tmod (IntKind.wrap .i64 (10 - (Int.tmod S 10))) 10 < 10 := by
  have h1 : Int.tmod S 10 < 10 := Int.tmod_lt_of_pos _ (by omega)
  have h2 := Int.lt_tmod_of_pos S (by omega : (0 : Int) < 10)
  rw [w64 (by omega) (by omega)]
  exact ⟨Int.tmod_nonneg _ (by omega), Int.tmod_lt_of_pos _ (by omega)⟩
/-- Eleven digits and their check digit. -/
theorem valid_ok (M : Nat) {l : List UInt8} (hl : l.length = 11) (hd : ∀ u ∈ l, Dig u) : ∃ y u, r02_Digit (M + 60) l = some (y, 0) ∧ toU8 (IntKind.wrap .u8 (IntKind.wrap .i64 (48 + y))) = some u ∧ Dig u ∧ appI l [u] = some (l ++ [u]) ∧ wagonnumber_Valid (M + 60) (l ++ [u]) = some 0 := by
  obtain ⟨S, h1, h2⟩ := sum_loop (M + 60) hl 11 (M + 60) 0 0 (by omega) (by omega) (by omega)
  obtain ⟨c0, c1⟩ := chkD (S := S)
  obtain ⟨u, hu, hdu, hval⟩ := dig_u8 c0 c1
  refine ⟨_, u, ?_, hu, hdu, by simp [appI, LIM, hl], ?_⟩
  · unfold r02_Digit r02_digits
    rw [if_neg (by simp [hl]), m49_loop (M + 60) hl hd 11 (M + 60) 0 (by omega) (by omega) (by omega), bind_some']
    simp only [bind_some']
    rw [if_neg (by simp)]
    unfold r02_sum
    rw [h1, bind_some', bind_some', lt_def]
  · have hd12 : ∀ w ∈ l ++ [u], Dig w := by
      intro w hw
      rcases List.mem_append.1 hw with hw | hw
      · exact hd w hw
      · simp only [List.mem_singleton] at hw; subst hw; exact hdu
    have hg : getI (l ++ [u]) 11 = some u := by
      have : (l ++ [u])[11]? = some u := by rw [List.getElem?_append_right (by omega)]; simp [hl]
      simpa [getI] using this
    have hcut : cutI (l ++ [u]) 0 11 = some l := by
      unfold cutI
      rw [if_pos (by simp [hl])]
      simp [← hl]
    unfold wagonnumber_Valid wagonnumber_digits
    rw [m52_loop (M + 60) (by simp [hl]) hd12 12 (M + 60) 0 (by omega) (by simp [hl]) (by omega), bind_some']
    simp only [lt_def, bind_some']
    rw [if_neg (by simp [hl]), hg, bind_some', hcut, bind_some']
    unfold wagonnumber_check wagonnumber_sum
    rw [h2, bind_some', bind_some', lt_def, bind_some', if_neg]
    unfold Dig at hdu
    rw [hval, w8 (by omega) (by omega), w64 (n := 48 + _ - 48) (by omega) (by omega)]
    simp; omega
end Go.W
end
section
set_option linter.unusedVariables false
set_option linter.unusedSimpArgs false
set_option maxRecDepth 100000
namespace Go.W
open Go.AM
/-- The number that the digits 8 to 10 tell. -/
def tagOf (l : List UInt8) : Int := (((l[8]?).map fun u => (u.toNat : Int) - 48).getD 0) * 100 + (((l[9]?).map fun u => (u.toNat : Int) - 48).getD 0) * 10 + ((l[10]?).map fun u => (u.toNat : Int) - 48).getD 0
theorem number_ok (M : Nat) {c : Int} {s : Maker} {x1 : Int} (hs : Mk c s) (hc : c ≤ 1000000000) (h0 : 0 ≤ x1) (h1 : x1 ≤ 1000000) :
    ∃ num s' u, Maker_Number (M + 60) s x1 = some (num, s') ∧ Mk (c + 11) s' ∧ getI num 4 = some u ∧ wagonnumber_Valid (M + 60) num = some 0 ∧ (x1 ≤ 999 → tagOf num = x1) ∧ num.length = 12 := by
  obtain ⟨l, s', g1, g2, g3, g4⟩ := digits_ok M hs hc
  have t1 : ∀ q : Int, 0 ≤ Int.tmod q 10 ∨ q < 0 := fun q => by by_cases hq : 0 ≤ q; exact .inl (Int.tmod_nonneg _ hq); exact .inr (by omega)
  have dg : ∀ q : Int, 0 ≤ q → ∃ u, toU8 (IntKind.wrap .u8 (IntKind.wrap .i64 (48 + Int.tmod q 10))) = some u ∧ Dig u ∧ (u.toNat : Int) = 48 + Int.tmod q 10 := fun q hq => by
    obtain ⟨u, a, b, e⟩ := dig_u8 (Int.tmod_nonneg 10 hq) (Int.tmod_lt_of_pos q (by omega : (0 : Int) < 10))
    exact ⟨u, a, b, e⟩
  have q1 : 0 ≤ IntKind.wrap .i64 (Int.tdiv x1 100) := by rw [Int.tdiv_eq_ediv_of_nonneg h0, w64 (by omega) (by omega)]; omega
  have q2 : 0 ≤ IntKind.wrap .i64 (Int.tdiv x1 10) := by rw [Int.tdiv_eq_ediv_of_nonneg h0, w64 (by omega) (by omega)]; omega
  obtain ⟨u1, a1, b1, v1⟩ := dg _ q1
  obtain ⟨u2, a2, b2, v2⟩ := dg _ q2
  obtain ⟨u3, a3, b3, v3⟩ := dg _ h0
  have hap : appI l [] = some l := by simp [appI, LIM, g3]
  have hset : ∀ (l : List UInt8) (i : Nat) (u : UInt8), (∀ w ∈ l, Dig w) → Dig u → ∀ w ∈ l.set i u, Dig w := fun l i u hl hu w hw => by
    rcases List.mem_or_eq_of_mem_set hw with hw | hw
    · exact hl w hw
    · subst hw; exact hu
  have d1 := hset l 8 u1 g4 b1
  have d2 := hset _ 9 u2 d1 b2
  have d3 := hset _ 10 u3 d2 b3
  obtain ⟨y, u, e1, e2, e3, e4, e5⟩ := valid_ok M (l := ((l.set 8 u1).set 9 u2).set 10 u3) (by simp [g3]) d3
  obtain ⟨x8, hx8, _⟩ := getI_ok (xs := l) (i := 8) (by omega) (by omega)
  obtain ⟨x9, hx9, _⟩ := getI_ok (xs := l.set 8 u1) (i := 9) (by omega) (by simp [g3])
  obtain ⟨x10, hx10, _⟩ := getI_ok (xs := (l.set 8 u1).set 9 u2) (i := 10) (by omega) (by simp [g3])
  obtain ⟨x4, hx4, _⟩ := getI_ok (xs := ((l.set 8 u1).set 9 u2).set 10 u3 ++ [u]) (i := 4) (by omega) (by simp [g3])
  have htag : x1 ≤ 999 → tagOf (((l.set 8 u1).set 9 u2).set 10 u3 ++ [u]) = x1 := by
    intro h999
    have l8 : (((l.set 8 u1).set 9 u2).set 10 u3 ++ [u])[8]? = some u1 := by rw [List.getElem?_append_left (by simp [g3])]; simp [List.getElem?_set, g3]
    have l9 : (((l.set 8 u1).set 9 u2).set 10 u3 ++ [u])[9]? = some u2 := by rw [List.getElem?_append_left (by simp [g3])]; simp [List.getElem?_set, g3]
    have l10 : (((l.set 8 u1).set 9 u2).set 10 u3 ++ [u])[10]? = some u3 := by rw [List.getElem?_append_left (by simp [g3])]; simp [List.getElem?_set, g3]
    rw [Int.tdiv_eq_ediv_of_nonneg h0, w64 (by omega) (by omega), Int.tmod_eq_emod_of_nonneg (by omega)] at v1 v2
    rw [Int.tmod_eq_emod_of_nonneg h0] at v3
    unfold tagOf
    rw [l8, l9, l10]
    simp only [Option.map_some, Option.getD_some]
    omega
  refine ⟨_, s', x4, ?_, g2, hx4, e5, htag, by simp [g3]⟩
  unfold Maker_Number
  rw [g1, bind_some']
  simp only [hap, bind_some', hx8, a1, lt_def]
  rw [show ((8 : Int)).toNat = 8 from rfl, hx9]
  simp only [bind_some', a2, lt_def]
  rw [show ((9 : Int)).toNat = 9 from rfl, hx10]
  simp only [bind_some', a3, lt_def]
  rw [show ((10 : Int)).toNat = 10 from rfl, e1]
  simp only [bind_some', e2, e4]
def kd (t : Int) : Int := if t = 55 ∨ t = 56 then 1 else if t = 50 ∨ t = 52 then 2 else if t = 57 then 3 else 0
theorem kind_ok {N : Nat} {num : List UInt8} {u : UInt8} (h : wagonnumber_Valid N num = some 0) (hu : getI num 4 = some u) : wagonnumber_Kind N num = some (kd u.toNat, 0) := by
  unfold wagonnumber_Kind wagonnumber_Kind_0 wagonnumber_Kind_1 kd
  rw [h, bind_some', if_neg (by simp), hu, bind_some']
  simp only [lt_def]
  by_cases h1 : (u.toNat : Int) = 55
  · simp [h1]
  by_cases h2 : (u.toNat : Int) = 56
  · simp [h1, h2]
  by_cases h3 : (u.toNat : Int) = 50
  · simp [h1, h2, h3]
  by_cases h4 : (u.toNat : Int) = 52
  · simp [h1, h2, h3, h4]
  by_cases h5 : (u.toNat : Int) = 57
  · simp [h1, h2, h3, h4, h5]
  · simp [h1, h2, h3, h4, h5]
/-- A good wagon of a kind. -/
structure GW (N : Nat) (k : Int) (w : Wagon) : Prop where
  num : wagonnumber_Kind N w.number = some (k, 0)
  kind : k = 0 ∨ k = 1 ∨ k = 2 ∨ k = 3
  ax : w.axles = if k = 2 then 2 else if k = 3 then 6 else 4
  len : w.length ∈ ([80, 120, 142, 199, 262, 400] : List Int)
  len3 : k = 3 → 120 ≤ w.length
  mass : 50 ≤ w.mass ∧ w.mass ≤ 2000
  brake : 0 ≤ w.brake ∧ w.brake ≤ w.mass
  goods : 0 ≤ w.goods ∧ w.goods ≤ 9
  dest : consist_name N w.dest = some true
theorem GW.valid {N : Nat} {k : Int} {w : Wagon} (h : GW N k w) : consist_Valid N w = some 0 := by
  have hl : 80 ≤ w.length ∧ w.length ≤ 400 := by
    have := h.len
    simp only [List.mem_cons, List.not_mem_nil, or_false] at this
    omega
  have h3 := h.len3
  obtain ⟨main_main, gosem_cut⟩ := h.mass
  obtain ⟨b0, b1⟩ := h.brake
  obtain ⟨g0, g1⟩ := h.goods
  have hax := h.ax
  have e2 : consist_Valid_2 N w = some false := by
    unfold consist_Valid_2
    rw [if_neg (by simp; omega), if_neg (by simp; omega), if_neg (by simp; omega), lt_def]
    congr 1; simp; omega
  have e1 : ∀ x5, x5 ≤ w.length → consist_Valid_1 N w x5 = some false := fun x5 hx => by
    unfold consist_Valid_1
    rw [if_neg (by simp; omega), if_neg (by simp; omega), if_neg (by simp; omega), lt_def]
    congr 1; simp; omega
  unfold consist_Valid
  rw [h.num, bind_some']
  simp only []
  rw [if_neg (by simp)]
  rcases h.kind with hk | hk | hk | hk <;> subst hk <;> simp at hax h3 <;> simp [consist_Valid_0, consist_axles, lt_def, hax, e2, h.dest, e1 80 hl.1] <;> simp [e1 120 h3, e2, h.dest]
theorem name_ok (M : Nat) {c : Int} {s : Maker} (hs : Mk c s) (hc : c ≤ 1000000000) : ∃ nm s', Maker_Name (M + 60) s = some (nm, s') ∧ Mk (c + 1) s' ∧ consist_name (M + 60) nm = some true ∧ nm.length ≤ 12 := by
  obtain ⟨r, s', h1, h2, h3, h4⟩ := next_ok (M + 60) 10 (by omega) (by omega) hs (by omega)
  unfold Maker_Name
  rw [h1, bind_some']
  obtain ⟨x, hx, hm, _⟩ := getI_ok (xs := ([[97], [98], [99], [100], [101], [110, 111, 114, 116, 104], [115, 111, 117, 116, 104], [112, 111, 114, 116, 49], [120, 57], [97, 98, 99, 100, 101, 102, 103, 104, 105, 106, 107, 108]] : List (List UInt8))) h2 (by simpa using h3)
  simp only [hx, bind_some']
  refine ⟨x, s', rfl, h4, ?_⟩
  simp only [List.mem_cons, List.not_mem_nil, or_false] at hm
  rcases hm with rfl | rfl | rfl | rfl | rfl | rfl | rfl | rfl | rfl | rfl <;> exact ⟨rfl, by decide⟩
theorem wagon_ok (M : Nat) {c : Int} {s : Maker} {x1 : Int} (hs : Mk c s) (hc : c ≤ 900000000) (h0 : 0 ≤ x1) (h1 : x1 ≤ 1000000) :
    ∃ w s' k, Maker_Wagon (M + 60) s x1 = some (w, s') ∧ Mk (c + 17) s' ∧ GW (M + 60) k w ∧ (x1 ≤ 999 → tagOf w.number = x1) ∧ w.number.length = 12 ∧ w.dest.length ≤ 12 := by
  obtain ⟨num, s1, u, a1, a2, a3, a4, a5, a6⟩ := number_ok M hs (by omega) h0 h1
  obtain ⟨len, s2, b1, b2, b3⟩ := pick_ok (M + 60) [80, 120, 142, 199, 262, 400] (by simp) (by simp) a2 (by omega)
  obtain ⟨mass, s3, c1, c2, c3⟩ := pick_ok (M + 60) [50, 120, 400, 800, 2000] (by simp) (by simp) b3 (by omega)
  obtain ⟨goods, s4, d1, d2, d3⟩ := pick_ok (M + 60) [0, 0, 0, 1, 3, 9] (by simp) (by simp) c3 (by omega)
  obtain ⟨r, s5, e1, e2, e3, e4⟩ := next_ok (M + 60) 5 (by omega) (by omega) d3 (by omega)
  obtain ⟨nm, s6, f1, f2, f3, f4⟩ := name_ok M e4 (by omega)
  obtain ⟨q, s7, g1, g2, g3, g4⟩ := next_ok (M + 60) 5 (by omega) (by omega) f2 (by omega)
  have hk := kind_ok a4 a3
  have hm : 50 ≤ mass ∧ mass ≤ 2000 := by simp only [List.mem_cons, List.not_mem_nil, or_false] at c2; omega
  have hg : 0 ≤ goods ∧ goods ≤ 9 := by simp only [List.mem_cons, List.not_mem_nil, or_false] at d2; omega
  have hb : 0 ≤ IntKind.wrap .i64 (Int.tdiv (IntKind.wrap .i64 (mass * q)) 4) ∧ IntKind.wrap .i64 (Int.tdiv (IntKind.wrap .i64 (mass * q)) 4) ≤ mass := by
    have hq : q = 0 ∨ q = 1 ∨ q = 2 ∨ q = 3 ∨ q = 4 := by omega
    have hle : 0 ≤ mass * q ∧ mass * q ≤ mass * 4 := by rcases hq with rfl | rfl | rfl | rfl | rfl <;> omega
    rw [w64 (n := mass * q) (by omega) (by omega), Int.tdiv_eq_ediv_of_nonneg hle.1, w64 (by omega) (by omega)]
    omega
  have hmk : Mk (c + 17) s7 := by rw [show c + 17 = c + 11 + 1 + 1 + 1 + 1 + 1 + 1 by omega]; exact g4
  unfold Maker_Wagon
  simp only [a1, b1, c1, d1, e1, f1, a3, g1, bind_some']
  have ht : (u.toNat : Int) = 50 ∨ (u.toNat : Int) = 52 ∨ (u.toNat : Int) = 57 ∨ (u.toNat : Int) = 55 ∨ (u.toNat : Int) = 56 ∨ ((u.toNat : Int) ≠ 50 ∧ (u.toNat : Int) ≠ 52 ∧ (u.toNat : Int) ≠ 57 ∧ (u.toNat : Int) ≠ 55 ∧ (u.toNat : Int) ≠ 56) := by omega
  unfold Maker_Wagon_0 Maker_Wagon_1
  rcases ht with ht | ht | ht | ht | ht | ⟨n1, n2, n3, n4, n5⟩
  · rw [ht] at hk ⊢
    exact ⟨_, _, 2, rfl, hmk, ⟨hk, by simp, by simp, b2, by simp, hm, hb, hg, f3⟩, a5, a6, f4⟩
  · rw [ht] at hk ⊢
    exact ⟨_, _, 2, rfl, hmk, ⟨hk, by simp, by simp, b2, by simp, hm, hb, hg, f3⟩, a5, a6, f4⟩
  · rw [ht] at hk ⊢
    refine ⟨_, _, 3, rfl, hmk, ⟨hk, by simp, by simp, ?_, ?_, hm, hb, hg, f3⟩, a5, a6, f4⟩
    · simp only [List.mem_cons, List.not_mem_nil, or_false] at b2 ⊢
      rcases b2 with rfl | rfl | rfl | rfl | rfl | rfl <;> omega
    · intro _
      exact Int.le_max_right _ _
  · rw [ht] at hk ⊢
    exact ⟨_, _, 1, rfl, hmk, ⟨hk, by simp, by simp, b2, by simp, hm, hb, hg, f3⟩, a5, a6, f4⟩
  · rw [ht] at hk ⊢
    exact ⟨_, _, 1, rfl, hmk, ⟨hk, by simp, by simp, b2, by simp, hm, hb, hg, f3⟩, a5, a6, f4⟩
  · have hk0 : kd u.toNat = 0 := by unfold kd; rw [if_neg (by omega), if_neg (by omega), if_neg (by omega)]
    rw [hk0] at hk
    have hb50 : ((u.toNat : Int) == 50) = false := by simpa using n1
    have hb52 : ((u.toNat : Int) == 52) = false := by simpa using n2
    have hb57 : ((u.toNat : Int) == 57) = false := by simpa using n3
    simp only [lt_def, hb50, hb52, hb57, Bool.false_eq_true, if_false, bind_some']
    exact ⟨_, _, 0, rfl, hmk, ⟨hk, by simp, by simp, b2, by simp, hm, hb, hg, f3⟩, a5, a6, f4⟩
end Go.W
end
section
set_option linter.unusedVariables false
set_option linter.unusedSimpArgs false
namespace Go.W
open Go.AM
/-! ### Small things -/
theorem getI_nat {α : Type} {xs : List α} {i : Nat} {x : α} (h : xs[i]? = some x) : getI xs (i : Int) = some x := by simp [getI, h]
theorem at_lt {α : Type} {xs : List α} {i : Nat} (h : i < xs.length) : xs[i]? = some xs[i] := by simp [h]
theorem drop_at {α : Type} {xs : List α} {i : Nat} {x : α} (h : xs[i]? = some x) : xs.drop i = x :: xs.drop (i + 1) := by
  obtain ⟨hlt, rfl⟩ := List.getElem?_eq_some_iff.1 h
  exact List.drop_eq_getElem_cons hlt
theorem w64s {i : Nat} (h : i < 9223372036854775807) : IntKind.wrap .i64 ((i : Int) + 1) = ((i + 1 : Nat) : Int) := by rw [w64 (by omega) (by omega)]; omega
theorem w64p {i : Nat} (h : i < 9223372036854775807) : IntKind.wrap .i64 (((i + 1 : Nat) : Int) - 1) = (i : Int) := by rw [w64 (by omega) (by omega)]; omega
theorem bne00 : ((0 : Int) != 0) = false := rfl
theorem dpos {a b : Int} (h : a < b) : decide (a < b) = true := decide_eq_true h
theorem dneg {a b : Int} (h : ¬ a < b) : ¬ decide (a < b) = true := by simpa using h
theorem lpos {a b : Int} (h : a ≤ b) : decide (a ≤ b) = true := decide_eq_true h
theorem lneg {a b : Int} (h : ¬ a ≤ b) : ¬ decide (a ≤ b) = true := by simpa using h
theorem appI_ok {α : Type} {xs ys : List α} (h : xs.length + ys.length ≤ 4294967296) : appI xs ys = some (xs ++ ys) := if_pos h
theorem cutI_drop {α : Type} {xs : List α} {i : Nat} (h : i ≤ xs.length) : cutI xs (i : Int) (xs.length : Int) = some (xs.drop i) := by
  unfold cutI; rw [if_pos (by omega)]; simp
theorem cutI_take {α : Type} {xs : List α} {i : Nat} (h : i ≤ xs.length) : cutI xs 0 (i : Int) = some (xs.take i) := by
  unfold cutI; rw [if_pos (by omega)]; simp
theorem Mk.le {c c' : Int} {s : Maker} (h : Mk c s) (hc : c ≤ c') : Mk c' s := ⟨h.1, Int.le_trans h.2 hc⟩
theorem mk0 (t : List Int) : Mk 0 (Maker.mk t 0) := ⟨by simp, by simp⟩
/-! ### Digits -/
def isDig (u : UInt8) : Bool := decide (48 ≤ u.toNat) && decide (u.toNat ≤ 57)
theorem dig1 (N : Nat) {l : List UInt8} {i : Nat} {u : UInt8} (h : l[i]? = some u) : wagonnumber_digits_1 N l i = some (!isDig u) ∧ r02_digits_1 N l i = some (!isDig u) := by
  unfold wagonnumber_digits_1 r02_digits_1 isDig
  rw [getI_nat h]
  simp only [bind_some']
  by_cases h1 : u.toNat < 48
  · rw [if_pos (by simp; omega)]; simp [show ¬ 48 ≤ u.toNat by omega]
  · rw [if_neg (by simp; omega)]
    by_cases h2 : u.toNat ≤ 57
    · simp [show 48 ≤ u.toNat by omega, h2, show ¬ (57 : Int) < u.toNat by omega]
    · simp [show 48 ≤ u.toNat by omega, h2, show (57 : Int) < u.toNat by omega]
theorem pdig_loop (N : Nat) {l : List UInt8} (hl : l.length ≤ 9223372036854775807) : ∀ (k n i : Nat), k < n → i + k = l.length →
    wagonnumber_digits_0 N l n i = some (if (l.drop i).all isDig = true then .inl () else .inr false)
  | k, 0, i, hn, _ => by omega
  | 0, n + 1, i, hn, hi => by rw [wagonnumber_digits_0, if_neg (dneg (by omega)), List.drop_eq_nil_of_le (by omega)]; rfl
  | k + 1, n + 1, i, hn, hi => by
    have hlt : i < l.length := by omega
    rw [wagonnumber_digits_0, if_pos (dpos (by omega)), (dig1 N (at_lt hlt)).1, bind_some', drop_at (at_lt hlt), lt_def, w64s (by omega), pdig_loop N hl k n (i + 1) (by omega) (by omega), List.all_cons]
    by_cases h : isDig l[i] = true
    · simp only [h, Bool.not_true, Bool.false_eq_true, if_false, Bool.true_and]
    · simp only [Bool.not_eq_true] at h
      simp only [h, Bool.not_false, if_true, Bool.false_and, Bool.false_eq_true, if_false]
theorem rdig_loop (N : Nat) {l : List UInt8} (hl : l.length ≤ 9223372036854775807) : ∀ (k n i : Nat), k < n → i + k = l.length →
    r02_digits_0 N l l.length n i = some (if (l.drop i).all isDig = true then .inl () else .inr false)
  | k, 0, i, hn, _ => by omega
  | 0, n + 1, i, hn, hi => by rw [r02_digits_0, if_neg (dneg (by omega)), List.drop_eq_nil_of_le (by omega)]; rfl
  | k + 1, n + 1, i, hn, hi => by
    have hlt : i < l.length := by omega
    rw [r02_digits_0, if_pos (dpos (by omega)), (dig1 N (at_lt hlt)).2, bind_some', drop_at (at_lt hlt), lt_def, w64s (by omega), rdig_loop N hl k n (i + 1) (by omega) (by omega), List.all_cons]
    by_cases h : isDig l[i] = true
    · simp only [h, Bool.not_true, Bool.false_eq_true, if_false, Bool.true_and]
    · simp only [Bool.not_eq_true] at h
      simp only [h, Bool.not_false, if_true, Bool.false_and, Bool.false_eq_true, if_false]
/-- Do these bytes be 'n' digits? -/
def digs (l : List UInt8) (n : Nat) : Bool := decide (l.length = n) && l.all isDig
theorem pdigits (N : Nat) {l : List UInt8} (hN : l.length < N) (hl : l.length ≤ 9223372036854775807) (n : Nat) : wagonnumber_digits N l n = some (digs l n) := by
  unfold wagonnumber_digits digs
  have := pdig_loop N hl l.length N 0 hN (by omega)
  simp only [Int.natCast_zero, List.drop_zero] at this
  rw [this, bind_some']
  by_cases h : l.all isDig = true
  · rw [if_pos h]
    simp only [lt_def, h, Bool.and_true]
    congr 1
    rw [Bool.eq_iff_iff]; simp; omega
  · rw [if_neg h]
    simp only [Bool.not_eq_true] at h
    simp only [h, Bool.and_false]
theorem rdigits (N : Nat) {l : List UInt8} (hN : l.length < N) (hl : l.length ≤ 9223372036854775807) (n : Nat) : r02_digits N l n = some (digs l n) := by
  unfold r02_digits digs
  by_cases hn : l.length = n
  · subst hn
    rw [if_neg (by simp)]
    have := rdig_loop N hl l.length N 0 hN (by omega)
    simp only [Int.natCast_zero, List.drop_zero] at this
    rw [this, bind_some']
    by_cases h : l.all isDig = true
    · rw [if_pos h]; simp [h]
    · rw [if_neg h]
      simp only [Bool.not_eq_true] at h
      simp [h]
  · rw [if_pos (by simp; omega)]
    simp [hn]
/-! ### Sums -/
/-- What a digit counts: every other one is doubled, and its digits are added. -/
def dv (u : UInt8) (b : Bool) : Int := if b then (if 9 < 2 * ((u.toNat : Int) - 48) then 2 * ((u.toNat : Int) - 48) - 9 else 2 * ((u.toNat : Int) - 48)) else (u.toNat : Int) - 48
def sumD : List UInt8 → Bool → Int
  | [], _ => 0
  | u :: l, b => dv u b + sumD l (!b)
theorem isDig_iff {u : UInt8} : isDig u = true ↔ 48 ≤ u.toNat ∧ u.toNat ≤ 57 := by simp [isDig]
theorem dv_bound {u : UInt8} (h : isDig u = true) (b : Bool) : 0 ≤ dv u b ∧ dv u b ≤ 9 := by
  rw [isDig_iff] at h
  unfold dv
  cases b with
  | false => simp only [Bool.false_eq_true, if_false]; omega
  | true => simp only [if_true]; split <;> omega
theorem sumD_bound : ∀ {l : List UInt8} (b : Bool), l.all isDig = true → 0 ≤ sumD l b ∧ sumD l b ≤ 9 * l.length
  | [], b, _ => by simp [sumD]
  | u :: l, b, h => by
    simp only [List.all_cons, Bool.and_eq_true] at h
    have h1 := dv_bound h.1 b
    have h2 := sumD_bound (l := l) (!b) h.2
    simp only [sumD, List.length_cons]
    omega
theorem sum1 (N : Nat) {d : Int} (b : Bool) (h : 0 ≤ d ∧ d ≤ 9) : wagonnumber_sum_1 N d b = some (if b then (if 9 < 2 * d then 2 * d - 9 else 2 * d) else d) ∧ r02_sum_1 N d b = some (if b then (if 9 < 2 * d then 2 * d - 9 else 2 * d) else d) := by
  unfold wagonnumber_sum_1 r02_sum_1
  cases b with
  | false => exact ⟨rfl, rfl⟩
  | true =>
    simp only [if_true, lt_def]
    rw [w64 (n := d * 2) (by omega) (by omega), Int.mul_comm d 2]
    by_cases h9 : 9 < 2 * d
    · rw [if_pos (dpos h9), if_pos h9, w64 (by omega) (by omega)]; exact ⟨rfl, rfl⟩
    · rw [if_neg (dneg h9), if_neg h9]; exact ⟨rfl, rfl⟩
theorem par (i : Nat) : ((Int.tmod (i : Int) 2) == 0) = decide (i % 2 = 0) := by
  rw [Int.tmod_eq_emod_of_nonneg (by omega), Bool.eq_iff_iff]
  simp; omega
theorem par_s (i : Nat) : decide ((i + 1) % 2 = 0) = !decide (i % 2 = 0) := by
  by_cases h : i % 2 = 0
  · simp [h]; omega
  · simp [h]; omega
theorem sum_loop' (N : Nat) {l : List UInt8} (m : Nat) (hm : m ≤ l.length) (hl : m ≤ 100) (hd : (l.take m).all isDig = true) : ∀ (k n i : Nat) (s : Int), k < n → i + k = m → 0 ≤ s → s ≤ 9 * i →
    r02_sum_0 N l m n s i = some (s + sumD ((l.take m).drop i) (decide (i % 2 = 0))) ∧ (m = l.length → wagonnumber_sum_0 N l n s i = some (s + sumD ((l.take m).drop i) (decide (i % 2 = 0))))
  | k, 0, i, s, hn, _, _, _ => by omega
  | 0, n + 1, i, s, hn, hi, _, _ => by
    rw [r02_sum_0, wagonnumber_sum_0, if_neg (dneg (by omega)), List.drop_eq_nil_of_le (by rw [List.length_take]; omega)]
    refine ⟨by simp [sumD], fun h => ?_⟩
    rw [if_neg (dneg (by omega))]; simp [sumD]
  | k + 1, n + 1, i, s, hn, hi, h0, h9 => by
    have hlt : i < l.length := by omega
    have hg : (l.take m)[i]? = some l[i] := by rw [List.getElem?_take, if_pos (by omega)]; exact at_lt hlt
    have hdi : isDig l[i] = true := List.all_eq_true.1 hd _ (List.mem_of_getElem? hg)
    have hb := isDig_iff.1 hdi
    have e1 : IntKind.wrap .i64 (IntKind.wrap .u8 ((UInt8.toNat l[i] : Int) - 48)) = (l[i].toNat : Int) - 48 := by rw [w8 (by omega) (by omega), w64 (by omega) (by omega)]
    obtain ⟨s1, s2⟩ := sum1 N (d := (l[i].toNat : Int) - 48) (decide (i % 2 = 0)) (by omega)
    have hv : (if decide (i % 2 = 0) = true then (if 9 < 2 * ((l[i].toNat : Int) - 48) then 2 * ((l[i].toNat : Int) - 48) - 9 else 2 * ((l[i].toNat : Int) - 48)) else (l[i].toNat : Int) - 48) = dv l[i] (decide (i % 2 = 0)) := rfl
    rw [hv] at s1 s2
    have hdv := dv_bound hdi (decide (i % 2 = 0))
    have e2 : IntKind.wrap .i64 (s + dv l[i] (decide (i % 2 = 0))) = s + dv l[i] (decide (i % 2 = 0)) := w64 (by omega) (by omega)
    obtain ⟨i1, i2⟩ := sum_loop' N m hm hl hd k n (i + 1) (s + dv l[i] (decide (i % 2 = 0))) (by omega) (by omega) (by omega) (by omega)
    have hdrop : (l.take m).drop i = l[i] :: (l.take m).drop (i + 1) := drop_at hg
    constructor
    · rw [r02_sum_0, if_pos (dpos (by omega)), getI_nat (at_lt hlt), bind_some', lt_def, e1, par, s2, bind_some', lt_def, e2, lt_def, w64s (by omega), i1, hdrop, sumD, par_s]
      congr 1; omega
    · intro h
      rw [wagonnumber_sum_0, if_pos (dpos (by omega)), getI_nat (at_lt hlt), bind_some', lt_def, e1, par, s1, bind_some', lt_def, e2, lt_def, w64s (by omega), i2 h, hdrop, sumD, par_s]
      congr 1; omega
/-! ### Valid numbers -/
/-- The error of a number. -/
def numErr (l : List UInt8) : Int :=
  if digs l 12 = true then (if (sumD (l.take 11) true + (((l[11]?).map fun u => (u.toNat : Int) - 48).getD 0)) % 10 = 0 then 0 else 9) else 11
theorem numErr_ok (N : Nat) (h20 : 20 ≤ N) {l : List UInt8} (hN : l.length < N) (hl : l.length ≤ 9223372036854775807) : wagonnumber_Valid N l = some (numErr l) ∧ r02_Valid N l = some (numErr l) := by
  unfold wagonnumber_Valid r02_Valid numErr
  have hp := pdigits N hN hl 12
  have hr := rdigits N hN hl 12
  rw [show ((12 : Nat) : Int) = 12 from rfl] at hp hr
  rw [hp, hr, bind_some', bind_some']
  by_cases hd : digs l 12 = true
  · rw [hd]
    simp only [Bool.not_true, Bool.false_eq_true, if_false, if_true]
    simp only [digs, Bool.and_eq_true, decide_eq_true_eq] at hd
    obtain ⟨h12, hall⟩ := hd
    have h11 : l[11]? = some l[11] := at_lt (by omega)
    have hg : getI l 11 = some l[11] := getI_nat (i := 11) h11
    have hdi : isDig l[11] = true := List.all_eq_true.1 hall _ (List.getElem_mem (by omega))
    have hb := isDig_iff.1 hdi
    have htk : (l.take 11).all isDig = true := by
      rw [List.all_eq_true] at hall ⊢
      exact fun x hx => hall x (List.mem_of_mem_take hx)
    have hlt : (l.take 11).length = 11 := by rw [List.length_take]; omega
    have hcut : cutI l 0 11 = some (l.take 11) := cutI_take (i := 11) (by omega)
    obtain ⟨_, g1⟩ := sum_loop' N (l := l.take 11) 11 (by omega) (by omega) (by rw [List.take_of_length_le (by omega)]; exact htk) 11 N 0 0 (by omega) (by omega) (by omega) (by omega)
    obtain ⟨g2, _⟩ := sum_loop' N (l := l) 11 (by omega) (by omega) htk 11 N 0 0 (by omega) (by omega) (by omega) (by omega)
    have g1 := g1 hlt.symm
    rw [List.take_of_length_le (l := l.take 11) (by omega)] at g1
    simp only [Int.natCast_zero, List.drop_zero, Int.zero_add, Nat.zero_mod, decide_true] at g1 g2
    have hs := sumD_bound (l := l.take 11) true htk
    rw [hlt] at hs
    have e1 : IntKind.wrap .i64 (IntKind.wrap .u8 ((UInt8.toNat l[11] : Int) - 48)) = (l[11].toNat : Int) - 48 := by rw [w8 (by omega) (by omega), w64 (by omega) (by omega)]
    have hS : ∃ S, S = sumD (l.take 11) true := ⟨_, rfl⟩
    obtain ⟨S, hS⟩ := hS
    rw [← hS] at g1 g2 hs ⊢
    have t1 : Int.tmod S 10 = S % 10 := Int.tmod_eq_emod_of_nonneg (by omega)
    have e2 : Int.tmod (IntKind.wrap .i64 (10 - Int.tmod S 10)) 10 = (10 - S % 10) % 10 := by
      rw [t1, w64 (by omega) (by omega), Int.tmod_eq_emod_of_nonneg (by omega)]
    have e3 : Int.tmod (IntKind.wrap .i64 (S + ((l[11].toNat : Int) - 48))) 10 = (S + ((l[11].toNat : Int) - 48)) % 10 := by
      rw [w64 (by omega) (by omega), Int.tmod_eq_emod_of_nonneg (by omega)]
    rw [h11]
    simp only [Option.map_some, Option.getD_some]
    constructor
    · rw [hg, bind_some', hcut, bind_some']
      unfold wagonnumber_check wagonnumber_sum
      rw [g1, bind_some', bind_some', lt_def, bind_some', e1, e2]
      by_cases h : (S + ((l[11].toNat : Int) - 48)) % 10 = 0
      · rw [if_neg (by simp; omega), if_pos h]
      · rw [if_pos (by simp; omega), if_neg h]
    · unfold r02_sum
      rw [show (11 : Int) = ((11 : Nat) : Int) from rfl, g2, bind_some', bind_some', show ((11 : Nat) : Int) = 11 from rfl, hg, bind_some', e1, e3]
      by_cases h : (S + ((l[11].toNat : Int) - 48)) % 10 = 0
      · rw [if_neg (by simp [h]), if_pos h]
      · rw [if_pos (by simp [h]), if_neg h]
  · simp only [Bool.not_eq_true] at hd
    rw [hd]
    simp
/-- The kind that a number's fifth digit tells. -/
def kindOf (l : List UInt8) : Int := match l[4]? with
  | some u => if u.toNat = 55 ∨ u.toNat = 56 then 1 else if u.toNat = 50 ∨ u.toNat = 52 then 2 else if u.toNat = 57 then 3 else 0
  | none => 0
theorem kindOf_range (l : List UInt8) : kindOf l = 0 ∨ kindOf l = 1 ∨ kindOf l = 2 ∨ kindOf l = 3 := by
  unfold kindOf
  split
  · split
    · simp
    · split
      · simp
      · split <;> simp
  · simp
theorem numErr_len {l : List UInt8} (h : numErr l = 0) : l.length = 12 ∧ l.all isDig = true := by
  unfold numErr at h
  split at h
  · rename_i hd
    simpa [digs] using hd
  · cases h
theorem numErr_or (l : List UInt8) : numErr l = 0 ∨ numErr l = 9 ∨ numErr l = 11 := by
  unfold numErr
  split
  · split <;> simp
  · simp
theorem kind_ok' (N : Nat) (h20 : 20 ≤ N) {l : List UInt8} (hN : l.length < N) (hl : l.length ≤ 9223372036854775807) : wagonnumber_Kind N l = some (if numErr l = 0 then (kindOf l, 0) else (0, numErr l)) ∧ r02_Kind N l = some (if numErr l = 0 then (kindOf l, 0) else (0, numErr l)) := by
  obtain ⟨h1, h2⟩ := numErr_ok N h20 hN hl
  unfold wagonnumber_Kind r02_Kind
  rw [h1, h2, bind_some', bind_some']
  by_cases h : numErr l = 0
  · have hlen := (numErr_len h).1
    have h4 : l[4]? = some l[4] := at_lt (by omega)
    have hg : getI l 4 = some l[4] := getI_nat (i := 4) h4
    have e0 : ((0 : Int) != 0) = false := rfl
    rw [h, hg]
    simp only [e0, Bool.false_eq_true, if_false, if_true, bind_some', lt_def]
    unfold wagonnumber_Kind_0 wagonnumber_Kind_1 r02_Kind_0 r02_Kind_1 kindOf
    rw [h4]
    simp only [lt_def]
    generalize l[4].toNat = t
    by_cases a : t = 55
    · subst a; exact ⟨rfl, rfl⟩
    by_cases b : t = 56
    · subst b; exact ⟨rfl, rfl⟩
    by_cases c : t = 50
    · subst c; exact ⟨rfl, rfl⟩
    by_cases d : t = 52
    · subst d; exact ⟨rfl, rfl⟩
    by_cases e : t = 57
    · subst e; exact ⟨rfl, rfl⟩
    have a' : ((t : Int) == 55) = false := by simp; omega
    have b' : ((t : Int) == 56) = false := by simp; omega
    have c' : ((t : Int) == 50) = false := by simp; omega
    have d' : ((t : Int) == 52) = false := by simp; omega
    have e' : ((t : Int) == 57) = false := by simp; omega
    simp [a, b, c, d, e, a', b', c', d', e', bind_some']
  · have e0 : (numErr l != 0) = true := by simpa using h
    simp only [e0, h, if_true, if_false]
    exact ⟨trivial, trivial⟩
end Go.W
end
section
set_option linter.unusedVariables false
set_option linter.unusedSimpArgs false
namespace Go.W
open Go.AM
/-! ### Names -/
def nameCh (u : UInt8) : Bool := (decide (97 ≤ u.toNat) && decide (u.toNat ≤ 122)) || (decide (48 ≤ u.toNat) && decide (u.toNat ≤ 57))
def nameOk (l : List UInt8) : Bool := l.all nameCh && (decide (1 ≤ l.length) && decide (l.length ≤ 12))
theorem pname1 (N : Nat) (u : UInt8) : consist_name_1 N (u.toNat : Int) = some (!nameCh u) := by
  unfold consist_name_1 nameCh
  by_cases a : 97 ≤ u.toNat
  · rw [if_neg (by simp; omega)]
    by_cases b : u.toNat ≤ 122
    · rw [if_neg (by simp; omega)]; simp [a, b]
    · rw [if_pos (by simp; omega), if_neg (by simp; omega)]
      simp [a, b, show ¬ u.toNat ≤ 57 by omega, show (57 : Int) < u.toNat by omega]
  · rw [if_pos (by simp; omega)]
    by_cases c : u.toNat < 48
    · rw [if_pos (by simp; omega)]; simp [a, show ¬ 48 ≤ u.toNat by omega]
    · rw [if_neg (by simp; omega)]
      by_cases d : u.toNat ≤ 57
      · simp [a, show 48 ≤ u.toNat by omega, d, show ¬ (57 : Int) < u.toNat by omega]
      · simp [a, show 48 ≤ u.toNat by omega, d, show (57 : Int) < u.toNat by omega]
theorem rname1 (N : Nat) {l : List UInt8} {i : Nat} {u : UInt8} (h : l[i]? = some u) : r06_Name_1 N l i = some (!nameCh u) := by
  unfold r06_Name_1 nameCh
  rw [getI_nat h]
  simp only [bind_some']
  have c1 : decide ((97 : Int) ≤ u.toNat) = decide (97 ≤ u.toNat) := by rw [decide_eq_decide]; omega
  have c2 : decide ((u.toNat : Int) ≤ 122) = decide (u.toNat ≤ 122) := by rw [decide_eq_decide]; omega
  have c3 : decide ((48 : Int) ≤ u.toNat) = decide (48 ≤ u.toNat) := by rw [decide_eq_decide]; omega
  have c4 : decide ((u.toNat : Int) ≤ 57) = decide (u.toNat ≤ 57) := by rw [decide_eq_decide]; omega
  rw [c1, c2, c3, c4]
  cases decide (97 ≤ u.toNat) <;> cases decide (u.toNat ≤ 122) <;> cases decide (48 ≤ u.toNat) <;> cases decide (u.toNat ≤ 57) <;> rfl
theorem pname_loop (N : Nat) {l : List UInt8} (hl : l.length ≤ 9223372036854775807) : ∀ (k n i : Nat), k < n → i + k = l.length →
    consist_name_0 N l n i = some (if (l.drop i).all nameCh = true then .inl () else .inr false) ∧ r06_Name_0 N l n i = some (if (l.drop i).all nameCh = true then .inl () else .inr false)
  | k, 0, i, hn, _ => by omega
  | 0, n + 1, i, hn, hi => by
    rw [consist_name_0, r06_Name_0, if_neg (dneg (by omega)), if_neg (dneg (by omega)), List.drop_eq_nil_of_le (by omega)]
    exact ⟨rfl, rfl⟩
  | k + 1, n + 1, i, hn, hi => by
    have hlt : i < l.length := by omega
    obtain ⟨h1, h2⟩ := pname_loop N hl k n (i + 1) (by omega) (by omega)
    rw [consist_name_0, r06_Name_0, if_pos (dpos (by omega)), if_pos (dpos (by omega)), getI_nat (at_lt hlt), bind_some', lt_def, pname1, rname1 N (at_lt hlt), bind_some', bind_some', drop_at (at_lt hlt), lt_def, lt_def, w64s (by omega), h1, h2, List.all_cons]
    by_cases h : nameCh l[i] = true
    · simp only [h, Bool.not_true, Bool.false_eq_true, if_false, Bool.true_and, and_self]
    · simp only [Bool.not_eq_true] at h
      simp only [h, Bool.not_false, if_true, Bool.false_and, Bool.false_eq_true, if_false, and_self]
theorem name_ok' (N : Nat) {l : List UInt8} (hN : l.length < N) (hl : l.length ≤ 9223372036854775807) : consist_name N l = some (nameOk l) ∧ r06_Name N l = some (nameOk l) := by
  obtain ⟨h1, h2⟩ := pname_loop N hl l.length N 0 hN (by omega)
  simp only [Int.natCast_zero, List.drop_zero] at h1 h2
  unfold consist_name r06_Name nameOk
  rw [h1, h2, bind_some', bind_some']
  have h3 : consist_name_2 N l = some (decide (1 ≤ l.length) && decide (l.length ≤ 12)) := by
    unfold consist_name_2
    by_cases a : 1 ≤ l.length
    · rw [if_pos (dpos (by omega)), lt_def, decide_eq_true a, Bool.true_and]; congr 1; rw [decide_eq_decide]; omega
    · rw [if_neg (dneg (by omega)), decide_eq_false a, Bool.false_and]
  have h4 : r06_Name_2 N l = some (decide (1 ≤ l.length) && decide (l.length ≤ 12)) := by
    unfold r06_Name_2
    by_cases a : 1 ≤ l.length
    · rw [if_pos (lpos (by omega)), lt_def, decide_eq_true a, Bool.true_and]; congr 1; rw [decide_eq_decide]; omega
    · rw [if_neg (lneg (by omega)), decide_eq_false a, Bool.false_and]
  by_cases h : l.all nameCh = true
  · simp only [h, if_true, h3, h4, bind_some', Bool.true_and, and_self]
  · simp only [Bool.not_eq_true] at h
    simp only [h, Bool.false_eq_true, if_false, Bool.false_and, and_self]
/-! ### Wagons -/
def axOf (k : Int) : Int := if k = 2 then 2 else if k = 3 then 6 else 4
def leastOf (k : Int) : Int := if k = 3 then 120 else 80
/-- Are the numbers of a wagon in range? -/
def inRg (k : Int) (w : Wagon) : Prop := leastOf k ≤ w.length ∧ w.length ≤ 400 ∧ 50 ≤ w.mass ∧ w.mass ≤ 2000 ∧ 0 ≤ w.brake ∧ w.brake ≤ w.mass ∧ 0 ≤ w.goods ∧ w.goods ≤ 9
instance (k : Int) (w : Wagon) : Decidable (inRg k w) := by unfold inRg; infer_instance
/-- The error of a wagon. -/
def wagErr (w : Wagon) : Int :=
  if numErr w.number ≠ 0 then numErr w.number else if w.axles ≠ axOf (kindOf w.number) then 1 else if ¬ inRg (kindOf w.number) w then 2 else if nameOk w.dest = true then 0 else 7
/-- There is enough fuel for a wagon's strings. -/
def Fu (N : Nat) (w : Wagon) : Prop := (w.number.length < N ∧ w.number.length ≤ 9223372036854775807) ∧ w.dest.length < N ∧ w.dest.length ≤ 9223372036854775807
theorem pv1 (N : Nat) (w : Wagon) (m : Int) : consist_Valid_1 N w m = some (!(decide (m ≤ w.length ∧ w.length ≤ 400 ∧ 50 ≤ w.mass ∧ w.mass ≤ 2000))) := by
  unfold consist_Valid_1
  by_cases a : w.length < m
  · rw [if_pos (dpos a), decide_eq_false (by omega)]; rfl
  rw [if_neg (dneg a)]
  by_cases b : 400 < w.length
  · rw [if_pos (dpos b), decide_eq_false (by omega)]; rfl
  rw [if_neg (dneg b)]
  by_cases c : w.mass < 50
  · rw [if_pos (dpos c), decide_eq_false (by omega)]; rfl
  rw [if_neg (dneg c), lt_def]
  by_cases d : 2000 < w.mass
  · rw [decide_eq_true d, decide_eq_false (by omega)]; rfl
  · rw [decide_eq_false d, decide_eq_true (by omega)]; rfl
theorem pv2 (N : Nat) (w : Wagon) : consist_Valid_2 N w = some (!(decide (0 ≤ w.brake ∧ w.brake ≤ w.mass ∧ 0 ≤ w.goods ∧ w.goods ≤ 9))) := by
  unfold consist_Valid_2
  by_cases a : w.brake < 0
  · rw [if_pos (dpos a), decide_eq_false (by omega)]; rfl
  rw [if_neg (dneg a)]
  by_cases b : w.mass < w.brake
  · rw [if_pos (dpos b), decide_eq_false (by omega)]; rfl
  rw [if_neg (dneg b)]
  by_cases c : w.goods < 0
  · rw [if_pos (dpos c), decide_eq_false (by omega)]; rfl
  rw [if_neg (dneg c), lt_def]
  by_cases d : 9 < w.goods
  · rw [decide_eq_true d, decide_eq_false (by omega)]; rfl
  · rw [decide_eq_false d, decide_eq_true (by omega)]; rfl
theorem rv1 (N : Nat) (w : Wagon) (m : Int) : r06_Valid_1 N w m = some (!(decide (m ≤ w.length ∧ w.length ≤ 400 ∧ 50 ≤ w.mass ∧ w.mass ≤ 2000 ∧ 0 ≤ w.brake ∧ w.brake ≤ w.mass ∧ 0 ≤ w.goods ∧ w.goods ≤ 9))) := by
  unfold r06_Valid_1
  by_cases a : w.length < m
  · rw [if_pos (dpos a), decide_eq_false (by omega)]; rfl
  rw [if_neg (dneg a)]
  by_cases b : 400 < w.length
  · rw [if_pos (dpos b), decide_eq_false (by omega)]; rfl
  rw [if_neg (dneg b)]
  by_cases c : w.mass < 50
  · rw [if_pos (dpos c), decide_eq_false (by omega)]; rfl
  rw [if_neg (dneg c)]
  by_cases d : 2000 < w.mass
  · rw [if_pos (dpos d), decide_eq_false (by omega)]; rfl
  rw [if_neg (dneg d)]
  by_cases a' : w.brake < 0
  · rw [if_pos (dpos a'), decide_eq_false (by omega)]; rfl
  rw [if_neg (dneg a')]
  by_cases b' : w.mass < w.brake
  · rw [if_pos (dpos b'), decide_eq_false (by omega)]; rfl
  rw [if_neg (dneg b')]
  by_cases c' : w.goods < 0
  · rw [if_pos (dpos c'), decide_eq_false (by omega)]; rfl
  rw [if_neg (dneg c'), lt_def]
  by_cases d' : 9 < w.goods
  · rw [decide_eq_true d', decide_eq_false (by omega)]; rfl
  · rw [decide_eq_false d', decide_eq_true (by omega)]; rfl
theorem wag_ok (N : Nat) (h20 : 20 ≤ N) {w : Wagon} (hw : Fu N w) : consist_Valid N w = some (wagErr w) ∧ r06_Valid N w = some (wagErr w) := by
  obtain ⟨⟨a1, a2⟩, b1, b2⟩ := hw
  obtain ⟨k1, k2⟩ := kind_ok' N h20 a1 a2
  obtain ⟨n1, n2⟩ := name_ok' N b1 b2
  unfold consist_Valid r06_Valid wagErr
  rw [k1, k2, bind_some', bind_some']
  by_cases h : numErr w.number = 0
  · have e0 : ((0 : Int) != 0) = false := rfl
    simp only [h, if_true, e0, Bool.false_eq_true, if_false, ne_eq, not_true_eq_false]
    have hl : consist_Valid_0 N 80 (kindOf w.number == 3) = some (leastOf (kindOf w.number)) := by
      unfold consist_Valid_0 leastOf
      by_cases h3 : kindOf w.number = 3 <;> simp [h3]
    have ha : consist_axles N (kindOf w.number) = some (axOf (kindOf w.number)) := by
      unfold consist_axles axOf
      rcases kindOf_range w.number with h3 | h3 | h3 | h3 <;> rw [h3] <;> rfl
    have hr : r06_Valid_0 N 4 80 (kindOf w.number) = some (axOf (kindOf w.number), leastOf (kindOf w.number)) := by
      unfold r06_Valid_0 axOf leastOf
      rcases kindOf_range w.number with h3 | h3 | h3 | h3 <;> rw [h3] <;> rfl
    rw [hl, ha, hr]
    simp only [bind_some', lt_def, pv1, pv2, rv1, n1, n2]
    by_cases hx : w.axles = axOf (kindOf w.number)
    · have e1 : (w.axles != axOf (kindOf w.number)) = false := by simpa using hx
      simp only [e1, eq_true hx, Bool.false_eq_true, if_false, not_true_eq_false]
      by_cases hi : inRg (kindOf w.number) w
      · have hi' := hi
        unfold inRg at hi'
        rw [decide_eq_true (show leastOf (kindOf w.number) ≤ w.length ∧ w.length ≤ 400 ∧ 50 ≤ w.mass ∧ w.mass ≤ 2000 by omega), decide_eq_true (show 0 ≤ w.brake ∧ w.brake ≤ w.mass ∧ 0 ≤ w.goods ∧ w.goods ≤ 9 by omega), decide_eq_true hi']
        simp only [hi, not_true_eq_false, if_false, Bool.not_true, Bool.false_eq_true]
        cases nameOk w.dest <;> exact ⟨rfl, rfl⟩
      · have hi' := hi
        unfold inRg at hi'
        rw [decide_eq_false hi']
        simp only [hi, not_false_eq_true, if_true, Bool.not_false, if_true, and_true]
        by_cases hj : leastOf (kindOf w.number) ≤ w.length ∧ w.length ≤ 400 ∧ 50 ≤ w.mass ∧ w.mass ≤ 2000
        · rw [decide_eq_true hj, decide_eq_false (by omega)]; rfl
        · rw [decide_eq_false hj]; rfl
    · have e1 : (w.axles != axOf (kindOf w.number)) = true := by simpa using hx
      simp only [e1, hx, if_true, not_false_eq_true, and_self]
  · have e0 : (numErr w.number != 0) = true := by simpa using h
    simp only [h, if_false, e0, if_true, ne_eq, not_false_eq_true, and_self]
theorem wagErr_or (w : Wagon) : wagErr w = 0 ∨ wagErr w ≠ 0 := by omega
theorem wagErr_zero {w : Wagon} (h : wagErr w = 0) : numErr w.number = 0 ∧ w.axles = axOf (kindOf w.number) ∧ inRg (kindOf w.number) w ∧ nameOk w.dest = true := by
  unfold wagErr at h
  split at h
  · rename_i h1; exact absurd h h1
  · rename_i h1
    split at h
    · cases h
    · rename_i h2
      split at h
      · cases h
      · rename_i h3
        split at h
        · rename_i h4
          exact ⟨by simpa using h1, by simpa using h2, by simpa using h3, h4⟩
        · cases h
theorem wag_ranges {w : Wagon} (h : wagErr w = 0) : (80 ≤ w.length ∧ w.length ≤ 400) ∧ (50 ≤ w.mass ∧ w.mass ≤ 2000) ∧ (2 ≤ w.axles ∧ w.axles ≤ 6) ∧ 0 ≤ w.brake ∧ w.brake ≤ w.mass := by
  obtain ⟨_, h2, h3, _⟩ := wagErr_zero h
  have hl : 80 ≤ leastOf (kindOf w.number) := by unfold leastOf; split <;> omega
  have ha : 2 ≤ axOf (kindOf w.number) ∧ axOf (kindOf w.number) ≤ 6 := by
    unfold axOf
    split
    · omega
    · split <;> omega
  unfold inRg at h3
  omega
end Go.W
end
section
set_option linter.unusedVariables false
set_option linter.unusedSimpArgs false
namespace Go.W
open Go.AM
theorem Fu.of {N : Nat} {w : Wagon} (h1 : w.number.length < N) (h2 : w.dest.length < N) (hN : N ≤ 4294967296) : Fu N w := ⟨⟨h1, by omega⟩, h2, by omega⟩
theorem nameOk_len {l : List UInt8} (h : nameOk l = true) : l.length ≤ 12 := by
  simp only [nameOk, Bool.and_eq_true, decide_eq_true_eq] at h
  omega
theorem wagErr_len {w : Wagon} (h : wagErr w = 0) : w.number.length = 12 ∧ w.dest.length ≤ 12 := by
  obtain ⟨h1, _, _, h4⟩ := wagErr_zero h
  exact ⟨(numErr_len h1).1, nameOk_len h4⟩
theorem wagErr_fu {N : Nat} {w : Wagon} (h : wagErr w = 0) (hN : 20 ≤ N) : Fu N w := by
  obtain ⟨h1, h2⟩ := wagErr_len h
  exact ⟨⟨by omega, by omega⟩, by omega, by omega⟩
/-- A made wagon. -/
theorem made_ok (N : Nat) (hN : 60 ≤ N) {c : Int} {s : Maker} {i : Int} (hs : Mk c s) (hc : c ≤ 900000000) (h0 : 0 ≤ i) (h1 : i ≤ 999) :
    ∃ w s', Maker_Wagon N s i = some (w, s') ∧ Mk (c + 17) s' ∧ wagErr w = 0 ∧ tagOf w.number = i := by
  obtain ⟨M, rfl⟩ : ∃ M, N = M + 60 := ⟨N - 60, by omega⟩
  obtain ⟨w, s', k, a1, a2, a3, a4, a5, a6⟩ := wagon_ok M hs hc h0 (by omega)
  have hv := (wag_ok (M + 60) (by omega) (w := w) ⟨⟨by omega, by omega⟩, by omega, by omega⟩).1
  rw [a3.valid] at hv
  exact ⟨w, s', a1, a2, by simpa using hv.symm, a4 h1⟩
/-- Made wagons: valid, with numbers of their own. -/
structure MadeL (l : List Wagon) : Prop where
  ok : ∀ w ∈ l, wagErr w = 0
  tag : ∀ (i : Nat) (w : Wagon), l[i]? = some w → tagOf w.number = i
theorem MadeL.nodup {l : List Wagon} (h : MadeL l) : (l.map (·.number)).Nodup := by
  rw [List.nodup_iff_pairwise_ne, List.pairwise_iff_getElem]
  intro i j hi hj hij he
  rw [List.length_map] at hi hj
  simp only [List.getElem_map] at he
  have h1 := h.tag i _ (at_lt hi)
  have h2 := h.tag j _ (at_lt hj)
  rw [he, h2] at h1
  omega
theorem MadeL.nil : MadeL [] := ⟨fun w hw => by simp at hw, fun i w hw => by simp at hw⟩
theorem MadeL.snoc {l : List Wagon} (h : MadeL l) {w : Wagon} (hw : wagErr w = 0) (ht : tagOf w.number = l.length) : MadeL (l ++ [w]) := by
  refine ⟨fun x hx => ?_, fun i x hx => ?_⟩
  · rcases List.mem_append.1 hx with hx | hx
    · exact h.ok x hx
    · simp at hx; subst hx; exact hw
  · by_cases hi : i < l.length
    · rw [List.getElem?_append_left hi] at hx; exact h.tag i x hx
    · rw [List.getElem?_append_right (by omega)] at hx
      have hlt := (List.getElem?_eq_some_iff.1 hx).1
      simp at hlt
      have : i = l.length := by omega
      subst this
      simp at hx; subst hx; exact ht
theorem wagons_loop (N : Nat) (hN : 60 ≤ N) : ∀ (k n : Nat) (s : Maker) (out : List Wagon) (c : Int), k < n → Mk c s → c + 17 * k ≤ 900000000 → out.length + k ≤ 900 → MadeL out →
    ∃ s' out', Maker_Wagons_0 N n s out k = some (s', out') ∧ Mk (c + 17 * k) s' ∧ out'.length = out.length + k ∧ MadeL out'
  | k, 0, s, out, c, hn, _, _, _, _ => by omega
  | 0, n + 1, s, out, c, hn, hs, _, _, hm => by
    rw [Maker_Wagons_0, if_neg (dneg (by omega))]
    exact ⟨s, out, rfl, by simpa using hs, rfl, hm⟩
  | k + 1, n + 1, s, out, c, hn, hs, hc, ho, hm => by
    obtain ⟨w, s1, h1, h2, h3, h4⟩ := made_ok N hN (i := out.length) hs (by omega) (by omega) (by omega)
    rw [Maker_Wagons_0, if_pos (dpos (by omega)), h1, bind_some']
    simp only [appI_ok (xs := out) (ys := [w]) (by simp; omega), bind_some', lt_def, w64p (i := k) (by omega)]
    obtain ⟨s', out', g1, g2, g3, g4⟩ := wagons_loop N hN k n s1 (out ++ [w]) (c + 17) (by omega) h2 (by omega) (by simp; omega) (hm.snoc h3 h4)
    exact ⟨s', out', g1, g2.le (by omega), by simp at g3; omega, g4⟩
theorem wagons_ok (N : Nat) (hN : 1000 ≤ N) {c : Int} {s : Maker} (n : Nat) (hn : n ≤ 500) (hs : Mk c s) (hc : c ≤ 800000000) :
    ∃ l s', Maker_Wagons N s n = some (l, s') ∧ Mk (c + 10000) s' ∧ l.length ≤ n ∧ MadeL l := by
  unfold Maker_Wagons
  rw [w64s (by omega)]
  obtain ⟨r, s1, h1, r0, r1, m1⟩ := next_ok N ((n + 1 : Nat) : Int) (by omega) (by omega) hs (by omega)
  obtain ⟨r, rfl⟩ := Int.eq_ofNat_of_zero_le r0
  obtain ⟨s2, l, h2, m2, hl, hm⟩ := wagons_loop N (by omega) r N s1 [] (c + 1) (by omega) m1 (by omega) (by simp; omega) MadeL.nil
  rw [h1, bind_some']
  simp only []
  rw [h2, bind_some']
  exact ⟨l, s2, rfl, m2.le (by omega), by simp at hl; omega, hm⟩
theorem from_ok (N : Nat) {c : Int} {s : Maker} (a b : Int) (hab : a ≤ b) (ha : -1000000 ≤ a) (hb : b ≤ 1000000) (hd : b - a < 1000000) (hs : Mk c s) (hc : c ≤ 1000000000000) : ∃ r s', a ≤ r ∧ r ≤ b ∧ Mk (c + 1) s' ∧ Maker_Next N s (b - a + 1) = some (r - a, s') := by
  obtain ⟨r, s', h1, h2, h3, h4⟩ := next_ok N (b - a + 1) (by omega) (by omega) hs hc
  exact ⟨r + a, s', by omega, by omega, h4, by rw [h1]; congr 2; omega⟩
end Go.W
end
section
set_option linter.unusedVariables false
set_option linter.unusedSimpArgs false
namespace Go.W
open Go.AM
/-! ### Lists of wagons -/
/-- The first error, 'seen' having come ahead. -/
def chkL : List (List UInt8) → List Wagon → Int
  | _, [] => 0
  | seen, w :: l => if wagErr w ≠ 0 then wagErr w else if w.number ∈ seen then 8 else chkL (seen ++ [w.number]) l
def listErr (l : List Wagon) : Int := if 96 < l.length then 3 else chkL [] l
/-- A map that has just these keys, all true. -/
def SeenM (m : List (List UInt8 × Bool)) (seen : List (List UInt8)) : Prop := ∀ k, (mpGet m k).getD false = decide (k ∈ seen)
theorem mpGet_set {α β : Type} [DecidableEq α] (m : List (α × β)) (a k : α) (b : β) : mpGet (mpSet m a b) k = if a = k then some b else mpGet m k := by
  induction m with
  | nil => simp [mpSet, mpGet]
  | cons p m ih =>
    simp only [mpSet]
    by_cases h : p.1 = a
    · rw [if_pos h]
      simp only [mpGet]
      by_cases h2 : a = k
      · simp [h, h2]
      · simp [h, h2]
    · rw [if_neg h]
      simp only [mpGet, ih]
      by_cases h2 : p.1 = k
      · have : ¬ a = k := fun h3 => h (h2.trans h3.symm)
        simp [h2, this]
      · simp [h2]
theorem seen_nil : SeenM [] [] := fun k => by simp [mpGet]
theorem seen_set {m : List (List UInt8 × Bool)} {seen : List (List UInt8)} (h : SeenM m seen) (a : List UInt8) : SeenM (mpSet m a true) (seen ++ [a]) := by
  intro k
  rw [mpGet_set]
  by_cases hk : a = k
  · simp [hk]
  · rw [if_neg hk, h k, decide_eq_decide]
    simp
    intro e; exact absurd e.symm hk
theorem pchk_loop (N : Nat) (h20 : 20 ≤ N) {l : List Wagon} (hl : l.length ≤ 100) (hF : ∀ w ∈ l, Fu N w) : ∀ (k n i : Nat) (m : List (List UInt8 × Bool)) (seen : List (List UInt8)), k < n → i + k = l.length → SeenM m seen →
    consist_check_0 N l l.length n m i = some (if chkL seen (l.drop i) = 0 then .inl () else .inr (chkL seen (l.drop i)))
  | k, 0, i, m, seen, hn, _, _ => by omega
  | 0, n + 1, i, m, seen, hn, hi, _ => by rw [consist_check_0, if_neg (dneg (by omega)), List.drop_eq_nil_of_le (by omega)]; rfl
  | k + 1, n + 1, i, m, seen, hn, hi, hs => by
    have hlt : i < l.length := by omega
    have hw := (wag_ok N h20 (hF _ (List.getElem_mem hlt))).1
    rw [consist_check_0, if_pos (dpos (by omega)), getI_nat (at_lt hlt), bind_some', hw, bind_some', drop_at (at_lt hlt)]
    simp only [chkL, lt_def]
    by_cases he : wagErr l[i] = 0
    · have e0 : (wagErr l[i] != 0) = false := by simpa using he
      simp only [e0, bne00, Bool.false_eq_true, if_false, he, ne_eq, not_true_eq_false]
      rw [hs l[i].number]
      by_cases hm : l[i].number ∈ seen
      · simp [hm]
      · simp only [hm, decide_false, Bool.false_eq_true, if_false]
        rw [w64s (by omega)]
        exact pchk_loop N h20 hl hF k n (i + 1) _ _ (by omega) (by omega) (seen_set hs _)
    · have e0 : (wagErr l[i] != 0) = true := by simpa using he
      simp only [e0, if_true, he, ne_eq, not_false_eq_true, if_false]
theorem rdup_loop (N : Nat) {l : List Wagon} (hl : l.length ≤ 100) {j : Nat} (hj : j < l.length) : ∀ (k n i : Nat), k < n → i + k = j →
    r06_ValidList_1 N l j n i = some (if l[j].number ∈ ((l.take j).drop i).map (·.number) then .inr 8 else .inl ())
  | k, 0, i, hn, _ => by omega
  | 0, n + 1, i, hn, hi => by rw [r06_ValidList_1, if_neg (dneg (by omega)), List.drop_eq_nil_of_le (by rw [List.length_take]; omega)]; rfl
  | k + 1, n + 1, i, hn, hi => by
    have hlt : i < l.length := by omega
    have hg : (l.take j)[i]? = some l[i] := by rw [List.getElem?_take, if_pos (by omega)]; exact at_lt hlt
    rw [r06_ValidList_1, if_pos (dpos (by omega)), getI_nat (at_lt hlt), bind_some', getI_nat (at_lt hj), bind_some', drop_at hg]
    by_cases he : l[i].number = l[j].number
    · rw [if_pos (by simpa using he), if_pos (by simp [he])]
    · rw [if_neg (by simpa using he), lt_def, w64s (by omega), rdup_loop N hl hj k n (i + 1) (by omega) (by omega)]
      have : ¬ l[j].number = l[i].number := fun h => he h.symm
      simp only [List.map_cons, List.mem_cons, this, false_or]
theorem rchk_loop (N : Nat) (h20 : 200 ≤ N) {l : List Wagon} (hl : l.length ≤ 100) (hF : ∀ w ∈ l, Fu N w) : ∀ (k n i : Nat), k < n → i + k = l.length →
    r06_ValidList_0 N l n i = some (if chkL ((l.take i).map (·.number)) (l.drop i) = 0 then .inl () else .inr (chkL ((l.take i).map (·.number)) (l.drop i)))
  | k, 0, i, hn, _ => by omega
  | 0, n + 1, i, hn, hi => by rw [r06_ValidList_0, if_neg (dneg (by omega)), List.drop_eq_nil_of_le (by omega)]; rfl
  | k + 1, n + 1, i, hn, hi => by
    have hlt : i < l.length := by omega
    have hw := (wag_ok N (by omega) (hF _ (List.getElem_mem hlt))).2
    have hd := rdup_loop N hl hlt i N 0 (by omega) (by omega)
    simp only [Int.natCast_zero, List.drop_zero] at hd
    rw [r06_ValidList_0, if_pos (dpos (by omega)), getI_nat (at_lt hlt), bind_some', hw, bind_some', drop_at (at_lt hlt)]
    simp only [chkL]
    by_cases he : wagErr l[i] = 0
    · have e0 : (wagErr l[i] != 0) = false := by simpa using he
      simp only [e0, bne00, Bool.false_eq_true, if_false, he, ne_eq, not_true_eq_false, hd, bind_some']
      by_cases hm : l[i].number ∈ (l.take i).map (·.number)
      · simp only [hm, if_true]; rfl
      · simp only [hm, if_false, lt_def]
        rw [w64s (by omega), rchk_loop N h20 hl hF k n (i + 1) (by omega) (by omega)]
        have : (l.take (i + 1)).map (·.number) = (l.take i).map (·.number) ++ [l[i].number] := by
          rw [List.take_succ_eq_append_getElem hlt, List.map_append]; rfl
        rw [this]
    · have e0 : (wagErr l[i] != 0) = true := by simpa using he
      simp only [e0, if_true, he, ne_eq, not_false_eq_true, if_false]
theorem list_ok (N : Nat) (h20 : 200 ≤ N) {l : List Wagon} (hF : l.length ≤ 96 → ∀ w ∈ l, Fu N w) : consist_check N l = some (listErr l) ∧ r06_ValidList N l = some (listErr l) := by
  unfold consist_check r06_ValidList listErr
  by_cases h : 96 < l.length
  · rw [if_pos (dpos (by omega)), if_pos (dpos (by omega)), if_pos h]; exact ⟨rfl, rfl⟩
  · have h1 := pchk_loop N (by omega) (l := l) (by omega) (hF (by omega)) l.length N 0 [] [] (by omega) (by omega) seen_nil
    have h2 := rchk_loop N (by omega) (l := l) (by omega) (hF (by omega)) l.length N 0 (by omega) (by omega)
    simp only [Int.natCast_zero, List.drop_zero, List.take_zero, List.map_nil] at h1 h2
    rw [if_neg (dneg (by omega)), if_neg (dneg (by omega)), if_neg h, h1, h2]
    simp only [bind_some']
    by_cases he : chkL [] l = 0
    · rw [he]; exact ⟨rfl, rfl⟩
    · rw [if_neg he]; exact ⟨rfl, rfl⟩
theorem chkL_valid : ∀ {l : List Wagon} {seen : List (List UInt8)}, chkL seen l = 0 → (∀ w ∈ l, wagErr w = 0) ∧ (l.map (·.number)).Nodup ∧ ∀ w ∈ l, w.number ∉ seen
  | [], seen, _ => by simp
  | w :: l, seen, h => by
    simp only [chkL] at h
    split at h
    · rename_i h1; exact absurd h h1
    · rename_i h1
      split at h
      · cases h
      · rename_i h2
        obtain ⟨g1, g2, g3⟩ := chkL_valid h
        refine ⟨fun x hx => ?_, ?_, fun x hx => ?_⟩
        · rcases List.mem_cons.1 hx with rfl | hx
          · simpa using h1
          · exact g1 x hx
        · rw [List.map_cons, List.nodup_cons]
          refine ⟨fun hm => ?_, g2⟩
          obtain ⟨y, hy, he⟩ := List.mem_map.1 hm
          have := g3 y hy
          simp [he] at this
        · rcases List.mem_cons.1 hx with rfl | hx
          · exact h2
          · have := g3 x hx
            simp at this
            exact this.1
theorem chkL_zero : ∀ {l : List Wagon} {seen : List (List UInt8)}, (∀ w ∈ l, wagErr w = 0) → (l.map (·.number)).Nodup → (∀ w ∈ l, w.number ∉ seen) → chkL seen l = 0
  | [], seen, _, _, _ => rfl
  | w :: l, seen, h1, h2, h3 => by
    simp only [chkL]
    rw [if_neg (by simp [h1 w (by simp)]), if_neg (h3 w (by simp))]
    rw [List.map_cons, List.nodup_cons] at h2
    refine chkL_zero (fun x hx => h1 x (by simp [hx])) h2.2 fun x hx => ?_
    simp only [List.mem_append, List.mem_singleton, not_or]
    refine ⟨h3 x (by simp [hx]), fun he => h2.1 ?_⟩
    rw [← he]
    exact List.mem_map.2 ⟨x, hx, rfl⟩
theorem listErr_zero {l : List Wagon} : listErr l = 0 ↔ l.length ≤ 96 ∧ (∀ w ∈ l, wagErr w = 0) ∧ (l.map (·.number)).Nodup := by
  unfold listErr
  by_cases h : 96 < l.length
  · rw [if_pos h]; simp; omega
  · rw [if_neg h]
    constructor
    · intro h1
      obtain ⟨g1, g2, _⟩ := chkL_valid h1
      exact ⟨by omega, g1, g2⟩
    · rintro ⟨_, g1, g2⟩
      exact chkL_zero g1 g2 fun w _ => by simp
/-! ### Sums -/
def sumL (f : Wagon → Int) (l : List Wagon) : Int := l.foldr (fun w s => f w + s) 0
theorem sumL_nil (f : Wagon → Int) : sumL f [] = 0 := rfl
theorem sumL_cons (f : Wagon → Int) (w : Wagon) (l : List Wagon) : sumL f (w :: l) = f w + sumL f l := rfl
theorem sumL_append (f : Wagon → Int) : ∀ (a b : List Wagon), sumL f (a ++ b) = sumL f a + sumL f b
  | [], b => by simp [sumL]
  | w :: a, b => by simp [sumL_cons, sumL_append f a b]; omega
theorem sumL_bound {f : Wagon → Int} {lo hi : Int} : ∀ {l : List Wagon}, (∀ w ∈ l, lo ≤ f w ∧ f w ≤ hi) → lo * l.length ≤ sumL f l ∧ sumL f l ≤ hi * l.length
  | [], _ => by simp [sumL]
  | w :: l, h => by
    have h1 := h w (by simp)
    have h2 := sumL_bound (l := l) fun x hx => h x (by simp [hx])
    rw [sumL_cons]
    simp only [List.length_cons, Int.natCast_add, Int.natCast_one, Int.mul_add, Int.mul_one]
    omega
theorem total_loop (N : Nat) {l : List Wagon} (hl : l.length ≤ 100) (hv : ∀ w ∈ l, wagErr w = 0) : ∀ (k n i : Nat) (a b c : Int), k < n → i + k = l.length → 0 ≤ a → a ≤ 2000 * i → 0 ≤ b → b ≤ 2000 * i → 0 ≤ c → c ≤ 2000 * i →
    consist_Total_0 N l l.length n a b c i = some (a + sumL (·.length) (l.drop i), b + sumL (·.mass) (l.drop i), c + sumL (·.axles) (l.drop i)) ∧
    r06_Total_0 N l n a b c i = some (a + sumL (·.length) (l.drop i), b + sumL (·.mass) (l.drop i), c + sumL (·.axles) (l.drop i))
  | k, 0, i, a, b, c, hn, _, _, _, _, _, _, _ => by omega
  | 0, n + 1, i, a, b, c, hn, hi, _, _, _, _, _, _ => by
    rw [consist_Total_0, r06_Total_0, if_neg (dneg (by omega)), if_neg (dneg (by omega)), List.drop_eq_nil_of_le (by omega)]
    simp [sumL]
  | k + 1, n + 1, i, a, b, c, hn, hi, _, _, _, _, _, _ => by
    have hlt : i < l.length := by omega
    have hr := wag_ranges (hv _ (List.getElem_mem hlt))
    obtain ⟨h1, h2⟩ := total_loop N hl hv k n (i + 1) (a + l[i].length) (b + l[i].mass) (c + l[i].axles) (by omega) (by omega) (by omega) (by omega) (by omega) (by omega) (by omega) (by omega)
    rw [consist_Total_0, r06_Total_0, if_pos (dpos (by omega)), if_pos (dpos (by omega)), getI_nat (at_lt hlt)]
    simp only [bind_some', lt_def]
    rw [w64 (n := a + l[i].length) (by omega) (by omega), w64 (n := b + l[i].mass) (by omega) (by omega), w64 (n := c + l[i].axles) (by omega) (by omega), w64s (by omega), h1, h2, drop_at (at_lt hlt)]
    simp only [sumL_cons, Int.add_assoc, and_self]
/-- The sums of a list, or its error. -/
def totals (l : List Wagon) : Int × Int × Int × Int := if listErr l = 0 then (sumL (·.length) l, sumL (·.mass) l, sumL (·.axles) l, 0) else (0, 0, 0, listErr l)
theorem total_ok (N : Nat) (h20 : 200 ≤ N) {l : List Wagon} (hF : l.length ≤ 96 → ∀ w ∈ l, Fu N w) : consist_Total N l = some (totals l) ∧ r06_Total N l = some (totals l) := by
  obtain ⟨h1, h2⟩ := list_ok N h20 hF
  unfold consist_Total r06_Total totals
  rw [h1, h2, bind_some', bind_some']
  by_cases he : listErr l = 0
  · have hz := listErr_zero.1 he
    have e0 : (listErr l != 0) = false := by simpa using he
    obtain ⟨t1, t2⟩ := total_loop N (l := l) (by omega) hz.2.1 l.length N 0 0 0 0 (by omega) (by omega) (by omega) (by omega) (by omega) (by omega) (by omega) (by omega)
    simp only [Int.natCast_zero, List.drop_zero, Int.zero_add] at t1 t2
    simp only [e0, bne00, Bool.false_eq_true, if_false, he, if_true, t1, t2, bind_some', and_self]
  · have e0 : (listErr l != 0) = true := by simpa using he
    simp only [e0, if_true, he, if_false, and_self]
end Go.W
end
section
namespace Go.W
open Go.AM
theorem MadeL.err {l : List Wagon} (h : MadeL l) (hl : l.length ≤ 96) : listErr l = 0 := listErr_zero.2 ⟨hl, h.ok, h.nodup⟩
end Go.W
end
section
set_option linter.unusedVariables false
set_option linter.unusedSimpArgs false
set_option maxRecDepth 100000
namespace Go.W
open Go.AM
def inB (x lo hi : Int) : Bool := decide (lo ≤ x) && decide (x ≤ hi)
theorem inB_iff {x lo hi : Int} : inB x lo hi = true ↔ lo ≤ x ∧ x ≤ hi := by simp [inB]
theorem in_ok (N : Nat) (x lo hi : Int) : brake_in N x lo hi = some (inB x lo hi) := by
  unfold brake_in brake_in_0 inB
  by_cases h : lo ≤ x <;> simp [h, lt_def, bind_some']
/-! ### Factors -/
def factor (x : Int) : Int := if x ≤ 5000 then 100 else if 7000 < x then 80 else 100 - (x - 5000 + 99) / 100
theorem factor_bound (x : Int) : 80 ≤ factor x ∧ factor x ≤ 100 := by
  unfold factor
  split
  · omega
  · split <;> omega
theorem factor_ok (N : Nat) (x : Int) : brake_Factor N x = some (factor x) ∧ r35_Factor N x = some (factor x) := by
  unfold brake_Factor r35_Factor factor
  by_cases h1 : x ≤ 5000
  · rw [if_pos (lpos h1), if_pos (lpos h1), if_pos h1]; exact ⟨rfl, rfl⟩
  · rw [if_neg (lneg h1), if_neg (lneg h1), if_neg h1]
    have key : ∀ y : Int, 5000 < y → y ≤ 10000 → IntKind.wrap .i64 (100 - IntKind.wrap .i64 (Int.tdiv (IntKind.wrap .i64 (IntKind.wrap .i64 (y - 5000) + 99)) 100)) = 100 - (y - 5000 + 99) / 100 := by
      intro y h2 h3
      rw [w64 (n := y - 5000) (by omega) (by omega), w64 (n := y - 5000 + 99) (by omega) (by omega), Int.tdiv_eq_ediv_of_nonneg (by omega), w64 (n := (y - 5000 + 99) / 100) (by omega) (by omega), w64 (by omega) (by omega)]
    constructor
    · by_cases h2 : 10000 < x
      · rw [if_pos (dpos h2), if_pos (by omega)]
      · rw [if_neg (dneg h2), lt_def, key x (by omega) (by omega)]
        by_cases h3 : 7000 < x
        · rw [if_pos h3]; congr 1; omega
        · rw [if_neg h3]; congr 1; omega
    · by_cases h3 : 7000 < x
      · rw [if_pos (dpos h3), if_pos h3]
      · rw [if_neg (dneg h3), lt_def, key x (by omega) (by omega), if_neg h3]
/-! ### Brakes that are cut off -/
theorem off_loop (N : Nat) {l : List Int} (hl : l.length ≤ 1000) (x : Int) : ∀ (k n i : Nat), k < n → i + k = l.length → r35_Off_0 N l x n i = some (if x ∈ l.drop i then .inr true else .inl ())
  | k, 0, i, hn, _ => by omega
  | 0, n + 1, i, hn, hi => by rw [r35_Off_0, if_neg (dneg (by omega)), List.drop_eq_nil_of_le (by omega)]; rfl
  | k + 1, n + 1, i, hn, hi => by
    have hlt : i < l.length := by omega
    rw [r35_Off_0, if_pos (dpos (by omega)), getI_nat (at_lt hlt), bind_some', drop_at (at_lt hlt), lt_def, w64s (by omega), off_loop N hl x k n (i + 1) (by omega) (by omega)]
    by_cases h : l[i] = x
    · rw [if_pos (by simpa using h), if_pos (by simp [h])]
    · have h' : ¬ x = l[i] := fun e => h e.symm
      rw [if_neg (by simpa using h)]
      simp only [List.mem_cons, h', false_or]
theorem off_ok (N : Nat) {l : List Int} (hl : l.length ≤ 1000) (hN : 1001 ≤ N) (x : Int) : r35_Off N l x = some (decide (x ∈ l)) := by
  have := off_loop N hl x l.length N 0 (by omega) (by omega)
  simp only [Int.natCast_zero, List.drop_zero] at this
  unfold r35_Off
  rw [this]
  by_cases h : x ∈ l <;> simp [h, bind_some']
/-- The error of a list of cut brakes of a train of 'n' wagons. -/
def offErr (n : Nat) (off : List Int) : Int := if off.all (fun o => inB o 0 ((n : Int) - 1)) = true then (if off.Nodup then 0 else 8) else 2
theorem rng_loop (N : Nat) {l : List Wagon} (hl : l.length ≤ 1000) {off : List Int} (ho : off.length ≤ 1000) (b : Brakes) : ∀ (k n i : Nat), k < n → i + k = off.length →
    brake_Total_0 N l off off.length n b i = some (if (off.drop i).all (fun o => inB o 0 ((l.length : Int) - 1)) = true then .inl b else .inr (Brakes.mk 0 0 0 0 0 0 0, 2)) ∧
    r35_Total_0 N l off n b i = some (if (off.drop i).all (fun o => inB o 0 ((l.length : Int) - 1)) = true then .inl b else .inr (Brakes.mk 0 0 0 0 0 0 0, 2))
  | k, 0, i, hn, _ => by omega
  | 0, n + 1, i, hn, hi => by
    rw [brake_Total_0, r35_Total_0, if_neg (dneg (by omega)), if_neg (dneg (by omega)), List.drop_eq_nil_of_le (by omega)]; exact ⟨rfl, rfl⟩
  | k + 1, n + 1, i, hn, hi => by
    have hlt : i < off.length := by omega
    obtain ⟨h1, h2⟩ := rng_loop N hl ho b k n (i + 1) (by omega) (by omega)
    have hw : IntKind.wrap .i64 ((l.length : Int) - 1) = (l.length : Int) - 1 := w64 (by omega) (by omega)
    have hr : r35_Total_1 N l off i = some (!inB off[i] 0 ((l.length : Int) - 1)) := by
      unfold r35_Total_1 inB
      rw [getI_nat (at_lt hlt)]
      simp only [bind_some']
      by_cases a : off[i] < 0
      · rw [if_pos (dpos a), decide_eq_false (show ¬ 0 ≤ off[i] by omega)]; rfl
      · rw [if_neg (dneg a), decide_eq_true (show 0 ≤ off[i] by omega)]
        by_cases b : (l.length : Int) ≤ off[i]
        · rw [decide_eq_true b, decide_eq_false (show ¬ off[i] ≤ (l.length : Int) - 1 by omega)]; rfl
        · rw [decide_eq_false b, decide_eq_true (show off[i] ≤ (l.length : Int) - 1 by omega)]; rfl
    rw [brake_Total_0, r35_Total_0, if_pos (dpos (by omega)), if_pos (dpos (by omega)), getI_nat (at_lt hlt), bind_some', hw, in_ok, hr, bind_some', bind_some', drop_at (at_lt hlt), lt_def, w64s (by omega), h1, h2, List.all_cons]
    by_cases h : inB off[i] 0 ((l.length : Int) - 1) = true
    · simp only [h, Bool.not_true, Bool.false_eq_true, if_false, Bool.true_and, and_self]
    · simp only [Bool.not_eq_true] at h
      simp only [h, Bool.not_false, if_true, Bool.false_and, Bool.false_eq_true, if_false, and_self]
/-- The marks of the brakes that are cut off. -/
def Marks (c : List Bool) (n : Nat) (off : List Int) : Prop := c.length = n ∧ ∀ j : Nat, j < n → c[j]? = some (decide ((j : Int) ∈ off))
theorem dup_loop (N : Nat) {off : List Int} (ho : off.length ≤ 1000) {m : Nat} (hr : ∀ o ∈ off, 0 ≤ o ∧ o ≤ (m : Int) - 1) (b : Brakes) : ∀ (k n i : Nat) (c : List Bool), k < n → i + k = off.length → (off.take i).Nodup → Marks c m (off.take i) →
    ∃ c', brake_Total_1 N off off.length n b c i = some (if off.Nodup then .inl (b, c') else .inr (Brakes.mk 0 0 0 0 0 0 0, 8)) ∧ (off.Nodup → Marks c' m off)
  | k, 0, i, c, hn, _, _, _ => by omega
  | 0, n + 1, i, c, hn, hi, hd, hm => by
    rw [brake_Total_1, if_neg (dneg (by omega))]
    rw [List.take_of_length_le (by omega)] at hd hm
    exact ⟨c, by rw [if_pos hd], fun _ => hm⟩
  | k + 1, n + 1, i, c, hn, hi, hd, hm => by
    have hlt : i < off.length := by omega
    obtain ⟨h0, h1⟩ := hr _ (List.getElem_mem hlt)
    obtain ⟨j, hj⟩ := Int.eq_ofNat_of_zero_le h0
    have hjm : j < m := by omega
    have hg := hm.2 j hjm
    have htk : off.take (i + 1) = off.take i ++ [off[i]] := List.take_succ_eq_append_getElem hlt
    rw [brake_Total_1, if_pos (dpos (by omega)), getI_nat (at_lt hlt), bind_some', hj, getI_nat hg]
    simp only [bind_some']
    by_cases hmem : (j : Int) ∈ off.take i
    · rw [if_pos (by simpa using hmem)]
      have hnd : ¬ off.Nodup := by
        intro h
        have h2 : (off.take (i + 1)).Nodup := List.Nodup.sublist (List.take_sublist _ _) h
        rw [htk, List.nodup_append] at h2
        exact h2.2.2 _ hmem _ (by simp) hj.symm
      exact ⟨c, by rw [if_neg hnd], fun h => absurd h hnd⟩
    · rw [if_neg (by simpa using hmem), lt_def, Int.toNat_natCast, w64s (by omega)]
      refine dup_loop N ho hr b k n (i + 1) (c.set j true) (by omega) (by omega) ?_ ⟨by simp [hm.1], fun q hq => ?_⟩
      · rw [htk, List.nodup_append]
        refine ⟨hd, by simp, fun x hx y hy => ?_⟩
        simp at hy
        subst hy
        rw [hj]
        intro e; subst e; exact hmem hx
      · rw [htk, List.getElem?_set]
        by_cases hq' : j = q
        · subst hq'
          rw [if_pos rfl, if_pos (by rw [hm.1]; exact hq)]
          simp [hj]
        · rw [if_neg hq', hm.2 q hq]
          congr 1
          rw [decide_eq_decide, hj]
          simp only [List.mem_append, List.mem_singleton]
          constructor
          · exact .inl
          · rintro (h | h)
            · exact h
            · omega
theorem rdup2_loop (N : Nat) (hN : 1001 ≤ N) {off : List Int} (ho : off.length ≤ 1000) (b : Brakes) : ∀ (k n i : Nat), k < n → i + k = off.length → (off.take i).Nodup →
    r35_Total_2 N off n b i = some (if off.Nodup then .inl b else .inr (Brakes.mk 0 0 0 0 0 0 0, 8))
  | k, 0, i, hn, _, _ => by omega
  | 0, n + 1, i, hn, hi, hd => by
    rw [r35_Total_2, if_neg (dneg (by omega))]
    rw [List.take_of_length_le (by omega)] at hd
    rw [if_pos hd]
  | k + 1, n + 1, i, hn, hi, hd => by
    have hlt : i < off.length := by omega
    have htk : off.take (i + 1) = off.take i ++ [off[i]] := List.take_succ_eq_append_getElem hlt
    rw [r35_Total_2, if_pos (dpos (by omega)), cutI_take (by omega), bind_some', getI_nat (at_lt hlt), bind_some', off_ok N (by rw [List.length_take]; omega) hN, bind_some']
    by_cases hmem : off[i] ∈ off.take i
    · rw [if_pos (by simpa using hmem), if_neg ?_]
      intro h
      have h2 : (off.take (i + 1)).Nodup := List.Nodup.sublist (List.take_sublist _ _) h
      rw [htk, List.nodup_append] at h2
      exact h2.2.2 _ hmem _ (by simp) rfl
    · rw [if_neg (by simpa using hmem), lt_def, w64s (by omega)]
      refine rdup2_loop N hN ho b k n (i + 1) (by omega) (by omega) ?_
      rw [htk, List.nodup_append]
      refine ⟨hd, by simp, fun x hx y hy => ?_⟩
      simp at hy
      subst hy
      intro e; subst e; exact hmem hx
/-- The braked mass of the wagons from number 'i' on. -/
def brk (off : List Int) : Nat → List Wagon → Int
  | _, [] => 0
  | i, w :: l => (if (i : Int) ∈ off then 0 else w.brake) + brk off (i + 1) l
theorem brk_bound {off : List Int} : ∀ {l : List Wagon} {i : Nat}, (∀ w ∈ l, 0 ≤ w.brake ∧ w.brake ≤ w.mass ∧ w.mass ≤ 2000) → 0 ≤ brk off i l ∧ brk off i l ≤ sumL (·.mass) l ∧ brk off i l ≤ 2000 * l.length
  | [], i, _ => by simp [brk, sumL]
  | w :: l, i, h => by
    have h1 := h w (by simp)
    have h2 := brk_bound (off := off) (l := l) (i := i + 1) fun x hx => h x (by simp [hx])
    simp only [brk, sumL_cons, List.length_cons]
    split <;> omega
theorem brk_loop (N : Nat) (hN : 1001 ≤ N) {l : List Wagon} (hl : l.length ≤ 100) (hv : ∀ w ∈ l, 0 ≤ w.brake ∧ w.brake ≤ w.mass ∧ w.mass ≤ 2000) {off : List Int} (ho : off.length ≤ 1000) {c : List Bool} (hm : Marks c l.length off) (x : Brakes) : ∀ (k n i : Nat) (s : Int), k < n → i + k = l.length → 0 ≤ s → s ≤ 2000 * i →
    brake_Total_2 N c l l.length n { x with braked := s } i = some { x with braked := s + brk off i (l.drop i) } ∧ r35_Total_3 N l off n { x with braked := s } i = some { x with braked := s + brk off i (l.drop i) }
  | k, 0, i, s, hn, _, _, _ => by omega
  | 0, n + 1, i, s, hn, hi, _, _ => by
    rw [brake_Total_2, r35_Total_3, if_neg (dneg (by omega)), if_neg (dneg (by omega)), List.drop_eq_nil_of_le (by omega)]
    simp [brk]
  | k + 1, n + 1, i, s, hn, hi, h0, h1 => by
    have hlt : i < l.length := by omega
    have hb := hv _ (List.getElem_mem hlt)
    have hp : brake_Total_3 N c { x with braked := s } l i = some { x with braked := s + (if (i : Int) ∈ off then 0 else l[i].brake) } := by
      unfold brake_Total_3
      rw [getI_nat (at_lt hlt), bind_some', getI_nat (hm.2 i hlt), bind_some', bind_some']
      by_cases h : (i : Int) ∈ off
      · simp [h]
      · simp only [h, decide_false, Bool.not_false, if_true, if_false]
        rw [w64 (n := s + l[i].brake) (by omega) (by omega)]
    have hr : r35_Total_4 N l off { x with braked := s } i = some { x with braked := s + (if (i : Int) ∈ off then 0 else l[i].brake) } := by
      unfold r35_Total_4
      rw [off_ok N ho hN, bind_some']
      by_cases h : (i : Int) ∈ off
      · simp [h]
      · simp only [h, decide_false, Bool.not_false, if_true, if_false, getI_nat (at_lt hlt), bind_some']
        rw [w64 (n := s + l[i].brake) (by omega) (by omega)]
    obtain ⟨i1, i2⟩ := brk_loop N hN hl hv ho hm x k n (i + 1) (s + (if (i : Int) ∈ off then 0 else l[i].brake)) (by omega) (by omega) (by split <;> omega) (by split <;> omega)
    rw [brake_Total_2, r35_Total_3, if_pos (dpos (by omega)), if_pos (dpos (by omega)), hp, hr, bind_some', bind_some', lt_def, w64s (by omega), i1, i2, drop_at (at_lt hlt)]
    simp only [brk, Int.add_assoc, and_self]
/-- What 'Total' answers. -/
def tot (l : List Wagon) (off : List Int) : Brakes × Int :=
  if listErr l ≠ 0 then (Brakes.mk 0 0 0 0 0 0 0, listErr l) else if offErr l.length off ≠ 0 then (Brakes.mk 0 0 0 0 0 0 0, offErr l.length off)
  else (Brakes.mk (sumL (·.length) l) (sumL (·.axles) l) (sumL (·.mass) l) (brk off 0 l * factor (sumL (·.length) l) / 100)
    (if 0 < sumL (·.mass) l then 100 * (brk off 0 l * factor (sumL (·.length) l) / 100) / sumL (·.mass) l else 0) 0 0, 0)
theorem mass_pos {l : List Wagon} (h : listErr l = 0) : 50 * (l.length : Int) ≤ sumL (·.mass) l ∧ sumL (·.mass) l ≤ 2000 * l.length := by
  obtain ⟨_, hz, _⟩ := listErr_zero.1 h
  exact sumL_bound fun w hw => (wag_ranges (hz w hw)).2.1
theorem tot_ok (N : Nat) (hN : 1001 ≤ N) {l : List Wagon} (hF : l.length ≤ 96 → ∀ w ∈ l, Fu N w) {off : List Int} (ho : off.length ≤ 1000) : brake_Total N l off = some (tot l off) ∧ r35_Total N l off = some (tot l off) := by
  obtain ⟨h1, h2⟩ := total_ok N (by omega) hF
  unfold brake_Total r35_Total tot
  rw [h1, h2]
  simp only [bind_some']
  unfold totals
  by_cases he : listErr l = 0
  · obtain ⟨hl96, hz, _⟩ := listErr_zero.1 he
    have hv : ∀ w ∈ l, 0 ≤ w.brake ∧ w.brake ≤ w.mass ∧ w.mass ≤ 2000 := fun w hw => by have := wag_ranges (hz w hw); omega
    have hmk : mkI false (l.length : Int) = some (List.replicate l.length false) := by
      unfold mkI; rw [if_pos (by omega)]; simp
    obtain ⟨r1, r2⟩ := rng_loop N (l := l) (by omega) ho (Brakes.mk 0 0 0 0 0 0 0) off.length N 0 (by omega) (by omega)
    simp only [Int.natCast_zero, List.drop_zero] at r1 r2
    simp only [he, if_true, bne00, Bool.false_eq_true, if_false, hmk, bind_some', r1, r2, ne_eq, not_true_eq_false]
    unfold offErr
    by_cases hr : off.all (fun o => inB o 0 ((l.length : Int) - 1)) = true
    · have hr' : ∀ o ∈ off, 0 ≤ o ∧ o ≤ (l.length : Int) - 1 := fun o hm => inB_iff.1 (List.all_eq_true.1 hr o hm)
      obtain ⟨c, d1, d2⟩ := dup_loop N ho hr' (Brakes.mk 0 0 0 0 0 0 0) off.length N 0 (List.replicate l.length false) (by omega) (by omega) (by simp) ⟨by simp, fun j hj => by simp [hj]⟩
      have d3 := rdup2_loop N hN ho (Brakes.mk 0 0 0 0 0 0 0) off.length N 0 (by omega) (by omega) (by simp)
      simp only [Int.natCast_zero] at d1 d3
      simp only [hr, if_true, d1, d3, bind_some']
      by_cases hd : off.Nodup
      · obtain ⟨b1, b2⟩ := brk_loop N hN (l := l) (by omega) hv ho (d2 hd) (Brakes.mk (sumL (·.length) l) (sumL (·.axles) l) (sumL (·.mass) l) 0 0 0 0) l.length N 0 0 (by omega) (by omega) (by omega) (by omega)
        simp only [Int.natCast_zero, List.drop_zero, Int.zero_add] at b1 b2
        have hb := brk_bound (off := off) (i := 0) hv
        have hm := mass_pos he
        obtain ⟨f1, f2⟩ := factor_ok N (sumL (·.length) l)
        have hf := factor_bound (sumL (·.length) l)
        simp only [hd, if_true, b1, b2, f1, f2, bind_some', not_true_eq_false, if_false]
        generalize hB : brk off 0 l = B at hb ⊢
        generalize hFf : factor (sumL (·.length) l) = f at hf ⊢
        generalize hM : sumL (·.mass) l = M at hb hm ⊢
        have hBf : 0 ≤ B * f ∧ B * f ≤ 20000000 := by
          refine ⟨Int.mul_nonneg (by omega) (by omega), ?_⟩
          have : B * f ≤ 192000 * 100 := Int.mul_le_mul (by omega) (by omega) (by omega) (by omega)
          omega
        have e1 : IntKind.wrap .i64 (Int.tdiv (IntKind.wrap .i64 (B * f)) 100) = B * f / 100 := by
          rw [w64 (n := B * f) (by omega) (by omega), Int.tdiv_eq_ediv_of_nonneg hBf.1, w64 (by omega) (by omega)]
        rw [e1]
        generalize hC : B * f / 100 = C
        have hCb : 0 ≤ C ∧ C ≤ 200000 := by omega
        unfold brake_Total_4 r35_Total_5
        by_cases hpos : 0 < M
        · have e2 : divI (IntKind.wrap .i64 (100 * C)) M = some (100 * C / M) := by
            unfold divI
            rw [if_neg (by omega), w64 (by omega) (by omega), Int.tdiv_eq_ediv_of_nonneg (by omega)]
          have hq : 0 ≤ 100 * C / M ∧ 100 * C / M ≤ 20000000 := by
            refine ⟨Int.ediv_nonneg (by omega) (by omega), ?_⟩
            have := Int.ediv_le_self M (show 0 ≤ 100 * C by omega)
            omega
          simp only [hpos, decide_true, if_true, e2, bind_some']
          rw [w64 (n := 100 * C / M) (by omega) (by omega)]
          exact ⟨rfl, rfl⟩
        · simp only [hpos, decide_false, Bool.false_eq_true, if_false, bind_some', and_self]
      · simp only [hd, if_false]
        exact ⟨rfl, rfl⟩
    · simp only [hr, if_false]
      exact ⟨rfl, rfl⟩
  · have e0 : (listErr l != 0) = true := by simpa using he
    simp only [he, if_false, e0, if_true, ne_eq, not_false_eq_true, and_self]
theorem tot_bound {l : List Wagon} {off : List Int} (h : (tot l off).2 = 0) : listErr l = 0 ∧ offErr l.length off = 0 ∧ 0 ≤ (tot l off).1.mass ∧ (tot l off).1.mass ≤ 192000 ∧ 0 ≤ (tot l off).1.braked ∧ (tot l off).1.braked ≤ 192000 := by
  unfold tot at h ⊢
  split at h
  · rename_i h1; exact absurd h h1
  · rename_i h1
    split at h
    · rename_i h2; exact absurd h h2
    · rename_i h2
      have he : listErr l = 0 := by simpa using h1
      obtain ⟨hl96, hz, _⟩ := listErr_zero.1 he
      have hv : ∀ w ∈ l, 0 ≤ w.brake ∧ w.brake ≤ w.mass ∧ w.mass ≤ 2000 := fun w hw => by have := wag_ranges (hz w hw); omega
      have hb := brk_bound (off := off) (i := 0) hv
      have hm := mass_pos he
      have hf := factor_bound (sumL (·.length) l)
      refine ⟨he, by simpa using h2, ?_⟩
      rw [if_neg h1, if_neg h2]
      simp only []
      generalize brk off 0 l = B at hb ⊢
      generalize factor (sumL (·.length) l) = f at hf ⊢
      have hBf : 0 ≤ B * f ∧ B * f ≤ 192000 * 100 := by
        refine ⟨Int.mul_nonneg (by omega) (by omega), Int.mul_le_mul (by omega) (by omega) (by omega) (by omega)⟩
      omega
end Go.W
end
section
set_option linter.unusedVariables false
set_option linter.unusedSimpArgs false
set_option maxRecDepth 100000
namespace Go.W
open Go.AM
def rowOk (r : BrakeRow) : Bool := inB r.speed 1 200 && (inB r.grade 0 500 && inB r.percent 0 250)
def tblOk (t : List BrakeRow) : Bool := t.all rowOk && decide (t.length ≤ 64)
theorem prow (N : Nat) (r : BrakeRow) : brake_ValidTable_1 N r = some (!rowOk r) := by
  unfold brake_ValidTable_1 rowOk
  simp only [in_ok, bind_some']
  cases inB r.speed 1 200 <;> cases inB r.grade 0 500 <;> cases inB r.percent 0 250 <;> rfl
theorem rrow (N : Nat) {t : List BrakeRow} {i : Nat} {r : BrakeRow} (h : t[i]? = some r) : r35_ValidTable_1 N t i = some (!rowOk r) := by
  unfold r35_ValidTable_1 rowOk inB
  rw [getI_nat h]
  simp only [bind_some']
  by_cases a : r.speed < 1
  · rw [if_pos (dpos a), decide_eq_false (show ¬ 1 ≤ r.speed by omega)]; rfl
  rw [if_neg (dneg a), decide_eq_true (show 1 ≤ r.speed by omega)]
  by_cases b : 200 < r.speed
  · rw [if_pos (dpos b), decide_eq_false (show ¬ r.speed ≤ 200 by omega)]; rfl
  rw [if_neg (dneg b), decide_eq_true (show r.speed ≤ 200 by omega)]
  by_cases c : r.grade < 0
  · rw [if_pos (dpos c), decide_eq_false (show ¬ 0 ≤ r.grade by omega)]; rfl
  rw [if_neg (dneg c), decide_eq_true (show 0 ≤ r.grade by omega)]
  by_cases d : 500 < r.grade
  · rw [if_pos (dpos d), decide_eq_false (show ¬ r.grade ≤ 500 by omega)]; rfl
  rw [if_neg (dneg d), decide_eq_true (show r.grade ≤ 500 by omega)]
  by_cases e : r.percent < 0
  · rw [if_pos (dpos e), decide_eq_false (show ¬ 0 ≤ r.percent by omega)]; rfl
  rw [if_neg (dneg e), decide_eq_true (show 0 ≤ r.percent by omega)]
  by_cases f : 250 < r.percent
  · rw [decide_eq_true f, decide_eq_false (show ¬ r.percent ≤ 250 by omega)]; rfl
  · rw [decide_eq_false f, decide_eq_true (show r.percent ≤ 250 by omega)]; rfl
theorem tbl_loop (N : Nat) {t : List BrakeRow} (ht : t.length ≤ 1000) : ∀ (k n i : Nat), k < n → i + k = t.length →
    brake_ValidTable_0 N t t.length n i = some (if (t.drop i).all rowOk = true then .inl () else .inr false) ∧ r35_ValidTable_0 N t n i = some (if (t.drop i).all rowOk = true then .inl () else .inr false)
  | k, 0, i, hn, _ => by omega
  | 0, n + 1, i, hn, hi => by
    rw [brake_ValidTable_0, r35_ValidTable_0, if_neg (dneg (by omega)), if_neg (dneg (by omega)), List.drop_eq_nil_of_le (by omega)]; exact ⟨rfl, rfl⟩
  | k + 1, n + 1, i, hn, hi => by
    have hlt : i < t.length := by omega
    obtain ⟨h1, h2⟩ := tbl_loop N ht k n (i + 1) (by omega) (by omega)
    rw [brake_ValidTable_0, r35_ValidTable_0, if_pos (dpos (by omega)), if_pos (dpos (by omega)), getI_nat (at_lt hlt), bind_some', prow, rrow N (at_lt hlt), bind_some', bind_some', drop_at (at_lt hlt), lt_def, w64s (by omega), h1, h2, List.all_cons]
    by_cases h : rowOk t[i] = true
    · simp only [h, Bool.not_true, Bool.false_eq_true, if_false, Bool.true_and, and_self]
    · simp only [Bool.not_eq_true] at h
      simp only [h, Bool.not_false, if_true, Bool.false_and, Bool.false_eq_true, if_false, and_self]
theorem tbl_ok (N : Nat) {t : List BrakeRow} (ht : t.length ≤ 1000) (hN : 1001 ≤ N) : brake_ValidTable N t = some (tblOk t) ∧ r35_ValidTable N t = some (tblOk t) := by
  obtain ⟨h1, h2⟩ := tbl_loop N ht t.length N 0 (by omega) (by omega)
  simp only [Int.natCast_zero, List.drop_zero] at h1 h2
  unfold brake_ValidTable r35_ValidTable tblOk
  rw [h1, h2]
  simp only [bind_some']
  have hc : decide ((t.length : Int) ≤ 64) = decide (t.length ≤ 64) := by rw [decide_eq_decide]; omega
  constructor
  · by_cases h : t.all rowOk = true
    · simp only [h, if_true, lt_def, Bool.true_and, hc]
    · simp only [Bool.not_eq_true] at h
      simp only [h, Bool.false_eq_true, if_false, Bool.false_and]
  · by_cases h64 : 64 < t.length
    · rw [if_pos (dpos (by omega)), decide_eq_false (show ¬ t.length ≤ 64 by omega), Bool.and_false]
    · rw [if_neg (dneg (by omega)), decide_eq_true (show t.length ≤ 64 by omega), Bool.and_true]
      by_cases h : t.all rowOk = true
      · simp only [h, if_true]
      · simp only [Bool.not_eq_true] at h
        simp only [h, Bool.false_eq_true, if_false]
/-! ### The percentage that is required -/
/-- Does a row count at a speed and a gradient? -/
def elig (s g : Int) (r : BrakeRow) : Bool := decide (s ≤ r.speed) && decide (g ≤ r.grade)
def reqF (s g : Int) : List BrakeRow → Int × Bool → Int × Bool
  | [], b => b
  | r :: t, b => reqF s g t (if (elig s g r && (!b.2 || decide (r.percent < b.1))) = true then (r.percent, true) else b)
theorem req_loop (N : Nat) {t : List BrakeRow} (ht : t.length ≤ 1000) (s g : Int) : ∀ (k n i : Nat) (b : Int × Bool), k < n → i + k = t.length →
    brake_required_0 N s g t t.length n b.1 b.2 i = some (reqF s g (t.drop i) b) ∧ r35_need_0 N t s g n b.1 b.2 i = some (reqF s g (t.drop i) b)
  | k, 0, i, b, hn, _ => by omega
  | 0, n + 1, i, b, hn, hi => by
    rw [brake_required_0, r35_need_0, if_neg (dneg (by omega)), if_neg (dneg (by omega)), List.drop_eq_nil_of_le (by omega)]; exact ⟨rfl, rfl⟩
  | k + 1, n + 1, i, b, hn, hi => by
    have hlt : i < t.length := by omega
    have hp2 : brake_required_2 N s g b.1 b.2 t[i] = some (elig s g t[i] && (!b.2 || decide (t[i].percent < b.1))) := by
      unfold brake_required_2 elig
      cases decide (s ≤ t[i].speed) <;> cases decide (g ≤ t[i].grade) <;> cases b.2 <;> rfl
    have hr2 : r35_need_2 N t s g b.1 b.2 i = some (elig s g t[i] && (!b.2 || decide (t[i].percent < b.1))) := by
      unfold r35_need_2 elig
      rw [getI_nat (at_lt hlt)]
      simp only [bind_some']
      cases decide (s ≤ t[i].speed) <;> cases decide (g ≤ t[i].grade) <;> cases b.2 <;> rfl
    have hp1 : brake_required_1 N s g b.1 b.2 t i = some (if (elig s g t[i] && (!b.2 || decide (t[i].percent < b.1))) = true then (t[i].percent, true) else b) := by
      unfold brake_required_1
      rw [getI_nat (at_lt hlt), bind_some', hp2, bind_some']
      split <;> rfl
    have hr1 : r35_need_1 N t s g b.1 b.2 i = some (if (elig s g t[i] && (!b.2 || decide (t[i].percent < b.1))) = true then (t[i].percent, true) else b) := by
      unfold r35_need_1
      rw [hr2, bind_some', getI_nat (at_lt hlt), bind_some']
      split <;> rfl
    rw [brake_required_0, r35_need_0, if_pos (dpos (by omega)), if_pos (dpos (by omega)), hp1, hr1, bind_some', bind_some', lt_def, w64s (by omega), drop_at (at_lt hlt)]
    exact req_loop N ht s g k n (i + 1) _ (by omega) (by omega)
theorem req_ok (N : Nat) {t : List BrakeRow} (ht : t.length ≤ 1000) (hN : 1001 ≤ N) (s g : Int) : brake_required N t s g = some (reqF s g t (0, false)) ∧ r35_need N t s g = some (reqF s g t (0, false)) := by
  obtain ⟨h1, h2⟩ := req_loop N ht s g t.length N 0 (0, false) (by omega) (by omega)
  simp only [Int.natCast_zero, List.drop_zero] at h1 h2
  unfold brake_required r35_need
  rw [h1, h2]
  exact ⟨rfl, rfl⟩
/-- What 'Required' answers. -/
def requ (t : List BrakeRow) (s g : Int) : Int × Int :=
  if tblOk t = true then (if (inB s 1 200 && inB g 0 500) = true then (if (reqF s g t (0, false)).2 = true then ((reqF s g t (0, false)).1, 0) else (0, 15)) else (0, 2)) else (0, 1)
theorem requ_ok (N : Nat) {t : List BrakeRow} (ht : t.length ≤ 1000) (hN : 1001 ≤ N) (s g : Int) : brake_Required N t s g = some (requ t s g) ∧ r35_Required N t s g = some (requ t s g) := by
  obtain ⟨h1, h2⟩ := tbl_ok N ht hN
  obtain ⟨h3, h4⟩ := req_ok N ht hN s g
  have h5 : brake_Required_0 N s g = some (!(inB s 1 200 && inB g 0 500)) := by
    unfold brake_Required_0
    simp only [in_ok, bind_some']
    cases inB s 1 200 <;> cases inB g 0 500 <;> rfl
  have h6 : r35_Required_0 N s g = some (!(inB s 1 200 && inB g 0 500)) := by
    unfold r35_Required_0 inB
    by_cases a : s < 1
    · rw [if_pos (dpos a), decide_eq_false (show ¬ 1 ≤ s by omega)]; rfl
    rw [if_neg (dneg a), decide_eq_true (show 1 ≤ s by omega)]
    by_cases b : 200 < s
    · rw [if_pos (dpos b), decide_eq_false (show ¬ s ≤ 200 by omega)]; rfl
    rw [if_neg (dneg b), decide_eq_true (show s ≤ 200 by omega)]
    by_cases c : g < 0
    · rw [if_pos (dpos c), decide_eq_false (show ¬ 0 ≤ g by omega)]; rfl
    rw [if_neg (dneg c), decide_eq_true (show 0 ≤ g by omega)]
    by_cases d : 500 < g
    · rw [decide_eq_true d, decide_eq_false (show ¬ g ≤ 500 by omega)]; rfl
    · rw [decide_eq_false d, decide_eq_true (show g ≤ 500 by omega)]; rfl
  unfold brake_Required r35_Required requ
  rw [h1, h2, h3, h4, h5, h6]
  simp only [bind_some']
  cases tblOk t <;> cases (inB s 1 200 && inB g 0 500) <;> cases (reqF s g t (0, false)).2 <;> exact ⟨rfl, rfl⟩
/-- What is known of the required percentage. -/
theorem reqF_spec (s g : Int) : ∀ (t : List BrakeRow) (b : Int × Bool), ((reqF s g t b).2 = true ↔ b.2 = true ∨ ∃ r ∈ t, elig s g r = true) ∧
    ((reqF s g t b).2 = true → (∀ r ∈ t, elig s g r = true → (reqF s g t b).1 ≤ r.percent) ∧ (b.2 = true → (reqF s g t b).1 ≤ b.1) ∧ ((b.2 = true ∧ (reqF s g t b).1 = b.1) ∨ ∃ r ∈ t, elig s g r = true ∧ (reqF s g t b).1 = r.percent))
  | [], b => by simp [reqF]
  | r :: t, b => by
    obtain ⟨h1, h2⟩ := reqF_spec s g t (if (elig s g r && (!b.2 || decide (r.percent < b.1))) = true then (r.percent, true) else b)
    simp only [reqF]
    generalize hR : reqF s g t (if (elig s g r && (!b.2 || decide (r.percent < b.1))) = true then (r.percent, true) else b) = R at h1 h2 ⊢
    by_cases he : elig s g r = true
    · by_cases hb : b.2 = true
      · by_cases hlt : r.percent < b.1
        · simp only [he, hb, hlt, decide_true, Bool.not_true, Bool.false_or, Bool.and_self, if_true, true_or, true_iff] at h1 h2
          refine ⟨by simp [h1, hb], fun hR2 => ?_⟩
          obtain ⟨g1, g2, g3⟩ := h2 hR2
          have g2 := g2 trivial
          refine ⟨fun x hx hxe => ?_, fun _ => by omega, ?_⟩
          · rcases List.mem_cons.1 hx with rfl | hx
            · exact g2
            · exact g1 x hx hxe
          · rcases g3 with ⟨_, g3⟩ | ⟨x, hx, hxe, hxp⟩
            · exact .inr ⟨r, by simp, he, g3⟩
            · exact .inr ⟨x, by simp [hx], hxe, hxp⟩
        · simp only [he, hb, hlt, decide_false, Bool.not_true, Bool.or_self, Bool.and_false, Bool.false_eq_true, if_false, true_or, true_iff, true_and] at h1 h2
          refine ⟨by simp [h1, hb], fun hR2 => ?_⟩
          obtain ⟨g1, g2, g3⟩ := h2 hR2
          have g2 := g2 trivial
          refine ⟨fun x hx hxe => ?_, fun _ => g2, ?_⟩
          · rcases List.mem_cons.1 hx with rfl | hx
            · omega
            · exact g1 x hx hxe
          · rcases g3 with g3 | ⟨x, hx, hxe, hxp⟩
            · exact .inl ⟨hb, g3⟩
            · exact .inr ⟨x, by simp [hx], hxe, hxp⟩
      · simp only [Bool.not_eq_true] at hb
        simp only [he, hb, Bool.not_false, Bool.true_or, Bool.and_self, if_true, true_or, true_iff] at h1 h2
        refine ⟨by simp [h1, he], fun hR2 => ?_⟩
        obtain ⟨g1, g2, g3⟩ := h2 hR2
        have g2 := g2 trivial
        refine ⟨fun x hx hxe => ?_, fun h => (by rw [hb] at h; cases h), ?_⟩
        · rcases List.mem_cons.1 hx with rfl | hx
          · exact g2
          · exact g1 x hx hxe
        · rcases g3 with ⟨_, g3⟩ | ⟨x, hx, hxe, hxp⟩
          · exact .inr ⟨r, by simp, he, g3⟩
          · exact .inr ⟨x, by simp [hx], hxe, hxp⟩
    · simp only [Bool.not_eq_true] at he
      simp only [he, Bool.false_and, Bool.false_eq_true, if_false] at h1 h2
      refine ⟨by simp [h1, he], fun hR2 => ?_⟩
      obtain ⟨g1, g2, g3⟩ := h2 hR2
      refine ⟨fun x hx hxe => ?_, g2, ?_⟩
      · rcases List.mem_cons.1 hx with rfl | hx
        · rw [he] at hxe; cases hxe
        · exact g1 x hx hxe
      · rcases g3 with g3 | ⟨x, hx, hxe, hxp⟩
        · exact .inl g3
        · exact .inr ⟨x, by simp [hx], hxe, hxp⟩
/-- The least percentage of the rows that count. -/
theorem req_min {s g : Int} {t : List BrakeRow} : ((reqF s g t (0, false)).2 = true ↔ ∃ r ∈ t, elig s g r = true) ∧ ((reqF s g t (0, false)).2 = true → (∀ r ∈ t, elig s g r = true → (reqF s g t (0, false)).1 ≤ r.percent) ∧ ∃ r ∈ t, elig s g r = true ∧ (reqF s g t (0, false)).1 = r.percent) := by
  obtain ⟨h1, h2⟩ := reqF_spec s g t (0, false)
  refine ⟨by simpa using h1, fun h => ?_⟩
  obtain ⟨g1, _, g3⟩ := h2 h
  exact ⟨g1, by simpa using g3⟩
/-! ### Sheets -/
def sheet (l : List Wagon) (off : List Int) (t : List BrakeRow) (s g : Int) : Brakes × Int :=
  if (tot l off).2 ≠ 0 then (Brakes.mk 0 0 0 0 0 0 0, (tot l off).2) else if (requ t s g).2 ≠ 0 then (Brakes.mk 0 0 0 0 0 0 0, (requ t s g).2)
  else ({ (tot l off).1 with required := (requ t s g).1, missing := max 0 (((requ t s g).1 * (tot l off).1.mass + 99) / 100 - (tot l off).1.braked) }, 0)
theorem requ_bound {t : List BrakeRow} {s g : Int} : 0 ≤ (requ t s g).1 ∧ (requ t s g).1 ≤ 250 := by
  unfold requ
  split
  · rename_i ht
    split
    · split
      · rename_i h
        obtain ⟨_, r, hr, _, he⟩ := req_min.2 h
        simp only [tblOk, Bool.and_eq_true, List.all_eq_true] at ht
        have := ht.1 r hr
        simp only [rowOk, Bool.and_eq_true, inB_iff] at this
        simp only []
        omega
      · simp
    · simp
  · simp
theorem sheet_ok (N : Nat) (hN : 1001 ≤ N) {l : List Wagon} (hF : l.length ≤ 96 → ∀ w ∈ l, Fu N w) {off : List Int} (ho : off.length ≤ 1000) {t : List BrakeRow} (ht : t.length ≤ 1000) (s g : Int) :
    brake_Sheet N l off t s g = some (sheet l off t s g) ∧ r35_Sheet N l off t s g = some (sheet l off t s g) := by
  obtain ⟨h1, h2⟩ := tot_ok N hN hF ho
  obtain ⟨h3, h4⟩ := requ_ok N ht hN s g
  unfold brake_Sheet r35_Sheet sheet
  rw [h1, h2, h3, h4]
  simp only [bind_some']
  by_cases ha : (tot l off).2 = 0
  · by_cases hb : (requ t s g).2 = 0
    · have q := requ_bound (t := t) (s := s) (g := g)
      obtain ⟨_, _, m0, m1, b0, b1⟩ := tot_bound ha
      simp only [ha, hb, bne00, Bool.false_eq_true, if_false, ne_eq, not_true_eq_false]
      generalize (requ t s g).1 = R at q ⊢
      generalize hM : (tot l off).1.mass = M at m0 m1 ⊢
      generalize hC : (tot l off).1.braked = C at b0 b1 ⊢
      have hRM : 0 ≤ R * M ∧ R * M ≤ 250 * 192000 := ⟨Int.mul_nonneg (by omega) (by omega), Int.mul_le_mul (by omega) (by omega) (by omega) (by omega)⟩
      have e : IntKind.wrap .i64 (IntKind.wrap .i64 (Int.tdiv (IntKind.wrap .i64 (IntKind.wrap .i64 (R * M) + 99)) 100) - C) = (R * M + 99) / 100 - C := by
        rw [w64 (n := R * M) (by omega) (by omega), w64 (n := R * M + 99) (by omega) (by omega), Int.tdiv_eq_ediv_of_nonneg (by omega), w64 (n := (R * M + 99) / 100) (by omega) (by omega), w64 (by omega) (by omega)]
      rw [e]
      exact ⟨rfl, rfl⟩
    · have e0 : ((requ t s g).2 != 0) = true := by simpa using hb
      simp only [ha, bne00, hb, e0, if_true, Bool.false_eq_true, if_false, ne_eq, not_true_eq_false, not_false_eq_true, and_self]
  · have e0 : ((tot l off).2 != 0) = true := by simpa using ha
    simp only [ha, e0, if_true, ne_eq, not_false_eq_true, and_self]
end Go.W
end
section
set_option linter.unusedVariables false
set_option linter.unusedSimpArgs false
set_option maxRecDepth 100000
namespace Go.W
open Go.AM
theorem made_fu {N : Nat} (hN : 20 ≤ N) {l : List Wagon} (h : MadeL l) : l.length ≤ 96 → ∀ w ∈ l, Fu N w := fun _ w hw => wagErr_fu (h.ok w hw) hN
/-- The answer for a valid list and valid cut brakes. -/
def total1 (l : List Wagon) (off : List Int) : Brakes := Brakes.mk (sumL (·.length) l) (sumL (·.axles) l) (sumL (·.mass) l) (brk off 0 l * factor (sumL (·.length) l) / 100)
    (if 0 < sumL (·.mass) l then 100 * (brk off 0 l * factor (sumL (·.length) l) / 100) / sumL (·.mass) l else 0) 0 0
theorem tot_eq {l : List Wagon} {off : List Int} (h1 : listErr l = 0) (h2 : offErr l.length off = 0) : tot l off = (total1 l off, 0) := by
  unfold tot
  rw [if_neg (by simp [h1]), if_neg (by simp [h2])]
  rfl
end Go.W
end
section
set_option linter.unusedVariables false
set_option linter.unusedSimpArgs false
set_option maxRecDepth 100000
namespace Go.W
open Go.AM
theorem table_loop (N : Nat) : ∀ (k n : Nat) (s : Maker) (out : List BrakeRow) (c : Int), k < n → Mk c s → c + 3 * k ≤ 900000000 → out.length + k ≤ 4 → out.all rowOk = true →
    ∃ s' out', yardgen_Table_0 N n s out k = some (s', out') ∧ Mk (c + 3 * k) s' ∧ out'.length ≤ 4 ∧ out'.all rowOk = true
  | k, 0, s, out, c, hn, _, _, _, _ => by omega
  | 0, n + 1, s, out, c, hn, hs, _, hl, ho => by
    rw [yardgen_Table_0, if_neg (dneg (by omega))]
    exact ⟨s, out, rfl, by simpa using hs, by omega, ho⟩
  | k + 1, n + 1, s, out, c, hn, hs, hc, hl, ho => by
    obtain ⟨a, s1, h1, ha, m1⟩ := pick_ok N [60, 80, 100, 120, 200] (by simp) (by simp) hs (by omega)
    obtain ⟨b, s2, h2, hb, m2⟩ := pick_ok N [0, 50, 100, 250, 500] (by simp) (by simp) m1 (by omega)
    obtain ⟨d, s3, h3, hd, m3⟩ := pick_ok N [0, 10, 30, 50, 65, 100] (by simp) (by simp) m2 (by omega)
    rw [yardgen_Table_0, if_pos (dpos (by omega)), h1, bind_some', h2, bind_some', h3, bind_some', appI_ok (by simp; omega), bind_some', lt_def, w64p (by omega)]
    have hr : rowOk (BrakeRow.mk a b d) = true := by
      simp only [List.mem_cons, List.not_mem_nil, or_false] at ha hb hd
      simp only [rowOk, Bool.and_eq_true, inB_iff]
      omega
    obtain ⟨s', out', g1, g2, g3, g4⟩ := table_loop N k n s3 (out ++ [BrakeRow.mk a b d]) (c + 1 + 1 + 1) (by omega) m3 (by omega) (by simp; omega) (by rw [List.all_append, ho]; simpa using hr)
    exact ⟨s', out', g1, g2.le (by omega), g3, g4⟩
theorem table_ok (N : Nat) (hN : 100 ≤ N) {c : Int} {s : Maker} (hs : Mk c s) (hc : c ≤ 800000000) :
    ∃ t s', yardgen_Table N s = some (t, s') ∧ Mk (c + 100) s' ∧ t.length ≤ 4 ∧ t.all rowOk = true := by
  unfold yardgen_Table
  obtain ⟨r, s1, h1, r0, r1, m1⟩ := next_ok N 5 (by omega) (by omega) hs (by omega)
  obtain ⟨r, rfl⟩ := Int.eq_ofNat_of_zero_le r0
  obtain ⟨s2, t, h2, m2, hl, ht⟩ := table_loop N r N s1 [] (c + 1) (by omega) m1 (by omega) (by simp; omega) (by simp)
  rw [h1, bind_some']
  simp only []
  rw [h2, bind_some']
  exact ⟨t, s2, rfl, m2.le (by omega), hl, ht⟩
theorem tbl_app {a b : List BrakeRow} (ha : a.all rowOk = true) (hb : b.all rowOk = true) (hl : a.length + b.length ≤ 64) : tblOk (a ++ b) = true := by
  simp only [tblOk, List.all_append, ha, hb, Bool.and_self, Bool.true_and, decide_eq_true_eq, List.length_append]
  exact hl
theorem requ_eq {t : List BrakeRow} {s g : Int} (ht : tblOk t = true) (h1 : 1 ≤ s) (h2 : s ≤ 200) (h3 : 0 ≤ g) (h4 : g ≤ 500) : requ t s g = if (reqF s g t (0, false)).2 = true then ((reqF s g t (0, false)).1, 0) else (0, 15) := by
  unfold requ
  rw [if_pos ht, if_pos (by rw [Bool.and_eq_true, inB_iff, inB_iff]; omega)]
theorem elig_iff {s g : Int} {r : BrakeRow} : elig s g r = true ↔ s ≤ r.speed ∧ g ≤ r.grade := by simp [elig]
theorem requ_mono {t : List BrakeRow} {s g s' g' : Int} (ht : tblOk t = true) (h1 : 1 ≤ s) (h2 : s' ≤ 200) (h3 : 0 ≤ g) (h4 : g' ≤ 500) (h5 : s ≤ s') (h6 : g ≤ g') :
    ((requ t s g).2 = 15 ∧ (requ t s' g').2 = 15) ∨ ((requ t s g).2 = 0 ∧ ((requ t s' g').2 = 15 ∨ ((requ t s' g').2 = 0 ∧ (requ t s g).1 ≤ (requ t s' g').1))) := by
  rw [requ_eq ht h1 (by omega) h3 (by omega), requ_eq ht (by omega) h2 (by omega) h4]
  by_cases a : (reqF s g t (0, false)).2 = true
  · rw [if_pos a]
    refine .inr ⟨rfl, ?_⟩
    by_cases b : (reqF s' g' t (0, false)).2 = true
    · rw [if_pos b]
      refine .inr ⟨rfl, ?_⟩
      obtain ⟨_, r, hr, he, hp⟩ := req_min.2 b
      rw [elig_iff] at he
      have := (req_min.2 a).1 r hr (elig_iff.2 ⟨by omega, by omega⟩)
      simp only []
      omega
    · rw [if_neg b]; exact .inl rfl
  · rw [if_neg a, if_neg ?_]
    · exact .inl ⟨rfl, rfl⟩
    · intro b
      obtain ⟨r, hr, he⟩ := req_min.1.1 b
      rw [elig_iff] at he
      exact a (req_min.1.2 ⟨r, hr, elig_iff.2 ⟨by omega, by omega⟩⟩)
end Go.W
end
section
set_option linter.unusedVariables false
set_option linter.unusedSimpArgs false
namespace Go.W
open Go.AM
/-- The first element for which a condition holds. -/
def res {α β : Type} (p : Nat → α → Bool) (out : Nat → α → β) : Nat → List α → Sum Unit β
  | _, [] => .inl ()
  | i, x :: xs => if p i x = true then .inr (out i x) else res p out (i + 1) xs
theorem first_gen {α β : Type} {l : List α} (p : Nat → α → Bool) (out : Nat → α → β) (F : Nat → Int → Option (Sum Unit β)) (h0 : ∀ n, F (n + 1) (l.length : Int) = some (.inl ()))
    (h1 : ∀ (n i : Nat) (x : α), l[i]? = some x → F (n + 1) (i : Int) = if p i x = true then some (.inr (out i x)) else F n ((i + 1 : Nat) : Int)) : ∀ (k n i : Nat), k < n → i + k = l.length → F n (i : Int) = some (res p out i (l.drop i))
  | k, 0, i, hn, _ => by omega
  | 0, n + 1, i, hn, hi => by
    obtain rfl : i = l.length := by omega
    rw [h0, List.drop_length, res]
  | k + 1, n + 1, i, hn, hi => by
    have hlt : i < l.length := by omega
    rw [h1 n i _ (at_lt hlt), drop_at (at_lt hlt), res]
    split
    · rfl
    · exact first_gen p out F h0 h1 k n (i + 1) (by omega) (by omega)
/-- Something gathered from all elements. -/
def fold {α σ : Type} (g : Nat → α → σ → σ) : Nat → List α → σ → σ
  | _, [], s => s
  | i, x :: xs, s => fold g (i + 1) xs (g i x s)
theorem fold_gen {α σ β : Type} {l : List α} (g : Nat → α → σ → σ) (fin : σ → β) (I : Nat → σ → Prop) (F : Nat → σ → Int → Option β) (h0 : ∀ n s, I l.length s → F (n + 1) s (l.length : Int) = some (fin s))
    (h1 : ∀ (n i : Nat) (x : α) (s : σ), l[i]? = some x → I i s → F (n + 1) s (i : Int) = F n (g i x s) ((i + 1 : Nat) : Int) ∧ I (i + 1) (g i x s)) : ∀ (k n i : Nat) (s : σ), k < n → i + k = l.length → I i s → F n s (i : Int) = some (fin (fold g i (l.drop i) s)) ∧ I l.length (fold g i (l.drop i) s)
  | k, 0, i, s, hn, _, _ => by omega
  | 0, n + 1, i, s, hn, hi, hI => by
    obtain rfl : i = l.length := by omega
    rw [h0 n s hI, List.drop_length, fold]
    exact ⟨rfl, hI⟩
  | k + 1, n + 1, i, s, hn, hi, hI => by
    have hlt : i < l.length := by omega
    obtain ⟨g1, g2⟩ := h1 n i _ s (at_lt hlt) hI
    rw [g1, drop_at (at_lt hlt), fold]
    exact fold_gen g fin I F h0 h1 k n (i + 1) _ (by omega) (by omega) g2
/-- The number of the first element for which a condition holds, or -1. -/
def firstI {α : Type} (p : Nat → α → Bool) : Nat → List α → Int
  | _, [] => -1
  | i, x :: xs => if p i x = true then (i : Int) else firstI p (i + 1) xs
theorem res_first {α : Type} (p : Nat → α → Bool) : ∀ (l : List α) (i : Nat), res p (fun i _ => (i : Int)) i l = .inl () ∧ firstI p i l = -1 ∨ res p (fun i _ => (i : Int)) i l = .inr (firstI p i l) ∧ 0 ≤ firstI p i l
  | [], i => .inl ⟨rfl, rfl⟩
  | x :: xs, i => by
    rw [res, firstI]
    by_cases h : p i x = true
    · rw [if_pos h, if_pos h]; exact .inr ⟨rfl, by omega⟩
    · rw [if_neg h, if_neg h]; exact res_first p xs (i + 1)
theorem firstI_spec {α : Type} (p : Nat → α → Bool) : ∀ (l : List α) (i : Nat), (firstI p i l = -1 ∧ ∀ (j : Nat) (x : α), l[j]? = some x → p (i + j) x = false) ∨
    ∃ (j : Nat) (x : α), firstI p i l = ((i + j : Nat) : Int) ∧ l[j]? = some x ∧ p (i + j) x = true ∧ ∀ (j' : Nat) (y : α), j' < j → l[j']? = some y → p (i + j') y = false
  | [], i => .inl ⟨rfl, fun j x h => by simp at h⟩
  | x :: xs, i => by
    rw [firstI]
    by_cases h : p i x = true
    · rw [if_pos h]
      exact .inr ⟨0, x, by simp, by simp, by simpa using h, fun j' y hj => by omega⟩
    · rw [if_neg h]
      have h' : p i x = false := by simpa using h
      rcases firstI_spec p xs (i + 1) with ⟨h1, h2⟩ | ⟨j, y, h1, h2, h3, h4⟩
      · refine .inl ⟨h1, fun j y hj => ?_⟩
        cases j with
        | zero => simp at hj; subst hj; exact h'
        | succ j => have := h2 j y (by simpa using hj); rwa [show i + 1 + j = i + (j + 1) by omega] at this
      · refine .inr ⟨j + 1, y, by rw [h1]; omega, by simpa using h2, by rwa [show i + 1 + j = i + (j + 1) by omega] at h3, fun j' z hj hz => ?_⟩
        cases j' with
        | zero => simp at hz; subst hz; exact h'
        | succ j' => have := h4 j' z (by omega) (by simpa using hz); rwa [show i + 1 + j' = i + (j' + 1) by omega] at this
theorem firstI_congr {α : Type} {p q : Nat → α → Bool} : ∀ {l : List α} {i : Nat}, (∀ (j : Nat) (x : α), l[j]? = some x → p (i + j) x = q (i + j) x) → firstI p i l = firstI q i l
  | [], i, _ => rfl
  | x :: xs, i, h => by
    have h0 := h 0 x (by simp)
    rw [Nat.add_zero] at h0
    rw [firstI, firstI, h0, firstI_congr (i := i + 1) fun j y hj => ?_]
    have := h (j + 1) y (by simpa using hj)
    rwa [show i + 1 + j = i + (j + 1) by omega]
end Go.W
end
section
set_option linter.unusedVariables false
set_option linter.unusedSimpArgs false
set_option maxRecDepth 100000
namespace Go.W
open Go.AM
def rvalid (r : Rule) : Bool := decide (1 ≤ r.number ∧ r.number ≤ 9999 ∧ 1 ≤ r.kind ∧ r.kind ≤ 9 ∧ 0 ≤ r.a ∧ r.a ≤ 1000000 ∧ 0 ≤ r.b ∧ r.b ≤ 1000000 ∧ 0 ≤ r.c ∧ r.c ≤ 1000000)
theorem rvalid_iff {r : Rule} : rvalid r = true ↔ 1 ≤ r.number ∧ r.number ≤ 9999 ∧ 1 ≤ r.kind ∧ r.kind ≤ 9 ∧ 0 ≤ r.a ∧ r.a ≤ 1000000 ∧ 0 ≤ r.b ∧ r.b ≤ 1000000 ∧ 0 ≤ r.c ∧ r.c ≤ 1000000 := by simp [rvalid]
theorem sbe {a b : Bool} (h : a = true ↔ b = true) : some a = some b := by rw [Bool.eq_iff_iff.2 h]
def n3 (x : Int) : Bool := decide (x < 0 ∨ 1000000 < x)
theorem rvr1 (N : Nat) (x : Int) : rulebook_valid_1 N x = some (n3 x) := by
  unfold rulebook_valid_1
  by_cases h : x < 0 <;> simp [n3, h]
theorem prule (N : Nat) (hN : 5 ≤ N) (r : Rule) : rulebook_valid N r = some (rvalid r) := by
  have hloop : ∀ n, rulebook_valid_0 N [r.a, r.b, r.c] 3 (n + 4) 0 = some (if n3 r.a = true ∨ n3 r.b = true ∨ n3 r.c = true then .inr false else .inl ()) := by
    intro n
    rw [rulebook_valid_0, if_pos (by decide), show getI [r.a, r.b, r.c] 0 = some r.a from rfl, bind_some', bind_some', rvr1, bind_some']
    by_cases ha : n3 r.a = true
    · rw [if_pos ha, if_pos (.inl ha)]
    rw [if_neg ha, show IntKind.wrap .i64 (0 + 1) = 1 from rfl, rulebook_valid_0, if_pos (by decide), show getI [r.a, r.b, r.c] 1 = some r.b from rfl, bind_some', bind_some', rvr1, bind_some']
    by_cases hb : n3 r.b = true
    · rw [if_pos hb, if_pos (.inr (.inl hb))]
    rw [if_neg hb, show IntKind.wrap .i64 (1 + 1) = 2 from rfl, rulebook_valid_0, if_pos (by decide), show getI [r.a, r.b, r.c] 2 = some r.c from rfl, bind_some', bind_some', rvr1, bind_some']
    by_cases hc : n3 r.c = true
    · rw [if_pos hc, if_pos (.inr (.inr hc))]
    rw [if_neg hc, show IntKind.wrap .i64 (2 + 1) = 3 from rfl, rulebook_valid_0, if_neg (by decide), if_neg (by simp [ha, hb, hc])]
  have h2 : rulebook_valid_2 N r = some (decide (1 ≤ r.number ∧ r.number ≤ 9999 ∧ 1 ≤ r.kind ∧ r.kind ≤ 9)) := by
    unfold rulebook_valid_2
    by_cases a : 1 ≤ r.number <;> by_cases b : r.number ≤ 9999 <;> by_cases c : 1 ≤ r.kind <;> simp [a, b, c, lt_def]
  obtain ⟨M, rfl⟩ : ∃ M, N = (M + 1) + 4 := ⟨N - 5, by omega⟩
  unfold rulebook_valid
  rw [show (([r.a, r.b, r.c] : List Int).length : Int) = 3 from rfl, hloop, bind_some', h2]
  by_cases h : n3 r.a = true ∨ n3 r.b = true ∨ n3 r.c = true
  · rw [if_pos h]
    simp only [n3, decide_eq_true_eq] at h
    refine sbe ?_
    simp only [rvalid_iff, Bool.false_eq_true, false_iff]
    omega
  · rw [if_neg h]
    simp only [n3, decide_eq_true_eq] at h
    rw [bind_some']
    refine sbe ?_
    simp only [rvalid_iff, decide_eq_true_eq]
    omega
theorem rrule (N : Nat) (r : Rule) : r36_valid N r = some (rvalid r) := by
  have h1 : r36_valid_0 N r = some (!decide (1 ≤ r.number ∧ r.number ≤ 9999 ∧ 1 ≤ r.kind ∧ r.kind ≤ 9)) := by
    unfold r36_valid_0
    simp only [decide_eq_true_eq]
    repeat' split
    all_goals
      refine sbe ?_
      simp only [decide_eq_true_eq, Bool.not_eq_true', decide_eq_false_iff_not, true_iff]
      omega
  have h2 : r36_valid_1 N r = some (decide (0 ≤ r.a ∧ r.a ≤ 1000000 ∧ 0 ≤ r.b ∧ r.b ≤ 1000000 ∧ 0 ≤ r.c ∧ r.c ≤ 1000000)) := by
    unfold r36_valid_1
    simp only [decide_eq_true_eq, lt_def]
    repeat' split
    all_goals
      refine sbe ?_
      simp only [decide_eq_true_eq, Bool.false_eq_true, false_iff]
      omega
  unfold r36_valid
  rw [h1, bind_some', h2]
  by_cases h : 1 ≤ r.number ∧ r.number ≤ 9999 ∧ 1 ≤ r.kind ∧ r.kind ≤ 9
  · rw [decide_eq_true h, if_neg (by decide), bind_some']
    refine sbe ?_
    simp only [rvalid_iff, decide_eq_true_eq]
    omega
  · rw [decide_eq_false h, if_pos (by decide)]
    refine sbe ?_
    simp only [rvalid_iff, Bool.false_eq_true, false_iff]
    omega
/-! ### Lists of rules -/
def rp (l : List Rule) (i : Nat) (x : Rule) : Bool := !rvalid x || decide (x.number ∈ (l.take i).map (·.number))
def rout (x : Rule) : Int := if rvalid x = true then 8 else 1
/-- The error of a list of rules. -/
def rErr (l : List Rule) : Int := if 32 < l.length then 3 else match res (rp l) (fun _ x => rout x) 0 l with | .inl _ => 0 | .inr e => e
theorem mem_nums {l : List Rule} {x : Rule} : (x.number ∈ l.map (·.number)) ↔ ∃ (j : Nat) (y : Rule), l[j]? = some y ∧ (y.number == x.number) = true := by
  rw [List.mem_map]
  constructor
  · rintro ⟨y, hy, he⟩
    obtain ⟨j, hj⟩ := List.getElem?_of_mem hy
    exact ⟨j, y, hj, by simpa using he⟩
  · rintro ⟨j, y, hj, he⟩
    exact ⟨y, List.mem_of_getElem? hj, by simpa using he⟩
theorem cont_ok (N : Nat) (hN : 1001 ≤ N) {l : List Rule} (hl : l.length ≤ 1000) (x : Rule) : slices_ContainsFunc_api_Rule_api_Rule__rulebook_Valid_1 N l x = some (decide (x.number ∈ l.map (·.number))) := by
  have h := first_gen (l := l) (fun _ y => y.number == x.number) (fun i _ => (i : Int)) (fun n i => slices_IndexFunc_api_Rule_api_Rule__rulebook_Valid_1_0 N l x l.length n i) (fun n => by
    show slices_IndexFunc_api_Rule_api_Rule__rulebook_Valid_1_0 N l x l.length (n + 1) _ = _
    rw [slices_IndexFunc_api_Rule_api_Rule__rulebook_Valid_1_0, if_neg (dneg (by omega))]) (fun n i y hy => by
    show slices_IndexFunc_api_Rule_api_Rule__rulebook_Valid_1_0 N l x l.length (n + 1) _ = _
    have hlt := (List.getElem?_eq_some_iff.1 hy).1
    rw [slices_IndexFunc_api_Rule_api_Rule__rulebook_Valid_1_0, if_pos (dpos (by omega)), getI_nat hy, bind_some', w64s (by omega)]
    rfl) l.length N 0 (by omega) (by omega)
  simp only [Int.natCast_zero, List.drop_zero] at h
  unfold slices_ContainsFunc_api_Rule_api_Rule__rulebook_Valid_1 slices_IndexFunc_api_Rule_api_Rule__rulebook_Valid_1
  rw [h, bind_some']
  rcases res_first (fun _ (y : Rule) => y.number == x.number) l 0 with ⟨h1, h2⟩ | ⟨h1, h2⟩
  · rw [h1]
    rcases firstI_spec (fun _ (y : Rule) => y.number == x.number) l 0 with ⟨_, h4⟩ | ⟨j, y, h4, _⟩
    · rw [decide_eq_false]
      · rfl
      · intro hm
        obtain ⟨j, y, hj, he⟩ := mem_nums.1 hm
        have := h4 j y hj
        rw [he] at this; cases this
    · rw [h2] at h4; omega
  · rw [h1]
    rcases firstI_spec (fun _ (y : Rule) => y.number == x.number) l 0 with ⟨h3, _⟩ | ⟨j, y, h4, h5, h6, _⟩
    · omega
    · rw [decide_eq_true (mem_nums.2 ⟨j, y, h5, h6⟩)]
      simp only [bind_some', lt_def, lpos h2]
theorem rcont_ok (N : Nat) {l : List Rule} (hl : l.length ≤ 1000) {i : Nat} {x : Rule} (hx : l[i]? = some x) (hN : 1001 ≤ N) : r36_Valid_1 N l i N 0 = some (if x.number ∈ (l.take i).map (·.number) then .inr 8 else .inl ()) := by
  have hi := (List.getElem?_eq_some_iff.1 hx).1
  have hlen : (l.take i).length = i := by simp; omega
  have h := first_gen (l := l.take i) (fun _ y => y.number == x.number) (fun i _ => (8 : Int)) (fun n k => r36_Valid_1 N l i n k) (fun n => by
    show r36_Valid_1 N l i (n + 1) _ = _
    rw [r36_Valid_1, if_neg (dneg (by omega))]) (fun n k y hy => by
    show r36_Valid_1 N l i (n + 1) _ = _
    have hlt := (List.getElem?_eq_some_iff.1 hy).1
    have hy' : l[k]? = some y := by rw [List.getElem?_take] at hy; split at hy <;> simp_all
    rw [r36_Valid_1, if_pos (dpos (by omega)), getI_nat hy', bind_some', getI_nat hx, bind_some', lt_def, w64s (by omega)]) i N 0 (by omega) (by omega)
  simp only [Int.natCast_zero, List.drop_zero] at h
  rw [h]
  congr 1
  have key : ∀ (m : List Rule) (i : Nat), res (fun _ (y : Rule) => y.number == x.number) (fun i _ => (8 : Int)) i m = if x.number ∈ m.map (·.number) then .inr 8 else .inl () := by
    intro m
    induction m with
    | nil => intro i; rfl
    | cons y m ih =>
      intro i
      rw [res]
      by_cases he : y.number = x.number
      · rw [if_pos (by simpa using he), if_pos (by simp [he])]
      · rw [if_neg (by simpa using he), ih]
        have : (x.number ∈ (y :: m).map (·.number)) ↔ x.number ∈ m.map (·.number) := by
          simp only [List.map_cons, List.mem_cons]
          constructor
          · rintro (h | h)
            · exact absurd h.symm he
            · exact h
          · exact .inr
        by_cases hm : x.number ∈ m.map (·.number)
        · rw [if_pos hm, if_pos (this.2 hm)]
        · rw [if_neg hm, if_neg (fun h => hm (this.1 h))]
  exact key _ _
theorem rules_ok (N : Nat) (hN : 1001 ≤ N) {l : List Rule} (hl : l.length ≤ 1000) : rulebook_Valid N l = some (rErr l) ∧ r36_Valid N l = some (rErr l) := by
  unfold rulebook_Valid r36_Valid rErr
  by_cases h32 : 32 < l.length
  · rw [if_pos (dpos (by omega)), if_pos (dpos (by omega)), if_pos h32]; exact ⟨rfl, rfl⟩
  · rw [if_neg (dneg (by omega)), if_neg (dneg (by omega)), if_neg h32]
    have h1 := first_gen (l := l) (rp l) (fun _ x => rout x) (fun n i => rulebook_Valid_0 N l l l.length n i) (fun n => by
      show rulebook_Valid_0 N l l l.length (n + 1) _ = _
      rw [rulebook_Valid_0, if_neg (dneg (by omega))]) (fun n i x hx => by
      show rulebook_Valid_0 N l l l.length (n + 1) _ = _
      have hlt := (List.getElem?_eq_some_iff.1 hx).1
      rw [rulebook_Valid_0, if_pos (dpos (by omega)), getI_nat hx, bind_some', prule N (by omega), bind_some', cutI_take (by omega), bind_some', cont_ok N hN (by simp; omega), bind_some', w64s (by omega), rp, rout]
      cases rvalid x
      · rfl
      · simp only [Bool.not_true, Bool.false_eq_true, if_false, Bool.false_or, if_true]) l.length N 0 (by omega) (by omega)
    have h2 := first_gen (l := l) (rp l) (fun _ x => rout x) (fun n i => r36_Valid_0 N l n i) (fun n => by
      show r36_Valid_0 N l (n + 1) _ = _
      rw [r36_Valid_0, if_neg (dneg (by omega))]) (fun n i x hx => by
      show r36_Valid_0 N l (n + 1) _ = _
      have hlt := (List.getElem?_eq_some_iff.1 hx).1
      rw [r36_Valid_0, if_pos (dpos (by omega)), getI_nat hx, bind_some', rrule N, bind_some', rcont_ok N hl hx hN, bind_some', rp, rout]
      cases rvalid x
      · rfl
      · simp only [Bool.not_true, Bool.false_eq_true, if_false, Bool.false_or, if_true, decide_eq_true_eq]
        by_cases hm : x.number ∈ (l.take i).map (·.number)
        · rw [if_pos hm, if_pos hm]
        · rw [if_neg hm, if_neg hm]
          simp only [lt_def, w64s (show i < 9223372036854775807 by omega)]) l.length N 0 (by omega) (by omega)
    simp only [Int.natCast_zero, List.drop_zero] at h1 h2
    rw [h1, h2, bind_some']
    cases res (rp l) (fun _ x => rout x) 0 l <;> exact ⟨rfl, rfl⟩
theorem rErr_zero {l : List Rule} (h : rErr l = 0) : l.length ≤ 32 ∧ ∀ x ∈ l, rvalid x = true := by
  unfold rErr at h
  split at h
  · cases h
  · rename_i h32
    refine ⟨by omega, ?_⟩
    have key : ∀ (m : List Rule) (i : Nat), (match res (rp l) (fun _ x => rout x) i m with | .inl _ => (0 : Int) | .inr e => e) = 0 → ∀ x ∈ m, rvalid x = true := by
      intro m
      induction m with
      | nil => intro i _ x hx; simp at hx
      | cons y m ih =>
        intro i h x hx
        rw [res] at h
        by_cases hp : rp l i y = true
        · rw [if_pos hp] at h
          simp only [rout] at h
          split at h <;> cases h
        · rw [if_neg hp] at h
          rcases List.mem_cons.1 hx with rfl | hx
          · simp only [rp, Bool.or_eq_true, not_or, Bool.not_eq_true'] at hp
            simpa using hp.1
          · exact ih _ h x hx
    exact key l 0 h
end Go.W
end
section
set_option linter.unusedVariables false
set_option linter.unusedSimpArgs false
set_option maxRecDepth 100000
namespace Go.W
open Go.AM
/-- A train whose sums are small. -/
structure Vd (l : List Wagon) : Prop where
  ln : l.length ≤ 96
  rg : ∀ w ∈ l, (80 ≤ w.length ∧ w.length ≤ 400) ∧ (50 ≤ w.mass ∧ w.mass ≤ 2000) ∧ (2 ≤ w.axles ∧ w.axles ≤ 6) ∧ 0 ≤ w.brake ∧ w.brake ≤ w.mass
theorem Vd.of {l : List Wagon} (h : listErr l = 0) : Vd l := ⟨(listErr_zero.1 h).1, fun w hw => wag_ranges ((listErr_zero.1 h).2.1 w hw)⟩
theorem Vd.at {l : List Wagon} (h : Vd l) {i : Nat} {w : Wagon} (hi : l[i]? = some w) : (80 ≤ w.length ∧ w.length ≤ 400) ∧ (50 ≤ w.mass ∧ w.mass ≤ 2000) ∧ (2 ≤ w.axles ∧ w.axles ≤ 6) ∧ 0 ≤ w.brake ∧ w.brake ≤ w.mass := h.rg w (List.mem_of_getElem? hi)
/-- What a rule of sums adds up. -/
def szOf (k : Int) (w : Wagon) : Int := if k = 1 then w.length else if k = 2 then w.axles else w.mass
theorem szOf_rg {l : List Wagon} (h : Vd l) (k : Int) : ∀ w ∈ l, 0 ≤ szOf k w ∧ szOf k w ≤ 2000 := by
  intro w hw
  have := h.rg w hw
  unfold szOf
  split
  · omega
  · split <;> omega
theorem take_sum {f : Wagon → Int} {l : List Wagon} {i : Nat} {w : Wagon} (hi : l[i]? = some w) : sumL f (l.take (i + 1)) = sumL f (l.take i) + f w := by
  have hlt := (List.getElem?_eq_some_iff.1 hi).1
  have : l.take (i + 1) = l.take i ++ [w] := by
    rw [List.take_succ_eq_append_getElem hlt]
    have := (List.getElem?_eq_some_iff.1 hi).2
    rw [this]
  rw [this, sumL_append, sumL_cons, sumL_nil]; omega
theorem take_bound {f : Wagon → Int} {l : List Wagon} (h : ∀ w ∈ l, 0 ≤ f w ∧ f w ≤ 2000) (hl : l.length ≤ 96) (i : Nat) : 0 ≤ sumL f (l.take i) ∧ sumL f (l.take i) ≤ 192000 := by
  have := sumL_bound (l := l.take i) fun w hw => h w (List.mem_of_mem_take hw)
  have h2 : (l.take i).length ≤ 96 := by simp; omega
  omega
theorem drop_bound {f : Wagon → Int} {l : List Wagon} (h : ∀ w ∈ l, 0 ≤ f w ∧ f w ≤ 2000) (hl : l.length ≤ 96) (i : Nat) : 0 ≤ sumL f (l.drop i) ∧ sumL f (l.drop i) ≤ 192000 := by
  have := sumL_bound (l := l.drop i) fun w hw => h w (List.mem_of_mem_drop hw)
  have h2 : (l.drop i).length ≤ 96 := by simp; omega
  omega
/-! ### Rules of sums -/
def pSum (k a : Int) (l : List Wagon) (i : Nat) (_ : Wagon) : Bool := decide (a < sumL (szOf k) (l.take (i + 1)))
theorem beyond_gen {F : Nat → Int → Int → Option (Sum Unit Int)} {l : List Wagon} {k a : Int} (h : Vd l) (h0 : ∀ n s, F (n + 1) s (l.length : Int) = some (.inl ()))
    (h1 : ∀ (n i : Nat) (s : Int) (x : Wagon), l[i]? = some x → F (n + 1) s (i : Int) = if (decide (a < IntKind.wrap .i64 (s + szOf k x))) = true then some (.inr (i : Int)) else F n (IntKind.wrap .i64 (s + szOf k x)) (IntKind.wrap .i64 ((i : Int) + 1))) :
    ∀ (q n i : Nat), q < n → i + q = l.length → F n (sumL (szOf k) (l.take i)) (i : Int) = some (res (pSum k a l) (fun i _ => (i : Int)) i (l.drop i))
  | q, 0, i, hn, _ => by omega
  | 0, n + 1, i, hn, hi => by
    obtain rfl : i = l.length := by omega
    rw [h0, List.drop_length, res]
  | q + 1, n + 1, i, hn, hi => by
    have hlt : i < l.length := by omega
    have hl := h.ln
    have tb := take_bound (szOf_rg h k) h.ln (i + 1)
    have ts := take_sum (f := szOf k) (at_lt hlt)
    rw [h1 n i _ _ (at_lt hlt), drop_at (at_lt hlt), res, ← ts, w64 (by omega) (by omega), w64s (by omega)]
    by_cases hp : decide (a < sumL (szOf k) (l.take (i + 1))) = true
    · rw [if_pos hp, if_pos (show pSum k a l i l[i] = true from hp)]
    · rw [if_neg hp, if_neg (show ¬ pSum k a l i l[i] = true from hp)]
      exact beyond_gen h h0 h1 q n (i + 1) (by omega) (by omega)
theorem beyond1 (N : Nat) (hN : 1001 ≤ N) {t : Train} (h : Vd t.l) (a : Int) : train_beyond__rulebook_train_place_1 N t a = some (firstI (pSum 1 a t.l) 0 t.l) := by
  have hb := beyond_gen (F := fun n s i => train_beyond__rulebook_train_place_1_0 N a t.l t.l.length n s i) (k := 1) (a := a) h (fun n s => by
    show train_beyond__rulebook_train_place_1_0 N a t.l t.l.length (n + 1) s _ = _
    rw [train_beyond__rulebook_train_place_1_0, if_neg (dneg (by omega))]) (fun n i s x hx => by
    show train_beyond__rulebook_train_place_1_0 N a t.l t.l.length (n + 1) s _ = _
    have hlt := (List.getElem?_eq_some_iff.1 hx).1
    rw [train_beyond__rulebook_train_place_1_0, if_pos (dpos (by omega)), getI_nat hx, bind_some']
    rfl) t.l.length N 0 (by have := h.ln; omega) (by omega)
  simp only [Int.natCast_zero, List.drop_zero, List.take_zero, sumL_nil] at hb
  unfold train_beyond__rulebook_train_place_1
  rw [hb, bind_some']
  rcases res_first (pSum 1 a t.l) t.l 0 with ⟨h1, h2⟩ | ⟨h1, h2⟩
  · rw [h1, h2]
  · rw [h1]
theorem beyond2 (N : Nat) (hN : 1001 ≤ N) {t : Train} (h : Vd t.l) (a : Int) : train_beyond__rulebook_train_place_2 N t a = some (firstI (pSum 2 a t.l) 0 t.l) := by
  have hb := beyond_gen (F := fun n s i => train_beyond__rulebook_train_place_2_0 N a t.l t.l.length n s i) (k := 2) (a := a) h (fun n s => by
    show train_beyond__rulebook_train_place_2_0 N a t.l t.l.length (n + 1) s _ = _
    rw [train_beyond__rulebook_train_place_2_0, if_neg (dneg (by omega))]) (fun n i s x hx => by
    show train_beyond__rulebook_train_place_2_0 N a t.l t.l.length (n + 1) s _ = _
    have hlt := (List.getElem?_eq_some_iff.1 hx).1
    rw [train_beyond__rulebook_train_place_2_0, if_pos (dpos (by omega)), getI_nat hx, bind_some']
    rfl) t.l.length N 0 (by have := h.ln; omega) (by omega)
  simp only [Int.natCast_zero, List.drop_zero, List.take_zero, sumL_nil] at hb
  unfold train_beyond__rulebook_train_place_2
  rw [hb, bind_some']
  rcases res_first (pSum 2 a t.l) t.l 0 with ⟨h1, h2⟩ | ⟨h1, h2⟩
  · rw [h1, h2]
  · rw [h1]
theorem beyond3 (N : Nat) (hN : 1001 ≤ N) {t : Train} (h : Vd t.l) (a : Int) : train_beyond__rulebook_train_place_3 N t a = some (firstI (pSum 3 a t.l) 0 t.l) := by
  have hb := beyond_gen (F := fun n s i => train_beyond__rulebook_train_place_3_0 N a t.l t.l.length n s i) (k := 3) (a := a) h (fun n s => by
    show train_beyond__rulebook_train_place_3_0 N a t.l t.l.length (n + 1) s _ = _
    rw [train_beyond__rulebook_train_place_3_0, if_neg (dneg (by omega))]) (fun n i s x hx => by
    show train_beyond__rulebook_train_place_3_0 N a t.l t.l.length (n + 1) s _ = _
    have hlt := (List.getElem?_eq_some_iff.1 hx).1
    rw [train_beyond__rulebook_train_place_3_0, if_pos (dpos (by omega)), getI_nat hx, bind_some']
    rfl) t.l.length N 0 (by have := h.ln; omega) (by omega)
  simp only [Int.natCast_zero, List.drop_zero, List.take_zero, sumL_nil] at hb
  unfold train_beyond__rulebook_train_place_3
  rw [hb, bind_some']
  rcases res_first (pSum 3 a t.l) t.l 0 with ⟨h1, h2⟩ | ⟨h1, h2⟩
  · rw [h1, h2]
  · rw [h1]
theorem size_ok (N : Nat) (k : Int) (w : Wagon) : r36_size N k w = some (szOf k w) := by
  unfold r36_size szOf
  simp only [lt_def, beq_iff_eq]
  split
  · rfl
  · split <;> rfl
/-- The reference adds up the first wagons. -/
theorem rsum_loop (N : Nat) {l : List Wagon} (h : Vd l) (r : Rule) {j : Nat} (hj : j < l.length) : ∀ (q n i : Nat), q < n → i + q = j + 1 →
    r36_breaks_2 N l j r n (sumL (szOf r.kind) (l.take i)) i = some (sumL (szOf r.kind) (l.take (j + 1)))
  | q, 0, i, hn, _ => by omega
  | 0, n + 1, i, hn, hi => by
    obtain rfl : i = j + 1 := by omega
    rw [r36_breaks_2, if_neg (lneg (by omega))]
  | q + 1, n + 1, i, hn, hi => by
    have hlt : i < l.length := by omega
    have hl := h.ln
    have tb := take_bound (szOf_rg h r.kind) h.ln (i + 1)
    have ts := take_sum (f := szOf r.kind) (at_lt hlt)
    rw [r36_breaks_2, if_pos (lpos (by omega)), getI_nat (at_lt hlt), bind_some', size_ok, bind_some', lt_def, lt_def, ← ts, w64 (by omega) (by omega), w64s (by omega)]
    exact rsum_loop N h r hj q n (i + 1) (by omega) (by omega)
/-! ### Classes that stand apart -/
def cls (a b : Int) (x y : Wagon) : Bool := decide ((x.goods = a ∧ y.goods = b) ∨ (x.goods = b ∧ y.goods = a))
/-- Does a wagon ahead stand too near? -/
def pNear (r : Rule) (j : Nat) (w : Wagon) (k : Nat) (x : Wagon) : Bool := cls r.a r.b x w && decide ((j : Int) - k - 1 < r.c)
def pApart (r : Rule) (l : List Wagon) (j : Nat) (w : Wagon) : Bool := decide (0 ≤ firstI (pNear r j w) 0 (l.take j))
theorem apart1 (N : Nat) {r : Rule} {j k : Nat} (hj : j ≤ 1000) (hk : k ≤ 1000) (x w : Wagon) : train_apart_1 N j r k x.goods w.goods = some (pNear r j w k x) := by
  unfold train_apart_1 pNear cls
  rw [w64 (n := (j : Int) - k) (by omega) (by omega), w64 (by omega) (by omega)]
  by_cases h : (j : Int) - k - 1 < r.c
  · rw [if_pos (dpos h), dpos h, Bool.and_true]
    by_cases h1 : x.goods = r.a
    · rw [if_pos (by simpa using h1)]
      by_cases h2 : w.goods = r.b
      · rw [if_pos (by simpa using h2)]; simp [h1, h2]
      · rw [if_neg (by simpa using h2)]
        by_cases h3 : x.goods = r.b
        · rw [if_pos (by simpa using h3)]
          refine sbe ?_
          simp only [beq_iff_eq, decide_eq_true_eq]; omega
        · rw [if_neg (by simpa using h3)]
          refine sbe ?_
          simp only [Bool.false_eq_true, decide_eq_true_eq, false_iff]; omega
    · rw [if_neg (by simpa using h1)]
      by_cases h3 : x.goods = r.b
      · rw [if_pos (by simpa using h3)]
        refine sbe ?_
        simp only [beq_iff_eq, decide_eq_true_eq]; omega
      · rw [if_neg (by simpa using h3)]
        refine sbe ?_
        simp only [Bool.false_eq_true, decide_eq_true_eq, false_iff]; omega
  · rw [if_neg (dneg h), decide_eq_false h, Bool.and_false]
theorem classes_ok (N : Nat) (a b : Int) (x y : Wagon) : r36_classes N x y a b = some (cls a b x y) := by
  unfold r36_classes r36_classes_0 cls
  simp only [lt_def, beq_iff_eq]
  repeat' split
  all_goals
    rw [bind_some']
    refine sbe ?_
    simp only [beq_iff_eq, decide_eq_true_eq, Bool.false_eq_true, true_iff, false_iff]
    omega
theorem near_ok (N : Nat) {r : Rule} {l : List Wagon} (hl : l.length ≤ 1000) {j k : Nat} {x w : Wagon} (hw : l[j]? = some w) (hx : l[k]? = some x) : r36_breaks_4 N l j r k = some (pNear r j w k x) := by
  have h1 := (List.getElem?_eq_some_iff.1 hw).1
  have h2 := (List.getElem?_eq_some_iff.1 hx).1
  unfold r36_breaks_4 pNear
  rw [getI_nat hx, bind_some', getI_nat hw, bind_some', classes_ok, bind_some', w64 (n := (j : Int) - k) (by omega) (by omega), w64 (by omega) (by omega)]
  cases cls r.a r.b x w <;> rfl
theorem near_res {r : Rule} {l : List Wagon} {j : Nat} {w : Wagon} : (match res (pNear r j w) (fun _ _ => true) 0 (l.take j) with | .inl _ => false | .inr y => y) = pApart r l j w := by
  unfold pApart
  have key : ∀ (m : List Wagon) (i : Nat), (match res (pNear r j w) (fun _ _ => true) i m with | .inl _ => false | .inr y => y) = decide (0 ≤ firstI (pNear r j w) i m) := by
    intro m
    induction m with
    | nil => intro i; rfl
    | cons x m ih =>
      intro i
      rw [res, firstI]
      by_cases hp : pNear r j w i x = true
      · rw [if_pos hp, if_pos hp, lpos (by omega)]
      · rw [if_neg hp, if_neg hp]; exact ih _
  exact key _ _
theorem apart_ok (N : Nat) (hN : 1001 ≤ N) {t : Train} (hl : t.l.length ≤ 1000) {r : Rule} {j : Nat} {w : Wagon} (hw : t.l[j]? = some w) : train_apart N t r j = some (pApart r t.l j w) := by
  have hj := (List.getElem?_eq_some_iff.1 hw).1
  have hlen : (t.l.take j).length = j := by simp; omega
  have h := first_gen (l := t.l.take j) (pNear r j w) (fun _ _ => true) (fun n k => train_apart_0 N j t r j n k) (fun n => by
    show train_apart_0 N j t r j (n + 1) _ = _
    rw [train_apart_0, if_neg (dneg (by omega))]) (fun n k x hx => by
    show train_apart_0 N j t r j (n + 1) _ = _
    have hlt := (List.getElem?_eq_some_iff.1 hx).1
    have hx' : t.l[k]? = some x := by rw [List.getElem?_take] at hx; split at hx <;> simp_all
    rw [train_apart_0, if_pos (dpos (by omega)), getI_nat hx', bind_some', getI_nat hw, bind_some', apart1 N (by omega) (by omega), bind_some', w64s (by omega)]) j N 0 (by omega) (by omega)
  simp only [Int.natCast_zero, List.drop_zero] at h
  unfold train_apart
  rw [h, bind_some', ← near_res]
  cases res (pNear r j w) (fun _ _ => true) 0 (t.l.take j) <;> rfl
theorem rapart_ok (N : Nat) (hN : 1001 ≤ N) {l : List Wagon} (hl : l.length ≤ 1000) {r : Rule} {j : Nat} {w : Wagon} (hw : l[j]? = some w) : r36_breaks_3 N l j r N 0 = some (res (pNear r j w) (fun _ _ => true) 0 (l.take j)) := by
  have hj := (List.getElem?_eq_some_iff.1 hw).1
  have hlen : (l.take j).length = j := by simp; omega
  have h := first_gen (l := l.take j) (pNear r j w) (fun _ _ => true) (fun n k => r36_breaks_3 N l j r n k) (fun n => by
    show r36_breaks_3 N l j r (n + 1) _ = _
    rw [r36_breaks_3, if_neg (dneg (by omega))]) (fun n k x hx => by
    show r36_breaks_3 N l j r (n + 1) _ = _
    have hlt := (List.getElem?_eq_some_iff.1 hx).1
    have hx' : l[k]? = some x := by rw [List.getElem?_take] at hx; split at hx <;> simp_all
    rw [r36_breaks_3, if_pos (dpos (by omega)), near_ok N hl hw hx', bind_some', lt_def, w64s (by omega)]) j N 0 (by omega) (by omega)
  simpa using h
end Go.W
end
section
set_option linter.unusedVariables false
set_option linter.unusedSimpArgs false
set_option maxRecDepth 100000
namespace Go.W
open Go.AM
def pEng (r : Rule) (i : Nat) (w : Wagon) : Bool := (w.goods == r.a) && decide ((i : Int) < r.b)
def pLoad (r : Rule) (_ : Nat) (w : Wagon) : Bool := decide (r.a * w.axles < w.mass)
def pLight (r : Rule) (l : List Wagon) (i : Nat) (w : Wagon) : Bool := decide (w.mass ≤ r.a) && decide (r.b < sumL (·.mass) (l.drop (i + 1)))
theorem firstM {l : List Wagon} {p : Nat → Wagon → Bool} {x : Option (Sum Unit Int)} (h : x = some (res p (fun i _ => (i : Int)) 0 l)) : (Option.bind x fun y => match y with | .inl _ => some (-1) | .inr y => some y) = some (firstI p 0 l) := by
  rw [h, bind_some']
  rcases res_first p l 0 with ⟨h1, h2⟩ | ⟨h1, h2⟩
  · rw [h1, h2]
  · rw [h1]
theorem first4 (N : Nat) (hN : 1001 ≤ N) {t : Train} (hl : t.l.length ≤ 1000) (r : Rule) : train_first__rulebook_train_place_4 N t (t, r) = some (firstI (pApart r t.l) 0 t.l) := by
  unfold train_first__rulebook_train_place_4
  refine firstM ?_
  have h := first_gen (l := t.l) (pApart r t.l) (fun i _ => (i : Int)) (fun n i => train_first__rulebook_train_place_4_0 N (t, r) t.l t.l.length n i) (fun n => by
    show train_first__rulebook_train_place_4_0 N (t, r) t.l t.l.length (n + 1) _ = _
    rw [train_first__rulebook_train_place_4_0, if_neg (dneg (by omega))]) (fun n i x hx => by
    show train_first__rulebook_train_place_4_0 N (t, r) t.l t.l.length (n + 1) _ = _
    have hlt := (List.getElem?_eq_some_iff.1 hx).1
    rw [train_first__rulebook_train_place_4_0, if_pos (dpos (by omega)), getI_nat hx, bind_some', rulebook_train_place_4, apart_ok N hN hl hx, bind_some', bind_some', w64s (by omega)]) t.l.length N 0 (by omega) (by omega)
  simpa using h
theorem first5 (N : Nat) (hN : 1001 ≤ N) {t : Train} (hl : t.l.length ≤ 1000) (r : Rule) : train_first__rulebook_train_place_5 N t r = some (firstI (pEng r) 0 t.l) := by
  unfold train_first__rulebook_train_place_5
  refine firstM ?_
  have h := first_gen (l := t.l) (pEng r) (fun i _ => (i : Int)) (fun n i => train_first__rulebook_train_place_5_0 N r t.l t.l.length n i) (fun n => by
    show train_first__rulebook_train_place_5_0 N r t.l t.l.length (n + 1) _ = _
    rw [train_first__rulebook_train_place_5_0, if_neg (dneg (by omega))]) (fun n i x hx => by
    show train_first__rulebook_train_place_5_0 N r t.l t.l.length (n + 1) _ = _
    have hlt := (List.getElem?_eq_some_iff.1 hx).1
    have e : rulebook_train_place_5_0 N i r x = some (pEng r i x) := by
      unfold rulebook_train_place_5_0 pEng
      split <;> simp_all [lt_def]
    rw [train_first__rulebook_train_place_5_0, if_pos (dpos (by omega)), getI_nat hx, bind_some', rulebook_train_place_5, e, bind_some', bind_some', w64s (by omega)]) t.l.length N 0 (by omega) (by omega)
  simpa using h
theorem load_w {r : Rule} (hr : rvalid r = true) {l : List Wagon} (h : Vd l) {i : Nat} {x : Wagon} (hx : l[i]? = some x) : IntKind.wrap .i64 (r.a * x.axles) = r.a * x.axles := by
  have hr := rvalid_iff.1 hr
  have hx := h.at hx
  have h1 : 0 ≤ r.a * x.axles := Int.mul_nonneg (by omega) (by omega)
  have h2 : r.a * x.axles ≤ 1000000 * 6 := Int.mul_le_mul (by omega) (by omega) (by omega) (by omega)
  exact w64 (by omega) (by omega)
theorem first6 (N : Nat) (hN : 1001 ≤ N) {t : Train} (h : Vd t.l) {r : Rule} (hr : rvalid r = true) : train_first__rulebook_train_place_6 N t r = some (firstI (pLoad r) 0 t.l) := by
  have hl := h.ln
  unfold train_first__rulebook_train_place_6
  refine firstM ?_
  have h := first_gen (l := t.l) (pLoad r) (fun i _ => (i : Int)) (fun n i => train_first__rulebook_train_place_6_0 N r t.l t.l.length n i) (fun n => by
    show train_first__rulebook_train_place_6_0 N r t.l t.l.length (n + 1) _ = _
    rw [train_first__rulebook_train_place_6_0, if_neg (dneg (by omega))]) (fun n i x hx => by
    show train_first__rulebook_train_place_6_0 N r t.l t.l.length (n + 1) _ = _
    have hlt := (List.getElem?_eq_some_iff.1 hx).1
    rw [train_first__rulebook_train_place_6_0, if_pos (dpos (by omega)), getI_nat hx, bind_some', rulebook_train_place_6, lt_def, bind_some', load_w hr h hx, w64s (by omega)]
    rfl) t.l.length N 0 (by omega) (by omega)
  simpa using h
theorem mass_rg {l : List Wagon} (h : Vd l) : ∀ w ∈ l, 0 ≤ w.mass ∧ w.mass ≤ 2000 := fun w hw => by have := h.rg w hw; omega
theorem behind_loop (N : Nat) {l : List Wagon} (hl : l.length ≤ 96) (h : ∀ w ∈ l, 0 ≤ w.mass ∧ w.mass ≤ 2000) (hN : 1001 ≤ N) : train_behind_0 N l l.length N 0 0 = some (sumL (·.mass) l) := by
  have hb := fold_gen (l := l) (fun i (x : Wagon) (s : Int) => s + x.mass) (fun s => s) (fun i s => s = sumL (·.mass) (l.take i)) (fun n s i => train_behind_0 N l l.length n s i) (fun n s _ => by
    show train_behind_0 N l l.length (n + 1) s _ = _
    rw [train_behind_0, if_neg (dneg (by omega))]) (fun n i x s hx hs => by
    show train_behind_0 N l l.length (n + 1) s _ = train_behind_0 N l l.length n _ _ ∧ _
    have hlt := (List.getElem?_eq_some_iff.1 hx).1
    have tb := take_bound (f := (·.mass)) h hl (i + 1)
    have ts := take_sum (f := (·.mass)) hx
    rw [train_behind_0, if_pos (dpos (by omega)), getI_nat hx, bind_some', lt_def, hs, ← ts, w64 (by omega) (by omega), w64s (by omega)]
    exact ⟨rfl, rfl⟩) l.length N 0 0 (by omega) (by omega) rfl
  simp only [Int.natCast_zero, List.drop_zero] at hb
  rw [hb.1, hb.2, List.take_length]
theorem behind_ok (N : Nat) (hN : 1001 ≤ N) {t : Train} (h : Vd t.l) {i : Nat} (hi : i < t.l.length) : train_behind N t i = some (sumL (·.mass) (t.l.drop (i + 1))) := by
  have hl := h.ln
  unfold train_behind
  rw [w64s (by omega), cutI_drop (by omega), bind_some', behind_loop N (by simp; omega) (fun w hw => mass_rg h w (List.mem_of_mem_drop hw)) hN]
  rfl
theorem first7 (N : Nat) (hN : 1001 ≤ N) {t : Train} (h : Vd t.l) (r : Rule) : train_first__rulebook_train_place_7 N t (r, t) = some (firstI (pLight r t.l) 0 t.l) := by
  have hl := h.ln
  unfold train_first__rulebook_train_place_7
  refine firstM ?_
  have h := first_gen (l := t.l) (pLight r t.l) (fun i _ => (i : Int)) (fun n i => train_first__rulebook_train_place_7_0 N (r, t) t.l t.l.length n i) (fun n => by
    show train_first__rulebook_train_place_7_0 N (r, t) t.l t.l.length (n + 1) _ = _
    rw [train_first__rulebook_train_place_7_0, if_neg (dneg (by omega))]) (fun n i x hx => by
    show train_first__rulebook_train_place_7_0 N (r, t) t.l t.l.length (n + 1) _ = _
    have hlt := (List.getElem?_eq_some_iff.1 hx).1
    have e : rulebook_train_place_7_0 N i r t x = some (pLight r t.l i x) := by
      unfold rulebook_train_place_7_0 pLight
      rw [behind_ok N hN h hlt]
      by_cases hm : x.mass ≤ r.a
      · rw [if_pos (lpos hm), lpos hm]; rfl
      · rw [if_neg (lneg hm), decide_eq_false hm]; rfl
    rw [train_first__rulebook_train_place_7_0, if_pos (dpos (by omega)), getI_nat hx, bind_some', rulebook_train_place_7, e, bind_some', bind_some', w64s (by omega)]) t.l.length N 0 (by omega) (by omega)
  simpa using h
theorem rlight_loop (N : Nat) {l : List Wagon} (h : Vd l) {j : Nat} (hj : j ≤ l.length) : ∀ (q n i : Nat), q < n → i + q = l.length → j ≤ i →
    r36_breaks_6 N l n (sumL (·.mass) (l.take i) - sumL (·.mass) (l.take j)) i = some (sumL (·.mass) (l.drop j))
  | q, 0, i, hn, _, _ => by omega
  | 0, n + 1, i, hn, hi, _ => by
    obtain rfl : i = l.length := by omega
    rw [r36_breaks_6, if_neg (dneg (by omega)), List.take_length]
    have := sumL_append (·.mass) (l.take j) (l.drop j)
    rw [List.take_append_drop] at this
    congr 1; omega
  | q + 1, n + 1, i, hn, hi, hij => by
    have hlt : i < l.length := by omega
    have hl := h.ln
    have tb := take_bound (f := (·.mass)) (mass_rg h) h.ln (i + 1)
    have tb2 := take_bound (f := (·.mass)) (mass_rg h) h.ln j
    have ts := take_sum (f := (·.mass)) (at_lt hlt)
    have hw := mass_rg h _ (List.getElem_mem hlt)
    rw [r36_breaks_6, if_pos (dpos (by omega)), getI_nat (at_lt hlt), bind_some', lt_def, lt_def, show sumL (·.mass) (l.take i) - sumL (·.mass) (l.take j) + l[i].mass = sumL (·.mass) (l.take (i + 1)) - sumL (·.mass) (l.take j) by omega, w64 (by omega) (by omega), w64s (by omega)]
    exact rlight_loop N h hj q n (i + 1) (by omega) (by omega) (by omega)
/-- The condition of a rule of places. -/
def pOf (r : Rule) (l : List Wagon) : Nat → Wagon → Bool :=
  if r.kind = 1 ∨ r.kind = 2 ∨ r.kind = 3 then pSum r.kind r.a l else if r.kind = 5 then pApart r l else if r.kind = 6 then pEng r else if r.kind = 8 then pLoad r else pLight r l
theorem breaks_ok (N : Nat) (hN : 1001 ≤ N) {r : Rule} (hr : rvalid r = true) (h4 : r.kind ≠ 4) (h7 : r.kind ≠ 7) {l : List Wagon} (h : Vd l) {i : Nat} {w : Wagon} (hw : l[i]? = some w) : r36_breaks N r l i = some (pOf r l i w) := by
  have hlt := (List.getElem?_eq_some_iff.1 hw).1
  have hl := h.ln
  have hv := rvalid_iff.1 hr
  unfold r36_breaks r36_breaks_0 pOf
  rw [lt_def, show r36_breaks_1 N r.kind (r.kind == 1) = some (decide (r.kind = 1 ∨ r.kind = 2 ∨ r.kind = 3)) from by
    unfold r36_breaks_1
    by_cases a : r.kind = 1 <;> by_cases b : r.kind = 2 <;> by_cases c : r.kind = 3 <;> simp [a, b, c, lt_def], bind_some']
  by_cases a : r.kind = 1 ∨ r.kind = 2 ∨ r.kind = 3
  · have hs := rsum_loop N h r hlt (i + 1) N 0 (by omega) (by omega)
    simp only [Int.natCast_zero, List.take_zero, sumL_nil] at hs
    rw [if_pos (by simpa using a), if_pos a, hs]
    rfl
  · rw [if_neg (by simpa using a), if_neg a, lt_def]
    by_cases b : r.kind = 5
    · rw [if_pos (by simpa using b), if_pos b, rapart_ok N hN (by omega) hw, bind_some', ← near_res]
      cases res (pNear r i w) (fun _ _ => true) 0 (l.take i) <;> rfl
    · rw [if_neg (by simpa using b), if_neg b, lt_def]
      by_cases c : r.kind = 6
      · rw [if_pos (by simpa using c), if_pos c, show r36_breaks_5 N l i r = some (pEng r i w) from by
          unfold r36_breaks_5 pEng
          rw [getI_nat hw, bind_some']
          split <;> simp_all [lt_def]]
        rfl
      · rw [if_neg (by simpa using c), if_neg c, lt_def]
        by_cases d : r.kind = 8
        · rw [if_pos (by simpa using d), if_pos d, getI_nat hw, bind_some', bind_some', lt_def, load_w hr h hw]
          rfl
        · rw [if_neg (by simpa using d), if_neg d, lt_def, if_pos (by simp; omega), lt_def, w64s (by omega)]
          have hs := rlight_loop N h (j := i + 1) (by omega) (l.length - (i + 1)) N (i + 1) (by omega) (by omega) (by omega)
          rw [Int.sub_self] at hs
          rw [hs, bind_some', show r36_breaks_7 N l i r (sumL (·.mass) (l.drop (i + 1))) = some (pLight r l i w) from by
            unfold r36_breaks_7 pLight
            rw [getI_nat hw, bind_some']
            by_cases hm : w.mass ≤ r.a
            · rw [if_pos (lpos hm), lpos hm]; rfl
            · rw [if_neg (lneg hm), decide_eq_false hm]; rfl]
          rfl
/-! ### The last wagons -/
/-- How many wagons are braked. -/
def cnt (off : List Int) : Nat → List Wagon → Int
  | _, [] => 0
  | i, w :: l => (if 0 < w.brake ∧ (i : Int) ∉ off then 1 else 0) + cnt off (i + 1) l
theorem cnt_bound (off : List Int) : ∀ (l : List Wagon) (i : Nat), 0 ≤ cnt off i l ∧ cnt off i l ≤ l.length
  | [], i => by simp [cnt]
  | w :: l, i => by
    have := cnt_bound off l (i + 1)
    rw [cnt, List.length_cons]
    split <;> omega
theorem has_ok (N : Nat) (hN : 1001 ≤ N) {l : List Int} (hl : l.length ≤ 1000) (x : Int) : slices_Contains_int_int N l x = some (decide (x ∈ l)) := by
  have h := first_gen (l := l) (fun _ y => x == y) (fun i _ => (i : Int)) (fun n i => slices_Index_int_int_0 N l x l.length n i) (fun n => by
    show slices_Index_int_int_0 N l x l.length (n + 1) _ = _
    rw [slices_Index_int_int_0, if_neg (dneg (by omega))]) (fun n i y hy => by
    show slices_Index_int_int_0 N l x l.length (n + 1) _ = _
    have hlt := (List.getElem?_eq_some_iff.1 hy).1
    rw [slices_Index_int_int_0, if_pos (dpos (by omega)), getI_nat hy, bind_some', w64s (by omega)]) l.length N 0 (by omega) (by omega)
  simp only [Int.natCast_zero, List.drop_zero] at h
  unfold slices_Contains_int_int slices_Index_int_int
  rw [h, bind_some']
  rcases res_first (fun _ (y : Int) => x == y) l 0 with ⟨h1, h2⟩ | ⟨h1, h2⟩
  · rw [h1]
    rcases firstI_spec (fun _ (y : Int) => x == y) l 0 with ⟨_, h4⟩ | ⟨j, y, h4, _⟩
    · rw [decide_eq_false]
      · rfl
      · intro hm
        obtain ⟨j, hj⟩ := List.getElem?_of_mem hm
        have := h4 j x hj
        simp at this
    · rw [h2] at h4; omega
  · rw [h1]
    rcases firstI_spec (fun _ (y : Int) => x == y) l 0 with ⟨h3, _⟩ | ⟨j, y, h4, h5, h6, _⟩
    · omega
    · have : x ∈ l := by rw [show x = y by simpa using h6]; exact List.mem_of_getElem? h5
      rw [decide_eq_true this]
      simp only [bind_some', lt_def, lpos h2]
theorem tail_loop (N : Nat) (hN : 1001 ≤ N) {t : Train} (hl : t.l.length ≤ 1000) (ho : t.off.length ≤ 1000) : ∀ (q n i : Nat) (s : Int), q < n → i + q = t.l.length → 0 ≤ s → s ≤ i →
    train_tail_0 N t n s i = some (s + cnt t.off i (t.l.drop i)) ∧ r36_place_1 N t.l t.off t.l.length n s i = some (s + cnt t.off i (t.l.drop i))
  | q, 0, i, s, hn, _, _, _ => by omega
  | 0, n + 1, i, s, hn, hi, _, _ => by
    obtain rfl : i = t.l.length := by omega
    rw [train_tail_0, r36_place_1, if_neg (dneg (by omega)), if_neg (dneg (by omega)), List.drop_length, cnt, Int.add_zero]
    exact ⟨rfl, rfl⟩
  | q + 1, n + 1, i, s, hn, hi, h0, h1 => by
    have hlt : i < t.l.length := by omega
    have e : train_tail_2 N t i = some (decide (0 < t.l[i].brake ∧ (i : Int) ∉ t.off)) ∧ r36_place_3 N t.l t.off i = some (decide (0 < t.l[i].brake ∧ (i : Int) ∉ t.off)) := by
      unfold train_tail_2 r36_place_3
      rw [getI_nat (at_lt hlt), bind_some', bind_some', has_ok N hN ho, off_ok N ho hN, bind_some']
      by_cases hb : 0 < t.l[i].brake
      · rw [if_pos (dpos hb)]; simp [hb]
      · rw [if_neg (dneg hb)]; simp [hb]
    rw [train_tail_0, r36_place_1, if_pos (dpos (by omega)), if_pos (dpos (by omega)), train_tail_1, r36_place_2, e.1, e.2, drop_at (at_lt hlt), cnt]
    simp only [bind_some', lt_def, w64s (show i < 9223372036854775807 by omega)]
    by_cases hc : 0 < t.l[i].brake ∧ (i : Int) ∉ t.off
    · rw [if_pos (by simpa using hc), if_pos hc, w64 (n := s + 1) (by omega) (by omega), ← Int.add_assoc]
      simp only [bind_some']
      exact tail_loop N hN hl ho q n (i + 1) (s + 1) (by omega) (by omega) (by omega) (by omega)
    · rw [if_neg (by simpa using hc), if_neg hc, Int.zero_add]
      simp only [bind_some']
      exact tail_loop N hN hl ho q n (i + 1) s (by omega) (by omega) (by omega) (by omega)
/-- How many wagons at the end a rule looks at. -/
def lastN (r : Rule) (l : List Wagon) : Nat := (min r.a (l.length : Int)).toNat
def tailB (r : Rule) (l : List Wagon) (off : List Int) : Bool := decide (cnt off (l.length - lastN r l) (l.drop (l.length - lastN r l)) < min r.b (lastN r l))
theorem lastN_eq {r : Rule} (hr : rvalid r = true) (l : List Wagon) : min r.a (l.length : Int) = (lastN r l : Int) ∧ lastN r l ≤ l.length := by
  have := rvalid_iff.1 hr
  unfold lastN
  omega
theorem tail_ok (N : Nat) (hN : 1001 ≤ N) {t : Train} (hl : t.l.length ≤ 96) (ho : t.off.length ≤ 1000) {r : Rule} (hr : rvalid r = true) : train_tail N t r = some (tailB r t.l t.off) := by
  obtain ⟨e, hle⟩ := lastN_eq hr t.l
  unfold train_tail tailB
  simp only [lt_def, e]
  rw [show (t.l.length : Int) - (lastN r t.l : Int) = ((t.l.length - lastN r t.l : Nat) : Int) by omega, w64 (by omega) (by omega),
    (tail_loop N hN (by omega) ho (lastN r t.l) N (t.l.length - lastN r t.l) 0 (by omega) (by omega) (by omega) (by omega)).1, bind_some', Int.zero_add]
/-- The place at which a train breaks a rule, or -1. -/
def plc (r : Rule) (l : List Wagon) (off : List Int) (pc : Int) : Int :=
  if r.kind = 4 then (if 0 < l.length ∧ pc < r.a then (l.length : Int) else -1) else if r.kind = 7 then (if tailB r l off = true then (l.length : Int) else -1) else firstI (pOf r l) 0 l
theorem place_ok' (N : Nat) (hN : 1001 ≤ N) {t : Train} (h : Vd t.l) (ho : t.off.length ≤ 1000) {r : Rule} (hr : rvalid r = true) : train_place N t r = some (plc r t.l t.off t.total.percent) := by
  have hl := h.ln
  have hv := rvalid_iff.1 hr
  unfold train_place plc
  simp only [lt_def, beq_iff_eq]
  by_cases k1 : r.kind = 1
  · rw [if_pos k1, if_neg (by omega), if_neg (by omega), beyond1 N hN h, bind_some', show pOf r t.l = pSum 1 r.a t.l from by rw [pOf, if_pos (.inl k1), k1]]
  rw [if_neg k1]
  by_cases k2 : r.kind = 2
  · rw [if_pos k2, if_neg (by omega), if_neg (by omega), beyond2 N hN h, bind_some', show pOf r t.l = pSum 2 r.a t.l from by rw [pOf, if_pos (.inr (.inl k2)), k2]]
  rw [if_neg k2]
  by_cases k3 : r.kind = 3
  · rw [if_pos k3, if_neg (by omega), if_neg (by omega), beyond3 N hN h, bind_some', show pOf r t.l = pSum 3 r.a t.l from by rw [pOf, if_pos (.inr (.inr k3)), k3]]
  rw [if_neg k3]
  have kk : ¬ (r.kind = 1 ∨ r.kind = 2 ∨ r.kind = 3) := by omega
  by_cases k4 : r.kind = 4
  · rw [if_pos k4, if_pos k4]
    unfold train_place_0 train_end
    by_cases hz : 0 < t.l.length
    · rw [if_pos (dpos (by omega))]
      by_cases hp : t.total.percent < r.a
      · rw [if_pos (dpos hp), if_pos ⟨hz, hp⟩]; rfl
      · rw [if_neg (dneg hp), if_neg (fun hh => hp hh.2)]; rfl
    · rw [if_neg (dneg (by omega)), if_neg (by simp), if_neg (fun hh => hz hh.1)]; rfl
  rw [if_neg k4, if_neg k4]
  by_cases k5 : r.kind = 5
  · rw [if_pos k5, if_neg (by omega), first4 N hN (by omega), bind_some', show pOf r t.l = pApart r t.l from by rw [pOf, if_neg kk, if_pos k5]]
  rw [if_neg k5]
  by_cases k6 : r.kind = 6
  · rw [if_pos k6, if_neg (by omega), first5 N hN (by omega), bind_some', show pOf r t.l = pEng r from by rw [pOf, if_neg kk, if_neg k5, if_pos k6]]
  rw [if_neg k6]
  by_cases k7 : r.kind = 7
  · rw [if_pos k7, if_pos k7, tail_ok N hN hl ho hr, bind_some']
    unfold train_end
    cases tailB r t.l t.off <;> rfl
  rw [if_neg k7, if_neg k7]
  by_cases k8 : r.kind = 8
  · rw [if_pos k8, first6 N hN h hr, bind_some', show pOf r t.l = pLoad r from by rw [pOf, if_neg kk, if_neg k5, if_neg k6, if_pos k8]]
  rw [if_neg k8, first7 N hN h, bind_some', show pOf r t.l = pLight r t.l from by rw [pOf, if_neg kk, if_neg k5, if_neg k6, if_neg k8]]
theorem rplace_ok (N : Nat) (hN : 1001 ≤ N) {l : List Wagon} (hF : l.length ≤ 96 → ∀ w ∈ l, Fu N w) (h : Vd l) {off : List Int} (ho : off.length ≤ 1000) {r : Rule} (hr : rvalid r = true) : r36_place N r l off = some (plc r l off (tot l off).1.percent) := by
  have hl := h.ln
  have hv := rvalid_iff.1 hr
  unfold r36_place plc
  simp only [lt_def, beq_iff_eq]
  by_cases k4 : r.kind = 4
  · rw [if_pos k4, if_pos k4, (tot_ok N hN hF ho).2, bind_some']
    unfold r36_place_0
    by_cases hz : 0 < l.length
    · rw [if_pos (dpos (by omega)), bind_some']
      by_cases hp : (tot l off).1.percent < r.a
      · rw [if_pos (dpos hp), if_pos ⟨hz, hp⟩]
      · rw [if_neg (dneg hp), if_neg (fun hh => hp hh.2)]
    · rw [if_neg (dneg (by omega)), bind_some', if_neg (by simp), if_neg (fun hh => hz hh.1)]
  rw [if_neg k4, if_neg k4]
  by_cases k7 : r.kind = 7
  · rw [if_pos k7, if_pos k7]
    obtain ⟨e, hle⟩ := lastN_eq hr l
    unfold tailB
    simp only [e]
    have := (tail_loop N hN (t := Train.mk l off (tot l off).1) (by dsimp only; omega) ho (lastN r l) N (l.length - lastN r l) 0 (by omega) (by dsimp only; omega) (by omega) (by omega)).2
    dsimp only at this
    rw [show (l.length : Int) - (lastN r l : Int) = ((l.length - lastN r l : Nat) : Int) by omega, w64 (by omega) (by omega), this, bind_some', Int.zero_add]
    by_cases hc : cnt off (l.length - lastN r l) (l.drop (l.length - lastN r l)) < min r.b (lastN r l)
    · rw [if_pos (dpos hc), if_pos (dpos hc)]
    · rw [if_neg (dneg hc), if_neg (dneg hc)]
  rw [if_neg k7, if_neg k7]
  refine firstM ?_
  have h := first_gen (l := l) (pOf r l) (fun i _ => (i : Int)) (fun n i => r36_place_4 N l r l.length n i) (fun n => by
    show r36_place_4 N l r l.length (n + 1) _ = _
    rw [r36_place_4, if_neg (dneg (by omega))]) (fun n i x hx => by
    show r36_place_4 N l r l.length (n + 1) _ = _
    have hlt := (List.getElem?_eq_some_iff.1 hx).1
    rw [r36_place_4, if_pos (dpos (by omega)), breaks_ok N hN hr k4 k7 h hx, bind_some', lt_def, w64s (by omega)]) l.length N 0 (by omega) (by omega)
  simpa using h
/-- What 'Check' answers. -/
def checkF (l : List Wagon) (off : List Int) (pc : Int) : List Rule → Int × Int × Int
  | [] => (0, -1, 0)
  | r :: rs => if 0 ≤ plc r l off pc then (r.number, plc r l off pc, 0) else checkF l off pc rs
def checkR (rs : List Rule) (l : List Wagon) (off : List Int) : Int × Int × Int :=
  if rErr rs = 0 then (if (tot l off).2 = 0 then checkF l off (tot l off).1.percent rs else (0, 0, (tot l off).2)) else (0, 0, rErr rs)
theorem check_res (l : List Wagon) (off : List Int) (pc : Int) : ∀ (rs : List Rule) (i : Nat), (match res (fun _ r => decide (0 ≤ plc r l off pc)) (fun _ r => (r.number, plc r l off pc, (0 : Int))) i rs with | .inl _ => some ((0 : Int), (-1 : Int), (0 : Int)) | .inr y => some y) = some (checkF l off pc rs)
  | [], i => rfl
  | r :: rs, i => by
    rw [res, checkF]
    by_cases h : 0 ≤ plc r l off pc
    · rw [if_pos (lpos h), if_pos h]
    · rw [if_neg (lneg h), if_neg h]; exact check_res l off pc rs (i + 1)
theorem check_ok (N : Nat) (hN : 1001 ≤ N) {rs : List Rule} (hrs : rs.length ≤ 1000) {l : List Wagon} (hF : l.length ≤ 96 → ∀ w ∈ l, Fu N w) {off : List Int} (ho : off.length ≤ 1000) : rulebook_Check N rs l off = some (checkR rs l off) ∧ r36_Check N rs l off = some (checkR rs l off) := by
  obtain ⟨t1, t2⟩ := tot_ok N hN hF ho
  obtain ⟨v1, v2⟩ := rules_ok N hN hrs
  unfold rulebook_Check r36_Check checkR
  by_cases hr : rErr rs = 0
  · by_cases he : (tot l off).2 = 0
    · have hv := Vd.of (tot_bound he).1
      have hz := rErr_zero hr
      have h1 := first_gen (l := rs) (fun _ r => decide (0 ≤ plc r l off (tot l off).1.percent)) (fun _ r => (r.number, plc r l off (tot l off).1.percent, (0 : Int))) (fun n i => rulebook_Check_0 N (Train.mk l off (tot l off).1) rs rs.length n i) (fun n => by
        show rulebook_Check_0 N (Train.mk l off (tot l off).1) rs rs.length (n + 1) _ = _
        rw [rulebook_Check_0, if_neg (dneg (by omega))]) (fun n i x hx => by
        show rulebook_Check_0 N (Train.mk l off (tot l off).1) rs rs.length (n + 1) _ = _
        have hlt := (List.getElem?_eq_some_iff.1 hx).1
        rw [rulebook_Check_0, if_pos (dpos (by omega)), getI_nat hx, bind_some', place_ok' N hN hv ho (hz.2 x (List.mem_of_getElem? hx)), bind_some', w64s (by omega)]) rs.length N 0 (by omega) (by omega)
      have h2 := first_gen (l := rs) (fun _ r => decide (0 ≤ plc r l off (tot l off).1.percent)) (fun _ r => (r.number, plc r l off (tot l off).1.percent, (0 : Int))) (fun n i => r36_Check_0 N rs l off n i) (fun n => by
        show r36_Check_0 N rs l off (n + 1) _ = _
        rw [r36_Check_0, if_neg (dneg (by omega))]) (fun n i x hx => by
        show r36_Check_0 N rs l off (n + 1) _ = _
        have hlt := (List.getElem?_eq_some_iff.1 hx).1
        rw [r36_Check_0, if_pos (dpos (by omega)), getI_nat hx, bind_some', rplace_ok N hN hF hv ho (hz.2 x (List.mem_of_getElem? hx)), bind_some', lt_def, w64s (by omega)]
        rfl) rs.length N 0 (by omega) (by omega)
      simp only [Int.natCast_zero, List.drop_zero] at h1 h2
      have e0 : ((tot l off).2 != 0) = false := by simp [he]
      have hc := check_res l off (tot l off).1.percent rs 0
      simp only [v1, v2, bind_some', hr, bne00, Bool.false_eq_true, if_false, if_true, t1, t2, e0, he]
      rw [show (Train.mk l off (Brakes.mk (tot l off).1.length (tot l off).1.axles (tot l off).1.mass (tot l off).1.braked (tot l off).1.percent (tot l off).1.required (tot l off).1.missing)) = Train.mk l off (tot l off).1 from rfl, h1, h2]
      exact ⟨hc, hc⟩
    · have e0 : ((tot l off).2 != 0) = true := by simpa using he
      simp only [v1, v2, bind_some', hr, bne00, Bool.false_eq_true, if_false, if_true, t1, t2, e0, he, and_self]
  · have e0 : (rErr rs != 0) = true := by simpa using hr
    simp only [v1, v2, bind_some', hr, e0, if_false, if_true, and_self]
end Go.W
end
section
set_option linter.unusedVariables false
set_option linter.unusedSimpArgs false
set_option maxRecDepth 100000
namespace Go.W
open Go.AM
theorem rule_gen (N : Nat) {c : Int} {s : Maker} (hs : Mk c s) (hc : c ≤ 800000000) {num : Int} (h1 : 1 ≤ num) (h2 : num ≤ 9999) :
    ∃ r s', yardgen_Rule N s num = some (r, s') ∧ Mk (c + 10) s' ∧ r.number = num ∧ rvalid r = true := by
  obtain ⟨k, s1, e1, k0, k1, m1⟩ := next_ok N 9 (by omega) (by omega) hs (by omega)
  unfold yardgen_Rule
  rw [e1, bind_some']
  simp only [w64 (show -9223372036854775808 ≤ 1 + k by omega) (by omega)]
  have fin : ∀ {a b cc : Int} {s' : Maker}, 0 ≤ a → a ≤ 1000000 → 0 ≤ b → b ≤ 1000000 → 0 ≤ cc → cc ≤ 1000000 → rvalid (Rule.mk num (1 + k) a b cc) = true := by
    intro a b cc s' _ _ _ _ _ _
    rw [rvalid_iff]; dsimp only; omega
  have key : ∃ r s', yardgen_Rule_0 N s1 (Rule.mk num (1 + k) 0 0 0) (1 + k) = some (s', r) ∧ Mk (c + 10) s' ∧ r.number = num ∧ rvalid r = true := by
    unfold yardgen_Rule_0
    simp only [lt_def, beq_iff_eq]
    split
    · obtain ⟨a, s2, e2, ha, m2⟩ := pick_ok N [0, 262, 700, 1500, 10000] (by simp) (by simp) m1 (by omega)
      rw [e2, bind_some']
      simp only [List.mem_cons, List.not_mem_nil, or_false] at ha
      exact ⟨_, _, rfl, m2.le (by omega), rfl, fin (s' := s2) (by omega) (by omega) (by omega) (by omega) (by omega) (by omega)⟩
    split
    · obtain ⟨a, s2, e2, ha, m2⟩ := pick_ok N [3, 8, 16, 40] (by simp) (by simp) m1 (by omega)
      rw [e2, bind_some']
      simp only [List.mem_cons, List.not_mem_nil, or_false] at ha
      exact ⟨_, _, rfl, m2.le (by omega), rfl, fin (s' := s2) (by omega) (by omega) (by omega) (by omega) (by omega) (by omega)⟩
    split
    · obtain ⟨a, s2, e2, ha, m2⟩ := pick_ok N [400, 1600, 4000, 20000] (by simp) (by simp) m1 (by omega)
      rw [e2, bind_some']
      simp only [List.mem_cons, List.not_mem_nil, or_false] at ha
      exact ⟨_, _, rfl, m2.le (by omega), rfl, fin (s' := s2) (by omega) (by omega) (by omega) (by omega) (by omega) (by omega)⟩
    split
    · obtain ⟨a, s2, e2, ha, m2⟩ := pick_ok N [0, 30, 50, 80] (by simp) (by simp) m1 (by omega)
      rw [e2, bind_some']
      simp only [List.mem_cons, List.not_mem_nil, or_false] at ha
      exact ⟨_, _, rfl, m2.le (by omega), rfl, fin (s' := s2) (by omega) (by omega) (by omega) (by omega) (by omega) (by omega)⟩
    split
    · obtain ⟨a, s2, e2, ha, m2⟩ := pick_ok N [1, 3, 9] (by simp) (by simp) m1 (by omega)
      obtain ⟨b, s3, e3, hb, m3⟩ := pick_ok N [0, 1, 3] (by simp) (by simp) m2 (by omega)
      obtain ⟨d, s4, e4, d0, d1, m4⟩ := next_ok N 4 (by omega) (by omega) m3 (by omega)
      rw [e2, bind_some', e3, bind_some', e4, bind_some']
      simp only [List.mem_cons, List.not_mem_nil, or_false] at ha hb
      exact ⟨_, _, rfl, m4.le (by omega), rfl, fin (s' := s2) (by omega) (by omega) (by omega) (by omega) (by omega) (by omega)⟩
    split
    · obtain ⟨a, s2, e2, ha, m2⟩ := pick_ok N [0, 1, 3] (by simp) (by simp) m1 (by omega)
      obtain ⟨d, s4, e4, d0, d1, m4⟩ := next_ok N 4 (by omega) (by omega) m2 (by omega)
      rw [e2, bind_some', e4, bind_some']
      simp only [List.mem_cons, List.not_mem_nil, or_false] at ha
      exact ⟨_, _, rfl, m4.le (by omega), rfl, fin (s' := s2) (by omega) (by omega) (by omega) (by omega) (by omega) (by omega)⟩
    split
    · obtain ⟨a, s2, e2, a0, a1, m2⟩ := next_ok N 5 (by omega) (by omega) m1 (by omega)
      obtain ⟨d, s4, e4, d0, d1, m4⟩ := next_ok N 4 (by omega) (by omega) m2 (by omega)
      rw [e2, bind_some', e4, bind_some']
      exact ⟨_, _, rfl, m4.le (by omega), rfl, fin (s' := s2) (by omega) (by omega) (by omega) (by omega) (by omega) (by omega)⟩
    split
    · obtain ⟨a, s2, e2, ha, m2⟩ := pick_ok N [50, 200, 500] (by simp) (by simp) m1 (by omega)
      rw [e2, bind_some']
      simp only [List.mem_cons, List.not_mem_nil, or_false] at ha
      exact ⟨_, _, rfl, m2.le (by omega), rfl, fin (s' := s2) (by omega) (by omega) (by omega) (by omega) (by omega) (by omega)⟩
    · obtain ⟨a, s2, e2, ha, m2⟩ := pick_ok N [100, 400] (by simp) (by simp) m1 (by omega)
      obtain ⟨b, s3, e3, hb, m3⟩ := pick_ok N [0, 800, 3000] (by simp) (by simp) m2 (by omega)
      rw [e2, bind_some', e3, bind_some']
      simp only [List.mem_cons, List.not_mem_nil, or_false] at ha hb
      exact ⟨_, _, rfl, m3.le (by omega), rfl, fin (s' := s2) (by omega) (by omega) (by omega) (by omega) (by omega) (by omega)⟩
  obtain ⟨r, s', g1, g2, g3, g4⟩ := key
  rw [g1, bind_some']
  exact ⟨r, s', rfl, g2, g3, g4⟩
/-- Made rules: valid, with ascending numbers. -/
def MadeR (l : List Rule) : Prop := ∀ (i : Nat) (r : Rule), l[i]? = some r → rvalid r = true ∧ 10 * (i : Int) + 1 ≤ r.number ∧ r.number ≤ 10 * (i : Int) + 9
theorem MadeR.nil : MadeR [] := fun i r h => by simp at h
theorem MadeR.snoc {l : List Rule} (h : MadeR l) {r : Rule} (hr : rvalid r = true) (h1 : 10 * (l.length : Int) + 1 ≤ r.number) (h2 : r.number ≤ 10 * (l.length : Int) + 9) : MadeR (l ++ [r]) := by
  intro i x hx
  by_cases hi : i < l.length
  · rw [List.getElem?_append_left hi] at hx; exact h i x hx
  · rw [List.getElem?_append_right (by omega)] at hx
    have hlt := (List.getElem?_eq_some_iff.1 hx).1
    simp at hlt
    have : i = l.length := by omega
    subst this
    simp at hx; subst hx; exact ⟨hr, h1, h2⟩
theorem res_none {α β : Type} {p : Nat → α → Bool} {out : Nat → α → β} : ∀ {l : List α} {i : Nat}, (∀ (j : Nat) (x : α), l[j]? = some x → p (i + j) x = false) → res p out i l = .inl ()
  | [], i, _ => rfl
  | x :: xs, i, h => by
    have h0 := h 0 x (by simp)
    rw [Nat.add_zero] at h0
    rw [res, if_neg (by rw [h0]; simp)]
    refine res_none fun j y hj => ?_
    have := h (j + 1) y (by simpa using hj)
    rwa [show i + 1 + j = i + (j + 1) by omega]
theorem MadeR.err {l : List Rule} (h : MadeR l) (hl : l.length ≤ 32) : rErr l = 0 := by
  unfold rErr
  rw [if_neg (by omega), res_none]
  intro j x hx
  obtain ⟨h1, h2, h3⟩ := h j x hx
  rw [Nat.zero_add, rp, h1]
  simp only [Bool.not_true, Bool.false_or, decide_eq_false_iff_not]
  intro hm
  obtain ⟨y, hy, he⟩ := List.mem_map.1 hm
  obtain ⟨k, hk⟩ := List.getElem?_of_mem hy
  have hk' : l[k]? = some y ∧ k < j := by
    rw [List.getElem?_take] at hk
    split at hk
    · exact ⟨hk, by assumption⟩
    · cases hk
  obtain ⟨g1, g2, g3⟩ := h k y hk'.1
  omega
theorem rules_loop (N : Nat) : ∀ (k n : Nat) (s : Maker) (out : List Rule) (c : Int), k < n → Mk c s → c + 11 * k ≤ 700000000 → out.length + k ≤ 32 → MadeR out →
    ∃ s' out', yardgen_Rules_0 N n s out k = some (s', out') ∧ Mk (c + 11 * k) s' ∧ out'.length = out.length + k ∧ MadeR out'
  | k, 0, s, out, c, hn, _, _, _, _ => by omega
  | 0, n + 1, s, out, c, hn, hs, _, hl, ho => by
    rw [yardgen_Rules_0, if_neg (dneg (by omega))]
    exact ⟨s, out, rfl, by simpa using hs, rfl, ho⟩
  | k + 1, n + 1, s, out, c, hn, hs, hc, hl, ho => by
    obtain ⟨a, s1, e1, a0, a1, m1⟩ := next_ok N 9 (by omega) (by omega) hs (by omega)
    obtain ⟨r, s2, e2, m2, n2, v2⟩ := rule_gen N m1 (by omega) (num := 10 * (out.length : Int) + 1 + a) (by omega) (by omega)
    rw [yardgen_Rules_0, if_pos (dpos (by omega)), e1, bind_some']
    simp only [w64 (n := 10 * (out.length : Int)) (by omega) (by omega), w64 (n := 10 * (out.length : Int) + 1) (by omega) (by omega), w64 (n := 10 * (out.length : Int) + 1 + a) (by omega) (by omega), e2, bind_some']
    rw [appI_ok (by simp; omega), bind_some', lt_def, w64p (by omega)]
    obtain ⟨s', out', g1, g2, g3, g4⟩ := rules_loop N k n s2 (out ++ [r]) (c + 1 + 10) (by omega) m2 (by omega) (by simp; omega) (ho.snoc v2 (by omega) (by omega))
    exact ⟨s', out', g1, g2.le (by omega), by simp at g3; omega, g4⟩
theorem rules_gen (N : Nat) (hN : 1001 ≤ N) {c : Int} {s : Maker} (hs : Mk c s) (hc : c ≤ 600000000) (m : Nat) (hm : m ≤ 20) :
    ∃ l s', yardgen_Rules N s m = some (l, s') ∧ Mk (c + 1000) s' ∧ l.length ≤ m ∧ MadeR l := by
  unfold yardgen_Rules
  rw [w64s (by omega)]
  obtain ⟨k, s1, e1, k0, k1, m1⟩ := next_ok N ((m + 1 : Nat) : Int) (by omega) (by omega) hs (by omega)
  obtain ⟨k, rfl⟩ := Int.eq_ofNat_of_zero_le k0
  obtain ⟨s2, l, e2, m2, hl, ho⟩ := rules_loop N k N s1 [] (c + 1) (by omega) m1 (by omega) (by simp; omega) MadeR.nil
  rw [e1, bind_some']
  simp only []
  rw [e2, bind_some']
  exact ⟨l, s2, rfl, m2.le (by omega), by simp at hl; omega, ho⟩
/-! ### Places -/
theorem firstI_rg {α : Type} (p : Nat → α → Bool) (l : List α) : firstI p 0 l = -1 ∨ (0 ≤ firstI p 0 l ∧ firstI p 0 l < l.length) := by
  rcases firstI_spec p l 0 with ⟨h, _⟩ | ⟨j, x, h, hj, _⟩
  · exact .inl h
  · have := (List.getElem?_eq_some_iff.1 hj).1
    right; omega
theorem plc_rg (r : Rule) (l : List Wagon) (off : List Int) (pc : Int) : plc r l off pc = -1 ∨ (0 ≤ plc r l off pc ∧ plc r l off pc ≤ l.length) := by
  unfold plc
  split
  · split
    · right; omega
    · exact .inl rfl
  · split
    · split
      · right; omega
      · exact .inl rfl
    · rcases firstI_rg (pOf r l) l with h | h
      · exact .inl h
      · right; omega
/-- The error of a part of a made list. -/
theorem sub_err {l l' : List Wagon} (h : listErr l = 0) (hs : List.Sublist l' l) : listErr l' = 0 := by
  obtain ⟨h1, h2, h3⟩ := listErr_zero.1 h
  refine listErr_zero.2 ⟨Nat.le_trans hs.length_le h1, fun w hw => h2 w (hs.subset hw), ?_⟩
  exact List.Nodup.sublist (hs.map _) h3
theorem err_fu {N : Nat} (hN : 20 ≤ N) {l : List Wagon} (h : listErr l = 0) : l.length ≤ 96 → ∀ w ∈ l, Fu N w := fun _ w hw => wagErr_fu ((listErr_zero.1 h).2.1 w hw) hN
theorem off_nil (n : Nat) : offErr n [] = 0 := rfl
end Go.W
end
section
set_option linter.unusedVariables false
set_option linter.unusedSimpArgs false
set_option maxRecDepth 100000
namespace Go.W
open Go.AM
theorem tname1 (N : Nat) {l : List UInt8} {i : Nat} {u : UInt8} (h : l[i]? = some u) : trainbuild_name_1 N l i = some (!nameCh u) := by
  unfold trainbuild_name_1 nameCh
  rw [getI_nat h]
  simp only [bind_some']
  by_cases a : 97 ≤ u.toNat
  · rw [if_neg (by simp; omega)]
    by_cases b : u.toNat ≤ 122
    · rw [if_neg (by simp; omega)]; simp [a, b]
    · rw [if_pos (by simp; omega), if_neg (by simp; omega)]
      simp [a, b, show ¬ u.toNat ≤ 57 by omega, show (57 : Int) < u.toNat by omega]
  · rw [if_pos (by simp; omega)]
    by_cases c : u.toNat < 48
    · rw [if_pos (by simp; omega)]; simp [a, show ¬ 48 ≤ u.toNat by omega]
    · rw [if_neg (by simp; omega)]
      by_cases d : u.toNat ≤ 57
      · simp [a, show 48 ≤ u.toNat by omega, d, show ¬ (57 : Int) < u.toNat by omega]
      · simp [a, show 48 ≤ u.toNat by omega, d, show (57 : Int) < u.toNat by omega]
theorem tname_loop (N : Nat) {l : List UInt8} (hl : l.length ≤ 9223372036854775807) : ∀ (k n i : Nat), k < n → i + k = l.length →
    trainbuild_name_0 N l l.length n i = some (if (l.drop i).all nameCh = true then .inl () else .inr false)
  | k, 0, i, hn, _ => by omega
  | 0, n + 1, i, hn, hi => by
    rw [trainbuild_name_0, if_neg (dneg (by omega)), List.drop_eq_nil_of_le (by omega)]
    rfl
  | k + 1, n + 1, i, hn, hi => by
    have hlt : i < l.length := by omega
    have h1 := tname_loop N hl k n (i + 1) (by omega) (by omega)
    rw [trainbuild_name_0, if_pos (dpos (by omega)), tname1 N (at_lt hlt), bind_some', drop_at (at_lt hlt), w64s (by omega), h1, List.all_cons]
    by_cases h : nameCh l[i] = true
    · simp only [h, Bool.not_true, Bool.false_eq_true, if_false, Bool.true_and, and_self]
    · simp only [Bool.not_eq_true] at h
      simp only [h, Bool.not_false, if_true, Bool.false_and, Bool.false_eq_true, if_false, and_self]
theorem tname_ok (N : Nat) {l : List UInt8} (hN : l.length < N) (hl : l.length ≤ 9223372036854775807) : trainbuild_name N l = some (nameOk l) := by
  have h1 := tname_loop N hl l.length N 0 hN (by omega)
  simp only [Int.natCast_zero, List.drop_zero] at h1
  unfold trainbuild_name nameOk
  rw [h1, bind_some']
  have h3 : trainbuild_name_2 N l = some (decide (1 ≤ l.length) && decide (l.length ≤ 12)) := by
    unfold trainbuild_name_2
    by_cases a : 1 ≤ l.length
    · rw [if_pos (lpos (by omega)), lt_def, decide_eq_true a, Bool.true_and]; congr 1; rw [decide_eq_decide]; omega
    · rw [if_neg (lneg (by omega)), decide_eq_false a, Bool.false_and]
  by_cases h : l.all nameCh = true
  · simp only [h, if_true, h3, bind_some', Bool.true_and, and_self]
  · simp only [Bool.not_eq_true] at h
    simp only [h, Bool.false_eq_true, if_false, Bool.false_and, and_self]
/-! ### Indices -/
def bidx (ds : List (List UInt8)) (d : List UInt8) : Int := firstI (fun _ x => d == x) 0 ds
theorem firstM' {α : Type} {l : List α} {p : Nat → α → Bool} {x : Option (Sum Unit Int)} (h : x = some (res p (fun i _ => (i : Int)) 0 l)) : (Option.bind x fun y => match y with | .inl _ => some (-1) | .inr y => some y) = some (firstI p 0 l) := by
  rw [h, bind_some']
  rcases res_first p l 0 with ⟨h1, h2⟩ | ⟨h1, h2⟩
  · rw [h1, h2]
  · rw [h1]
theorem idx_ok (N : Nat) (hN : 1001 ≤ N) {ds : List (List UInt8)} (hl : ds.length ≤ 1000) (d : List UInt8) : slices_Index_string_string N ds d = some (bidx ds d) := by
  unfold slices_Index_string_string bidx
  refine firstM' ?_
  have h := first_gen (l := ds) (fun _ x => d == x) (fun i _ => (i : Int)) (fun n i => slices_Index_string_string_0 N ds d ds.length n i) (fun n => by
    show slices_Index_string_string_0 N ds d ds.length (n + 1) _ = _
    rw [slices_Index_string_string_0, if_neg (dneg (by omega))]) (fun n i x hx => by
    show slices_Index_string_string_0 N ds d ds.length (n + 1) _ = _
    have hlt := (List.getElem?_eq_some_iff.1 hx).1
    rw [slices_Index_string_string_0, if_pos (dpos (by omega)), getI_nat hx, bind_some', w64s (by omega)]) ds.length N 0 (by omega) (by omega)
  simpa using h
theorem ridx_ok (N : Nat) (hN : 1001 ≤ N) {o : TrainOrder} (hl : o.dests.length ≤ 1000) (d : List UInt8) : r37_Block N o d = some (bidx o.dests d) := by
  unfold r37_Block bidx
  refine firstM' ?_
  have h := first_gen (l := o.dests) (fun _ x => d == x) (fun i _ => (i : Int)) (fun n i => r37_Block_0 N d o n i) (fun n => by
    show r37_Block_0 N d o (n + 1) _ = _
    rw [r37_Block_0, if_neg (dneg (by omega))]) (fun n i x hx => by
    show r37_Block_0 N d o (n + 1) _ = _
    have hlt := (List.getElem?_eq_some_iff.1 hx).1
    rw [r37_Block_0, if_pos (dpos (by omega)), getI_nat hx, bind_some', lt_def, w64s (by omega)]
    by_cases he : x = d
    · subst he; simp
    · have : ¬ d = x := fun h => he h.symm
      simp [he, this]) o.dests.length N 0 (by omega) (by omega)
  simpa using h
theorem bidx_rg (ds : List (List UInt8)) (d : List UInt8) : bidx ds d = -1 ∨ ∃ j : Nat, bidx ds d = j ∧ j < ds.length ∧ ds[j]? = some d := by
  unfold bidx
  rcases firstI_spec (fun _ x => d == x) ds 0 with ⟨h, _⟩ | ⟨j, x, h1, h2, h3, _⟩
  · exact .inl h
  · refine .inr ⟨j, by simpa using h1, (List.getElem?_eq_some_iff.1 h2).1, ?_⟩
    have : d = x := by simpa using h3
    rw [h2, this]
/-! ### Blocks -/
/-- The blocks of wagons; the first wagon that has none. -/
def blkF (ds : List (List UInt8)) : Nat → List Wagon → List Int × Int × Int
  | _, [] => ([], -1, 0)
  | i, w :: l => if bidx ds w.dest < 0 then ([], (i : Int), 7) else
    match blkF ds (i + 1) l with
    | (b, at_, e) => if e = 0 then (bidx ds w.dest :: b, -1, 0) else ([], at_, e)
theorem blkF_e (ds : List (List UInt8)) : ∀ (l : List Wagon) (i : Nat), ((blkF ds i l).2.2 = 0 ∧ (blkF ds i l).2.1 = -1 ∧ (blkF ds i l).1 = l.map fun w => bidx ds w.dest) ∨ ((blkF ds i l).2.2 = 7 ∧ (blkF ds i l).1 = [] ∧ 0 ≤ (blkF ds i l).2.1)
  | [], i => .inl ⟨rfl, rfl, rfl⟩
  | w :: l, i => by
    rw [blkF]
    by_cases h : bidx ds w.dest < 0
    · rw [if_pos h]; exact .inr ⟨rfl, rfl, by simp⟩
    · rw [if_neg h]
      rcases blkF_e ds l (i + 1) with ⟨h1, h2, h3⟩ | ⟨h1, h2, h3⟩
      · refine .inl ?_
        simp only [h1, if_true, h3, List.map_cons, and_self]
      · refine .inr ?_
        simp only [h1, show ¬ (7 : Int) = 0 by decide, if_false, and_self, true_and]
        exact h3
/-- What the loops of 'Blocks' end with. -/
def blkR (out : List Int) (x : List Int × Int × Int) : Sum (List Int) (Int × Int) := if x.2.2 = 0 then .inl (out ++ x.1) else .inr (x.2.1, x.2.2)
theorem blk_loop (N : Nat) (hN : 1001 ≤ N) {o : TrainOrder} (ho : o.dests.length ≤ 1000) {l : List Wagon} (hl : l.length ≤ 1000) : ∀ (k n i : Nat) (out : List Int), k < n → i + k = l.length → out.length = i →
    trainbuild_Blocks_0 N o l l.length n out i = some (blkR out (blkF o.dests i (l.drop i)))
  | k, 0, i, out, hn, _, _ => by omega
  | 0, n + 1, i, out, hn, hi, _ => by
    rw [trainbuild_Blocks_0, if_neg (dneg (by omega)), List.drop_eq_nil_of_le (by omega)]
    simp [blkF, blkR]
  | k + 1, n + 1, i, out, hn, hi, ho' => by
    have hlt : i < l.length := by omega
    rw [trainbuild_Blocks_0, if_pos (dpos (by omega)), getI_nat (at_lt hlt), bind_some', idx_ok N hN ho, bind_some', drop_at (at_lt hlt), blkF]
    by_cases h : bidx o.dests l[i].dest < 0
    · rw [if_pos (dpos h), if_pos h]; rfl
    · rw [if_neg (dneg h), if_neg h, appI_ok (by simp; omega), bind_some', w64s (by omega), blk_loop N hN ho hl k n (i + 1) _ (by omega) (by omega) (by simp [ho'])]
      rcases blkF_e o.dests (l.drop (i + 1)) (i + 1) with ⟨h1, _, _⟩ | ⟨h1, _, _⟩
      · simp only [blkR, h1, if_true, List.append_assoc, List.singleton_append]
      · simp only [blkR, h1, show ¬ (7 : Int) = 0 by decide, if_false]
theorem blk_ok (N : Nat) (hN : 1001 ≤ N) {o : TrainOrder} (ho : o.dests.length ≤ 1000) {l : List Wagon} (hl : l.length ≤ 1000) : trainbuild_Blocks N o l = some (blkF o.dests 0 l) := by
  unfold trainbuild_Blocks
  have h := blk_loop N hN ho hl l.length N 0 [] (by omega) (by omega) rfl
  simp only [Int.natCast_zero, List.drop_zero] at h
  rw [h, bind_some', blkR]
  rcases blkF_e o.dests l 0 with ⟨h1, h2, h3⟩ | ⟨h1, h2, h3⟩
  · simp only [h1, if_true, List.nil_append]
    rw [← h1, ← h2]
  · simp only [h1, show ¬ (7 : Int) = 0 by decide, if_false]
    rw [← h1, ← h2]
theorem rblk_loop (N : Nat) (hN : 1001 ≤ N) {o : TrainOrder} (ho : o.dests.length ≤ 1000) {l : List Wagon} (hl : l.length ≤ 1000) : ∀ (k n i : Nat) (out : List Int), k < n → i + k = l.length → out.length = i →
    r37_Blocks_0 N l o n out i = some (blkR out (blkF o.dests i (l.drop i)))
  | k, 0, i, out, hn, _, _ => by omega
  | 0, n + 1, i, out, hn, hi, _ => by
    rw [r37_Blocks_0, if_neg (dneg (by omega)), List.drop_eq_nil_of_le (by omega)]
    simp [blkF, blkR]
  | k + 1, n + 1, i, out, hn, hi, ho' => by
    have hlt : i < l.length := by omega
    rw [r37_Blocks_0, if_pos (dpos (by omega)), getI_nat (at_lt hlt), bind_some', ridx_ok N hN ho, bind_some', drop_at (at_lt hlt), blkF]
    by_cases h : bidx o.dests l[i].dest < 0
    · rw [if_pos (dpos h), if_pos h]; rfl
    · rw [if_neg (dneg h), if_neg h, appI_ok (by simp; omega), bind_some', lt_def, w64s (by omega), rblk_loop N hN ho hl k n (i + 1) _ (by omega) (by omega) (by simp [ho'])]
      rcases blkF_e o.dests (l.drop (i + 1)) (i + 1) with ⟨h1, _, _⟩ | ⟨h1, _, _⟩
      · simp only [blkR, h1, if_true, List.append_assoc, List.singleton_append]
      · simp only [blkR, h1, show ¬ (7 : Int) = 0 by decide, if_false]
theorem rblk_ok (N : Nat) (hN : 1001 ≤ N) {o : TrainOrder} (ho : o.dests.length ≤ 1000) {l : List Wagon} (hl : l.length ≤ 1000) : r37_Blocks N o l = some (blkF o.dests 0 l) := by
  unfold r37_Blocks
  have h := rblk_loop N hN ho hl l.length N 0 [] (by omega) (by omega) rfl
  simp only [Int.natCast_zero, List.drop_zero] at h
  rw [h, bind_some', blkR]
  rcases blkF_e o.dests l 0 with ⟨h1, h2, h3⟩ | ⟨h1, h2, h3⟩
  · simp only [h1, if_true, List.nil_append]
    rw [← h1, ← h2]
  · simp only [h1, show ¬ (7 : Int) = 0 by decide, if_false]
    rw [← h1, ← h2]
/-! ### The first block that falls -/
def fall (b : List Int) (i : Nat) (x : Int) : Bool := decide (0 < i) && decide (x < b.getD (i - 1) 0)
theorem ord_ok (N : Nat) (hN : 1001 ≤ N) {b : List Int} (hl : b.length ≤ 1000) : trainbuild_ordered_0 N b b.length N 0 = some (res (fall b) (fun i _ => ((i : Int), (12 : Int))) 0 b) := by
  have h := first_gen (l := b) (fall b) (fun i _ => ((i : Int), (12 : Int))) (fun n i => trainbuild_ordered_0 N b b.length n i) (fun n => by
    show trainbuild_ordered_0 N b b.length (n + 1) _ = _
    rw [trainbuild_ordered_0, if_neg (dneg (by omega))]) (fun n i x hx => by
    show trainbuild_ordered_0 N b b.length (n + 1) _ = _
    have hlt := (List.getElem?_eq_some_iff.1 hx).1
    have h1 : trainbuild_ordered_1 N b i = some (fall b i x) := by
      unfold trainbuild_ordered_1 fall
      cases i with
      | zero => simp
      | succ j =>
        rw [if_pos (dpos (by omega)), getI_nat hx, bind_some', bind_some', w64p (by omega), getI_nat (at_lt (show j < b.length by omega)), bind_some', bind_some']
        have : b.getD (j + 1 - 1) 0 = b[j] := by simp [List.getD, List.getElem?_eq_getElem (show j < b.length by omega)]
        rw [this]
        simp
    rw [trainbuild_ordered_0, if_pos (dpos (by omega)), h1, bind_some', w64s (by omega)]) b.length N 0 (by omega) (by omega)
  simpa using h
end Go.W
end
section
set_option linter.unusedVariables false
set_option linter.unusedSimpArgs false
set_option maxRecDepth 100000
namespace Go.W
open Go.AM
/-! ### Names of tracks -/
def nm (j : Nat) : List UInt8 := [112, UInt8.ofNat (48 + j / 10 % 10), UInt8.ofNat (48 + j % 10)]
theorem ten {j : Nat} (h : j < 10) : j = 0 ∨ j = 1 ∨ j = 2 ∨ j = 3 ∨ j = 4 ∨ j = 5 ∨ j = 6 ∨ j = 7 ∨ j = 8 ∨ j = 9 := by omega
theorem nm_gen (N : Nat) {j : Nat} (h : j < 10) : yardgen_name N (j : Int) = some (nm j) := by
  rcases ten h with rfl | rfl | rfl | rfl | rfl | rfl | rfl | rfl | rfl | rfl <;> rfl
theorem nm_ok {j : Nat} (h : j < 10) : nameOk (nm j) = true := by
  rcases ten h with rfl | rfl | rfl | rfl | rfl | rfl | rfl | rfl | rfl | rfl <;> rfl
theorem nm_inj {i j : Nat} (hi : i < 10) (hj : j < 10) (h : nm i = nm j) : i = j := by
  have h1 : UInt8.ofNat (48 + i % 10) = UInt8.ofNat (48 + j % 10) := by
    have := congrArg (fun l : List UInt8 => l[2]?) h
    simpa [nm] using this
  have h2 := congrArg UInt8.toNat h1
  simp at h2
  omega
/-- Made tracks. -/
def Trk (l : List Track) : Prop := ∀ (j : Nat) (x : Track), l[j]? = some x → x.name = nm j ∧ 1 ≤ x.length ∧ x.length ≤ 100000
theorem Trk.snoc {l : List Track} (h : Trk l) {x : Track} (h1 : x.name = nm l.length) (h2 : 1 ≤ x.length ∧ x.length ≤ 100000) : Trk (l ++ [x]) := by
  intro j y hy
  by_cases hj : j < l.length
  · rw [List.getElem?_append_left hj] at hy; exact h j y hy
  · rw [List.getElem?_append_right (by omega)] at hy
    have hlt := (List.getElem?_eq_some_iff.1 hy).1
    simp at hlt
    have : j = l.length := by omega
    subst this
    simp at hy; subst hy; exact ⟨h1, h2⟩
theorem cfg_loop (N : Nat) : ∀ (k n : Nat) (s : Maker) (x : YardConfig) (out : List Track) (c : Int), k < n → Mk c s → c + k ≤ 900000000 → out.length + k ≤ 9 → Trk out →
    ∃ s' out', yardgen_Config_0 N n s x k out = some (s', YardConfig.mk [] x.rules [] x.speed x.grade, out') ∧ Mk (c + k) s' ∧ out'.length = out.length + k ∧ Trk out'
  | k, 0, s, x, out, c, hn, _, _, _, _ => by omega
  | 0, n + 1, s, x, out, c, hn, hs, _, _, ht => by
    rw [yardgen_Config_0, if_neg (dneg (by omega))]
    exact ⟨s, out, rfl, by simpa using hs, rfl, ht⟩
  | k + 1, n + 1, s, x, out, c, hn, hs, hc, hl, ht => by
    obtain ⟨a, s1, h1, ha, m1⟩ := pick_ok N [500, 1500, 3000, 8000, 100000] (by simp) (by simp) hs (by omega)
    rw [yardgen_Config_0, if_pos (dpos (by omega)), nm_gen N (by omega), bind_some', h1, bind_some', appI_ok (by simp; omega), bind_some', lt_def, w64p (by omega)]
    have hx : 1 ≤ a ∧ a ≤ 100000 := by
      simp only [List.mem_cons, List.not_mem_nil, or_false] at ha
      omega
    obtain ⟨s', out', g1, g2, g3, g4⟩ := cfg_loop N k n s1 (YardConfig.mk [] x.rules [] x.speed x.grade) (out ++ [Track.mk (nm out.length) a]) (c + 1) (by omega) m1 (by omega) (by simp; omega) (ht.snoc rfl hx)
    exact ⟨s', out', g1, g2.le (by omega), by simp at g3; omega, g4⟩
/-- What is known of a made configuration. -/
structure Cfg (c : YardConfig) : Prop where
  tr : Trk c.tracks
  t1 : 4 ≤ c.tracks.length
  t2 : c.tracks.length ≤ 9
  sp : 1 ≤ c.speed ∧ c.speed ≤ 200
  gr : 0 ≤ c.grade ∧ c.grade ≤ 500
  rl : rErr c.rules = 0
  rn : c.rules.length ≤ 3
  rd : MadeR c.rules
  tb : tblOk c.table = true
  el : ∃ r ∈ c.table, elig c.speed c.grade r = true
theorem Cfg.tl {c : YardConfig} (h : Cfg c) : c.table.length ≤ 1000 := by
  have := h.tb
  simp only [tblOk, Bool.and_eq_true, decide_eq_true_eq] at this
  omega
theorem cfg_gen (N : Nat) (hN : 1001 ≤ N) {c : Int} {s : Maker} (hs : Mk c s) (hc : c ≤ 100000000) : ∃ x s', yardgen_Config N s false = some (x, s') ∧ Mk (c + 3000) s' ∧ Cfg x := by
  unfold yardgen_Config
  obtain ⟨a, s1, e1, ha, m1⟩ := pick_ok N [60, 80, 100] (by simp) (by simp) hs (by omega)
  obtain ⟨b, s2, e2, hb, m2⟩ := pick_ok N [0, 50, 100] (by simp) (by simp) m1 (by omega)
  obtain ⟨d, s3, e3, hd, m3⟩ := pick_ok N [0, 0, 10, 40] (by simp) (by simp) m2 (by omega)
  obtain ⟨k, s4, e4, k0, k1, m4⟩ := next_ok N 5 (by omega) (by omega) m3 (by omega)
  obtain ⟨k, rfl⟩ := Int.eq_ofNat_of_zero_le k0
  obtain ⟨s5, tr, e5, m5, l5, t5⟩ := cfg_loop N (4 + k) N s4 (YardConfig.mk [] [] [] a b) [] (c + 1 + 1 + 1 + 1) (by omega) m4 (by omega) (by simp; omega) (fun j x h => by simp at h)
  obtain ⟨tb, s6, e6, m6, l6, t6⟩ := table_ok N (by omega) m5 (by omega)
  obtain ⟨rs, s7, e7, m7, l7, t7⟩ := rules_gen N hN m6 (by omega) 3 (by omega)
  have ek : IntKind.wrap .i64 (4 + (k : Int)) = ((4 + k : Nat) : Int) := by rw [w64 (by omega) (by omega)]; omega
  simp only [List.mem_cons, List.not_mem_nil, or_false] at ha hb hd
  rw [e1, bind_some', e2, bind_some', e3, bind_some', e4, bind_some']
  simp only [lt_def, ek]
  rw [e5, bind_some']
  simp only []
  rw [e6, bind_some', appI_ok (by simp; omega), bind_some']
  unfold yardgen_Config_1 yardgen_Config_2
  have e7 : yardgen_Rules N s6 3 = some (rs, s7) := e7
  simp only [Bool.not_false, if_true, bind_some', e7]
  have hr : rowOk (BrakeRow.mk 200 500 d) = true := by
    simp only [rowOk, Bool.and_eq_true, inB_iff]
    omega
  simp only [List.length_nil, Nat.zero_add] at l5
  refine ⟨YardConfig.mk tr rs ([BrakeRow.mk 200 500 d] ++ tb) a b, s7, rfl, m7.le (by omega), ⟨t5, by show 4 ≤ tr.length; omega, by show tr.length ≤ 9; omega, by show 1 ≤ a ∧ a ≤ 200; omega, by show 0 ≤ b ∧ b ≤ 500; omega, t7.err (by omega), l7, t7, tbl_app (a := [BrakeRow.mk 200 500 d]) (by simpa using hr) t6 (by simp; omega), ?_⟩⟩
  exact ⟨BrakeRow.mk 200 500 d, by simp, elig_iff.2 ⟨by show a ≤ 200; omega, by show b ≤ 500; omega⟩⟩
/-! ### They are valid -/
theorem take_names {l : List Track} {i : Nat} {x : Track} (h : l[i]? = some x) : (l.take (i + 1)).map (·.name) = (l.take i).map (·.name) ++ [x.name] := by
  obtain ⟨hlt, rfl⟩ := List.getElem?_eq_some_iff.1 h
  rw [List.take_succ_eq_append_getElem hlt, List.map_append]; rfl
theorem vcfg_loop (N : Nat) (hN : 1001 ≤ N) {l : List Track} (ht : Trk l) (hl : l.length ≤ 9) : ∀ (k n i : Nat) (m : List (List UInt8 × Bool)), k < n → i + k = l.length → SeenM m ((l.take i).map (·.name)) →
    trainbuild_ValidConfig_1 N l l.length n m i = some (.inl ())
  | k, 0, i, m, hn, _, _ => by omega
  | 0, n + 1, i, m, hn, hi, _ => by
    rw [trainbuild_ValidConfig_1, if_neg (dneg (by omega))]
  | k + 1, n + 1, i, m, hn, hi, hm => by
    have hlt : i < l.length := by omega
    obtain ⟨g1, g2, g3⟩ := ht i _ (at_lt hlt)
    have h2 : trainbuild_ValidConfig_2 N m l[i] = some false := by
      unfold trainbuild_ValidConfig_2
      have hn := nm_ok (show i < 10 by omega)
      have hlen := nameOk_len hn
      rw [g1, tname_ok N (by omega) (by omega), bind_some', hn, lt_def, hm (nm i)]
      have : nm i ∉ (l.take i).map (·.name) := by
        intro hmem
        obtain ⟨y, hy, he⟩ := List.mem_map.1 hmem
        obtain ⟨j, hj⟩ := List.getElem?_of_mem hy
        rw [List.getElem?_take] at hj
        split at hj
        · rename_i hji
          have := (ht j y hj).1
          rw [this] at he
          have := nm_inj (by omega) (by omega) he
          omega
        · cases hj
      simp only [this, decide_false, Bool.not_true, Bool.false_eq_true, if_false]
      rw [if_neg (dneg (by omega))]
      congr 1
      simpa using g3
    rw [trainbuild_ValidConfig_1, if_pos (dpos (by omega)), getI_nat (at_lt hlt), bind_some', h2, bind_some', if_neg (by simp), lt_def, w64s (by omega)]
    exact vcfg_loop N hN ht hl k n (i + 1) _ (by omega) (by omega) (by rw [take_names (at_lt hlt)]; exact seen_set hm _)
theorem cfg_ok (N : Nat) (hN : 1001 ≤ N) {c : YardConfig} (h : Cfg c) : trainbuild_ValidConfig N c = some 0 := by
  have h1 := h.t1; have h2 := h.t2; have h3 := h.sp; have h4 := h.gr
  have h0 : trainbuild_ValidConfig_0 N c = some false := by
    unfold trainbuild_ValidConfig_0
    rw [if_neg (dneg (by omega)), if_neg (dneg (by omega)), if_neg (dneg (by omega)), if_neg (dneg (by omega)), if_neg (dneg (by omega))]
    congr 1
    simpa using h4.2
  have hl := vcfg_loop N hN h.tr h2 c.tracks.length N 0 [] (by omega) (by omega) (by simpa using seen_nil)
  simp only [Int.natCast_zero] at hl
  unfold trainbuild_ValidConfig
  rw [h0, bind_some', if_neg (by simp), hl, bind_some']
  simp only [(rules_ok N hN (l := c.rules) (by have := h.rn; omega)).1, bind_some', h.rl, bne00, Bool.false_eq_true, if_false, (tbl_ok N h.tl hN).1, h.tb, Bool.not_true]
/-! ### Orders -/
structure Ord (c : YardConfig) (o : TrainOrder) : Prop where
  nm : o.name = [120]
  tr : 0 ≤ o.track ∧ o.track < c.tracks.length
  d1 : 1 ≤ o.dests.length
  d2 : o.dests.length ≤ 4
  nd : o.dests.Nodup
  ok : ∀ d ∈ o.dests, nameOk d = true
theorem bidx_mem {ds : List (List UInt8)} {d : List UInt8} : 0 ≤ bidx ds d ↔ d ∈ ds := by
  constructor
  · intro h
    rcases bidx_rg ds d with h1 | ⟨j, _, _, h2⟩
    · omega
    · exact List.mem_of_getElem? h2
  · intro h
    unfold bidx
    rcases firstI_spec (fun _ x => d == x) ds 0 with ⟨_, h2⟩ | ⟨j, x, h1, _⟩
    · obtain ⟨j, hj⟩ := List.getElem?_of_mem h
      have := h2 j d hj
      simp at this
    · rw [h1]; omega
theorem ord_valid (N : Nat) (hN : 1001 ≤ N) {c : YardConfig} {o : TrainOrder} (h : Ord c o) : trainbuild_ValidOrder N c o = some true := by
  have h1 := h.tr; have h2 := h.d1; have h3 := h.d2
  have hn : nameOk o.name = true := by rw [h.nm]; rfl
  have hln := nameOk_len hn
  have h0 : trainbuild_ValidOrder_0 N c o = some false := by
    unfold trainbuild_ValidOrder_0
    rw [tname_ok N (by omega) (by omega), bind_some', hn, if_neg (by simp), if_neg (dneg (by omega)), if_neg (lneg (by omega)), if_neg (dneg (by omega))]
    congr 1
    simp; omega
  have hl : trainbuild_ValidOrder_1 N o o.dests o.dests.length N 0 = some (.inl ()) := by
    have g := first_gen (l := o.dests) (fun _ _ => false) (fun _ _ => false) (fun n i => trainbuild_ValidOrder_1 N o o.dests o.dests.length n i) (fun n => by
      show trainbuild_ValidOrder_1 N o o.dests o.dests.length (n + 1) _ = _
      rw [trainbuild_ValidOrder_1, if_neg (dneg (by omega))]) (fun n i x hx => by
      show trainbuild_ValidOrder_1 N o o.dests o.dests.length (n + 1) _ = _
      have hlt := (List.getElem?_eq_some_iff.1 hx).1
      have hx' := h.ok x (List.mem_of_getElem? hx)
      have hxl := nameOk_len hx'
      have hnot : x ∉ o.dests.take i := by
        intro hm
        obtain ⟨j, hj⟩ := List.getElem?_of_mem hm
        rw [List.getElem?_take] at hj
        split at hj
        · rename_i hji
          have := (List.getElem?_inj (by omega : j < o.dests.length) h.nd).1 (hj.trans hx.symm)
          omega
        · cases hj
      have h2 : trainbuild_ValidOrder_2 N o i x = some false := by
        unfold trainbuild_ValidOrder_2 slices_Contains_string_string
        rw [tname_ok N (by omega) (by omega), bind_some', hx', if_neg (by simp), cutI_take (by omega), bind_some', idx_ok N hN (by simp; omega), bind_some', lt_def, bind_some']
        congr 1
        rw [decide_eq_false_iff_not, bidx_mem]
        exact hnot
      rw [trainbuild_ValidOrder_1, if_pos (dpos (by omega)), getI_nat hx, bind_some', h2, bind_some', w64s (by omega)]) o.dests.length N 0 (by omega) (by omega)
    have hr : ∀ (l : List (List UInt8)) (i : Nat), res (fun _ _ => false) (fun _ _ => false) i l = (.inl () : Sum Unit Bool) := by
      intro l
      induction l with
      | nil => intro i; rfl
      | cons x l ih => intro i; rw [res, if_neg (by simp), ih]
    rw [hr] at g
    simpa using g
  unfold trainbuild_ValidOrder
  rw [h0, bind_some', if_neg (by simp), hl, bind_some']
/-! ### Wagons -/
theorem wagErr_dest {w : Wagon} {d : List UInt8} (h : wagErr w = 0) (hd : nameOk d = true) : wagErr (Wagon.mk w.number w.length w.axles w.mass w.brake w.goods w.gentle d) = 0 := by
  obtain ⟨h1, h2, h3, h4⟩ := wagErr_zero h
  unfold wagErr at h ⊢
  simp only [hd, h4] at h ⊢
  exact h
theorem MadeL.set {l : List Wagon} (h : MadeL l) {i : Nat} {w : Wagon} (hi : l[i]? = some w) {w' : Wagon} (h1 : wagErr w' = 0) (h2 : w'.number = w.number) : MadeL (l.set i w') := by
  refine ⟨fun x hx => ?_, fun j x hx => ?_⟩
  · rcases List.mem_or_eq_of_mem_set hx with hx | rfl
    · exact h.ok x hx
    · exact h1
  · rw [List.getElem?_set] at hx
    split at hx
    · rename_i hij
      subst hij
      split at hx
      · cases hx
        rw [h2]; exact h.tag i w hi
      · cases hx
    · exact h.tag j x hx
theorem three {r : Int} (h0 : 0 ≤ r) (h1 : r < 3) : ∃ d, getI ([[97], [98], [101]] : List (List UInt8)) r = some d ∧ nameOk d = true := by
  have : r = 0 ∨ r = 1 ∨ r = 2 := by omega
  rcases this with rfl | rfl | rfl <;> exact ⟨_, rfl, rfl⟩
theorem made_loop (N : Nat) {c : YardConfig} {o : TrainOrder} (h : Ord c o) : ∀ (k n i : Nat) (s : Maker) (l : List Wagon) (b c : Int), k < n → i + k = l.length → l.length ≤ 96 → Mk c s → c + 3 * k ≤ 900000000 → MadeL l → 0 ≤ b → b < o.dests.length →
    ∃ s' l', l37_made_0 N o n s l b i = some (s', l') ∧ Mk (c + 3 * k) s' ∧ l'.length = l.length ∧ MadeL l'
  | k, 0, i, s, l, b, c, hn, _, _, _, _, _, _, _ => by omega
  | 0, n + 1, i, s, l, b, c, hn, hi, _, hs, _, hm, _, _ => by
    rw [l37_made_0, if_neg (dneg (by omega))]
    exact ⟨s, l, rfl, by simpa using hs, rfl, hm⟩
  | k + 1, n + 1, i, s, l, b, c, hn, hi, hl, hs, hc, hm, hb, hb2 => by
    have hlt : i < l.length := by omega
    have hd2 := h.d2
    obtain ⟨a, s1, e1, ha, m1⟩ := pick_ok N [0, 0, 0, 1] (by simp) (by simp) hs (by omega)
    simp only [List.mem_cons, List.not_mem_nil, or_false] at ha
    obtain ⟨q, s2, e2, q0, q1, m2⟩ := next_ok N 25 (by omega) (by omega) m1 (by omega)
    have hb' : ∃ b' : Nat, min (IntKind.wrap .i64 ((o.dests.length : Int) - 1)) (IntKind.wrap .i64 (b + a)) = b' ∧ b' < o.dests.length := by
      rw [w64 (by omega) (by omega), w64 (by omega) (by omega)]
      refine ⟨(min ((o.dests.length : Int) - 1) (b + a)).toNat, ?_, ?_⟩ <;> omega
    obtain ⟨b', hb', hbl⟩ := hb'
    have hdo := h.ok _ (List.getElem_mem hbl)
    have g1 := hm.set (at_lt hlt) (wagErr_dest (hm.ok _ (List.getElem_mem hlt)) hdo) rfl
    have key : ∃ s3 l1, l37_made_1 N s o l b i = some (s3, l1, (b' : Int)) ∧ Mk (c + 3) s3 ∧ l1.length = l.length ∧ MadeL l1 := by
      unfold l37_made_1
      rw [e1, bind_some']
      simp only [lt_def]
      rw [hb', getI_nat (at_lt hbl), bind_some', getI_nat (at_lt hlt), bind_some', bind_some', Int.toNat_natCast, e2, bind_some']
      by_cases hq : q = 0
      · obtain ⟨r, s3, e3, r0, r1, m3⟩ := next_ok N 3 (by omega) (by omega) m2 (by omega)
        obtain ⟨d, f1, f2⟩ := three r0 r1
        have hx : (l.set i (Wagon.mk l[i].number l[i].length l[i].axles l[i].mass l[i].brake l[i].goods l[i].gentle o.dests[b']))[i]? = some (Wagon.mk l[i].number l[i].length l[i].axles l[i].mass l[i].brake l[i].goods l[i].gentle o.dests[b']) := by
          rw [List.getElem?_set]; simp [hlt]
        rw [if_pos (by simp [hq]), e3, bind_some', f1, bind_some', bind_some', getI_nat hx, bind_some', bind_some']
        have g2 := g1.set hx (wagErr_dest (g1.ok _ (List.mem_of_getElem? hx)) f2) rfl
        exact ⟨_, _, rfl, m3.le (by omega), by simp, g2⟩
      · rw [if_neg (by simpa using hq)]
        exact ⟨_, _, rfl, m2.le (by omega), by simp, g1⟩
    obtain ⟨s3, l1, f1, f2, f3, f4⟩ := key
    obtain ⟨s', l', r1, r2, r3, r4⟩ := made_loop N h k n (i + 1) s3 l1 b' (c + 3) (by omega) (by omega) (by omega) f2 (by omega) f4 (by omega) (by omega)
    rw [l37_made_0, if_pos (dpos (by omega)), f1, bind_some', lt_def, w64s (by omega)]
    exact ⟨s', l', r1, r2.le (by omega), by omega, r4⟩
theorem four {k : Int} (h0 : 0 ≤ k) (h1 : k < 4) : ∃ ds, cutI ([[99], [97], [100], [98]] : List (List UInt8)) 0 (IntKind.wrap .i64 (1 + k)) = some ds ∧ 1 ≤ ds.length ∧ ds.length ≤ 4 ∧ ds.Nodup ∧ ∀ d ∈ ds, nameOk d = true := by
  have : k = 0 ∨ k = 1 ∨ k = 2 ∨ k = 3 := by omega
  rcases this with rfl | rfl | rfl | rfl
  · exact ⟨[[99]], rfl, by decide, by decide, by decide, by decide⟩
  · exact ⟨[[99], [97]], rfl, by decide, by decide, by decide, by decide⟩
  · exact ⟨[[99], [97], [100]], rfl, by decide, by decide, by decide, by decide⟩
  · exact ⟨[[99], [97], [100], [98]], rfl, by decide, by decide, by decide, by decide⟩
theorem made37 (N : Nat) (hN : 2000 ≤ N) {c : Int} {s : Maker} (hs : Mk c s) (hc : c ≤ 1000000) (n : Nat) (hn : n ≤ 90) :
    ∃ x o l s', l37_made N s n = some (x, o, l, s') ∧ Cfg x ∧ Ord x o ∧ listErr l = 0 ∧ l.length ≤ n := by
  obtain ⟨x, s1, e1, m1, hx⟩ := cfg_gen N (by omega) hs (by omega)
  have ht1 := hx.t1; have ht2 := hx.t2
  obtain ⟨t, s2, e2, t0, t1, m2⟩ := next_ok N (x.tracks.length : Int) (by omega) (by omega) m1 (by omega)
  obtain ⟨k, s3, e3, k0, k1, m3⟩ := next_ok N 4 (by omega) (by omega) m2 (by omega)
  obtain ⟨ds, e4, d1, d2, d3, d4⟩ := four k0 k1
  obtain ⟨l, s4, e5, m4, hl, hm⟩ := wagons_ok N (by omega) n (by omega) m3 (by omega)
  have ho : Ord x (TrainOrder.mk [120] t ds) := ⟨rfl, ⟨t0, t1⟩, d1, d2, d3, d4⟩
  obtain ⟨s5, l', e6, m5, hl', hm'⟩ := made_loop N ho l.length N 0 s4 l 0 _ (by omega) (by omega) (by omega) m4 (by omega) hm (by omega) (by show (0 : Int) < ds.length; omega)
  unfold l37_made
  rw [e1, bind_some']
  simp only []
  rw [e2, bind_some']
  simp only []
  rw [e3, bind_some']
  simp only []
  rw [e4, bind_some', e5, bind_some']
  simp only []
  simp only [Int.natCast_zero] at e6
  rw [e6, bind_some']
  exact ⟨x, _, l', _, rfl, hx, ho, hm'.err (by omega), by omega⟩
end Go.W
end
section
set_option linter.unusedVariables false
set_option linter.unusedSimpArgs false
set_option maxRecDepth 100000
namespace Go.W
open Go.AM
/-! ### The plan of the stops -/
def cntS (s : Int) : List Int → Int
  | [] => 0
  | x :: t => (if x = s then 1 else 0) + cntS s t
/-- 'p': stands the one ahead at the same stop? -/
def grpS (s : Int) : Bool → List Int → Int
  | _, [] => 0
  | p, x :: t => (if x = s ∧ p = false then 1 else 0) + grpS s (decide (x = s)) t
def remS (s : Int) : List Int → List Int
  | [] => []
  | x :: t => if x = s then remS s t else x :: remS s t
def ahead (s : Int) (t : List Int) : Nat → Bool
  | 0 => false
  | i + 1 => decide (t.getD i 0 = s)
theorem cntS_b (s : Int) : ∀ t : List Int, 0 ≤ cntS s t ∧ cntS s t ≤ t.length
  | [] => by simp [cntS]
  | x :: t => by
    have := cntS_b s t
    simp only [cntS, List.length_cons]
    split <;> omega
theorem grpS_b (s : Int) : ∀ (t : List Int) (p : Bool), 0 ≤ grpS s p t ∧ grpS s p t ≤ t.length
  | [], p => by simp [grpS]
  | x :: t, p => by
    have := grpS_b s t (decide (x = s))
    simp only [grpS, List.length_cons]
    split <;> omega
theorem remS_len (s : Int) : ∀ t : List Int, (remS s t).length ≤ t.length
  | [] => by simp [remS]
  | x :: t => by
    have := remS_len s t
    rw [remS]
    split <;> simp <;> omega
theorem pass_loop (N : Nat) {t : List Int} (ht : t.length ≤ 1000) (s : Int) : ∀ (k n i : Nat) (w g : Int) (out : List Int), k < n → i + k = t.length → 0 ≤ w → w ≤ i → 0 ≤ g → g ≤ i → out.length ≤ i →
    setout_plan_1 N t s t t.length n (SetOut.mk s w g) out i = some (SetOut.mk s (w + cntS s (t.drop i)) (g + grpS s (ahead s t i) (t.drop i)), out ++ remS s (t.drop i))
  | k, 0, i, w, g, out, hn, _, _, _, _, _, _ => by omega
  | 0, n + 1, i, w, g, out, hn, hi, _, _, _, _, _ => by
    rw [setout_plan_1, if_neg (dneg (by omega)), List.drop_eq_nil_of_le (by omega)]
    simp [cntS, grpS, remS]
  | k + 1, n + 1, i, w, g, out, hn, hi, w0, w1, g0, g1, ho => by
    have hlt : i < t.length := by omega
    have e3 : t[i] = s → setout_plan_3 N t s i = some (!ahead s t i) := by
      intro _
      unfold setout_plan_3
      cases i with
      | zero => simp [ahead]
      | succ j =>
        rw [if_neg (by simp; omega), w64p (by omega), getI_nat (at_lt (show j < t.length by omega)), bind_some']
        have : t.getD j 0 = t[j] := by simp [List.getD, List.getElem?_eq_getElem (show j < t.length by omega)]
        simp only [ahead, this]
        by_cases h : t[j] = s <;> simp [h]
    have hah : ahead s t (i + 1) = decide (t[i] = s) := by simp [ahead, List.getD, List.getElem?_eq_getElem hlt]
    rw [setout_plan_1, if_pos (dpos (by omega)), drop_at (at_lt hlt)]
    unfold setout_plan_2
    rw [getI_nat (at_lt hlt), bind_some', cntS, grpS, remS]
    by_cases h : t[i] = s
    · rw [if_neg (by simp [h]), e3 h, bind_some']
      by_cases ha : ahead s t i = true
      · rw [if_neg (by simp [ha]), bind_some', w64 (n := w + 1) (by omega) (by omega), w64s (by omega)]
        rw [pass_loop N ht s k n (i + 1) (w + 1) g out (by omega) (by omega) (by omega) (by omega) g0 (by omega) (by omega), hah]
        simp only [h, ha, if_true, decide_true, Bool.true_eq_false, and_false, if_false]
        rw [show w + 1 + cntS s (t.drop (i + 1)) = w + (1 + cntS s (t.drop (i + 1))) by omega, Int.zero_add]
      · have ha' : ahead s t i = false := by simpa using ha
        rw [if_pos (by simp [ha']), bind_some', w64 (n := w + 1) (by omega) (by omega), w64 (n := g + 1) (by omega) (by omega), w64s (by omega)]
        rw [pass_loop N ht s k n (i + 1) (w + 1) (g + 1) out (by omega) (by omega) (by omega) (by omega) (by omega) (by omega) (by omega), hah]
        simp only [h, ha', if_true, decide_true, and_self]
        rw [show w + 1 + cntS s (t.drop (i + 1)) = w + (1 + cntS s (t.drop (i + 1))) by omega, show g + 1 + grpS s true (t.drop (i + 1)) = g + (1 + grpS s true (t.drop (i + 1))) by omega]
    · rw [if_pos (by simpa using h), appI_ok (by simp; omega), bind_some', bind_some', w64s (by omega)]
      rw [pass_loop N ht s k n (i + 1) w g (out ++ [t[i]]) (by omega) (by omega) w0 (by omega) g0 (by omega) (by simp; omega), hah]
      simp only [h, if_false, decide_false, false_and, Int.zero_add, List.append_assoc, List.singleton_append]
def planF : Nat → Int → List Int → List SetOut
  | 0, _, _ => []
  | k + 1, s, t => (if 0 < cntS s t then [SetOut.mk s (cntS s t) (grpS s false t)] else []) ++ planF k (s + 1) (remS s t)
theorem plan_loop (N : Nat) (hN : 1001 ≤ N) {d : Nat} (hd : d ≤ 1000) : ∀ (k n s : Nat) (out : List SetOut) (t : List Int), k < n → s + k = d → t.length ≤ 1000 → out.length ≤ s →
    setout_plan_0 N d n out t s = some (out ++ planF k s t)
  | k, 0, s, out, t, hn, _, _, _ => by omega
  | 0, n + 1, s, out, t, hn, hs, _, _ => by
    rw [setout_plan_0, if_neg (dneg (by omega))]; simp [planF]
  | k + 1, n + 1, s, out, t, hn, hs, ht, ho => by
    have h1 := pass_loop N ht (s : Int) t.length N 0 0 0 [] (by omega) (by omega) (by omega) (by omega) (by omega) (by omega) (by simp)
    simp only [Int.natCast_zero, List.drop_zero, Int.zero_add, List.nil_append, ahead] at h1
    rw [setout_plan_0, if_pos (dpos (by omega)), h1, bind_some', w64s (by omega), planF]
    have hr := remS_len s t
    unfold setout_plan_4
    by_cases hc : 0 < cntS s t
    · rw [if_pos (dpos hc), appI_ok (by simp; omega), bind_some', bind_some', if_pos hc]
      rw [plan_loop N hN hd k n (s + 1) _ _ (by omega) (by omega) (by show (remS (s : Int) t).length ≤ 1000; omega) (by simp; omega)]
      simp
    · rw [if_neg (dneg hc), bind_some', if_neg hc]
      rw [plan_loop N hN hd k n (s + 1) _ _ (by omega) (by omega) (by show (remS (s : Int) t).length ≤ 1000; omega) (by omega)]
      simp
theorem plan_ok (N : Nat) (hN : 1001 ≤ N) {d : Nat} (hd : d ≤ 16) {t : List Int} (ht : t.length ≤ 96) (hr : ∀ x ∈ t, 0 ≤ x ∧ x < d) : setout_Plan N t d = some (planF d 0 t, 0) := by
  have h0 : setout_Plan_0 N d = some false := by
    unfold setout_Plan_0
    rw [if_neg (dneg (by omega))]
    congr 1
    simp; omega
  have h1 : setout_check_0 N d t t.length N 0 = some (.inl ()) := by
    have g := first_gen (l := t) (fun _ _ => false) (fun _ _ => (2 : Int)) (fun n i => setout_check_0 N d t t.length n i) (fun n => by
      show setout_check_0 N d t t.length (n + 1) _ = _
      rw [setout_check_0, if_neg (dneg (by omega))]) (fun n i x hx => by
      show setout_check_0 N d t t.length (n + 1) _ = _
      have hlt := (List.getElem?_eq_some_iff.1 hx).1
      have hx' := hr x (List.mem_of_getElem? hx)
      have h2 : setout_check_1 N d x = some false := by
        unfold setout_check_1
        rw [if_neg (dneg (by omega))]
        congr 1
        simp; omega
      rw [setout_check_0, if_pos (dpos (by omega)), getI_nat hx, bind_some', h2, bind_some', w64s (by omega)]) t.length N 0 (by omega) (by omega)
    have hr : ∀ (l : List Int) (i : Nat), res (fun _ _ => false) (fun _ _ => (2 : Int)) i l = (.inl () : Sum Unit Int) := by
      intro l
      induction l with
      | nil => intro i; rfl
      | cons x l ih => intro i; rw [res, if_neg (by simp), ih]
    rw [hr] at g
    simpa using g
  have h2 : setout_check N t d = some 0 := by
    unfold setout_check
    rw [if_neg (dneg (by omega)), h1, bind_some']
  have h3 := plan_loop N hN (d := d) (by omega) d N 0 [] t (by omega) (by omega) (by omega) (by simp)
  simp only [Int.natCast_zero, List.nil_append] at h3
  unfold setout_Plan setout_plan
  rw [h0, bind_some', if_neg (by simp), h2, bind_some', if_neg (by simp), h3, bind_some', bind_some']
/-! ### The stops -/
theorem stops_loop (N : Nat) {o : TrainOrder} (hd : o.dests.length ≤ 1000) {b : List Int} (hb : b.length ≤ 1000) (hr : ∀ x ∈ b, 0 ≤ x ∧ x < o.dests.length) : ∀ (k n i : Nat) (y : List Int), k < n → i + k = b.length → y.length = b.length → y.take i = (b.take i).map (fun x => (o.dests.length : Int) - 1 - x) →
    trainbuild_Build_0 N o b b.length n y i = some (b.map fun x => (o.dests.length : Int) - 1 - x)
  | k, 0, i, y, hn, _, _, _ => by omega
  | 0, n + 1, i, y, hn, hi, hy, ht => by
    rw [trainbuild_Build_0, if_neg (dneg (by omega))]
    rw [List.take_of_length_le (by omega), List.take_of_length_le (by omega)] at ht
    rw [ht]
  | k + 1, n + 1, i, y, hn, hi, hy, ht => by
    have hlt : i < b.length := by omega
    have hlt' : i < y.length := by omega
    have hx := hr _ (List.getElem_mem hlt)
    rw [trainbuild_Build_0, if_pos (dpos (by omega)), getI_nat (at_lt hlt), bind_some', bind_some', getI_nat (at_lt hlt'), bind_some', bind_some', lt_def, w64 (n := (o.dests.length : Int) - 1) (by omega) (by omega), w64 (n := (o.dests.length : Int) - 1 - b[i]) (by omega) (by omega), w64s (by omega), Int.toNat_natCast]
    refine stops_loop N hd hb hr k n (i + 1) _ (by omega) (by omega) (by simp [hy]) ?_
    have e1 : (y.set i ((o.dests.length : Int) - 1 - b[i])).take i = y.take i := by rw [List.take_set_of_le (Nat.le_refl _)]
    have e2 : (y.set i ((o.dests.length : Int) - 1 - b[i]))[i]? = some ((o.dests.length : Int) - 1 - b[i]) := by rw [List.getElem?_set]; simp [hlt']
    obtain ⟨q1, q2⟩ := List.getElem?_eq_some_iff.1 e2
    rw [List.take_succ_eq_append_getElem q1, e1, q2, ht, List.take_succ_eq_append_getElem hlt, List.map_append]
    rfl
end Go.W
end
section
set_option linter.unusedVariables false
set_option linter.unusedSimpArgs false
set_option maxRecDepth 100000
namespace Go.W
open Go.AM
def fin0 : Final := Final.mk [] [] (Brakes.mk 0 0 0 0 0 0 0) []
/-- The train's sheet. -/
def shF (c : YardConfig) (l : List Wagon) : Brakes := (sheet l [] c.table c.speed c.grade).1
def chF (c : YardConfig) (l : List Wagon) : Int × Int × Int := checkF l [] (total1 l []).percent c.rules
def blks (o : TrainOrder) (l : List Wagon) : List Int := l.map fun w => bidx o.dests w.dest
def stps (o : TrainOrder) (l : List Wagon) : List Int := (blks o l).map fun x => (o.dests.length : Int) - 1 - x
def bldF (c : YardConfig) (o : TrainOrder) (l : List Wagon) : Final × Int × Int × Int :=
  if l = [] then (fin0, 0, 0, 13)
  else if (blkF o.dests 0 l).2.2 ≠ 0 then (fin0, 0, (blkF o.dests 0 l).2.1, 7)
  else match res (fall (blks o l)) (fun i _ => ((i : Int), (12 : Int))) 0 (blks o l) with
  | .inr y => (fin0, 0, y.1, 12)
  | .inl _ =>
    if (chF c l).1 ≠ 0 then (fin0, (chF c l).1, (chF c l).2.1, 20)
    else if (shF c l).missing ≠ 0 then (fin0, 0, (l.length : Int), 20)
    else (Final.mk o.name l (shF c l) (planF o.dests.length 0 (stps o l)), 0, 0, 0)
theorem checkF_e (l : List Wagon) (off : List Int) (pc : Int) : ∀ rs : List Rule, (checkF l off pc rs).2.2 = 0
  | [] => rfl
  | r :: rs => by
    rw [checkF]
    split
    · rfl
    · exact checkF_e l off pc rs
theorem tot1 {l : List Wagon} (h : listErr l = 0) : tot l [] = (total1 l [], 0) := tot_eq h rfl
theorem chk_eq {c : YardConfig} (hc : Cfg c) {l : List Wagon} (h : listErr l = 0) : checkR c.rules l [] = chF c l := by
  unfold checkR chF
  rw [if_pos hc.rl, tot1 h, if_pos rfl]
theorem sh_e {c : YardConfig} (hc : Cfg c) {l : List Wagon} (h : listErr l = 0) : (sheet l [] c.table c.speed c.grade).2 = 0 := by
  have hs := hc.sp; have hg := hc.gr
  unfold sheet
  rw [tot1 h, if_neg (by simp), requ_eq hc.tb hs.1 hs.2 hg.1 hg.2, if_pos (req_min.1.2 hc.el), if_neg (by simp)]
theorem blks_rg {o : TrainOrder} {l : List Wagon} (h : (blkF o.dests 0 l).2.2 = 0) : (blkF o.dests 0 l).1 = blks o l := by
  rcases blkF_e o.dests l 0 with ⟨_, _, h3⟩ | ⟨h1, _⟩
  · exact h3
  · rw [h1] at h; cases h
theorem blkF_all {ds : List (List UInt8)} : ∀ {l : List Wagon} {i : Nat}, (blkF ds i l).2.2 = 0 → ∀ w ∈ l, 0 ≤ bidx ds w.dest
  | [], _, _ => by simp
  | w :: l, i, h => by
    rw [blkF] at h
    by_cases hb : bidx ds w.dest < 0
    · rw [if_pos hb] at h; cases h
    · rw [if_neg hb] at h
      intro x hx
      rcases List.mem_cons.1 hx with rfl | hx
      · omega
      · refine blkF_all (i := i + 1) ?_ x hx
        rcases blkF_e ds l (i + 1) with ⟨h1, _⟩ | ⟨h1, _⟩
        · exact h1
        · simp only [h1, show ¬ (7 : Int) = 0 by decide, if_false] at h
theorem blks_b {o : TrainOrder} {l : List Wagon} (h : (blkF o.dests 0 l).2.2 = 0) : ∀ x ∈ blks o l, 0 ≤ x ∧ x < o.dests.length := by
  intro x hx
  obtain ⟨w, hw, rfl⟩ := List.mem_map.1 hx
  have h0 := blkF_all h w hw
  rcases bidx_rg o.dests w.dest with h1 | ⟨j, h1, h2, _⟩ <;> omega
theorem bld_ok (N : Nat) (hN : 2000 ≤ N) {c : YardConfig} (hc : Cfg c) {o : TrainOrder} (ho : Ord c o) {l : List Wagon} (hl : listErr l = 0) : trainbuild_Build N c o l = some (bldF c o l) := by
  have hl96 := (listErr_zero.1 hl).1
  have hF := err_fu (N := N) (by omega) hl
  have hd := ho.d2
  have htot := (total_ok N (by omega) hF).1
  have hchk : trainbuild_check N c o l = some 0 := by
    unfold trainbuild_check
    rw [cfg_ok N (by omega) hc, bind_some', if_neg (by simp), ord_valid N (by omega) ho, bind_some', if_neg (by simp), htot, bind_some']
    simp [totals, hl]
  unfold trainbuild_Build bldF
  rw [hchk, bind_some', if_neg (by simp)]
  by_cases hn : l = []
  · subst hn; rfl
  have hpos : 0 < l.length := List.length_pos_iff.2 hn
  rw [if_neg (by simp [hn]), if_neg hn]
  unfold trainbuild_ordered
  rw [blk_ok N (by omega) (by omega) (by omega), bind_some']
  by_cases hb : (blkF o.dests 0 l).2.2 = 0
  · have hbl := blks_rg hb
    have hbn : (blks o l).length = l.length := by simp [blks]
    rw [if_neg (by simp [hb]), if_neg (by simp [hb]), hbl, ord_ok N (by omega) (by omega), bind_some']
    cases hr : res (fall (blks o l)) (fun i _ => ((i : Int), (12 : Int))) 0 (blks o l) with
    | inr y =>
      have hy : y.2 = 12 := by
        have : ∀ (b : List Int) (i : Nat), res (fall (blks o l)) (fun i _ => ((i : Int), (12 : Int))) i b = .inr y → y.2 = 12 := by
          intro b
          induction b with
          | nil => intro i h; cases h
          | cons x b ih =>
            intro i h
            rw [res] at h
            split at h
            · cases h; rfl
            · exact ih _ h
        exact this _ _ hr
      simp only [bind_some']
      rw [if_pos (by simp [hy]), hy]; rfl
    | inl u =>
      simp only [bind_some']
      rw [if_neg (by simp), (sheet_ok N (by omega) hF (by simp) hc.tl c.speed c.grade).1, bind_some', if_neg (by simp [sh_e hc hl])]
      rw [(check_ok N (by omega) (rs := c.rules) (by have := hc.rn; omega) hF (by simp)).1, bind_some', chk_eq hc hl, if_neg (by simp [chF, checkF_e])]
      by_cases h1 : (chF c l).1 = 0
      · rw [if_neg (show ¬ ((chF c l).1 != 0) = true by simpa using h1), if_neg (show ¬ (chF c l).1 ≠ 0 from fun h => h h1)]
        by_cases h2 : (shF c l).missing = 0
        · have h2' : (sheet l [] c.table c.speed c.grade).1.missing = 0 := h2
          rw [if_neg (show ¬ ((sheet l [] c.table c.speed c.grade).1.missing != 0) = true by simpa using h2'), if_neg (show ¬ (shF c l).missing ≠ 0 from fun h => h h2)]
          have hrg := blks_b hb
          have hst := stops_loop N (o := o) (by omega) (b := blks o l) (by omega) hrg (blks o l).length N 0 (List.replicate l.length 0) (by omega) (by omega) (by simp [hbn]) rfl
          simp only [Int.natCast_zero] at hst
          have hmk : mkI (0 : Int) (l.length : Int) = some (List.replicate l.length (0 : Int)) := by
            unfold mkI; rw [if_pos (by omega)]; simp
          rw [hmk, bind_some', hst, bind_some']
          have hpl := plan_ok N (by omega) (d := o.dests.length) (by omega) (t := stps o l) (by simp [stps, hbn]; omega) (fun x hx => by
            obtain ⟨y, hy, rfl⟩ := List.mem_map.1 hx
            have := hrg y hy
            omega)
          unfold stps at hpl
          rw [hpl, bind_some', if_neg (by simp)]
          have hcl : slices_Clone_api_Wagon_api_Wagon N l = some l := by
            unfold slices_Clone_api_Wagon_api_Wagon
            refine nilT_of fun t ht => ?_
            cases t with
            | true => exact absurd (ht rfl) hn
            | false => rw [if_neg (by simp), appI_ok (by simp; omega), bind_some']; simp
          rw [hcl, bind_some']
          rfl
        · have h2' : (sheet l [] c.table c.speed c.grade).1.missing ≠ 0 := h2
          rw [if_pos (show ((sheet l [] c.table c.speed c.grade).1.missing != 0) = true by simpa using h2'), if_pos h2, lt_def]; rfl
      · rw [if_pos (show ((chF c l).1 != 0) = true by simpa using h1), if_pos h1]; rfl
  · have he : (blkF o.dests 0 l).2.2 = 7 := by
      rcases blkF_e o.dests l 0 with ⟨h1, _⟩ | ⟨h1, _⟩
      · exact absurd h1 hb
      · exact h1
    rw [if_pos (by simpa using hb), bind_some', if_pos (by simpa using hb), if_pos hb]
    simp only [he]; rfl
theorem sane37 (M : Nat) : l37_sane (M + 200) = some true := by rfl
theorem sane37' {N : Nat} (h : 200 ≤ N) : l37_sane N = some true := by
  obtain ⟨M, rfl⟩ : ∃ M, N = M + 200 := ⟨N - 200, by omega⟩
  exact sane37 M
end Go.W
end
section
set_option linter.unusedVariables false
set_option linter.unusedSimpArgs false
set_option maxRecDepth 100000
namespace Go.W
open Go.AM
theorem res_inl {α β : Type} {p : Nat → α → Bool} {out : Nat → α → β} : ∀ {l : List α} {i : Nat} {u : Unit}, res p out i l = .inl u → ∀ (j : Nat) (x : α), l[j]? = some x → p (i + j) x = false
  | [], i, u, h, j, x, hx => by simp at hx
  | y :: l, i, u, h, j, x, hx => by
    rw [res] at h
    split at h
    · cases h
    · rename_i hp
      cases j with
      | zero => simp at hx; subst hx; simpa using hp
      | succ j =>
        have := res_inl h j x (by simpa using hx)
        rwa [show i + (j + 1) = i + 1 + j by omega]
theorem asc_pair {b : List Int} (h : ∀ j x, b[j]? = some x → fall b j x = false) : b.Pairwise (· ≤ ·) := by
  have h1 : ∀ (k i : Nat), i + k < b.length → b.getD i 0 ≤ b.getD (i + k) 0 := by
    intro k
    induction k with
    | zero => intro i _; exact Int.le_refl _
    | succ k ih =>
      intro i hi
      have h2 := ih i (by omega)
      have h3 := h (i + (k + 1)) (b[i + (k + 1)]) (List.getElem?_eq_getElem hi)
      have h4 : b.getD (i + (k + 1)) 0 = b[i + (k + 1)] := by simp [List.getD, List.getElem?_eq_getElem hi]
      have h5 : i + (k + 1) - 1 = i + k := by omega
      simp only [fall, h5, Bool.and_eq_false_iff, decide_eq_false_iff_not] at h3
      omega
  rw [List.pairwise_iff_getElem]
  intro i j hi hj hij
  have := h1 (j - i) i (by omega)
  rw [show i + (j - i) = j by omega] at this
  simpa [List.getD, List.getElem?_eq_getElem hi, List.getElem?_eq_getElem hj] using this
theorem all_s {s : Int} : ∀ {t : List Int}, (∀ x ∈ t, x = s) → remS s t = [] ∧ cntS s t = t.length ∧ grpS s true t = 0 ∧ t = List.replicate t.length s
  | [], _ => ⟨rfl, rfl, rfl, rfl⟩
  | x :: t, h => by
    obtain ⟨h1, h2, h3, h4⟩ := all_s (s := s) (t := t) fun y hy => h y (by simp [hy])
    obtain rfl : x = s := h x (by simp)
    refine ⟨by rw [remS, if_pos rfl, h1], by rw [cntS, if_pos rfl, h2]; simp; omega, by rw [grpS, if_neg (by simp)]; simp [h3], ?_⟩
    rw [List.length_cons, List.replicate_succ, ← h4]
theorem dsc_step {s : Int} : ∀ {t : List Int}, t.Pairwise (· ≥ ·) → (∀ x ∈ t, s ≤ x) → t = remS s t ++ List.replicate (cntS s t).toNat s ∧ (0 < cntS s t → grpS s false t = 1) ∧ ∀ x ∈ remS s t, x ∈ t ∧ x ≠ s
  | [], _, _ => ⟨rfl, fun h => by simp [cntS] at h, fun x h => by simp [remS] at h⟩
  | x :: t, hp, hs => by
    obtain ⟨p1, p2⟩ := List.pairwise_cons.1 hp
    by_cases hx : x = s
    · subst hx
      obtain ⟨h1, h2, h3, h4⟩ := all_s (s := x) (t := t) fun y hy => by
        have := p1 y hy; have := hs y (by simp [hy]); omega
      have e1 : remS x (x :: t) = [] := by rw [remS, if_pos rfl, h1]
      have e2 : cntS x (x :: t) = t.length + 1 := by rw [cntS, if_pos rfl, h2]; omega
      refine ⟨?_, fun _ => ?_, ?_⟩
      · rw [e1, e2, List.nil_append, show ((t.length : Int) + 1).toNat = t.length + 1 by omega, List.replicate_succ, ← h4]
      · rw [grpS, if_pos ⟨rfl, rfl⟩]; simp [h3]
      · rw [e1]; simp
    · obtain ⟨h1, h2, h3⟩ := dsc_step (s := s) p2 fun y hy => hs y (by simp [hy])
      have e1 : remS s (x :: t) = x :: remS s t := by rw [remS, if_neg hx]
      have e2 : cntS s (x :: t) = cntS s t := by rw [cntS, if_neg hx]; omega
      refine ⟨?_, fun h => ?_, ?_⟩
      · rw [e1, e2, List.cons_append, ← h1]
      · rw [grpS, if_neg (by simp [hx]), decide_eq_false hx, h2 (by rwa [e2] at h)]; rfl
      · rw [e1]
        intro y hy
        rcases List.mem_cons.1 hy with rfl | hy
        · exact ⟨by simp, hx⟩
        · exact ⟨by simp [(h3 y hy).1], (h3 y hy).2⟩
theorem gwS_loop (N : Nat) {a : List Wagon} (ha : a.length ≤ 60000) : ∀ (k n i : Nat), k < n → i + k = a.length → gen_Wagons_0 N a a n i = some (.inl ())
  | k, 0, i, hn, _ => by omega
  | 0, n + 1, i, hn, hi => by rw [gen_Wagons_0, if_neg (dneg (by omega))]
  | k + 1, n + 1, i, hn, hi => by
    have hlt : i < a.length := by omega
    rw [gen_Wagons_0, if_pos (dpos (by omega)), getI_nat (at_lt hlt), bind_some', bind_some', if_neg (by simp), lt_def, w64s (by omega)]
    exact gwS_loop N ha k n (i + 1) (by omega) (by omega)
theorem gwS_ok (N : Nat) {a : List Wagon} (ha : a.length ≤ 60000) (hN : a.length < N) : gen_Wagons N a a = some true := by
  have h := gwS_loop N ha a.length N 0 hN (by omega)
  simp only [Int.natCast_zero] at h
  unfold gen_Wagons
  rw [if_neg (by simp), h]; rfl
theorem dest_at {o : TrainOrder} (hd : o.dests.length ≤ 16) {l : List Wagon} (hr : ∀ x ∈ blks o l, 0 ≤ x ∧ x < o.dests.length) {j : Nat} {s : Int} (hs : (stps o l)[j]? = some s) :
    ∃ w, l[j]? = some w ∧ getI o.dests (IntKind.wrap .i64 (IntKind.wrap .i64 ((o.dests.length : Int) - 1) - s)) = some w.dest := by
  unfold stps blks at hs
  rw [List.map_map, List.getElem?_map] at hs
  cases hw : l[j]? with
  | none => rw [hw] at hs; cases hs
  | some w =>
    rw [hw] at hs
    simp only [Option.map_some, Function.comp, Option.some.injEq] at hs
    have h0 := hr (bidx o.dests w.dest) (List.mem_map.2 ⟨w, List.mem_of_getElem? hw, rfl⟩)
    refine ⟨w, rfl, ?_⟩
    rcases bidx_rg o.dests w.dest with h1 | ⟨i, h1, h2, h3⟩
    · omega
    · rw [w64 (n := (o.dests.length : Int) - 1) (by omega) (by omega), w64 (n := (o.dests.length : Int) - 1 - s) (by omega) (by omega), show (o.dests.length : Int) - 1 - s = (i : Int) by omega]
      exact getI_nat h3
theorem in_loop (N : Nat) {o : TrainOrder} (hd : o.dests.length ≤ 16) {l : List Wagon} (hl : l.length ≤ 96) (hr : ∀ x ∈ blks o l, 0 ≤ x ∧ x < o.dests.length) {s w g : Int} {e : Nat} (he : e ≤ l.length) : ∀ (k n j : Nat), k < n → j + k = e → (∀ i, j ≤ i → i < e → (stps o l)[i]? = some s) →
    l37_TrainbuildSheets_4 N o l e (SetOut.mk s w g) n j = some (.inl ())
  | k, 0, j, hn, _, _ => by omega
  | 0, n + 1, j, hn, hj, _ => by rw [l37_TrainbuildSheets_4, if_neg (dneg (by omega))]
  | k + 1, n + 1, j, hn, hj, h => by
    obtain ⟨x, h1, h2⟩ := dest_at hd hr (h j (Nat.le_refl _) (by omega))
    rw [l37_TrainbuildSheets_4, if_pos (dpos (by omega)), getI_nat h1, bind_some', h2, bind_some', if_neg (by simp), lt_def, w64s (by omega)]
    exact in_loop N hd hl hr he k n (j + 1) (by omega) (by omega) fun i h3 h4 => h i (by omega) h4
theorem out_loop (N : Nat) (hN : 200 ≤ N) {o : TrainOrder} (hd : o.dests.length ≤ 16) {l : List Wagon} (hl : l.length ≤ 96) (hr : ∀ x ∈ blks o l, 0 ≤ x ∧ x < o.dests.length) {f : Final} : ∀ (k n s : Nat) (t : List Int) (pre : List SetOut), k < n → s + k = o.dests.length → t <+: stps o l →
    t.Pairwise (· ≥ ·) → (∀ x ∈ t, (s : Int) ≤ x ∧ x < o.dests.length) → f.setOuts = pre ++ planF k s t → pre.length ≤ s → l37_TrainbuildSheets_2 N o l f n t.length pre.length = some (.inl 0)
  | k, 0, s, t, pre, hn, _, _, _, _, _, _ => by omega
  | 0, n + 1, s, t, pre, hn, hs, ht, hp, hb, hf, hq => by
    have h0 : t = [] := by
      cases t with
      | nil => rfl
      | cons x t => have := hb x (by simp); omega
    subst h0
    rw [l37_TrainbuildSheets_2, hf, if_neg (dneg (by simp [planF]))]; rfl
  | k + 1, n + 1, s, t, pre, hn, hs, ht, hp, hb, hf, hq => by
    obtain ⟨h1, h2, h3⟩ := dsc_step (s := (s : Int)) hp fun x hx => (hb x hx).1
    have hc := cntS_b (s : Int) t
    have htl : t.length ≤ l.length := by
      have := ht.length_le
      simpa [stps, blks] using this
    have hlen := congrArg List.length h1
    rw [List.length_append, List.length_replicate] at hlen
    have hpf : remS (s : Int) t <+: t := ⟨_, h1.symm⟩
    have hb' : ∀ x ∈ remS (s : Int) t, ((s + 1 : Nat) : Int) ≤ x ∧ x < o.dests.length := fun x hx => by
      obtain ⟨g1, g2⟩ := h3 x hx
      have := hb x g1
      omega
    rw [planF] at hf
    by_cases hc0 : 0 < cntS (s : Int) t
    · rw [if_pos hc0, h2 hc0, ← List.append_assoc] at hf
      have hi : f.setOuts[pre.length]? = some (SetOut.mk s (cntS (s : Int) t) 1) := by
        rw [hf, List.append_assoc, List.getElem?_append_right (Nat.le_refl _)]; simp
      have hlt := (List.getElem?_eq_some_iff.1 hi).1
      have e3 : l37_TrainbuildSheets_3 N o (t.length : Int) (SetOut.mk s (cntS (s : Int) t) 1) = some false := by
        unfold l37_TrainbuildSheets_3
        simp only []
        rw [if_neg (by simp), if_neg (dneg (by omega)), if_neg (dneg (by omega)), if_neg (dneg (by omega)), decide_eq_false (by omega)]
      have ec : (t.length : Int) - cntS (s : Int) t = ((remS (s : Int) t).length : Int) := by omega
      have h4 := in_loop N hd hl hr (s := (s : Int)) (w := cntS (s : Int) t) (g := 1) htl (t.length - (remS (s : Int) t).length) N (remS (s : Int) t).length (by omega) (by omega) fun i g1 g2 => by
        obtain ⟨u, hu⟩ := ht
        rw [← hu, List.getElem?_append_left g2]
        conv => lhs; rw [h1]
        rw [List.getElem?_append_right g1, List.getElem?_replicate, if_pos (by omega)]
      rw [l37_TrainbuildSheets_2, if_pos (dpos (by omega)), getI_nat hi, bind_some', e3, bind_some', if_neg (by simp), lt_def]
      simp only []
      rw [ec, w64 (n := ((remS (s : Int) t).length : Int)) (by omega) (by omega), h4, bind_some']
      simp only [lt_def]
      rw [w64s (by have := hpf.length_le; omega)]
      have := out_loop N hN hd hl hr (f := f) k n (s + 1) (remS (s : Int) t) (pre ++ [SetOut.mk s (cntS (s : Int) t) 1]) (by omega) (by omega) (hpf.trans ht) (hp.sublist hpf.sublist) hb' hf (by simp; omega)
      simpa using this
    · rw [if_neg hc0, List.nil_append] at hf
      have e0 : remS (s : Int) t = t := by
        conv => rhs; rw [h1]
        rw [show (cntS (s : Int) t).toNat = 0 by omega]; simp
      rw [e0] at hf hb'
      exact out_loop N hN hd hl hr (f := f) k (n + 1) (s + 1) t pre (by omega) (by omega) ht hp hb' hf (by omega)
theorem sheets_ok (t : List Int) : l37_TrainbuildSheets 2000 t = some true := by
  unfold l37_TrainbuildSheets gen_New
  obtain ⟨c, o, l, s, e1, hc, ho, hl, hn⟩ := made37 2000 (by omega) (mk0 t) (by omega) 10 (by omega)
  have e1 : l37_made 2000 (Maker.mk t 0) 10 = some (c, o, l, s) := e1
  have hd := ho.d2
  have hl96 := (listErr_zero.1 hl).1
  have hF := err_fu (N := 2000) (by omega) hl
  rw [bind_some', e1, bind_some']
  simp only []
  rw [bld_ok 2000 (by omega) hc ho hl, bind_some']
  have hck := (check_ok 2000 (by omega) (rs := c.rules) (by have := hc.rn; omega) hF (off := []) (by simp)).2
  have hsh := (sheet_ok 2000 (by omega) hF (off := []) (by simp) hc.tl c.speed c.grade).2
  rw [chk_eq hc hl] at hck
  have hbad : ∀ a b e : Int, e ≠ 0 → bldF c o l = (fin0, a, b, e) → (if ((bldF c o l).2.2.2 != 0) = true then Option.bind (l37_TrainbuildSheets_0 2000 (bldF c o l).1) fun y5 => some y5 else none) = some true := by
    intro a b e he h
    rw [h]
    rw [if_pos (by simpa using he)]
    unfold l37_TrainbuildSheets_0
    rw [if_pos (by simp [fin0]), sane37' (by omega)]; rfl
  have hbad' : ∀ (a b e : Int) (y : Option Bool), e ≠ 0 → bldF c o l = (fin0, a, b, e) → (if ((bldF c o l).2.2.2 != 0) = true then Option.bind (l37_TrainbuildSheets_0 2000 (bldF c o l).1) fun y5 => some y5 else y) = some true := by
    intro a b e y he h
    have h1 := hbad a b e he h
    have hp : ((bldF c o l).2.2.2 != 0) = true := by rw [h]; simpa using he
    rw [if_pos hp] at h1 ⊢
    exact h1
  by_cases hnl : l = []
  · exact hbad' 0 0 13 _ (by decide) (by unfold bldF; rw [if_pos hnl])
  by_cases hb : (blkF o.dests 0 l).2.2 = 0
  · have hnb : ¬ (blkF o.dests 0 l).2.2 ≠ 0 := fun h => h hb
    cases hr : res (fall (blks o l)) (fun i _ => ((i : Int), (12 : Int))) 0 (blks o l) with
    | inr y =>
      have hy : y.2 = 12 := by
        have : ∀ (b : List Int) (i : Nat), res (fall (blks o l)) (fun i _ => ((i : Int), (12 : Int))) i b = .inr y → y.2 = 12 := by
          intro b
          induction b with
          | nil => intro i h; cases h
          | cons x b ih =>
            intro i h
            rw [res] at h
            split at h
            · cases h; rfl
            · exact ih _ h
        exact this _ _ hr
      exact hbad' 0 y.1 12 _ (by decide) (by unfold bldF; rw [if_neg hnl, if_neg hnb, hr])
    | inl u =>
      by_cases h1 : (chF c l).1 = 0
      · have n1 : ¬ (chF c l).1 ≠ 0 := fun h => h h1
        by_cases h2 : (shF c l).missing = 0
        · have n2 : ¬ (shF c l).missing ≠ 0 := fun h => h h2
          have hB : bldF c o l = (Final.mk o.name l (shF c l) (planF o.dests.length 0 (stps o l)), 0, 0, 0) := by
            unfold bldF; rw [if_neg hnl, if_neg hnb, hr]; simp only []; rw [if_neg n1, if_neg n2]
          have hrg := blks_b hb
          have hasc := asc_pair fun j x hx => by
            have := res_inl hr j x hx
            simpa using this
          have hdsc : (stps o l).Pairwise (· ≥ ·) := by
            unfold stps
            rw [List.pairwise_map]
            exact hasc.imp fun {a b} h => by omega
          have hlen : (stps o l).length = l.length := by simp [stps, blks]
          have hL := out_loop 2000 (by omega) (o := o) (by omega) (l := l) (by omega) hrg (f := Final.mk o.name l (shF c l) (planF o.dests.length 0 (stps o l))) o.dests.length 2000 0 (stps o l) [] (by omega) (by omega) (List.prefix_refl _) hdsc (fun x hx => by
            obtain ⟨y, hy, rfl⟩ := List.mem_map.1 hx
            have := hrg y hy
            omega) rfl (by simp)
          rw [hlen] at hL
          simp only [List.length_nil, Int.natCast_zero] at hL
          have h11 : l37_TrainbuildSheets_1 2000 o l (Final.mk o.name l (shF c l) (planF o.dests.length 0 (stps o l))) 0 0 (chF c l).1 (chF c l).2.2 (sheet l [] c.table c.speed c.grade).1 (sheet l [] c.table c.speed c.grade).2 = some false := by
            have h2' : (sheet l [] c.table c.speed c.grade).1.missing = 0 := h2
            have hce : (chF c l).2.2 = 0 := by unfold chF; exact checkF_e _ _ _ _
            unfold l37_TrainbuildSheets_1
            rw [gwS_ok 2000 (a := l) (by omega) (by omega), h1, hce, sh_e hc hl, h2']
            simp only [bind_some']
            simp [shF]
          rw [hB]
          simp only []
          rw [if_neg (by decide), hck, bind_some', hsh, bind_some', h11, bind_some', if_neg (by simp), lt_def, hL, bind_some']
          simp only []
          unfold l37_TrainbuildSheets_5
          rw [if_pos (by decide), sane37' (by omega)]; rfl
        · exact hbad' 0 l.length 20 _ (by decide) (by unfold bldF; rw [if_neg hnl, if_neg hnb, hr]; simp only []; rw [if_neg n1, if_pos h2])
      · exact hbad' (chF c l).1 (chF c l).2.1 20 _ (by decide) (by unfold bldF; rw [if_neg hnl, if_neg hnb, hr]; simp only []; rw [if_pos h1])
  · exact hbad' 0 (blkF o.dests 0 l).2.1 7 _ (by decide) (by unfold bldF; rw [if_neg hnl, if_pos hb])
theorem sheetsT (t : List Int) : ∃ N, l37_TrainbuildSheets N t = some true := ⟨2000, sheets_ok t⟩
end Go.W
end
