import Derived.Test.YtnmaanodnakopaaRows
import Derived.WalkKit
import Derived.ProofKit
import Derived.OpenShut
import Derived.ShutString
import Derived.ChangeOld
import Derived.Below
import Derived.Test.YtnmaanodnakopaaMf
/- 'humpyardlaw33.RepairExact' returns true whatever the input, and the input reads as it did; no condition. -/
namespace Go.Proofs.Ytnmaanodnakopaa.repairExactDone
open Go.ChangeShapes Go.WideShapes Go.ChangeAt Go.RowKit
open Go.ChangeMaps (open_string shut_string)
set_option linter.unusedVariables false
set_option linter.unusedSimpArgs false
set_option maxRecDepth 20000

theorem own : ownKnob Try.prog.godebug = none := by kernel_rfl
theorem laidOut : laidOutB Try.prog = true := by kernel_rfl

def g44 (x : Go.W.Item) : Prop := AM.gInt .i64 x.train ∧ AM.gInt .i64 x.block ∧ AM.gInt .i64 x.round ∧ AM.gInt .i64 x.length
theorem opn44 : AM.Opn Try.prog Go.W.Ty44 g44 where
  sz := by kernel_rfl
  pos := by show 0 < 4; decide
  rd := by
    intro H enc w fuel cs x h
    obtain ⟨xs, n, _, _, hl, hlen, hf⟩ := DataW.trod_struct Try.underlying44 h
    have hl : cs.length = 4 := hl.trans (show Program.cellsOf Try.prog 44 = 4 by kernel_rfl)
    obtain ⟨c0, c1, c2, c3, rfl⟩ : ∃ c0 c1 c2 c3, cs = [c0, c1, c2, c3] := by
      match cs, hl with
      | [c0, c1, c2, c3], _ => exact ⟨c0, c1, c2, c3, rfl⟩
    obtain ⟨y0, e0⟩ := AM.fld hlen hf 0 rfl
    replace e0 : DataW.trod enc Try.prog w 0 (fun _ => true) true n 3 [c0] = some y0 := by
      have hsz : Program.cellsOf Try.prog 3 = 1 := by kernel_rfl
      have e := e0
      simpa [hsz] using e
    obtain ⟨o0, r0⟩ := (AM.opn_int Try.underlying3 Try.type3 rfl).rd e0
    obtain ⟨y1, e1⟩ := AM.fld hlen hf 1 rfl
    replace e1 : DataW.trod enc Try.prog w 0 (fun _ => true) true n 3 [c1] = some y1 := by
      have hsz : Program.cellsOf Try.prog 3 = 1 := by kernel_rfl
      have e := e1
      simpa [hsz] using e
    obtain ⟨o1, r1⟩ := (AM.opn_int Try.underlying3 Try.type3 rfl).rd e1
    obtain ⟨y2, e2⟩ := AM.fld hlen hf 2 rfl
    replace e2 : DataW.trod enc Try.prog w 0 (fun _ => true) true n 3 [c2] = some y2 := by
      have hsz : Program.cellsOf Try.prog 3 = 1 := by kernel_rfl
      have e := e2
      simpa [hsz] using e
    obtain ⟨o2, r2⟩ := (AM.opn_int Try.underlying3 Try.type3 rfl).rd e2
    obtain ⟨y3, e3⟩ := AM.fld hlen hf 3 rfl
    replace e3 : DataW.trod enc Try.prog w 0 (fun _ => true) true n 3 [c3] = some y3 := by
      have hsz : Program.cellsOf Try.prog 3 = 1 := by kernel_rfl
      have e := e3
      simpa [hsz] using e
    obtain ⟨o3, r3⟩ := (AM.opn_int Try.underlying3 Try.type3 rfl).rd e3
    refine ⟨fun c hc => ?_, fun b hb => ?_⟩
    · simp only [List.mem_cons, List.not_mem_nil, or_false] at hc
      rcases hc with rfl | rfl | rfl | rfl
      · exact (o0 _ (by simp))
      · exact (o1 _ (by simp))
      · exact (o2 _ (by simp))
      · exact (o3 _ (by simp))
    obtain ⟨z0, hz0, gg0⟩ := r0 b (hb.imp id fun h c hc => h c (by simp at hc; simp [hc]))
    have hz0 : [AM.seen w b c0] = [(Value.int .i64 z0)] := hz0
    injection hz0 with hz0
    obtain ⟨z1, hz1, gg1⟩ := r1 b (hb.imp id fun h c hc => h c (by simp at hc; simp [hc]))
    have hz1 : [AM.seen w b c1] = [(Value.int .i64 z1)] := hz1
    injection hz1 with hz1
    obtain ⟨z2, hz2, gg2⟩ := r2 b (hb.imp id fun h c hc => h c (by simp at hc; simp [hc]))
    have hz2 : [AM.seen w b c2] = [(Value.int .i64 z2)] := hz2
    injection hz2 with hz2
    obtain ⟨z3, hz3, gg3⟩ := r3 b (hb.imp id fun h c hc => h c (by simp at hc; simp [hc]))
    have hz3 : [AM.seen w b c3] = [(Value.int .i64 z3)] := hz3
    injection hz3 with hz3
    refine ⟨Go.W.Item.mk z0 z1 z2 z3, ?_, gg0, gg1, gg2, gg3⟩
    exact ⟨hz0, hz1, hz2, hz3, trivial⟩
def g28 (x : Go.W.Disorder) : Prop := AM.gSl (g44) x.items ∧ AM.gSl (AM.gInt .i64) x.homes ∧ AM.gSl (AM.gSl (AM.gInt .i64)) x.tracks
theorem opn28 : AM.Opn Try.prog Go.W.Ty28 g28 where
  sz := by kernel_rfl
  pos := by show 0 < 3; decide
  rd := by
    intro H enc w fuel cs x h
    obtain ⟨xs, n, _, _, hl, hlen, hf⟩ := DataW.trod_struct Try.underlying28 h
    have hl : cs.length = 3 := hl.trans (show Program.cellsOf Try.prog 28 = 3 by kernel_rfl)
    obtain ⟨c0, c1, c2, rfl⟩ : ∃ c0 c1 c2, cs = [c0, c1, c2] := by
      match cs, hl with
      | [c0, c1, c2], _ => exact ⟨c0, c1, c2, rfl⟩
    obtain ⟨y0, e0⟩ := AM.fld hlen hf 0 rfl
    replace e0 : DataW.trod enc Try.prog w 0 (fun _ => true) true n 25 [c0] = some y0 := by
      have hsz : Program.cellsOf Try.prog 25 = 1 := by kernel_rfl
      have e := e0
      simpa [hsz] using e
    obtain ⟨d0, hd0, ok0, sl0⟩ := AM.opn_slr (T := Go.W.Ty44) opn44 Try.underlying25 e0
    obtain rfl : d0 = c0 := by simpa using hd0.symm
    obtain ⟨y1, e1⟩ := AM.fld hlen hf 1 rfl
    replace e1 : DataW.trod enc Try.prog w 0 (fun _ => true) true n 22 [c1] = some y1 := by
      have hsz : Program.cellsOf Try.prog 22 = 1 := by kernel_rfl
      have e := e1
      simpa [hsz] using e
    obtain ⟨d1, hd1, ok1, sl1⟩ := AM.opn_slr (T := Go.W.Ty3) (AM.Opn.conv (T' := Go.W.Ty3) (AM.opn_int Try.underlying3 Try.type3 rfl) rfl rfl fun z x cs h => by obtain rfl : cs = [_] := h; exact ⟨rfl, trivial⟩) Try.underlying22 e1
    obtain rfl : d1 = c1 := by simpa using hd1.symm
    obtain ⟨y2, e2⟩ := AM.fld hlen hf 2 rfl
    replace e2 : DataW.trod enc Try.prog w 0 (fun _ => true) true n 26 [c2] = some y2 := by
      have hsz : Program.cellsOf Try.prog 26 = 1 := by kernel_rfl
      have e := e2
      simpa [hsz] using e
    obtain ⟨d2, hd2, ok2, sl2⟩ := AM.opn_slr (T := Go.W.Ty22) (AM.Opn.conv (T' := Go.W.Ty22) (AM.opn_sl (AM.Opn.conv (T' := Go.W.Ty3) (AM.opn_int Try.underlying3 Try.type3 rfl) rfl rfl fun z x cs h => by obtain rfl : cs = [_] := h; exact ⟨rfl, trivial⟩) Try.underlying22 Try.type22 rfl) rfl rfl fun z x cs h => by obtain ⟨v, rfl, h⟩ := h; exact ⟨h, trivial⟩) Try.underlying26 e2
    obtain rfl : d2 = c2 := by simpa using hd2.symm
    refine ⟨fun c hc => ?_, fun b hb => ?_⟩
    · simp only [List.mem_cons, List.not_mem_nil, or_false] at hc
      rcases hc with rfl | rfl | rfl
      · exact ok0
      · exact ok1
      · exact ok2
    obtain ⟨z0, sr0, gg0⟩ := sl0 b (hb.imp id fun h => h _ (by simp))
    obtain ⟨z1, sr1, gg1⟩ := sl1 b (hb.imp id fun h => h _ (by simp))
    obtain ⟨z2, sr2, gg2⟩ := sl2 b (hb.imp id fun h => h _ (by simp))
    refine ⟨Go.W.Disorder.mk z0 z1 z2, ?_, gg0, gg1, gg2⟩
    exact ⟨sr0, sr1, sr2, trivial⟩
def g39 (x : Go.W.Pull) : Prop := AM.gInt .i64 x.item ∧ AM.gInt .i64 x.reason ∧ AM.gInt .i64 x.because ∧ AM.gInt .i64 x.round
theorem opn39 : AM.Opn Try.prog Go.W.Ty39 g39 where
  sz := by kernel_rfl
  pos := by show 0 < 4; decide
  rd := by
    intro H enc w fuel cs x h
    obtain ⟨xs, n, _, _, hl, hlen, hf⟩ := DataW.trod_struct Try.underlying39 h
    have hl : cs.length = 4 := hl.trans (show Program.cellsOf Try.prog 39 = 4 by kernel_rfl)
    obtain ⟨c0, c1, c2, c3, rfl⟩ : ∃ c0 c1 c2 c3, cs = [c0, c1, c2, c3] := by
      match cs, hl with
      | [c0, c1, c2, c3], _ => exact ⟨c0, c1, c2, c3, rfl⟩
    obtain ⟨y0, e0⟩ := AM.fld hlen hf 0 rfl
    replace e0 : DataW.trod enc Try.prog w 0 (fun _ => true) true n 3 [c0] = some y0 := by
      have hsz : Program.cellsOf Try.prog 3 = 1 := by kernel_rfl
      have e := e0
      simpa [hsz] using e
    obtain ⟨o0, r0⟩ := (AM.opn_int Try.underlying3 Try.type3 rfl).rd e0
    obtain ⟨y1, e1⟩ := AM.fld hlen hf 1 rfl
    replace e1 : DataW.trod enc Try.prog w 0 (fun _ => true) true n 3 [c1] = some y1 := by
      have hsz : Program.cellsOf Try.prog 3 = 1 := by kernel_rfl
      have e := e1
      simpa [hsz] using e
    obtain ⟨o1, r1⟩ := (AM.opn_int Try.underlying3 Try.type3 rfl).rd e1
    obtain ⟨y2, e2⟩ := AM.fld hlen hf 2 rfl
    replace e2 : DataW.trod enc Try.prog w 0 (fun _ => true) true n 3 [c2] = some y2 := by
      have hsz : Program.cellsOf Try.prog 3 = 1 := by kernel_rfl
      have e := e2
      simpa [hsz] using e
    obtain ⟨o2, r2⟩ := (AM.opn_int Try.underlying3 Try.type3 rfl).rd e2
    obtain ⟨y3, e3⟩ := AM.fld hlen hf 3 rfl
    replace e3 : DataW.trod enc Try.prog w 0 (fun _ => true) true n 3 [c3] = some y3 := by
      have hsz : Program.cellsOf Try.prog 3 = 1 := by kernel_rfl
      have e := e3
      simpa [hsz] using e
    obtain ⟨o3, r3⟩ := (AM.opn_int Try.underlying3 Try.type3 rfl).rd e3
    refine ⟨fun c hc => ?_, fun b hb => ?_⟩
    · simp only [List.mem_cons, List.not_mem_nil, or_false] at hc
      rcases hc with rfl | rfl | rfl | rfl
      · exact (o0 _ (by simp))
      · exact (o1 _ (by simp))
      · exact (o2 _ (by simp))
      · exact (o3 _ (by simp))
    obtain ⟨z0, hz0, gg0⟩ := r0 b (hb.imp id fun h c hc => h c (by simp at hc; simp [hc]))
    have hz0 : [AM.seen w b c0] = [(Value.int .i64 z0)] := hz0
    injection hz0 with hz0
    obtain ⟨z1, hz1, gg1⟩ := r1 b (hb.imp id fun h c hc => h c (by simp at hc; simp [hc]))
    have hz1 : [AM.seen w b c1] = [(Value.int .i64 z1)] := hz1
    injection hz1 with hz1
    obtain ⟨z2, hz2, gg2⟩ := r2 b (hb.imp id fun h c hc => h c (by simp at hc; simp [hc]))
    have hz2 : [AM.seen w b c2] = [(Value.int .i64 z2)] := hz2
    injection hz2 with hz2
    obtain ⟨z3, hz3, gg3⟩ := r3 b (hb.imp id fun h c hc => h c (by simp at hc; simp [hc]))
    have hz3 : [AM.seen w b c3] = [(Value.int .i64 z3)] := hz3
    injection hz3 with hz3
    refine ⟨Go.W.Pull.mk z0 z1 z2 z3, ?_, gg0, gg1, gg2, gg3⟩
    exact ⟨hz0, hz1, hz2, hz3, trivial⟩
theorem len3 {α : Type} : ∀ {l : List α}, l.length = 3 → ∃ a0 a1 a2, l = [a0, a1, a2]
  | [a0, a1, a2], _ => ⟨a0, a1, a2, rfl⟩

set_option maxRecDepth 100000 in
theorem lifted (os : Os) (started : os.Started) (H : Type) (enc : TypeId × Value → H) :
    ReturnsInHanded {} Try.checked os 6 .any (Rows.repairExactSpec.pre6 enc Try.prog Try.f6 Rows.repairExactRow.domain false) (Rows.repairExactSpec.post enc Try.prog Try.f6 false true false false) := by
  refine returnsInHanded_of_change (C := Try.checked) own started (by kernel_rfl) Try.func6
    (ChangeSpec.witness6 (enc := enc) (C := Try.checked) false ⟨#[], #[.slice none 0 0, .agg #[.slice none 0 0, .slice none 0 0, .slice none 0 0], .slice none 0 0, .int .i64 0], []⟩ 8 (by kernel_rfl) (by kernel_rfl) (by kernel_rfl) (by kernel_rfl)) ?_
  intro W base args ds gs before hval0 hW hcnd _
  have hval : ∀ (j : Nat) t v, Try.f6.params[j]? = some t → args[j]? = some v → Value.okWide Try.prog W .any base t v := hval0
  have hW' := hW
  obtain ⟨p, q, hA0, hV, rfl, hfz, hnd⟩ := hW
  have hA : DataW.TrodAll enc Try.prog W 0 (fun _ => true) true Try.f6.params.toList args.toList ds p := hA0
  rw [Try.params6] at hA hval
  obtain ⟨v0, vs0, d0, ds0, p0, q0, hargs, rfl, rfl, h0, r0⟩ := trodAll_cons hA
  obtain ⟨v1, vs1, d1, ds1, p1, q1, rfl, rfl, rfl, h1, r1⟩ := trodAll_cons r0
  obtain ⟨v2, vs2, d2, ds2, p2, q2, rfl, rfl, rfl, h2, r2⟩ := trodAll_cons r1
  obtain ⟨v3, vs3, d3, ds3, p3, q3, rfl, rfl, rfl, h3, r3⟩ := trodAll_cons r2
  obtain ⟨rfl, rfl, rfl⟩ := trodAll_nil r3
  obtain rfl : args = #[v0, v1, v2, v3] := by cases args; simp_all
  obtain ⟨rfl, rfl⟩ := trodVars_none hV
  have k0 := h0
  have lt0 : ∀ x ∈ p0, x.block < W.heap.size := by obtain ⟨m, hm⟩ := k0; exact DataW.trod_lt m _ _ _ hm
  obtain ⟨vr0, z0, s0, w0⟩ := AM.arg_slr (T := Go.W.Ty3) (AM.Opn.conv (T' := Go.W.Ty3) (AM.opn_int Try.underlying3 Try.type3 rfl) rfl rfl fun z x cs h => by obtain rfl : cs = [_] := h; exact ⟨rfl, trivial⟩) Try.underlying22 (hval 0 22 v0 rfl rfl) h0
  have k1 := h1
  have lt1 : ∀ x ∈ p1, x.block < W.heap.size := by obtain ⟨m, hm⟩ := k1; exact DataW.trod_lt m _ _ _ hm
  obtain ⟨vr1, z1, cs1, rfl, rd1, w1⟩ := AM.arg_agg (T := Go.W.Ty28) opn28 Try.underlying28 (hval 1 28 v1 rfl rfl) h1
  obtain ⟨u1_0, u1_1, u1_2, rfl⟩ := len3 (show cs1.length = 3 from AM.rdL_len rd1)
  obtain ⟨s1_0, s1_1, s1_2, _⟩ := rd1
  have k2 := h2
  have lt2 : ∀ x ∈ p2, x.block < W.heap.size := by obtain ⟨m, hm⟩ := k2; exact DataW.trod_lt m _ _ _ hm
  obtain ⟨vr2, z2, s2, w2⟩ := AM.arg_slr (T := Go.W.Ty39) opn39 Try.underlying30 (hval 2 30 v2 rfl rfl) h2
  have k3 := h3
  have lt3 : ∀ x ∈ p3, x.block < W.heap.size := by obtain ⟨m, hm⟩ := k3; exact DataW.trod_lt m _ _ _ hm
  obtain ⟨z3, rfl, rfl, rfl, w3⟩ := open_int Try.underlying3 (hval 3 3 v3 rfl rfl) h3
  have vr3 : AM.VR (AM.emb0 W) (.int .i64 z3) (.int .i64 z3) := rfl
  clear hA0 hval0
  obtain ⟨N, hN⟩ := Go.W.rexactT33 z0 z1 z2 z3
  have ec : Go.W.dzaN.call Go.W.X0 (Go.W.FzaN N) [.c (.sl 3 z0), .agg 28 [.sl 44 z1.items, .sl 3 z1.homes, .sl 22 z1.tracks], .c (.sl 39 z2), .c (.int .i64 z3)] [] (fun sv _ => some sv) = Option.bind (Go.W.zaN N z0 z1 z2 z3) fun y => some (.c (.bool y)) := by kernel_rfl
  rw [hN] at ec
  have hL : AM.L2 (AM.rel Go.W.X0.G (AM.mem0 W).blk []) [.c (.sl 3 z0), .agg 28 [.sl 44 z1.items, .sl 3 z1.homes, .sl 22 z1.tracks], .c (.sl 39 z2), .c (.int .i64 z3)] [v0, .agg [u1_0, u1_1, u1_2].toArray, v2, .int .i64 z3] := ⟨s0, ⟨_, rfl, s1_0, s1_1, s1_2, trivial⟩, s2, rfl, trivial⟩
  refine ((AM.law_of_call (by kernel_rfl) ?_ (AM.CallOk.law (X := Go.W.X0) (F := Go.W.FzaN N) (by first | exact (Go.W.ozaN N).call.base | exact (Go.W.ozaN N).call.cuts.base) (AM.mem0_fz W) (AM.mem0_dead W) hL ec))).mono fun e W' ⟨he, bel⟩ => ?_
  · intro a ha
    simp only [List.mem_cons, List.not_mem_nil, or_false] at ha
    rcases ha with rfl | rfl | rfl | rfl
    · exact vr0
    · exact vr1
    · exact vr2
    · exact vr3
  · subst he
    exact ⟨_, rfl, _, _, _, [], _, [], hW', trodAll_mk1 (shut_bool Try.underlying4 _), (trodAll_cons_mk (Below.trod laidOut (by kernel_rfl) (of_decide_eq_true (by kernel_rfl)) k0 bel lt0) (trodAll_cons_mk (Below.trod laidOut (by kernel_rfl) (of_decide_eq_true (by kernel_rfl)) k1 bel lt1) (trodAll_cons_mk (Below.trod laidOut (by kernel_rfl) (of_decide_eq_true (by kernel_rfl)) k2 bel lt2) (trodAll_cons_mk (Below.trod laidOut (by kernel_rfl) (of_decide_eq_true (by kernel_rfl)) k3 bel lt3) trodAll_mk0)))), rfl, bel.frame _, fun h => by cases h⟩

theorem over : Rows.repairExactRow.holds Try.pinned (OpenSpec.ofChange Rows.repairExactSpec) :=
  OpenClaim.holds_of_wide 6 Try.f6 rfl rfl rfl rfl rfl rfl rfl ⟨rfl, rfl, rfl, rfl, rfl⟩ rfl rfl rfl rfl rfl (by kernel_rfl) Try.func6 (by kernel_rfl)
    (of_decide_eq_true (by kernel_rfl)) (by unfold Func.isWrapper; first | (rw [if_pos (by decide +kernel)]; kernel_rfl) | (rw [if_neg (by decide +kernel)]; exact ⟨rfl, rfl⟩))
    (fun os started H enc _ => lifted os started H enc)

theorem proved : Rows.RepairExactSaid := over
#print axioms proved
end Go.Proofs.Ytnmaanodnakopaa.repairExactDone
