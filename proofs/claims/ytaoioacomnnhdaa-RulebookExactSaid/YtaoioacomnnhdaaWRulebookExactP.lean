import Derived.Test.YtaoioacomnnhdaaRows
import Derived.WalkKit
import Derived.ProofKit
import Derived.OpenShut
import Derived.ShutString
import Derived.ChangeOld
import Derived.Below
import Derived.Test.YtaoioacomnnhdaaMf
/- 'humpyardlaw36.RulebookExact' returns true whatever the input, and the input reads as it did; no condition. -/
namespace Go.Proofs.Ytaoioacomnnhdaa.rulebookExactDone
open Go.ChangeShapes Go.WideShapes Go.ChangeAt Go.RowKit
open Go.ChangeMaps (open_string shut_string)
set_option linter.unusedVariables false
set_option linter.unusedSimpArgs false

theorem own : ownKnob Try.prog.godebug = none := by kernel_rfl
theorem laidOut : laidOutB Try.prog = true := by kernel_rfl

def g32 (x : Go.W.Rule) : Prop := AM.gInt .i64 x.number ∧ AM.gInt .i64 x.kind ∧ AM.gInt .i64 x.a ∧ AM.gInt .i64 x.b ∧ AM.gInt .i64 x.c
theorem opn32 : AM.Opn Try.prog Go.W.Ty32 g32 where
  sz := by kernel_rfl
  pos := by show 0 < 5; decide
  rd := by
    intro H enc w fuel cs x h
    obtain ⟨xs, n, _, _, hl, hlen, hf⟩ := DataW.trod_struct Try.underlying32 h
    have hl : cs.length = 5 := hl.trans (show Program.cellsOf Try.prog 32 = 5 by kernel_rfl)
    obtain ⟨c0, c1, c2, c3, c4, rfl⟩ : ∃ c0 c1 c2 c3 c4, cs = [c0, c1, c2, c3, c4] := by
      match cs, hl with
      | [c0, c1, c2, c3, c4], _ => exact ⟨c0, c1, c2, c3, c4, rfl⟩
    obtain ⟨y0, e0⟩ := AM.fld hlen hf 0 rfl
    replace e0 : DataW.trod enc Try.prog w 0 (fun _ => true) true n 3 [c0] = some y0 := by
      have hsz : Program.cellsOf Try.prog 3 = 1 := by kernel_rfl
      have e := e0
      simpa [hsz] using e
    obtain ⟨o0, r0⟩ := (AM.opn_int Try.underlying3 Try.type3 rfl).rd e0
    obtain ⟨y1, e1⟩ := AM.fld hlen hf 1 rfl
    replace e1 : DataW.trod enc Try.prog w 0 (fun _ => true) true n 3 [c1] = some y1 := by
      have hsz : Program.cellsOf Try.prog 3 = 1 := by kernel_rfl
      have e := e1
      simpa [hsz] using e
    obtain ⟨o1, r1⟩ := (AM.opn_int Try.underlying3 Try.type3 rfl).rd e1
    obtain ⟨y2, e2⟩ := AM.fld hlen hf 2 rfl
    replace e2 : DataW.trod enc Try.prog w 0 (fun _ => true) true n 3 [c2] = some y2 := by
      have hsz : Program.cellsOf Try.prog 3 = 1 := by kernel_rfl
      have e := e2
      simpa [hsz] using e
    obtain ⟨o2, r2⟩ := (AM.opn_int Try.underlying3 Try.type3 rfl).rd e2
    obtain ⟨y3, e3⟩ := AM.fld hlen hf 3 rfl
    replace e3 : DataW.trod enc Try.prog w 0 (fun _ => true) true n 3 [c3] = some y3 := by
      have hsz : Program.cellsOf Try.prog 3 = 1 := by kernel_rfl
      have e := e3
      simpa [hsz] using e
    obtain ⟨o3, r3⟩ := (AM.opn_int Try.underlying3 Try.type3 rfl).rd e3
    obtain ⟨y4, e4⟩ := AM.fld hlen hf 4 rfl
    replace e4 : DataW.trod enc Try.prog w 0 (fun _ => true) true n 3 [c4] = some y4 := by
      have hsz : Program.cellsOf Try.prog 3 = 1 := by kernel_rfl
      have e := e4
      simpa [hsz] using e
    obtain ⟨o4, r4⟩ := (AM.opn_int Try.underlying3 Try.type3 rfl).rd e4
    refine ⟨fun c hc => ?_, fun b hb => ?_⟩
    · simp only [List.mem_cons, List.not_mem_nil, or_false] at hc
      rcases hc with rfl | rfl | rfl | rfl | rfl
      · exact (o0 _ (by simp))
      · exact (o1 _ (by simp))
      · exact (o2 _ (by simp))
      · exact (o3 _ (by simp))
      · exact (o4 _ (by simp))
    obtain ⟨z0, hz0, gg0⟩ := r0 b (hb.imp id fun h c hc => h c (by simp at hc; simp [hc]))
    have hz0 : [AM.seen w b c0] = [(Value.int .i64 z0)] := hz0
    injection hz0 with hz0
    obtain ⟨z1, hz1, gg1⟩ := r1 b (hb.imp id fun h c hc => h c (by simp at hc; simp [hc]))
    have hz1 : [AM.seen w b c1] = [(Value.int .i64 z1)] := hz1
    injection hz1 with hz1
    obtain ⟨z2, hz2, gg2⟩ := r2 b (hb.imp id fun h c hc => h c (by simp at hc; simp [hc]))
    have hz2 : [AM.seen w b c2] = [(Value.int .i64 z2)] := hz2
    injection hz2 with hz2
    obtain ⟨z3, hz3, gg3⟩ := r3 b (hb.imp id fun h c hc => h c (by simp at hc; simp [hc]))
    have hz3 : [AM.seen w b c3] = [(Value.int .i64 z3)] := hz3
    injection hz3 with hz3
    obtain ⟨z4, hz4, gg4⟩ := r4 b (hb.imp id fun h c hc => h c (by simp at hc; simp [hc]))
    have hz4 : [AM.seen w b c4] = [(Value.int .i64 z4)] := hz4
    injection hz4 with hz4
    refine ⟨Go.W.Rule.mk z0 z1 z2 z3 z4, ?_, gg0, gg1, gg2, gg3, gg4⟩
    exact ⟨hz0, hz1, hz2, hz3, hz4, trivial⟩
def g36 (x : Go.W.Wagon) : Prop := AM.gStr x.number ∧ AM.gInt .i64 x.length ∧ AM.gInt .i64 x.axles ∧ AM.gInt .i64 x.mass ∧ AM.gInt .i64 x.brake ∧ AM.gInt .i64 x.goods ∧ AM.gAny x.gentle ∧ AM.gStr x.dest
theorem opn36 : AM.Opn Try.prog Go.W.Ty36 g36 where
  sz := by kernel_rfl
  pos := by show 0 < 8; decide
  rd := by
    intro H enc w fuel cs x h
    obtain ⟨xs, n, _, _, hl, hlen, hf⟩ := DataW.trod_struct Try.underlying36 h
    have hl : cs.length = 8 := hl.trans (show Program.cellsOf Try.prog 36 = 8 by kernel_rfl)
    obtain ⟨c0, c1, c2, c3, c4, c5, c6, c7, rfl⟩ : ∃ c0 c1 c2 c3 c4 c5 c6 c7, cs = [c0, c1, c2, c3, c4, c5, c6, c7] := by
      match cs, hl with
      | [c0, c1, c2, c3, c4, c5, c6, c7], _ => exact ⟨c0, c1, c2, c3, c4, c5, c6, c7, rfl⟩
    obtain ⟨y0, e0⟩ := AM.fld hlen hf 0 rfl
    replace e0 : DataW.trod enc Try.prog w 0 (fun _ => true) true n 9 [c0] = some y0 := by
      have hsz : Program.cellsOf Try.prog 9 = 1 := by kernel_rfl
      have e := e0
      simpa [hsz] using e
    obtain ⟨o0, r0⟩ := (AM.opn_str Try.underlying9 Try.type9 rfl).rd e0
    obtain ⟨y1, e1⟩ := AM.fld hlen hf 1 rfl
    replace e1 : DataW.trod enc Try.prog w 0 (fun _ => true) true n 3 [c1] = some y1 := by
      have hsz : Program.cellsOf Try.prog 3 = 1 := by kernel_rfl
      have e := e1
      simpa [hsz] using e
    obtain ⟨o1, r1⟩ := (AM.opn_int Try.underlying3 Try.type3 rfl).rd e1
    obtain ⟨y2, e2⟩ := AM.fld hlen hf 2 rfl
    replace e2 : DataW.trod enc Try.prog w 0 (fun _ => true) true n 3 [c2] = some y2 := by
      have hsz : Program.cellsOf Try.prog 3 = 1 := by kernel_rfl
      have e := e2
      simpa [hsz] using e
    obtain ⟨o2, r2⟩ := (AM.opn_int Try.underlying3 Try.type3 rfl).rd e2
    obtain ⟨y3, e3⟩ := AM.fld hlen hf 3 rfl
    replace e3 : DataW.trod enc Try.prog w 0 (fun _ => true) true n 3 [c3] = some y3 := by
      have hsz : Program.cellsOf Try.prog 3 = 1 := by kernel_rfl
      have e := e3
      simpa [hsz] using e
    obtain ⟨o3, r3⟩ := (AM.opn_int Try.underlying3 Try.type3 rfl).rd e3
    obtain ⟨y4, e4⟩ := AM.fld hlen hf 4 rfl
    replace e4 : DataW.trod enc Try.prog w 0 (fun _ => true) true n 3 [c4] = some y4 := by
      have hsz : Program.cellsOf Try.prog 3 = 1 := by kernel_rfl
      have e := e4
      simpa [hsz] using e
    obtain ⟨o4, r4⟩ := (AM.opn_int Try.underlying3 Try.type3 rfl).rd e4
    obtain ⟨y5, e5⟩ := AM.fld hlen hf 5 rfl
    replace e5 : DataW.trod enc Try.prog w 0 (fun _ => true) true n 3 [c5] = some y5 := by
      have hsz : Program.cellsOf Try.prog 3 = 1 := by kernel_rfl
      have e := e5
      simpa [hsz] using e
    obtain ⟨o5, r5⟩ := (AM.opn_int Try.underlying3 Try.type3 rfl).rd e5
    obtain ⟨y6, e6⟩ := AM.fld hlen hf 6 rfl
    replace e6 : DataW.trod enc Try.prog w 0 (fun _ => true) true n 4 [c6] = some y6 := by
      have hsz : Program.cellsOf Try.prog 4 = 1 := by kernel_rfl
      have e := e6
      simpa [hsz] using e
    obtain ⟨o6, r6⟩ := (AM.opn_bool Try.underlying4 Try.type4 rfl).rd e6
    obtain ⟨y7, e7⟩ := AM.fld hlen hf 7 rfl
    replace e7 : DataW.trod enc Try.prog w 0 (fun _ => true) true n 9 [c7] = some y7 := by
      have hsz : Program.cellsOf Try.prog 9 = 1 := by kernel_rfl
      have e := e7
      simpa [hsz] using e
    obtain ⟨o7, r7⟩ := (AM.opn_str Try.underlying9 Try.type9 rfl).rd e7
    refine ⟨fun c hc => ?_, fun b hb => ?_⟩
    · simp only [List.mem_cons, List.not_mem_nil, or_false] at hc
      rcases hc with rfl | rfl | rfl | rfl | rfl | rfl | rfl | rfl
      · exact (o0 _ (by simp))
      · exact (o1 _ (by simp))
      · exact (o2 _ (by simp))
      · exact (o3 _ (by simp))
      · exact (o4 _ (by simp))
      · exact (o5 _ (by simp))
      · exact (o6 _ (by simp))
      · exact (o7 _ (by simp))
    obtain ⟨z0, hz0, gg0⟩ := r0 b (hb.imp id fun h c hc => h c (by simp at hc; simp [hc]))
    have hz0 : [AM.seen w b c0] = [(AM.str z0)] := hz0
    injection hz0 with hz0
    obtain ⟨z1, hz1, gg1⟩ := r1 b (hb.imp id fun h c hc => h c (by simp at hc; simp [hc]))
    have hz1 : [AM.seen w b c1] = [(Value.int .i64 z1)] := hz1
    injection hz1 with hz1
    obtain ⟨z2, hz2, gg2⟩ := r2 b (hb.imp id fun h c hc => h c (by simp at hc; simp [hc]))
    have hz2 : [AM.seen w b c2] = [(Value.int .i64 z2)] := hz2
    injection hz2 with hz2
    obtain ⟨z3, hz3, gg3⟩ := r3 b (hb.imp id fun h c hc => h c (by simp at hc; simp [hc]))
    have hz3 : [AM.seen w b c3] = [(Value.int .i64 z3)] := hz3
    injection hz3 with hz3
    obtain ⟨z4, hz4, gg4⟩ := r4 b (hb.imp id fun h c hc => h c (by simp at hc; simp [hc]))
    have hz4 : [AM.seen w b c4] = [(Value.int .i64 z4)] := hz4
    injection hz4 with hz4
    obtain ⟨z5, hz5, gg5⟩ := r5 b (hb.imp id fun h c hc => h c (by simp at hc; simp [hc]))
    have hz5 : [AM.seen w b c5] = [(Value.int .i64 z5)] := hz5
    injection hz5 with hz5
    obtain ⟨z6, hz6, gg6⟩ := r6 b (hb.imp id fun h c hc => h c (by simp at hc; simp [hc]))
    have hz6 : [AM.seen w b c6] = [(Value.bool z6)] := hz6
    injection hz6 with hz6
    obtain ⟨z7, hz7, gg7⟩ := r7 b (hb.imp id fun h c hc => h c (by simp at hc; simp [hc]))
    have hz7 : [AM.seen w b c7] = [(AM.str z7)] := hz7
    injection hz7 with hz7
    refine ⟨Go.W.Wagon.mk z0 z1 z2 z3 z4 z5 z6 z7, ?_, gg0, gg1, gg2, gg3, gg4, gg5, gg6, gg7⟩
    exact ⟨hz0, hz1, hz2, hz3, hz4, hz5, hz6, hz7, trivial⟩

set_option maxRecDepth 100000 in
theorem lifted (os : Os) (started : os.Started) (H : Type) (enc : TypeId × Value → H) :
    ReturnsInHanded {} Try.checked os 3 .any (Rows.rulebookExactSpec.pre6 enc Try.prog Try.f3 Rows.rulebookExactRow.domain false) (Rows.rulebookExactSpec.post enc Try.prog Try.f3 false true false false) := by
  refine returnsInHanded_of_change (C := Try.checked) own started (by kernel_rfl) Try.func3
    (ChangeSpec.witness6 (enc := enc) (C := Try.checked) false ⟨#[], #[.slice none 0 0, .slice none 0 0, .slice none 0 0, .slice none 0 0], []⟩ 8 (by kernel_rfl) (by kernel_rfl) (by kernel_rfl) (by kernel_rfl)) ?_
  intro W base args ds gs before hval0 hW hcnd _
  have hval : ∀ (j : Nat) t v, Try.f3.params[j]? = some t → args[j]? = some v → Value.okWide Try.prog W .any base t v := hval0
  have hW' := hW
  obtain ⟨p, q, hA0, hV, rfl, hfz, hnd⟩ := hW
  have hA : DataW.TrodAll enc Try.prog W 0 (fun _ => true) true Try.f3.params.toList args.toList ds p := hA0
  rw [Try.params3] at hA hval
  obtain ⟨v0, vs0, d0, ds0, p0, q0, hargs, rfl, rfl, h0, r0⟩ := trodAll_cons hA
  obtain ⟨v1, vs1, d1, ds1, p1, q1, rfl, rfl, rfl, h1, r1⟩ := trodAll_cons r0
  obtain ⟨v2, vs2, d2, ds2, p2, q2, rfl, rfl, rfl, h2, r2⟩ := trodAll_cons r1
  obtain ⟨v3, vs3, d3, ds3, p3, q3, rfl, rfl, rfl, h3, r3⟩ := trodAll_cons r2
  obtain ⟨rfl, rfl, rfl⟩ := trodAll_nil r3
  obtain rfl : args = #[v0, v1, v2, v3] := by cases args; simp_all
  obtain ⟨rfl, rfl⟩ := trodVars_none hV
  have k0 := h0
  have lt0 : ∀ x ∈ p0, x.block < W.heap.size := by obtain ⟨m, hm⟩ := k0; exact DataW.trod_lt m _ _ _ hm
  obtain ⟨vr0, z0, s0, w0⟩ := AM.arg_slr (T := Go.W.Ty3) (AM.Opn.conv (T' := Go.W.Ty3) (AM.opn_int Try.underlying3 Try.type3 rfl) rfl rfl fun z x cs h => by obtain rfl : cs = [_] := h; exact ⟨rfl, trivial⟩) Try.underlying22 (hval 0 22 v0 rfl rfl) h0
  have k1 := h1
  have lt1 : ∀ x ∈ p1, x.block < W.heap.size := by obtain ⟨m, hm⟩ := k1; exact DataW.trod_lt m _ _ _ hm
  obtain ⟨vr1, z1, s1, w1⟩ := AM.arg_slr (T := Go.W.Ty32) opn32 Try.underlying23 (hval 1 23 v1 rfl rfl) h1
  have k2 := h2
  have lt2 : ∀ x ∈ p2, x.block < W.heap.size := by obtain ⟨m, hm⟩ := k2; exact DataW.trod_lt m _ _ _ hm
  obtain ⟨vr2, z2, s2, w2⟩ := AM.arg_slr (T := Go.W.Ty36) opn36 Try.underlying24 (hval 2 24 v2 rfl rfl) h2
  have k3 := h3
  have lt3 : ∀ x ∈ p3, x.block < W.heap.size := by obtain ⟨m, hm⟩ := k3; exact DataW.trod_lt m _ _ _ hm
  obtain ⟨vr3, z3, s3, w3⟩ := AM.arg_slr (T := Go.W.Ty3) (AM.Opn.conv (T' := Go.W.Ty3) (AM.opn_int Try.underlying3 Try.type3 rfl) rfl rfl fun z x cs h => by obtain rfl : cs = [_] := h; exact ⟨rfl, trivial⟩) Try.underlying22 (hval 3 22 v3 rfl rfl) h3
  clear hA0 hval0
  obtain ⟨N, hN⟩ := Go.W.rexactT z0 w0 z1 w1 z2 w2 z3 w3
  have ec : Go.W.dl36_RulebookExact.call Go.W.X0 (Go.W.Fl36_RulebookExact N) [.c (.sl 3 z0), .c (.sl 32 z1), .c (.sl 36 z2), .c (.sl 3 z3)] [] (fun sv _ => some sv) = Option.bind (Go.W.l36_RulebookExact N z0 z1 z2 z3) fun y => some (.c (.bool y)) := by kernel_rfl
  rw [hN] at ec
  have hL : AM.L2 (AM.rel Go.W.X0.G (AM.mem0 W).blk []) [.c (.sl 3 z0), .c (.sl 32 z1), .c (.sl 36 z2), .c (.sl 3 z3)] [v0, v1, v2, v3] := ⟨s0, s1, s2, s3, trivial⟩
  refine ((AM.law_of_call (by kernel_rfl) ?_ (AM.CallOk.law (Go.W.ol36_RulebookExact N).call.base (AM.mem0_fz W) (AM.mem0_dead W) hL ec))).mono fun e W' ⟨he, bel⟩ => ?_
  · intro a ha
    simp only [List.mem_cons, List.not_mem_nil, or_false] at ha
    rcases ha with rfl | rfl | rfl | rfl
    · exact vr0
    · exact vr1
    · exact vr2
    · exact vr3
  · subst he
    exact ⟨_, rfl, _, _, _, [], _, [], hW', trodAll_mk1 (shut_bool Try.underlying4 _), (trodAll_cons_mk (Below.trod laidOut (by kernel_rfl) (of_decide_eq_true (by kernel_rfl)) k0 bel lt0) (trodAll_cons_mk (Below.trod laidOut (by kernel_rfl) (of_decide_eq_true (by kernel_rfl)) k1 bel lt1) (trodAll_cons_mk (Below.trod laidOut (by kernel_rfl) (of_decide_eq_true (by kernel_rfl)) k2 bel lt2) (trodAll_cons_mk (Below.trod laidOut (by kernel_rfl) (of_decide_eq_true (by kernel_rfl)) k3 bel lt3) trodAll_mk0)))), rfl, bel.frame _, fun h => by cases h⟩

theorem over : Rows.rulebookExactRow.holds Try.pinned (OpenSpec.ofChange Rows.rulebookExactSpec) :=
  OpenClaim.holds_of_wide 3 Try.f3 rfl rfl rfl rfl rfl rfl rfl ⟨rfl, rfl, rfl, rfl, rfl⟩ rfl rfl rfl rfl rfl (by kernel_rfl) Try.func3 (by kernel_rfl)
    (of_decide_eq_true (by kernel_rfl)) (by unfold Func.isWrapper; first | (rw [if_pos (by decide +kernel)]; kernel_rfl) | (rw [if_neg (by decide +kernel)]; exact ⟨rfl, rfl⟩))
    (fun os started H enc _ => lifted os started H enc)

theorem proved : Rows.RulebookExactSaid := over
#print axioms proved
end Go.Proofs.Ytaoioacomnnhdaa.rulebookExactDone
