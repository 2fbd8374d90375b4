/- The models are what the program computes. -/
import Derived.Test.YthlaohffhjlkbaaW1
set_option linter.unusedVariables false
set_option linter.unusedSimpArgs false
set_option maxRecDepth 100000
set_option maxHeartbeats 4000000
namespace Go.W
open Go.AM Go.Proofs


/-! ### humpyard/humpgen.New -/

theorem u_gen_New {N : Nat}  {z0 z : Nat → Blk} {e m : Mem} {k : Option Nat} {fr : Nat → Value} {x0 : List Int} {v0 : Value} (hz : Zx e.next z0 z) (st : St z e m k) (h0 : fr 0 = v0) (s0 : SlR (TInt 3 .i64) z x0 v0) {r : Maker} (hr : gen_New N x0 = some r) : W Try.prog (sub (bodyOf Try.f12) []) (fun ex fr' m' => ∃ z', Zx e.next z0 z' ∧ St z' e m' k ∧ (ex = .normal ∨ ex = .ret) ∧ ∃ (c2 : Nat) (w2_0 : Value), fr' 2 = (Value.pointer (some ⟨c2, 0, none⟩)) ∧ SlR (TInt 3 .i64) z' r.l w2_0 ∧ Bx z' e m' k c2 [w2_0, (Value.int .i64 r.n)] 56 ∧ (e.next ≤ c2 ∨ k = some c2) ∧ True) fr m := by
  unfold gen_New at hr
  refine W.seq ?_
  refine W.region ?_
  refine SeqW.consX rfl (StepX.pure (pAssign (v := (Value.pointer none)) rfl rfl) ?_)
  refine SeqW.done fun fr1 hf2 => ?_
  have h0 : fr1 0 = v0 := (congrFun hf2 0).trans h0
  clear hf2
  refine thenQ.n ?_
  refine W.seq ?_
  refine W.region ?_
  refine SeqW.consX rfl (StepX.pure (pMove (v := v0) rfl h0) ?_)
  obtain ⟨a3, c4, ea3⟩ := s0.len
  subst ea3
  refine SeqW.consX rfl (kBuildS [(0, (Value.slice a3 (x0).length c4))] [(Value.slice a3 (x0).length c4), (Value.int .i64 0)] rfl Try.underlying56 Try.type56 rfl rfl (places56 Try.underlying56) rfl (rfl) rfl ?_)
  refine SeqW.consX rfl (kBox (v := (Value.agg [(Value.slice a3 (x0).length c4), (Value.int .i64 0)].toArray)) rfl Try.type56 rfl rfl [(Value.slice a3 (x0).length c4), (Value.int .i64 0)] rfl rfl st ?_)
  intro b5 m6 st x7 sm8 hap9
  refine SeqW.consX rfl (StepX.pure (pAssign (v := (Value.pointer (some ⟨b5, 0, none⟩))) rfl rfl) ?_)
  refine SeqW.done fun fr11 hf12 => ?_
  have h2 : fr11 2 = (Value.pointer (some ⟨b5, 0, none⟩)) := (congrFun hf12 2).trans rfl
  clear hf12
  refine thenQ.n ?_
  refine W.ret ?_
  obtain rfl := Option.some.inj hr
  exact ⟨z, hz, st, .inr rfl, b5, (Value.slice a3 (x0).length c4), h2, s0, x7, x7.fresh, trivial⟩

theorem c_gen_New {N : Nat} {z : Nat → Blk} {m : Mem} {x0 : List Int} {v0 : Value} (fz : Fz z m) (hd : ∀ b, m.next ≤ b → m.blk b = .dead) (s0 : SlR (TInt 3 .i64) z x0 v0) {r : Maker} (hr : gen_New N x0 = some r) : CallW Try.prog 12 #[v0] m fun v m' => ∃ z' c2 w2_0, Zx m.next z z' ∧ Fz z' m' ∧ Same m m' none ∧ v = (Value.pointer (some ⟨c2, 0, none⟩)) ∧ SlR (TInt 3 .i64) z' r.l w2_0 ∧ Bx z' m m' none c2 [w2_0, (Value.int .i64 r.n)] 56 ∧ m.next ≤ c2 ∧ True := by
  refine CallW.any Try.func12 rfl (by kernel_rfl) (Nat.le_of_ble_eq_true rfl) (fun fr hf => ?_)
  have h0 : fr 0 = _ := hf 0 _ rfl
  refine (u_gen_New (k := none) (Zx.refl _) (St.start fz hd) h0 s0 hr).mono ?_
  rintro ex fr' m' ⟨z', hz, st, he, c2, w2_0, h2, s2_0, bx2, fx2, -⟩
  exact ⟨he, [(Value.pointer (some ⟨c2, 0, none⟩))], ⟨h2.symm, trivial⟩, .inl rfl, z', c2, w2_0, hz, st.fz, st.toSame, rfl, s2_0, bx2, (fx2.resolve_right (by simp)), trivial⟩

/-! ### (*humpyard/humpgen.Maker).Next -/

theorem u_Maker_Next_0 {N : Nat}  {z0 z : Nat → Blk} {e m : Mem} {k : Option Nat} {fr : Nat → Value} {x0 : Maker} {x5 : Int} {x11 : Bool} {v0_0 : Value} {b0 : Nat} (hz : Zx e.next z0 z) (st : St z e m k) (h0 : fr 0 = (Value.pointer (some ⟨b0, 0, none⟩))) (s0_0 : SlR (TInt 3 .i64) z x0.l v0_0) (bx0 : Bx z e m k b0 [v0_0, (Value.int .i64 x0.n)] 56) (h5 : fr 5 = (Value.int .i64 x5)) (h11 : fr 11 = (Value.bool x11)) {r : Int} (hr : Maker_Next_0 N x0 x5 x11 = some r) : W Try.prog (sub (bodyOf Try.f15) [1, 1, 0, 1]) (fun ex fr' m' => ∃ z', Zx e.next z0 z' ∧ St z' e m' k ∧ ex = AExit.normal ∧ fr' 5 = (Value.int .i64 r) ∧ Bx z' e m' k b0 [v0_0, (Value.int .i64 x0.n)] 56 ∧ True) fr m := by
  unfold Maker_Next_0 at hr
  rcases if_some hr with ⟨hc7, hr⟩ | ⟨hc19, hr⟩
  · refine W.condT h11 hc7 ?_
    refine W.calm (by decide) ?_
    refine SeqW.consX rfl (StepX.pure (pMove (v := (Value.pointer (some ⟨b0, 0, none⟩))) rfl h0) ?_)
    refine SeqW.consX rfl (StepX.pure (PureR.nilCheck _ _ rfl rfl) ?_)
    refine SeqW.consX rfl (kField rfl Try.underlying56 rfl Try.type22 rfl rfl rfl ?_)
    refine SeqW.consX rfl (kLoad rfl Try.underlying22 rfl rfl (bx0.load (v := v0_0) rfl) ?_)
    refine SeqW.consX rfl (StepX.pure (pMove (v := (Value.pointer (some ⟨b0, 0, none⟩))) rfl h0) ?_)
    refine SeqW.consX rfl (StepX.pure (PureR.nilCheck _ _ rfl rfl) ?_)
    refine SeqW.consX rfl (kField rfl Try.underlying56 rfl Try.type3 rfl rfl rfl ?_)
    refine SeqW.consX rfl (kLoad rfl Try.underlying3 rfl rfl (bx0.load (v := (Value.int .i64 x0.n)) rfl) ?_)
    refine SeqW.consX rfl (StepX.pure (pMove (v := (Value.pointer (some ⟨b0, 0, none⟩))) rfl h0) ?_)
    refine SeqW.consX rfl (StepX.pure (PureR.nilCheck _ _ rfl rfl) ?_)
    refine SeqW.consX rfl (kField rfl Try.underlying56 rfl Try.type22 rfl rfl rfl ?_)
    refine SeqW.consX rfl (kLoad rfl Try.underlying22 rfl rfl (bx0.load (v := v0_0) rfl) ?_)
    refine SeqW.consX rfl (StepX.pure (pLenR (xs := x0.l) rfl Try.underlying22 rfl s0_0) ?_)
    obtain ⟨y8, hy8, hr⟩ := bind_some hr
    refine SeqW.consX rfl (kRem (k1 := .i64) (a := x0.n) (b := (x0.l.length : Int)) rfl rfl rfl hy8 ?_)
    obtain ⟨y9, hy9, hr⟩ := bind_some hr
    refine SeqW.consX rfl (kIdxR (T := (TInt 3 .i64)) (xs := x0.l) (n := y8) rfl Try.underlying22 Try.type3 rfl rfl rfl s0_0 hy9 ?_)
    intro b10 f11 cs12 hd13 hc14
    obtain rfl := hd13
    refine SeqW.consX rfl (kLoad (v := (Value.int .i64 y9)) rfl Try.underlying3 rfl rfl (ldz_load st.fz (hc14 0 _ rfl)) ?_)
    refine SeqW.consX rfl (StepX.pure (pMove (v := (Value.pointer (some ⟨b0, 0, none⟩))) rfl h0) ?_)
    refine SeqW.consX rfl (StepX.pure (PureR.nilCheck _ _ rfl rfl) ?_)
    refine SeqW.consX rfl (kField rfl Try.underlying56 rfl Try.type3 rfl rfl rfl ?_)
    refine SeqW.consX rfl (kLoad rfl Try.underlying3 rfl rfl (bx0.load (v := (Value.int .i64 x0.n)) rfl) ?_)
    refine SeqW.consX rfl (StepX.pure (pMove (v := (Value.pointer (some ⟨b0, 0, none⟩))) rfl h0) ?_)
    refine SeqW.consX rfl (StepX.pure (PureR.nilCheck _ _ rfl rfl) ?_)
    refine SeqW.consX rfl (kField rfl Try.underlying56 rfl Try.type22 rfl rfl rfl ?_)
    refine SeqW.consX rfl (kLoad rfl Try.underlying22 rfl rfl (bx0.load (v := v0_0) rfl) ?_)
    refine SeqW.consX rfl (StepX.pure (pLenR (xs := x0.l) rfl Try.underlying22 rfl s0_0) ?_)
    obtain ⟨y15, hy15, hr⟩ := bind_some hr
    refine SeqW.consX rfl (kQuo (k1 := .i64) (a := x0.n) (b := (x0.l.length : Int)) rfl rfl rfl hy15 ?_)
    refine SeqW.consX rfl (StepX.pure (pMul (k := .i64) (a := (IntKind.wrap .i64 (y15))) (b := 7919) rfl rfl rfl) ?_)
    refine SeqW.consX rfl (StepX.pure (pAdd (k := .i64) (a := y9) (b := (IntKind.wrap .i64 ((IntKind.wrap .i64 (y15)) * 7919))) rfl rfl rfl) ?_)
    obtain ⟨y16, hy16, hr⟩ := lt_some hr
    refine SeqW.consX rfl (StepX.pure (pAssign rfl (congrArg (Value.int .i64) hy16)) ?_)
    refine SeqW.done fun fr17 hf18 => ?_
    have h0 : fr17 0 = (Value.pointer (some ⟨b0, 0, none⟩)) := (congrFun hf18 0).trans h0
    have h5 : fr17 5 = (Value.int .i64 y16) := (congrFun hf18 5).trans rfl
    clear hf18
    obtain rfl := Option.some.inj hr
    exact ⟨z, hz, st, rfl, h5, bx0, trivial⟩
  · refine W.condF h11 hc19 ?_
    refine W.skip ?_
    obtain rfl := Option.some.inj hr
    exact ⟨z, hz, st, rfl, h5, bx0, trivial⟩

theorem u_Maker_Next_1 {N : Nat}  {z0 z : Nat → Blk} {e m : Mem} {k : Option Nat} {fr : Nat → Value} {x1 : Int} {x5 : Int} {x51 : Bool} {x0 : Maker} {v0_0 : Value} {b0 : Nat} (hz : Zx e.next z0 z) (st : St z e m k) (h0 : fr 0 = (Value.pointer (some ⟨b0, 0, none⟩))) (s0_0 : SlR (TInt 3 .i64) z x0.l v0_0) (bx0 : Bx z e m k b0 [v0_0, (Value.int .i64 x0.n)] 56) (h1 : fr 1 = (Value.int .i64 x1)) (h5 : fr 5 = (Value.int .i64 x5)) (h51 : fr 51 = (Value.bool x51)) {r : Int} (hr : Maker_Next_1 N x1 x5 x51 = some r) : W Try.prog (sub (bodyOf Try.f15) [1, 1, 1, 1, 1, 0, 1]) (fun ex fr' m' => ∃ z', Zx e.next z0 z' ∧ St z' e m' k ∧ ex = AExit.normal ∧ fr' 5 = (Value.int .i64 r) ∧ Bx z' e m' k b0 [v0_0, (Value.int .i64 x0.n)] 56 ∧ True) fr m := by
  unfold Maker_Next_1 at hr
  rcases if_some hr with ⟨hc37, hr⟩ | ⟨hc41, hr⟩
  · refine W.condT h51 hc37 ?_
    refine W.region ?_
    refine SeqW.consX rfl (StepX.pure (pMove (v := (Value.int .i64 x5)) rfl h5) ?_)
    refine SeqW.consX rfl (StepX.pure (pMove (v := (Value.int .i64 x1)) rfl h1) ?_)
    refine SeqW.consX rfl (StepX.pure (pAdd (k := .i64) (a := x5) (b := x1) rfl rfl rfl) ?_)
    obtain ⟨y38, hy38, hr⟩ := lt_some hr
    refine SeqW.consX rfl (StepX.pure (pAssign rfl (congrArg (Value.int .i64) hy38)) ?_)
    refine SeqW.done fun fr39 hf40 => ?_
    have h0 : fr39 0 = (Value.pointer (some ⟨b0, 0, none⟩)) := (congrFun hf40 0).trans h0
    have h5 : fr39 5 = (Value.int .i64 y38) := (congrFun hf40 5).trans rfl
    clear hf40
    obtain rfl := Option.some.inj hr
    exact ⟨z, hz, st, rfl, h5, bx0, trivial⟩
  · refine W.condF h51 hc41 ?_
    refine W.skip ?_
    obtain rfl := Option.some.inj hr
    exact ⟨z, hz, st, rfl, h5, bx0, trivial⟩

theorem u_Maker_Next {N : Nat}  {z0 z : Nat → Blk} {e m : Mem} {k : Option Nat} {fr : Nat → Value} {x0 : Maker} {x1 : Int} {v0_0 : Value} {b0 : Nat} (hz : Zx e.next z0 z) (st : St z e m k) (h0 : fr 0 = (Value.pointer (some ⟨b0, 0, none⟩))) (s0_0 : SlR (TInt 3 .i64) z x0.l v0_0) (bx0 : Bx z e m k b0 [v0_0, (Value.int .i64 x0.n)] 56) (h1 : fr 1 = (Value.int .i64 x1)) {r : Int × Maker} (hr : Maker_Next N x0 x1 = some r) : W Try.prog (sub (bodyOf Try.f15) []) (fun ex fr' m' => ∃ z', Zx e.next z0 z' ∧ St z' e m' k ∧ (ex = .normal ∨ ex = .ret) ∧ ∃ (wr_0 : Value), fr' 4 = (Value.int .i64 r.1) ∧ SlR (TInt 3 .i64) z' r.2.l wr_0 ∧ Bx z' e m' k b0 [wr_0, (Value.int .i64 r.2.n)] 56 ∧ True) fr m := by
  unfold Maker_Next at hr
  refine W.seq ?_
  refine W.region ?_
  refine SeqW.consX rfl (StepX.pure (pAssign (v := (Value.int .i64 0)) rfl rfl) ?_)
  refine SeqW.done fun fr1 hf2 => ?_
  have h0 : fr1 0 = (Value.pointer (some ⟨b0, 0, none⟩)) := (congrFun hf2 0).trans h0
  have h1 : fr1 1 = (Value.int .i64 x1) := (congrFun hf2 1).trans h1
  clear hf2
  refine thenQ.n ?_
  refine W.seq ?_
  refine W.region ?_
  refine SeqW.consX rfl (StepX.pure (pAssign (v := (Value.int .i64 0)) rfl rfl) ?_)
  refine SeqW.done fun fr3 hf4 => ?_
  have h0 : fr3 0 = (Value.pointer (some ⟨b0, 0, none⟩)) := (congrFun hf4 0).trans h0
  have h1 : fr3 1 = (Value.int .i64 x1) := (congrFun hf4 1).trans h1
  have h5 : fr3 5 = (Value.int .i64 0) := (congrFun hf4 5).trans rfl
  clear hf4
  refine thenQ.n ?_
  refine W.seq ?_
  refine W.seq ?_
  refine W.region ?_
  refine SeqW.consX rfl (StepX.pure (pMove (v := (Value.pointer (some ⟨b0, 0, none⟩))) rfl h0) ?_)
  refine SeqW.consX rfl (StepX.pure (PureR.nilCheck _ _ rfl rfl) ?_)
  refine SeqW.consX rfl (kField rfl Try.underlying56 rfl Try.type22 rfl rfl rfl ?_)
  refine SeqW.consX rfl (kLoad rfl Try.underlying22 rfl rfl (bx0.load (v := v0_0) rfl) ?_)
  refine SeqW.consX rfl (StepX.pure (pLenR (xs := x0.l) rfl Try.underlying22 rfl s0_0) ?_)
  refine SeqW.consX rfl (StepX.pure (pGtr (k := .i64) (a := (x0.l.length : Int)) (b := 0) rfl rfl rfl) ?_)
  refine SeqW.done fun fr5 hf6 => ?_
  have h0 : fr5 0 = (Value.pointer (some ⟨b0, 0, none⟩)) := (congrFun hf6 0).trans h0
  have h1 : fr5 1 = (Value.int .i64 x1) := (congrFun hf6 1).trans h1
  have h5 : fr5 5 = (Value.int .i64 0) := (congrFun hf6 5).trans h5
  have h11 : fr5 11 = (Value.bool (decide (0 < (x0.l.length : Int)))) := (congrFun hf6 11).trans rfl
  clear hf6
  refine thenQ.n ?_
  obtain ⟨y20, hy20, hr⟩ := bind_some hr
  refine W.keep (u_Maker_Next_0 (x0 := x0) (Zx.refl _) st h0 s0_0 bx0 h5 h11 hy20) ?_
  rintro ex26 fr21 m22 hk24 ⟨z23, hz25, st, rfl, h5, o27, -⟩
  replace s0_0 := s0_0.mono hz25.le
  have h0 := (hk24 0 rfl).trans h0
  have h1 := (hk24 1 rfl).trans h1
  replace hz := hz.trans hz25
  clear hk24
  refine thenQ.n ?_
  refine W.seq ?_
  refine W.region ?_
  refine SeqW.consX rfl (StepX.pure (pMove (v := (Value.pointer (some ⟨b0, 0, none⟩))) rfl h0) ?_)
  refine SeqW.consX rfl (StepX.pure (PureR.nilCheck _ _ rfl rfl) ?_)
  refine SeqW.consX rfl (kField rfl Try.underlying56 rfl Try.type3 rfl rfl rfl ?_)
  refine SeqW.consX rfl (kLoad rfl Try.underlying3 rfl rfl (o27.load (v := (Value.int .i64 x0.n)) rfl) ?_)
  refine SeqW.consX rfl (StepX.pure (pAdd (k := .i64) (a := x0.n) (b := 1) rfl rfl rfl) ?_)
  refine SeqW.consX rfl (StepX.pure (PureR.nilCheck _ _ rfl rfl) ?_)
  refine SeqW.consX rfl (kField rfl Try.underlying56 rfl Try.type3 rfl rfl rfl ?_)
  refine SeqW.consX rfl (kPut (off := 1) (w := (Value.int .i64 (IntKind.wrap .i64 (x0.n + 1)))) (new := [(Value.int .i64 (IntKind.wrap .i64 (x0.n + 1)))]) rfl Try.type3 rfl rfl rfl rfl rfl o27 rfl [v0_0, (Value.int .i64 (IntKind.wrap .i64 (x0.n + 1)))] rfl st ?_)
  intro m28 st o27 sm29
  refine SeqW.done fun fr30 hf31 => ?_
  have h0 : fr30 0 = (Value.pointer (some ⟨b0, 0, none⟩)) := (congrFun hf31 0).trans h0
  have h1 : fr30 1 = (Value.int .i64 x1) := (congrFun hf31 1).trans h1
  have h5 : fr30 5 = (Value.int .i64 y20) := (congrFun hf31 5).trans h5
  clear hf31
  refine thenQ.n ?_
  refine W.seq ?_
  refine W.region ?_
  refine SeqW.consX rfl (StepX.pure (pMove (v := (Value.int .i64 y20)) rfl h5) ?_)
  refine SeqW.consX rfl (StepX.pure (pMove (v := (Value.int .i64 x1)) rfl h1) ?_)
  obtain ⟨y32, hy32, hr⟩ := bind_some hr
  refine SeqW.consX rfl (kRem (k1 := .i64) (a := y20) (b := x1) rfl rfl rfl hy32 ?_)
  refine SeqW.consX rfl (StepX.pure (pAssign (v := (Value.int .i64 y32)) rfl rfl) ?_)
  refine SeqW.done fun fr33 hf34 => ?_
  have h0 : fr33 0 = (Value.pointer (some ⟨b0, 0, none⟩)) := (congrFun hf34 0).trans h0
  have h1 : fr33 1 = (Value.int .i64 x1) := (congrFun hf34 1).trans h1
  have h5 : fr33 5 = (Value.int .i64 y32) := (congrFun hf34 5).trans rfl
  clear hf34
  refine thenQ.n ?_
  refine W.seq ?_
  refine W.seq ?_
  refine W.region ?_
  refine SeqW.consX rfl (StepX.pure (pMove (v := (Value.int .i64 y32)) rfl h5) ?_)
  refine SeqW.consX rfl (StepX.pure (pLss (k := .i64) (a := y32) (b := 0) rfl rfl rfl) ?_)
  refine SeqW.done fun fr35 hf36 => ?_
  have h0 : fr35 0 = (Value.pointer (some ⟨b0, 0, none⟩)) := (congrFun hf36 0).trans h0
  have h1 : fr35 1 = (Value.int .i64 x1) := (congrFun hf36 1).trans h1
  have h5 : fr35 5 = (Value.int .i64 y32) := (congrFun hf36 5).trans h5
  have h51 : fr35 51 = (Value.bool (decide (y32 < 0))) := (congrFun hf36 51).trans rfl
  clear hf36
  refine thenQ.n ?_
  obtain ⟨y42, hy42, hr⟩ := bind_some hr
  refine W.keep (u_Maker_Next_1 (x0 := (Maker.mk x0.l (IntKind.wrap .i64 (x0.n + 1)))) (Zx.refl _) st h0 s0_0 o27 h1 h5 h51 hy42) ?_
  rintro ex48 fr43 m44 hk46 ⟨z45, hz47, st, rfl, h5, o49, -⟩
  replace s0_0 := s0_0.mono hz47.le
  have h0 := (hk46 0 rfl).trans h0
  replace hz := hz.trans hz47
  clear hk46
  refine thenQ.n ?_
  refine W.seq ?_
  refine W.region ?_
  refine SeqW.consX rfl (StepX.pure (pMove (v := (Value.int .i64 y42)) rfl h5) ?_)
  refine SeqW.consX rfl (StepX.pure (pAssign (v := (Value.int .i64 y42)) rfl rfl) ?_)
  refine SeqW.done fun fr50 hf51 => ?_
  have h0 : fr50 0 = (Value.pointer (some ⟨b0, 0, none⟩)) := (congrFun hf51 0).trans h0
  have h4 : fr50 4 = (Value.int .i64 y42) := (congrFun hf51 4).trans rfl
  clear hf51
  refine thenQ.n ?_
  refine W.ret ?_
  obtain rfl := Option.some.inj hr
  exact ⟨z45, hz, st, .inr rfl, v0_0, h4, s0_0, o49, trivial⟩

theorem c_Maker_Next {N : Nat} {z : Nat → Blk} {m : Mem} {x0 : Maker} {x1 : Int} {v0_0 : Value} {b0 : Nat} (fz : Fz z m) (hd : ∀ b, m.next ≤ b → m.blk b = .dead) (s0_0 : SlR (TInt 3 .i64) z x0.l v0_0) (bx0 : Bx z m m (some b0) b0 [v0_0, (Value.int .i64 x0.n)] 56) {r : Int × Maker} (hr : Maker_Next N x0 x1 = some r) : CallW Try.prog 15 #[(Value.pointer (some ⟨b0, 0, none⟩)), (Value.int .i64 x1)] m fun v m' => ∃ z' wr_0, Zx m.next z z' ∧ Fz z' m' ∧ Same m m' (some b0) ∧ v = (Value.int .i64 r.1) ∧ SlR (TInt 3 .i64) z' r.2.l wr_0 ∧ Bx z' m m' (some b0) b0 [wr_0, (Value.int .i64 r.2.n)] 56 ∧ True := by
  refine CallW.any Try.func15 rfl (by kernel_rfl) (Nat.le_of_ble_eq_true rfl) (fun fr hf => ?_)
  have h0 : fr 0 = _ := hf 0 _ rfl
  have h1 : fr 1 = _ := hf 1 _ rfl
  refine (u_Maker_Next (k := (some b0)) (Zx.refl _) (St.start fz hd) h0 s0_0 bx0 h1 hr).mono ?_
  rintro ex fr' m' ⟨z', hz, st, he, wr_0, h4, sr_0, bxr, -⟩
  exact ⟨he, [(Value.int .i64 r.1)], ⟨h4.symm, trivial⟩, .inl rfl, z', wr_0, hz, st.fz, st.toSame, rfl, sr_0, bxr, trivial⟩

/-! ### (*humpyard/humpgen.Maker).Pick -/

theorem u_Maker_Pick {N : Nat}  {z0 z : Nat → Blk} {e m : Mem} {k : Option Nat} {fr : Nat → Value} {x0 : Maker} {x1 : List Int} {v0_0 : Value} {b0 : Nat} {v1 : Value} (hz : Zx e.next z0 z) (st : St z e m k) (h0 : fr 0 = (Value.pointer (some ⟨b0, 0, none⟩))) (s0_0 : SlR (TInt 3 .i64) z x0.l v0_0) (bx0 : Bx z e m k b0 [v0_0, (Value.int .i64 x0.n)] 56) (h1 : fr 1 = v1) (s1 : SlR (TInt 3 .i64) z x1 v1) {r : Int × Maker} (hr : Maker_Pick N x0 x1 = some r) : W Try.prog (sub (bodyOf Try.f16) []) (fun ex fr' m' => ∃ z', Zx e.next z0 z' ∧ St z' e m' k ∧ (ex = .normal ∨ ex = .ret) ∧ ∃ (wr_0 : Value), fr' 4 = (Value.int .i64 r.1) ∧ SlR (TInt 3 .i64) z' r.2.l wr_0 ∧ Bx z' e m' k b0 [wr_0, (Value.int .i64 r.2.n)] 56 ∧ True) fr m := by
  unfold Maker_Pick at hr
  refine W.seq ?_
  refine W.region ?_
  refine SeqW.consX rfl (StepX.pure (pAssign (v := (Value.int .i64 0)) rfl rfl) ?_)
  refine SeqW.done fun fr1 hf2 => ?_
  have h0 : fr1 0 = (Value.pointer (some ⟨b0, 0, none⟩)) := (congrFun hf2 0).trans h0
  have h1 : fr1 1 = v1 := (congrFun hf2 1).trans h1
  clear hf2
  refine thenQ.n ?_
  refine W.seq ?_
  refine W.region ?_
  refine SeqW.consX rfl (StepX.pure (pMove (v := v1) rfl h1) ?_)
  refine SeqW.consX rfl (StepX.pure (pMove (v := (Value.pointer (some ⟨b0, 0, none⟩))) rfl h0) ?_)
  refine SeqW.consX rfl (StepX.pure (pMove (v := v1) rfl h1) ?_)
  refine SeqW.consX rfl (StepX.pure (pLenR (xs := x1) rfl Try.underlying22 rfl s1) ?_)
  obtain ⟨y3, hy3, hr⟩ := bind_some hr
  refine SeqW.consX rfl (StepX.call (gCallee rfl rfl (args2 rfl rfl)) ((c_Maker_Next (x0 := x0) (z := z) st.fz st.dead s0_0 ⟨bx0.blk, bx0.lt, bx0.dead, .inr rfl⟩ hy3).mono ?_))
  rintro _ m8 ⟨z4, v9, hzx5, fz6, sm7, rfl, s10, x12, -⟩
  replace s0_0 := s0_0.mono hzx5.le
  replace s1 := s1.mono hzx5.le
  have bx0n : Bx z4 e m8 k b0 _ _ := ⟨x12.blk, x12.lt, x12.dead, bx0.fresh⟩
  replace hz := hz.trans (Zx.here st hzx5)
  replace st := st.call hzx5 fz6 sm7 bx0.hq
  obtain ⟨y13, hy13, hr⟩ := bind_some hr
  refine SeqW.consX rfl (kIdxR (T := (TInt 3 .i64)) (xs := x1) (n := y3.1) rfl Try.underlying22 Try.type3 rfl rfl rfl s1 hy13 ?_)
  intro b14 f15 cs16 hd17 hc18
  obtain rfl := hd17
  refine SeqW.consX rfl (kLoad (v := (Value.int .i64 y13)) rfl Try.underlying3 rfl rfl (ldz_load st.fz (hc18 0 _ rfl)) ?_)
  refine SeqW.consX rfl (StepX.pure (pAssign (v := (Value.int .i64 y13)) rfl rfl) ?_)
  refine SeqW.done fun fr19 hf20 => ?_
  have h0 : fr19 0 = (Value.pointer (some ⟨b0, 0, none⟩)) := (congrFun hf20 0).trans h0
  have h4 : fr19 4 = (Value.int .i64 y13) := (congrFun hf20 4).trans rfl
  clear hf20
  refine thenQ.n ?_
  refine W.ret ?_
  obtain rfl := Option.some.inj hr
  exact ⟨z4, hz, st, .inr rfl, v9, h4, s10, bx0n, trivial⟩

theorem c_Maker_Pick {N : Nat} {z : Nat → Blk} {m : Mem} {x0 : Maker} {x1 : List Int} {v0_0 : Value} {b0 : Nat} {v1 : Value} (fz : Fz z m) (hd : ∀ b, m.next ≤ b → m.blk b = .dead) (s0_0 : SlR (TInt 3 .i64) z x0.l v0_0) (bx0 : Bx z m m (some b0) b0 [v0_0, (Value.int .i64 x0.n)] 56) (s1 : SlR (TInt 3 .i64) z x1 v1) {r : Int × Maker} (hr : Maker_Pick N x0 x1 = some r) : CallW Try.prog 16 #[(Value.pointer (some ⟨b0, 0, none⟩)), v1] m fun v m' => ∃ z' wr_0, Zx m.next z z' ∧ Fz z' m' ∧ Same m m' (some b0) ∧ v = (Value.int .i64 r.1) ∧ SlR (TInt 3 .i64) z' r.2.l wr_0 ∧ Bx z' m m' (some b0) b0 [wr_0, (Value.int .i64 r.2.n)] 56 ∧ True := by
  refine CallW.any Try.func16 rfl (by kernel_rfl) (Nat.le_of_ble_eq_true rfl) (fun fr hf => ?_)
  have h0 : fr 0 = _ := hf 0 _ rfl
  have h1 : fr 1 = _ := hf 1 _ rfl
  refine (u_Maker_Pick (k := (some b0)) (Zx.refl _) (St.start fz hd) h0 s0_0 bx0 h1 s1 hr).mono ?_
  rintro ex fr' m' ⟨z', hz, st, he, wr_0, h4, sr_0, bxr, -⟩
  exact ⟨he, [(Value.int .i64 r.1)], ⟨h4.symm, trivial⟩, .inl rfl, z', wr_0, hz, st.fz, st.toSame, rfl, sr_0, bxr, trivial⟩

/-! ### humpyard/humpyardref07.fit -/

theorem u_r07_fit_1 {N : Nat}  {z0 z : Nat → Blk} {e m : Mem} {k : Option Nat} {fr : Nat → Value} {x9 : Int} {x31 : Bool} (hz : Zx e.next z0 z) (st : St z e m k) (h9 : fr 9 = (Value.int .i64 x9)) (h31 : fr 31 = (Value.bool x31)) {r : Int} (hr : r07_fit_1 N x9 x31 = some r) : W Try.prog (sub (bodyOf Try.f46) [1, 1, 1, 0, 1, 0, 0, 1, 0, 0, 1, 0, 1]) (fun ex fr' m' => ∃ z', Zx e.next z0 z' ∧ St z' e m' k ∧ ex = AExit.normal ∧ fr' 9 = (Value.int .i64 r) ∧ True) fr m := by
  unfold r07_fit_1 at hr
  rcases if_some hr with ⟨hc33, hr⟩ | ⟨hc37, hr⟩
  · refine W.condT h31 hc33 ?_
    refine W.region ?_
    refine SeqW.consX rfl (StepX.pure (pMove (v := (Value.int .i64 x9)) rfl h9) ?_)
    refine SeqW.consX rfl (StepX.pure (pNeg (k := .i64) (a := x9) rfl rfl) ?_)
    obtain ⟨y34, hy34, hr⟩ := lt_some hr
    refine SeqW.consX rfl (StepX.pure (pAssign rfl (congrArg (Value.int .i64) hy34)) ?_)
    refine SeqW.done fun fr35 hf36 => ?_
    have h9 : fr35 9 = (Value.int .i64 y34) := (congrFun hf36 9).trans rfl
    clear hf36
    obtain rfl := Option.some.inj hr
    exact ⟨z, hz, st, rfl, h9, trivial⟩
  · refine W.condF h31 hc37 ?_
    refine W.skip ?_
    obtain rfl := Option.some.inj hr
    exact ⟨z, hz, st, rfl, h9, trivial⟩

theorem u_r07_fit_0 : ∀ (n : Nat) {N : Nat}  {z0 z : Nat → Blk} {e m : Mem} {k : Option Nat} {fr : Nat → Value} {x0 : List Int} {x1 : List Int} {x2 : Int} {x7 : Int} {x8 : Int} {v0 : Value} {v1 : Value} (hz : Zx e.next z0 z) (st : St z e m k) (h0 : fr 0 = v0) (s0 : SlR (TInt 3 .i64) z x0 v0) (h1 : fr 1 = v1) (s1 : SlR (TInt 3 .i64) z x1 v1) (h2 : fr 2 = (Value.int .i64 x2)) (h7 : fr 7 = (Value.int .i64 x7)) (h8 : fr 8 = (Value.int .i64 x8)) {r : Sum (Int) (Int)} (hr : r07_fit_0 N x0 x1 x2 n x7 x8 = some r), W Try.prog (sub (bodyOf Try.f46) [1, 1, 1, 0, 1, 0]) (fun ex fr' m' => ∃ z', Zx e.next z0 z' ∧ St z' e m' k ∧ ((∃ q, r = Sum.inl q ∧ ex = AExit.exit 0 ∧ fr' 7 = (Value.int .i64 q) ∧ True) ∨ (∃ q, r = Sum.inr q ∧ ex = AExit.ret ∧ fr' 6 = (Value.int .i64 q) ∧ True))) fr m := by
  intro n
  induction n with
  | zero => intro N z0 z e m k fr x0 x1 x2 x7 x8 v0 v1 hz st h0 s0 h1 s1 h2 h7 h8 r hr; cases (show (none : Option _) = some r from hr)
  | succ n ih =>
    intro N z0 z e m k fr x0 x1 x2 x7 x8 v0 v1 hz st h0 s0 h1 s1 h2 h7 h8 r hr
    unfold r07_fit_0 at hr
    refine W.loop1 ?_
    refine W.seq ?_
    refine W.seq ?_
    refine W.region ?_
    refine SeqW.consX rfl (StepX.pure (pMove (v := (Value.int .i64 x8)) rfl h8) ?_)
    refine SeqW.consX rfl (StepX.pure (pMove (v := v1) rfl h1) ?_)
    refine SeqW.consX rfl (StepX.pure (pLenR (xs := x1) rfl Try.underlying22 rfl s1) ?_)
    refine SeqW.consX rfl (StepX.pure (pLss (k := .i64) (a := x8) (b := (x1.length : Int)) rfl rfl rfl) ?_)
    refine SeqW.done fun fr13 hf14 => ?_
    have h0 : fr13 0 = v0 := (congrFun hf14 0).trans h0
    have h1 : fr13 1 = v1 := (congrFun hf14 1).trans h1
    have h2 : fr13 2 = (Value.int .i64 x2) := (congrFun hf14 2).trans h2
    have h7 : fr13 7 = (Value.int .i64 x7) := (congrFun hf14 7).trans h7
    have h8 : fr13 8 = (Value.int .i64 x8) := (congrFun hf14 8).trans h8
    have h18 : fr13 18 = (Value.bool (decide (x8 < (x1.length : Int)))) := (congrFun hf14 18).trans rfl
    clear hf14
    refine thenQ.n ?_
    rcases if_some hr with ⟨hc15, hr⟩ | ⟨hc57, hr⟩
    · refine W.condT h18 hc15 ?_
      refine W.skip ?_
      refine thenQ.n ?_
      refine W.seq ?_
      refine W.block ?_
      refine W.seq ?_
      refine W.calm (by decide) ?_
      refine SeqW.consX rfl (StepX.pure (pMove (v := v0) rfl h0) ?_)
      refine SeqW.consX rfl (StepX.pure (pMove (v := (Value.int .i64 x8)) rfl h8) ?_)
      obtain ⟨y16, hy16, hr⟩ := bind_some hr
      refine SeqW.consX rfl (kIdxR (T := (TInt 3 .i64)) (xs := x0) (n := x8) rfl Try.underlying22 Try.type3 rfl rfl rfl s0 hy16 ?_)
      intro b17 f18 cs19 hd20 hc21
      obtain rfl := hd20
      refine SeqW.consX rfl (kLoad (v := (Value.int .i64 y16)) rfl Try.underlying3 rfl rfl (ldz_load st.fz (hc21 0 _ rfl)) ?_)
      refine SeqW.consX rfl (StepX.pure (pMove (v := v1) rfl h1) ?_)
      refine SeqW.consX rfl (StepX.pure (pMove (v := (Value.int .i64 x8)) rfl h8) ?_)
      obtain ⟨y22, hy22, hr⟩ := bind_some hr
      refine SeqW.consX rfl (kIdxR (T := (TInt 3 .i64)) (xs := x1) (n := x8) rfl Try.underlying22 Try.type3 rfl rfl rfl s1 hy22 ?_)
      intro b23 f24 cs25 hd26 hc27
      obtain rfl := hd26
      refine SeqW.consX rfl (kLoad (v := (Value.int .i64 y22)) rfl Try.underlying3 rfl rfl (ldz_load st.fz (hc27 0 _ rfl)) ?_)
      refine SeqW.consX rfl (StepX.pure (pSub (k := .i64) (a := y16) (b := y22) rfl rfl rfl) ?_)
      obtain ⟨y28, hy28, hr⟩ := lt_some hr
      refine SeqW.consX rfl (StepX.pure (pAssign rfl (congrArg (Value.int .i64) hy28)) ?_)
      refine SeqW.done fun fr29 hf30 => ?_
      have h0 : fr29 0 = v0 := (congrFun hf30 0).trans h0
      have h1 : fr29 1 = v1 := (congrFun hf30 1).trans h1
      have h2 : fr29 2 = (Value.int .i64 x2) := (congrFun hf30 2).trans h2
      have h7 : fr29 7 = (Value.int .i64 x7) := (congrFun hf30 7).trans h7
      have h8 : fr29 8 = (Value.int .i64 x8) := (congrFun hf30 8).trans h8
      have h9 : fr29 9 = (Value.int .i64 y28) := (congrFun hf30 9).trans rfl
      clear hf30
      refine thenQ.n ?_
      refine W.seq ?_
      refine W.seq ?_
      refine W.region ?_
      refine SeqW.consX rfl (StepX.pure (pMove (v := (Value.int .i64 y28)) rfl h9) ?_)
      refine SeqW.consX rfl (StepX.pure (pLss (k := .i64) (a := y28) (b := 0) rfl rfl rfl) ?_)
      refine SeqW.done fun fr31 hf32 => ?_
      have h0 : fr31 0 = v0 := (congrFun hf32 0).trans h0
      have h1 : fr31 1 = v1 := (congrFun hf32 1).trans h1
      have h2 : fr31 2 = (Value.int .i64 x2) := (congrFun hf32 2).trans h2
      have h7 : fr31 7 = (Value.int .i64 x7) := (congrFun hf32 7).trans h7
      have h8 : fr31 8 = (Value.int .i64 x8) := (congrFun hf32 8).trans h8
      have h9 : fr31 9 = (Value.int .i64 y28) := (congrFun hf32 9).trans h9
      have h31 : fr31 31 = (Value.bool (decide (y28 < 0))) := (congrFun hf32 31).trans rfl
      clear hf32
      refine thenQ.n ?_
      obtain ⟨y38, hy38, hr⟩ := bind_some hr
      refine W.keep (u_r07_fit_1 (Zx.refl _) st h9 h31 hy38) ?_
      rintro ex44 fr39 m40 hk42 ⟨z41, hz43, st, rfl, h9, -⟩
      replace s0 := s0.mono hz43.le
      replace s1 := s1.mono hz43.le
      have h0 := (hk42 0 rfl).trans h0
      have h1 := (hk42 1 rfl).trans h1
      have h2 := (hk42 2 rfl).trans h2
      have h7 := (hk42 7 rfl).trans h7
      have h8 := (hk42 8 rfl).trans h8
      replace hz := hz.trans hz43
      clear hk42
      refine thenQ.n ?_
      refine W.seq ?_
      refine W.seq ?_
      refine W.region ?_
      refine SeqW.consX rfl (StepX.pure (pMove (v := (Value.int .i64 y38)) rfl h9) ?_)
      refine SeqW.consX rfl (StepX.pure (pMove (v := (Value.int .i64 x2)) rfl h2) ?_)
      refine SeqW.consX rfl (StepX.pure (pGtr (k := .i64) (a := y38) (b := x2) rfl rfl rfl) ?_)
      refine SeqW.done fun fr45 hf46 => ?_
      have h0 : fr45 0 = v0 := (congrFun hf46 0).trans h0
      have h1 : fr45 1 = v1 := (congrFun hf46 1).trans h1
      have h2 : fr45 2 = (Value.int .i64 x2) := (congrFun hf46 2).trans h2
      have h7 : fr45 7 = (Value.int .i64 x7) := (congrFun hf46 7).trans h7
      have h8 : fr45 8 = (Value.int .i64 x8) := (congrFun hf46 8).trans h8
      have h9 : fr45 9 = (Value.int .i64 y38) := (congrFun hf46 9).trans h9
      have h36 : fr45 36 = (Value.bool (decide (x2 < y38))) := (congrFun hf46 36).trans rfl
      clear hf46
      refine thenQ.n ?_
      rcases if_some hr with ⟨hc47, hr⟩ | ⟨hc50, hr⟩
      · refine W.condT h36 hc47 ?_
        refine W.seq ?_
        refine W.region ?_
        refine SeqW.consX rfl (StepX.pure (pAssign (v := (Value.int .i64 (-1))) rfl rfl) ?_)
        refine SeqW.done fun fr48 hf49 => ?_
        have h6 : fr48 6 = (Value.int .i64 (-1)) := (congrFun hf49 6).trans rfl
        clear hf49
        refine thenQ.n ?_
        refine W.ret ?_
        refine thenQ.r ?_
        refine blockQ.r ?_
        refine thenQ.r ?_
        refine thenQ.r ?_
        obtain rfl := Option.some.inj hr
        exact ⟨z41, hz, st, .inr ⟨_, rfl, rfl, h6, trivial⟩⟩
      · refine W.condF h36 hc50 ?_
        refine W.skip ?_
        refine thenQ.n ?_
        refine W.region ?_
        refine SeqW.consX rfl (StepX.pure (pMove (v := (Value.int .i64 x7)) rfl h7) ?_)
        refine SeqW.consX rfl (StepX.pure (pMove (v := (Value.int .i64 y38)) rfl h9) ?_)
        refine SeqW.consX rfl (StepX.pure (pAdd (k := .i64) (a := x7) (b := y38) rfl rfl rfl) ?_)
        obtain ⟨y51, hy51, hr⟩ := lt_some hr
        refine SeqW.consX rfl (StepX.pure (pAssign rfl (congrArg (Value.int .i64) hy51)) ?_)
        refine SeqW.done fun fr52 hf53 => ?_
        have h0 : fr52 0 = v0 := (congrFun hf53 0).trans h0
        have h1 : fr52 1 = v1 := (congrFun hf53 1).trans h1
        have h2 : fr52 2 = (Value.int .i64 x2) := (congrFun hf53 2).trans h2
        have h7 : fr52 7 = (Value.int .i64 y51) := (congrFun hf53 7).trans rfl
        have h8 : fr52 8 = (Value.int .i64 x8) := (congrFun hf53 8).trans h8
        clear hf53
        refine blockQ.n ?_
        refine thenQ.n ?_
        refine W.region ?_
        refine SeqW.consX rfl (StepX.pure (pMove (v := (Value.int .i64 x8)) rfl h8) ?_)
        refine SeqW.consX rfl (StepX.pure (pAdd (k := .i64) (a := x8) (b := 1) rfl rfl rfl) ?_)
        obtain ⟨y54, hy54, hr⟩ := lt_some hr
        refine SeqW.consX rfl (StepX.pure (pAssign rfl (congrArg (Value.int .i64) hy54)) ?_)
        refine SeqW.done fun fr55 hf56 => ?_
        have h0 : fr55 0 = v0 := (congrFun hf56 0).trans h0
        have h1 : fr55 1 = v1 := (congrFun hf56 1).trans h1
        have h2 : fr55 2 = (Value.int .i64 x2) := (congrFun hf56 2).trans h2
        have h7 : fr55 7 = (Value.int .i64 y51) := (congrFun hf56 7).trans h7
        have h8 : fr55 8 = (Value.int .i64 y54) := (congrFun hf56 8).trans rfl
        clear hf56
        refine thenQ.n ?_
        exact ih hz st h0 s0 h1 s1 h2 h7 h8 hr
    · refine W.condF h18 hc57 ?_
      refine W.exit ?_
      refine thenQ.x ?_
      refine thenQ.x ?_
      obtain rfl := Option.some.inj hr
      exact ⟨z, hz, st, .inl ⟨_, rfl, rfl, h7, trivial⟩⟩

theorem u_r07_fit {N : Nat}  {z0 z : Nat → Blk} {e m : Mem} {k : Option Nat} {fr : Nat → Value} {x0 : List Int} {x1 : List Int} {x2 : Int} {v0 : Value} {v1 : Value} (hz : Zx e.next z0 z) (st : St z e m k) (h0 : fr 0 = v0) (s0 : SlR (TInt 3 .i64) z x0 v0) (h1 : fr 1 = v1) (s1 : SlR (TInt 3 .i64) z x1 v1) (h2 : fr 2 = (Value.int .i64 x2)) {r : Int} (hr : r07_fit N x0 x1 x2 = some r) : W Try.prog (sub (bodyOf Try.f46) []) (fun ex fr' m' => ∃ z', Zx e.next z0 z' ∧ St z' e m' k ∧ (ex = .normal ∨ ex = .ret) ∧ fr' 6 = (Value.int .i64 r) ∧ True) fr m := by
  unfold r07_fit at hr
  refine W.seq ?_
  refine W.region ?_
  refine SeqW.consX rfl (StepX.pure (pAssign (v := (Value.int .i64 0)) rfl rfl) ?_)
  refine SeqW.done fun fr1 hf2 => ?_
  have h0 : fr1 0 = v0 := (congrFun hf2 0).trans h0
  have h1 : fr1 1 = v1 := (congrFun hf2 1).trans h1
  have h2 : fr1 2 = (Value.int .i64 x2) := (congrFun hf2 2).trans h2
  clear hf2
  refine thenQ.n ?_
  refine W.seq ?_
  refine W.seq ?_
  refine W.region ?_
  refine SeqW.consX rfl (StepX.pure (pMove (v := v1) rfl h1) ?_)
  refine SeqW.consX rfl (StepX.pure (pLenR (xs := x1) rfl Try.underlying22 rfl s1) ?_)
  refine SeqW.consX rfl (StepX.pure (pMove (v := v0) rfl h0) ?_)
  refine SeqW.consX rfl (StepX.pure (pLenR (xs := x0) rfl Try.underlying22 rfl s0) ?_)
  refine SeqW.consX rfl (StepX.pure (pGtr (k := .i64) (a := (x1.length : Int)) (b := (x0.length : Int)) rfl rfl rfl) ?_)
  refine SeqW.done fun fr3 hf4 => ?_
  have h0 : fr3 0 = v0 := (congrFun hf4 0).trans h0
  have h1 : fr3 1 = v1 := (congrFun hf4 1).trans h1
  have h2 : fr3 2 = (Value.int .i64 x2) := (congrFun hf4 2).trans h2
  have h14 : fr3 14 = (Value.bool (decide ((x0.length : Int) < (x1.length : Int)))) := (congrFun hf4 14).trans rfl
  clear hf4
  refine thenQ.n ?_
  rcases if_some hr with ⟨hc5, hr⟩ | ⟨hc8, hr⟩
  · refine W.condT h14 hc5 ?_
    refine W.seq ?_
    refine W.region ?_
    refine SeqW.consX rfl (StepX.pure (pAssign (v := (Value.int .i64 (-1))) rfl rfl) ?_)
    refine SeqW.done fun fr6 hf7 => ?_
    have h6 : fr6 6 = (Value.int .i64 (-1)) := (congrFun hf7 6).trans rfl
    clear hf7
    refine thenQ.n ?_
    refine W.ret ?_
    refine thenQ.r ?_
    obtain rfl := Option.some.inj hr
    exact ⟨z, hz, st, .inr rfl, h6, trivial⟩
  · refine W.condF h14 hc8 ?_
    refine W.skip ?_
    refine thenQ.n ?_
    refine W.seq ?_
    refine W.region ?_
    refine SeqW.consX rfl (StepX.pure (pAssign (v := (Value.int .i64 0)) rfl rfl) ?_)
    refine SeqW.done fun fr9 hf10 => ?_
    have h0 : fr9 0 = v0 := (congrFun hf10 0).trans h0
    have h1 : fr9 1 = v1 := (congrFun hf10 1).trans h1
    have h2 : fr9 2 = (Value.int .i64 x2) := (congrFun hf10 2).trans h2
    have h7 : fr9 7 = (Value.int .i64 0) := (congrFun hf10 7).trans rfl
    clear hf10
    refine thenQ.n ?_
    refine W.seq ?_
    refine W.seq ?_
    refine W.region ?_
    refine SeqW.consX rfl (StepX.pure (pAssign (v := (Value.int .i64 0)) rfl rfl) ?_)
    refine SeqW.done fun fr11 hf12 => ?_
    have h0 : fr11 0 = v0 := (congrFun hf12 0).trans h0
    have h1 : fr11 1 = v1 := (congrFun hf12 1).trans h1
    have h2 : fr11 2 = (Value.int .i64 x2) := (congrFun hf12 2).trans h2
    have h7 : fr11 7 = (Value.int .i64 0) := (congrFun hf12 7).trans h7
    have h8 : fr11 8 = (Value.int .i64 0) := (congrFun hf12 8).trans rfl
    clear hf12
    refine thenQ.n ?_
    refine W.block ?_
    obtain ⟨y58, hy58, hr⟩ := bind_some hr
    refine W.keep (u_r07_fit_0 _ (Zx.refl _) st h0 s0 h1 s1 h2 h7 h8 hy58) ?_
    rintro ex64 fr59 m60 hk62 ⟨z61, hz63, st, ⟨y65, rfl, rfl, h7, -⟩ | ⟨y68, rfl, rfl, h6, -⟩⟩
    · dsimp only at hr
      replace hz := hz.trans hz63
      clear hk62
      refine blockQ.hit ?_
      refine thenQ.n ?_
      refine W.seq ?_
      refine W.region ?_
      refine SeqW.consX rfl (StepX.pure (pMove (v := (Value.int .i64 y65)) rfl h7) ?_)
      refine SeqW.consX rfl (StepX.pure (pAssign (v := (Value.int .i64 y65)) rfl rfl) ?_)
      refine SeqW.done fun fr66 hf67 => ?_
      have h6 : fr66 6 = (Value.int .i64 y65) := (congrFun hf67 6).trans rfl
      clear hf67
      refine thenQ.n ?_
      refine W.ret ?_
      obtain rfl := Option.some.inj hr
      exact ⟨z61, hz, st, .inr rfl, h6, trivial⟩
    · dsimp only at hr
      replace hz := hz.trans hz63
      clear hk62
      refine blockQ.r ?_
      refine thenQ.r ?_
      obtain rfl := Option.some.inj hr
      exact ⟨z61, hz, st, .inr rfl, h6, trivial⟩

theorem c_r07_fit {N : Nat} {z : Nat → Blk} {m : Mem} {x0 : List Int} {x1 : List Int} {x2 : Int} {v0 : Value} {v1 : Value} (fz : Fz z m) (hd : ∀ b, m.next ≤ b → m.blk b = .dead) (s0 : SlR (TInt 3 .i64) z x0 v0) (s1 : SlR (TInt 3 .i64) z x1 v1) {r : Int} (hr : r07_fit N x0 x1 x2 = some r) : CallW Try.prog 46 #[v0, v1, (Value.int .i64 x2)] m fun v m' => v = (Value.int .i64 r) ∧ m' = m := by
  refine CallW.flat Try.func46 rfl (by kernel_rfl) (Nat.le_of_ble_eq_true rfl) rfl (z := z) (fun fr hf => ?_)
  have h0 : fr 0 = _ := hf 0 _ rfl
  have h1 : fr 1 = _ := hf 1 _ rfl
  have h2 : fr 2 = _ := hf 2 _ rfl
  refine (u_r07_fit (k := none) (Zx.refl _) (St.start fz hd) h0 s0 h1 s1 h2 hr).mono ?_
  rintro ex fr' m' ⟨z', hz, st, he, h6, -⟩
  exact ⟨he, z', st, [(Value.int .i64 r)], ⟨h6.symm, trivial⟩, .inl rfl, rfl⟩

/-! ### humpyard/humpyardref07.Recognize -/

theorem u_r07_Recognize_0 {N : Nat}  {z0 z : Nat → Blk} {e m : Mem} {k : Option Nat} {fr : Nat → Value} {x0 : List Int} {x1 : List (List Int)} {v0 : Value} {v1 : Value} (hz : Zx e.next z0 z) (st : St z e m k) (h0 : fr 0 = v0) (s0 : SlR (TInt 3 .i64) z x0 v0) (h1 : fr 1 = v1) (s1 : SlR (TSl 22 (TInt 3 .i64)) z x1 v1) {r : Bool} (hr : r07_Recognize_0 N x0 x1 = some r) : W Try.prog (sub (bodyOf Try.f35) [1, 0, 0]) (fun ex fr' m' => ∃ z', Zx e.next z0 z' ∧ St z' e m' k ∧ ex = AExit.normal ∧ fr' 29 = (Value.bool r) ∧ True) fr m := by
  unfold r07_Recognize_0 at hr
  refine W.region ?_
  refine SeqW.consX rfl (StepX.pure (pMove (v := v0) rfl h0) ?_)
  refine SeqW.consX rfl (StepX.pure (pLenR (xs := x0) rfl Try.underlying22 rfl s0) ?_)
  refine SeqW.consX rfl (StepX.pure (pGtr (k := .i64) (a := (x0.length : Int)) (b := 768) rfl rfl rfl) ?_)
  refine SeqW.consX rfl (StepX.pure (pMove (v := (Value.bool (decide (768 < (x0.length : Int))))) rfl rfl) ?_)
  rcases if_some hr with ⟨hc3, hr⟩ | ⟨hc6, hr⟩
  · refine SeqW.skipG rfl rfl rfl hc3 ?_
    refine SeqW.skipG rfl rfl rfl hc3 ?_
    refine SeqW.skipG rfl rfl rfl hc3 ?_
    refine SeqW.consX rfl (StepX.pure (pPick (t := true) (v := (Value.bool true)) rfl ((congrArg Value.bool hc3)) rfl) ?_)
    refine SeqW.done fun fr4 hf5 => ?_
    have h0 : fr4 0 = v0 := (congrFun hf5 0).trans h0
    have h1 : fr4 1 = v1 := (congrFun hf5 1).trans h1
    have h29 : fr4 29 = (Value.bool true) := (congrFun hf5 29).trans rfl
    clear hf5
    obtain rfl := Option.some.inj hr
    exact ⟨z, hz, st, rfl, h29, trivial⟩
  · refine SeqW.consG rfl rfl rfl hc6 (StepX.pure (pMove (v := v1) rfl h1) ?_)
    refine SeqW.consG rfl rfl rfl hc6 (StepX.pure (pLenR (xs := x1) rfl Try.underlying23 rfl s1) ?_)
    refine SeqW.consG rfl rfl rfl hc6 (StepX.pure (pGtr (k := .i64) (a := (x1.length : Int)) (b := 16) rfl rfl rfl) ?_)
    refine SeqW.consX rfl (StepX.pure (pPick (t := false) (v := (Value.bool (decide (16 < (x1.length : Int))))) rfl ((congrArg Value.bool hc6)) rfl) ?_)
    refine SeqW.done fun fr7 hf8 => ?_
    have h0 : fr7 0 = v0 := (congrFun hf8 0).trans h0
    have h1 : fr7 1 = v1 := (congrFun hf8 1).trans h1
    have h29 : fr7 29 = (Value.bool (decide (16 < (x1.length : Int)))) := (congrFun hf8 29).trans rfl
    clear hf8
    obtain rfl := Option.some.inj hr
    exact ⟨z, hz, st, rfl, h29, trivial⟩

theorem u_r07_Recognize_1 : ∀ (n : Nat) {N : Nat}  {z0 z : Nat → Blk} {e m : Mem} {k : Option Nat} {fr : Nat → Value} {x1 : List (List Int)} {x9 : Int} {v1 : Value} (hz : Zx e.next z0 z) (st : St z e m k) (h1 : fr 1 = v1) (s1 : SlR (TSl 22 (TInt 3 .i64)) z x1 v1) (h9 : fr 9 = (Value.int .i64 x9)) {r : Sum (Unit) (Int × Int)} (hr : r07_Recognize_1 N x1 n x9 = some r), W Try.prog (sub (bodyOf Try.f35) [1, 1, 0, 1, 0]) (fun ex fr' m' => ∃ z', Zx e.next z0 z' ∧ St z' e m' k ∧ ((∃ q, r = Sum.inl q ∧ ex = AExit.exit 0 ∧ True) ∨ (∃ q, r = Sum.inr q ∧ ex = AExit.ret ∧ fr' 6 = (Value.slice none 0 0) ∧ fr' 7 = (Value.int .i64 q.1) ∧ fr' 8 = (Value.int .i64 q.2) ∧ True))) fr m := by
  intro n
  induction n with
  | zero => intro N z0 z e m k fr x1 x9 v1 hz st h1 s1 h9 r hr; cases (show (none : Option _) = some r from hr)
  | succ n ih =>
    intro N z0 z e m k fr x1 x9 v1 hz st h1 s1 h9 r hr
    unfold r07_Recognize_1 at hr
    refine W.loop1 ?_
    refine W.seq ?_
    refine W.seq ?_
    refine W.region ?_
    refine SeqW.consX rfl (StepX.pure (pMove (v := (Value.int .i64 x9)) rfl h9) ?_)
    refine SeqW.consX rfl (StepX.pure (pMove (v := v1) rfl h1) ?_)
    refine SeqW.consX rfl (StepX.pure (pLenR (xs := x1) rfl Try.underlying23 rfl s1) ?_)
    refine SeqW.consX rfl (StepX.pure (pLss (k := .i64) (a := x9) (b := (x1.length : Int)) rfl rfl rfl) ?_)
    refine SeqW.done fun fr22 hf23 => ?_
    have h1 : fr22 1 = v1 := (congrFun hf23 1).trans h1
    have h9 : fr22 9 = (Value.int .i64 x9) := (congrFun hf23 9).trans h9
    have h33 : fr22 33 = (Value.bool (decide (x9 < (x1.length : Int)))) := (congrFun hf23 33).trans rfl
    clear hf23
    refine thenQ.n ?_
    rcases if_some hr with ⟨hc24, hr⟩ | ⟨hc43, hr⟩
    · refine W.condT h33 hc24 ?_
      refine W.skip ?_
      refine thenQ.n ?_
      refine W.seq ?_
      refine W.block ?_
      refine W.seq ?_
      refine W.region ?_
      refine SeqW.consX rfl (StepX.pure (pMove (v := v1) rfl h1) ?_)
      refine SeqW.consX rfl (StepX.pure (pMove (v := (Value.int .i64 x9)) rfl h9) ?_)
      obtain ⟨y25, hy25, hr⟩ := bind_some hr
      refine SeqW.consX rfl (kIdxR (T := (TSl 22 (TInt 3 .i64))) (xs := x1) (n := x9) rfl Try.underlying23 Try.type22 rfl rfl rfl s1 hy25 ?_)
      intro b26 f27 cs28 hd29 hc30
      obtain ⟨v31, rfl, s32⟩ := hd29
      refine SeqW.consX rfl (kLoad (v := v31) rfl Try.underlying22 rfl rfl (ldz_load st.fz (hc30 0 _ rfl)) ?_)
      refine SeqW.consX rfl (StepX.pure (pLenR (xs := y25) rfl Try.underlying22 rfl s32) ?_)
      refine SeqW.consX rfl (StepX.pure (pGtr (k := .i64) (a := (y25.length : Int)) (b := 5) rfl rfl rfl) ?_)
      refine SeqW.done fun fr34 hf35 => ?_
      have h1 : fr34 1 = v1 := (congrFun hf35 1).trans h1
      have h9 : fr34 9 = (Value.int .i64 x9) := (congrFun hf35 9).trans h9
      have h41 : fr34 41 = (Value.bool (decide (5 < (y25.length : Int)))) := (congrFun hf35 41).trans rfl
      clear hf35
      refine thenQ.n ?_
      rcases if_some hr with ⟨hc36, hr⟩ | ⟨hc39, hr⟩
      · refine W.condT h41 hc36 ?_
        refine W.seq ?_
        refine W.region ?_
        refine SeqW.consX rfl (StepX.pure (pAssign (v := (Value.slice none 0 0)) rfl rfl) ?_)
        refine SeqW.consX rfl (StepX.pure (pAssign (v := (Value.int .i64 0)) rfl rfl) ?_)
        refine SeqW.consX rfl (StepX.pure (pAssign (v := (Value.int .i64 3)) rfl rfl) ?_)
        refine SeqW.done fun fr37 hf38 => ?_
        have h6 : fr37 6 = (Value.slice none 0 0) := (congrFun hf38 6).trans rfl
        have h7 : fr37 7 = (Value.int .i64 0) := (congrFun hf38 7).trans rfl
        have h8 : fr37 8 = (Value.int .i64 3) := (congrFun hf38 8).trans rfl
        clear hf38
        refine thenQ.n ?_
        refine W.ret ?_
        refine blockQ.r ?_
        refine thenQ.r ?_
        refine thenQ.r ?_
        obtain rfl := Option.some.inj hr
        exact ⟨z, hz, st, .inr ⟨_, rfl, rfl, h6, h7, h8, trivial⟩⟩
      · refine W.condF h41 hc39 ?_
        refine W.skip ?_
        refine blockQ.n ?_
        refine thenQ.n ?_
        refine W.region ?_
        refine SeqW.consX rfl (StepX.pure (pMove (v := (Value.int .i64 x9)) rfl h9) ?_)
        refine SeqW.consX rfl (StepX.pure (pAdd (k := .i64) (a := x9) (b := 1) rfl rfl rfl) ?_)
        obtain ⟨y40, hy40, hr⟩ := lt_some hr
        refine SeqW.consX rfl (StepX.pure (pAssign rfl (congrArg (Value.int .i64) hy40)) ?_)
        refine SeqW.done fun fr41 hf42 => ?_
        have h1 : fr41 1 = v1 := (congrFun hf42 1).trans h1
        have h9 : fr41 9 = (Value.int .i64 y40) := (congrFun hf42 9).trans rfl
        clear hf42
        refine thenQ.n ?_
        exact ih hz st h1 s1 h9 hr
    · refine W.condF h33 hc43 ?_
      refine W.exit ?_
      refine thenQ.x ?_
      refine thenQ.x ?_
      obtain rfl := Option.some.inj hr
      exact ⟨z, hz, st, .inl ⟨_, rfl, rfl, trivial⟩⟩

theorem u_r07_Recognize_2 {N : Nat}  {z0 z : Nat → Blk} {e m : Mem} {k : Option Nat} {fr : Nat → Value} {x2 : Int} (hz : Zx e.next z0 z) (st : St z e m k) (h2 : fr 2 = (Value.int .i64 x2)) {r : Bool} (hr : r07_Recognize_2 N x2 = some r) : W Try.prog (sub (bodyOf Try.f35) [1, 1, 1, 0, 0]) (fun ex fr' m' => ∃ z', Zx e.next z0 z' ∧ St z' e m' k ∧ ex = AExit.normal ∧ fr' 47 = (Value.bool r) ∧ True) fr m := by
  unfold r07_Recognize_2 at hr
  refine W.region ?_
  refine SeqW.consX rfl (StepX.pure (pMove (v := (Value.int .i64 x2)) rfl h2) ?_)
  refine SeqW.consX rfl (StepX.pure (pLss (k := .i64) (a := x2) (b := 0) rfl rfl rfl) ?_)
  refine SeqW.consX rfl (StepX.pure (pMove (v := (Value.bool (decide (x2 < 0)))) rfl rfl) ?_)
  rcases if_some hr with ⟨hc52, hr⟩ | ⟨hc55, hr⟩
  · refine SeqW.skipG rfl rfl rfl hc52 ?_
    refine SeqW.skipG rfl rfl rfl hc52 ?_
    refine SeqW.consX rfl (StepX.pure (pPick (t := true) (v := (Value.bool true)) rfl ((congrArg Value.bool hc52)) rfl) ?_)
    refine SeqW.done fun fr53 hf54 => ?_
    have h2 : fr53 2 = (Value.int .i64 x2) := (congrFun hf54 2).trans h2
    have h47 : fr53 47 = (Value.bool true) := (congrFun hf54 47).trans rfl
    clear hf54
    obtain rfl := Option.some.inj hr
    exact ⟨z, hz, st, rfl, h47, trivial⟩
  · refine SeqW.consG rfl rfl rfl hc55 (StepX.pure (pMove (v := (Value.int .i64 x2)) rfl h2) ?_)
    refine SeqW.consG rfl rfl rfl hc55 (StepX.pure (pGtr (k := .i64) (a := x2) (b := 10000) rfl rfl rfl) ?_)
    refine SeqW.consX rfl (StepX.pure (pPick (t := false) (v := (Value.bool (decide (10000 < x2)))) rfl ((congrArg Value.bool hc55)) rfl) ?_)
    refine SeqW.done fun fr56 hf57 => ?_
    have h2 : fr56 2 = (Value.int .i64 x2) := (congrFun hf57 2).trans h2
    have h47 : fr56 47 = (Value.bool (decide (10000 < x2))) := (congrFun hf57 47).trans rfl
    clear hf57
    obtain rfl := Option.some.inj hr
    exact ⟨z, hz, st, rfl, h47, trivial⟩

theorem u_r07_Recognize_4 {N : Nat}  {z0 z : Nat → Blk} {e m : Mem} {k : Option Nat} {fr : Nat → Value} {x1 : List (List Int)} {x10 : Int} {x11 : List Int} {x56 : Bool} {v1 : Value} {v11 : Value} (hz : Zx e.next z0 z) (st : St z e m k) (h1 : fr 1 = v1) (s1 : SlR (TSl 22 (TInt 3 .i64)) z x1 v1) (h10 : fr 10 = (Value.int .i64 x10)) (h11 : fr 11 = v11) (s11 : SlR (TInt 3 .i64) z x11 v11) (h56 : fr 56 = (Value.bool x56)) {r : List Int} (hr : r07_Recognize_4 N x1 x10 x11 x56 = some r) : W Try.prog (sub (bodyOf Try.f35) [1, 1, 1, 1, 0, 1, 0, 0, 1, 0, 0, 1, 0, 1]) (fun ex fr' m' => ∃ z', Zx e.next z0 z' ∧ St z' e m' k ∧ ex = AExit.normal ∧ ∃ (w11 : Value), fr' 11 = w11 ∧ SlR (TInt 3 .i64) z' r w11 ∧ True) fr m := by
  unfold r07_Recognize_4 at hr
  rcases if_some hr with ⟨hc78, hr⟩ | ⟨hc90, hr⟩
  · refine W.condT h56 hc78 ?_
    refine W.region ?_
    refine SeqW.consX rfl (StepX.pure (pMove (v := v1) rfl h1) ?_)
    refine SeqW.consX rfl (StepX.pure (pMove (v := (Value.int .i64 x10)) rfl h10) ?_)
    obtain ⟨y79, hy79, hr⟩ := bind_some hr
    refine SeqW.consX rfl (kIdxR (T := (TSl 22 (TInt 3 .i64))) (xs := x1) (n := x10) rfl Try.underlying23 Try.type22 rfl rfl rfl s1 hy79 ?_)
    intro b80 f81 cs82 hd83 hc84
    obtain ⟨v85, rfl, s86⟩ := hd83
    refine SeqW.consX rfl (kLoad (v := v85) rfl Try.underlying22 rfl rfl (ldz_load st.fz (hc84 0 _ rfl)) ?_)
    refine SeqW.consX rfl (StepX.pure (pAssign (v := v85) rfl rfl) ?_)
    refine SeqW.done fun fr88 hf89 => ?_
    have h1 : fr88 1 = v1 := (congrFun hf89 1).trans h1
    have h10 : fr88 10 = (Value.int .i64 x10) := (congrFun hf89 10).trans h10
    have h11 : fr88 11 = v85 := (congrFun hf89 11).trans rfl
    clear hf89
    obtain rfl := Option.some.inj hr
    exact ⟨z, hz, st, rfl, v85, h11, s86, trivial⟩
  · refine W.condF h56 hc90 ?_
    refine W.skip ?_
    obtain rfl := Option.some.inj hr
    exact ⟨z, hz, st, rfl, v11, h11, s11, trivial⟩

theorem u_r07_Recognize_6 {N : Nat}  {z0 z : Nat → Blk} {e m : Mem} {k : Option Nat} {fr : Nat → Value} {x11 : List Int} {x12 : Int} {v11 : Value} (hz : Zx e.next z0 z) (st : St z e m k) (h11 : fr 11 = v11) (s11 : SlR (TInt 3 .i64) z x11 v11) (h12 : fr 12 = (Value.int .i64 x12)) {r : Bool} (hr : r07_Recognize_6 N x11 x12 = some r) : W Try.prog (sub (bodyOf Try.f35) [1, 1, 1, 1, 0, 1, 0, 0, 1, 0, 0, 1, 1, 1, 0, 0, 1, 0, 0, 0]) (fun ex fr' m' => ∃ z', Zx e.next z0 z' ∧ St z' e m' k ∧ ex = AExit.normal ∧ fr' 78 = (Value.bool r) ∧ True) fr m := by
  unfold r07_Recognize_6 at hr
  refine W.region ?_
  refine SeqW.consX rfl (StepX.pure (pMove (v := v11) rfl h11) ?_)
  refine SeqW.consX rfl (StepX.pure (pMove (v := (Value.int .i64 x12)) rfl h12) ?_)
  obtain ⟨y106, hy106, hr⟩ := bind_some hr
  refine SeqW.consX rfl (kIdxR (T := (TInt 3 .i64)) (xs := x11) (n := x12) rfl Try.underlying22 Try.type3 rfl rfl rfl s11 hy106 ?_)
  intro b107 f108 cs109 hd110 hc111
  obtain rfl := hd110
  refine SeqW.consX rfl (kLoad (v := (Value.int .i64 y106)) rfl Try.underlying3 rfl rfl (ldz_load st.fz (hc111 0 _ rfl)) ?_)
  refine SeqW.consX rfl (StepX.pure (pLss (k := .i64) (a := y106) (b := 1) rfl rfl rfl) ?_)
  refine SeqW.consX rfl (StepX.pure (pMove (v := (Value.bool (decide (y106 < 1)))) rfl rfl) ?_)
  rcases if_some hr with ⟨hc112, hr⟩ | ⟨hc115, hr⟩
  · refine SeqW.skipG rfl rfl rfl hc112 ?_
    refine SeqW.skipG rfl rfl rfl hc112 ?_
    refine SeqW.skipG rfl rfl rfl hc112 ?_
    refine SeqW.skipG rfl rfl rfl hc112 ?_
    refine SeqW.skipG rfl rfl rfl hc112 ?_
    refine SeqW.consX rfl (StepX.pure (pPick (t := true) (v := (Value.bool true)) rfl ((congrArg Value.bool hc112)) rfl) ?_)
    refine SeqW.done fun fr113 hf114 => ?_
    have h11 : fr113 11 = v11 := (congrFun hf114 11).trans h11
    have h12 : fr113 12 = (Value.int .i64 x12) := (congrFun hf114 12).trans h12
    have h78 : fr113 78 = (Value.bool true) := (congrFun hf114 78).trans rfl
    clear hf114
    obtain rfl := Option.some.inj hr
    exact ⟨z, hz, st, rfl, h78, trivial⟩
  · refine SeqW.consG rfl rfl rfl hc115 (StepX.pure (pMove (v := v11) rfl h11) ?_)
    refine SeqW.consG rfl rfl rfl hc115 (StepX.pure (pMove (v := (Value.int .i64 x12)) rfl h12) ?_)
    obtain ⟨y116, hy116, hr⟩ := bind_some hr
    refine SeqW.consG rfl rfl rfl hc115 (kIdxR (T := (TInt 3 .i64)) (xs := x11) (n := x12) rfl Try.underlying22 Try.type3 rfl rfl rfl s11 hy116 ?_)
    intro b117 f118 cs119 hd120 hc121
    obtain rfl := hd120
    refine SeqW.consG rfl rfl rfl hc115 (kLoad (v := (Value.int .i64 y116)) rfl Try.underlying3 rfl rfl (ldz_load st.fz (hc121 0 _ rfl)) ?_)
    refine SeqW.consG rfl rfl rfl hc115 (StepX.pure (pGtr (k := .i64) (a := y116) (b := 10000) rfl rfl rfl) ?_)
    refine SeqW.consX rfl (StepX.pure (pPick (t := false) (v := (Value.bool (decide (10000 < y116)))) rfl ((congrArg Value.bool hc115)) rfl) ?_)
    refine SeqW.done fun fr122 hf123 => ?_
    have h11 : fr122 11 = v11 := (congrFun hf123 11).trans h11
    have h12 : fr122 12 = (Value.int .i64 x12) := (congrFun hf123 12).trans h12
    have h78 : fr122 78 = (Value.bool (decide (10000 < y116))) := (congrFun hf123 78).trans rfl
    clear hf123
    obtain rfl := Option.some.inj hr
    exact ⟨z, hz, st, rfl, h78, trivial⟩

theorem u_r07_Recognize_5 : ∀ (n : Nat) {N : Nat}  {z0 z : Nat → Blk} {e m : Mem} {k : Option Nat} {fr : Nat → Value} {x11 : List Int} {x12 : Int} {v11 : Value} (hz : Zx e.next z0 z) (st : St z e m k) (h11 : fr 11 = v11) (s11 : SlR (TInt 3 .i64) z x11 v11) (h12 : fr 12 = (Value.int .i64 x12)) {r : Sum (Unit) (Int × Int)} (hr : r07_Recognize_5 N x11 n x12 = some r), W Try.prog (sub (bodyOf Try.f35) [1, 1, 1, 1, 0, 1, 0, 0, 1, 0, 0, 1, 1, 1, 0]) (fun ex fr' m' => ∃ z', Zx e.next z0 z' ∧ St z' e m' k ∧ ((∃ q, r = Sum.inl q ∧ ex = AExit.exit 4 ∧ True) ∨ (∃ q, r = Sum.inr q ∧ ex = AExit.ret ∧ fr' 6 = (Value.slice none 0 0) ∧ fr' 7 = (Value.int .i64 q.1) ∧ fr' 8 = (Value.int .i64 q.2) ∧ True))) fr m := by
  intro n
  induction n with
  | zero => intro N z0 z e m k fr x11 x12 v11 hz st h11 s11 h12 r hr; cases (show (none : Option _) = some r from hr)
  | succ n ih =>
    intro N z0 z e m k fr x11 x12 v11 hz st h11 s11 h12 r hr
    unfold r07_Recognize_5 at hr
    refine W.loop1 ?_
    refine W.seq ?_
    refine W.seq ?_
    refine W.region ?_
    refine SeqW.consX rfl (StepX.pure (pMove (v := (Value.int .i64 x12)) rfl h12) ?_)
    refine SeqW.consX rfl (StepX.pure (pMove (v := v11) rfl h11) ?_)
    refine SeqW.consX rfl (StepX.pure (pLenR (xs := x11) rfl Try.underlying22 rfl s11) ?_)
    refine SeqW.consX rfl (StepX.pure (pLss (k := .i64) (a := x12) (b := (x11.length : Int)) rfl rfl rfl) ?_)
    refine SeqW.done fun fr103 hf104 => ?_
    have h11 : fr103 11 = v11 := (congrFun hf104 11).trans h11
    have h12 : fr103 12 = (Value.int .i64 x12) := (congrFun hf104 12).trans h12
    have h64 : fr103 64 = (Value.bool (decide (x12 < (x11.length : Int)))) := (congrFun hf104 64).trans rfl
    clear hf104
    refine thenQ.n ?_
    rcases if_some hr with ⟨hc105, hr⟩ | ⟨hc138, hr⟩
    · refine W.condT h64 hc105 ?_
      refine W.skip ?_
      refine thenQ.n ?_
      refine W.seq ?_
      refine W.block ?_
      refine W.seq ?_
      obtain ⟨y124, hy124, hr⟩ := bind_some hr
      refine W.keep (u_r07_Recognize_6 (Zx.refl _) st h11 s11 h12 hy124) ?_
      rintro ex130 fr125 m126 hk128 ⟨z127, hz129, st, rfl, h78, -⟩
      replace s11 := s11.mono hz129.le
      have h11 := (hk128 11 rfl).trans h11
      have h12 := (hk128 12 rfl).trans h12
      replace hz := hz.trans hz129
      clear hk128
      refine thenQ.n ?_
      rcases if_some hr with ⟨hc131, hr⟩ | ⟨hc134, hr⟩
      · refine W.condT h78 hc131 ?_
        refine W.seq ?_
        refine W.region ?_
        refine SeqW.consX rfl (StepX.pure (pAssign (v := (Value.slice none 0 0)) rfl rfl) ?_)
        refine SeqW.consX rfl (StepX.pure (pAssign (v := (Value.int .i64 0)) rfl rfl) ?_)
        refine SeqW.consX rfl (StepX.pure (pAssign (v := (Value.int .i64 2)) rfl rfl) ?_)
        refine SeqW.done fun fr132 hf133 => ?_
        have h6 : fr132 6 = (Value.slice none 0 0) := (congrFun hf133 6).trans rfl
        have h7 : fr132 7 = (Value.int .i64 0) := (congrFun hf133 7).trans rfl
        have h8 : fr132 8 = (Value.int .i64 2) := (congrFun hf133 8).trans rfl
        clear hf133
        refine thenQ.n ?_
        refine W.ret ?_
        refine blockQ.r ?_
        refine thenQ.r ?_
        refine thenQ.r ?_
        obtain rfl := Option.some.inj hr
        exact ⟨z127, hz, st, .inr ⟨_, rfl, rfl, h6, h7, h8, trivial⟩⟩
      · refine W.condF h78 hc134 ?_
        refine W.skip ?_
        refine blockQ.n ?_
        refine thenQ.n ?_
        refine W.region ?_
        refine SeqW.consX rfl (StepX.pure (pMove (v := (Value.int .i64 x12)) rfl h12) ?_)
        refine SeqW.consX rfl (StepX.pure (pAdd (k := .i64) (a := x12) (b := 1) rfl rfl rfl) ?_)
        obtain ⟨y135, hy135, hr⟩ := lt_some hr
        refine SeqW.consX rfl (StepX.pure (pAssign rfl (congrArg (Value.int .i64) hy135)) ?_)
        refine SeqW.done fun fr136 hf137 => ?_
        have h11 : fr136 11 = v11 := (congrFun hf137 11).trans h11
        have h12 : fr136 12 = (Value.int .i64 y135) := (congrFun hf137 12).trans rfl
        clear hf137
        refine thenQ.n ?_
        exact ih hz st h11 s11 h12 hr
    · refine W.condF h64 hc138 ?_
      refine W.exit ?_
      refine thenQ.x ?_
      refine thenQ.x ?_
      obtain rfl := Option.some.inj hr
      exact ⟨z, hz, st, .inl ⟨_, rfl, rfl, trivial⟩⟩

theorem u_r07_Recognize_3 : ∀ (n : Nat) {N : Nat}  {z0 z : Nat → Blk} {e m : Mem} {k : Option Nat} {fr : Nat → Value} {x0 : List Int} {x1 : List (List Int)} {x10 : Int} {v0 : Value} {v1 : Value} (hz : Zx e.next z0 z) (st : St z e m k) (h0 : fr 0 = v0) (s0 : SlR (TInt 3 .i64) z x0 v0) (h1 : fr 1 = v1) (s1 : SlR (TSl 22 (TInt 3 .i64)) z x1 v1) (h10 : fr 10 = (Value.int .i64 x10)) {r : Sum (Unit) (Int × Int)} (hr : r07_Recognize_3 N x0 x1 n x10 = some r), W Try.prog (sub (bodyOf Try.f35) [1, 1, 1, 1, 0, 1, 0]) (fun ex fr' m' => ∃ z', Zx e.next z0 z' ∧ St z' e m' k ∧ ((∃ q, r = Sum.inl q ∧ ex = AExit.exit 2 ∧ True) ∨ (∃ q, r = Sum.inr q ∧ ex = AExit.ret ∧ fr' 6 = (Value.slice none 0 0) ∧ fr' 7 = (Value.int .i64 q.1) ∧ fr' 8 = (Value.int .i64 q.2) ∧ True))) fr m := by
  intro n
  induction n with
  | zero => intro N z0 z e m k fr x0 x1 x10 v0 v1 hz st h0 s0 h1 s1 h10 r hr; cases (show (none : Option _) = some r from hr)
  | succ n ih =>
    intro N z0 z e m k fr x0 x1 x10 v0 v1 hz st h0 s0 h1 s1 h10 r hr
    unfold r07_Recognize_3 at hr
    refine W.loop1 ?_
    refine W.seq ?_
    refine W.seq ?_
    refine W.region ?_
    refine SeqW.consX rfl (StepX.pure (pMove (v := (Value.int .i64 x10)) rfl h10) ?_)
    refine SeqW.consX rfl (StepX.pure (pMove (v := v1) rfl h1) ?_)
    refine SeqW.consX rfl (StepX.pure (pLenR (xs := x1) rfl Try.underlying23 rfl s1) ?_)
    refine SeqW.consX rfl (StepX.pure (pLss (k := .i64) (a := x10) (b := (x1.length : Int)) rfl rfl rfl) ?_)
    refine SeqW.done fun fr71 hf72 => ?_
    have h0 : fr71 0 = v0 := (congrFun hf72 0).trans h0
    have h1 : fr71 1 = v1 := (congrFun hf72 1).trans h1
    have h10 : fr71 10 = (Value.int .i64 x10) := (congrFun hf72 10).trans h10
    have h51 : fr71 51 = (Value.bool (decide (x10 < (x1.length : Int)))) := (congrFun hf72 51).trans rfl
    clear hf72
    refine thenQ.n ?_
    rcases if_some hr with ⟨hc73, hr⟩ | ⟨hc151, hr⟩
    · refine W.condT h51 hc73 ?_
      refine W.skip ?_
      refine thenQ.n ?_
      refine W.seq ?_
      refine W.block ?_
      refine W.seq ?_
      refine W.region ?_
      refine SeqW.consX rfl (StepX.pure (pMove (v := v0) rfl h0) ?_)
      refine SeqW.consX rfl (StepX.pure (pAssign (v := v0) rfl rfl) ?_)
      refine SeqW.done fun fr74 hf75 => ?_
      have h0 : fr74 0 = v0 := (congrFun hf75 0).trans h0
      have h1 : fr74 1 = v1 := (congrFun hf75 1).trans h1
      have h10 : fr74 10 = (Value.int .i64 x10) := (congrFun hf75 10).trans h10
      have h11 : fr74 11 = v0 := (congrFun hf75 11).trans rfl
      clear hf75
      refine thenQ.n ?_
      refine W.seq ?_
      refine W.seq ?_
      refine W.region ?_
      refine SeqW.consX rfl (StepX.pure (pMove (v := (Value.int .i64 x10)) rfl h10) ?_)
      refine SeqW.consX rfl (StepX.pure (pGeq (k := .i64) (a := x10) (b := 0) rfl rfl rfl) ?_)
      refine SeqW.done fun fr76 hf77 => ?_
      have h0 : fr76 0 = v0 := (congrFun hf77 0).trans h0
      have h1 : fr76 1 = v1 := (congrFun hf77 1).trans h1
      have h10 : fr76 10 = (Value.int .i64 x10) := (congrFun hf77 10).trans h10
      have h11 : fr76 11 = v0 := (congrFun hf77 11).trans h11
      have h56 : fr76 56 = (Value.bool (decide (0 ≤ x10))) := (congrFun hf77 56).trans rfl
      clear hf77
      refine thenQ.n ?_
      obtain ⟨y91, hy91, hr⟩ := bind_some hr
      refine W.keep (u_r07_Recognize_4 (Zx.refl _) st h1 s1 h10 h11 s0 h56 hy91) ?_
      rintro ex97 fr92 m93 hk95 ⟨z94, hz96, st, rfl, w98, h11, s100, -⟩
      replace s0 := s0.mono hz96.le
      replace s1 := s1.mono hz96.le
      have h0 := (hk95 0 rfl).trans h0
      have h1 := (hk95 1 rfl).trans h1
      have h10 := (hk95 10 rfl).trans h10
      replace hz := hz.trans hz96
      clear hk95
      refine thenQ.n ?_
      refine W.seq ?_
      refine W.region ?_
      refine SeqW.consX rfl (StepX.pure (pAssign (v := (Value.int .i64 0)) rfl rfl) ?_)
      refine SeqW.done fun fr101 hf102 => ?_
      have h0 : fr101 0 = v0 := (congrFun hf102 0).trans h0
      have h1 : fr101 1 = v1 := (congrFun hf102 1).trans h1
      have h10 : fr101 10 = (Value.int .i64 x10) := (congrFun hf102 10).trans h10
      have h11 : fr101 11 = w98 := (congrFun hf102 11).trans h11
      have h12 : fr101 12 = (Value.int .i64 0) := (congrFun hf102 12).trans rfl
      clear hf102
      refine thenQ.n ?_
      refine W.block ?_
      obtain ⟨y139, hy139, hr⟩ := bind_some hr
      refine W.keep (u_r07_Recognize_5 _ (Zx.refl _) st h11 s100 h12 hy139) ?_
      rintro ex145 fr140 m141 hk143 ⟨z142, hz144, st, ⟨y146, rfl, rfl, -⟩ | ⟨y150, rfl, rfl, h6, h7, h8, -⟩⟩
      · dsimp only at hr
        replace s0 := s0.mono hz144.le
        replace s1 := s1.mono hz144.le
        have h0 := (hk143 0 rfl).trans h0
        have h1 := (hk143 1 rfl).trans h1
        have h10 := (hk143 10 rfl).trans h10
        replace hz := hz.trans hz144
        clear hk143
        refine blockQ.hit ?_
        refine blockQ.n ?_
        refine thenQ.n ?_
        refine W.region ?_
        refine SeqW.consX rfl (StepX.pure (pMove (v := (Value.int .i64 x10)) rfl h10) ?_)
        refine SeqW.consX rfl (StepX.pure (pAdd (k := .i64) (a := x10) (b := 1) rfl rfl rfl) ?_)
        obtain ⟨y147, hy147, hr⟩ := lt_some hr
        refine SeqW.consX rfl (StepX.pure (pAssign rfl (congrArg (Value.int .i64) hy147)) ?_)
        refine SeqW.done fun fr148 hf149 => ?_
        have h0 : fr148 0 = v0 := (congrFun hf149 0).trans h0
        have h1 : fr148 1 = v1 := (congrFun hf149 1).trans h1
        have h10 : fr148 10 = (Value.int .i64 y147) := (congrFun hf149 10).trans rfl
        clear hf149
        refine thenQ.n ?_
        exact ih hz st h0 s0 h1 s1 h10 hr
      · dsimp only at hr
        replace hz := hz.trans hz144
        clear hk143
        refine blockQ.r ?_
        refine blockQ.r ?_
        refine thenQ.r ?_
        refine thenQ.r ?_
        obtain rfl := Option.some.inj hr
        exact ⟨z142, hz, st, .inr ⟨_, rfl, rfl, h6, h7, h8, trivial⟩⟩
    · refine W.condF h51 hc151 ?_
      refine W.exit ?_
      refine thenQ.x ?_
      refine thenQ.x ?_
      obtain rfl := Option.some.inj hr
      exact ⟨z, hz, st, .inl ⟨_, rfl, rfl, trivial⟩⟩

theorem u_r07_Recognize_10 {N : Nat}  {z0 z : Nat → Blk} {e m : Mem} {k : Option Nat} {fr : Nat → Value} {x14 : List Int} {x18 : Int} {x19 : Int} {v14 : Value} {x15 : List Int} {v15 : Value} (hz : Zx e.next z0 z) (st : St z e m k) (h14 : fr 14 = v14) (o14 : OwF (TInt 3 .i64) z e m k x14 v14) (h15 : fr 15 = v15) (o15 : OwF (TInt 3 .i64) z e m k x15 v15) (h18 : fr 18 = (Value.int .i64 x18)) (h19 : fr 19 = (Value.int .i64 x19)) (ao14_o15 : Ap (blkOf v14) (blkOf v15)) {r : Bool} (hr : r07_Recognize_10 N x14 x18 x19 = some r) : W Try.prog (sub (bodyOf Try.f35) [1, 1, 1, 1, 1, 1, 1, 0, 1, 0, 0, 1, 0, 0, 1, 1, 0, 0, 1, 0, 0, 1, 1, 0, 0]) (fun ex fr' m' => ∃ z', Zx e.next z0 z' ∧ St z' e m' k ∧ ex = AExit.normal ∧ fr' 128 = (Value.bool r) ∧ OwF (TInt 3 .i64) z' e m' k x14 v14 ∧ OwF (TInt 3 .i64) z' e m' k x15 v15 ∧ Ap (blkOf v14) (blkOf v15) ∧ True) fr m := by
  unfold r07_Recognize_10 at hr
  refine W.region ?_
  refine SeqW.consX rfl (StepX.pure (pMove (v := (Value.int .i64 x18)) rfl h18) ?_)
  refine SeqW.consX rfl (StepX.pure (pLss (k := .i64) (a := x18) (b := 0) rfl rfl rfl) ?_)
  refine SeqW.consX rfl (StepX.pure (pMove (v := (Value.bool (decide (x18 < 0)))) rfl rfl) ?_)
  rcases if_some hr with ⟨hc236, hr⟩ | ⟨hc239, hr⟩
  · refine SeqW.skipG rfl rfl rfl hc236 ?_
    refine SeqW.skipG rfl rfl rfl hc236 ?_
    refine SeqW.skipG rfl rfl rfl hc236 ?_
    refine SeqW.skipG rfl rfl rfl hc236 ?_
    refine SeqW.skipG rfl rfl rfl hc236 ?_
    refine SeqW.consX rfl (StepX.pure (pPick (t := true) (v := (Value.bool true)) rfl ((congrArg Value.bool hc236)) rfl) ?_)
    refine SeqW.done fun fr237 hf238 => ?_
    have h14 : fr237 14 = v14 := (congrFun hf238 14).trans h14
    have h15 : fr237 15 = v15 := (congrFun hf238 15).trans h15
    have h18 : fr237 18 = (Value.int .i64 x18) := (congrFun hf238 18).trans h18
    have h19 : fr237 19 = (Value.int .i64 x19) := (congrFun hf238 19).trans h19
    have h128 : fr237 128 = (Value.bool true) := (congrFun hf238 128).trans rfl
    clear hf238
    obtain rfl := Option.some.inj hr
    exact ⟨z, hz, st, rfl, h128, o14, o15, ao14_o15, trivial⟩
  · refine SeqW.consG rfl rfl rfl hc239 (StepX.pure (pMove (v := v14) rfl h14) ?_)
    refine SeqW.consG rfl rfl rfl hc239 (StepX.pure (pMove (v := (Value.int .i64 x19)) rfl h19) ?_)
    obtain ⟨y240, hy240, hr⟩ := bind_some hr
    refine SeqW.consG rfl rfl rfl hc239 (kIdxO (T := (TInt 3 .i64)) (xs := x14) (n := x19) rfl Try.underlying22 Try.type3 rfl rfl rfl o14 hy240 ?_)
    intro b241 l242 c243 cs244 hv245 hd246 hg247 hc248
    have hd2460 := hd246
    obtain rfl := hd2460
    refine SeqW.consG rfl rfl rfl hc239 (kLoad (v := (Value.int .i64 y240)) rfl Try.underlying3 rfl rfl (hc248 0 _ rfl) ?_)
    refine SeqW.consG rfl rfl rfl hc239 (StepX.pure (pLss (k := .i64) (a := y240) (b := 0) rfl rfl rfl) ?_)
    refine SeqW.consX rfl (StepX.pure (pPick (t := false) (v := (Value.bool (decide (y240 < 0)))) rfl ((congrArg Value.bool hc239)) rfl) ?_)
    refine SeqW.done fun fr249 hf250 => ?_
    have h14 : fr249 14 = v14 := (congrFun hf250 14).trans h14
    have h15 : fr249 15 = v15 := (congrFun hf250 15).trans h15
    have h18 : fr249 18 = (Value.int .i64 x18) := (congrFun hf250 18).trans h18
    have h19 : fr249 19 = (Value.int .i64 x19) := (congrFun hf250 19).trans h19
    have h128 : fr249 128 = (Value.bool (decide (y240 < 0))) := (congrFun hf250 128).trans rfl
    clear hf250
    obtain rfl := Option.some.inj hr
    exact ⟨z, hz, st, rfl, h128, o14, o15, ao14_o15, trivial⟩

theorem u_r07_Recognize_11 {N : Nat}  {z0 z : Nat → Blk} {e m : Mem} {k : Option Nat} {fr : Nat → Value} {x14 : List Int} {x16 : Int} {x18 : Int} {x19 : Int} {v14 : Value} {x15 : List Int} {v15 : Value} (hz : Zx e.next z0 z) (st : St z e m k) (h14 : fr 14 = v14) (o14 : OwF (TInt 3 .i64) z e m k x14 v14) (h15 : fr 15 = v15) (o15 : OwF (TInt 3 .i64) z e m k x15 v15) (h16 : fr 16 = (Value.int .i64 x16)) (h18 : fr 18 = (Value.int .i64 x18)) (h19 : fr 19 = (Value.int .i64 x19)) (ao14_o15 : Ap (blkOf v14) (blkOf v15)) {r : Bool} (hr : r07_Recognize_11 N x14 x16 x18 x19 = some r) : W Try.prog (sub (bodyOf Try.f35) [1, 1, 1, 1, 1, 1, 1, 0, 1, 0, 0, 1, 0, 0, 1, 1, 0, 0, 1, 0, 0, 1, 1, 1, 0]) (fun ex fr' m' => ∃ z', Zx e.next z0 z' ∧ St z' e m' k ∧ ex = AExit.normal ∧ fr' 146 = (Value.bool r) ∧ OwF (TInt 3 .i64) z' e m' k x14 v14 ∧ OwF (TInt 3 .i64) z' e m' k x15 v15 ∧ Ap (blkOf v14) (blkOf v15) ∧ True) fr m := by
  unfold r07_Recognize_11 at hr
  refine W.calm (by decide) ?_
  refine SeqW.consX rfl (StepX.pure (pMove (v := v14) rfl h14) ?_)
  refine SeqW.consX rfl (StepX.pure (pMove (v := (Value.int .i64 x16)) rfl h16) ?_)
  obtain ⟨y263, hy263, hr⟩ := bind_some hr
  refine SeqW.consX rfl (kIdxO (T := (TInt 3 .i64)) (xs := x14) (n := x16) rfl Try.underlying22 Try.type3 rfl rfl rfl o14 hy263 ?_)
  intro b264 l265 c266 cs267 hv268 hd269 hg270 hc271
  have hd2690 := hd269
  obtain rfl := hd2690
  refine SeqW.consX rfl (kLoad (v := (Value.int .i64 y263)) rfl Try.underlying3 rfl rfl (hc271 0 _ rfl) ?_)
  refine SeqW.consX rfl (StepX.pure (pLss (k := .i64) (a := y263) (b := 0) rfl rfl rfl) ?_)
  refine SeqW.consX rfl (StepX.pure (pMove (v := (Value.bool (decide (y263 < 0)))) rfl rfl) ?_)
  rcases if_some hr with ⟨hc272, hr⟩ | ⟨hc275, hr⟩
  · refine SeqW.skipG rfl rfl rfl hc272 ?_
    refine SeqW.skipG rfl rfl rfl hc272 ?_
    refine SeqW.skipG rfl rfl rfl hc272 ?_
    refine SeqW.skipG rfl rfl rfl hc272 ?_
    refine SeqW.skipG rfl rfl rfl hc272 ?_
    refine SeqW.skipG rfl rfl rfl hc272 ?_
    refine SeqW.skipG rfl rfl rfl hc272 ?_
    refine SeqW.skipG rfl rfl rfl hc272 ?_
    refine SeqW.skipG rfl rfl rfl hc272 ?_
    refine SeqW.skipG rfl rfl rfl hc272 ?_
    refine SeqW.skipG rfl rfl rfl hc272 ?_
    refine SeqW.consX rfl (StepX.pure (pPick (t := true) (v := (Value.bool true)) rfl ((congrArg Value.bool hc272)) rfl) ?_)
    refine SeqW.done fun fr273 hf274 => ?_
    have h14 : fr273 14 = v14 := (congrFun hf274 14).trans h14
    have h15 : fr273 15 = v15 := (congrFun hf274 15).trans h15
    have h16 : fr273 16 = (Value.int .i64 x16) := (congrFun hf274 16).trans h16
    have h18 : fr273 18 = (Value.int .i64 x18) := (congrFun hf274 18).trans h18
    have h19 : fr273 19 = (Value.int .i64 x19) := (congrFun hf274 19).trans h19
    have h146 : fr273 146 = (Value.bool true) := (congrFun hf274 146).trans rfl
    clear hf274
    obtain rfl := Option.some.inj hr
    exact ⟨z, hz, st, rfl, h146, o14, o15, ao14_o15, trivial⟩
  · refine SeqW.consG rfl rfl rfl hc275 (StepX.pure (pMove (v := (Value.int .i64 x18)) rfl h18) ?_)
    refine SeqW.consG rfl rfl rfl hc275 (StepX.pure (pMove (v := v14) rfl h14) ?_)
    refine SeqW.consG rfl rfl rfl hc275 (StepX.pure (pMove (v := (Value.int .i64 x19)) rfl h19) ?_)
    obtain ⟨y276, hy276, hr⟩ := bind_some hr
    refine SeqW.consG rfl rfl rfl hc275 (kIdxO (T := (TInt 3 .i64)) (xs := x14) (n := x19) rfl Try.underlying22 Try.type3 rfl rfl rfl o14 hy276 ?_)
    intro b277 l278 c279 cs280 hv281 hd282 hg283 hc284
    have hd2820 := hd282
    obtain rfl := hd2820
    refine SeqW.consG rfl rfl rfl hc275 (kLoad (v := (Value.int .i64 y276)) rfl Try.underlying3 rfl rfl (hc284 0 _ rfl) ?_)
    refine SeqW.consG rfl rfl rfl hc275 (StepX.pure (pAdd (k := .i64) (a := x18) (b := y276) rfl rfl rfl) ?_)
    refine SeqW.consG rfl rfl rfl hc275 (StepX.pure (pMove (v := v14) rfl h14) ?_)
    refine SeqW.consG rfl rfl rfl hc275 (StepX.pure (pMove (v := (Value.int .i64 x16)) rfl h16) ?_)
    obtain ⟨y285, hy285, hr⟩ := bind_some hr
    refine SeqW.consG rfl rfl rfl hc275 (kIdxO (T := (TInt 3 .i64)) (xs := x14) (n := x16) rfl Try.underlying22 Try.type3 rfl rfl rfl o14 hy285 ?_)
    intro b286 l287 c288 cs289 hv290 hd291 hg292 hc293
    have hd2910 := hd291
    obtain rfl := hd2910
    refine SeqW.consG rfl rfl rfl hc275 (kLoad (v := (Value.int .i64 y285)) rfl Try.underlying3 rfl rfl (hc293 0 _ rfl) ?_)
    refine SeqW.consG rfl rfl rfl hc275 (StepX.pure (pLss (k := .i64) (a := (IntKind.wrap .i64 (x18 + y276))) (b := y285) rfl rfl rfl) ?_)
    refine SeqW.consX rfl (StepX.pure (pPick (t := false) (v := (Value.bool (decide ((IntKind.wrap .i64 (x18 + y276)) < y285)))) rfl ((congrArg Value.bool hc275)) rfl) ?_)
    refine SeqW.done fun fr294 hf295 => ?_
    have h14 : fr294 14 = v14 := (congrFun hf295 14).trans h14
    have h15 : fr294 15 = v15 := (congrFun hf295 15).trans h15
    have h16 : fr294 16 = (Value.int .i64 x16) := (congrFun hf295 16).trans h16
    have h18 : fr294 18 = (Value.int .i64 x18) := (congrFun hf295 18).trans h18
    have h19 : fr294 19 = (Value.int .i64 x19) := (congrFun hf295 19).trans h19
    have h146 : fr294 146 = (Value.bool (decide ((IntKind.wrap .i64 (x18 + y276)) < y285))) := (congrFun hf295 146).trans rfl
    clear hf295
    obtain rfl := Option.some.inj hr
    exact ⟨z, hz, st, rfl, h146, o14, o15, ao14_o15, trivial⟩

theorem u_r07_Recognize_9 {N : Nat}  {z0 z : Nat → Blk} {e m : Mem} {k : Option Nat} {fr : Nat → Value} {x0 : List Int} {x1 : List (List Int)} {x2 : Int} {x14 : List Int} {x15 : List Int} {x16 : Int} {x17 : Int} {v0 : Value} {v1 : Value} {v14 : Value} {v15 : Value} (hz : Zx e.next z0 z) (st : St z e m k) (h0 : fr 0 = v0) (s0 : SlR (TInt 3 .i64) z x0 v0) (h1 : fr 1 = v1) (s1 : SlR (TSl 22 (TInt 3 .i64)) z x1 v1) (h2 : fr 2 = (Value.int .i64 x2)) (h14 : fr 14 = v14) (o14 : OwF (TInt 3 .i64) z e m k x14 v14) (h15 : fr 15 = v15) (o15 : OwF (TInt 3 .i64) z e m k x15 v15) (h16 : fr 16 = (Value.int .i64 x16)) (h17 : fr 17 = (Value.int .i64 x17)) (ao14_o15 : Ap (blkOf v14) (blkOf v15)) {r : List Int × List Int} (hr : r07_Recognize_9 N x0 x1 x2 x14 x15 x16 x17 = some r) : W Try.prog (sub (bodyOf Try.f35) [1, 1, 1, 1, 1, 1, 1, 0, 1, 0, 0, 1, 0, 0, 1, 1, 0, 0, 1, 0]) (fun ex fr' m' => ∃ z', Zx e.next z0 z' ∧ St z' e m' k ∧ ex = AExit.normal ∧ fr' 14 = v14 ∧ OwF (TInt 3 .i64) z' e m' k r.1 v14 ∧ fr' 15 = v15 ∧ OwF (TInt 3 .i64) z' e m' k r.2 v15 ∧ Ap (blkOf v14) (blkOf v15) ∧ True) fr m := by
  unfold r07_Recognize_9 at hr
  refine W.block ?_
  refine W.seq ?_
  refine W.draw ?_
  refine DrawW.cons rfl (StepX.pure (pMove (v := v0) rfl h0) ?_)
  refine ⟨trivial, ?_⟩
  refine DrawW.cons rfl (StepX.pure (pMove (v := (Value.int .i64 x16)) rfl h16) ?_)
  refine ⟨trivial, ?_⟩
  obtain ⟨y205, hy205, hr⟩ := bind_some hr
  refine DrawW.cons rfl (kCut (T := (TInt 3 .i64)) (xs := x0) (a := x16) (b := (x0.length : Int)) rfl Try.underlying22 Try.type3 rfl rfl ⟨_, rfl⟩ rfl s0 st hy205 ?_)
  intro v206 _ hI208 s207
  refine ⟨?_, ?_⟩
  · exact demN
  refine DrawW.cons rfl (StepX.pure (pMove (v := v1) rfl h1) ?_)
  refine ⟨trivial, ?_⟩
  refine DrawW.cons rfl (StepX.pure (pMove (v := (Value.int .i64 x17)) rfl h17) ?_)
  refine ⟨trivial, ?_⟩
  obtain ⟨y210, hy210, hr⟩ := bind_some hr
  refine DrawW.cons rfl (kIdxR (T := (TSl 22 (TInt 3 .i64))) (xs := x1) (n := x17) rfl Try.underlying23 Try.type22 rfl rfl rfl s1 hy210 ?_)
  intro b211 f212 cs213 hd214 hc215
  obtain ⟨v216, rfl, s217⟩ := hd214
  refine ⟨trivial, ?_⟩
  refine DrawW.cons rfl (kLoad (v := v216) rfl Try.underlying22 rfl rfl (ldz_load st.fz (hc215 0 _ rfl)) ?_)
  refine ⟨?_, ?_⟩
  · exact demN
  refine DrawW.cons rfl (StepX.pure (pMove (v := (Value.int .i64 x2)) rfl h2) ?_)
  refine ⟨trivial, ?_⟩
  have old219 := o14
  have old220 := o15
  obtain ⟨y221, hy221, hr⟩ := bind_some hr
  refine DrawW.cons rfl (StepX.call (gCallee rfl rfl (args3 rfl rfl rfl)) ((c_r07_fit (z := z) st.fz st.dead s207 s217 hy221).mono ?_))
  rintro _ _ ⟨rfl, rfl⟩
  refine ⟨⟨?_, ?_⟩, ?_⟩
  · first | refine demP (gLoad (v := v216) rfl Try.underlying22 rfl rfl (ldz_load st.fz (hc215 0 _ rfl))) ?_ | refine demA (by decide) ?_
    first | refine demP (hI208 _ st.fz) ?_ | refine demA (by decide) ?_
    exact demN
  · exact demN
  refine DrawW.cons rfl (StepX.pure (pAssign (v := (Value.int .i64 y221)) rfl rfl) ?_)
  refine ⟨trivial, ?_⟩
  refine DrawW.done fun fr222 hf223 => ?_
  have h0 : fr222 0 = v0 := (congrFun hf223 0).trans h0
  have h1 : fr222 1 = v1 := (congrFun hf223 1).trans h1
  have h2 : fr222 2 = (Value.int .i64 x2) := (congrFun hf223 2).trans h2
  have h14 : fr222 14 = v14 := (congrFun hf223 14).trans h14
  have h15 : fr222 15 = v15 := (congrFun hf223 15).trans h15
  have h16 : fr222 16 = (Value.int .i64 x16) := (congrFun hf223 16).trans h16
  have h17 : fr222 17 = (Value.int .i64 x17) := (congrFun hf223 17).trans h17
  have h18 : fr222 18 = (Value.int .i64 y221) := (congrFun hf223 18).trans rfl
  clear hf223
  refine thenQ.n ?_
  refine W.seq ?_
  refine W.region ?_
  refine SeqW.consX rfl (StepX.pure (pMove (v := (Value.int .i64 x16)) rfl h16) ?_)
  refine SeqW.consX rfl (StepX.pure (pMove (v := v1) rfl h1) ?_)
  refine SeqW.consX rfl (StepX.pure (pMove (v := (Value.int .i64 x17)) rfl h17) ?_)
  obtain ⟨y224, hy224, hr⟩ := bind_some hr
  refine SeqW.consX rfl (kIdxR (T := (TSl 22 (TInt 3 .i64))) (xs := x1) (n := x17) rfl Try.underlying23 Try.type22 rfl rfl rfl s1 hy224 ?_)
  intro b225 f226 cs227 hd228 hc229
  obtain ⟨v230, rfl, s231⟩ := hd228
  refine SeqW.consX rfl (kLoad (v := v230) rfl Try.underlying22 rfl rfl (ldz_load st.fz (hc229 0 _ rfl)) ?_)
  refine SeqW.consX rfl (StepX.pure (pLenR (xs := y224) rfl Try.underlying22 rfl s231) ?_)
  refine SeqW.consX rfl (StepX.pure (pAdd (k := .i64) (a := x16) (b := (y224.length : Int)) rfl rfl rfl) ?_)
  refine SeqW.consX rfl (StepX.pure (pAdd (k := .i64) (a := (IntKind.wrap .i64 (x16 + (y224.length : Int)))) (b := 1) rfl rfl rfl) ?_)
  obtain ⟨y233, hy233, hr⟩ := lt_some hr
  refine SeqW.consX rfl (StepX.pure (pAssign rfl (congrArg (Value.int .i64) hy233)) ?_)
  refine SeqW.done fun fr234 hf235 => ?_
  have h0 : fr234 0 = v0 := (congrFun hf235 0).trans h0
  have h1 : fr234 1 = v1 := (congrFun hf235 1).trans h1
  have h2 : fr234 2 = (Value.int .i64 x2) := (congrFun hf235 2).trans h2
  have h14 : fr234 14 = v14 := (congrFun hf235 14).trans h14
  have h15 : fr234 15 = v15 := (congrFun hf235 15).trans h15
  have h16 : fr234 16 = (Value.int .i64 x16) := (congrFun hf235 16).trans h16
  have h17 : fr234 17 = (Value.int .i64 x17) := (congrFun hf235 17).trans h17
  have h18 : fr234 18 = (Value.int .i64 y221) := (congrFun hf235 18).trans h18
  have h19 : fr234 19 = (Value.int .i64 y233) := (congrFun hf235 19).trans rfl
  clear hf235
  refine thenQ.n ?_
  refine W.seq ?_
  refine W.seq ?_
  obtain ⟨y251, hy251, hr⟩ := bind_some hr
  refine W.keep (u_r07_Recognize_10 (Zx.refl _) st h14 o14 h15 o15 h18 h19 ao14_o15 hy251) ?_
  rintro ex257 fr252 m253 hk255 ⟨z254, hz256, st, rfl, h128, o258, o259, a260, -⟩
  replace s0 := s0.mono hz256.le
  replace s1 := s1.mono hz256.le
  have h0 := (hk255 0 rfl).trans h0
  have h1 := (hk255 1 rfl).trans h1
  have h2 := (hk255 2 rfl).trans h2
  have h14 := (hk255 14 rfl).trans h14
  have h15 := (hk255 15 rfl).trans h15
  have h16 := (hk255 16 rfl).trans h16
  have h17 := (hk255 17 rfl).trans h17
  have h18 := (hk255 18 rfl).trans h18
  have h19 := (hk255 19 rfl).trans h19
  replace hz := hz.trans hz256
  clear hk255
  refine thenQ.n ?_
  rcases if_some hr with ⟨hc261, hr⟩ | ⟨hc262, hr⟩
  · refine W.condT h128 hc261 ?_
    refine W.exit ?_
    refine thenQ.x ?_
    refine blockQ.hit ?_
    obtain rfl := Option.some.inj hr
    exact ⟨z254, hz, st, rfl, h14, o258, h15, o259, a260, trivial⟩
  · refine W.condF h128 hc262 ?_
    refine W.skip ?_
    refine thenQ.n ?_
    refine W.seq ?_
    obtain ⟨y296, hy296, hr⟩ := bind_some hr
    refine W.keep (u_r07_Recognize_11 (Zx.refl _) st h14 o258 h15 o259 h16 h18 h19 a260 hy296) ?_
    rintro ex302 fr297 m298 hk300 ⟨z299, hz301, st, rfl, h146, o303, o304, a305, -⟩
    replace s0 := s0.mono hz301.le
    replace s1 := s1.mono hz301.le
    have h0 := (hk300 0 rfl).trans h0
    have h1 := (hk300 1 rfl).trans h1
    have h2 := (hk300 2 rfl).trans h2
    have h14 := (hk300 14 rfl).trans h14
    have h15 := (hk300 15 rfl).trans h15
    have h16 := (hk300 16 rfl).trans h16
    have h17 := (hk300 17 rfl).trans h17
    have h18 := (hk300 18 rfl).trans h18
    have h19 := (hk300 19 rfl).trans h19
    replace hz := hz.trans hz301
    clear hk300
    refine thenQ.n ?_
    rcases if_some hr with ⟨hc306, hr⟩ | ⟨hc342, hr⟩
    · refine W.condT h146 hc306 ?_
      refine W.region ?_
      refine SeqW.consX rfl (StepX.pure (pMove (v := v14) rfl h14) ?_)
      refine SeqW.consX rfl (StepX.pure (pMove (v := (Value.int .i64 x16)) rfl h16) ?_)
      refine SeqW.consX rfl (StepX.pure (pMove (v := v15) rfl h15) ?_)
      refine SeqW.consX rfl (StepX.pure (pMove (v := (Value.int .i64 x16)) rfl h16) ?_)
      refine SeqW.consX rfl (StepX.pure (pMove (v := (Value.int .i64 y221)) rfl h18) ?_)
      refine SeqW.consX rfl (StepX.pure (pMove (v := v14) rfl h14) ?_)
      refine SeqW.consX rfl (StepX.pure (pMove (v := (Value.int .i64 y233)) rfl h19) ?_)
      obtain ⟨y307, hy307, hr⟩ := bind_some hr
      refine SeqW.consX rfl (kIdxO (T := (TInt 3 .i64)) (xs := x14) (n := y233) rfl Try.underlying22 Try.type3 rfl rfl rfl o303 hy307 ?_)
      intro b308 l309 c310 cs311 hv312 hd313 hg314 hc315
      have hd3130 := hd313
      obtain rfl := hd3130
      refine SeqW.consX rfl (kLoad (v := (Value.int .i64 y307)) rfl Try.underlying3 rfl rfl (hc315 0 _ rfl) ?_)
      refine SeqW.consX rfl (StepX.pure (pAdd (k := .i64) (a := y221) (b := y307) rfl rfl rfl) ?_)
      refine SeqW.consX rfl (StepX.pure (pMove (v := (Value.int .i64 x17)) rfl h17) ?_)
      obtain ⟨y316, hy316, hr⟩ := bind_some hr
      refine SeqW.consX rfl (kIdxO (T := (TInt 3 .i64)) (xs := x14) (n := x16) rfl Try.underlying22 Try.type3 rfl rfl rfl o303 hy316 ?_)
      intro b317 l318 c319 cs320 hv321 hd322 hg323 hc324
      have hd3220 := hd322
      obtain rfl := hd3220
      refine SeqW.consX rfl (kSet (T := (TInt 3 .i64)) (off := (x16 : Int).toNat * ((TInt 3 .i64)).sz) (n := (x16 : Int).toNat) (f := 0) (w := (Value.int .i64 (IntKind.wrap .i64 (y221 + y307)))) (new := [(Value.int .i64 (IntKind.wrap .i64 (y221 + y307)))]) (ecs := [(Value.int .i64 y316)]) (ecs' := [(Value.int .i64 (IntKind.wrap .i64 (y221 + y307)))]) (a := y316) (a' := (IntKind.wrap .i64 (y221 + y307))) rfl Try.type3 rfl rfl rfl rfl rfl rfl o303 hv321 hg323 hd322 hc324 rfl rfl rfl st ?_)
      intro m325 st o303 sm326
      obtain ⟨y327, hy327, hr⟩ := lt_some hr
      rw [hy327] at o303
      replace o304 := o304.same sm326 (Ap.symm a305)
      obtain ⟨y328, hy328, hr⟩ := bind_some hr
      refine SeqW.consX rfl (kIdxO (T := (TInt 3 .i64)) (xs := x15) (n := x16) rfl Try.underlying22 Try.type3 rfl rfl rfl o304 hy328 ?_)
      intro b329 l330 c331 cs332 hv333 hd334 hg335 hc336
      have hd3340 := hd334
      obtain rfl := hd3340
      refine SeqW.consX rfl (kSet (T := (TInt 3 .i64)) (off := (x16 : Int).toNat * ((TInt 3 .i64)).sz) (n := (x16 : Int).toNat) (f := 0) (w := (Value.int .i64 x17)) (new := [(Value.int .i64 x17)]) (ecs := [(Value.int .i64 y328)]) (ecs' := [(Value.int .i64 x17)]) (a := y328) (a' := x17) rfl Try.type3 rfl rfl rfl rfl rfl rfl o304 hv333 hg335 hd334 hc336 rfl rfl rfl st ?_)
      intro m337 st o304 sm338
      obtain ⟨y339, hy339, hr⟩ := lt_some hr
      rw [hy339] at o304
      replace o303 := o303.same sm338 a305
      refine SeqW.done fun fr340 hf341 => ?_
      have h0 : fr340 0 = v0 := (congrFun hf341 0).trans h0
      have h1 : fr340 1 = v1 := (congrFun hf341 1).trans h1
      have h2 : fr340 2 = (Value.int .i64 x2) := (congrFun hf341 2).trans h2
      have h14 : fr340 14 = v14 := (congrFun hf341 14).trans h14
      have h15 : fr340 15 = v15 := (congrFun hf341 15).trans h15
      have h16 : fr340 16 = (Value.int .i64 x16) := (congrFun hf341 16).trans h16
      have h17 : fr340 17 = (Value.int .i64 x17) := (congrFun hf341 17).trans h17
      clear hf341
      refine blockQ.n ?_
      obtain rfl := Option.some.inj hr
      exact ⟨z299, hz, st, rfl, h14, o303, h15, o304, a305, trivial⟩
    · refine W.condF h146 hc342 ?_
      refine W.skip ?_
      refine blockQ.n ?_
      obtain rfl := Option.some.inj hr
      exact ⟨z299, hz, st, rfl, h14, o303, h15, o304, a305, trivial⟩

theorem u_r07_Recognize_8 : ∀ (n : Nat) {N : Nat}  {z0 z : Nat → Blk} {e m : Mem} {k : Option Nat} {fr : Nat → Value} {x0 : List Int} {x1 : List (List Int)} {x2 : Int} {x14 : List Int} {x15 : List Int} {x16 : Int} {x17 : Int} {v0 : Value} {v1 : Value} {v14 : Value} {v15 : Value} (hz : Zx e.next z0 z) (st : St z e m k) (h0 : fr 0 = v0) (s0 : SlR (TInt 3 .i64) z x0 v0) (h1 : fr 1 = v1) (s1 : SlR (TSl 22 (TInt 3 .i64)) z x1 v1) (h2 : fr 2 = (Value.int .i64 x2)) (h14 : fr 14 = v14) (o14 : OwF (TInt 3 .i64) z e m k x14 v14) (h15 : fr 15 = v15) (o15 : OwF (TInt 3 .i64) z e m k x15 v15) (h16 : fr 16 = (Value.int .i64 x16)) (h17 : fr 17 = (Value.int .i64 x17)) (ao14_o15 : Ap (blkOf v14) (blkOf v15)) {r : List Int × List Int} (hr : r07_Recognize_8 N x0 x1 x2 x16 n x14 x15 x17 = some r), W Try.prog (sub (bodyOf Try.f35) [1, 1, 1, 1, 1, 1, 1, 0, 1, 0, 0, 1, 0, 0, 1, 1, 0]) (fun ex fr' m' => ∃ z', Zx e.next z0 z' ∧ St z' e m' k ∧ ex = AExit.exit 8 ∧ fr' 14 = v14 ∧ OwF (TInt 3 .i64) z' e m' k r.1 v14 ∧ fr' 15 = v15 ∧ OwF (TInt 3 .i64) z' e m' k r.2 v15 ∧ Ap (blkOf v14) (blkOf v15) ∧ True) fr m := by
  intro n
  induction n with
  | zero => intro N z0 z e m k fr x0 x1 x2 x14 x15 x16 x17 v0 v1 v14 v15 hz st h0 s0 h1 s1 h2 h14 o14 h15 o15 h16 h17 ao14_o15 r hr; cases (show (none : Option _) = some r from hr)
  | succ n ih =>
    intro N z0 z e m k fr x0 x1 x2 x14 x15 x16 x17 v0 v1 v14 v15 hz st h0 s0 h1 s1 h2 h14 o14 h15 o15 h16 h17 ao14_o15 r hr
    unfold r07_Recognize_8 at hr
    refine W.loop1 ?_
    refine W.seq ?_
    refine W.seq ?_
    refine W.region ?_
    refine SeqW.consX rfl (StepX.pure (pMove (v := (Value.int .i64 x17)) rfl h17) ?_)
    refine SeqW.consX rfl (StepX.pure (pMove (v := v1) rfl h1) ?_)
    refine SeqW.consX rfl (StepX.pure (pLenR (xs := x1) rfl Try.underlying23 rfl s1) ?_)
    refine SeqW.consX rfl (StepX.pure (pLss (k := .i64) (a := x17) (b := (x1.length : Int)) rfl rfl rfl) ?_)
    refine SeqW.done fun fr202 hf203 => ?_
    have h0 : fr202 0 = v0 := (congrFun hf203 0).trans h0
    have h1 : fr202 1 = v1 := (congrFun hf203 1).trans h1
    have h2 : fr202 2 = (Value.int .i64 x2) := (congrFun hf203 2).trans h2
    have h14 : fr202 14 = v14 := (congrFun hf203 14).trans h14
    have h15 : fr202 15 = v15 := (congrFun hf203 15).trans h15
    have h16 : fr202 16 = (Value.int .i64 x16) := (congrFun hf203 16).trans h16
    have h17 : fr202 17 = (Value.int .i64 x17) := (congrFun hf203 17).trans h17
    have h100 : fr202 100 = (Value.bool (decide (x17 < (x1.length : Int)))) := (congrFun hf203 100).trans rfl
    clear hf203
    refine thenQ.n ?_
    rcases if_some hr with ⟨hc204, hr⟩ | ⟨hc358, hr⟩
    · refine W.condT h100 hc204 ?_
      refine W.skip ?_
      refine thenQ.n ?_
      refine W.seq ?_
      obtain ⟨y343, hy343, hr⟩ := bind_some hr
      refine W.keep (u_r07_Recognize_9 (Zx.refl _) st h0 s0 h1 s1 h2 h14 o14 h15 o15 h16 h17 ao14_o15 hy343) ?_
      rintro ex349 fr344 m345 hk347 ⟨z346, hz348, st, rfl, h14, o351, h15, o353, a354, -⟩
      replace s0 := s0.mono hz348.le
      replace s1 := s1.mono hz348.le
      have h0 := (hk347 0 rfl).trans h0
      have h1 := (hk347 1 rfl).trans h1
      have h2 := (hk347 2 rfl).trans h2
      have h16 := (hk347 16 rfl).trans h16
      have h17 := (hk347 17 rfl).trans h17
      replace hz := hz.trans hz348
      clear hk347
      refine thenQ.n ?_
      refine W.region ?_
      refine SeqW.consX rfl (StepX.pure (pMove (v := (Value.int .i64 x17)) rfl h17) ?_)
      refine SeqW.consX rfl (StepX.pure (pAdd (k := .i64) (a := x17) (b := 1) rfl rfl rfl) ?_)
      obtain ⟨y355, hy355, hr⟩ := lt_some hr
      refine SeqW.consX rfl (StepX.pure (pAssign rfl (congrArg (Value.int .i64) hy355)) ?_)
      refine SeqW.done fun fr356 hf357 => ?_
      have h0 : fr356 0 = v0 := (congrFun hf357 0).trans h0
      have h1 : fr356 1 = v1 := (congrFun hf357 1).trans h1
      have h2 : fr356 2 = (Value.int .i64 x2) := (congrFun hf357 2).trans h2
      have h14 : fr356 14 = v14 := (congrFun hf357 14).trans h14
      have h15 : fr356 15 = v15 := (congrFun hf357 15).trans h15
      have h16 : fr356 16 = (Value.int .i64 x16) := (congrFun hf357 16).trans h16
      have h17 : fr356 17 = (Value.int .i64 y355) := (congrFun hf357 17).trans rfl
      clear hf357
      refine thenQ.n ?_
      exact ih hz st h0 s0 h1 s1 h2 h14 o351 h15 o353 h16 h17 a354 hr
    · refine W.condF h100 hc358 ?_
      refine W.exit ?_
      refine thenQ.x ?_
      refine thenQ.x ?_
      obtain rfl := Option.some.inj hr
      exact ⟨z, hz, st, rfl, h14, o14, h15, o15, ao14_o15, trivial⟩

theorem u_r07_Recognize_7 : ∀ (n : Nat) {N : Nat}  {z0 z : Nat → Blk} {e m : Mem} {k : Option Nat} {fr : Nat → Value} {x0 : List Int} {x1 : List (List Int)} {x2 : Int} {x14 : List Int} {x15 : List Int} {x16 : Int} {v0 : Value} {v1 : Value} {v14 : Value} {v15 : Value} (hz : Zx e.next z0 z) (st : St z e m k) (h0 : fr 0 = v0) (s0 : SlR (TInt 3 .i64) z x0 v0) (h1 : fr 1 = v1) (s1 : SlR (TSl 22 (TInt 3 .i64)) z x1 v1) (h2 : fr 2 = (Value.int .i64 x2)) (h14 : fr 14 = v14) (o14 : OwF (TInt 3 .i64) z e m k x14 v14) (h15 : fr 15 = v15) (o15 : OwF (TInt 3 .i64) z e m k x15 v15) (h16 : fr 16 = (Value.int .i64 x16)) (ao14_o15 : Ap (blkOf v14) (blkOf v15)) {r : List Int × List Int} (hr : r07_Recognize_7 N x0 x1 x2 n x14 x15 x16 = some r), W Try.prog (sub (bodyOf Try.f35) [1, 1, 1, 1, 1, 1, 1, 0, 1, 0]) (fun ex fr' m' => ∃ z', Zx e.next z0 z' ∧ St z' e m' k ∧ ex = AExit.exit 6 ∧ fr' 14 = v14 ∧ OwF (TInt 3 .i64) z' e m' k r.1 v14 ∧ fr' 15 = v15 ∧ OwF (TInt 3 .i64) z' e m' k r.2 v15 ∧ Ap (blkOf v14) (blkOf v15) ∧ True) fr m := by
  intro n
  induction n with
  | zero => intro N z0 z e m k fr x0 x1 x2 x14 x15 x16 v0 v1 v14 v15 hz st h0 s0 h1 s1 h2 h14 o14 h15 o15 h16 ao14_o15 r hr; cases (show (none : Option _) = some r from hr)
  | succ n ih =>
    intro N z0 z e m k fr x0 x1 x2 x14 x15 x16 v0 v1 v14 v15 hz st h0 s0 h1 s1 h2 h14 o14 h15 o15 h16 ao14_o15 r hr
    unfold r07_Recognize_7 at hr
    refine W.loop1 ?_
    refine W.seq ?_
    refine W.seq ?_
    refine W.region ?_
    refine SeqW.consX rfl (StepX.pure (pMove (v := (Value.int .i64 x16)) rfl h16) ?_)
    refine SeqW.consX rfl (StepX.pure (pGeq (k := .i64) (a := x16) (b := 0) rfl rfl rfl) ?_)
    refine SeqW.done fun fr183 hf184 => ?_
    have h0 : fr183 0 = v0 := (congrFun hf184 0).trans h0
    have h1 : fr183 1 = v1 := (congrFun hf184 1).trans h1
    have h2 : fr183 2 = (Value.int .i64 x2) := (congrFun hf184 2).trans h2
    have h14 : fr183 14 = v14 := (congrFun hf184 14).trans h14
    have h15 : fr183 15 = v15 := (congrFun hf184 15).trans h15
    have h16 : fr183 16 = (Value.int .i64 x16) := (congrFun hf184 16).trans h16
    have h91 : fr183 91 = (Value.bool (decide (0 ≤ x16))) := (congrFun hf184 91).trans rfl
    clear hf184
    refine thenQ.n ?_
    rcases if_some hr with ⟨hc185, hr⟩ | ⟨hc374, hr⟩
    · refine W.condT h91 hc185 ?_
      refine W.skip ?_
      refine thenQ.n ?_
      refine W.seq ?_
      refine W.block ?_
      refine W.seq ?_
      refine W.region ?_
      refine SeqW.consX rfl (StepX.pure (pMove (v := v14) rfl h14) ?_)
      refine SeqW.consX rfl (StepX.pure (pMove (v := (Value.int .i64 x16)) rfl h16) ?_)
      obtain ⟨y186, hy186, hr⟩ := bind_some hr
      refine SeqW.consX rfl (kIdxO (T := (TInt 3 .i64)) (xs := x14) (n := x16) rfl Try.underlying22 Try.type3 rfl rfl rfl o14 hy186 ?_)
      intro b187 l188 c189 cs190 hv191 hd192 hg193 hc194
      have hd1920 := hd192
      obtain rfl := hd1920
      refine SeqW.consX rfl (kSet (T := (TInt 3 .i64)) (off := (x16 : Int).toNat * ((TInt 3 .i64)).sz) (n := (x16 : Int).toNat) (f := 0) (w := (Value.int .i64 (-1))) (new := [(Value.int .i64 (-1))]) (ecs := [(Value.int .i64 y186)]) (ecs' := [(Value.int .i64 (-1))]) (a := y186) (a' := (-1)) rfl Try.type3 rfl rfl rfl rfl rfl rfl o14 hv191 hg193 hd192 hc194 rfl rfl rfl st ?_)
      intro m195 st o14 sm196
      obtain ⟨y197, hy197, hr⟩ := lt_some hr
      rw [hy197] at o14
      replace o15 := o15.same sm196 (Ap.symm ao14_o15)
      refine SeqW.done fun fr198 hf199 => ?_
      have h0 : fr198 0 = v0 := (congrFun hf199 0).trans h0
      have h1 : fr198 1 = v1 := (congrFun hf199 1).trans h1
      have h2 : fr198 2 = (Value.int .i64 x2) := (congrFun hf199 2).trans h2
      have h14 : fr198 14 = v14 := (congrFun hf199 14).trans h14
      have h15 : fr198 15 = v15 := (congrFun hf199 15).trans h15
      have h16 : fr198 16 = (Value.int .i64 x16) := (congrFun hf199 16).trans h16
      clear hf199
      refine thenQ.n ?_
      refine W.seq ?_
      refine W.region ?_
      refine SeqW.consX rfl (StepX.pure (pAssign (v := (Value.int .i64 0)) rfl rfl) ?_)
      refine SeqW.done fun fr200 hf201 => ?_
      have h0 : fr200 0 = v0 := (congrFun hf201 0).trans h0
      have h1 : fr200 1 = v1 := (congrFun hf201 1).trans h1
      have h2 : fr200 2 = (Value.int .i64 x2) := (congrFun hf201 2).trans h2
      have h14 : fr200 14 = v14 := (congrFun hf201 14).trans h14
      have h15 : fr200 15 = v15 := (congrFun hf201 15).trans h15
      have h16 : fr200 16 = (Value.int .i64 x16) := (congrFun hf201 16).trans h16
      have h17 : fr200 17 = (Value.int .i64 0) := (congrFun hf201 17).trans rfl
      clear hf201
      refine thenQ.n ?_
      refine W.block ?_
      obtain ⟨y359, hy359, hr⟩ := bind_some hr
      refine W.keep (u_r07_Recognize_8 _ (Zx.refl _) st h0 s0 h1 s1 h2 h14 o14 h15 o15 h16 h17 ao14_o15 hy359) ?_
      rintro ex365 fr360 m361 hk363 ⟨z362, hz364, st, rfl, h14, o367, h15, o369, a370, -⟩
      replace s0 := s0.mono hz364.le
      replace s1 := s1.mono hz364.le
      have h0 := (hk363 0 rfl).trans h0
      have h1 := (hk363 1 rfl).trans h1
      have h2 := (hk363 2 rfl).trans h2
      have h16 := (hk363 16 rfl).trans h16
      replace hz := hz.trans hz364
      clear hk363
      refine blockQ.hit ?_
      refine blockQ.n ?_
      refine thenQ.n ?_
      refine W.region ?_
      refine SeqW.consX rfl (StepX.pure (pMove (v := (Value.int .i64 x16)) rfl h16) ?_)
      refine SeqW.consX rfl (StepX.pure (pSub (k := .i64) (a := x16) (b := 1) rfl rfl rfl) ?_)
      obtain ⟨y371, hy371, hr⟩ := lt_some hr
      refine SeqW.consX rfl (StepX.pure (pAssign rfl (congrArg (Value.int .i64) hy371)) ?_)
      refine SeqW.done fun fr372 hf373 => ?_
      have h0 : fr372 0 = v0 := (congrFun hf373 0).trans h0
      have h1 : fr372 1 = v1 := (congrFun hf373 1).trans h1
      have h2 : fr372 2 = (Value.int .i64 x2) := (congrFun hf373 2).trans h2
      have h14 : fr372 14 = v14 := (congrFun hf373 14).trans h14
      have h15 : fr372 15 = v15 := (congrFun hf373 15).trans h15
      have h16 : fr372 16 = (Value.int .i64 y371) := (congrFun hf373 16).trans rfl
      clear hf373
      refine thenQ.n ?_
      exact ih hz st h0 s0 h1 s1 h2 h14 o367 h15 o369 h16 a370 hr
    · refine W.condF h91 hc374 ?_
      refine W.exit ?_
      refine thenQ.x ?_
      refine thenQ.x ?_
      obtain rfl := Option.some.inj hr
      exact ⟨z, hz, st, rfl, h14, o14, h15, o15, ao14_o15, trivial⟩

theorem u_r07_Recognize_12 : ∀ (n : Nat) {N : Nat}  {z0 z : Nat → Blk} {e m : Mem} {k : Option Nat} {fr : Nat → Value} {x1 : List (List Int)} {x13 : Int} {x15 : List Int} {x20 : List Int} {x21 : Int} {v1 : Value} {x14 : List Int} {v14 : Value} {v15 : Value} {v20 : Value} (hz : Zx e.next z0 z) (st : St z e m k) (h1 : fr 1 = v1) (s1 : SlR (TSl 22 (TInt 3 .i64)) z x1 v1) (h13 : fr 13 = (Value.int .i64 x13)) (h14 : fr 14 = v14) (o14 : OwF (TInt 3 .i64) z e m k x14 v14) (h15 : fr 15 = v15) (o15 : OwF (TInt 3 .i64) z e m k x15 v15) (h20 : fr 20 = v20) (o20 : OwF (TInt 3 .i64) z e m k x20 v20) (h21 : fr 21 = (Value.int .i64 x21)) (ao14_o15 : Ap (blkOf v14) (blkOf v15)) (ao14_o20 : Ap (blkOf v14) (blkOf v20)) (ao15_o20 : Ap (blkOf v15) (blkOf v20)) {r : List Int} (hr : r07_Recognize_12 N x1 x13 x15 n x20 x21 = some r), W Try.prog (sub (bodyOf Try.f35) [1, 1, 1, 1, 1, 1, 1, 1, 1, 1, 0, 1, 0]) (fun ex fr' m' => ∃ z', Zx e.next z0 z' ∧ St z' e m' k ∧ ex = AExit.exit 10 ∧ ∃ (w20 : Value), fr' 20 = w20 ∧ OwF (TInt 3 .i64) z' e m' k r w20 ∧ OwF (TInt 3 .i64) z' e m' k x14 v14 ∧ Ap (blkOf w20) (blkOf v14) ∧ True) fr m := by
  intro n
  induction n with
  | zero => intro N z0 z e m k fr x1 x13 x15 x20 x21 v1 x14 v14 v15 v20 hz st h1 s1 h13 h14 o14 h15 o15 h20 o20 h21 ao14_o15 ao14_o20 ao15_o20 r hr; cases (show (none : Option _) = some r from hr)
  | succ n ih =>
    intro N z0 z e m k fr x1 x13 x15 x20 x21 v1 x14 v14 v15 v20 hz st h1 s1 h13 h14 o14 h15 o15 h20 o20 h21 ao14_o15 ao14_o20 ao15_o20 r hr
    unfold r07_Recognize_12 at hr
    refine W.loop1 ?_
    refine W.seq ?_
    refine W.seq ?_
    refine W.region ?_
    refine SeqW.consX rfl (StepX.pure (pMove (v := (Value.int .i64 x21)) rfl h21) ?_)
    refine SeqW.consX rfl (StepX.pure (pMove (v := (Value.int .i64 x13)) rfl h13) ?_)
    refine SeqW.consX rfl (StepX.pure (pLss (k := .i64) (a := x21) (b := x13) rfl rfl rfl) ?_)
    refine SeqW.done fun fr406 hf407 => ?_
    have h1 : fr406 1 = v1 := (congrFun hf407 1).trans h1
    have h13 : fr406 13 = (Value.int .i64 x13) := (congrFun hf407 13).trans h13
    have h14 : fr406 14 = v14 := (congrFun hf407 14).trans h14
    have h15 : fr406 15 = v15 := (congrFun hf407 15).trans h15
    have h20 : fr406 20 = v20 := (congrFun hf407 20).trans h20
    have h21 : fr406 21 = (Value.int .i64 x21) := (congrFun hf407 21).trans h21
    have h166 : fr406 166 = (Value.bool (decide (x21 < x13))) := (congrFun hf407 166).trans rfl
    clear hf407
    refine thenQ.n ?_
    rcases if_some hr with ⟨hc408, hr⟩ | ⟨hc460, hr⟩
    · refine W.condT h166 hc408 ?_
      refine W.skip ?_
      refine thenQ.n ?_
      refine W.seq ?_
      refine W.block ?_
      refine W.region ?_
      refine SeqW.consX rfl (StepX.pure (pMove (v := v20) rfl h20) ?_)
      refine SeqW.consX rfl (StepX.pure (pMove (v := v15) rfl h15) ?_)
      refine SeqW.consX rfl (StepX.pure (pMove (v := (Value.int .i64 x21)) rfl h21) ?_)
      obtain ⟨y409, hy409, hr⟩ := bind_some hr
      refine SeqW.consX rfl (kIdxO (T := (TInt 3 .i64)) (xs := x15) (n := x21) rfl Try.underlying22 Try.type3 rfl rfl rfl o15 hy409 ?_)
      intro b410 l411 c412 cs413 hv414 hd415 hg416 hc417
      have hd4150 := hd415
      obtain rfl := hd4150
      refine SeqW.consX rfl (kLoad (v := (Value.int .i64 y409)) rfl Try.underlying3 rfl rfl (hc417 0 _ rfl) ?_)
      refine SeqW.consX rfl (kBuild (T := (TInt 3 .i64)) rfl Try.underlying22 Try.type3 rfl rfl rfl rfl ([y409] : List Int) [[(Value.int .i64 y409)]] rfl rfl rfl (BuildOk.mk (w := (Value.int .i64 y409)) rfl rfl rfl rfl trivial) st ?_)
      intro v418 m419 st o420 sm421 hap422
      have a424 := hap422 _ o14.lt
      have a425 := hap422 _ o15.lt
      have a426 := hap422 _ o20.lt
      replace o14 := o14.same sm421 Ap.none'
      replace o15 := o15.same sm421 Ap.none'
      replace o20 := o20.same sm421 Ap.none'
      obtain ⟨y427, hy427, hr⟩ := bind_some hr
      refine SeqW.consX rfl (kAppend (T := (TInt 3 .i64)) (xs := x20) (ys := ([y409] : List Int)) rfl Try.underlying22 Try.type3 rfl rfl rfl rfl rfl rfl (.inl ⟨_, Try.underlying22⟩) rfl o20 rfl o420.ow.src st hy427 ?_)
      intro v428 m429 st o430 sm431 hap432
      have a434 := hap432 _ o14.lt ao14_o20
      have a435 := hap432 _ o15.lt ao15_o20
      have a436 := hap432 _ o420.lt (Ap.symm a426)
      replace o14 := o14.same sm431 ao14_o20
      replace o15 := o15.same sm431 ao15_o20
      replace o420 := o420.same sm431 (Ap.symm a426)
      refine SeqW.consX rfl (StepX.pure (pAssign (v := v428) rfl rfl) ?_)
      refine SeqW.done fun fr437 hf438 => ?_
      have h1 : fr437 1 = v1 := (congrFun hf438 1).trans h1
      have h13 : fr437 13 = (Value.int .i64 x13) := (congrFun hf438 13).trans h13
      have h14 : fr437 14 = v14 := (congrFun hf438 14).trans h14
      have h15 : fr437 15 = v15 := (congrFun hf438 15).trans h15
      have h20 : fr437 20 = v428 := (congrFun hf438 20).trans rfl
      have h21 : fr437 21 = (Value.int .i64 x21) := (congrFun hf438 21).trans h21
      clear hf438
      refine blockQ.n ?_
      refine thenQ.n ?_
      refine W.region ?_
      refine SeqW.consX rfl (StepX.pure (pMove (v := (Value.int .i64 x21)) rfl h21) ?_)
      refine SeqW.consX rfl (StepX.pure (pMove (v := v1) rfl h1) ?_)
      refine SeqW.consX rfl (StepX.pure (pMove (v := v15) rfl h15) ?_)
      refine SeqW.consX rfl (StepX.pure (pMove (v := (Value.int .i64 x21)) rfl h21) ?_)
      obtain ⟨y439, hy439, hr⟩ := bind_some hr
      refine SeqW.consX rfl (kIdxO (T := (TInt 3 .i64)) (xs := x15) (n := x21) rfl Try.underlying22 Try.type3 rfl rfl rfl o15 hy439 ?_)
      intro b440 l441 c442 cs443 hv444 hd445 hg446 hc447
      have hd4450 := hd445
      obtain rfl := hd4450
      refine SeqW.consX rfl (kLoad (v := (Value.int .i64 y439)) rfl Try.underlying3 rfl rfl (hc447 0 _ rfl) ?_)
      obtain ⟨y448, hy448, hr⟩ := bind_some hr
      refine SeqW.consX rfl (kIdxR (T := (TSl 22 (TInt 3 .i64))) (xs := x1) (n := y439) rfl Try.underlying23 Try.type22 rfl rfl rfl s1 hy448 ?_)
      intro b449 f450 cs451 hd452 hc453
      obtain ⟨v454, rfl, s455⟩ := hd452
      refine SeqW.consX rfl (kLoad (v := v454) rfl Try.underlying22 rfl rfl (ldz_load st.fz (hc453 0 _ rfl)) ?_)
      refine SeqW.consX rfl (StepX.pure (pLenR (xs := y448) rfl Try.underlying22 rfl s455) ?_)
      refine SeqW.consX rfl (StepX.pure (pAdd (k := .i64) (a := (y448.length : Int)) (b := 1) rfl rfl rfl) ?_)
      refine SeqW.consX rfl (StepX.pure (pAdd (k := .i64) (a := x21) (b := (IntKind.wrap .i64 ((y448.length : Int) + 1))) rfl rfl rfl) ?_)
      obtain ⟨y457, hy457, hr⟩ := lt_some hr
      refine SeqW.consX rfl (StepX.pure (pAssign rfl (congrArg (Value.int .i64) hy457)) ?_)
      refine SeqW.done fun fr458 hf459 => ?_
      have h1 : fr458 1 = v1 := (congrFun hf459 1).trans h1
      have h13 : fr458 13 = (Value.int .i64 x13) := (congrFun hf459 13).trans h13
      have h14 : fr458 14 = v14 := (congrFun hf459 14).trans h14
      have h15 : fr458 15 = v15 := (congrFun hf459 15).trans h15
      have h20 : fr458 20 = v428 := (congrFun hf459 20).trans h20
      have h21 : fr458 21 = (Value.int .i64 y457) := (congrFun hf459 21).trans rfl
      clear hf459
      refine thenQ.n ?_
      exact ih hz st h1 s1 h13 h14 o14 h15 o15 h20 o430 h21 ao14_o15 a434 a435 hr
    · refine W.condF h166 hc460 ?_
      refine W.exit ?_
      refine thenQ.x ?_
      refine thenQ.x ?_
      obtain rfl := Option.some.inj hr
      exact ⟨z, hz, st, rfl, v20, h20, o20, o14, (Ap.symm ao14_o20), trivial⟩

theorem u_r07_Recognize {N : Nat}  {z0 z : Nat → Blk} {e m : Mem} {k : Option Nat} {fr : Nat → Value} {x0 : List Int} {x1 : List (List Int)} {x2 : Int} {v0 : Value} {v1 : Value} (hz : Zx e.next z0 z) (st : St z e m k) (h0 : fr 0 = v0) (s0 : SlR (TInt 3 .i64) z x0 v0) (h1 : fr 1 = v1) (s1 : SlR (TSl 22 (TInt 3 .i64)) z x1 v1) (h2 : fr 2 = (Value.int .i64 x2)) {r : List Int × Int × Int} (hr : r07_Recognize N x0 x1 x2 = some r) : W Try.prog (sub (bodyOf Try.f35) []) (fun ex fr' m' => ∃ z', Zx e.next z0 z' ∧ St z' e m' k ∧ (ex = .normal ∨ ex = .ret) ∧ ∃ (w6 : Value), fr' 6 = w6 ∧ SlR (TInt 3 .i64) z' r.1 w6 ∧ fr' 7 = (Value.int .i64 r.2.1) ∧ fr' 8 = (Value.int .i64 r.2.2) ∧ True) fr m := by
  unfold r07_Recognize at hr
  refine W.seq ?_
  refine W.region ?_
  refine SeqW.consX rfl (StepX.pure (pAssign (v := (Value.slice none 0 0)) rfl rfl) ?_)
  refine SeqW.consX rfl (StepX.pure (pAssign (v := (Value.int .i64 0)) rfl rfl) ?_)
  refine SeqW.consX rfl (StepX.pure (pAssign (v := (Value.int .i64 0)) rfl rfl) ?_)
  refine SeqW.done fun fr1 hf2 => ?_
  have h0 : fr1 0 = v0 := (congrFun hf2 0).trans h0
  have h1 : fr1 1 = v1 := (congrFun hf2 1).trans h1
  have h2 : fr1 2 = (Value.int .i64 x2) := (congrFun hf2 2).trans h2
  clear hf2
  refine thenQ.n ?_
  refine W.seq ?_
  refine W.seq ?_
  obtain ⟨y9, hy9, hr⟩ := bind_some hr
  refine W.keep (u_r07_Recognize_0 (Zx.refl _) st h0 s0 h1 s1 hy9) ?_
  rintro ex15 fr10 m11 hk13 ⟨z12, hz14, st, rfl, h29, -⟩
  replace s0 := s0.mono hz14.le
  replace s1 := s1.mono hz14.le
  have h0 := (hk13 0 rfl).trans h0
  have h1 := (hk13 1 rfl).trans h1
  have h2 := (hk13 2 rfl).trans h2
  replace hz := hz.trans hz14
  clear hk13
  refine thenQ.n ?_
  rcases if_some hr with ⟨hc16, hr⟩ | ⟨hc19, hr⟩
  · refine W.condT h29 hc16 ?_
    refine W.seq ?_
    refine W.region ?_
    refine SeqW.consX rfl (StepX.pure (pAssign (v := (Value.slice none 0 0)) rfl rfl) ?_)
    refine SeqW.consX rfl (StepX.pure (pAssign (v := (Value.int .i64 0)) rfl rfl) ?_)
    refine SeqW.consX rfl (StepX.pure (pAssign (v := (Value.int .i64 3)) rfl rfl) ?_)
    refine SeqW.done fun fr17 hf18 => ?_
    have h6 : fr17 6 = (Value.slice none 0 0) := (congrFun hf18 6).trans rfl
    have h7 : fr17 7 = (Value.int .i64 0) := (congrFun hf18 7).trans rfl
    have h8 : fr17 8 = (Value.int .i64 3) := (congrFun hf18 8).trans rfl
    clear hf18
    refine thenQ.n ?_
    refine W.ret ?_
    refine thenQ.r ?_
    obtain rfl := Option.some.inj hr
    exact ⟨z12, hz, st, .inr rfl, (Value.slice none 0 0), h6, SlR.nil, h7, h8, trivial⟩
  · refine W.condF h29 hc19 ?_
    refine W.skip ?_
    refine thenQ.n ?_
    refine W.seq ?_
    refine W.seq ?_
    refine W.region ?_
    refine SeqW.consX rfl (StepX.pure (pAssign (v := (Value.int .i64 0)) rfl rfl) ?_)
    refine SeqW.done fun fr20 hf21 => ?_
    have h0 : fr20 0 = v0 := (congrFun hf21 0).trans h0
    have h1 : fr20 1 = v1 := (congrFun hf21 1).trans h1
    have h2 : fr20 2 = (Value.int .i64 x2) := (congrFun hf21 2).trans h2
    have h9 : fr20 9 = (Value.int .i64 0) := (congrFun hf21 9).trans rfl
    clear hf21
    refine thenQ.n ?_
    refine W.block ?_
    obtain ⟨y44, hy44, hr⟩ := bind_some hr
    refine W.keep (u_r07_Recognize_1 _ (Zx.refl _) st h1 s1 h9 hy44) ?_
    rintro ex50 fr45 m46 hk48 ⟨z47, hz49, st, ⟨y51, rfl, rfl, -⟩ | ⟨y489, rfl, rfl, h6, h7, h8, -⟩⟩
    · dsimp only at hr
      replace s0 := s0.mono hz49.le
      replace s1 := s1.mono hz49.le
      have h0 := (hk48 0 rfl).trans h0
      have h1 := (hk48 1 rfl).trans h1
      have h2 := (hk48 2 rfl).trans h2
      replace hz := hz.trans hz49
      clear hk48
      refine blockQ.hit ?_
      refine thenQ.n ?_
      refine W.seq ?_
      refine W.seq ?_
      obtain ⟨y58, hy58, hr⟩ := bind_some hr
      refine W.keep (u_r07_Recognize_2 (Zx.refl _) st h2 hy58) ?_
      rintro ex64 fr59 m60 hk62 ⟨z61, hz63, st, rfl, h47, -⟩
      replace s0 := s0.mono hz63.le
      replace s1 := s1.mono hz63.le
      have h0 := (hk62 0 rfl).trans h0
      have h1 := (hk62 1 rfl).trans h1
      have h2 := (hk62 2 rfl).trans h2
      replace hz := hz.trans hz63
      clear hk62
      refine thenQ.n ?_
      rcases if_some hr with ⟨hc65, hr⟩ | ⟨hc68, hr⟩
      · refine W.condT h47 hc65 ?_
        refine W.seq ?_
        refine W.region ?_
        refine SeqW.consX rfl (StepX.pure (pAssign (v := (Value.slice none 0 0)) rfl rfl) ?_)
        refine SeqW.consX rfl (StepX.pure (pAssign (v := (Value.int .i64 0)) rfl rfl) ?_)
        refine SeqW.consX rfl (StepX.pure (pAssign (v := (Value.int .i64 2)) rfl rfl) ?_)
        refine SeqW.done fun fr66 hf67 => ?_
        have h6 : fr66 6 = (Value.slice none 0 0) := (congrFun hf67 6).trans rfl
        have h7 : fr66 7 = (Value.int .i64 0) := (congrFun hf67 7).trans rfl
        have h8 : fr66 8 = (Value.int .i64 2) := (congrFun hf67 8).trans rfl
        clear hf67
        refine thenQ.n ?_
        refine W.ret ?_
        refine thenQ.r ?_
        obtain rfl := Option.some.inj hr
        exact ⟨z61, hz, st, .inr rfl, (Value.slice none 0 0), h6, SlR.nil, h7, h8, trivial⟩
      · refine W.condF h47 hc68 ?_
        refine W.skip ?_
        refine thenQ.n ?_
        refine W.seq ?_
        refine W.seq ?_
        refine W.region ?_
        refine SeqW.consX rfl (StepX.pure (pAssign (v := (Value.int .i64 (-1))) rfl rfl) ?_)
        refine SeqW.done fun fr69 hf70 => ?_
        have h0 : fr69 0 = v0 := (congrFun hf70 0).trans h0
        have h1 : fr69 1 = v1 := (congrFun hf70 1).trans h1
        have h2 : fr69 2 = (Value.int .i64 x2) := (congrFun hf70 2).trans h2
        have h10 : fr69 10 = (Value.int .i64 (-1)) := (congrFun hf70 10).trans rfl
        clear hf70
        refine thenQ.n ?_
        refine W.block ?_
        obtain ⟨y152, hy152, hr⟩ := bind_some hr
        refine W.keep (u_r07_Recognize_3 _ (Zx.refl _) st h0 s0 h1 s1 h10 hy152) ?_
        rintro ex158 fr153 m154 hk156 ⟨z155, hz157, st, ⟨y159, rfl, rfl, -⟩ | ⟨y488, rfl, rfl, h6, h7, h8, -⟩⟩
        · dsimp only at hr
          replace s0 := s0.mono hz157.le
          replace s1 := s1.mono hz157.le
          have h0 := (hk156 0 rfl).trans h0
          have h1 := (hk156 1 rfl).trans h1
          have h2 := (hk156 2 rfl).trans h2
          replace hz := hz.trans hz157
          clear hk156
          refine blockQ.hit ?_
          refine thenQ.n ?_
          refine W.seq ?_
          refine W.region ?_
          refine SeqW.consX rfl (StepX.pure (pMove (v := v0) rfl h0) ?_)
          refine SeqW.consX rfl (StepX.pure (pLenR (xs := x0) rfl Try.underlying22 rfl s0) ?_)
          refine SeqW.consX rfl (StepX.pure (pAdd (k := .i64) (a := (x0.length : Int)) (b := 1) rfl rfl rfl) ?_)
          obtain ⟨y160, hy160, hr⟩ := lt_some hr
          refine SeqW.consX rfl (StepX.pure (pAssign rfl (congrArg (Value.int .i64) hy160)) ?_)
          refine SeqW.done fun fr161 hf162 => ?_
          have h0 : fr161 0 = v0 := (congrFun hf162 0).trans h0
          have h1 : fr161 1 = v1 := (congrFun hf162 1).trans h1
          have h2 : fr161 2 = (Value.int .i64 x2) := (congrFun hf162 2).trans h2
          have h13 : fr161 13 = (Value.int .i64 y160) := (congrFun hf162 13).trans rfl
          clear hf162
          refine thenQ.n ?_
          refine W.seq ?_
          refine W.calm (by decide) ?_
          refine SeqW.consX rfl (StepX.pure (pMove (v := (Value.int .i64 y160)) rfl h13) ?_)
          refine SeqW.consX rfl (StepX.pure (pAdd (k := .i64) (a := y160) (b := 1) rfl rfl rfl) ?_)
          obtain ⟨y163, hy163, hr⟩ := bind_some hr
          refine SeqW.consX rfl (kMake (T := (TInt 3 .i64)) (x0 := 0) (n := (IntKind.wrap .i64 (y160 + 1))) rfl Try.underlying22 Try.type3 rfl rfl rfl rfl rfl rfl rfl rfl st hy163 ?_)
          intro v164 m165 st o166 sm167 hap168
          refine SeqW.consX rfl (StepX.pure (pMove (v := (Value.int .i64 y160)) rfl h13) ?_)
          refine SeqW.consX rfl (StepX.pure (pAdd (k := .i64) (a := y160) (b := 1) rfl rfl rfl) ?_)
          obtain ⟨y170, hy170, hr⟩ := bind_some hr
          refine SeqW.consX rfl (kMake (T := (TInt 3 .i64)) (x0 := 0) (n := (IntKind.wrap .i64 (y160 + 1))) rfl Try.underlying22 Try.type3 rfl rfl rfl rfl rfl rfl rfl rfl st hy170 ?_)
          intro v171 m172 st o173 sm174 hap175
          have a177 := hap175 _ o166.lt
          replace o166 := o166.same sm174 Ap.none'
          refine SeqW.consX rfl (StepX.pure (pAssign (v := v164) rfl rfl) ?_)
          refine SeqW.consX rfl (StepX.pure (pAssign (v := v171) rfl rfl) ?_)
          refine SeqW.done fun fr178 hf179 => ?_
          have h0 : fr178 0 = v0 := (congrFun hf179 0).trans h0
          have h1 : fr178 1 = v1 := (congrFun hf179 1).trans h1
          have h2 : fr178 2 = (Value.int .i64 x2) := (congrFun hf179 2).trans h2
          have h13 : fr178 13 = (Value.int .i64 y160) := (congrFun hf179 13).trans h13
          have h14 : fr178 14 = v164 := (congrFun hf179 14).trans rfl
          have h15 : fr178 15 = v171 := (congrFun hf179 15).trans rfl
          clear hf179
          refine thenQ.n ?_
          refine W.seq ?_
          refine W.seq ?_
          refine W.region ?_
          refine SeqW.consX rfl (StepX.pure (pMove (v := (Value.int .i64 y160)) rfl h13) ?_)
          refine SeqW.consX rfl (StepX.pure (pSub (k := .i64) (a := y160) (b := 1) rfl rfl rfl) ?_)
          obtain ⟨y180, hy180, hr⟩ := lt_some hr
          refine SeqW.consX rfl (StepX.pure (pAssign rfl (congrArg (Value.int .i64) hy180)) ?_)
          refine SeqW.done fun fr181 hf182 => ?_
          have h0 : fr181 0 = v0 := (congrFun hf182 0).trans h0
          have h1 : fr181 1 = v1 := (congrFun hf182 1).trans h1
          have h2 : fr181 2 = (Value.int .i64 x2) := (congrFun hf182 2).trans h2
          have h13 : fr181 13 = (Value.int .i64 y160) := (congrFun hf182 13).trans h13
          have h14 : fr181 14 = v164 := (congrFun hf182 14).trans h14
          have h15 : fr181 15 = v171 := (congrFun hf182 15).trans h15
          have h16 : fr181 16 = (Value.int .i64 y180) := (congrFun hf182 16).trans rfl
          clear hf182
          refine thenQ.n ?_
          refine W.block ?_
          obtain ⟨y375, hy375, hr⟩ := bind_some hr
          refine W.keep (u_r07_Recognize_7 _ (Zx.refl _) st h0 s0 h1 s1 h2 h14 o166 h15 o173 h16 a177 hy375) ?_
          rintro ex381 fr376 m377 hk379 ⟨z378, hz380, st, rfl, h14, o383, h15, o385, a386, -⟩
          replace s1 := s1.mono hz380.le
          have h1 := (hk379 1 rfl).trans h1
          have h13 := (hk379 13 rfl).trans h13
          replace hz := hz.trans hz380
          clear hk379
          refine blockQ.hit ?_
          refine thenQ.n ?_
          refine W.seq ?_
          refine W.seq ?_
          refine W.region ?_
          refine SeqW.consX rfl (StepX.pure (pMove (v := v164) rfl h14) ?_)
          obtain ⟨y387, hy387, hr⟩ := bind_some hr
          refine SeqW.consX rfl (kIdxO (T := (TInt 3 .i64)) (xs := y375.1) (n := 0) rfl Try.underlying22 Try.type3 rfl rfl rfl o383 hy387 ?_)
          intro b388 l389 c390 cs391 hv392 hd393 hg394 hc395
          have hd3930 := hd393
          obtain rfl := hd3930
          refine SeqW.consX rfl (kLoad (v := (Value.int .i64 y387)) rfl Try.underlying3 rfl rfl (hc395 0 _ rfl) ?_)
          refine SeqW.consX rfl (StepX.pure (pLss (k := .i64) (a := y387) (b := 0) rfl rfl rfl) ?_)
          refine SeqW.done fun fr396 hf397 => ?_
          have h1 : fr396 1 = v1 := (congrFun hf397 1).trans h1
          have h13 : fr396 13 = (Value.int .i64 y160) := (congrFun hf397 13).trans h13
          have h14 : fr396 14 = v164 := (congrFun hf397 14).trans h14
          have h15 : fr396 15 = v171 := (congrFun hf397 15).trans h15
          have h163 : fr396 163 = (Value.bool (decide (y387 < 0))) := (congrFun hf397 163).trans rfl
          clear hf397
          refine thenQ.n ?_
          rcases if_some hr with ⟨hc398, hr⟩ | ⟨hc401, hr⟩
          · refine W.condT h163 hc398 ?_
            refine W.seq ?_
            refine W.region ?_
            refine SeqW.consX rfl (StepX.pure (pAssign (v := (Value.slice none 0 0)) rfl rfl) ?_)
            refine SeqW.consX rfl (StepX.pure (pAssign (v := (Value.int .i64 0)) rfl rfl) ?_)
            refine SeqW.consX rfl (StepX.pure (pAssign (v := (Value.int .i64 15)) rfl rfl) ?_)
            refine SeqW.done fun fr399 hf400 => ?_
            have h6 : fr399 6 = (Value.slice none 0 0) := (congrFun hf400 6).trans rfl
            have h7 : fr399 7 = (Value.int .i64 0) := (congrFun hf400 7).trans rfl
            have h8 : fr399 8 = (Value.int .i64 15) := (congrFun hf400 8).trans rfl
            clear hf400
            refine thenQ.n ?_
            refine W.ret ?_
            refine thenQ.r ?_
            obtain rfl := Option.some.inj hr
            exact ⟨z378, hz, st, .inr rfl, (Value.slice none 0 0), h6, SlR.nil, h7, h8, trivial⟩
          · refine W.condF h163 hc401 ?_
            refine W.skip ?_
            refine thenQ.n ?_
            refine W.seq ?_
            refine W.region ?_
            refine SeqW.consX rfl (StepX.pure (pAssign (v := (Value.slice none 0 0)) rfl rfl) ?_)
            refine SeqW.done fun fr402 hf403 => ?_
            have h1 : fr402 1 = v1 := (congrFun hf403 1).trans h1
            have h13 : fr402 13 = (Value.int .i64 y160) := (congrFun hf403 13).trans h13
            have h14 : fr402 14 = v164 := (congrFun hf403 14).trans h14
            have h15 : fr402 15 = v171 := (congrFun hf403 15).trans h15
            have h20 : fr402 20 = (Value.slice none 0 0) := (congrFun hf403 20).trans rfl
            clear hf403
            refine thenQ.n ?_
            refine W.seq ?_
            refine W.seq ?_
            refine W.region ?_
            refine SeqW.consX rfl (StepX.pure (pAssign (v := (Value.int .i64 0)) rfl rfl) ?_)
            refine SeqW.done fun fr404 hf405 => ?_
            have h1 : fr404 1 = v1 := (congrFun hf405 1).trans h1
            have h13 : fr404 13 = (Value.int .i64 y160) := (congrFun hf405 13).trans h13
            have h14 : fr404 14 = v164 := (congrFun hf405 14).trans h14
            have h15 : fr404 15 = v171 := (congrFun hf405 15).trans h15
            have h20 : fr404 20 = (Value.slice none 0 0) := (congrFun hf405 20).trans h20
            have h21 : fr404 21 = (Value.int .i64 0) := (congrFun hf405 21).trans rfl
            clear hf405
            refine thenQ.n ?_
            refine W.block ?_
            obtain ⟨y461, hy461, hr⟩ := bind_some hr
            refine W.keep (u_r07_Recognize_12 _ (Zx.refl _) st h1 s1 h13 h14 o383 h15 o385 h20 OwF.nil h21 a386 Ap.none' Ap.none' hy461) ?_
            rintro ex467 fr462 m463 hk465 ⟨z464, hz466, st, rfl, w468, h20, o470, o471, a472, -⟩
            have h14 := (hk465 14 rfl).trans h14
            replace hz := hz.trans hz466
            clear hk465
            refine blockQ.hit ?_
            refine thenQ.n ?_
            refine W.seq ?_
            refine W.calm (by decide) ?_
            refine SeqW.consX rfl (StepX.pure (pMove (v := w468) rfl h20) ?_)
            refine SeqW.consX rfl (StepX.pure (pMove (v := v164) rfl h14) ?_)
            obtain ⟨y473, hy473, hr⟩ := bind_some hr
            refine SeqW.consX rfl (kIdxO (T := (TInt 3 .i64)) (xs := y375.1) (n := 0) rfl Try.underlying22 Try.type3 rfl rfl rfl o471 hy473 ?_)
            intro b474 l475 c476 cs477 hv478 hd479 hg480 hc481
            have hd4790 := hd479
            obtain rfl := hd4790
            refine SeqW.consX rfl (kLoad (v := (Value.int .i64 y473)) rfl Try.underlying3 rfl rfl (hc481 0 _ rfl) ?_)
            refine SeqW.consX rfl (StepX.pure (pAssign (v := w468) rfl rfl) ?_)
            refine SeqW.consX rfl (StepX.pure (pAssign (v := (Value.int .i64 y473)) rfl rfl) ?_)
            refine SeqW.consX rfl (StepX.pure (pAssign (v := (Value.int .i64 0)) rfl rfl) ?_)
            refine SeqW.done fun fr482 hf483 => ?_
            have h6 : fr482 6 = w468 := (congrFun hf483 6).trans rfl
            have h7 : fr482 7 = (Value.int .i64 y473) := (congrFun hf483 7).trans rfl
            have h8 : fr482 8 = (Value.int .i64 0) := (congrFun hf483 8).trans rfl
            clear hf483
            refine thenQ.n ?_
            refine W.ret ?_
            obtain ⟨z484, hz485, st, s486, hl487⟩ := o470.freeze st
            replace hz := hz.trans hz485
            obtain rfl := Option.some.inj hr
            exact ⟨z484, hz, st, .inr rfl, w468, h6, s486, h7, h8, trivial⟩
        · dsimp only at hr
          replace hz := hz.trans hz157
          clear hk156
          refine blockQ.r ?_
          refine thenQ.r ?_
          obtain rfl := Option.some.inj hr
          exact ⟨z155, hz, st, .inr rfl, (Value.slice none 0 0), h6, SlR.nil, h7, h8, trivial⟩
    · dsimp only at hr
      replace hz := hz.trans hz49
      clear hk48
      refine blockQ.r ?_
      refine thenQ.r ?_
      obtain rfl := Option.some.inj hr
      exact ⟨z47, hz, st, .inr rfl, (Value.slice none 0 0), h6, SlR.nil, h7, h8, trivial⟩

theorem c_r07_Recognize {N : Nat} {z : Nat → Blk} {m : Mem} {x0 : List Int} {x1 : List (List Int)} {x2 : Int} {v0 : Value} {v1 : Value} (fz : Fz z m) (hd : ∀ b, m.next ≤ b → m.blk b = .dead) (s0 : SlR (TInt 3 .i64) z x0 v0) (s1 : SlR (TSl 22 (TInt 3 .i64)) z x1 v1) {r : List Int × Int × Int} (hr : r07_Recognize N x0 x1 x2 = some r) : CallW Try.prog 35 #[v0, v1, (Value.int .i64 x2)] m fun v m' => ∃ z' w6, Zx m.next z z' ∧ Fz z' m' ∧ Same m m' none ∧ v = (Value.tuple [w6, (Value.int .i64 r.2.1), (Value.int .i64 r.2.2)].toArray) ∧ SlR (TInt 3 .i64) z' r.1 w6 ∧ True := by
  refine CallW.any Try.func35 rfl (by kernel_rfl) (Nat.le_of_ble_eq_true rfl) (fun fr hf => ?_)
  have h0 : fr 0 = _ := hf 0 _ rfl
  have h1 : fr 1 = _ := hf 1 _ rfl
  have h2 : fr 2 = _ := hf 2 _ rfl
  refine (u_r07_Recognize (k := none) (Zx.refl _) (St.start fz hd) h0 s0 h1 s1 h2 hr).mono ?_
  rintro ex fr' m' ⟨z', hz, st, he, w6, h6, s6, h7, h8, -⟩
  exact ⟨he, [w6, (Value.int .i64 r.2.1), (Value.int .i64 r.2.2)], ⟨h6.symm, h7.symm, h8.symm, trivial⟩, .inr (List.forall_mem_cons.2 ⟨s6.stor.1, List.forall_mem_cons.2 ⟨rfl, List.forall_mem_cons.2 ⟨rfl, fun _ h => nomatch h⟩⟩⟩), z', w6, hz, st.fz, st.toSame, rfl, s6, trivial⟩

/-! ### humpyard/humpyardlaw07.recognizes -/

theorem u_l07_recognizes_0 {N : Nat}  {z0 z : Nat → Blk} {e m : Mem} {k : Option Nat} {fr : Nat → Value} {x7 : List Int} {x8 : Int} {x9 : Int} {x10 : List Int} {x11 : Int} {x12 : Int} {v7 : Value} {v10 : Value} (hz : Zx e.next z0 z) (st : St z e m k) (h7 : fr 7 = v7) (s7 : SlR (TInt 3 .i64) z x7 v7) (h8 : fr 8 = (Value.int .i64 x8)) (h9 : fr 9 = (Value.int .i64 x9)) (h10 : fr 10 = v10) (s10 : SlR (TInt 3 .i64) z x10 v10) (h11 : fr 11 = (Value.int .i64 x11)) (h12 : fr 12 = (Value.int .i64 x12)) {r : Bool} (hr : l07_recognizes_0 N x7 x8 x9 x10 x11 x12 = some r) : W Try.prog (sub (bodyOf Try.f17) [1, 1, 1, 0]) (fun ex fr' m' => ∃ z', Zx e.next z0 z' ∧ St z' e m' k ∧ ex = AExit.normal ∧ fr' 6 = (Value.bool r) ∧ True) fr m := by
  unfold l07_recognizes_0 at hr
  refine W.region ?_
  refine SeqW.consX rfl (StepX.pure (pMove (v := v7) rfl h7) ?_)
  refine SeqW.consX rfl (StepX.pure (pMove (v := v10) rfl h10) ?_)
  obtain ⟨y25, hy25, hr⟩ := bind_some hr
  refine SeqW.consX rfl (StepX.call (gCallee rfl rfl (args2 rfl rfl)) ((c_gen_Ints (z := z) st.fz st.dead s7 s10 hy25).mono ?_))
  rintro _ _ ⟨rfl, rfl⟩
  refine SeqW.consX rfl (StepX.pure (pMove (v := (Value.bool y25)) rfl rfl) ?_)
  rcases if_some hr with ⟨hc26, hr⟩ | ⟨hc34, hr⟩
  · refine SeqW.consG rfl rfl rfl hc26 (StepX.pure (pMove (v := (Value.int .i64 x8)) rfl h8) ?_)
    refine SeqW.consG rfl rfl rfl hc26 (StepX.pure (pMove (v := (Value.int .i64 x11)) rfl h11) ?_)
    refine SeqW.consG rfl rfl rfl hc26 (StepX.pure (pEql (k := .i64) (a := x8) (b := x11) rfl rfl rfl) ?_)
    refine SeqW.consX rfl (StepX.pure (pPick (t := true) (v := (Value.bool (x8 == x11))) rfl ((congrArg Value.bool hc26)) rfl) ?_)
    refine SeqW.consX rfl (StepX.pure (pMove (v := (Value.bool (x8 == x11))) rfl rfl) ?_)
    rcases if_some hr with ⟨hc27, hr⟩ | ⟨hc31, hr⟩
    · refine SeqW.consG rfl rfl rfl hc27 (StepX.pure (pMove (v := (Value.int .i64 x9)) rfl h9) ?_)
      refine SeqW.consG rfl rfl rfl hc27 (StepX.pure (pMove (v := (Value.int .i64 x12)) rfl h12) ?_)
      refine SeqW.consG rfl rfl rfl hc27 (StepX.pure (pEql (k := .i64) (a := x9) (b := x12) rfl rfl rfl) ?_)
      refine SeqW.consX rfl (StepX.pure (pPick (t := true) (v := (Value.bool (x9 == x12))) rfl ((congrArg Value.bool hc27)) rfl) ?_)
      obtain ⟨y28, hy28, hr⟩ := lt_some hr
      refine SeqW.consX rfl (StepX.pure (pAssign rfl (congrArg Value.bool hy28)) ?_)
      refine SeqW.done fun fr29 hf30 => ?_
      have h6 : fr29 6 = (Value.bool y28) := (congrFun hf30 6).trans rfl
      clear hf30
      obtain rfl := Option.some.inj hr
      exact ⟨z, hz, st, rfl, h6, trivial⟩
    · refine SeqW.skipG rfl rfl rfl hc31 ?_
      refine SeqW.skipG rfl rfl rfl hc31 ?_
      refine SeqW.skipG rfl rfl rfl hc31 ?_
      refine SeqW.consX rfl (StepX.pure (pPick (t := false) (v := (Value.bool false)) rfl ((congrArg Value.bool hc31)) rfl) ?_)
      refine SeqW.consX rfl (StepX.pure (pAssign (v := (Value.bool false)) rfl rfl) ?_)
      refine SeqW.done fun fr32 hf33 => ?_
      have h6 : fr32 6 = (Value.bool false) := (congrFun hf33 6).trans rfl
      clear hf33
      obtain rfl := Option.some.inj hr
      exact ⟨z, hz, st, rfl, h6, trivial⟩
  · refine SeqW.skipG rfl rfl rfl hc34 ?_
    refine SeqW.skipG rfl rfl rfl hc34 ?_
    refine SeqW.skipG rfl rfl rfl hc34 ?_
    refine SeqW.consX rfl (StepX.pure (pPick (t := false) (v := (Value.bool false)) rfl ((congrArg Value.bool hc34)) rfl) ?_)
    refine SeqW.consX rfl (StepX.pure (pMove (v := (Value.bool false)) rfl rfl) ?_)
    refine SeqW.skipG rfl rfl rfl rfl ?_
    refine SeqW.skipG rfl rfl rfl rfl ?_
    refine SeqW.skipG rfl rfl rfl rfl ?_
    refine SeqW.consX rfl (StepX.pure (pPick (t := false) (v := (Value.bool false)) rfl ((congrArg Value.bool (rfl : false = false))) rfl) ?_)
    refine SeqW.consX rfl (StepX.pure (pAssign (v := (Value.bool false)) rfl rfl) ?_)
    refine SeqW.done fun fr35 hf36 => ?_
    have h6 : fr35 6 = (Value.bool false) := (congrFun hf36 6).trans rfl
    clear hf36
    obtain rfl := Option.some.inj hr
    exact ⟨z, hz, st, rfl, h6, trivial⟩

theorem u_l07_recognizes {N : Nat}  {z0 z : Nat → Blk} {e m : Mem} {k : Option Nat} {fr : Nat → Value} {x0 : List Int} {x1 : List (List Int)} {x2 : Int} {v0 : Value} {v1 : Value} (hz : Zx e.next z0 z) (st : St z e m k) (h0 : fr 0 = v0) (s0 : SlR (TInt 3 .i64) z x0 v0) (h1 : fr 1 = v1) (s1 : SlR (TSl 22 (TInt 3 .i64)) z x1 v1) (h2 : fr 2 = (Value.int .i64 x2)) {r : Bool} (hr : l07_recognizes N x0 x1 x2 = some r) : W Try.prog (sub (bodyOf Try.f17) []) (fun ex fr' m' => ∃ z', Zx e.next z0 z' ∧ St z' e m' k ∧ (ex = .normal ∨ ex = .ret) ∧ fr' 6 = (Value.bool r) ∧ True) fr m := by
  unfold l07_recognizes at hr
  refine W.seq ?_
  refine W.region ?_
  refine SeqW.consX rfl (StepX.pure (pAssign (v := (Value.bool false)) rfl rfl) ?_)
  refine SeqW.done fun fr1 hf2 => ?_
  have h0 : fr1 0 = v0 := (congrFun hf2 0).trans h0
  have h1 : fr1 1 = v1 := (congrFun hf2 1).trans h1
  have h2 : fr1 2 = (Value.int .i64 x2) := (congrFun hf2 2).trans h2
  clear hf2
  refine thenQ.n ?_
  refine W.seq ?_
  refine W.region ?_
  refine SeqW.consX rfl (StepX.pure (pMove (v := v0) rfl h0) ?_)
  refine SeqW.consX rfl (StepX.pure (pMove (v := v1) rfl h1) ?_)
  refine SeqW.consX rfl (StepX.pure (pMove (v := (Value.int .i64 x2)) rfl h2) ?_)
  obtain ⟨y3, hy3, hr⟩ := bind_some hr
  refine SeqW.consX rfl (StepX.call (gCallee rfl rfl (args3 rfl rfl rfl)) ((c_wheel_Recognize (z := z) st.fz st.dead s0 s1 hy3).mono ?_))
  rintro _ m8 ⟨z4, v9, hzx5, fz6, sm7, rfl, s10, -⟩
  replace s0 := s0.mono hzx5.le
  replace s1 := s1.mono hzx5.le
  replace hz := hz.trans (Zx.here st hzx5)
  replace st := st.call hzx5 fz6 sm7 no_hq
  refine SeqW.consX rfl (StepX.pure (pMove (v := (Value.tuple [v9, (Value.int .i64 y3.2.1), (Value.int .i64 y3.2.2)].toArray)) rfl rfl) ?_)
  refine SeqW.consX rfl (StepX.pure (pExtract (vs := [v9, (Value.int .i64 y3.2.1), (Value.int .i64 y3.2.2)]) (v := v9) rfl rfl rfl) ?_)
  refine SeqW.consX rfl (StepX.pure (pExtract (vs := [v9, (Value.int .i64 y3.2.1), (Value.int .i64 y3.2.2)]) (v := (Value.int .i64 y3.2.1)) rfl rfl rfl) ?_)
  refine SeqW.consX rfl (StepX.pure (pExtract (vs := [v9, (Value.int .i64 y3.2.1), (Value.int .i64 y3.2.2)]) (v := (Value.int .i64 y3.2.2)) rfl rfl rfl) ?_)
  refine SeqW.consX rfl (StepX.pure (pAssign (v := v9) rfl rfl) ?_)
  refine SeqW.consX rfl (StepX.pure (pAssign (v := (Value.int .i64 y3.2.1)) rfl rfl) ?_)
  refine SeqW.consX rfl (StepX.pure (pAssign (v := (Value.int .i64 y3.2.2)) rfl rfl) ?_)
  refine SeqW.done fun fr12 hf13 => ?_
  have h0 : fr12 0 = v0 := (congrFun hf13 0).trans h0
  have h1 : fr12 1 = v1 := (congrFun hf13 1).trans h1
  have h2 : fr12 2 = (Value.int .i64 x2) := (congrFun hf13 2).trans h2
  have h7 : fr12 7 = v9 := (congrFun hf13 7).trans rfl
  have h8 : fr12 8 = (Value.int .i64 y3.2.1) := (congrFun hf13 8).trans rfl
  have h9 : fr12 9 = (Value.int .i64 y3.2.2) := (congrFun hf13 9).trans rfl
  clear hf13
  refine thenQ.n ?_
  refine W.seq ?_
  refine W.region ?_
  refine SeqW.consX rfl (StepX.pure (pMove (v := v0) rfl h0) ?_)
  refine SeqW.consX rfl (StepX.pure (pMove (v := v1) rfl h1) ?_)
  refine SeqW.consX rfl (StepX.pure (pMove (v := (Value.int .i64 x2)) rfl h2) ?_)
  obtain ⟨y14, hy14, hr⟩ := bind_some hr
  refine SeqW.consX rfl (StepX.call (gCallee rfl rfl (args3 rfl rfl rfl)) ((c_r07_Recognize (z := z4) st.fz st.dead s0 s1 hy14).mono ?_))
  rintro _ m19 ⟨z15, v20, hzx16, fz17, sm18, rfl, s21, -⟩
  replace s0 := s0.mono hzx16.le
  replace s1 := s1.mono hzx16.le
  replace s10 := s10.mono hzx16.le
  replace hz := hz.trans (Zx.here st hzx16)
  replace st := st.call hzx16 fz17 sm18 no_hq
  refine SeqW.consX rfl (StepX.pure (pMove (v := (Value.tuple [v20, (Value.int .i64 y14.2.1), (Value.int .i64 y14.2.2)].toArray)) rfl rfl) ?_)
  refine SeqW.consX rfl (StepX.pure (pExtract (vs := [v20, (Value.int .i64 y14.2.1), (Value.int .i64 y14.2.2)]) (v := v20) rfl rfl rfl) ?_)
  refine SeqW.consX rfl (StepX.pure (pExtract (vs := [v20, (Value.int .i64 y14.2.1), (Value.int .i64 y14.2.2)]) (v := (Value.int .i64 y14.2.1)) rfl rfl rfl) ?_)
  refine SeqW.consX rfl (StepX.pure (pExtract (vs := [v20, (Value.int .i64 y14.2.1), (Value.int .i64 y14.2.2)]) (v := (Value.int .i64 y14.2.2)) rfl rfl rfl) ?_)
  refine SeqW.consX rfl (StepX.pure (pAssign (v := v20) rfl rfl) ?_)
  refine SeqW.consX rfl (StepX.pure (pAssign (v := (Value.int .i64 y14.2.1)) rfl rfl) ?_)
  refine SeqW.consX rfl (StepX.pure (pAssign (v := (Value.int .i64 y14.2.2)) rfl rfl) ?_)
  refine SeqW.done fun fr23 hf24 => ?_
  have h7 : fr23 7 = v9 := (congrFun hf24 7).trans h7
  have h8 : fr23 8 = (Value.int .i64 y3.2.1) := (congrFun hf24 8).trans h8
  have h9 : fr23 9 = (Value.int .i64 y3.2.2) := (congrFun hf24 9).trans h9
  have h10 : fr23 10 = v20 := (congrFun hf24 10).trans rfl
  have h11 : fr23 11 = (Value.int .i64 y14.2.1) := (congrFun hf24 11).trans rfl
  have h12 : fr23 12 = (Value.int .i64 y14.2.2) := (congrFun hf24 12).trans rfl
  clear hf24
  refine thenQ.n ?_
  refine W.seq ?_
  obtain ⟨y37, hy37, hr⟩ := bind_some hr
  refine W.keep (u_l07_recognizes_0 (Zx.refl _) st h7 s10 h8 h9 h10 s21 h11 h12 hy37) ?_
  rintro ex43 fr38 m39 hk41 ⟨z40, hz42, st, rfl, h6, -⟩
  replace hz := hz.trans hz42
  clear hk41
  refine thenQ.n ?_
  refine W.ret ?_
  obtain rfl := Option.some.inj hr
  exact ⟨z40, hz, st, .inr rfl, h6, trivial⟩

theorem c_l07_recognizes {N : Nat} {z : Nat → Blk} {m : Mem} {x0 : List Int} {x1 : List (List Int)} {x2 : Int} {v0 : Value} {v1 : Value} (fz : Fz z m) (hd : ∀ b, m.next ≤ b → m.blk b = .dead) (s0 : SlR (TInt 3 .i64) z x0 v0) (s1 : SlR (TSl 22 (TInt 3 .i64)) z x1 v1) {r : Bool} (hr : l07_recognizes N x0 x1 x2 = some r) : CallW Try.prog 17 #[v0, v1, (Value.int .i64 x2)] m fun v m' => v = (Value.bool r) ∧ m' = m := by
  refine CallW.flat Try.func17 rfl (by kernel_rfl) (Nat.le_of_ble_eq_true rfl) rfl (z := z) (fun fr hf => ?_)
  have h0 : fr 0 = _ := hf 0 _ rfl
  have h1 : fr 1 = _ := hf 1 _ rfl
  have h2 : fr 2 = _ := hf 2 _ rfl
  refine (u_l07_recognizes (k := none) (Zx.refl _) (St.start fz hd) h0 s0 h1 s1 h2 hr).mono ?_
  rintro ex fr' m' ⟨z', hz, st, he, h6, -⟩
  exact ⟨he, z', st, [(Value.bool r)], ⟨h6.symm, trivial⟩, .inl rfl, rfl⟩

/-! ### humpyard/humpyardlaw07.WheelRecognizes -/

theorem u_l07_WheelRecognizes_1 : ∀ (n : Nat) {N : Nat}  {z0 z : Nat → Blk} {e m : Mem} {k : Option Nat} {fr : Nat → Value} {x9 : Maker} {x11 : List Int} {x12 : Int} {v9_0 : Value} {b9 : Nat} {v11 : Value} (hz : Zx e.next z0 z) (st : St z e m k) (h9 : fr 9 = (Value.pointer (some ⟨b9, 0, none⟩))) (s9_0 : SlR (TInt 3 .i64) z x9.l v9_0) (bx9 : Bx z e m k b9 [v9_0, (Value.int .i64 x9.n)] 56) (h11 : fr 11 = v11) (o11 : OwF (TInt 3 .i64) z e m k x11 v11) (h12 : fr 12 = (Value.int .i64 x12)) (ao9_o11 : Ap (some b9) (blkOf v11)) {r : Maker × List Int} (hr : l07_WheelRecognizes_1 N n x9 x11 x12 = some r), W Try.prog (sub (bodyOf Try.f5) [1, 1, 0, 1, 0, 0, 1, 0, 0, 1, 0, 1, 0]) (fun ex fr' m' => ∃ z', Zx e.next z0 z' ∧ St z' e m' k ∧ ex = AExit.exit 2 ∧ ∃ (w9_0 : Value) (w11 : Value), fr' 9 = (Value.pointer (some ⟨b9, 0, none⟩)) ∧ SlR (TInt 3 .i64) z' r.1.l w9_0 ∧ Bx z' e m' k b9 [w9_0, (Value.int .i64 r.1.n)] 56 ∧ fr' 11 = w11 ∧ OwF (TInt 3 .i64) z' e m' k r.2 w11 ∧ Ap (some b9) (blkOf w11) ∧ True) fr m := by
  intro n
  induction n with
  | zero => intro N z0 z e m k fr x9 x11 x12 v9_0 b9 v11 hz st h9 s9_0 bx9 h11 o11 h12 ao9_o11 r hr; cases (show (none : Option _) = some r from hr)
  | succ n ih =>
    intro N z0 z e m k fr x9 x11 x12 v9_0 b9 v11 hz st h9 s9_0 bx9 h11 o11 h12 ao9_o11 r hr
    unfold l07_WheelRecognizes_1 at hr
    refine W.loop1 ?_
    refine W.seq ?_
    refine W.seq ?_
    refine W.region ?_
    refine SeqW.consX rfl (StepX.pure (pMove (v := (Value.int .i64 x12)) rfl h12) ?_)
    refine SeqW.consX rfl (StepX.pure (pGtr (k := .i64) (a := x12) (b := 0) rfl rfl rfl) ?_)
    refine SeqW.done fun fr37 hf38 => ?_
    have h9 : fr37 9 = (Value.pointer (some ⟨b9, 0, none⟩)) := (congrFun hf38 9).trans h9
    have h11 : fr37 11 = v11 := (congrFun hf38 11).trans h11
    have h12 : fr37 12 = (Value.int .i64 x12) := (congrFun hf38 12).trans h12
    have h26 : fr37 26 = (Value.bool (decide (0 < x12))) := (congrFun hf38 26).trans rfl
    clear hf38
    refine thenQ.n ?_
    rcases if_some hr with ⟨hc39, hr⟩ | ⟨hc106, hr⟩
    · refine W.condT h26 hc39 ?_
      refine W.skip ?_
      refine thenQ.n ?_
      refine W.seq ?_
      refine W.block ?_
      refine W.region ?_
      refine SeqW.consX rfl (StepX.pure (pMove (v := v11) rfl h11) ?_)
      refine SeqW.consX rfl (StepX.pure (pMove (v := (Value.pointer (some ⟨b9, 0, none⟩))) rfl h9) ?_)
      refine SeqW.consX rfl (kBuild (T := (TInt 3 .i64)) rfl Try.underlying22 Try.type3 rfl rfl rfl rfl ([1, 2, 3, 3, 4, 5, 10000, 0] : List Int) [[(Value.int .i64 1)], [(Value.int .i64 2)], [(Value.int .i64 3)], [(Value.int .i64 3)], [(Value.int .i64 4)], [(Value.int .i64 5)], [(Value.int .i64 10000)], [(Value.int .i64 0)]] rfl rfl rfl (BuildOk.mk (w := (Value.int .i64 1)) rfl rfl rfl rfl (BuildOk.mk (w := (Value.int .i64 2)) rfl rfl rfl rfl (BuildOk.mk (w := (Value.int .i64 3)) rfl rfl rfl rfl (BuildOk.mk (w := (Value.int .i64 3)) rfl rfl rfl rfl (BuildOk.mk (w := (Value.int .i64 4)) rfl rfl rfl rfl (BuildOk.mk (w := (Value.int .i64 5)) rfl rfl rfl rfl (BuildOk.mk (w := (Value.int .i64 10000)) rfl rfl rfl rfl (BuildOk.mk (w := (Value.int .i64 0)) rfl rfl rfl rfl trivial)))))))) st ?_)
      intro v40 m41 st o42 sm43 hap44
      have a46 := hap44 _ bx9.lt'
      have a47 := hap44 _ o11.lt
      replace bx9 := bx9.same sm43 Ap.none'
      replace o11 := o11.same sm43 Ap.none'
      obtain ⟨z48, hz49, st, s50, hl51⟩ := o42.freeze st
      replace s9_0 := s9_0.mono hz49.le
      replace bx9 := bx9.zle (hl51 _ a46)
      replace o11 := o11.zle hz49.le (hl51 _ a47)
      replace hz := hz.trans hz49
      obtain ⟨y52, hy52, hr⟩ := bind_some hr
      refine SeqW.consX rfl (StepX.call (gCallee rfl rfl (args2 rfl rfl)) ((c_Maker_Pick (x0 := x9) (z := z48) st.fz st.dead s9_0 ⟨bx9.blk, bx9.lt, bx9.dead, .inr rfl⟩ s50 hy52).mono ?_))
      rintro _ m57 ⟨z53, v58, hzx54, fz55, sm56, rfl, s59, x61, -⟩
      replace s9_0 := s9_0.mono hzx54.le
      replace o11 := o11.call hzx54 sm56 (Ap.symm ao9_o11)
      replace s50 := s50.mono hzx54.le
      have bx9n : Bx z53 e m57 k b9 _ _ := ⟨x61.blk, x61.lt, x61.dead, bx9.fresh⟩
      replace hz := hz.trans (Zx.here st hzx54)
      replace st := st.call hzx54 fz55 sm56 bx9.hq
      refine SeqW.consX rfl (StepX.pure (pMove (v := (Value.pointer (some ⟨b9, 0, none⟩))) rfl h9) ?_)
      refine SeqW.consX rfl (kBuild (T := (TInt 3 .i64)) rfl Try.underlying22 Try.type3 rfl rfl rfl rfl ([1, 1, 1, 2] : List Int) [[(Value.int .i64 1)], [(Value.int .i64 1)], [(Value.int .i64 1)], [(Value.int .i64 2)]] rfl rfl rfl (BuildOk.mk (w := (Value.int .i64 1)) rfl rfl rfl rfl (BuildOk.mk (w := (Value.int .i64 1)) rfl rfl rfl rfl (BuildOk.mk (w := (Value.int .i64 1)) rfl rfl rfl rfl (BuildOk.mk (w := (Value.int .i64 2)) rfl rfl rfl rfl trivial)))) st ?_)
      intro v62 m63 st o64 sm65 hap66
      have a68 := hap66 _ bx9n.lt'
      have a69 := hap66 _ o11.lt
      replace bx9n := bx9n.same sm65 Ap.none'
      replace o11 := o11.same sm65 Ap.none'
      obtain ⟨z70, hz71, st, s72, hl73⟩ := o64.freeze st
      replace bx9n := bx9n.zle (hl73 _ a68)
      replace o11 := o11.zle hz71.le (hl73 _ a69)
      replace s59 := s59.mono hz71.le
      replace hz := hz.trans hz71
      obtain ⟨y74, hy74, hr⟩ := bind_some hr
      refine SeqW.consX rfl (StepX.call (gCallee rfl rfl (args2 rfl rfl)) ((c_Maker_Pick (x0 := y52.2) (z := z70) st.fz st.dead s59 ⟨bx9n.blk, bx9n.lt, bx9n.dead, .inr rfl⟩ s72 hy74).mono ?_))
      rintro _ m79 ⟨z75, v80, hzx76, fz77, sm78, rfl, s81, x83, -⟩
      replace o11 := o11.call hzx76 sm78 (Ap.symm ao9_o11)
      replace s59 := s59.mono hzx76.le
      replace s72 := s72.mono hzx76.le
      have bx9nn : Bx z75 e m79 k b9 _ _ := ⟨x83.blk, x83.lt, x83.dead, bx9n.fresh⟩
      replace hz := hz.trans (Zx.here st hzx76)
      replace st := st.call hzx76 fz77 sm78 bx9n.hq
      refine SeqW.consX rfl (StepX.pure (pMul (k := .i64) (a := y52.1) (b := y74.1) rfl rfl rfl) ?_)
      refine SeqW.consX rfl (kBuild (T := (TInt 3 .i64)) rfl Try.underlying22 Try.type3 rfl rfl rfl rfl ([(IntKind.wrap .i64 (y52.1 * y74.1))] : List Int) [[(Value.int .i64 (IntKind.wrap .i64 (y52.1 * y74.1)))]] rfl rfl rfl (BuildOk.mk (w := (Value.int .i64 (IntKind.wrap .i64 (y52.1 * y74.1)))) rfl rfl rfl rfl trivial) st ?_)
      intro v84 m85 st o86 sm87 hap88
      have a90 := hap88 _ bx9nn.lt'
      have a91 := hap88 _ o11.lt
      replace bx9nn := bx9nn.same sm87 Ap.none'
      replace o11 := o11.same sm87 Ap.none'
      obtain ⟨y92, hy92, hr⟩ := bind_some hr
      refine SeqW.consX rfl (kAppend (T := (TInt 3 .i64)) (xs := x11) (ys := ([(IntKind.wrap .i64 (y52.1 * y74.1))] : List Int)) rfl Try.underlying22 Try.type3 rfl rfl rfl rfl rfl rfl (.inl ⟨_, Try.underlying22⟩) rfl o11 rfl o86.ow.src st hy92 ?_)
      intro v93 m94 st o95 sm96 hap97
      have a99 := hap97 _ bx9nn.lt' ao9_o11
      have a100 := hap97 _ o86.lt (Ap.symm a91)
      replace bx9nn := bx9nn.same sm96 ao9_o11
      replace o86 := o86.same sm96 (Ap.symm a91)
      refine SeqW.consX rfl (StepX.pure (pAssign (v := v93) rfl rfl) ?_)
      refine SeqW.done fun fr101 hf102 => ?_
      have h9 : fr101 9 = (Value.pointer (some ⟨b9, 0, none⟩)) := (congrFun hf102 9).trans h9
      have h11 : fr101 11 = v93 := (congrFun hf102 11).trans rfl
      have h12 : fr101 12 = (Value.int .i64 x12) := (congrFun hf102 12).trans h12
      clear hf102
      refine blockQ.n ?_
      refine thenQ.n ?_
      refine W.region ?_
      refine SeqW.consX rfl (StepX.pure (pMove (v := (Value.int .i64 x12)) rfl h12) ?_)
      refine SeqW.consX rfl (StepX.pure (pSub (k := .i64) (a := x12) (b := 1) rfl rfl rfl) ?_)
      obtain ⟨y103, hy103, hr⟩ := lt_some hr
      refine SeqW.consX rfl (StepX.pure (pAssign rfl (congrArg (Value.int .i64) hy103)) ?_)
      refine SeqW.done fun fr104 hf105 => ?_
      have h9 : fr104 9 = (Value.pointer (some ⟨b9, 0, none⟩)) := (congrFun hf105 9).trans h9
      have h11 : fr104 11 = v93 := (congrFun hf105 11).trans h11
      have h12 : fr104 12 = (Value.int .i64 y103) := (congrFun hf105 12).trans rfl
      clear hf105
      refine thenQ.n ?_
      exact ih (x9 := y74.2) hz st h9 s81 bx9nn h11 o95 h12 a99 hr
    · refine W.condF h26 hc106 ?_
      refine W.exit ?_
      refine thenQ.x ?_
      refine thenQ.x ?_
      obtain rfl := Option.some.inj hr
      exact ⟨z, hz, st, rfl, v9_0, v11, h9, s9_0, bx9, h11, o11, ao9_o11, trivial⟩

theorem u_l07_WheelRecognizes_3 : ∀ (n : Nat) {N : Nat}  {z0 z : Nat → Blk} {e m : Mem} {k : Option Nat} {fr : Nat → Value} {x9 : Maker} {x15 : List Int} {x16 : Int} {v9_0 : Value} {b9 : Nat} {x11 : List Int} {v11 : Value} {x13 : List (List Int)} {v13 : Value} {v15 : Value} (hz : Zx e.next z0 z) (st : St z e m k) (h9 : fr 9 = (Value.pointer (some ⟨b9, 0, none⟩))) (s9_0 : SlR (TInt 3 .i64) z x9.l v9_0) (bx9 : Bx z e m k b9 [v9_0, (Value.int .i64 x9.n)] 56) (h11 : fr 11 = v11) (o11 : OwF (TInt 3 .i64) z e m k x11 v11) (h13 : fr 13 = v13) (o13 : OwF (TSl 22 (TInt 3 .i64)) z e m k x13 v13) (h15 : fr 15 = v15) (o15 : OwF (TInt 3 .i64) z e m k x15 v15) (h16 : fr 16 = (Value.int .i64 x16)) (ao9_o11 : Ap (some b9) (blkOf v11)) (ao9_o13 : Ap (some b9) (blkOf v13)) (ao11_o13 : Ap (blkOf v11) (blkOf v13)) (ao9_o15 : Ap (some b9) (blkOf v15)) (ao11_o15 : Ap (blkOf v11) (blkOf v15)) (ao13_o15 : Ap (blkOf v13) (blkOf v15)) {r : Maker × List Int} (hr : l07_WheelRecognizes_3 N n x9 x15 x16 = some r), W Try.prog (sub (bodyOf Try.f5) [1, 1, 0, 1, 0, 0, 1, 0, 0, 1, 1, 1, 0, 1, 0, 0, 1, 0, 0, 1, 0, 1, 0]) (fun ex fr' m' => ∃ z', Zx e.next z0 z' ∧ St z' e m' k ∧ ex = AExit.exit 6 ∧ ∃ (w9_0 : Value) (w15 : Value), fr' 9 = (Value.pointer (some ⟨b9, 0, none⟩)) ∧ SlR (TInt 3 .i64) z' r.1.l w9_0 ∧ Bx z' e m' k b9 [w9_0, (Value.int .i64 r.1.n)] 56 ∧ fr' 15 = w15 ∧ OwF (TInt 3 .i64) z' e m' k r.2 w15 ∧ OwF (TInt 3 .i64) z' e m' k x11 v11 ∧ OwF (TSl 22 (TInt 3 .i64)) z' e m' k x13 v13 ∧ Ap (some b9) (blkOf w15) ∧ Ap (some b9) (blkOf v11) ∧ Ap (blkOf w15) (blkOf v11) ∧ Ap (some b9) (blkOf v13) ∧ Ap (blkOf w15) (blkOf v13) ∧ Ap (blkOf v11) (blkOf v13) ∧ True) fr m := by
  intro n
  induction n with
  | zero => intro N z0 z e m k fr x9 x15 x16 v9_0 b9 x11 v11 x13 v13 v15 hz st h9 s9_0 bx9 h11 o11 h13 o13 h15 o15 h16 ao9_o11 ao9_o13 ao11_o13 ao9_o15 ao11_o15 ao13_o15 r hr; cases (show (none : Option _) = some r from hr)
  | succ n ih =>
    intro N z0 z e m k fr x9 x15 x16 v9_0 b9 x11 v11 x13 v13 v15 hz st h9 s9_0 bx9 h11 o11 h13 o13 h15 o15 h16 ao9_o11 ao9_o13 ao11_o13 ao9_o15 ao11_o15 ao13_o15 r hr
    unfold l07_WheelRecognizes_3 at hr
    refine W.loop1 ?_
    refine W.seq ?_
    refine W.seq ?_
    refine W.region ?_
    refine SeqW.consX rfl (StepX.pure (pMove (v := (Value.int .i64 x16)) rfl h16) ?_)
    refine SeqW.consX rfl (StepX.pure (pGtr (k := .i64) (a := x16) (b := 0) rfl rfl rfl) ?_)
    refine SeqW.done fun fr154 hf155 => ?_
    have h9 : fr154 9 = (Value.pointer (some ⟨b9, 0, none⟩)) := (congrFun hf155 9).trans h9
    have h11 : fr154 11 = v11 := (congrFun hf155 11).trans h11
    have h13 : fr154 13 = v13 := (congrFun hf155 13).trans h13
    have h15 : fr154 15 = v15 := (congrFun hf155 15).trans h15
    have h16 : fr154 16 = (Value.int .i64 x16) := (congrFun hf155 16).trans h16
    have h48 : fr154 48 = (Value.bool (decide (0 < x16))) := (congrFun hf155 48).trans rfl
    clear hf155
    refine thenQ.n ?_
    rcases if_some hr with ⟨hc156, hr⟩ | ⟨hc207, hr⟩
    · refine W.condT h48 hc156 ?_
      refine W.skip ?_
      refine thenQ.n ?_
      refine W.seq ?_
      refine W.block ?_
      refine W.region ?_
      refine SeqW.consX rfl (StepX.pure (pMove (v := v15) rfl h15) ?_)
      refine SeqW.consX rfl (StepX.pure (pMove (v := (Value.pointer (some ⟨b9, 0, none⟩))) rfl h9) ?_)
      refine SeqW.consX rfl (kBuild (T := (TInt 3 .i64)) rfl Try.underlying22 Try.type3 rfl rfl rfl rfl ([1, 2, 3, 4, 5] : List Int) [[(Value.int .i64 1)], [(Value.int .i64 2)], [(Value.int .i64 3)], [(Value.int .i64 4)], [(Value.int .i64 5)]] rfl rfl rfl (BuildOk.mk (w := (Value.int .i64 1)) rfl rfl rfl rfl (BuildOk.mk (w := (Value.int .i64 2)) rfl rfl rfl rfl (BuildOk.mk (w := (Value.int .i64 3)) rfl rfl rfl rfl (BuildOk.mk (w := (Value.int .i64 4)) rfl rfl rfl rfl (BuildOk.mk (w := (Value.int .i64 5)) rfl rfl rfl rfl trivial))))) st ?_)
      intro v157 m158 st o159 sm160 hap161
      have a163 := hap161 _ bx9.lt'
      have a164 := hap161 _ o11.lt
      have a165 := hap161 _ o13.lt
      have a166 := hap161 _ o15.lt
      replace bx9 := bx9.same sm160 Ap.none'
      replace o11 := o11.same sm160 Ap.none'
      replace o13 := o13.same sm160 Ap.none'
      replace o15 := o15.same sm160 Ap.none'
      obtain ⟨z167, hz168, st, s169, hl170⟩ := o159.freeze st
      replace s9_0 := s9_0.mono hz168.le
      replace bx9 := bx9.zle (hl170 _ a163)
      replace o11 := o11.zle hz168.le (hl170 _ a164)
      replace o13 := o13.zle hz168.le (hl170 _ a165)
      replace o15 := o15.zle hz168.le (hl170 _ a166)
      replace hz := hz.trans hz168
      obtain ⟨y171, hy171, hr⟩ := bind_some hr
      refine SeqW.consX rfl (StepX.call (gCallee rfl rfl (args2 rfl rfl)) ((c_Maker_Pick (x0 := x9) (z := z167) st.fz st.dead s9_0 ⟨bx9.blk, bx9.lt, bx9.dead, .inr rfl⟩ s169 hy171).mono ?_))
      rintro _ m176 ⟨z172, v177, hzx173, fz174, sm175, rfl, s178, x180, -⟩
      replace s9_0 := s9_0.mono hzx173.le
      replace o11 := o11.call hzx173 sm175 (Ap.symm ao9_o11)
      replace o13 := o13.call hzx173 sm175 (Ap.symm ao9_o13)
      replace o15 := o15.call hzx173 sm175 (Ap.symm ao9_o15)
      replace s169 := s169.mono hzx173.le
      have bx9n : Bx z172 e m176 k b9 _ _ := ⟨x180.blk, x180.lt, x180.dead, bx9.fresh⟩
      replace hz := hz.trans (Zx.here st hzx173)
      replace st := st.call hzx173 fz174 sm175 bx9.hq
      refine SeqW.consX rfl (kBuild (T := (TInt 3 .i64)) rfl Try.underlying22 Try.type3 rfl rfl rfl rfl ([y171.1] : List Int) [[(Value.int .i64 y171.1)]] rfl rfl rfl (BuildOk.mk (w := (Value.int .i64 y171.1)) rfl rfl rfl rfl trivial) st ?_)
      intro v181 m182 st o183 sm184 hap185
      have a187 := hap185 _ bx9n.lt'
      have a188 := hap185 _ o11.lt
      have a189 := hap185 _ o13.lt
      have a190 := hap185 _ o15.lt
      replace bx9n := bx9n.same sm184 Ap.none'
      replace o11 := o11.same sm184 Ap.none'
      replace o13 := o13.same sm184 Ap.none'
      replace o15 := o15.same sm184 Ap.none'
      obtain ⟨y191, hy191, hr⟩ := bind_some hr
      refine SeqW.consX rfl (kAppend (T := (TInt 3 .i64)) (xs := x15) (ys := ([y171.1] : List Int)) rfl Try.underlying22 Try.type3 rfl rfl rfl rfl rfl rfl (.inl ⟨_, Try.underlying22⟩) rfl o15 rfl o183.ow.src st hy191 ?_)
      intro v192 m193 st o194 sm195 hap196
      have a198 := hap196 _ bx9n.lt' ao9_o15
      have a199 := hap196 _ o11.lt ao11_o15
      have a200 := hap196 _ o13.lt ao13_o15
      have a201 := hap196 _ o183.lt (Ap.symm a190)
      replace bx9n := bx9n.same sm195 ao9_o15
      replace o11 := o11.same sm195 ao11_o15
      replace o13 := o13.same sm195 ao13_o15
      replace o183 := o183.same sm195 (Ap.symm a190)
      refine SeqW.consX rfl (StepX.pure (pAssign (v := v192) rfl rfl) ?_)
      refine SeqW.done fun fr202 hf203 => ?_
      have h9 : fr202 9 = (Value.pointer (some ⟨b9, 0, none⟩)) := (congrFun hf203 9).trans h9
      have h11 : fr202 11 = v11 := (congrFun hf203 11).trans h11
      have h13 : fr202 13 = v13 := (congrFun hf203 13).trans h13
      have h15 : fr202 15 = v192 := (congrFun hf203 15).trans rfl
      have h16 : fr202 16 = (Value.int .i64 x16) := (congrFun hf203 16).trans h16
      clear hf203
      refine blockQ.n ?_
      refine thenQ.n ?_
      refine W.region ?_
      refine SeqW.consX rfl (StepX.pure (pMove (v := (Value.int .i64 x16)) rfl h16) ?_)
      refine SeqW.consX rfl (StepX.pure (pSub (k := .i64) (a := x16) (b := 1) rfl rfl rfl) ?_)
      obtain ⟨y204, hy204, hr⟩ := lt_some hr
      refine SeqW.consX rfl (StepX.pure (pAssign rfl (congrArg (Value.int .i64) hy204)) ?_)
      refine SeqW.done fun fr205 hf206 => ?_
      have h9 : fr205 9 = (Value.pointer (some ⟨b9, 0, none⟩)) := (congrFun hf206 9).trans h9
      have h11 : fr205 11 = v11 := (congrFun hf206 11).trans h11
      have h13 : fr205 13 = v13 := (congrFun hf206 13).trans h13
      have h15 : fr205 15 = v192 := (congrFun hf206 15).trans h15
      have h16 : fr205 16 = (Value.int .i64 y204) := (congrFun hf206 16).trans rfl
      clear hf206
      refine thenQ.n ?_
      exact ih (x9 := y171.2) hz st h9 s178 bx9n h11 o11 h13 o13 h15 o194 h16 ao9_o11 ao9_o13 ao11_o13 a198 a199 a200 hr
    · refine W.condF h48 hc207 ?_
      refine W.exit ?_
      refine thenQ.x ?_
      refine thenQ.x ?_
      obtain rfl := Option.some.inj hr
      exact ⟨z, hz, st, rfl, v9_0, v15, h9, s9_0, bx9, h15, o15, o11, o13, ao9_o15, ao9_o11, (Ap.symm ao11_o15), ao9_o13, (Ap.symm ao13_o15), ao11_o13, trivial⟩

theorem u_l07_WheelRecognizes_2 : ∀ (n : Nat) {N : Nat}  {z0 z : Nat → Blk} {e m : Mem} {k : Option Nat} {fr : Nat → Value} {x9 : Maker} {x13 : List (List Int)} {x14 : Int} {v9_0 : Value} {b9 : Nat} {x11 : List Int} {v11 : Value} {v13 : Value} (hz : Zx e.next z0 z) (st : St z e m k) (h9 : fr 9 = (Value.pointer (some ⟨b9, 0, none⟩))) (s9_0 : SlR (TInt 3 .i64) z x9.l v9_0) (bx9 : Bx z e m k b9 [v9_0, (Value.int .i64 x9.n)] 56) (h11 : fr 11 = v11) (o11 : OwF (TInt 3 .i64) z e m k x11 v11) (h13 : fr 13 = v13) (o13 : OwF (TSl 22 (TInt 3 .i64)) z e m k x13 v13) (h14 : fr 14 = (Value.int .i64 x14)) (ao9_o11 : Ap (some b9) (blkOf v11)) (ao9_o13 : Ap (some b9) (blkOf v13)) (ao11_o13 : Ap (blkOf v11) (blkOf v13)) {r : Maker × List (List Int)} (hr : l07_WheelRecognizes_2 N n x9 x13 x14 = some r), W Try.prog (sub (bodyOf Try.f5) [1, 1, 0, 1, 0, 0, 1, 0, 0, 1, 1, 1, 0, 1, 0]) (fun ex fr' m' => ∃ z', Zx e.next z0 z' ∧ St z' e m' k ∧ ex = AExit.exit 4 ∧ ∃ (w9_0 : Value) (w13 : Value), fr' 9 = (Value.pointer (some ⟨b9, 0, none⟩)) ∧ SlR (TInt 3 .i64) z' r.1.l w9_0 ∧ Bx z' e m' k b9 [w9_0, (Value.int .i64 r.1.n)] 56 ∧ fr' 13 = w13 ∧ OwF (TSl 22 (TInt 3 .i64)) z' e m' k r.2 w13 ∧ OwF (TInt 3 .i64) z' e m' k x11 v11 ∧ Ap (some b9) (blkOf w13) ∧ Ap (some b9) (blkOf v11) ∧ Ap (blkOf w13) (blkOf v11) ∧ True) fr m := by
  intro n
  induction n with
  | zero => intro N z0 z e m k fr x9 x13 x14 v9_0 b9 x11 v11 v13 hz st h9 s9_0 bx9 h11 o11 h13 o13 h14 ao9_o11 ao9_o13 ao11_o13 r hr; cases (show (none : Option _) = some r from hr)
  | succ n ih =>
    intro N z0 z e m k fr x9 x13 x14 v9_0 b9 x11 v11 v13 hz st h9 s9_0 bx9 h11 o11 h13 o13 h14 ao9_o11 ao9_o13 ao11_o13 r hr
    unfold l07_WheelRecognizes_2 at hr
    refine W.loop1 ?_
    refine W.seq ?_
    refine W.seq ?_
    refine W.region ?_
    refine SeqW.consX rfl (StepX.pure (pMove (v := (Value.int .i64 x14)) rfl h14) ?_)
    refine SeqW.consX rfl (StepX.pure (pGtr (k := .i64) (a := x14) (b := 0) rfl rfl rfl) ?_)
    refine SeqW.done fun fr137 hf138 => ?_
    have h9 : fr137 9 = (Value.pointer (some ⟨b9, 0, none⟩)) := (congrFun hf138 9).trans h9
    have h11 : fr137 11 = v11 := (congrFun hf138 11).trans h11
    have h13 : fr137 13 = v13 := (congrFun hf138 13).trans h13
    have h14 : fr137 14 = (Value.int .i64 x14) := (congrFun hf138 14).trans h14
    have h42 : fr137 42 = (Value.bool (decide (0 < x14))) := (congrFun hf138 42).trans rfl
    clear hf138
    refine thenQ.n ?_
    rcases if_some hr with ⟨hc139, hr⟩ | ⟨hc259, hr⟩
    · refine W.condT h42 hc139 ?_
      refine W.skip ?_
      refine thenQ.n ?_
      refine W.seq ?_
      refine W.block ?_
      refine W.seq ?_
      refine W.region ?_
      refine SeqW.consX rfl (StepX.pure (pAssign (v := (Value.slice none 0 0)) rfl rfl) ?_)
      refine SeqW.done fun fr140 hf141 => ?_
      have h9 : fr140 9 = (Value.pointer (some ⟨b9, 0, none⟩)) := (congrFun hf141 9).trans h9
      have h11 : fr140 11 = v11 := (congrFun hf141 11).trans h11
      have h13 : fr140 13 = v13 := (congrFun hf141 13).trans h13
      have h14 : fr140 14 = (Value.int .i64 x14) := (congrFun hf141 14).trans h14
      have h15 : fr140 15 = (Value.slice none 0 0) := (congrFun hf141 15).trans rfl
      clear hf141
      refine thenQ.n ?_
      refine W.seq ?_
      refine W.seq ?_
      refine W.region ?_
      refine SeqW.consX rfl (StepX.pure (pMove (v := (Value.pointer (some ⟨b9, 0, none⟩))) rfl h9) ?_)
      obtain ⟨y142, hy142, hr⟩ := bind_some hr
      refine SeqW.consX rfl (StepX.call (gCallee rfl rfl (args2 rfl rfl)) ((c_Maker_Next (x0 := x9) (z := z) st.fz st.dead s9_0 ⟨bx9.blk, bx9.lt, bx9.dead, .inr rfl⟩ hy142).mono ?_))
      rintro _ m147 ⟨z143, v148, hzx144, fz145, sm146, rfl, s149, x151, -⟩
      replace s9_0 := s9_0.mono hzx144.le
      replace o11 := o11.call hzx144 sm146 (Ap.symm ao9_o11)
      replace o13 := o13.call hzx144 sm146 (Ap.symm ao9_o13)
      have bx9n : Bx z143 e m147 k b9 _ _ := ⟨x151.blk, x151.lt, x151.dead, bx9.fresh⟩
      replace hz := hz.trans (Zx.here st hzx144)
      replace st := st.call hzx144 fz145 sm146 bx9.hq
      refine SeqW.consX rfl (StepX.pure (pAssign (v := (Value.int .i64 y142.1)) rfl rfl) ?_)
      refine SeqW.done fun fr152 hf153 => ?_
      have h9 : fr152 9 = (Value.pointer (some ⟨b9, 0, none⟩)) := (congrFun hf153 9).trans h9
      have h11 : fr152 11 = v11 := (congrFun hf153 11).trans h11
      have h13 : fr152 13 = v13 := (congrFun hf153 13).trans h13
      have h14 : fr152 14 = (Value.int .i64 x14) := (congrFun hf153 14).trans h14
      have h15 : fr152 15 = (Value.slice none 0 0) := (congrFun hf153 15).trans h15
      have h16 : fr152 16 = (Value.int .i64 y142.1) := (congrFun hf153 16).trans rfl
      clear hf153
      refine thenQ.n ?_
      refine W.block ?_
      obtain ⟨y208, hy208, hr⟩ := bind_some hr
      refine W.keep (u_l07_WheelRecognizes_3 (x9 := y142.2) _ (Zx.refl _) st h9 s149 bx9n h11 o11 h13 o13 h15 OwF.nil h16 ao9_o11 ao9_o13 ao11_o13 Ap.none' Ap.none' Ap.none' hy208) ?_
      rintro ex214 fr209 m210 hk212 ⟨z211, hz213, st, rfl, w215, w216, h9, s218, x220, h15, o222, o223, o224, a225, a226, a227, a228, a229, a230, -⟩
      have h11 := (hk212 11 rfl).trans h11
      have h13 := (hk212 13 rfl).trans h13
      have h14 := (hk212 14 rfl).trans h14
      replace hz := hz.trans hz213
      clear hk212
      refine blockQ.hit ?_
      refine thenQ.n ?_
      refine W.region ?_
      refine SeqW.consX rfl (StepX.pure (pMove (v := v13) rfl h13) ?_)
      refine SeqW.consX rfl (StepX.pure (pMove (v := w216) rfl h15) ?_)
      obtain ⟨z231, hz232, st, s233, hl234⟩ := o222.freeze st
      replace o223 := o223.zle hz232.le (hl234 _ (Ap.symm a227))
      replace o224 := o224.zle hz232.le (hl234 _ (Ap.symm a229))
      replace s218 := s218.mono hz232.le
      replace x220 := x220.zle (hl234 _ a225)
      replace hz := hz.trans hz232
      refine SeqW.consX rfl (kBuild (T := (TSl 22 (TInt 3 .i64))) rfl Try.underlying23 Try.type22 rfl rfl rfl rfl ([y208.2] : List (List Int)) [[w216]] rfl rfl rfl (BuildOk.mk (w := w216) rfl s233.stor.1 s233.stor.2 ⟨_, rfl, s233⟩ trivial) st ?_)
      intro v235 m236 st o237 sm238 hap239
      have a241 := hap239 _ o223.lt
      have a242 := hap239 _ o224.lt
      have a243 := hap239 _ x220.lt'
      replace o223 := o223.same sm238 Ap.none'
      replace o224 := o224.same sm238 Ap.none'
      replace x220 := x220.same sm238 Ap.none'
      obtain ⟨y244, hy244, hr⟩ := bind_some hr
      refine SeqW.consX rfl (kAppend (T := (TSl 22 (TInt 3 .i64))) (xs := x13) (ys := ([y208.2] : List (List Int))) rfl Try.underlying23 Try.type22 rfl rfl rfl rfl rfl rfl (.inl ⟨_, Try.underlying23⟩) rfl o224 rfl o237.ow.src st hy244 ?_)
      intro v245 m246 st o247 sm248 hap249
      have a251 := hap249 _ o223.lt a230
      have a252 := hap249 _ x220.lt' a228
      have a253 := hap249 _ o237.lt (Ap.symm a242)
      replace o223 := o223.same sm248 a230
      replace x220 := x220.same sm248 a228
      replace o237 := o237.same sm248 (Ap.symm a242)
      refine SeqW.consX rfl (StepX.pure (pAssign (v := v245) rfl rfl) ?_)
      refine SeqW.done fun fr254 hf255 => ?_
      have h9 : fr254 9 = (Value.pointer (some ⟨b9, 0, none⟩)) := (congrFun hf255 9).trans h9
      have h11 : fr254 11 = v11 := (congrFun hf255 11).trans h11
      have h13 : fr254 13 = v245 := (congrFun hf255 13).trans rfl
      have h14 : fr254 14 = (Value.int .i64 x14) := (congrFun hf255 14).trans h14
      clear hf255
      refine blockQ.n ?_
      refine thenQ.n ?_
      refine W.region ?_
      refine SeqW.consX rfl (StepX.pure (pMove (v := (Value.int .i64 x14)) rfl h14) ?_)
      refine SeqW.consX rfl (StepX.pure (pSub (k := .i64) (a := x14) (b := 1) rfl rfl rfl) ?_)
      obtain ⟨y256, hy256, hr⟩ := lt_some hr
      refine SeqW.consX rfl (StepX.pure (pAssign rfl (congrArg (Value.int .i64) hy256)) ?_)
      refine SeqW.done fun fr257 hf258 => ?_
      have h9 : fr257 9 = (Value.pointer (some ⟨b9, 0, none⟩)) := (congrFun hf258 9).trans h9
      have h11 : fr257 11 = v11 := (congrFun hf258 11).trans h11
      have h13 : fr257 13 = v245 := (congrFun hf258 13).trans h13
      have h14 : fr257 14 = (Value.int .i64 y256) := (congrFun hf258 14).trans rfl
      clear hf258
      refine thenQ.n ?_
      exact ih (x9 := y208.1) hz st h9 s218 x220 h11 o223 h13 o247 h14 a226 a252 a251 hr
    · refine W.condF h42 hc259 ?_
      refine W.exit ?_
      refine thenQ.x ?_
      refine thenQ.x ?_
      obtain rfl := Option.some.inj hr
      exact ⟨z, hz, st, rfl, v9_0, v13, h9, s9_0, bx9, h13, o13, o11, ao9_o13, ao9_o11, (Ap.symm ao11_o13), trivial⟩

theorem u_l07_WheelRecognizes_0 : ∀ (n : Nat) {N : Nat}  {z0 z : Nat → Blk} {e m : Mem} {k : Option Nat} {fr : Nat → Value} {x9 : Maker} {x10 : Int} {v9_0 : Value} {b9 : Nat} (hz : Zx e.next z0 z) (st : St z e m k) (h9 : fr 9 = (Value.pointer (some ⟨b9, 0, none⟩))) (s9_0 : SlR (TInt 3 .i64) z x9.l v9_0) (bx9 : Bx z e m k b9 [v9_0, (Value.int .i64 x9.n)] 56) (h10 : fr 10 = (Value.int .i64 x10)) {r : Sum (Unit) (Bool)} (hr : l07_WheelRecognizes_0 N n x9 x10 = some r), W Try.prog (sub (bodyOf Try.f5) [1, 1, 0, 1, 0]) (fun ex fr' m' => ∃ z', Zx e.next z0 z' ∧ St z' e m' k ∧ ((∃ q, r = Sum.inl q ∧ ex = AExit.exit 0 ∧ True) ∨ (∃ q, r = Sum.inr q ∧ ex = AExit.ret ∧ fr' 8 = (Value.bool q) ∧ True))) fr m := by
  intro n
  induction n with
  | zero => intro N z0 z e m k fr x9 x10 v9_0 b9 hz st h9 s9_0 bx9 h10 r hr; cases (show (none : Option _) = some r from hr)
  | succ n ih =>
    intro N z0 z e m k fr x9 x10 v9_0 b9 hz st h9 s9_0 bx9 h10 r hr
    unfold l07_WheelRecognizes_0 at hr
    refine W.loop1 ?_
    refine W.seq ?_
    refine W.seq ?_
    refine W.region ?_
    refine SeqW.consX rfl (StepX.pure (pMove (v := (Value.int .i64 x10)) rfl h10) ?_)
    refine SeqW.consX rfl (StepX.pure (pLss (k := .i64) (a := x10) (b := 5) rfl rfl rfl) ?_)
    refine SeqW.done fun fr20 hf21 => ?_
    have h9 : fr20 9 = (Value.pointer (some ⟨b9, 0, none⟩)) := (congrFun hf21 9).trans h9
    have h10 : fr20 10 = (Value.int .i64 x10) := (congrFun hf21 10).trans h10
    have h20 : fr20 20 = (Value.bool (decide (x10 < 5))) := (congrFun hf21 20).trans rfl
    clear hf21
    refine thenQ.n ?_
    rcases if_some hr with ⟨hc22, hr⟩ | ⟨hc326, hr⟩
    · refine W.condT h20 hc22 ?_
      refine W.skip ?_
      refine thenQ.n ?_
      refine W.seq ?_
      refine W.block ?_
      refine W.seq ?_
      refine W.region ?_
      refine SeqW.consX rfl (StepX.pure (pAssign (v := (Value.slice none 0 0)) rfl rfl) ?_)
      refine SeqW.done fun fr23 hf24 => ?_
      have h9 : fr23 9 = (Value.pointer (some ⟨b9, 0, none⟩)) := (congrFun hf24 9).trans h9
      have h10 : fr23 10 = (Value.int .i64 x10) := (congrFun hf24 10).trans h10
      have h11 : fr23 11 = (Value.slice none 0 0) := (congrFun hf24 11).trans rfl
      clear hf24
      refine thenQ.n ?_
      refine W.seq ?_
      refine W.seq ?_
      refine W.region ?_
      refine SeqW.consX rfl (StepX.pure (pMove (v := (Value.pointer (some ⟨b9, 0, none⟩))) rfl h9) ?_)
      obtain ⟨y25, hy25, hr⟩ := bind_some hr
      refine SeqW.consX rfl (StepX.call (gCallee rfl rfl (args2 rfl rfl)) ((c_Maker_Next (x0 := x9) (z := z) st.fz st.dead s9_0 ⟨bx9.blk, bx9.lt, bx9.dead, .inr rfl⟩ hy25).mono ?_))
      rintro _ m30 ⟨z26, v31, hzx27, fz28, sm29, rfl, s32, x34, -⟩
      replace s9_0 := s9_0.mono hzx27.le
      have bx9n : Bx z26 e m30 k b9 _ _ := ⟨x34.blk, x34.lt, x34.dead, bx9.fresh⟩
      replace hz := hz.trans (Zx.here st hzx27)
      replace st := st.call hzx27 fz28 sm29 bx9.hq
      refine SeqW.consX rfl (StepX.pure (pAssign (v := (Value.int .i64 y25.1)) rfl rfl) ?_)
      refine SeqW.done fun fr35 hf36 => ?_
      have h9 : fr35 9 = (Value.pointer (some ⟨b9, 0, none⟩)) := (congrFun hf36 9).trans h9
      have h10 : fr35 10 = (Value.int .i64 x10) := (congrFun hf36 10).trans h10
      have h11 : fr35 11 = (Value.slice none 0 0) := (congrFun hf36 11).trans h11
      have h12 : fr35 12 = (Value.int .i64 y25.1) := (congrFun hf36 12).trans rfl
      clear hf36
      refine thenQ.n ?_
      refine W.block ?_
      obtain ⟨y107, hy107, hr⟩ := bind_some hr
      refine W.keep (u_l07_WheelRecognizes_1 (x9 := y25.2) _ (Zx.refl _) st h9 s32 bx9n h11 OwF.nil h12 Ap.none' hy107) ?_
      rintro ex113 fr108 m109 hk111 ⟨z110, hz112, st, rfl, w114, w115, h9, s117, x119, h11, o121, a122, -⟩
      have h10 := (hk111 10 rfl).trans h10
      replace hz := hz.trans hz112
      clear hk111
      refine blockQ.hit ?_
      refine thenQ.n ?_
      refine W.seq ?_
      refine W.region ?_
      refine SeqW.consX rfl (StepX.pure (pAssign (v := (Value.slice none 0 0)) rfl rfl) ?_)
      refine SeqW.done fun fr123 hf124 => ?_
      have h9 : fr123 9 = (Value.pointer (some ⟨b9, 0, none⟩)) := (congrFun hf124 9).trans h9
      have h10 : fr123 10 = (Value.int .i64 x10) := (congrFun hf124 10).trans h10
      have h11 : fr123 11 = w115 := (congrFun hf124 11).trans h11
      have h13 : fr123 13 = (Value.slice none 0 0) := (congrFun hf124 13).trans rfl
      clear hf124
      refine thenQ.n ?_
      refine W.seq ?_
      refine W.seq ?_
      refine W.region ?_
      refine SeqW.consX rfl (StepX.pure (pMove (v := (Value.pointer (some ⟨b9, 0, none⟩))) rfl h9) ?_)
      obtain ⟨y125, hy125, hr⟩ := bind_some hr
      refine SeqW.consX rfl (StepX.call (gCallee rfl rfl (args2 rfl rfl)) ((c_Maker_Next (x0 := y107.1) (z := z110) st.fz st.dead s117 ⟨x119.blk, x119.lt, x119.dead, .inr rfl⟩ hy125).mono ?_))
      rintro _ m130 ⟨z126, v131, hzx127, fz128, sm129, rfl, s132, x134, -⟩
      replace s117 := s117.mono hzx127.le
      replace o121 := o121.call hzx127 sm129 (Ap.symm a122)
      have x119n : Bx z126 e m130 k b9 _ _ := ⟨x134.blk, x134.lt, x134.dead, x119.fresh⟩
      replace hz := hz.trans (Zx.here st hzx127)
      replace st := st.call hzx127 fz128 sm129 x119.hq
      refine SeqW.consX rfl (StepX.pure (pAssign (v := (Value.int .i64 y125.1)) rfl rfl) ?_)
      refine SeqW.done fun fr135 hf136 => ?_
      have h9 : fr135 9 = (Value.pointer (some ⟨b9, 0, none⟩)) := (congrFun hf136 9).trans h9
      have h10 : fr135 10 = (Value.int .i64 x10) := (congrFun hf136 10).trans h10
      have h11 : fr135 11 = w115 := (congrFun hf136 11).trans h11
      have h13 : fr135 13 = (Value.slice none 0 0) := (congrFun hf136 13).trans h13
      have h14 : fr135 14 = (Value.int .i64 y125.1) := (congrFun hf136 14).trans rfl
      clear hf136
      refine thenQ.n ?_
      refine W.block ?_
      obtain ⟨y260, hy260, hr⟩ := bind_some hr
      refine W.keep (u_l07_WheelRecognizes_2 (x9 := y125.2) _ (Zx.refl _) st h9 s132 x119n h11 o121 h13 OwF.nil h14 a122 Ap.none' Ap.none' hy260) ?_
      rintro ex266 fr261 m262 hk264 ⟨z263, hz265, st, rfl, w267, w268, h9, s270, x272, h13, o274, o275, a276, a277, a278, -⟩
      have h10 := (hk264 10 rfl).trans h10
      have h11 := (hk264 11 rfl).trans h11
      replace hz := hz.trans hz265
      clear hk264
      refine blockQ.hit ?_
      refine thenQ.n ?_
      refine W.seq ?_
      refine W.region ?_
      refine SeqW.consX rfl (StepX.pure (pMove (v := w115) rfl h11) ?_)
      refine SeqW.consX rfl (StepX.pure (pMove (v := w268) rfl h13) ?_)
      refine SeqW.consX rfl (StepX.pure (pMove (v := (Value.pointer (some ⟨b9, 0, none⟩))) rfl h9) ?_)
      refine SeqW.consX rfl (kBuild (T := (TInt 3 .i64)) rfl Try.underlying22 Try.type3 rfl rfl rfl rfl ([0, 1, 2, 4, 10000, 10001, (-1)] : List Int) [[(Value.int .i64 0)], [(Value.int .i64 1)], [(Value.int .i64 2)], [(Value.int .i64 4)], [(Value.int .i64 10000)], [(Value.int .i64 10001)], [(Value.int .i64 (-1))]] rfl rfl rfl (BuildOk.mk (w := (Value.int .i64 0)) rfl rfl rfl rfl (BuildOk.mk (w := (Value.int .i64 1)) rfl rfl rfl rfl (BuildOk.mk (w := (Value.int .i64 2)) rfl rfl rfl rfl (BuildOk.mk (w := (Value.int .i64 4)) rfl rfl rfl rfl (BuildOk.mk (w := (Value.int .i64 10000)) rfl rfl rfl rfl (BuildOk.mk (w := (Value.int .i64 10001)) rfl rfl rfl rfl (BuildOk.mk (w := (Value.int .i64 (-1))) rfl rfl rfl rfl trivial))))))) st ?_)
      intro v279 m280 st o281 sm282 hap283
      have a285 := hap283 _ o275.lt
      have a286 := hap283 _ x272.lt'
      have a287 := hap283 _ o274.lt
      replace o275 := o275.same sm282 Ap.none'
      replace x272 := x272.same sm282 Ap.none'
      replace o274 := o274.same sm282 Ap.none'
      obtain ⟨z288, hz289, st, s290, hl291⟩ := o281.freeze st
      replace o275 := o275.zle hz289.le (hl291 _ a285)
      replace s270 := s270.mono hz289.le
      replace x272 := x272.zle (hl291 _ a286)
      replace o274 := o274.zle hz289.le (hl291 _ a287)
      replace hz := hz.trans hz289
      obtain ⟨y292, hy292, hr⟩ := bind_some hr
      refine SeqW.consX rfl (StepX.call (gCallee rfl rfl (args2 rfl rfl)) ((c_Maker_Pick (x0 := y260.1) (z := z288) st.fz st.dead s270 ⟨x272.blk, x272.lt, x272.dead, .inr rfl⟩ s290 hy292).mono ?_))
      rintro _ m297 ⟨z293, v298, hzx294, fz295, sm296, rfl, s299, x301, -⟩
      replace o275 := o275.call hzx294 sm296 (Ap.symm a277)
      replace s270 := s270.mono hzx294.le
      replace o274 := o274.call hzx294 sm296 (Ap.symm a276)
      replace s290 := s290.mono hzx294.le
      have x272n : Bx z293 e m297 k b9 _ _ := ⟨x301.blk, x301.lt, x301.dead, x272.fresh⟩
      replace hz := hz.trans (Zx.here st hzx294)
      replace st := st.call hzx294 fz295 sm296 x272.hq
      obtain ⟨z302, hz303, st306, s304, hl305⟩ := o275.freeze st
      have o307 := o274.zle hz303.le (hl305 _ a278)
      have s308 := s299.mono hz303.le
      obtain ⟨z309, hz310, st313, s311, hl312⟩ := o307.freeze st306
      have s314 := s304.mono hz310.le
      have s315 := s308.mono hz310.le
      obtain ⟨y316, hy316, hr⟩ := bind_some hr
      refine SeqW.consX rfl (StepX.call (gCallee rfl rfl (args3 rfl rfl rfl)) ((c_l07_recognizes (z := z309) st313.fz st.dead s314 s311 hy316).mono ?_))
      rintro _ _ ⟨rfl, rfl⟩
      refine SeqW.consX rfl (StepX.pure (pNot (b := y316) rfl rfl) ?_)
      refine SeqW.done fun fr317 hf318 => ?_
      have h9 : fr317 9 = (Value.pointer (some ⟨b9, 0, none⟩)) := (congrFun hf318 9).trans h9
      have h10 : fr317 10 = (Value.int .i64 x10) := (congrFun hf318 10).trans h10
      have h67 : fr317 67 = (Value.bool (!y316)) := (congrFun hf318 67).trans rfl
      clear hf318
      refine thenQ.n ?_
      rcases if_some hr with ⟨hc319, hr⟩ | ⟨hc322, hr⟩
      · refine W.condT h67 hc319 ?_
        refine W.seq ?_
        refine W.region ?_
        refine SeqW.consX rfl (StepX.pure (pAssign (v := (Value.bool false)) rfl rfl) ?_)
        refine SeqW.done fun fr320 hf321 => ?_
        have h8 : fr320 8 = (Value.bool false) := (congrFun hf321 8).trans rfl
        clear hf321
        refine thenQ.n ?_
        refine W.ret ?_
        refine blockQ.r ?_
        refine thenQ.r ?_
        refine thenQ.r ?_
        obtain rfl := Option.some.inj hr
        exact ⟨z293, hz, st, .inr ⟨_, rfl, rfl, h8, trivial⟩⟩
      · refine W.condF h67 hc322 ?_
        refine W.skip ?_
        refine blockQ.n ?_
        refine thenQ.n ?_
        refine W.region ?_
        refine SeqW.consX rfl (StepX.pure (pMove (v := (Value.int .i64 x10)) rfl h10) ?_)
        refine SeqW.consX rfl (StepX.pure (pAdd (k := .i64) (a := x10) (b := 1) rfl rfl rfl) ?_)
        obtain ⟨y323, hy323, hr⟩ := lt_some hr
        refine SeqW.consX rfl (StepX.pure (pAssign rfl (congrArg (Value.int .i64) hy323)) ?_)
        refine SeqW.done fun fr324 hf325 => ?_
        have h9 : fr324 9 = (Value.pointer (some ⟨b9, 0, none⟩)) := (congrFun hf325 9).trans h9
        have h10 : fr324 10 = (Value.int .i64 y323) := (congrFun hf325 10).trans rfl
        clear hf325
        refine thenQ.n ?_
        exact ih (x9 := y292.2) hz st h9 s299 x272n h10 hr
    · refine W.condF h20 hc326 ?_
      refine W.exit ?_
      refine thenQ.x ?_
      refine thenQ.x ?_
      obtain rfl := Option.some.inj hr
      exact ⟨z, hz, st, .inl ⟨_, rfl, rfl, trivial⟩⟩

theorem u_l07_WheelRecognizes_4 {N : Nat}  {z0 z : Nat → Blk} {e m : Mem} {k : Option Nat} {fr : Nat → Value} {x1 : List Int} {x2 : List (List Int)} {v1 : Value} {v2 : Value} (hz : Zx e.next z0 z) (st : St z e m k) (h1 : fr 1 = v1) (s1 : SlR (TInt 3 .i64) z x1 v1) (h2 : fr 2 = v2) (s2 : SlR (TSl 22 (TInt 3 .i64)) z x2 v2) {r : Bool} (hr : l07_WheelRecognizes_4 N x1 x2 = some r) : W Try.prog (sub (bodyOf Try.f5) [1, 1, 1, 0, 0]) (fun ex fr' m' => ∃ z', Zx e.next z0 z' ∧ St z' e m' k ∧ ex = AExit.normal ∧ fr' 75 = (Value.bool r) ∧ True) fr m := by
  unfold l07_WheelRecognizes_4 at hr
  refine W.region ?_
  refine SeqW.consX rfl (StepX.pure (pMove (v := v1) rfl h1) ?_)
  refine SeqW.consX rfl (StepX.pure (pLenR (xs := x1) rfl Try.underlying22 rfl s1) ?_)
  refine SeqW.consX rfl (StepX.pure (pGtr (k := .i64) (a := (x1.length : Int)) (b := 60) rfl rfl rfl) ?_)
  refine SeqW.consX rfl (StepX.pure (pMove (v := (Value.bool (decide (60 < (x1.length : Int))))) rfl rfl) ?_)
  rcases if_some hr with ⟨hc335, hr⟩ | ⟨hc338, hr⟩
  · refine SeqW.skipG rfl rfl rfl hc335 ?_
    refine SeqW.skipG rfl rfl rfl hc335 ?_
    refine SeqW.skipG rfl rfl rfl hc335 ?_
    refine SeqW.consX rfl (StepX.pure (pPick (t := true) (v := (Value.bool true)) rfl ((congrArg Value.bool hc335)) rfl) ?_)
    refine SeqW.done fun fr336 hf337 => ?_
    have h1 : fr336 1 = v1 := (congrFun hf337 1).trans h1
    have h2 : fr336 2 = v2 := (congrFun hf337 2).trans h2
    have h75 : fr336 75 = (Value.bool true) := (congrFun hf337 75).trans rfl
    clear hf337
    obtain rfl := Option.some.inj hr
    exact ⟨z, hz, st, rfl, h75, trivial⟩
  · refine SeqW.consG rfl rfl rfl hc338 (StepX.pure (pMove (v := v2) rfl h2) ?_)
    refine SeqW.consG rfl rfl rfl hc338 (StepX.pure (pLenR (xs := x2) rfl Try.underlying23 rfl s2) ?_)
    refine SeqW.consG rfl rfl rfl hc338 (StepX.pure (pGtr (k := .i64) (a := (x2.length : Int)) (b := 20) rfl rfl rfl) ?_)
    refine SeqW.consX rfl (StepX.pure (pPick (t := false) (v := (Value.bool (decide (20 < (x2.length : Int))))) rfl ((congrArg Value.bool hc338)) rfl) ?_)
    refine SeqW.done fun fr339 hf340 => ?_
    have h1 : fr339 1 = v1 := (congrFun hf340 1).trans h1
    have h2 : fr339 2 = v2 := (congrFun hf340 2).trans h2
    have h75 : fr339 75 = (Value.bool (decide (20 < (x2.length : Int)))) := (congrFun hf340 75).trans rfl
    clear hf340
    obtain rfl := Option.some.inj hr
    exact ⟨z, hz, st, rfl, h75, trivial⟩

theorem u_l07_WheelRecognizes_5 {N : Nat}  {z0 z : Nat → Blk} {e m : Mem} {k : Option Nat} {fr : Nat → Value} {x1 : List Int} {x2 : List (List Int)} {x3 : Int} {v1 : Value} {v2 : Value} (hz : Zx e.next z0 z) (st : St z e m k) (h1 : fr 1 = v1) (s1 : SlR (TInt 3 .i64) z x1 v1) (h2 : fr 2 = v2) (s2 : SlR (TSl 22 (TInt 3 .i64)) z x2 v2) (h3 : fr 3 = (Value.int .i64 x3)) {r : Bool} (hr : l07_WheelRecognizes_5 N x1 x2 x3 = some r) : W Try.prog (sub (bodyOf Try.f5) [1, 1, 1, 1, 0]) (fun ex fr' m' => ∃ z', Zx e.next z0 z' ∧ St z' e m' k ∧ ex = AExit.normal ∧ fr' 8 = (Value.bool r) ∧ True) fr m := by
  unfold l07_WheelRecognizes_5 at hr
  refine W.region ?_
  refine SeqW.consX rfl (StepX.pure (pMove (v := v1) rfl h1) ?_)
  refine SeqW.consX rfl (StepX.pure (pMove (v := v2) rfl h2) ?_)
  refine SeqW.consX rfl (StepX.pure (pMove (v := (Value.int .i64 x3)) rfl h3) ?_)
  obtain ⟨y353, hy353, hr⟩ := bind_some hr
  refine SeqW.consX rfl (StepX.call (gCallee rfl rfl (args3 rfl rfl rfl)) ((c_l07_recognizes (z := z) st.fz st.dead s1 s2 hy353).mono ?_))
  rintro _ _ ⟨rfl, rfl⟩
  refine SeqW.consX rfl (StepX.pure (pMove (v := (Value.bool y353)) rfl rfl) ?_)
  rcases if_some hr with ⟨hc354, hr⟩ | ⟨hc363, hr⟩
  · refine SeqW.consG rfl rfl rfl hc354 (StepX.pure (pMove (v := v1) rfl h1) ?_)
    refine SeqW.consG rfl rfl rfl hc354 (StepX.pure (pMove (v := v2) rfl h2) ?_)
    obtain ⟨y355, hy355, hr⟩ := bind_some hr
    refine SeqW.consG rfl rfl rfl hc354 (StepX.call (gCallee rfl rfl (args3 rfl rfl rfl)) ((c_l07_recognizes (z := z) st.fz st.dead s1 s2 hy355).mono ?_))
    rintro _ _ ⟨rfl, rfl⟩
    refine SeqW.consX rfl (StepX.pure (pPick (t := true) (v := (Value.bool y355)) rfl ((congrArg Value.bool hc354)) rfl) ?_)
    refine SeqW.consX rfl (StepX.pure (pMove (v := (Value.bool y355)) rfl rfl) ?_)
    rcases if_some hr with ⟨hc356, hr⟩ | ⟨hc360, hr⟩
    · obtain ⟨y357, hy357, hr⟩ := bind_some hr
      refine SeqW.consG rfl rfl rfl hc356 (StepX.call (gCallee rfl rfl args0) ((c_l07_sane (z := z) st.fz st.dead  hy357).mono ?_))
      rintro _ _ ⟨rfl, rfl⟩
      refine SeqW.consX rfl (StepX.pure (pPick (t := true) (v := (Value.bool y357)) rfl ((congrArg Value.bool hc356)) rfl) ?_)
      refine SeqW.consX rfl (StepX.pure (pAssign (v := (Value.bool y357)) rfl rfl) ?_)
      refine SeqW.done fun fr358 hf359 => ?_
      have h8 : fr358 8 = (Value.bool y357) := (congrFun hf359 8).trans rfl
      clear hf359
      obtain rfl := Option.some.inj hr
      exact ⟨z, hz, st, rfl, h8, trivial⟩
    · refine SeqW.skipG rfl rfl rfl hc360 ?_
      refine SeqW.consX rfl (StepX.pure (pPick (t := false) (v := (Value.bool false)) rfl ((congrArg Value.bool hc360)) rfl) ?_)
      refine SeqW.consX rfl (StepX.pure (pAssign (v := (Value.bool false)) rfl rfl) ?_)
      refine SeqW.done fun fr361 hf362 => ?_
      have h8 : fr361 8 = (Value.bool false) := (congrFun hf362 8).trans rfl
      clear hf362
      obtain rfl := Option.some.inj hr
      exact ⟨z, hz, st, rfl, h8, trivial⟩
  · refine SeqW.skipG rfl rfl rfl hc363 ?_
    refine SeqW.skipG rfl rfl rfl hc363 ?_
    refine SeqW.skipG rfl rfl rfl hc363 ?_
    refine SeqW.consX rfl (StepX.pure (pPick (t := false) (v := (Value.bool false)) rfl ((congrArg Value.bool hc363)) rfl) ?_)
    refine SeqW.consX rfl (StepX.pure (pMove (v := (Value.bool false)) rfl rfl) ?_)
    refine SeqW.skipG rfl rfl rfl rfl ?_
    refine SeqW.consX rfl (StepX.pure (pPick (t := false) (v := (Value.bool false)) rfl ((congrArg Value.bool (rfl : false = false))) rfl) ?_)
    refine SeqW.consX rfl (StepX.pure (pAssign (v := (Value.bool false)) rfl rfl) ?_)
    refine SeqW.done fun fr364 hf365 => ?_
    have h8 : fr364 8 = (Value.bool false) := (congrFun hf365 8).trans rfl
    clear hf365
    obtain rfl := Option.some.inj hr
    exact ⟨z, hz, st, rfl, h8, trivial⟩

theorem u_l07_WheelRecognizes {N : Nat}  {z0 z : Nat → Blk} {e m : Mem} {k : Option Nat} {fr : Nat → Value} {x0 : List Int} {x1 : List Int} {x2 : List (List Int)} {x3 : Int} {v0 : Value} {v1 : Value} {v2 : Value} (hz : Zx e.next z0 z) (st : St z e m k) (h0 : fr 0 = v0) (s0 : SlR (TInt 3 .i64) z x0 v0) (h1 : fr 1 = v1) (s1 : SlR (TInt 3 .i64) z x1 v1) (h2 : fr 2 = v2) (s2 : SlR (TSl 22 (TInt 3 .i64)) z x2 v2) (h3 : fr 3 = (Value.int .i64 x3)) {r : Bool} (hr : l07_WheelRecognizes N x0 x1 x2 x3 = some r) : W Try.prog (sub (bodyOf Try.f5) []) (fun ex fr' m' => ∃ z', Zx e.next z0 z' ∧ St z' e m' k ∧ (ex = .normal ∨ ex = .ret) ∧ fr' 8 = (Value.bool r) ∧ True) fr m := by
  unfold l07_WheelRecognizes at hr
  refine W.seq ?_
  refine W.region ?_
  refine SeqW.consX rfl (StepX.pure (pAssign (v := (Value.bool false)) rfl rfl) ?_)
  refine SeqW.done fun fr1 hf2 => ?_
  have h0 : fr1 0 = v0 := (congrFun hf2 0).trans h0
  have h1 : fr1 1 = v1 := (congrFun hf2 1).trans h1
  have h2 : fr1 2 = v2 := (congrFun hf2 2).trans h2
  have h3 : fr1 3 = (Value.int .i64 x3) := (congrFun hf2 3).trans h3
  clear hf2
  refine thenQ.n ?_
  refine W.seq ?_
  refine W.region ?_
  refine SeqW.consX rfl (StepX.pure (pMove (v := v0) rfl h0) ?_)
  obtain ⟨y3, hy3, hr⟩ := bind_some hr
  refine SeqW.consX rfl (StepX.call (gCallee rfl rfl (args1 rfl)) ((c_gen_New (z := z) st.fz st.dead s0 hy3).mono ?_))
  rintro _ m8 ⟨z4, b9, v12, hzx5, fz6, sm7, rfl, s13, x10, hn15, -⟩
  replace s0 := s0.mono hzx5.le
  replace s1 := s1.mono hzx5.le
  replace s2 := s2.mono hzx5.le
  have x10 : Bx z4 e m8 k b9 _ _ := ⟨x10.blk, x10.lt, x10.dead, .inl (Nat.le_trans st.next hn15)⟩
  replace hz := hz.trans (Zx.here st hzx5)
  replace st := st.call hzx5 fz6 sm7 no_hq
  refine SeqW.consX rfl (StepX.pure (pAssign (v := (Value.pointer (some ⟨b9, 0, none⟩))) rfl rfl) ?_)
  refine SeqW.done fun fr16 hf17 => ?_
  have h1 : fr16 1 = v1 := (congrFun hf17 1).trans h1
  have h2 : fr16 2 = v2 := (congrFun hf17 2).trans h2
  have h3 : fr16 3 = (Value.int .i64 x3) := (congrFun hf17 3).trans h3
  have h9 : fr16 9 = (Value.pointer (some ⟨b9, 0, none⟩)) := (congrFun hf17 9).trans rfl
  clear hf17
  refine thenQ.n ?_
  refine W.seq ?_
  refine W.seq ?_
  refine W.region ?_
  refine SeqW.consX rfl (StepX.pure (pAssign (v := (Value.int .i64 0)) rfl rfl) ?_)
  refine SeqW.done fun fr18 hf19 => ?_
  have h1 : fr18 1 = v1 := (congrFun hf19 1).trans h1
  have h2 : fr18 2 = v2 := (congrFun hf19 2).trans h2
  have h3 : fr18 3 = (Value.int .i64 x3) := (congrFun hf19 3).trans h3
  have h9 : fr18 9 = (Value.pointer (some ⟨b9, 0, none⟩)) := (congrFun hf19 9).trans h9
  have h10 : fr18 10 = (Value.int .i64 0) := (congrFun hf19 10).trans rfl
  clear hf19
  refine thenQ.n ?_
  refine W.block ?_
  obtain ⟨y327, hy327, hr⟩ := bind_some hr
  refine W.keep (u_l07_WheelRecognizes_0 (x9 := y3) _ (Zx.refl _) st h9 s13 x10 h10 hy327) ?_
  rintro ex333 fr328 m329 hk331 ⟨z330, hz332, st, ⟨y334, rfl, rfl, -⟩ | ⟨y373, rfl, rfl, h8, -⟩⟩
  · dsimp only at hr
    replace s1 := s1.mono hz332.le
    replace s2 := s2.mono hz332.le
    have h1 := (hk331 1 rfl).trans h1
    have h2 := (hk331 2 rfl).trans h2
    have h3 := (hk331 3 rfl).trans h3
    replace hz := hz.trans hz332
    clear hk331
    refine blockQ.hit ?_
    refine thenQ.n ?_
    refine W.seq ?_
    refine W.seq ?_
    obtain ⟨y341, hy341, hr⟩ := bind_some hr
    refine W.keep (u_l07_WheelRecognizes_4 (Zx.refl _) st h1 s1 h2 s2 hy341) ?_
    rintro ex347 fr342 m343 hk345 ⟨z344, hz346, st, rfl, h75, -⟩
    replace s1 := s1.mono hz346.le
    replace s2 := s2.mono hz346.le
    have h1 := (hk345 1 rfl).trans h1
    have h2 := (hk345 2 rfl).trans h2
    have h3 := (hk345 3 rfl).trans h3
    replace hz := hz.trans hz346
    clear hk345
    refine thenQ.n ?_
    rcases if_some hr with ⟨hc348, hr⟩ | ⟨hc352, hr⟩
    · refine W.condT h75 hc348 ?_
      refine W.seq ?_
      refine W.region ?_
      obtain ⟨y349, hy349, hr⟩ := bind_some hr
      refine SeqW.consX rfl (StepX.call (gCallee rfl rfl args0) ((c_l07_sane (z := z344) st.fz st.dead  hy349).mono ?_))
      rintro _ _ ⟨rfl, rfl⟩
      refine SeqW.consX rfl (StepX.pure (pAssign (v := (Value.bool y349)) rfl rfl) ?_)
      refine SeqW.done fun fr350 hf351 => ?_
      have h8 : fr350 8 = (Value.bool y349) := (congrFun hf351 8).trans rfl
      clear hf351
      refine thenQ.n ?_
      refine W.ret ?_
      refine thenQ.r ?_
      obtain rfl := Option.some.inj hr
      exact ⟨z344, hz, st, .inr rfl, h8, trivial⟩
    · refine W.condF h75 hc352 ?_
      refine W.skip ?_
      refine thenQ.n ?_
      refine W.seq ?_
      obtain ⟨y366, hy366, hr⟩ := bind_some hr
      refine W.keep (u_l07_WheelRecognizes_5 (Zx.refl _) st h1 s1 h2 s2 h3 hy366) ?_
      rintro ex372 fr367 m368 hk370 ⟨z369, hz371, st, rfl, h8, -⟩
      replace hz := hz.trans hz371
      clear hk370
      refine thenQ.n ?_
      refine W.ret ?_
      obtain rfl := Option.some.inj hr
      exact ⟨z369, hz, st, .inr rfl, h8, trivial⟩
  · dsimp only at hr
    replace hz := hz.trans hz332
    clear hk331
    refine blockQ.r ?_
    refine thenQ.r ?_
    obtain rfl := Option.some.inj hr
    exact ⟨z330, hz, st, .inr rfl, h8, trivial⟩

theorem c_l07_WheelRecognizes {N : Nat} {z : Nat → Blk} {m : Mem} {x0 : List Int} {x1 : List Int} {x2 : List (List Int)} {x3 : Int} {v0 : Value} {v1 : Value} {v2 : Value} (fz : Fz z m) (hd : ∀ b, m.next ≤ b → m.blk b = .dead) (s0 : SlR (TInt 3 .i64) z x0 v0) (s1 : SlR (TInt 3 .i64) z x1 v1) (s2 : SlR (TSl 22 (TInt 3 .i64)) z x2 v2) {r : Bool} (hr : l07_WheelRecognizes N x0 x1 x2 x3 = some r) : CallW Try.prog 5 #[v0, v1, v2, (Value.int .i64 x3)] m fun v m' => v = (Value.bool r) ∧ m' = m := by
  refine CallW.flat Try.func5 rfl (by kernel_rfl) (Nat.le_of_ble_eq_true rfl) rfl (z := z) (fun fr hf => ?_)
  have h0 : fr 0 = _ := hf 0 _ rfl
  have h1 : fr 1 = _ := hf 1 _ rfl
  have h2 : fr 2 = _ := hf 2 _ rfl
  have h3 : fr 3 = _ := hf 3 _ rfl
  refine (u_l07_WheelRecognizes (k := none) (Zx.refl _) (St.start fz hd) h0 s0 h1 s1 h2 s2 h3 hr).mono ?_
  rintro ex fr' m' ⟨z', hz, st, he, h8, -⟩
  exact ⟨he, z', st, [(Value.bool r)], ⟨h8.symm, trivial⟩, .inl rfl, rfl⟩

end Go.W
