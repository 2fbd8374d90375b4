/- The models are what the program computes. -/
import Derived.Test.YthlaohffhjlkbaaW1
set_option linter.unusedVariables false
set_option linter.unusedSimpArgs false
set_option maxRecDepth 100000
set_option maxHeartbeats 4000000
namespace Go.W
open Go.AM Go.Proofs


/-! ### (*humpyard/humpgen.Maker).Next -/

theorem u15_0 {N : Nat}  {z0 z : Nat → Blk} {e m : Mem} {k : Option Nat} {fr : Nat → Value} {x0 : S56} {x5 : Int} {x11 : Bool} {v0_0 : Value} {b0 : Nat} (hz : Zx e.next z0 z) (st : St z e m k) (h0 : fr 0 = (Value.pointer (some ⟨b0, 0, none⟩))) (s0_0 : SlR (TInt 3 .i64) z x0.l v0_0) (bx0 : Bx z e m k b0 [v0_0, (Value.int .i64 x0.n)] 56) (h5 : fr 5 = (Value.int .i64 x5)) (h11 : fr 11 = (Value.bool x11)) {r : Int} (hr : m15_0 N x0 x5 x11 = some r) : W Try.prog (sub (bodyOf Try.f15) [1, 1, 0, 1]) (fun ex fr' m' => ∃ z', Zx e.next z0 z' ∧ St z' e m' k ∧ ex = AExit.normal ∧ fr' 5 = (Value.int .i64 r) ∧ Bx z' e m' k b0 [v0_0, (Value.int .i64 x0.n)] 56 ∧ True) fr m := by
  unfold m15_0 at hr
  rcases if_some hr with ⟨hc7, hr⟩ | ⟨hc19, hr⟩
  · refine W.condT h11 hc7 ?_
    refine W.calm (by decide) ?_
    refine SeqW.consX rfl (StepX.pure (pMove (v := (Value.pointer (some ⟨b0, 0, none⟩))) rfl h0) ?_)
    refine SeqW.consX rfl (StepX.pure (PureR.nilCheck _ _ rfl rfl) ?_)
    refine SeqW.consX rfl (kField rfl Try.underlying56 rfl Try.type22 rfl rfl rfl ?_)
    refine SeqW.consX rfl (kLoad rfl Try.underlying22 rfl rfl (bx0.load (v := v0_0) rfl) ?_)
    refine SeqW.consX rfl (StepX.pure (pMove (v := (Value.pointer (some ⟨b0, 0, none⟩))) rfl h0) ?_)
    refine SeqW.consX rfl (StepX.pure (PureR.nilCheck _ _ rfl rfl) ?_)
    refine SeqW.consX rfl (kField rfl Try.underlying56 rfl Try.type3 rfl rfl rfl ?_)
    refine SeqW.consX rfl (kLoad rfl Try.underlying3 rfl rfl (bx0.load (v := (Value.int .i64 x0.n)) rfl) ?_)
    refine SeqW.consX rfl (StepX.pure (pMove (v := (Value.pointer (some ⟨b0, 0, none⟩))) rfl h0) ?_)
    refine SeqW.consX rfl (StepX.pure (PureR.nilCheck _ _ rfl rfl) ?_)
    refine SeqW.consX rfl (kField rfl Try.underlying56 rfl Try.type22 rfl rfl rfl ?_)
    refine SeqW.consX rfl (kLoad rfl Try.underlying22 rfl rfl (bx0.load (v := v0_0) rfl) ?_)
    refine SeqW.consX rfl (StepX.pure (pLenR (xs := x0.l) rfl Try.underlying22 rfl s0_0) ?_)
    obtain ⟨y8, hy8, hr⟩ := bind_some hr
    refine SeqW.consX rfl (kRem (k1 := .i64) (a := x0.n) (b := (x0.l.length : Int)) rfl rfl rfl hy8 ?_)
    obtain ⟨y9, hy9, hr⟩ := bind_some hr
    refine SeqW.consX rfl (kIdxR (T := (TInt 3 .i64)) (xs := x0.l) (n := y8) rfl Try.underlying22 Try.type3 rfl rfl rfl s0_0 hy9 ?_)
    intro b10 f11 cs12 hd13 hc14
    obtain rfl := hd13
    refine SeqW.consX rfl (kLoad (v := (Value.int .i64 y9)) rfl Try.underlying3 rfl rfl (ldz_load st.fz (hc14 0 _ rfl)) ?_)
    refine SeqW.consX rfl (StepX.pure (pMove (v := (Value.pointer (some ⟨b0, 0, none⟩))) rfl h0) ?_)
    refine SeqW.consX rfl (StepX.pure (PureR.nilCheck _ _ rfl rfl) ?_)
    refine SeqW.consX rfl (kField rfl Try.underlying56 rfl Try.type3 rfl rfl rfl ?_)
    refine SeqW.consX rfl (kLoad rfl Try.underlying3 rfl rfl (bx0.load (v := (Value.int .i64 x0.n)) rfl) ?_)
    refine SeqW.consX rfl (StepX.pure (pMove (v := (Value.pointer (some ⟨b0, 0, none⟩))) rfl h0) ?_)
    refine SeqW.consX rfl (StepX.pure (PureR.nilCheck _ _ rfl rfl) ?_)
    refine SeqW.consX rfl (kField rfl Try.underlying56 rfl Try.type22 rfl rfl rfl ?_)
    refine SeqW.consX rfl (kLoad rfl Try.underlying22 rfl rfl (bx0.load (v := v0_0) rfl) ?_)
    refine SeqW.consX rfl (StepX.pure (pLenR (xs := x0.l) rfl Try.underlying22 rfl s0_0) ?_)
    obtain ⟨y15, hy15, hr⟩ := bind_some hr
    refine SeqW.consX rfl (kQuo (k1 := .i64) (a := x0.n) (b := (x0.l.length : Int)) rfl rfl rfl hy15 ?_)
    refine SeqW.consX rfl (StepX.pure (pMul (k := .i64) (a := (IntKind.wrap .i64 (y15))) (b := 7919) rfl rfl rfl) ?_)
    refine SeqW.consX rfl (StepX.pure (pAdd (k := .i64) (a := y9) (b := (IntKind.wrap .i64 ((IntKind.wrap .i64 (y15)) * 7919))) rfl rfl rfl) ?_)
    obtain ⟨y16, hy16, hr⟩ := lt_some hr
    refine SeqW.consX rfl (StepX.pure (pAssign rfl (congrArg (Value.int .i64) hy16)) ?_)
    refine SeqW.done fun fr17 hf18 => ?_
    have h0 : fr17 0 = (Value.pointer (some ⟨b0, 0, none⟩)) := (congrFun hf18 0).trans h0
    have h5 : fr17 5 = (Value.int .i64 y16) := (congrFun hf18 5).trans rfl
    clear hf18
    obtain rfl := Option.some.inj hr
    exact ⟨z, hz, st, rfl, h5, bx0, trivial⟩
  · refine W.condF h11 hc19 ?_
    refine W.skip ?_
    obtain rfl := Option.some.inj hr
    exact ⟨z, hz, st, rfl, h5, bx0, trivial⟩

theorem u15_1 {N : Nat}  {z0 z : Nat → Blk} {e m : Mem} {k : Option Nat} {fr : Nat → Value} {x1 : Int} {x5 : Int} {x51 : Bool} {x0 : S56} {v0_0 : Value} {b0 : Nat} (hz : Zx e.next z0 z) (st : St z e m k) (h0 : fr 0 = (Value.pointer (some ⟨b0, 0, none⟩))) (s0_0 : SlR (TInt 3 .i64) z x0.l v0_0) (bx0 : Bx z e m k b0 [v0_0, (Value.int .i64 x0.n)] 56) (h1 : fr 1 = (Value.int .i64 x1)) (h5 : fr 5 = (Value.int .i64 x5)) (h51 : fr 51 = (Value.bool x51)) {r : Int} (hr : m15_1 N x1 x5 x51 = some r) : W Try.prog (sub (bodyOf Try.f15) [1, 1, 1, 1, 1, 0, 1]) (fun ex fr' m' => ∃ z', Zx e.next z0 z' ∧ St z' e m' k ∧ ex = AExit.normal ∧ fr' 5 = (Value.int .i64 r) ∧ Bx z' e m' k b0 [v0_0, (Value.int .i64 x0.n)] 56 ∧ True) fr m := by
  unfold m15_1 at hr
  rcases if_some hr with ⟨hc37, hr⟩ | ⟨hc41, hr⟩
  · refine W.condT h51 hc37 ?_
    refine W.region ?_
    refine SeqW.consX rfl (StepX.pure (pMove (v := (Value.int .i64 x5)) rfl h5) ?_)
    refine SeqW.consX rfl (StepX.pure (pMove (v := (Value.int .i64 x1)) rfl h1) ?_)
    refine SeqW.consX rfl (StepX.pure (pAdd (k := .i64) (a := x5) (b := x1) rfl rfl rfl) ?_)
    obtain ⟨y38, hy38, hr⟩ := lt_some hr
    refine SeqW.consX rfl (StepX.pure (pAssign rfl (congrArg (Value.int .i64) hy38)) ?_)
    refine SeqW.done fun fr39 hf40 => ?_
    have h0 : fr39 0 = (Value.pointer (some ⟨b0, 0, none⟩)) := (congrFun hf40 0).trans h0
    have h5 : fr39 5 = (Value.int .i64 y38) := (congrFun hf40 5).trans rfl
    clear hf40
    obtain rfl := Option.some.inj hr
    exact ⟨z, hz, st, rfl, h5, bx0, trivial⟩
  · refine W.condF h51 hc41 ?_
    refine W.skip ?_
    obtain rfl := Option.some.inj hr
    exact ⟨z, hz, st, rfl, h5, bx0, trivial⟩

theorem u15 {N : Nat}  {z0 z : Nat → Blk} {e m : Mem} {k : Option Nat} {fr : Nat → Value} {x0 : S56} {x1 : Int} {v0_0 : Value} {b0 : Nat} (hz : Zx e.next z0 z) (st : St z e m k) (h0 : fr 0 = (Value.pointer (some ⟨b0, 0, none⟩))) (s0_0 : SlR (TInt 3 .i64) z x0.l v0_0) (bx0 : Bx z e m k b0 [v0_0, (Value.int .i64 x0.n)] 56) (h1 : fr 1 = (Value.int .i64 x1)) {r : Int × S56} (hr : m15 N x0 x1 = some r) : W Try.prog (sub (bodyOf Try.f15) []) (fun ex fr' m' => ∃ z', Zx e.next z0 z' ∧ St z' e m' k ∧ (ex = .normal ∨ ex = .ret) ∧ ∃ (wr_0 : Value), fr' 4 = (Value.int .i64 r.1) ∧ SlR (TInt 3 .i64) z' r.2.l wr_0 ∧ Bx z' e m' k b0 [wr_0, (Value.int .i64 r.2.n)] 56 ∧ True) fr m := by
  unfold m15 at hr
  refine W.seq ?_
  refine W.region ?_
  refine SeqW.consX rfl (StepX.pure (pAssign (v := (Value.int .i64 0)) rfl rfl) ?_)
  refine SeqW.done fun fr1 hf2 => ?_
  have h0 : fr1 0 = (Value.pointer (some ⟨b0, 0, none⟩)) := (congrFun hf2 0).trans h0
  have h1 : fr1 1 = (Value.int .i64 x1) := (congrFun hf2 1).trans h1
  clear hf2
  refine thenQ.n ?_
  refine W.seq ?_
  refine W.region ?_
  refine SeqW.consX rfl (StepX.pure (pAssign (v := (Value.int .i64 0)) rfl rfl) ?_)
  refine SeqW.done fun fr3 hf4 => ?_
  have h0 : fr3 0 = (Value.pointer (some ⟨b0, 0, none⟩)) := (congrFun hf4 0).trans h0
  have h1 : fr3 1 = (Value.int .i64 x1) := (congrFun hf4 1).trans h1
  have h5 : fr3 5 = (Value.int .i64 0) := (congrFun hf4 5).trans rfl
  clear hf4
  refine thenQ.n ?_
  refine W.seq ?_
  refine W.seq ?_
  refine W.region ?_
  refine SeqW.consX rfl (StepX.pure (pMove (v := (Value.pointer (some ⟨b0, 0, none⟩))) rfl h0) ?_)
  refine SeqW.consX rfl (StepX.pure (PureR.nilCheck _ _ rfl rfl) ?_)
  refine SeqW.consX rfl (kField rfl Try.underlying56 rfl Try.type22 rfl rfl rfl ?_)
  refine SeqW.consX rfl (kLoad rfl Try.underlying22 rfl rfl (bx0.load (v := v0_0) rfl) ?_)
  refine SeqW.consX rfl (StepX.pure (pLenR (xs := x0.l) rfl Try.underlying22 rfl s0_0) ?_)
  refine SeqW.consX rfl (StepX.pure (pGtr (k := .i64) (a := (x0.l.length : Int)) (b := 0) rfl rfl rfl) ?_)
  refine SeqW.done fun fr5 hf6 => ?_
  have h0 : fr5 0 = (Value.pointer (some ⟨b0, 0, none⟩)) := (congrFun hf6 0).trans h0
  have h1 : fr5 1 = (Value.int .i64 x1) := (congrFun hf6 1).trans h1
  have h5 : fr5 5 = (Value.int .i64 0) := (congrFun hf6 5).trans h5
  have h11 : fr5 11 = (Value.bool (decide (0 < (x0.l.length : Int)))) := (congrFun hf6 11).trans rfl
  clear hf6
  refine thenQ.n ?_
  obtain ⟨y20, hy20, hr⟩ := bind_some hr
  refine W.keep (u15_0 (x0 := x0) (Zx.refl _) st h0 s0_0 bx0 h5 h11 hy20) ?_
  rintro ex26 fr21 m22 hk24 ⟨z23, hz25, st, rfl, h5, o27, -⟩
  replace s0_0 := s0_0.mono hz25.le
  have h0 := (hk24 0 rfl).trans h0
  have h1 := (hk24 1 rfl).trans h1
  replace hz := hz.trans hz25
  clear hk24
  refine thenQ.n ?_
  refine W.seq ?_
  refine W.region ?_
  refine SeqW.consX rfl (StepX.pure (pMove (v := (Value.pointer (some ⟨b0, 0, none⟩))) rfl h0) ?_)
  refine SeqW.consX rfl (StepX.pure (PureR.nilCheck _ _ rfl rfl) ?_)
  refine SeqW.consX rfl (kField rfl Try.underlying56 rfl Try.type3 rfl rfl rfl ?_)
  refine SeqW.consX rfl (kLoad rfl Try.underlying3 rfl rfl (o27.load (v := (Value.int .i64 x0.n)) rfl) ?_)
  refine SeqW.consX rfl (StepX.pure (pAdd (k := .i64) (a := x0.n) (b := 1) rfl rfl rfl) ?_)
  refine SeqW.consX rfl (StepX.pure (PureR.nilCheck _ _ rfl rfl) ?_)
  refine SeqW.consX rfl (kField rfl Try.underlying56 rfl Try.type3 rfl rfl rfl ?_)
  refine SeqW.consX rfl (kPut (off := 1) (w := (Value.int .i64 (IntKind.wrap .i64 (x0.n + 1)))) (new := [(Value.int .i64 (IntKind.wrap .i64 (x0.n + 1)))]) rfl Try.type3 rfl rfl rfl rfl rfl o27 rfl [v0_0, (Value.int .i64 (IntKind.wrap .i64 (x0.n + 1)))] rfl st ?_)
  intro m28 st o27 sm29
  refine SeqW.done fun fr30 hf31 => ?_
  have h0 : fr30 0 = (Value.pointer (some ⟨b0, 0, none⟩)) := (congrFun hf31 0).trans h0
  have h1 : fr30 1 = (Value.int .i64 x1) := (congrFun hf31 1).trans h1
  have h5 : fr30 5 = (Value.int .i64 y20) := (congrFun hf31 5).trans h5
  clear hf31
  refine thenQ.n ?_
  refine W.seq ?_
  refine W.region ?_
  refine SeqW.consX rfl (StepX.pure (pMove (v := (Value.int .i64 y20)) rfl h5) ?_)
  refine SeqW.consX rfl (StepX.pure (pMove (v := (Value.int .i64 x1)) rfl h1) ?_)
  obtain ⟨y32, hy32, hr⟩ := bind_some hr
  refine SeqW.consX rfl (kRem (k1 := .i64) (a := y20) (b := x1) rfl rfl rfl hy32 ?_)
  refine SeqW.consX rfl (StepX.pure (pAssign (v := (Value.int .i64 y32)) rfl rfl) ?_)
  refine SeqW.done fun fr33 hf34 => ?_
  have h0 : fr33 0 = (Value.pointer (some ⟨b0, 0, none⟩)) := (congrFun hf34 0).trans h0
  have h1 : fr33 1 = (Value.int .i64 x1) := (congrFun hf34 1).trans h1
  have h5 : fr33 5 = (Value.int .i64 y32) := (congrFun hf34 5).trans rfl
  clear hf34
  refine thenQ.n ?_
  refine W.seq ?_
  refine W.seq ?_
  refine W.region ?_
  refine SeqW.consX rfl (StepX.pure (pMove (v := (Value.int .i64 y32)) rfl h5) ?_)
  refine SeqW.consX rfl (StepX.pure (pLss (k := .i64) (a := y32) (b := 0) rfl rfl rfl) ?_)
  refine SeqW.done fun fr35 hf36 => ?_
  have h0 : fr35 0 = (Value.pointer (some ⟨b0, 0, none⟩)) := (congrFun hf36 0).trans h0
  have h1 : fr35 1 = (Value.int .i64 x1) := (congrFun hf36 1).trans h1
  have h5 : fr35 5 = (Value.int .i64 y32) := (congrFun hf36 5).trans h5
  have h51 : fr35 51 = (Value.bool (decide (y32 < 0))) := (congrFun hf36 51).trans rfl
  clear hf36
  refine thenQ.n ?_
  obtain ⟨y42, hy42, hr⟩ := bind_some hr
  refine W.keep (u15_1 (x0 := (S56.mk x0.l (IntKind.wrap .i64 (x0.n + 1)))) (Zx.refl _) st h0 s0_0 o27 h1 h5 h51 hy42) ?_
  rintro ex48 fr43 m44 hk46 ⟨z45, hz47, st, rfl, h5, o49, -⟩
  replace s0_0 := s0_0.mono hz47.le
  have h0 := (hk46 0 rfl).trans h0
  replace hz := hz.trans hz47
  clear hk46
  refine thenQ.n ?_
  refine W.seq ?_
  refine W.region ?_
  refine SeqW.consX rfl (StepX.pure (pMove (v := (Value.int .i64 y42)) rfl h5) ?_)
  refine SeqW.consX rfl (StepX.pure (pAssign (v := (Value.int .i64 y42)) rfl rfl) ?_)
  refine SeqW.done fun fr50 hf51 => ?_
  have h0 : fr50 0 = (Value.pointer (some ⟨b0, 0, none⟩)) := (congrFun hf51 0).trans h0
  have h4 : fr50 4 = (Value.int .i64 y42) := (congrFun hf51 4).trans rfl
  clear hf51
  refine thenQ.n ?_
  refine W.ret ?_
  obtain rfl := Option.some.inj hr
  exact ⟨z45, hz, st, .inr rfl, v0_0, h4, s0_0, o49, trivial⟩

theorem c15 {N : Nat} {z : Nat → Blk} {m : Mem} {x0 : S56} {x1 : Int} {v0_0 : Value} {b0 : Nat} (fz : Fz z m) (hd : ∀ b, m.next ≤ b → m.blk b = .dead) (s0_0 : SlR (TInt 3 .i64) z x0.l v0_0) (bx0 : Bx z m m (some b0) b0 [v0_0, (Value.int .i64 x0.n)] 56) {r : Int × S56} (hr : m15 N x0 x1 = some r) : CallW Try.prog 15 #[(Value.pointer (some ⟨b0, 0, none⟩)), (Value.int .i64 x1)] m fun v m' => ∃ z' wr_0, Zx m.next z z' ∧ Fz z' m' ∧ Same m m' (some b0) ∧ v = (Value.int .i64 r.1) ∧ SlR (TInt 3 .i64) z' r.2.l wr_0 ∧ Bx z' m m' (some b0) b0 [wr_0, (Value.int .i64 r.2.n)] 56 ∧ True := by
  refine CallW.any Try.func15 rfl (by kernel_rfl) (Nat.le_of_ble_eq_true rfl) (fun fr hf => ?_)
  have h0 : fr 0 = _ := hf 0 _ rfl
  have h1 : fr 1 = _ := hf 1 _ rfl
  refine (u15 (k := (some b0)) (Zx.refl _) (St.start fz hd) h0 s0_0 bx0 h1 hr).mono ?_
  rintro ex fr' m' ⟨z', hz, st, he, wr_0, h4, sr_0, bxr, -⟩
  exact ⟨he, [(Value.int .i64 r.1)], ⟨h4.symm, trivial⟩, .inl rfl, z', wr_0, hz, st.fz, st.toSame, rfl, sr_0, bxr, trivial⟩

/-! ### (*humpyard/humpgen.Maker).Pick -/

theorem u16 {N : Nat}  {z0 z : Nat → Blk} {e m : Mem} {k : Option Nat} {fr : Nat → Value} {x0 : S56} {x1 : List Int} {v0_0 : Value} {b0 : Nat} {v1 : Value} (hz : Zx e.next z0 z) (st : St z e m k) (h0 : fr 0 = (Value.pointer (some ⟨b0, 0, none⟩))) (s0_0 : SlR (TInt 3 .i64) z x0.l v0_0) (bx0 : Bx z e m k b0 [v0_0, (Value.int .i64 x0.n)] 56) (h1 : fr 1 = v1) (s1 : SlR (TInt 3 .i64) z x1 v1) {r : Int × S56} (hr : m16 N x0 x1 = some r) : W Try.prog (sub (bodyOf Try.f16) []) (fun ex fr' m' => ∃ z', Zx e.next z0 z' ∧ St z' e m' k ∧ (ex = .normal ∨ ex = .ret) ∧ ∃ (wr_0 : Value), fr' 4 = (Value.int .i64 r.1) ∧ SlR (TInt 3 .i64) z' r.2.l wr_0 ∧ Bx z' e m' k b0 [wr_0, (Value.int .i64 r.2.n)] 56 ∧ True) fr m := by
  unfold m16 at hr
  refine W.seq ?_
  refine W.region ?_
  refine SeqW.consX rfl (StepX.pure (pAssign (v := (Value.int .i64 0)) rfl rfl) ?_)
  refine SeqW.done fun fr1 hf2 => ?_
  have h0 : fr1 0 = (Value.pointer (some ⟨b0, 0, none⟩)) := (congrFun hf2 0).trans h0
  have h1 : fr1 1 = v1 := (congrFun hf2 1).trans h1
  clear hf2
  refine thenQ.n ?_
  refine W.seq ?_
  refine W.region ?_
  refine SeqW.consX rfl (StepX.pure (pMove (v := v1) rfl h1) ?_)
  refine SeqW.consX rfl (StepX.pure (pMove (v := (Value.pointer (some ⟨b0, 0, none⟩))) rfl h0) ?_)
  refine SeqW.consX rfl (StepX.pure (pMove (v := v1) rfl h1) ?_)
  refine SeqW.consX rfl (StepX.pure (pLenR (xs := x1) rfl Try.underlying22 rfl s1) ?_)
  obtain ⟨y3, hy3, hr⟩ := bind_some hr
  refine SeqW.consX rfl (StepX.call (gCallee rfl rfl (args2 rfl rfl)) ((c15 (x0 := x0) (z := z) st.fz st.dead s0_0 ⟨bx0.blk, bx0.lt, bx0.dead, .inr rfl⟩ hy3).mono ?_))
  rintro _ m8 ⟨z4, v9, hzx5, fz6, sm7, rfl, s10, x12, -⟩
  replace s0_0 := s0_0.mono hzx5.le
  replace s1 := s1.mono hzx5.le
  have bx0n : Bx z4 e m8 k b0 _ _ := ⟨x12.blk, x12.lt, x12.dead, bx0.fresh⟩
  replace hz := hz.trans (Zx.here st hzx5)
  replace st := st.call hzx5 fz6 sm7 bx0.hq
  obtain ⟨y13, hy13, hr⟩ := bind_some hr
  refine SeqW.consX rfl (kIdxR (T := (TInt 3 .i64)) (xs := x1) (n := y3.1) rfl Try.underlying22 Try.type3 rfl rfl rfl s1 hy13 ?_)
  intro b14 f15 cs16 hd17 hc18
  obtain rfl := hd17
  refine SeqW.consX rfl (kLoad (v := (Value.int .i64 y13)) rfl Try.underlying3 rfl rfl (ldz_load st.fz (hc18 0 _ rfl)) ?_)
  refine SeqW.consX rfl (StepX.pure (pAssign (v := (Value.int .i64 y13)) rfl rfl) ?_)
  refine SeqW.done fun fr19 hf20 => ?_
  have h0 : fr19 0 = (Value.pointer (some ⟨b0, 0, none⟩)) := (congrFun hf20 0).trans h0
  have h4 : fr19 4 = (Value.int .i64 y13) := (congrFun hf20 4).trans rfl
  clear hf20
  refine thenQ.n ?_
  refine W.ret ?_
  obtain rfl := Option.some.inj hr
  exact ⟨z4, hz, st, .inr rfl, v9, h4, s10, bx0n, trivial⟩

theorem c16 {N : Nat} {z : Nat → Blk} {m : Mem} {x0 : S56} {x1 : List Int} {v0_0 : Value} {b0 : Nat} {v1 : Value} (fz : Fz z m) (hd : ∀ b, m.next ≤ b → m.blk b = .dead) (s0_0 : SlR (TInt 3 .i64) z x0.l v0_0) (bx0 : Bx z m m (some b0) b0 [v0_0, (Value.int .i64 x0.n)] 56) (s1 : SlR (TInt 3 .i64) z x1 v1) {r : Int × S56} (hr : m16 N x0 x1 = some r) : CallW Try.prog 16 #[(Value.pointer (some ⟨b0, 0, none⟩)), v1] m fun v m' => ∃ z' wr_0, Zx m.next z z' ∧ Fz z' m' ∧ Same m m' (some b0) ∧ v = (Value.int .i64 r.1) ∧ SlR (TInt 3 .i64) z' r.2.l wr_0 ∧ Bx z' m m' (some b0) b0 [wr_0, (Value.int .i64 r.2.n)] 56 ∧ True := by
  refine CallW.any Try.func16 rfl (by kernel_rfl) (Nat.le_of_ble_eq_true rfl) (fun fr hf => ?_)
  have h0 : fr 0 = _ := hf 0 _ rfl
  have h1 : fr 1 = _ := hf 1 _ rfl
  refine (u16 (k := (some b0)) (Zx.refl _) (St.start fz hd) h0 s0_0 bx0 h1 s1 hr).mono ?_
  rintro ex fr' m' ⟨z', hz, st, he, wr_0, h4, sr_0, bxr, -⟩
  exact ⟨he, [(Value.int .i64 r.1)], ⟨h4.symm, trivial⟩, .inl rfl, z', wr_0, hz, st.fz, st.toSame, rfl, sr_0, bxr, trivial⟩

/-! ### (*humpyard/humpgen.Maker).Digits -/

theorem u41_0 : ∀ (n : Nat) {N : Nat}  {z0 z : Nat → Blk} {e m : Mem} {k : Option Nat} {fr : Nat → Value} {x0 : S56} {x1 : Int} {x5 : List UInt8} {x6 : Int} {v0_0 : Value} {b0 : Nat} {v5 : Value} (hz : Zx e.next z0 z) (st : St z e m k) (h0 : fr 0 = (Value.pointer (some ⟨b0, 0, none⟩))) (s0_0 : SlR (TInt 3 .i64) z x0.l v0_0) (bx0 : Bx z e m k b0 [v0_0, (Value.int .i64 x0.n)] 56) (h1 : fr 1 = (Value.int .i64 x1)) (h5 : fr 5 = v5) (o5 : OwF (TU8 5) z e m k x5 v5) (h6 : fr 6 = (Value.int .i64 x6)) (ao0_o5 : Ap (some b0) (blkOf v5)) {r : S56 × List UInt8} (hr : m41_0 N x1 n x0 x5 x6 = some r), W Try.prog (sub (bodyOf Try.f41) [1, 1, 0, 1, 0]) (fun ex fr' m' => ∃ z', Zx e.next z0 z' ∧ St z' e m' k ∧ ex = AExit.exit 0 ∧ ∃ (w0_0 : Value), fr' 0 = (Value.pointer (some ⟨b0, 0, none⟩)) ∧ SlR (TInt 3 .i64) z' r.1.l w0_0 ∧ Bx z' e m' k b0 [w0_0, (Value.int .i64 r.1.n)] 56 ∧ fr' 5 = v5 ∧ OwF (TU8 5) z' e m' k r.2 v5 ∧ Ap (some b0) (blkOf v5) ∧ True) fr m := by
  intro n
  induction n with
  | zero => intro N z0 z e m k fr x0 x1 x5 x6 v0_0 b0 v5 hz st h0 s0_0 bx0 h1 h5 o5 h6 ao0_o5 r hr; cases (show (none : Option _) = some r from hr)
  | succ n ih =>
    intro N z0 z e m k fr x0 x1 x5 x6 v0_0 b0 v5 hz st h0 s0_0 bx0 h1 h5 o5 h6 ao0_o5 r hr
    unfold m41_0 at hr
    refine W.loop1 ?_
    refine W.seq ?_
    refine W.seq ?_
    refine W.region ?_
    refine SeqW.consX rfl (StepX.pure (pMove (v := (Value.int .i64 x6)) rfl h6) ?_)
    refine SeqW.consX rfl (StepX.pure (pMove (v := (Value.int .i64 x1)) rfl h1) ?_)
    refine SeqW.consX rfl (StepX.pure (pLss (k := .i64) (a := x6) (b := x1) rfl rfl rfl) ?_)
    refine SeqW.done fun fr15 hf16 => ?_
    have h0 : fr15 0 = (Value.pointer (some ⟨b0, 0, none⟩)) := (congrFun hf16 0).trans h0
    have h1 : fr15 1 = (Value.int .i64 x1) := (congrFun hf16 1).trans h1
    have h5 : fr15 5 = v5 := (congrFun hf16 5).trans h5
    have h6 : fr15 6 = (Value.int .i64 x6) := (congrFun hf16 6).trans h6
    have h11 : fr15 11 = (Value.bool (decide (x6 < x1))) := (congrFun hf16 11).trans rfl
    clear hf16
    refine thenQ.n ?_
    rcases if_some hr with ⟨hc17, hr⟩ | ⟨hc46, hr⟩
    · refine W.condT h11 hc17 ?_
      refine W.skip ?_
      refine thenQ.n ?_
      refine W.seq ?_
      refine W.block ?_
      refine W.region ?_
      refine SeqW.consX rfl (StepX.pure (pMove (v := v5) rfl h5) ?_)
      refine SeqW.consX rfl (StepX.pure (pMove (v := (Value.int .i64 x6)) rfl h6) ?_)
      refine SeqW.consX rfl (StepX.pure (pMove (v := (Value.pointer (some ⟨b0, 0, none⟩))) rfl h0) ?_)
      obtain ⟨y18, hy18, hr⟩ := bind_some hr
      refine SeqW.consX rfl (StepX.call (gCallee rfl rfl (args2 rfl rfl)) ((c15 (x0 := x0) (z := z) st.fz st.dead s0_0 ⟨bx0.blk, bx0.lt, bx0.dead, .inr rfl⟩ hy18).mono ?_))
      rintro _ m23 ⟨z19, v24, hzx20, fz21, sm22, rfl, s25, x27, -⟩
      replace s0_0 := s0_0.mono hzx20.le
      replace o5 := o5.call hzx20 sm22 (Ap.symm ao0_o5)
      have bx0n : Bx z19 e m23 k b0 _ _ := ⟨x27.blk, x27.lt, x27.dead, bx0.fresh⟩
      replace hz := hz.trans (Zx.here st hzx20)
      replace st := st.call hzx20 fz21 sm22 bx0.hq
      refine SeqW.consX rfl (StepX.pure (pAdd (k := .i64) (a := 48) (b := y18.1) rfl rfl rfl) ?_)
      refine SeqW.consX rfl (StepX.pure (pConv (k := .i64) (a := (IntKind.wrap .i64 (48 + y18.1))) rfl Try.underlying3 Try.underlying5 rfl) ?_)
      obtain ⟨y28, hy28, hr⟩ := bind_some hr
      refine SeqW.consX rfl (kIdxO (T := (TU8 5)) (xs := x5) (n := x6) rfl Try.underlying66 Try.type5 rfl rfl rfl o5 hy28 ?_)
      intro b29 l30 c31 cs32 hv33 hd34 hg35 hc36
      have hd340 := hd34
      obtain rfl := hd340
      obtain ⟨y39, hy39, hr⟩ := bind_some hr
      refine SeqW.consX rfl (kSet (T := (TU8 5)) (off := (x6 : Int).toNat * ((TU8 5)).sz) (n := (x6 : Int).toNat) (f := 0) (w := (Value.int .u8 (UInt8.toNat y39 : Int))) (new := [(Value.int .u8 (UInt8.toNat y39 : Int))]) (ecs := [(Value.int .u8 (UInt8.toNat y28 : Int))]) (ecs' := [(Value.int .u8 (UInt8.toNat y39 : Int))]) (a := y28) (a' := y39) rfl Try.type5 rfl rfl (by rw [← toU8_some hy39]; exact rfl) rfl rfl rfl o5 hv33 hg35 hd34 hc36 rfl rfl rfl st ?_)
      intro m37 st o5 sm38
      obtain ⟨y40, hy40, hr⟩ := lt_some hr
      rw [hy40] at o5
      replace bx0n := bx0n.same sm38 ao0_o5
      refine SeqW.done fun fr41 hf42 => ?_
      have h0 : fr41 0 = (Value.pointer (some ⟨b0, 0, none⟩)) := (congrFun hf42 0).trans h0
      have h1 : fr41 1 = (Value.int .i64 x1) := (congrFun hf42 1).trans h1
      have h5 : fr41 5 = v5 := (congrFun hf42 5).trans h5
      have h6 : fr41 6 = (Value.int .i64 x6) := (congrFun hf42 6).trans h6
      clear hf42
      refine blockQ.n ?_
      refine thenQ.n ?_
      refine W.region ?_
      refine SeqW.consX rfl (StepX.pure (pMove (v := (Value.int .i64 x6)) rfl h6) ?_)
      refine SeqW.consX rfl (StepX.pure (pAdd (k := .i64) (a := x6) (b := 1) rfl rfl rfl) ?_)
      obtain ⟨y43, hy43, hr⟩ := lt_some hr
      refine SeqW.consX rfl (StepX.pure (pAssign rfl (congrArg (Value.int .i64) hy43)) ?_)
      refine SeqW.done fun fr44 hf45 => ?_
      have h0 : fr44 0 = (Value.pointer (some ⟨b0, 0, none⟩)) := (congrFun hf45 0).trans h0
      have h1 : fr44 1 = (Value.int .i64 x1) := (congrFun hf45 1).trans h1
      have h5 : fr44 5 = v5 := (congrFun hf45 5).trans h5
      have h6 : fr44 6 = (Value.int .i64 y43) := (congrFun hf45 6).trans rfl
      clear hf45
      refine thenQ.n ?_
      exact ih (x0 := y18.2) hz st h0 s25 bx0n h1 h5 o5 h6 ao0_o5 hr
    · refine W.condF h11 hc46 ?_
      refine W.exit ?_
      refine thenQ.x ?_
      refine thenQ.x ?_
      obtain rfl := Option.some.inj hr
      exact ⟨z, hz, st, rfl, v0_0, h0, s0_0, bx0, h5, o5, ao0_o5, trivial⟩

theorem u41 {N : Nat}  {z0 z : Nat → Blk} {e m : Mem} {k : Option Nat} {fr : Nat → Value} {x0 : S56} {x1 : Int} {v0_0 : Value} {b0 : Nat} (hz : Zx e.next z0 z) (st : St z e m k) (h0 : fr 0 = (Value.pointer (some ⟨b0, 0, none⟩))) (s0_0 : SlR (TInt 3 .i64) z x0.l v0_0) (bx0 : Bx z e m k b0 [v0_0, (Value.int .i64 x0.n)] 56) (h1 : fr 1 = (Value.int .i64 x1)) {r : List UInt8 × S56} (hr : m41 N x0 x1 = some r) : W Try.prog (sub (bodyOf Try.f41) []) (fun ex fr' m' => ∃ z', Zx e.next z0 z' ∧ St z' e m' k ∧ (ex = .normal ∨ ex = .ret) ∧ ∃ (wr_0 : Value), fr' 4 = (str r.1) ∧ SlR (TInt 3 .i64) z' r.2.l wr_0 ∧ Bx z' e m' k b0 [wr_0, (Value.int .i64 r.2.n)] 56 ∧ True) fr m := by
  unfold m41 at hr
  refine W.seq ?_
  refine W.region ?_
  refine SeqW.consX rfl (StepX.pure (pAssign (v := (str [])) rfl rfl) ?_)
  refine SeqW.done fun fr1 hf2 => ?_
  have h0 : fr1 0 = (Value.pointer (some ⟨b0, 0, none⟩)) := (congrFun hf2 0).trans h0
  have h1 : fr1 1 = (Value.int .i64 x1) := (congrFun hf2 1).trans h1
  clear hf2
  refine thenQ.n ?_
  refine W.seq ?_
  refine W.region ?_
  refine SeqW.consX rfl (StepX.pure (pMove (v := (Value.int .i64 x1)) rfl h1) ?_)
  obtain ⟨y3, hy3, hr⟩ := bind_some hr
  refine SeqW.consX rfl (kMake (T := (TU8 5)) (x0 := 0) (n := x1) rfl Try.underlying66 Try.type5 rfl rfl rfl rfl rfl rfl rfl rfl st hy3 ?_)
  intro v4 m5 st o6 sm7 hap8
  have a10 := hap8 _ bx0.lt'
  replace bx0 := bx0.same sm7 Ap.none'
  refine SeqW.consX rfl (StepX.pure (pAssign (v := v4) rfl rfl) ?_)
  refine SeqW.done fun fr11 hf12 => ?_
  have h0 : fr11 0 = (Value.pointer (some ⟨b0, 0, none⟩)) := (congrFun hf12 0).trans h0
  have h1 : fr11 1 = (Value.int .i64 x1) := (congrFun hf12 1).trans h1
  have h5 : fr11 5 = v4 := (congrFun hf12 5).trans rfl
  clear hf12
  refine thenQ.n ?_
  refine W.seq ?_
  refine W.seq ?_
  refine W.region ?_
  refine SeqW.consX rfl (StepX.pure (pAssign (v := (Value.int .i64 0)) rfl rfl) ?_)
  refine SeqW.done fun fr13 hf14 => ?_
  have h0 : fr13 0 = (Value.pointer (some ⟨b0, 0, none⟩)) := (congrFun hf14 0).trans h0
  have h1 : fr13 1 = (Value.int .i64 x1) := (congrFun hf14 1).trans h1
  have h5 : fr13 5 = v4 := (congrFun hf14 5).trans h5
  have h6 : fr13 6 = (Value.int .i64 0) := (congrFun hf14 6).trans rfl
  clear hf14
  refine thenQ.n ?_
  refine W.block ?_
  obtain ⟨y47, hy47, hr⟩ := bind_some hr
  refine W.keep (u41_0 (x0 := x0) _ (Zx.refl _) st h0 s0_0 bx0 h1 h5 o6 h6 a10 hy47) ?_
  rintro ex53 fr48 m49 hk51 ⟨z50, hz52, st, rfl, w54, h0, s56, x58, h5, o60, a61, -⟩
  replace hz := hz.trans hz52
  clear hk51
  refine blockQ.hit ?_
  refine thenQ.n ?_
  refine W.seq ?_
  refine W.region ?_
  refine SeqW.consX rfl (StepX.pure (pMove (v := v4) rfl h5) ?_)
  refine SeqW.consX rfl (kStrO (s := y47.2) rfl Try.underlying66 Try.underlying5 Try.underlying9 rfl o60 ?_)
  refine SeqW.consX rfl (StepX.pure (pAssign (v := (str y47.2)) rfl rfl) ?_)
  refine SeqW.done fun fr62 hf63 => ?_
  have h0 : fr62 0 = (Value.pointer (some ⟨b0, 0, none⟩)) := (congrFun hf63 0).trans h0
  have h4 : fr62 4 = (str y47.2) := (congrFun hf63 4).trans rfl
  clear hf63
  refine thenQ.n ?_
  refine W.ret ?_
  obtain rfl := Option.some.inj hr
  exact ⟨z50, hz, st, .inr rfl, w54, h4, s56, x58, trivial⟩

theorem c41 {N : Nat} {z : Nat → Blk} {m : Mem} {x0 : S56} {x1 : Int} {v0_0 : Value} {b0 : Nat} (fz : Fz z m) (hd : ∀ b, m.next ≤ b → m.blk b = .dead) (s0_0 : SlR (TInt 3 .i64) z x0.l v0_0) (bx0 : Bx z m m (some b0) b0 [v0_0, (Value.int .i64 x0.n)] 56) {r : List UInt8 × S56} (hr : m41 N x0 x1 = some r) : CallW Try.prog 41 #[(Value.pointer (some ⟨b0, 0, none⟩)), (Value.int .i64 x1)] m fun v m' => ∃ z' wr_0, Zx m.next z z' ∧ Fz z' m' ∧ Same m m' (some b0) ∧ v = (str r.1) ∧ SlR (TInt 3 .i64) z' r.2.l wr_0 ∧ Bx z' m m' (some b0) b0 [wr_0, (Value.int .i64 r.2.n)] 56 ∧ True := by
  refine CallW.any Try.func41 rfl (by kernel_rfl) (Nat.le_of_ble_eq_true rfl) (fun fr hf => ?_)
  have h0 : fr 0 = _ := hf 0 _ rfl
  have h1 : fr 1 = _ := hf 1 _ rfl
  refine (u41 (k := (some b0)) (Zx.refl _) (St.start fz hd) h0 s0_0 bx0 h1 hr).mono ?_
  rintro ex fr' m' ⟨z', hz, st, he, wr_0, h4, sr_0, bxr, -⟩
  exact ⟨he, [(str r.1)], ⟨h4.symm, trivial⟩, .inl rfl, z', wr_0, hz, st.fz, st.toSame, rfl, sr_0, bxr, trivial⟩

/-! ### humpyard/humpyardref02.digits -/

theorem u49_1 {N : Nat}  {z0 z : Nat → Blk} {e m : Mem} {k : Option Nat} {fr : Nat → Value} {x0 : List UInt8} {x5 : Int} (hz : Zx e.next z0 z) (st : St z e m k) (h0 : fr 0 = (str x0)) (h5 : fr 5 = (Value.int .i64 x5)) {r : Bool} (hr : m49_1 N x0 x5 = some r) : W Try.prog (sub (bodyOf Try.f49) [1, 1, 0, 1, 0, 0, 1, 0, 0, 0]) (fun ex fr' m' => ∃ z', Zx e.next z0 z' ∧ St z' e m' k ∧ ex = AExit.normal ∧ fr' 24 = (Value.bool r) ∧ True) fr m := by
  unfold m49_1 at hr
  refine W.region ?_
  refine SeqW.consX rfl (StepX.pure (pMove (v := (str x0)) rfl h0) ?_)
  refine SeqW.consX rfl (StepX.pure (pMove (v := (Value.int .i64 x5)) rfl h5) ?_)
  obtain ⟨y14, hy14, hr⟩ := bind_some hr
  refine SeqW.consX rfl (kIndexS (s := x0) (n := x5) rfl Try.underlying9 rfl rfl hy14 ?_)
  refine SeqW.consX rfl (StepX.pure (pLss (k := .u8) (a := (UInt8.toNat y14 : Int)) (b := 48) rfl rfl rfl) ?_)
  refine SeqW.consX rfl (StepX.pure (pMove (v := (Value.bool (decide ((UInt8.toNat y14 : Int) < 48)))) rfl rfl) ?_)
  rcases if_some hr with ⟨hc15, hr⟩ | ⟨hc18, hr⟩
  · refine SeqW.skipG rfl rfl rfl hc15 ?_
    refine SeqW.skipG rfl rfl rfl hc15 ?_
    refine SeqW.skipG rfl rfl rfl hc15 ?_
    refine SeqW.skipG rfl rfl rfl hc15 ?_
    refine SeqW.consX rfl (StepX.pure (pPick (t := true) (v := (Value.bool true)) rfl ((congrArg Value.bool hc15)) rfl) ?_)
    refine SeqW.done fun fr16 hf17 => ?_
    have h0 : fr16 0 = (str x0) := (congrFun hf17 0).trans h0
    have h5 : fr16 5 = (Value.int .i64 x5) := (congrFun hf17 5).trans h5
    have h24 : fr16 24 = (Value.bool true) := (congrFun hf17 24).trans rfl
    clear hf17
    obtain rfl := Option.some.inj hr
    exact ⟨z, hz, st, rfl, h24, trivial⟩
  · refine SeqW.consG rfl rfl rfl hc18 (StepX.pure (pMove (v := (str x0)) rfl h0) ?_)
    refine SeqW.consG rfl rfl rfl hc18 (StepX.pure (pMove (v := (Value.int .i64 x5)) rfl h5) ?_)
    obtain ⟨y19, hy19, hr⟩ := bind_some hr
    refine SeqW.consG rfl rfl rfl hc18 (kIndexS (s := x0) (n := x5) rfl Try.underlying9 rfl rfl hy19 ?_)
    refine SeqW.consG rfl rfl rfl hc18 (StepX.pure (pGtr (k := .u8) (a := (UInt8.toNat y19 : Int)) (b := 57) rfl rfl rfl) ?_)
    refine SeqW.consX rfl (StepX.pure (pPick (t := false) (v := (Value.bool (decide (57 < (UInt8.toNat y19 : Int))))) rfl ((congrArg Value.bool hc18)) rfl) ?_)
    refine SeqW.done fun fr20 hf21 => ?_
    have h0 : fr20 0 = (str x0) := (congrFun hf21 0).trans h0
    have h5 : fr20 5 = (Value.int .i64 x5) := (congrFun hf21 5).trans h5
    have h24 : fr20 24 = (Value.bool (decide (57 < (UInt8.toNat y19 : Int)))) := (congrFun hf21 24).trans rfl
    clear hf21
    obtain rfl := Option.some.inj hr
    exact ⟨z, hz, st, rfl, h24, trivial⟩

theorem u49_0 : ∀ (n : Nat) {N : Nat}  {z0 z : Nat → Blk} {e m : Mem} {k : Option Nat} {fr : Nat → Value} {x0 : List UInt8} {x1 : Int} {x5 : Int} (hz : Zx e.next z0 z) (st : St z e m k) (h0 : fr 0 = (str x0)) (h1 : fr 1 = (Value.int .i64 x1)) (h5 : fr 5 = (Value.int .i64 x5)) {r : Sum (Unit) (Bool)} (hr : m49_0 N x0 x1 n x5 = some r), W Try.prog (sub (bodyOf Try.f49) [1, 1, 0, 1, 0]) (fun ex fr' m' => ∃ z', Zx e.next z0 z' ∧ St z' e m' k ∧ ((∃ q, r = Sum.inl q ∧ ex = AExit.exit 0 ∧ True) ∨ (∃ q, r = Sum.inr q ∧ ex = AExit.ret ∧ fr' 4 = (Value.bool q) ∧ True))) fr m := by
  intro n
  induction n with
  | zero => intro N z0 z e m k fr x0 x1 x5 hz st h0 h1 h5 r hr; cases (show (none : Option _) = some r from hr)
  | succ n ih =>
    intro N z0 z e m k fr x0 x1 x5 hz st h0 h1 h5 r hr
    unfold m49_0 at hr
    refine W.loop1 ?_
    refine W.seq ?_
    refine W.seq ?_
    refine W.region ?_
    refine SeqW.consX rfl (StepX.pure (pMove (v := (Value.int .i64 x5)) rfl h5) ?_)
    refine SeqW.consX rfl (StepX.pure (pMove (v := (Value.int .i64 x1)) rfl h1) ?_)
    refine SeqW.consX rfl (StepX.pure (pLss (k := .i64) (a := x5) (b := x1) rfl rfl rfl) ?_)
    refine SeqW.done fun fr11 hf12 => ?_
    have h0 : fr11 0 = (str x0) := (congrFun hf12 0).trans h0
    have h1 : fr11 1 = (Value.int .i64 x1) := (congrFun hf12 1).trans h1
    have h5 : fr11 5 = (Value.int .i64 x5) := (congrFun hf12 5).trans h5
    have h12 : fr11 12 = (Value.bool (decide (x5 < x1))) := (congrFun hf12 12).trans rfl
    clear hf12
    refine thenQ.n ?_
    rcases if_some hr with ⟨hc13, hr⟩ | ⟨hc36, hr⟩
    · refine W.condT h12 hc13 ?_
      refine W.skip ?_
      refine thenQ.n ?_
      refine W.seq ?_
      refine W.block ?_
      refine W.seq ?_
      obtain ⟨y22, hy22, hr⟩ := bind_some hr
      refine W.keep (u49_1 (Zx.refl _) st h0 h5 hy22) ?_
      rintro ex28 fr23 m24 hk26 ⟨z25, hz27, st, rfl, h24, -⟩
      have h0 := (hk26 0 rfl).trans h0
      have h1 := (hk26 1 rfl).trans h1
      have h5 := (hk26 5 rfl).trans h5
      replace hz := hz.trans hz27
      clear hk26
      refine thenQ.n ?_
      rcases if_some hr with ⟨hc29, hr⟩ | ⟨hc32, hr⟩
      · refine W.condT h24 hc29 ?_
        refine W.seq ?_
        refine W.region ?_
        refine SeqW.consX rfl (StepX.pure (pAssign (v := (Value.bool false)) rfl rfl) ?_)
        refine SeqW.done fun fr30 hf31 => ?_
        have h4 : fr30 4 = (Value.bool false) := (congrFun hf31 4).trans rfl
        clear hf31
        refine thenQ.n ?_
        refine W.ret ?_
        refine blockQ.r ?_
        refine thenQ.r ?_
        refine thenQ.r ?_
        obtain rfl := Option.some.inj hr
        exact ⟨z25, hz, st, .inr ⟨_, rfl, rfl, h4, trivial⟩⟩
      · refine W.condF h24 hc32 ?_
        refine W.skip ?_
        refine blockQ.n ?_
        refine thenQ.n ?_
        refine W.region ?_
        refine SeqW.consX rfl (StepX.pure (pMove (v := (Value.int .i64 x5)) rfl h5) ?_)
        refine SeqW.consX rfl (StepX.pure (pAdd (k := .i64) (a := x5) (b := 1) rfl rfl rfl) ?_)
        obtain ⟨y33, hy33, hr⟩ := lt_some hr
        refine SeqW.consX rfl (StepX.pure (pAssign rfl (congrArg (Value.int .i64) hy33)) ?_)
        refine SeqW.done fun fr34 hf35 => ?_
        have h0 : fr34 0 = (str x0) := (congrFun hf35 0).trans h0
        have h1 : fr34 1 = (Value.int .i64 x1) := (congrFun hf35 1).trans h1
        have h5 : fr34 5 = (Value.int .i64 y33) := (congrFun hf35 5).trans rfl
        clear hf35
        refine thenQ.n ?_
        exact ih hz st h0 h1 h5 hr
    · refine W.condF h12 hc36 ?_
      refine W.exit ?_
      refine thenQ.x ?_
      refine thenQ.x ?_
      obtain rfl := Option.some.inj hr
      exact ⟨z, hz, st, .inl ⟨_, rfl, rfl, trivial⟩⟩

theorem u49 {N : Nat}  {z0 z : Nat → Blk} {e m : Mem} {k : Option Nat} {fr : Nat → Value} {x0 : List UInt8} {x1 : Int} (hz : Zx e.next z0 z) (st : St z e m k) (h0 : fr 0 = (str x0)) (h1 : fr 1 = (Value.int .i64 x1)) {r : Bool} (hr : m49 N x0 x1 = some r) : W Try.prog (sub (bodyOf Try.f49) []) (fun ex fr' m' => ∃ z', Zx e.next z0 z' ∧ St z' e m' k ∧ (ex = .normal ∨ ex = .ret) ∧ fr' 4 = (Value.bool r) ∧ True) fr m := by
  unfold m49 at hr
  refine W.seq ?_
  refine W.region ?_
  refine SeqW.consX rfl (StepX.pure (pAssign (v := (Value.bool false)) rfl rfl) ?_)
  refine SeqW.done fun fr1 hf2 => ?_
  have h0 : fr1 0 = (str x0) := (congrFun hf2 0).trans h0
  have h1 : fr1 1 = (Value.int .i64 x1) := (congrFun hf2 1).trans h1
  clear hf2
  refine thenQ.n ?_
  refine W.seq ?_
  refine W.seq ?_
  refine W.region ?_
  refine SeqW.consX rfl (StepX.pure (pMove (v := (str x0)) rfl h0) ?_)
  refine SeqW.consX rfl (StepX.pure (pLenS (s := x0) rfl rfl Try.underlying9 rfl) ?_)
  refine SeqW.consX rfl (StepX.pure (pMove (v := (Value.int .i64 x1)) rfl h1) ?_)
  refine SeqW.consX rfl (StepX.pure (pNeq (k := .i64) (a := (x0.length : Int)) (b := x1) rfl rfl rfl) ?_)
  refine SeqW.done fun fr3 hf4 => ?_
  have h0 : fr3 0 = (str x0) := (congrFun hf4 0).trans h0
  have h1 : fr3 1 = (Value.int .i64 x1) := (congrFun hf4 1).trans h1
  have h9 : fr3 9 = (Value.bool ((x0.length : Int) != x1)) := (congrFun hf4 9).trans rfl
  clear hf4
  refine thenQ.n ?_
  rcases if_some hr with ⟨hc5, hr⟩ | ⟨hc8, hr⟩
  · refine W.condT h9 hc5 ?_
    refine W.seq ?_
    refine W.region ?_
    refine SeqW.consX rfl (StepX.pure (pAssign (v := (Value.bool false)) rfl rfl) ?_)
    refine SeqW.done fun fr6 hf7 => ?_
    have h4 : fr6 4 = (Value.bool false) := (congrFun hf7 4).trans rfl
    clear hf7
    refine thenQ.n ?_
    refine W.ret ?_
    refine thenQ.r ?_
    obtain rfl := Option.some.inj hr
    exact ⟨z, hz, st, .inr rfl, h4, trivial⟩
  · refine W.condF h9 hc8 ?_
    refine W.skip ?_
    refine thenQ.n ?_
    refine W.seq ?_
    refine W.seq ?_
    refine W.region ?_
    refine SeqW.consX rfl (StepX.pure (pAssign (v := (Value.int .i64 0)) rfl rfl) ?_)
    refine SeqW.done fun fr9 hf10 => ?_
    have h0 : fr9 0 = (str x0) := (congrFun hf10 0).trans h0
    have h1 : fr9 1 = (Value.int .i64 x1) := (congrFun hf10 1).trans h1
    have h5 : fr9 5 = (Value.int .i64 0) := (congrFun hf10 5).trans rfl
    clear hf10
    refine thenQ.n ?_
    refine W.block ?_
    obtain ⟨y37, hy37, hr⟩ := bind_some hr
    refine W.keep (u49_0 _ (Zx.refl _) st h0 h1 h5 hy37) ?_
    rintro ex43 fr38 m39 hk41 ⟨z40, hz42, st, ⟨y44, rfl, rfl, -⟩ | ⟨y47, rfl, rfl, h4, -⟩⟩
    · dsimp only at hr
      replace hz := hz.trans hz42
      clear hk41
      refine blockQ.hit ?_
      refine thenQ.n ?_
      refine W.seq ?_
      refine W.region ?_
      refine SeqW.consX rfl (StepX.pure (pAssign (v := (Value.bool true)) rfl rfl) ?_)
      refine SeqW.done fun fr45 hf46 => ?_
      have h4 : fr45 4 = (Value.bool true) := (congrFun hf46 4).trans rfl
      clear hf46
      refine thenQ.n ?_
      refine W.ret ?_
      obtain rfl := Option.some.inj hr
      exact ⟨z40, hz, st, .inr rfl, h4, trivial⟩
    · dsimp only at hr
      replace hz := hz.trans hz42
      clear hk41
      refine blockQ.r ?_
      refine thenQ.r ?_
      obtain rfl := Option.some.inj hr
      exact ⟨z40, hz, st, .inr rfl, h4, trivial⟩

theorem c49 {N : Nat} {z : Nat → Blk} {m : Mem} {x0 : List UInt8} {x1 : Int} (fz : Fz z m) (hd : ∀ b, m.next ≤ b → m.blk b = .dead)  {r : Bool} (hr : m49 N x0 x1 = some r) : CallW Try.prog 49 #[(str x0), (Value.int .i64 x1)] m fun v m' => v = (Value.bool r) ∧ m' = m := by
  refine CallW.flat Try.func49 rfl (by kernel_rfl) (Nat.le_of_ble_eq_true rfl) rfl (z := z) (fun fr hf => ?_)
  have h0 : fr 0 = _ := hf 0 _ rfl
  have h1 : fr 1 = _ := hf 1 _ rfl
  refine (u49 (k := none) (Zx.refl _) (St.start fz hd) h0 h1 hr).mono ?_
  rintro ex fr' m' ⟨z', hz, st, he, h4, -⟩
  exact ⟨he, z', st, [(Value.bool r)], ⟨h4.symm, trivial⟩, .inl rfl, rfl⟩

/-! ### humpyard/humpyardref02.sum -/

theorem u50_1 {N : Nat}  {z0 z : Nat → Blk} {e m : Mem} {k : Option Nat} {fr : Nat → Value} {x7 : Int} {x20 : Bool} (hz : Zx e.next z0 z) (st : St z e m k) (h7 : fr 7 = (Value.int .i64 x7)) (h20 : fr 20 = (Value.bool x20)) {r : Int} (hr : m50_1 N x7 x20 = some r) : W Try.prog (sub (bodyOf Try.f50) [1, 1, 0, 1, 0, 0, 1, 0, 0, 1, 0, 1]) (fun ex fr' m' => ∃ z', Zx e.next z0 z' ∧ St z' e m' k ∧ ex = AExit.normal ∧ fr' 7 = (Value.int .i64 r) ∧ True) fr m := by
  unfold m50_1 at hr
  rcases if_some hr with ⟨hc16, hr⟩ | ⟨hc27, hr⟩
  · refine W.condT h20 hc16 ?_
    refine W.seq ?_
    refine W.region ?_
    refine SeqW.consX rfl (StepX.pure (pMove (v := (Value.int .i64 x7)) rfl h7) ?_)
    refine SeqW.consX rfl (StepX.pure (pMul (k := .i64) (a := x7) (b := 2) rfl rfl rfl) ?_)
    obtain ⟨y17, hy17, hr⟩ := lt_some hr
    refine SeqW.consX rfl (StepX.pure (pAssign rfl (congrArg (Value.int .i64) hy17)) ?_)
    refine SeqW.done fun fr18 hf19 => ?_
    have h7 : fr18 7 = (Value.int .i64 y17) := (congrFun hf19 7).trans rfl
    clear hf19
    refine thenQ.n ?_
    refine W.seq ?_
    refine W.region ?_
    refine SeqW.consX rfl (StepX.pure (pMove (v := (Value.int .i64 y17)) rfl h7) ?_)
    refine SeqW.consX rfl (StepX.pure (pGtr (k := .i64) (a := y17) (b := 9) rfl rfl rfl) ?_)
    refine SeqW.done fun fr20 hf21 => ?_
    have h7 : fr20 7 = (Value.int .i64 y17) := (congrFun hf21 7).trans h7
    have h24 : fr20 24 = (Value.bool (decide (9 < y17))) := (congrFun hf21 24).trans rfl
    clear hf21
    refine thenQ.n ?_
    rcases if_some hr with ⟨hc22, hr⟩ | ⟨hc26, hr⟩
    · refine W.condT h24 hc22 ?_
      refine W.region ?_
      refine SeqW.consX rfl (StepX.pure (pMove (v := (Value.int .i64 y17)) rfl h7) ?_)
      refine SeqW.consX rfl (StepX.pure (pSub (k := .i64) (a := y17) (b := 9) rfl rfl rfl) ?_)
      obtain ⟨y23, hy23, hr⟩ := lt_some hr
      refine SeqW.consX rfl (StepX.pure (pAssign rfl (congrArg (Value.int .i64) hy23)) ?_)
      refine SeqW.done fun fr24 hf25 => ?_
      have h7 : fr24 7 = (Value.int .i64 y23) := (congrFun hf25 7).trans rfl
      clear hf25
      obtain rfl := Option.some.inj hr
      exact ⟨z, hz, st, rfl, h7, trivial⟩
    · refine W.condF h24 hc26 ?_
      refine W.skip ?_
      obtain rfl := Option.some.inj hr
      exact ⟨z, hz, st, rfl, h7, trivial⟩
  · refine W.condF h20 hc27 ?_
    refine W.skip ?_
    obtain rfl := Option.some.inj hr
    exact ⟨z, hz, st, rfl, h7, trivial⟩

theorem u50_0 : ∀ (n : Nat) {N : Nat}  {z0 z : Nat → Blk} {e m : Mem} {k : Option Nat} {fr : Nat → Value} {x0 : List UInt8} {x1 : Int} {x5 : Int} {x6 : Int} (hz : Zx e.next z0 z) (st : St z e m k) (h0 : fr 0 = (str x0)) (h1 : fr 1 = (Value.int .i64 x1)) (h5 : fr 5 = (Value.int .i64 x5)) (h6 : fr 6 = (Value.int .i64 x6)) {r : Int} (hr : m50_0 N x0 x1 n x5 x6 = some r), W Try.prog (sub (bodyOf Try.f50) [1, 1, 0, 1, 0]) (fun ex fr' m' => ∃ z', Zx e.next z0 z' ∧ St z' e m' k ∧ ex = AExit.exit 0 ∧ fr' 5 = (Value.int .i64 r) ∧ True) fr m := by
  intro n
  induction n with
  | zero => intro N z0 z e m k fr x0 x1 x5 x6 hz st h0 h1 h5 h6 r hr; cases (show (none : Option _) = some r from hr)
  | succ n ih =>
    intro N z0 z e m k fr x0 x1 x5 x6 hz st h0 h1 h5 h6 r hr
    unfold m50_0 at hr
    refine W.loop1 ?_
    refine W.seq ?_
    refine W.seq ?_
    refine W.region ?_
    refine SeqW.consX rfl (StepX.pure (pMove (v := (Value.int .i64 x6)) rfl h6) ?_)
    refine SeqW.consX rfl (StepX.pure (pMove (v := (Value.int .i64 x1)) rfl h1) ?_)
    refine SeqW.consX rfl (StepX.pure (pLss (k := .i64) (a := x6) (b := x1) rfl rfl rfl) ?_)
    refine SeqW.done fun fr7 hf8 => ?_
    have h0 : fr7 0 = (str x0) := (congrFun hf8 0).trans h0
    have h1 : fr7 1 = (Value.int .i64 x1) := (congrFun hf8 1).trans h1
    have h5 : fr7 5 = (Value.int .i64 x5) := (congrFun hf8 5).trans h5
    have h6 : fr7 6 = (Value.int .i64 x6) := (congrFun hf8 6).trans h6
    have h10 : fr7 10 = (Value.bool (decide (x6 < x1))) := (congrFun hf8 10).trans rfl
    clear hf8
    refine thenQ.n ?_
    rcases if_some hr with ⟨hc9, hr⟩ | ⟨hc41, hr⟩
    · refine W.condT h10 hc9 ?_
      refine W.skip ?_
      refine thenQ.n ?_
      refine W.seq ?_
      refine W.block ?_
      refine W.seq ?_
      refine W.region ?_
      refine SeqW.consX rfl (StepX.pure (pMove (v := (str x0)) rfl h0) ?_)
      refine SeqW.consX rfl (StepX.pure (pMove (v := (Value.int .i64 x6)) rfl h6) ?_)
      obtain ⟨y10, hy10, hr⟩ := bind_some hr
      refine SeqW.consX rfl (kIndexS (s := x0) (n := x6) rfl Try.underlying9 rfl rfl hy10 ?_)
      refine SeqW.consX rfl (StepX.pure (pSub (k := .u8) (a := (UInt8.toNat y10 : Int)) (b := 48) rfl rfl rfl) ?_)
      refine SeqW.consX rfl (StepX.pure (pConv (k := .u8) (a := (IntKind.wrap .u8 ((UInt8.toNat y10 : Int) - 48))) rfl Try.underlying5 Try.underlying3 rfl) ?_)
      obtain ⟨y11, hy11, hr⟩ := lt_some hr
      refine SeqW.consX rfl (StepX.pure (pAssign rfl (congrArg (Value.int .i64) hy11)) ?_)
      refine SeqW.done fun fr12 hf13 => ?_
      have h0 : fr12 0 = (str x0) := (congrFun hf13 0).trans h0
      have h1 : fr12 1 = (Value.int .i64 x1) := (congrFun hf13 1).trans h1
      have h5 : fr12 5 = (Value.int .i64 x5) := (congrFun hf13 5).trans h5
      have h6 : fr12 6 = (Value.int .i64 x6) := (congrFun hf13 6).trans h6
      have h7 : fr12 7 = (Value.int .i64 y11) := (congrFun hf13 7).trans rfl
      clear hf13
      refine thenQ.n ?_
      refine W.seq ?_
      refine W.seq ?_
      refine W.region ?_
      refine SeqW.consX rfl (StepX.pure (pMove (v := (Value.int .i64 x6)) rfl h6) ?_)
      refine SeqW.consX rfl (StepX.pure (pRem (k := .i64) (a := x6) (b := 2) rfl rfl rfl (by decide)) ?_)
      refine SeqW.consX rfl (StepX.pure (pEql (k := .i64) (a := (Int.tmod x6 2)) (b := 0) rfl rfl rfl) ?_)
      refine SeqW.done fun fr14 hf15 => ?_
      have h0 : fr14 0 = (str x0) := (congrFun hf15 0).trans h0
      have h1 : fr14 1 = (Value.int .i64 x1) := (congrFun hf15 1).trans h1
      have h5 : fr14 5 = (Value.int .i64 x5) := (congrFun hf15 5).trans h5
      have h6 : fr14 6 = (Value.int .i64 x6) := (congrFun hf15 6).trans h6
      have h7 : fr14 7 = (Value.int .i64 y11) := (congrFun hf15 7).trans h7
      have h20 : fr14 20 = (Value.bool ((Int.tmod x6 2) == 0)) := (congrFun hf15 20).trans rfl
      clear hf15
      refine thenQ.n ?_
      obtain ⟨y28, hy28, hr⟩ := bind_some hr
      refine W.keep (u50_1 (Zx.refl _) st h7 h20 hy28) ?_
      rintro ex34 fr29 m30 hk32 ⟨z31, hz33, st, rfl, h7, -⟩
      have h0 := (hk32 0 rfl).trans h0
      have h1 := (hk32 1 rfl).trans h1
      have h5 := (hk32 5 rfl).trans h5
      have h6 := (hk32 6 rfl).trans h6
      replace hz := hz.trans hz33
      clear hk32
      refine thenQ.n ?_
      refine W.region ?_
      refine SeqW.consX rfl (StepX.pure (pMove (v := (Value.int .i64 x5)) rfl h5) ?_)
      refine SeqW.consX rfl (StepX.pure (pMove (v := (Value.int .i64 y28)) rfl h7) ?_)
      refine SeqW.consX rfl (StepX.pure (pAdd (k := .i64) (a := x5) (b := y28) rfl rfl rfl) ?_)
      obtain ⟨y35, hy35, hr⟩ := lt_some hr
      refine SeqW.consX rfl (StepX.pure (pAssign rfl (congrArg (Value.int .i64) hy35)) ?_)
      refine SeqW.done fun fr36 hf37 => ?_
      have h0 : fr36 0 = (str x0) := (congrFun hf37 0).trans h0
      have h1 : fr36 1 = (Value.int .i64 x1) := (congrFun hf37 1).trans h1
      have h5 : fr36 5 = (Value.int .i64 y35) := (congrFun hf37 5).trans rfl
      have h6 : fr36 6 = (Value.int .i64 x6) := (congrFun hf37 6).trans h6
      clear hf37
      refine blockQ.n ?_
      refine thenQ.n ?_
      refine W.region ?_
      refine SeqW.consX rfl (StepX.pure (pMove (v := (Value.int .i64 x6)) rfl h6) ?_)
      refine SeqW.consX rfl (StepX.pure (pAdd (k := .i64) (a := x6) (b := 1) rfl rfl rfl) ?_)
      obtain ⟨y38, hy38, hr⟩ := lt_some hr
      refine SeqW.consX rfl (StepX.pure (pAssign rfl (congrArg (Value.int .i64) hy38)) ?_)
      refine SeqW.done fun fr39 hf40 => ?_
      have h0 : fr39 0 = (str x0) := (congrFun hf40 0).trans h0
      have h1 : fr39 1 = (Value.int .i64 x1) := (congrFun hf40 1).trans h1
      have h5 : fr39 5 = (Value.int .i64 y35) := (congrFun hf40 5).trans h5
      have h6 : fr39 6 = (Value.int .i64 y38) := (congrFun hf40 6).trans rfl
      clear hf40
      refine thenQ.n ?_
      exact ih hz st h0 h1 h5 h6 hr
    · refine W.condF h10 hc41 ?_
      refine W.exit ?_
      refine thenQ.x ?_
      refine thenQ.x ?_
      obtain rfl := Option.some.inj hr
      exact ⟨z, hz, st, rfl, h5, trivial⟩

theorem u50 {N : Nat}  {z0 z : Nat → Blk} {e m : Mem} {k : Option Nat} {fr : Nat → Value} {x0 : List UInt8} {x1 : Int} (hz : Zx e.next z0 z) (st : St z e m k) (h0 : fr 0 = (str x0)) (h1 : fr 1 = (Value.int .i64 x1)) {r : Int} (hr : m50 N x0 x1 = some r) : W Try.prog (sub (bodyOf Try.f50) []) (fun ex fr' m' => ∃ z', Zx e.next z0 z' ∧ St z' e m' k ∧ (ex = .normal ∨ ex = .ret) ∧ fr' 4 = (Value.int .i64 r) ∧ True) fr m := by
  unfold m50 at hr
  refine W.seq ?_
  refine W.region ?_
  refine SeqW.consX rfl (StepX.pure (pAssign (v := (Value.int .i64 0)) rfl rfl) ?_)
  refine SeqW.done fun fr1 hf2 => ?_
  have h0 : fr1 0 = (str x0) := (congrFun hf2 0).trans h0
  have h1 : fr1 1 = (Value.int .i64 x1) := (congrFun hf2 1).trans h1
  clear hf2
  refine thenQ.n ?_
  refine W.seq ?_
  refine W.region ?_
  refine SeqW.consX rfl (StepX.pure (pAssign (v := (Value.int .i64 0)) rfl rfl) ?_)
  refine SeqW.done fun fr3 hf4 => ?_
  have h0 : fr3 0 = (str x0) := (congrFun hf4 0).trans h0
  have h1 : fr3 1 = (Value.int .i64 x1) := (congrFun hf4 1).trans h1
  have h5 : fr3 5 = (Value.int .i64 0) := (congrFun hf4 5).trans rfl
  clear hf4
  refine thenQ.n ?_
  refine W.seq ?_
  refine W.seq ?_
  refine W.region ?_
  refine SeqW.consX rfl (StepX.pure (pAssign (v := (Value.int .i64 0)) rfl rfl) ?_)
  refine SeqW.done fun fr5 hf6 => ?_
  have h0 : fr5 0 = (str x0) := (congrFun hf6 0).trans h0
  have h1 : fr5 1 = (Value.int .i64 x1) := (congrFun hf6 1).trans h1
  have h5 : fr5 5 = (Value.int .i64 0) := (congrFun hf6 5).trans h5
  have h6 : fr5 6 = (Value.int .i64 0) := (congrFun hf6 6).trans rfl
  clear hf6
  refine thenQ.n ?_
  refine W.block ?_
  obtain ⟨y42, hy42, hr⟩ := bind_some hr
  refine W.keep (u50_0 _ (Zx.refl _) st h0 h1 h5 h6 hy42) ?_
  rintro ex48 fr43 m44 hk46 ⟨z45, hz47, st, rfl, h5, -⟩
  replace hz := hz.trans hz47
  clear hk46
  refine blockQ.hit ?_
  refine thenQ.n ?_
  refine W.seq ?_
  refine W.region ?_
  refine SeqW.consX rfl (StepX.pure (pMove (v := (Value.int .i64 y42)) rfl h5) ?_)
  refine SeqW.consX rfl (StepX.pure (pAssign (v := (Value.int .i64 y42)) rfl rfl) ?_)
  refine SeqW.done fun fr49 hf50 => ?_
  have h4 : fr49 4 = (Value.int .i64 y42) := (congrFun hf50 4).trans rfl
  clear hf50
  refine thenQ.n ?_
  refine W.ret ?_
  obtain rfl := Option.some.inj hr
  exact ⟨z45, hz, st, .inr rfl, h4, trivial⟩

theorem c50 {N : Nat} {z : Nat → Blk} {m : Mem} {x0 : List UInt8} {x1 : Int} (fz : Fz z m) (hd : ∀ b, m.next ≤ b → m.blk b = .dead)  {r : Int} (hr : m50 N x0 x1 = some r) : CallW Try.prog 50 #[(str x0), (Value.int .i64 x1)] m fun v m' => v = (Value.int .i64 r) ∧ m' = m := by
  refine CallW.flat Try.func50 rfl (by kernel_rfl) (Nat.le_of_ble_eq_true rfl) rfl (z := z) (fun fr hf => ?_)
  have h0 : fr 0 = _ := hf 0 _ rfl
  have h1 : fr 1 = _ := hf 1 _ rfl
  refine (u50 (k := none) (Zx.refl _) (St.start fz hd) h0 h1 hr).mono ?_
  rintro ex fr' m' ⟨z', hz, st, he, h4, -⟩
  exact ⟨he, z', st, [(Value.int .i64 r)], ⟨h4.symm, trivial⟩, .inl rfl, rfl⟩

/-! ### humpyard/humpyardref02.Digit -/

theorem u42 {N : Nat}  {z0 z : Nat → Blk} {e m : Mem} {k : Option Nat} {fr : Nat → Value} {x0 : List UInt8} (hz : Zx e.next z0 z) (st : St z e m k) (h0 : fr 0 = (str x0)) {r : Int × Int} (hr : m42 N x0 = some r) : W Try.prog (sub (bodyOf Try.f42) []) (fun ex fr' m' => ∃ z', Zx e.next z0 z' ∧ St z' e m' k ∧ (ex = .normal ∨ ex = .ret) ∧ fr' 2 = (Value.int .i64 r.1) ∧ fr' 3 = (Value.int .i64 r.2) ∧ True) fr m := by
  unfold m42 at hr
  refine W.seq ?_
  refine W.region ?_
  refine SeqW.consX rfl (StepX.pure (pAssign (v := (Value.int .i64 0)) rfl rfl) ?_)
  refine SeqW.consX rfl (StepX.pure (pAssign (v := (Value.int .i64 0)) rfl rfl) ?_)
  refine SeqW.done fun fr1 hf2 => ?_
  have h0 : fr1 0 = (str x0) := (congrFun hf2 0).trans h0
  clear hf2
  refine thenQ.n ?_
  refine W.seq ?_
  refine W.seq ?_
  refine W.region ?_
  refine SeqW.consX rfl (StepX.pure (pMove (v := (str x0)) rfl h0) ?_)
  obtain ⟨y3, hy3, hr⟩ := bind_some hr
  refine SeqW.consX rfl (StepX.call (gCallee rfl rfl (args2 rfl rfl)) ((c49 (z := z) st.fz st.dead  hy3).mono ?_))
  rintro _ _ ⟨rfl, rfl⟩
  refine SeqW.consX rfl (StepX.pure (pNot (b := y3) rfl rfl) ?_)
  refine SeqW.done fun fr4 hf5 => ?_
  have h0 : fr4 0 = (str x0) := (congrFun hf5 0).trans h0
  have h6 : fr4 6 = (Value.bool (!y3)) := (congrFun hf5 6).trans rfl
  clear hf5
  refine thenQ.n ?_
  rcases if_some hr with ⟨hc6, hr⟩ | ⟨hc9, hr⟩
  · refine W.condT h6 hc6 ?_
    refine W.seq ?_
    refine W.region ?_
    refine SeqW.consX rfl (StepX.pure (pAssign (v := (Value.int .i64 0)) rfl rfl) ?_)
    refine SeqW.consX rfl (StepX.pure (pAssign (v := (Value.int .i64 11)) rfl rfl) ?_)
    refine SeqW.done fun fr7 hf8 => ?_
    have h2 : fr7 2 = (Value.int .i64 0) := (congrFun hf8 2).trans rfl
    have h3 : fr7 3 = (Value.int .i64 11) := (congrFun hf8 3).trans rfl
    clear hf8
    refine thenQ.n ?_
    refine W.ret ?_
    refine thenQ.r ?_
    obtain rfl := Option.some.inj hr
    exact ⟨z, hz, st, .inr rfl, h2, h3, trivial⟩
  · refine W.condF h6 hc9 ?_
    refine W.skip ?_
    refine thenQ.n ?_
    refine W.seq ?_
    refine W.region ?_
    refine SeqW.consX rfl (StepX.pure (pMove (v := (str x0)) rfl h0) ?_)
    obtain ⟨y10, hy10, hr⟩ := bind_some hr
    refine SeqW.consX rfl (StepX.call (gCallee rfl rfl (args2 rfl rfl)) ((c50 (z := z) st.fz st.dead  hy10).mono ?_))
    rintro _ _ ⟨rfl, rfl⟩
    refine SeqW.consX rfl (StepX.pure (pRem (k := .i64) (a := y10) (b := 10) rfl rfl rfl (by decide)) ?_)
    refine SeqW.consX rfl (StepX.pure (pSub (k := .i64) (a := 10) (b := (Int.tmod y10 10)) rfl rfl rfl) ?_)
    refine SeqW.consX rfl (StepX.pure (pRem (k := .i64) (a := (IntKind.wrap .i64 (10 - (Int.tmod y10 10)))) (b := 10) rfl rfl rfl (by decide)) ?_)
    obtain ⟨y11, hy11, hr⟩ := lt_some hr
    refine SeqW.consX rfl (StepX.pure (pAssign rfl (congrArg (Value.int .i64) hy11)) ?_)
    refine SeqW.consX rfl (StepX.pure (pAssign (v := (Value.int .i64 0)) rfl rfl) ?_)
    refine SeqW.done fun fr12 hf13 => ?_
    have h2 : fr12 2 = (Value.int .i64 y11) := (congrFun hf13 2).trans rfl
    have h3 : fr12 3 = (Value.int .i64 0) := (congrFun hf13 3).trans rfl
    clear hf13
    refine thenQ.n ?_
    refine W.ret ?_
    obtain rfl := Option.some.inj hr
    exact ⟨z, hz, st, .inr rfl, h2, h3, trivial⟩

theorem c42 {N : Nat} {z : Nat → Blk} {m : Mem} {x0 : List UInt8} (fz : Fz z m) (hd : ∀ b, m.next ≤ b → m.blk b = .dead)  {r : Int × Int} (hr : m42 N x0 = some r) : CallW Try.prog 42 #[(str x0)] m fun v m' => v = (Value.tuple [(Value.int .i64 r.1), (Value.int .i64 r.2)].toArray) ∧ m' = m := by
  refine CallW.flat Try.func42 rfl (by kernel_rfl) (Nat.le_of_ble_eq_true rfl) rfl (z := z) (fun fr hf => ?_)
  have h0 : fr 0 = _ := hf 0 _ rfl
  refine (u42 (k := none) (Zx.refl _) (St.start fz hd) h0 hr).mono ?_
  rintro ex fr' m' ⟨z', hz, st, he, h2, h3, -⟩
  exact ⟨he, z', st, [(Value.int .i64 r.1), (Value.int .i64 r.2)], ⟨h2.symm, h3.symm, trivial⟩, .inr (List.forall_mem_cons.2 ⟨rfl, List.forall_mem_cons.2 ⟨rfl, fun _ h => nomatch h⟩⟩), rfl⟩

/-! ### (*humpyard/humpgen.Maker).Number -/

theorem u31 {N : Nat}  {z0 z : Nat → Blk} {e m : Mem} {k : Option Nat} {fr : Nat → Value} {x0 : S56} {x1 : Int} {v0_0 : Value} {b0 : Nat} (hz : Zx e.next z0 z) (st : St z e m k) (h0 : fr 0 = (Value.pointer (some ⟨b0, 0, none⟩))) (s0_0 : SlR (TInt 3 .i64) z x0.l v0_0) (bx0 : Bx z e m k b0 [v0_0, (Value.int .i64 x0.n)] 56) (h1 : fr 1 = (Value.int .i64 x1)) {r : List UInt8 × S56} (hr : m31 N x0 x1 = some r) : W Try.prog (sub (bodyOf Try.f31) []) (fun ex fr' m' => ∃ z', Zx e.next z0 z' ∧ St z' e m' k ∧ (ex = .normal ∨ ex = .ret) ∧ ∃ (wr_0 : Value), fr' 4 = (str r.1) ∧ SlR (TInt 3 .i64) z' r.2.l wr_0 ∧ Bx z' e m' k b0 [wr_0, (Value.int .i64 r.2.n)] 56 ∧ True) fr m := by
  unfold m31 at hr
  refine W.seq ?_
  refine W.region ?_
  refine SeqW.consX rfl (StepX.pure (pAssign (v := (str [])) rfl rfl) ?_)
  refine SeqW.done fun fr1 hf2 => ?_
  have h0 : fr1 0 = (Value.pointer (some ⟨b0, 0, none⟩)) := (congrFun hf2 0).trans h0
  have h1 : fr1 1 = (Value.int .i64 x1) := (congrFun hf2 1).trans h1
  clear hf2
  refine thenQ.n ?_
  refine W.seq ?_
  refine W.region ?_
  refine SeqW.consX rfl (StepX.pure (pMove (v := (Value.pointer (some ⟨b0, 0, none⟩))) rfl h0) ?_)
  obtain ⟨y3, hy3, hr⟩ := bind_some hr
  refine SeqW.consX rfl (StepX.call (gCallee rfl rfl (args2 rfl rfl)) ((c41 (x0 := x0) (z := z) st.fz st.dead s0_0 ⟨bx0.blk, bx0.lt, bx0.dead, .inr rfl⟩ hy3).mono ?_))
  rintro _ m8 ⟨z4, v9, hzx5, fz6, sm7, rfl, s10, x12, -⟩
  replace s0_0 := s0_0.mono hzx5.le
  have bx0n : Bx z4 e m8 k b0 _ _ := ⟨x12.blk, x12.lt, x12.dead, bx0.fresh⟩
  replace hz := hz.trans (Zx.here st hzx5)
  replace st := st.call hzx5 fz6 sm7 bx0.hq
  obtain ⟨y13, hy13, hr⟩ := bind_some hr
  refine SeqW.consX rfl (kBytes (s := y3.1) rfl Try.underlying9 Try.underlying66 Try.underlying5 Try.type5 rfl rfl hy13 st ?_)
  intro v14 m15 st o16 sm17 hap18
  have a20 := hap18 _ bx0n.lt'
  replace bx0n := bx0n.same sm17 Ap.none'
  refine SeqW.consX rfl (StepX.pure (pAssign (v := v14) rfl rfl) ?_)
  refine SeqW.done fun fr21 hf22 => ?_
  have h0 : fr21 0 = (Value.pointer (some ⟨b0, 0, none⟩)) := (congrFun hf22 0).trans h0
  have h1 : fr21 1 = (Value.int .i64 x1) := (congrFun hf22 1).trans h1
  have h5 : fr21 5 = v14 := (congrFun hf22 5).trans rfl
  clear hf22
  refine thenQ.n ?_
  refine W.seq ?_
  refine W.region ?_
  refine SeqW.consX rfl (StepX.pure (pMove (v := v14) rfl h5) ?_)
  refine SeqW.consX rfl (StepX.pure (pMove (v := v14) rfl h5) ?_)
  refine SeqW.consX rfl (StepX.pure (pMove (v := v14) rfl h5) ?_)
  refine SeqW.consX rfl (StepX.pure (pMove (v := (Value.int .i64 x1)) rfl h1) ?_)
  refine SeqW.consX rfl (StepX.pure (pQuo (k := .i64) (a := x1) (b := 100) rfl rfl rfl (by decide)) ?_)
  refine SeqW.consX rfl (StepX.pure (pRem (k := .i64) (a := (IntKind.wrap .i64 (Int.tdiv x1 100))) (b := 10) rfl rfl rfl (by decide)) ?_)
  refine SeqW.consX rfl (StepX.pure (pAdd (k := .i64) (a := 48) (b := (Int.tmod (IntKind.wrap .i64 (Int.tdiv x1 100)) 10)) rfl rfl rfl) ?_)
  refine SeqW.consX rfl (StepX.pure (pConv (k := .i64) (a := (IntKind.wrap .i64 (48 + (Int.tmod (IntKind.wrap .i64 (Int.tdiv x1 100)) 10)))) rfl Try.underlying3 Try.underlying5 rfl) ?_)
  refine SeqW.consX rfl (StepX.pure (pMove (v := (Value.int .i64 x1)) rfl h1) ?_)
  refine SeqW.consX rfl (StepX.pure (pQuo (k := .i64) (a := x1) (b := 10) rfl rfl rfl (by decide)) ?_)
  refine SeqW.consX rfl (StepX.pure (pRem (k := .i64) (a := (IntKind.wrap .i64 (Int.tdiv x1 10))) (b := 10) rfl rfl rfl (by decide)) ?_)
  refine SeqW.consX rfl (StepX.pure (pAdd (k := .i64) (a := 48) (b := (Int.tmod (IntKind.wrap .i64 (Int.tdiv x1 10)) 10)) rfl rfl rfl) ?_)
  refine SeqW.consX rfl (StepX.pure (pConv (k := .i64) (a := (IntKind.wrap .i64 (48 + (Int.tmod (IntKind.wrap .i64 (Int.tdiv x1 10)) 10)))) rfl Try.underlying3 Try.underlying5 rfl) ?_)
  refine SeqW.consX rfl (StepX.pure (pMove (v := (Value.int .i64 x1)) rfl h1) ?_)
  refine SeqW.consX rfl (StepX.pure (pRem (k := .i64) (a := x1) (b := 10) rfl rfl rfl (by decide)) ?_)
  refine SeqW.consX rfl (StepX.pure (pAdd (k := .i64) (a := 48) (b := (Int.tmod x1 10)) rfl rfl rfl) ?_)
  refine SeqW.consX rfl (StepX.pure (pConv (k := .i64) (a := (IntKind.wrap .i64 (48 + (Int.tmod x1 10)))) rfl Try.underlying3 Try.underlying5 rfl) ?_)
  obtain ⟨y23, hy23, hr⟩ := bind_some hr
  refine SeqW.consX rfl (kIdxO (T := (TU8 5)) (xs := y13) (n := 8) rfl Try.underlying66 Try.type5 rfl rfl rfl o16 hy23 ?_)
  intro b24 l25 c26 cs27 hv28 hd29 hg30 hc31
  have hd290 := hd29
  obtain rfl := hd290
  obtain ⟨y34, hy34, hr⟩ := bind_some hr
  refine SeqW.consX rfl (kSet (T := (TU8 5)) (off := (8 : Int).toNat * ((TU8 5)).sz) (n := (8 : Int).toNat) (f := 0) (w := (Value.int .u8 (UInt8.toNat y34 : Int))) (new := [(Value.int .u8 (UInt8.toNat y34 : Int))]) (ecs := [(Value.int .u8 (UInt8.toNat y23 : Int))]) (ecs' := [(Value.int .u8 (UInt8.toNat y34 : Int))]) (a := y23) (a' := y34) rfl Try.type5 rfl rfl (by rw [← toU8_some hy34]; exact rfl) rfl rfl rfl o16 hv28 hg30 hd29 hc31 rfl rfl rfl st ?_)
  intro m32 st o16 sm33
  obtain ⟨y35, hy35, hr⟩ := lt_some hr
  rw [hy35] at o16
  replace bx0n := bx0n.same sm33 a20
  obtain ⟨y36, hy36, hr⟩ := bind_some hr
  refine SeqW.consX rfl (kIdxO (T := (TU8 5)) (xs := y35) (n := 9) rfl Try.underlying66 Try.type5 rfl rfl rfl o16 hy36 ?_)
  intro b37 l38 c39 cs40 hv41 hd42 hg43 hc44
  have hd420 := hd42
  obtain rfl := hd420
  obtain ⟨y47, hy47, hr⟩ := bind_some hr
  refine SeqW.consX rfl (kSet (T := (TU8 5)) (off := (9 : Int).toNat * ((TU8 5)).sz) (n := (9 : Int).toNat) (f := 0) (w := (Value.int .u8 (UInt8.toNat y47 : Int))) (new := [(Value.int .u8 (UInt8.toNat y47 : Int))]) (ecs := [(Value.int .u8 (UInt8.toNat y36 : Int))]) (ecs' := [(Value.int .u8 (UInt8.toNat y47 : Int))]) (a := y36) (a' := y47) rfl Try.type5 rfl rfl (by rw [← toU8_some hy47]; exact rfl) rfl rfl rfl o16 hv41 hg43 hd42 hc44 rfl rfl rfl st ?_)
  intro m45 st o16 sm46
  obtain ⟨y48, hy48, hr⟩ := lt_some hr
  rw [hy48] at o16
  replace bx0n := bx0n.same sm46 a20
  obtain ⟨y49, hy49, hr⟩ := bind_some hr
  refine SeqW.consX rfl (kIdxO (T := (TU8 5)) (xs := y48) (n := 10) rfl Try.underlying66 Try.type5 rfl rfl rfl o16 hy49 ?_)
  intro b50 l51 c52 cs53 hv54 hd55 hg56 hc57
  have hd550 := hd55
  obtain rfl := hd550
  obtain ⟨y60, hy60, hr⟩ := bind_some hr
  refine SeqW.consX rfl (kSet (T := (TU8 5)) (off := (10 : Int).toNat * ((TU8 5)).sz) (n := (10 : Int).toNat) (f := 0) (w := (Value.int .u8 (UInt8.toNat y60 : Int))) (new := [(Value.int .u8 (UInt8.toNat y60 : Int))]) (ecs := [(Value.int .u8 (UInt8.toNat y49 : Int))]) (ecs' := [(Value.int .u8 (UInt8.toNat y60 : Int))]) (a := y49) (a' := y60) rfl Try.type5 rfl rfl (by rw [← toU8_some hy60]; exact rfl) rfl rfl rfl o16 hv54 hg56 hd55 hc57 rfl rfl rfl st ?_)
  intro m58 st o16 sm59
  obtain ⟨y61, hy61, hr⟩ := lt_some hr
  rw [hy61] at o16
  replace bx0n := bx0n.same sm59 a20
  refine SeqW.done fun fr62 hf63 => ?_
  have h0 : fr62 0 = (Value.pointer (some ⟨b0, 0, none⟩)) := (congrFun hf63 0).trans h0
  have h5 : fr62 5 = v14 := (congrFun hf63 5).trans h5
  clear hf63
  refine thenQ.n ?_
  refine W.seq ?_
  refine W.region ?_
  refine SeqW.consX rfl (StepX.pure (pMove (v := v14) rfl h5) ?_)
  refine SeqW.consX rfl (kStrO (s := y61) rfl Try.underlying66 Try.underlying5 Try.underlying9 rfl o16 ?_)
  obtain ⟨y64, hy64, hr⟩ := bind_some hr
  refine SeqW.consX rfl (StepX.call (gCallee rfl rfl (args1 rfl)) ((c42 (z := z4) st.fz st.dead  hy64).mono ?_))
  rintro _ _ ⟨rfl, rfl⟩
  refine SeqW.consX rfl (StepX.pure (pMove (v := (Value.tuple [(Value.int .i64 y64.1), (Value.int .i64 y64.2)].toArray)) rfl rfl) ?_)
  refine SeqW.consX rfl (StepX.pure (pExtract (vs := [(Value.int .i64 y64.1), (Value.int .i64 y64.2)]) (v := (Value.int .i64 y64.1)) rfl rfl rfl) ?_)
  refine SeqW.consX rfl (StepX.pure (pExtract (vs := [(Value.int .i64 y64.1), (Value.int .i64 y64.2)]) (v := (Value.int .i64 y64.2)) rfl rfl rfl) ?_)
  refine SeqW.consX rfl (StepX.pure (pAssign (v := (Value.int .i64 y64.1)) rfl rfl) ?_)
  refine SeqW.consX rfl (StepX.pure (pAssign (v := (Value.int .i64 y64.2)) rfl rfl) ?_)
  refine SeqW.done fun fr65 hf66 => ?_
  have h0 : fr65 0 = (Value.pointer (some ⟨b0, 0, none⟩)) := (congrFun hf66 0).trans h0
  have h5 : fr65 5 = v14 := (congrFun hf66 5).trans h5
  have h6 : fr65 6 = (Value.int .i64 y64.1) := (congrFun hf66 6).trans rfl
  clear hf66
  refine thenQ.n ?_
  refine W.seq ?_
  refine W.region ?_
  refine SeqW.consX rfl (StepX.pure (pMove (v := v14) rfl h5) ?_)
  refine SeqW.consX rfl (kStrO (s := y61) rfl Try.underlying66 Try.underlying5 Try.underlying9 rfl o16 ?_)
  refine SeqW.consX rfl (StepX.pure (pMove (v := (Value.int .i64 y64.1)) rfl h6) ?_)
  refine SeqW.consX rfl (StepX.pure (pAdd (k := .i64) (a := 48) (b := y64.1) rfl rfl rfl) ?_)
  refine SeqW.consX rfl (StepX.pure (pConv (k := .i64) (a := (IntKind.wrap .i64 (48 + y64.1))) rfl Try.underlying3 Try.underlying5 rfl) ?_)
  obtain ⟨y67, hy67, hr⟩ := bind_some hr
  refine SeqW.consX rfl (kBuild (T := (TU8 5)) rfl Try.underlying66 Try.type5 rfl rfl rfl rfl ([y67] : List UInt8) [[Value.int .u8 (UInt8.toNat y67 : Int)]] rfl rfl rfl (BuildOk.mk (w := (Value.int .u8 (UInt8.toNat y67 : Int))) (by rw [← toU8_some hy67]; exact rfl) rfl rfl rfl trivial) st ?_)
  intro v68 m69 st o70 sm71 hap72
  have a74 := hap72 _ bx0n.lt'
  replace bx0n := bx0n.same sm71 Ap.none'
  refine SeqW.consX rfl (kStrO (s := ([y67] : List UInt8)) rfl Try.underlying66 Try.underlying5 Try.underlying9 rfl o70 ?_)
  obtain ⟨y75, hy75, hr⟩ := bind_some hr
  refine SeqW.consX rfl (kAddS (s := y61) (r := ([y67] : List UInt8)) rfl rfl rfl hy75 ?_)
  refine SeqW.consX rfl (StepX.pure (pAssign (v := (str y75)) rfl rfl) ?_)
  refine SeqW.done fun fr76 hf77 => ?_
  have h0 : fr76 0 = (Value.pointer (some ⟨b0, 0, none⟩)) := (congrFun hf77 0).trans h0
  have h4 : fr76 4 = (str y75) := (congrFun hf77 4).trans rfl
  clear hf77
  refine thenQ.n ?_
  refine W.ret ?_
  obtain rfl := Option.some.inj hr
  exact ⟨z4, hz, st, .inr rfl, v9, h4, s10, bx0n, trivial⟩

theorem c31 {N : Nat} {z : Nat → Blk} {m : Mem} {x0 : S56} {x1 : Int} {v0_0 : Value} {b0 : Nat} (fz : Fz z m) (hd : ∀ b, m.next ≤ b → m.blk b = .dead) (s0_0 : SlR (TInt 3 .i64) z x0.l v0_0) (bx0 : Bx z m m (some b0) b0 [v0_0, (Value.int .i64 x0.n)] 56) {r : List UInt8 × S56} (hr : m31 N x0 x1 = some r) : CallW Try.prog 31 #[(Value.pointer (some ⟨b0, 0, none⟩)), (Value.int .i64 x1)] m fun v m' => ∃ z' wr_0, Zx m.next z z' ∧ Fz z' m' ∧ Same m m' (some b0) ∧ v = (str r.1) ∧ SlR (TInt 3 .i64) z' r.2.l wr_0 ∧ Bx z' m m' (some b0) b0 [wr_0, (Value.int .i64 r.2.n)] 56 ∧ True := by
  refine CallW.any Try.func31 rfl (by kernel_rfl) (Nat.le_of_ble_eq_true rfl) (fun fr hf => ?_)
  have h0 : fr 0 = _ := hf 0 _ rfl
  have h1 : fr 1 = _ := hf 1 _ rfl
  refine (u31 (k := (some b0)) (Zx.refl _) (St.start fz hd) h0 s0_0 bx0 h1 hr).mono ?_
  rintro ex fr' m' ⟨z', hz, st, he, wr_0, h4, sr_0, bxr, -⟩
  exact ⟨he, [(str r.1)], ⟨h4.symm, trivial⟩, .inl rfl, z', wr_0, hz, st.fz, st.toSame, rfl, sr_0, bxr, trivial⟩

/-! ### (*humpyard/humpgen.Maker).Name -/

theorem u32 {N : Nat}  {z0 z : Nat → Blk} {e m : Mem} {k : Option Nat} {fr : Nat → Value} {x0 : S56} {v0_0 : Value} {b0 : Nat} (hz : Zx e.next z0 z) (st : St z e m k) (h0 : fr 0 = (Value.pointer (some ⟨b0, 0, none⟩))) (s0_0 : SlR (TInt 3 .i64) z x0.l v0_0) (bx0 : Bx z e m k b0 [v0_0, (Value.int .i64 x0.n)] 56) {r : List UInt8 × S56} (hr : m32 N x0 = some r) : W Try.prog (sub (bodyOf Try.f32) []) (fun ex fr' m' => ∃ z', Zx e.next z0 z' ∧ St z' e m' k ∧ (ex = .normal ∨ ex = .ret) ∧ ∃ (wr_0 : Value), fr' 2 = (str r.1) ∧ SlR (TInt 3 .i64) z' r.2.l wr_0 ∧ Bx z' e m' k b0 [wr_0, (Value.int .i64 r.2.n)] 56 ∧ True) fr m := by
  unfold m32 at hr
  refine W.seq ?_
  refine W.region ?_
  refine SeqW.consX rfl (StepX.pure (pAssign (v := (str [])) rfl rfl) ?_)
  refine SeqW.done fun fr1 hf2 => ?_
  have h0 : fr1 0 = (Value.pointer (some ⟨b0, 0, none⟩)) := (congrFun hf2 0).trans h0
  clear hf2
  refine thenQ.n ?_
  refine W.seq ?_
  refine W.region ?_
  refine SeqW.consX rfl (kBuild (T := (TStr 9)) rfl Try.underlying62 Try.type9 rfl rfl rfl rfl ([[97], [98], [99], [100], [101], [110, 111, 114, 116, 104], [115, 111, 117, 116, 104], [112, 111, 114, 116, 49], [120, 57], [97, 98, 99, 100, 101, 102, 103, 104, 105, 106, 107, 108]] : List (List UInt8)) [[(str [97])], [(str [98])], [(str [99])], [(str [100])], [(str [101])], [(str [110, 111, 114, 116, 104])], [(str [115, 111, 117, 116, 104])], [(str [112, 111, 114, 116, 49])], [(str [120, 57])], [(str [97, 98, 99, 100, 101, 102, 103, 104, 105, 106, 107, 108])]] rfl rfl rfl (BuildOk.mk (w := (str [97])) rfl rfl rfl rfl (BuildOk.mk (w := (str [98])) rfl rfl rfl rfl (BuildOk.mk (w := (str [99])) rfl rfl rfl rfl (BuildOk.mk (w := (str [100])) rfl rfl rfl rfl (BuildOk.mk (w := (str [101])) rfl rfl rfl rfl (BuildOk.mk (w := (str [110, 111, 114, 116, 104])) rfl rfl rfl rfl (BuildOk.mk (w := (str [115, 111, 117, 116, 104])) rfl rfl rfl rfl (BuildOk.mk (w := (str [112, 111, 114, 116, 49])) rfl rfl rfl rfl (BuildOk.mk (w := (str [120, 57])) rfl rfl rfl rfl (BuildOk.mk (w := (str [97, 98, 99, 100, 101, 102, 103, 104, 105, 106, 107, 108])) rfl rfl rfl rfl trivial)))))))))) st ?_)
  intro v3 m4 st o5 sm6 hap7
  have a9 := hap7 _ bx0.lt'
  replace bx0 := bx0.same sm6 Ap.none'
  refine SeqW.consX rfl (StepX.pure (pMove (v := (Value.pointer (some ⟨b0, 0, none⟩))) rfl h0) ?_)
  obtain ⟨y10, hy10, hr⟩ := bind_some hr
  refine SeqW.consX rfl (StepX.call (gCallee rfl rfl (args2 rfl rfl)) ((c15 (x0 := x0) (z := z) st.fz st.dead s0_0 ⟨bx0.blk, bx0.lt, bx0.dead, .inr rfl⟩ hy10).mono ?_))
  rintro _ m15 ⟨z11, v16, hzx12, fz13, sm14, rfl, s17, x19, -⟩
  replace s0_0 := s0_0.mono hzx12.le
  replace o5 := o5.call hzx12 sm14 (Ap.symm a9)
  have bx0n : Bx z11 e m15 k b0 _ _ := ⟨x19.blk, x19.lt, x19.dead, bx0.fresh⟩
  replace hz := hz.trans (Zx.here st hzx12)
  replace st := st.call hzx12 fz13 sm14 bx0.hq
  obtain ⟨y20, hy20, hr⟩ := bind_some hr
  refine SeqW.consX rfl (kIdxO (T := (TStr 9)) (xs := ([[97], [98], [99], [100], [101], [110, 111, 114, 116, 104], [115, 111, 117, 116, 104], [112, 111, 114, 116, 49], [120, 57], [97, 98, 99, 100, 101, 102, 103, 104, 105, 106, 107, 108]] : List (List UInt8))) (n := y10.1) rfl Try.underlying62 Try.type9 rfl rfl rfl o5 hy20 ?_)
  intro b21 l22 c23 cs24 hv25 hd26 hg27 hc28
  have hd260 := hd26
  obtain rfl := hd260
  refine SeqW.consX rfl (kLoad (v := (str y20)) rfl Try.underlying9 rfl rfl (hc28 0 _ rfl) ?_)
  refine SeqW.consX rfl (StepX.pure (pAssign (v := (str y20)) rfl rfl) ?_)
  refine SeqW.done fun fr29 hf30 => ?_
  have h0 : fr29 0 = (Value.pointer (some ⟨b0, 0, none⟩)) := (congrFun hf30 0).trans h0
  have h2 : fr29 2 = (str y20) := (congrFun hf30 2).trans rfl
  clear hf30
  refine thenQ.n ?_
  refine W.ret ?_
  obtain rfl := Option.some.inj hr
  exact ⟨z11, hz, st, .inr rfl, v16, h2, s17, bx0n, trivial⟩

theorem c32 {N : Nat} {z : Nat → Blk} {m : Mem} {x0 : S56} {v0_0 : Value} {b0 : Nat} (fz : Fz z m) (hd : ∀ b, m.next ≤ b → m.blk b = .dead) (s0_0 : SlR (TInt 3 .i64) z x0.l v0_0) (bx0 : Bx z m m (some b0) b0 [v0_0, (Value.int .i64 x0.n)] 56) {r : List UInt8 × S56} (hr : m32 N x0 = some r) : CallW Try.prog 32 #[(Value.pointer (some ⟨b0, 0, none⟩))] m fun v m' => ∃ z' wr_0, Zx m.next z z' ∧ Fz z' m' ∧ Same m m' (some b0) ∧ v = (str r.1) ∧ SlR (TInt 3 .i64) z' r.2.l wr_0 ∧ Bx z' m m' (some b0) b0 [wr_0, (Value.int .i64 r.2.n)] 56 ∧ True := by
  refine CallW.any Try.func32 rfl (by kernel_rfl) (Nat.le_of_ble_eq_true rfl) (fun fr hf => ?_)
  have h0 : fr 0 = _ := hf 0 _ rfl
  refine (u32 (k := (some b0)) (Zx.refl _) (St.start fz hd) h0 s0_0 bx0 hr).mono ?_
  rintro ex fr' m' ⟨z', hz, st, he, wr_0, h2, sr_0, bxr, -⟩
  exact ⟨he, [(str r.1)], ⟨h2.symm, trivial⟩, .inl rfl, z', wr_0, hz, st.fz, st.toSame, rfl, sr_0, bxr, trivial⟩

/-! ### (*humpyard/humpgen.Maker).Wagon -/

theorem u13_1 {N : Nat}  {z0 z : Nat → Blk} {e m : Mem} {k : Option Nat} {fr : Nat → Value} {x26 : Int} {x27 : Bool} {x0 : S56} {v0_0 : Value} {b0 : Nat} {x4 : S30} {b4 : Nat} {x5 : S30} {b5 : Nat} (hz : Zx e.next z0 z) (st : St z e m k) (h0 : fr 0 = (Value.pointer (some ⟨b0, 0, none⟩))) (s0_0 : SlR (TInt 3 .i64) z x0.l v0_0) (bx0 : Bx z e m k b0 [v0_0, (Value.int .i64 x0.n)] 56) (h4 : fr 4 = (Value.pointer (some ⟨b4, 0, none⟩))) (bx4 : Bx z e m k b4 [(str x4.number), (Value.int .i64 x4.length), (Value.int .i64 x4.axles), (Value.int .i64 x4.mass), (Value.int .i64 x4.brake), (Value.int .i64 x4.goods), (Value.bool x4.gentle), (str x4.dest)] 30) (h5 : fr 5 = (Value.pointer (some ⟨b5, 0, none⟩))) (bx5 : Bx z e m k b5 [(str x5.number), (Value.int .i64 x5.length), (Value.int .i64 x5.axles), (Value.int .i64 x5.mass), (Value.int .i64 x5.brake), (Value.int .i64 x5.goods), (Value.bool x5.gentle), (str x5.dest)] 30) (h26 : fr 26 = (Value.int .u8 x26)) (h27 : fr 27 = (Value.bool x27)) (ao0_o4 : Ap (some b0) (some b4)) (ao0_o5 : Ap (some b0) (some b5)) (ao4_o5 : Ap (some b4) (some b5)) {r : Bool} (hr : m13_1 N x26 x27 = some r) : W Try.prog (sub (bodyOf Try.f13) [1, 1, 0, 1, 0, 0, 1]) (fun ex fr' m' => ∃ z', Zx e.next z0 z' ∧ St z' e m' k ∧ ex = AExit.normal ∧ fr' 27 = (Value.bool r) ∧ Bx z' e m' k b0 [v0_0, (Value.int .i64 x0.n)] 56 ∧ Bx z' e m' k b4 [(str x4.number), (Value.int .i64 x4.length), (Value.int .i64 x4.axles), (Value.int .i64 x4.mass), (Value.int .i64 x4.brake), (Value.int .i64 x4.goods), (Value.bool x4.gentle), (str x4.dest)] 30 ∧ Bx z' e m' k b5 [(str x5.number), (Value.int .i64 x5.length), (Value.int .i64 x5.axles), (Value.int .i64 x5.mass), (Value.int .i64 x5.brake), (Value.int .i64 x5.goods), (Value.bool x5.gentle), (str x5.dest)] 30 ∧ Ap (some b0) (some b4) ∧ Ap (some b0) (some b5) ∧ Ap (some b4) (some b5) ∧ True) fr m := by
  unfold m13_1 at hr
  rcases if_some hr with ⟨hc124, hr⟩ | ⟨hc125, hr⟩
  · refine W.condT h27 hc124 ?_
    refine W.skip ?_
    obtain rfl := Option.some.inj hr
    exact ⟨z, hz, st, rfl, h27, bx0, bx4, bx5, ao0_o4, ao0_o5, ao4_o5, trivial⟩
  · refine W.condF h27 hc125 ?_
    refine W.region ?_
    refine SeqW.consX rfl (StepX.pure (pEql (k := .u8) (a := x26) (b := 52) rfl h26 rfl) ?_)
    obtain ⟨y126, hy126, hr⟩ := lt_some hr
    refine SeqW.consX rfl (StepX.pure (pAssign rfl (congrArg Value.bool hy126)) ?_)
    refine SeqW.done fun fr127 hf128 => ?_
    have h0 : fr127 0 = (Value.pointer (some ⟨b0, 0, none⟩)) := (congrFun hf128 0).trans h0
    have h4 : fr127 4 = (Value.pointer (some ⟨b4, 0, none⟩)) := (congrFun hf128 4).trans h4
    have h5 : fr127 5 = (Value.pointer (some ⟨b5, 0, none⟩)) := (congrFun hf128 5).trans h5
    have h26 : fr127 26 = (Value.int .u8 x26) := (congrFun hf128 26).trans h26
    have h27 : fr127 27 = (Value.bool y126) := (congrFun hf128 27).trans rfl
    clear hf128
    obtain rfl := Option.some.inj hr
    exact ⟨z, hz, st, rfl, h27, bx0, bx4, bx5, ao0_o4, ao0_o5, ao4_o5, trivial⟩

theorem u13_0 {N : Nat}  {z0 z : Nat → Blk} {e m : Mem} {k : Option Nat} {fr : Nat → Value} {x5 : S30} {x26 : Int} {x0 : S56} {v0_0 : Value} {b0 : Nat} {x4 : S30} {b4 : Nat} {b5 : Nat} (hz : Zx e.next z0 z) (st : St z e m k) (h0 : fr 0 = (Value.pointer (some ⟨b0, 0, none⟩))) (s0_0 : SlR (TInt 3 .i64) z x0.l v0_0) (bx0 : Bx z e m k b0 [v0_0, (Value.int .i64 x0.n)] 56) (h4 : fr 4 = (Value.pointer (some ⟨b4, 0, none⟩))) (bx4 : Bx z e m k b4 [(str x4.number), (Value.int .i64 x4.length), (Value.int .i64 x4.axles), (Value.int .i64 x4.mass), (Value.int .i64 x4.brake), (Value.int .i64 x4.goods), (Value.bool x4.gentle), (str x4.dest)] 30) (h5 : fr 5 = (Value.pointer (some ⟨b5, 0, none⟩))) (bx5 : Bx z e m k b5 [(str x5.number), (Value.int .i64 x5.length), (Value.int .i64 x5.axles), (Value.int .i64 x5.mass), (Value.int .i64 x5.brake), (Value.int .i64 x5.goods), (Value.bool x5.gentle), (str x5.dest)] 30) (h26 : fr 26 = (Value.int .u8 x26)) (ao0_o4 : Ap (some b0) (some b4)) (ao0_o5 : Ap (some b0) (some b5)) (ao4_o5 : Ap (some b4) (some b5)) {r : S30} (hr : m13_0 N x5 x26 = some r) : W Try.prog (sub (bodyOf Try.f13) [1, 1, 0, 1]) (fun ex fr' m' => ∃ z', Zx e.next z0 z' ∧ St z' e m' k ∧ ex = AExit.normal ∧ fr' 5 = (Value.pointer (some ⟨b5, 0, none⟩)) ∧ Bx z' e m' k b5 [(str r.number), (Value.int .i64 r.length), (Value.int .i64 r.axles), (Value.int .i64 r.mass), (Value.int .i64 r.brake), (Value.int .i64 r.goods), (Value.bool r.gentle), (str r.dest)] 30 ∧ Bx z' e m' k b0 [v0_0, (Value.int .i64 x0.n)] 56 ∧ Bx z' e m' k b4 [(str x4.number), (Value.int .i64 x4.length), (Value.int .i64 x4.axles), (Value.int .i64 x4.mass), (Value.int .i64 x4.brake), (Value.int .i64 x4.goods), (Value.bool x4.gentle), (str x4.dest)] 30 ∧ Ap (some b5) (some b0) ∧ Ap (some b5) (some b4) ∧ Ap (some b0) (some b4) ∧ True) fr m := by
  unfold m13_0 at hr
  refine W.block ?_
  refine W.seq ?_
  refine W.seq ?_
  refine W.region ?_
  refine SeqW.consX rfl (StepX.pure (pEql (k := .u8) (a := x26) (b := 50) rfl h26 rfl) ?_)
  obtain ⟨y121, hy121, hr⟩ := lt_some hr
  refine SeqW.consX rfl (StepX.pure (pAssign rfl (congrArg Value.bool hy121)) ?_)
  refine SeqW.done fun fr122 hf123 => ?_
  have h0 : fr122 0 = (Value.pointer (some ⟨b0, 0, none⟩)) := (congrFun hf123 0).trans h0
  have h4 : fr122 4 = (Value.pointer (some ⟨b4, 0, none⟩)) := (congrFun hf123 4).trans h4
  have h5 : fr122 5 = (Value.pointer (some ⟨b5, 0, none⟩)) := (congrFun hf123 5).trans h5
  have h26 : fr122 26 = (Value.int .u8 x26) := (congrFun hf123 26).trans h26
  have h27 : fr122 27 = (Value.bool y121) := (congrFun hf123 27).trans rfl
  clear hf123
  refine thenQ.n ?_
  obtain ⟨y129, hy129, hr⟩ := bind_some hr
  refine W.keep (u13_1 (x0 := x0) (x4 := x4) (x5 := x5) (Zx.refl _) st h0 s0_0 bx0 h4 bx4 h5 bx5 h26 h27 ao0_o4 ao0_o5 ao4_o5 hy129) ?_
  rintro ex135 fr130 m131 hk133 ⟨z132, hz134, st, rfl, h27, o136, o137, o138, a139, a140, a141, -⟩
  replace s0_0 := s0_0.mono hz134.le
  have h0 := (hk133 0 rfl).trans h0
  have h4 := (hk133 4 rfl).trans h4
  have h5 := (hk133 5 rfl).trans h5
  have h26 := (hk133 26 rfl).trans h26
  replace hz := hz.trans hz134
  clear hk133
  refine thenQ.n ?_
  rcases if_some hr with ⟨hc142, hr⟩ | ⟨hc147, hr⟩
  · refine W.condT h27 hc142 ?_
    refine W.region ?_
    refine SeqW.consX rfl (kField rfl Try.underlying30 rfl Try.type3 rfl h5 rfl ?_)
    refine SeqW.consX rfl (kPut (off := 2) (w := (Value.int .i64 2)) (new := [(Value.int .i64 2)]) rfl Try.type3 rfl rfl rfl rfl rfl o138 rfl [(str x5.number), (Value.int .i64 x5.length), (Value.int .i64 2), (Value.int .i64 x5.mass), (Value.int .i64 x5.brake), (Value.int .i64 x5.goods), (Value.bool x5.gentle), (str x5.dest)] rfl st ?_)
    intro m143 st o138 sm144
    replace o136 := o136.same sm144 a140
    replace o137 := o137.same sm144 a141
    refine SeqW.done fun fr145 hf146 => ?_
    have h0 : fr145 0 = (Value.pointer (some ⟨b0, 0, none⟩)) := (congrFun hf146 0).trans h0
    have h4 : fr145 4 = (Value.pointer (some ⟨b4, 0, none⟩)) := (congrFun hf146 4).trans h4
    have h5 : fr145 5 = (Value.pointer (some ⟨b5, 0, none⟩)) := (congrFun hf146 5).trans h5
    clear hf146
    refine blockQ.n ?_
    obtain rfl := Option.some.inj hr
    exact ⟨z132, hz, st, rfl, h5, o138, o136, o137, (Ap.symm a140), (Ap.symm a141), a139, trivial⟩
  · refine W.condF h27 hc147 ?_
    refine W.seq ?_
    refine W.region ?_
    refine SeqW.consX rfl (StepX.pure (pEql (k := .u8) (a := x26) (b := 57) rfl h26 rfl) ?_)
    obtain ⟨y148, hy148, hr⟩ := lt_some hr
    refine SeqW.consX rfl (StepX.pure (pAssign rfl (congrArg Value.bool hy148)) ?_)
    refine SeqW.done fun fr149 hf150 => ?_
    have h0 : fr149 0 = (Value.pointer (some ⟨b0, 0, none⟩)) := (congrFun hf150 0).trans h0
    have h4 : fr149 4 = (Value.pointer (some ⟨b4, 0, none⟩)) := (congrFun hf150 4).trans h4
    have h5 : fr149 5 = (Value.pointer (some ⟨b5, 0, none⟩)) := (congrFun hf150 5).trans h5
    have h31 : fr149 31 = (Value.bool y148) := (congrFun hf150 31).trans rfl
    clear hf150
    refine thenQ.n ?_
    rcases if_some hr with ⟨hc151, hr⟩ | ⟨hc160, hr⟩
    · refine W.condT h31 hc151 ?_
      refine W.seq ?_
      refine W.region ?_
      refine SeqW.consX rfl (kField rfl Try.underlying30 rfl Try.type3 rfl h5 rfl ?_)
      refine SeqW.consX rfl (kPut (off := 2) (w := (Value.int .i64 6)) (new := [(Value.int .i64 6)]) rfl Try.type3 rfl rfl rfl rfl rfl o138 rfl [(str x5.number), (Value.int .i64 x5.length), (Value.int .i64 6), (Value.int .i64 x5.mass), (Value.int .i64 x5.brake), (Value.int .i64 x5.goods), (Value.bool x5.gentle), (str x5.dest)] rfl st ?_)
      intro m152 st o138 sm153
      replace o136 := o136.same sm153 a140
      replace o137 := o137.same sm153 a141
      refine SeqW.done fun fr154 hf155 => ?_
      have h0 : fr154 0 = (Value.pointer (some ⟨b0, 0, none⟩)) := (congrFun hf155 0).trans h0
      have h4 : fr154 4 = (Value.pointer (some ⟨b4, 0, none⟩)) := (congrFun hf155 4).trans h4
      have h5 : fr154 5 = (Value.pointer (some ⟨b5, 0, none⟩)) := (congrFun hf155 5).trans h5
      clear hf155
      refine thenQ.n ?_
      refine W.region ?_
      refine SeqW.consX rfl (kField rfl Try.underlying30 rfl Try.type3 rfl h5 rfl ?_)
      refine SeqW.consX rfl (kLoad rfl Try.underlying3 rfl rfl (o138.load (v := (Value.int .i64 x5.length)) rfl) ?_)
      refine SeqW.consX rfl (StepX.pure (pMax2 (k := .i64) (a := x5.length) (b := 120) rfl rfl rfl) ?_)
      refine SeqW.consX rfl (kField rfl Try.underlying30 rfl Try.type3 rfl h5 rfl ?_)
      refine SeqW.consX rfl (kPut (off := 1) (w := (Value.int .i64 (max x5.length 120))) (new := [(Value.int .i64 (max x5.length 120))]) rfl Try.type3 rfl rfl rfl rfl rfl o138 rfl [(str x5.number), (Value.int .i64 (max x5.length 120)), (Value.int .i64 6), (Value.int .i64 x5.mass), (Value.int .i64 x5.brake), (Value.int .i64 x5.goods), (Value.bool x5.gentle), (str x5.dest)] rfl st ?_)
      intro m156 st o138 sm157
      replace o136 := o136.same sm157 a140
      replace o137 := o137.same sm157 a141
      refine SeqW.done fun fr158 hf159 => ?_
      have h0 : fr158 0 = (Value.pointer (some ⟨b0, 0, none⟩)) := (congrFun hf159 0).trans h0
      have h4 : fr158 4 = (Value.pointer (some ⟨b4, 0, none⟩)) := (congrFun hf159 4).trans h4
      have h5 : fr158 5 = (Value.pointer (some ⟨b5, 0, none⟩)) := (congrFun hf159 5).trans h5
      clear hf159
      refine blockQ.n ?_
      obtain rfl := Option.some.inj hr
      exact ⟨z132, hz, st, rfl, h5, o138, o136, o137, (Ap.symm a140), (Ap.symm a141), a139, trivial⟩
    · refine W.condF h31 hc160 ?_
      refine W.skip ?_
      refine blockQ.n ?_
      obtain rfl := Option.some.inj hr
      exact ⟨z132, hz, st, rfl, h5, o138, o136, o137, (Ap.symm a140), (Ap.symm a141), a139, trivial⟩

theorem u13 {N : Nat}  {z0 z : Nat → Blk} {e m : Mem} {k : Option Nat} {fr : Nat → Value} {x0 : S56} {x1 : Int} {v0_0 : Value} {b0 : Nat} (hz : Zx e.next z0 z) (st : St z e m k) (h0 : fr 0 = (Value.pointer (some ⟨b0, 0, none⟩))) (s0_0 : SlR (TInt 3 .i64) z x0.l v0_0) (bx0 : Bx z e m k b0 [v0_0, (Value.int .i64 x0.n)] 56) (h1 : fr 1 = (Value.int .i64 x1)) {r : S30 × S56} (hr : m13 N x0 x1 = some r) : W Try.prog (sub (bodyOf Try.f13) []) (fun ex fr' m' => ∃ z', Zx e.next z0 z' ∧ St z' e m' k ∧ (ex = .normal ∨ ex = .ret) ∧ ∃ (c4 : Nat) (wr_0 : Value), fr' 4 = (Value.pointer (some ⟨c4, 0, none⟩)) ∧ Bx z' e m' k c4 [(str r.1.number), (Value.int .i64 r.1.length), (Value.int .i64 r.1.axles), (Value.int .i64 r.1.mass), (Value.int .i64 r.1.brake), (Value.int .i64 r.1.goods), (Value.bool r.1.gentle), (str r.1.dest)] 30 ∧ (e.next ≤ c4 ∨ k = some c4) ∧ SlR (TInt 3 .i64) z' r.2.l wr_0 ∧ Bx z' e m' k b0 [wr_0, (Value.int .i64 r.2.n)] 56 ∧ True) fr m := by
  unfold m13 at hr
  refine W.seq ?_
  refine W.region ?_
  refine SeqW.consX rfl (kAlloc rfl Try.type30 rfl rfl rfl [(str []), (Value.int .i64 0), (Value.int .i64 0), (Value.int .i64 0), (Value.int .i64 0), (Value.int .i64 0), (Value.bool false), (str [])] rfl st ?_)
  intro b1 m2 st x3 sm4 hap5
  have a7 := hap5 _ bx0.lt'
  replace bx0 := bx0.same sm4 Ap.none'
  refine SeqW.done fun fr8 hf9 => ?_
  have h0 : fr8 0 = (Value.pointer (some ⟨b0, 0, none⟩)) := (congrFun hf9 0).trans h0
  have h1 : fr8 1 = (Value.int .i64 x1) := (congrFun hf9 1).trans h1
  have h4 : fr8 4 = (Value.pointer (some ⟨b1, 0, none⟩)) := (congrFun hf9 4).trans rfl
  clear hf9
  refine thenQ.n ?_
  refine W.seq ?_
  refine W.region ?_
  refine SeqW.consX rfl (StepX.pure (pMove (v := (Value.pointer (some ⟨b0, 0, none⟩))) rfl h0) ?_)
  refine SeqW.consX rfl (StepX.pure (pMove (v := (Value.int .i64 x1)) rfl h1) ?_)
  obtain ⟨y10, hy10, hr⟩ := bind_some hr
  refine SeqW.consX rfl (StepX.call (gCallee rfl rfl (args2 rfl rfl)) ((c31 (x0 := x0) (z := z) st.fz st.dead s0_0 ⟨bx0.blk, bx0.lt, bx0.dead, .inr rfl⟩ hy10).mono ?_))
  rintro _ m15 ⟨z11, v16, hzx12, fz13, sm14, rfl, s17, x19, -⟩
  replace s0_0 := s0_0.mono hzx12.le
  replace x3 := x3.call hzx12 sm14 (Ap.symm a7)
  have bx0n : Bx z11 e m15 k b0 _ _ := ⟨x19.blk, x19.lt, x19.dead, bx0.fresh⟩
  replace hz := hz.trans (Zx.here st hzx12)
  replace st := st.call hzx12 fz13 sm14 bx0.hq
  refine SeqW.consX rfl (StepX.pure (pMove (v := (Value.pointer (some ⟨b0, 0, none⟩))) rfl h0) ?_)
  refine SeqW.consX rfl (kBuild (T := (TInt 3 .i64)) rfl Try.underlying22 Try.type3 rfl rfl rfl rfl ([80, 120, 142, 199, 262, 400] : List Int) [[(Value.int .i64 80)], [(Value.int .i64 120)], [(Value.int .i64 142)], [(Value.int .i64 199)], [(Value.int .i64 262)], [(Value.int .i64 400)]] rfl rfl rfl (BuildOk.mk (w := (Value.int .i64 80)) rfl rfl rfl rfl (BuildOk.mk (w := (Value.int .i64 120)) rfl rfl rfl rfl (BuildOk.mk (w := (Value.int .i64 142)) rfl rfl rfl rfl (BuildOk.mk (w := (Value.int .i64 199)) rfl rfl rfl rfl (BuildOk.mk (w := (Value.int .i64 262)) rfl rfl rfl rfl (BuildOk.mk (w := (Value.int .i64 400)) rfl rfl rfl rfl trivial)))))) st ?_)
  intro v20 m21 st o22 sm23 hap24
  have a26 := hap24 _ bx0n.lt'
  have a27 := hap24 _ x3.lt'
  replace bx0n := bx0n.same sm23 Ap.none'
  replace x3 := x3.same sm23 Ap.none'
  obtain ⟨z28, hz29, st, s30, hl31⟩ := o22.freeze st
  replace bx0n := bx0n.zle (hl31 _ a26)
  replace x3 := x3.zle (hl31 _ a27)
  replace s17 := s17.mono hz29.le
  replace hz := hz.trans hz29
  obtain ⟨y32, hy32, hr⟩ := bind_some hr
  refine SeqW.consX rfl (StepX.call (gCallee rfl rfl (args2 rfl rfl)) ((c16 (x0 := y10.2) (z := z28) st.fz st.dead s17 ⟨bx0n.blk, bx0n.lt, bx0n.dead, .inr rfl⟩ s30 hy32).mono ?_))
  rintro _ m37 ⟨z33, v38, hzx34, fz35, sm36, rfl, s39, x41, -⟩
  replace x3 := x3.call hzx34 sm36 (Ap.symm a7)
  replace s17 := s17.mono hzx34.le
  replace s30 := s30.mono hzx34.le
  have bx0nn : Bx z33 e m37 k b0 _ _ := ⟨x41.blk, x41.lt, x41.dead, bx0n.fresh⟩
  replace hz := hz.trans (Zx.here st hzx34)
  replace st := st.call hzx34 fz35 sm36 bx0n.hq
  refine SeqW.consX rfl (StepX.pure (pMove (v := (Value.pointer (some ⟨b0, 0, none⟩))) rfl h0) ?_)
  refine SeqW.consX rfl (kBuild (T := (TInt 3 .i64)) rfl Try.underlying22 Try.type3 rfl rfl rfl rfl ([50, 120, 400, 800, 2000] : List Int) [[(Value.int .i64 50)], [(Value.int .i64 120)], [(Value.int .i64 400)], [(Value.int .i64 800)], [(Value.int .i64 2000)]] rfl rfl rfl (BuildOk.mk (w := (Value.int .i64 50)) rfl rfl rfl rfl (BuildOk.mk (w := (Value.int .i64 120)) rfl rfl rfl rfl (BuildOk.mk (w := (Value.int .i64 400)) rfl rfl rfl rfl (BuildOk.mk (w := (Value.int .i64 800)) rfl rfl rfl rfl (BuildOk.mk (w := (Value.int .i64 2000)) rfl rfl rfl rfl trivial))))) st ?_)
  intro v42 m43 st o44 sm45 hap46
  have a48 := hap46 _ bx0nn.lt'
  have a49 := hap46 _ x3.lt'
  replace bx0nn := bx0nn.same sm45 Ap.none'
  replace x3 := x3.same sm45 Ap.none'
  obtain ⟨z50, hz51, st, s52, hl53⟩ := o44.freeze st
  replace bx0nn := bx0nn.zle (hl53 _ a48)
  replace x3 := x3.zle (hl53 _ a49)
  replace s39 := s39.mono hz51.le
  replace hz := hz.trans hz51
  obtain ⟨y54, hy54, hr⟩ := bind_some hr
  refine SeqW.consX rfl (StepX.call (gCallee rfl rfl (args2 rfl rfl)) ((c16 (x0 := y32.2) (z := z50) st.fz st.dead s39 ⟨bx0nn.blk, bx0nn.lt, bx0nn.dead, .inr rfl⟩ s52 hy54).mono ?_))
  rintro _ m59 ⟨z55, v60, hzx56, fz57, sm58, rfl, s61, x63, -⟩
  replace x3 := x3.call hzx56 sm58 (Ap.symm a7)
  replace s39 := s39.mono hzx56.le
  replace s52 := s52.mono hzx56.le
  have bx0nnn : Bx z55 e m59 k b0 _ _ := ⟨x63.blk, x63.lt, x63.dead, bx0nn.fresh⟩
  replace hz := hz.trans (Zx.here st hzx56)
  replace st := st.call hzx56 fz57 sm58 bx0nn.hq
  refine SeqW.consX rfl (StepX.pure (pMove (v := (Value.pointer (some ⟨b0, 0, none⟩))) rfl h0) ?_)
  refine SeqW.consX rfl (kBuild (T := (TInt 3 .i64)) rfl Try.underlying22 Try.type3 rfl rfl rfl rfl ([0, 0, 0, 1, 3, 9] : List Int) [[(Value.int .i64 0)], [(Value.int .i64 0)], [(Value.int .i64 0)], [(Value.int .i64 1)], [(Value.int .i64 3)], [(Value.int .i64 9)]] rfl rfl rfl (BuildOk.mk (w := (Value.int .i64 0)) rfl rfl rfl rfl (BuildOk.mk (w := (Value.int .i64 0)) rfl rfl rfl rfl (BuildOk.mk (w := (Value.int .i64 0)) rfl rfl rfl rfl (BuildOk.mk (w := (Value.int .i64 1)) rfl rfl rfl rfl (BuildOk.mk (w := (Value.int .i64 3)) rfl rfl rfl rfl (BuildOk.mk (w := (Value.int .i64 9)) rfl rfl rfl rfl trivial)))))) st ?_)
  intro v64 m65 st o66 sm67 hap68
  have a70 := hap68 _ bx0nnn.lt'
  have a71 := hap68 _ x3.lt'
  replace bx0nnn := bx0nnn.same sm67 Ap.none'
  replace x3 := x3.same sm67 Ap.none'
  obtain ⟨z72, hz73, st, s74, hl75⟩ := o66.freeze st
  replace bx0nnn := bx0nnn.zle (hl75 _ a70)
  replace x3 := x3.zle (hl75 _ a71)
  replace s61 := s61.mono hz73.le
  replace hz := hz.trans hz73
  obtain ⟨y76, hy76, hr⟩ := bind_some hr
  refine SeqW.consX rfl (StepX.call (gCallee rfl rfl (args2 rfl rfl)) ((c16 (x0 := y54.2) (z := z72) st.fz st.dead s61 ⟨bx0nnn.blk, bx0nnn.lt, bx0nnn.dead, .inr rfl⟩ s74 hy76).mono ?_))
  rintro _ m81 ⟨z77, v82, hzx78, fz79, sm80, rfl, s83, x85, -⟩
  replace x3 := x3.call hzx78 sm80 (Ap.symm a7)
  replace s61 := s61.mono hzx78.le
  replace s74 := s74.mono hzx78.le
  have bx0nnnn : Bx z77 e m81 k b0 _ _ := ⟨x85.blk, x85.lt, x85.dead, bx0nnn.fresh⟩
  replace hz := hz.trans (Zx.here st hzx78)
  replace st := st.call hzx78 fz79 sm80 bx0nnn.hq
  refine SeqW.consX rfl (StepX.pure (pMove (v := (Value.pointer (some ⟨b0, 0, none⟩))) rfl h0) ?_)
  obtain ⟨y86, hy86, hr⟩ := bind_some hr
  refine SeqW.consX rfl (StepX.call (gCallee rfl rfl (args2 rfl rfl)) ((c15 (x0 := y76.2) (z := z77) st.fz st.dead s83 ⟨bx0nnnn.blk, bx0nnnn.lt, bx0nnnn.dead, .inr rfl⟩ hy86).mono ?_))
  rintro _ m91 ⟨z87, v92, hzx88, fz89, sm90, rfl, s93, x95, -⟩
  replace x3 := x3.call hzx88 sm90 (Ap.symm a7)
  replace s83 := s83.mono hzx88.le
  have bx0nnnnn : Bx z87 e m91 k b0 _ _ := ⟨x95.blk, x95.lt, x95.dead, bx0nnnn.fresh⟩
  replace hz := hz.trans (Zx.here st hzx88)
  replace st := st.call hzx88 fz89 sm90 bx0nnnn.hq
  refine SeqW.consX rfl (StepX.pure (pEql (k := .i64) (a := y86.1) (b := 0) rfl rfl rfl) ?_)
  refine SeqW.consX rfl (StepX.pure (pMove (v := (Value.pointer (some ⟨b0, 0, none⟩))) rfl h0) ?_)
  obtain ⟨y96, hy96, hr⟩ := bind_some hr
  refine SeqW.consX rfl (StepX.call (gCallee rfl rfl (args1 rfl)) ((c32 (x0 := y86.2) (z := z87) st.fz st.dead s93 ⟨bx0nnnnn.blk, bx0nnnnn.lt, bx0nnnnn.dead, .inr rfl⟩ hy96).mono ?_))
  rintro _ m101 ⟨z97, v102, hzx98, fz99, sm100, rfl, s103, x105, -⟩
  replace x3 := x3.call hzx98 sm100 (Ap.symm a7)
  replace s93 := s93.mono hzx98.le
  have bx0nnnnnn : Bx z97 e m101 k b0 _ _ := ⟨x105.blk, x105.lt, x105.dead, bx0nnnnn.fresh⟩
  replace hz := hz.trans (Zx.here st hzx98)
  replace st := st.call hzx98 fz99 sm100 bx0nnnnn.hq
  refine SeqW.consX rfl (kBuildS [(0, (str y10.1)), (2, (Value.int .i64 4)), (1, (Value.int .i64 y32.1)), (3, (Value.int .i64 y54.1)), (5, (Value.int .i64 y76.1)), (6, (Value.bool (y86.1 == 0))), (7, (str y96.1))] [(str y10.1), (Value.int .i64 y32.1), (Value.int .i64 4), (Value.int .i64 y54.1), (Value.int .i64 0), (Value.int .i64 y76.1), (Value.bool (y86.1 == 0)), (str y96.1)] rfl Try.underlying30 Try.type30 rfl rfl (places30 Try.underlying30) rfl (rfl) rfl ?_)
  refine SeqW.consX rfl (kAlloc rfl Try.type30 rfl rfl rfl [(str []), (Value.int .i64 0), (Value.int .i64 0), (Value.int .i64 0), (Value.int .i64 0), (Value.int .i64 0), (Value.bool false), (str [])] rfl st ?_)
  intro b106 m107 st x108 sm109 hap110
  have a112 := hap110 _ bx0nnnnnn.lt'
  have a113 := hap110 _ x3.lt'
  replace bx0nnnnnn := bx0nnnnnn.same sm109 Ap.none'
  replace x3 := x3.same sm109 Ap.none'
  refine SeqW.consX rfl (kPut (off := 0) (w := (Value.agg [(str y10.1), (Value.int .i64 y32.1), (Value.int .i64 4), (Value.int .i64 y54.1), (Value.int .i64 0), (Value.int .i64 y76.1), (Value.bool (y86.1 == 0)), (str y96.1)].toArray)) (new := [(str y10.1), (Value.int .i64 y32.1), (Value.int .i64 4), (Value.int .i64 y54.1), (Value.int .i64 0), (Value.int .i64 y76.1), (Value.bool (y86.1 == 0)), (str y96.1)]) rfl Try.type30 rfl rfl rfl rfl rfl x108 rfl [(str y10.1), (Value.int .i64 y32.1), (Value.int .i64 4), (Value.int .i64 y54.1), (Value.int .i64 0), (Value.int .i64 y76.1), (Value.bool (y86.1 == 0)), (str y96.1)] rfl st ?_)
  intro m114 st x108 sm115
  replace bx0nnnnnn := bx0nnnnnn.same sm115 a112
  replace x3 := x3.same sm115 a113
  refine SeqW.done fun fr116 hf117 => ?_
  have h0 : fr116 0 = (Value.pointer (some ⟨b0, 0, none⟩)) := (congrFun hf117 0).trans h0
  have h4 : fr116 4 = (Value.pointer (some ⟨b1, 0, none⟩)) := (congrFun hf117 4).trans h4
  have h5 : fr116 5 = (Value.pointer (some ⟨b106, 0, none⟩)) := (congrFun hf117 5).trans rfl
  clear hf117
  refine thenQ.n ?_
  refine W.seq ?_
  refine W.seq ?_
  refine W.region ?_
  refine SeqW.consX rfl (kField rfl Try.underlying30 rfl Try.type9 rfl h5 rfl ?_)
  refine SeqW.consX rfl (kLoad rfl Try.underlying9 rfl rfl (x108.load (v := (str y10.1)) rfl) ?_)
  obtain ⟨y118, hy118, hr⟩ := bind_some hr
  refine SeqW.consX rfl (kIndexS (s := y10.1) (n := 4) rfl Try.underlying9 rfl rfl hy118 ?_)
  refine SeqW.done fun fr119 hf120 => ?_
  have h0 : fr119 0 = (Value.pointer (some ⟨b0, 0, none⟩)) := (congrFun hf120 0).trans h0
  have h4 : fr119 4 = (Value.pointer (some ⟨b1, 0, none⟩)) := (congrFun hf120 4).trans h4
  have h5 : fr119 5 = (Value.pointer (some ⟨b106, 0, none⟩)) := (congrFun hf120 5).trans h5
  have h26 : fr119 26 = (Value.int .u8 (UInt8.toNat y118 : Int)) := (congrFun hf120 26).trans rfl
  clear hf120
  refine thenQ.n ?_
  obtain ⟨y161, hy161, hr⟩ := bind_some hr
  refine W.keep (u13_0 (x0 := y96.2) (x4 := (S30.mk [] 0 0 0 0 0 false [])) (x5 := (S30.mk y10.1 y32.1 4 y54.1 0 y76.1 (y86.1 == 0) y96.1)) (Zx.refl _) st h0 s103 bx0nnnnnn h4 x3 h5 x108 h26 a7 a112 a113 hy161) ?_
  rintro ex167 fr162 m163 hk165 ⟨z164, hz166, st, rfl, h5, x169, o170, o171, a172, a173, a174, -⟩
  replace s103 := s103.mono hz166.le
  have h0 := (hk165 0 rfl).trans h0
  have h4 := (hk165 4 rfl).trans h4
  replace hz := hz.trans hz166
  clear hk165
  refine thenQ.n ?_
  refine W.seq ?_
  refine W.draw ?_
  refine DrawW.cons rfl (kField rfl Try.underlying30 rfl Try.type3 rfl h5 rfl ?_)
  refine ⟨trivial, ?_⟩
  refine DrawW.cons rfl (kLoad rfl Try.underlying3 rfl rfl (x169.load (v := (Value.int .i64 y161.mass)) rfl) ?_)
  refine ⟨?_, ?_⟩
  · exact demN
  refine DrawW.cons rfl (StepX.pure (pMove (v := (Value.pointer (some ⟨b0, 0, none⟩))) rfl h0) ?_)
  refine ⟨trivial, ?_⟩
  have old175 := o170
  have old176 := o171
  have old177 := x169
  obtain ⟨y178, hy178, hr⟩ := bind_some hr
  refine DrawW.cons rfl (StepX.call (gCallee rfl rfl (args2 rfl rfl)) ((c15 (x0 := y96.2) (z := z164) st.fz st.dead s103 ⟨o170.blk, o170.lt, o170.dead, .inr rfl⟩ hy178).mono ?_))
  rintro _ m183 ⟨z179, v184, hzx180, fz181, sm182, rfl, s185, x187, -⟩
  replace o171 := o171.call hzx180 sm182 (Ap.symm a174)
  replace s103 := s103.mono hzx180.le
  replace x169 := x169.call hzx180 sm182 a172
  have o170n : Bx z179 e m183 k b0 _ _ := ⟨x187.blk, x187.lt, x187.dead, o170.fresh⟩
  replace hz := hz.trans (Zx.here st hzx180)
  replace st := st.call hzx180 fz181 sm182 o170.hq
  refine ⟨⟨?_, ?_⟩, ?_⟩
  · first | refine demP (gLoad rfl Try.underlying3 rfl rfl (x169.load (v := (Value.int .i64 y161.mass)) rfl)) ?_ | refine demA (by decide) ?_
    exact demN
  · exact demN
  refine DrawW.cons rfl (StepX.pure (pMul (k := .i64) (a := y161.mass) (b := y178.1) rfl rfl rfl) ?_)
  refine ⟨trivial, ?_⟩
  refine DrawW.cons rfl (StepX.pure (pQuo (k := .i64) (a := (IntKind.wrap .i64 (y161.mass * y178.1))) (b := 4) rfl rfl rfl (by decide)) ?_)
  refine ⟨trivial, ?_⟩
  refine DrawW.cons rfl (kField rfl Try.underlying30 rfl Try.type3 rfl h5 rfl ?_)
  refine ⟨trivial, ?_⟩
  have old188 := o170n
  have old189 := o171
  have old190 := x169
  refine DrawW.cons rfl (kPut (off := 4) (w := (Value.int .i64 (IntKind.wrap .i64 (Int.tdiv (IntKind.wrap .i64 (y161.mass * y178.1)) 4)))) (new := [(Value.int .i64 (IntKind.wrap .i64 (Int.tdiv (IntKind.wrap .i64 (y161.mass * y178.1)) 4)))]) rfl Try.type3 rfl rfl rfl rfl rfl x169 rfl [(str y161.number), (Value.int .i64 y161.length), (Value.int .i64 y161.axles), (Value.int .i64 y161.mass), (Value.int .i64 (IntKind.wrap .i64 (Int.tdiv (IntKind.wrap .i64 (y161.mass * y178.1)) 4))), (Value.int .i64 y161.goods), (Value.bool y161.gentle), (str y161.dest)] rfl st ?_)
  intro m191 st x169 sm192
  replace o170n := o170n.same sm192 (Ap.symm a172)
  replace o171 := o171.same sm192 (Ap.symm a173)
  refine ⟨⟨?_, ?_⟩, ?_⟩
  · first | refine demP (gLoad rfl Try.underlying3 rfl rfl (x169.load (v := (Value.int .i64 y161.mass)) rfl)) ?_ | refine demA (by decide) ?_
    exact demN
  · exact demN
  refine DrawW.done fun fr193 hf194 => ?_
  have h0 : fr193 0 = (Value.pointer (some ⟨b0, 0, none⟩)) := (congrFun hf194 0).trans h0
  have h4 : fr193 4 = (Value.pointer (some ⟨b1, 0, none⟩)) := (congrFun hf194 4).trans h4
  have h5 : fr193 5 = (Value.pointer (some ⟨b106, 0, none⟩)) := (congrFun hf194 5).trans h5
  clear hf194
  refine thenQ.n ?_
  refine W.seq ?_
  refine W.region ?_
  refine SeqW.consX rfl (kLoadA rfl Try.underlying30 rfl Try.type30 rfl h5 x169.loads ?_)
  refine SeqW.consX rfl (kPut (off := 0) (w := (Value.agg [(str y161.number), (Value.int .i64 y161.length), (Value.int .i64 y161.axles), (Value.int .i64 y161.mass), (Value.int .i64 (IntKind.wrap .i64 (Int.tdiv (IntKind.wrap .i64 (y161.mass * y178.1)) 4))), (Value.int .i64 y161.goods), (Value.bool y161.gentle), (str y161.dest)].toArray)) (new := [(str y161.number), (Value.int .i64 y161.length), (Value.int .i64 y161.axles), (Value.int .i64 y161.mass), (Value.int .i64 (IntKind.wrap .i64 (Int.tdiv (IntKind.wrap .i64 (y161.mass * y178.1)) 4))), (Value.int .i64 y161.goods), (Value.bool y161.gentle), (str y161.dest)]) rfl Try.type30 h4 rfl rfl rfl rfl o171 rfl [(str y161.number), (Value.int .i64 y161.length), (Value.int .i64 y161.axles), (Value.int .i64 y161.mass), (Value.int .i64 (IntKind.wrap .i64 (Int.tdiv (IntKind.wrap .i64 (y161.mass * y178.1)) 4))), (Value.int .i64 y161.goods), (Value.bool y161.gentle), (str y161.dest)] rfl st ?_)
  intro m195 st o171 sm196
  replace o170n := o170n.same sm196 a174
  refine SeqW.done fun fr197 hf198 => ?_
  have h0 : fr197 0 = (Value.pointer (some ⟨b0, 0, none⟩)) := (congrFun hf198 0).trans h0
  have h4 : fr197 4 = (Value.pointer (some ⟨b1, 0, none⟩)) := (congrFun hf198 4).trans h4
  clear hf198
  refine thenQ.n ?_
  refine W.ret ?_
  obtain rfl := Option.some.inj hr
  exact ⟨z179, hz, st, .inr rfl, b1, v184, h4, o171, o171.fresh, s185, o170n, trivial⟩

theorem c13 {N : Nat} {z : Nat → Blk} {m : Mem} {x0 : S56} {x1 : Int} {v0_0 : Value} {b0 : Nat} (fz : Fz z m) (hd : ∀ b, m.next ≤ b → m.blk b = .dead) (s0_0 : SlR (TInt 3 .i64) z x0.l v0_0) (bx0 : Bx z m m (some b0) b0 [v0_0, (Value.int .i64 x0.n)] 56) {r : S30 × S56} (hr : m13 N x0 x1 = some r) : CallW Try.prog 13 #[(Value.pointer (some ⟨b0, 0, none⟩)), (Value.int .i64 x1)] m fun v m' => ∃ z' wr_0, Zx m.next z z' ∧ Fz z' m' ∧ Same m m' (some b0) ∧ v = (Value.agg [(str r.1.number), (Value.int .i64 r.1.length), (Value.int .i64 r.1.axles), (Value.int .i64 r.1.mass), (Value.int .i64 r.1.brake), (Value.int .i64 r.1.goods), (Value.bool r.1.gentle), (str r.1.dest)].toArray) ∧ SlR (TInt 3 .i64) z' r.2.l wr_0 ∧ Bx z' m m' (some b0) b0 [wr_0, (Value.int .i64 r.2.n)] 56 ∧ True := by
  refine CallW.any Try.func13 rfl (by kernel_rfl) (Nat.le_of_ble_eq_true rfl) (fun fr hf => ?_)
  have h0 : fr 0 = _ := hf 0 _ rfl
  have h1 : fr 1 = _ := hf 1 _ rfl
  refine (u13 (k := (some b0)) (Zx.refl _) (St.start fz hd) h0 s0_0 bx0 h1 hr).mono ?_
  rintro ex fr' m' ⟨z', hz, st, he, c4, wr_0, h4, bx4, fx4, sr_0, bxr, -⟩
  exact ⟨he, [(Value.agg [(str r.1.number), (Value.int .i64 r.1.length), (Value.int .i64 r.1.axles), (Value.int .i64 r.1.mass), (Value.int .i64 r.1.brake), (Value.int .i64 r.1.goods), (Value.bool r.1.gentle), (str r.1.dest)].toArray)], ⟨resCell h4 bx4 Try.underlying30 rfl Try.type30 rfl, trivial⟩, .inl rfl, z', wr_0, hz, st.fz, st.toSame, rfl, sr_0, bxr, trivial⟩

/-! ### humpyard/humpyardlaw07.WheelSymmetric -/

theorem u4_0 {N : Nat}  {z0 z : Nat → Blk} {e m : Mem} {k : Option Nat} {fr : Nat → Value} {x3 : S30} {x4 : List Int} {x5 : Int} {b3 : Nat} {v4 : Value} (hz : Zx e.next z0 z) (st : St z e m k) (h3 : fr 3 = (Value.pointer (some ⟨b3, 0, none⟩))) (bx3 : Bx z e m k b3 [(str x3.number), (Value.int .i64 x3.length), (Value.int .i64 x3.axles), (Value.int .i64 x3.mass), (Value.int .i64 x3.brake), (Value.int .i64 x3.goods), (Value.bool x3.gentle), (str x3.dest)] 30) (h4 : fr 4 = v4) (s4 : SlR (TInt 3 .i64) z x4 v4) (h5 : fr 5 = (Value.int .i64 x5)) {r : Bool} (hr : m4_0 N x3 x4 x5 = some r) : W Try.prog (sub (bodyOf Try.f4) [1, 1, 1, 0, 0]) (fun ex fr' m' => ∃ z', Zx e.next z0 z' ∧ St z' e m' k ∧ ex = AExit.normal ∧ fr' 23 = (Value.bool r) ∧ Bx z' e m' k b3 [(str x3.number), (Value.int .i64 x3.length), (Value.int .i64 x3.axles), (Value.int .i64 x3.mass), (Value.int .i64 x3.brake), (Value.int .i64 x3.goods), (Value.bool x3.gentle), (str x3.dest)] 30 ∧ True) fr m := by
  unfold m4_0 at hr
  refine W.region ?_
  refine SeqW.consX rfl (StepX.pure (pMove (v := (Value.int .i64 x5)) rfl h5) ?_)
  refine SeqW.consX rfl (StepX.pure (pNeq (k := .i64) (a := x5) (b := 0) rfl rfl rfl) ?_)
  refine SeqW.consX rfl (StepX.pure (pMove (v := (Value.bool (x5 != 0))) rfl rfl) ?_)
  rcases if_some hr with ⟨hc47, hr⟩ | ⟨hc50, hr⟩
  · refine SeqW.skipG rfl rfl rfl hc47 ?_
    refine SeqW.skipG rfl rfl rfl hc47 ?_
    refine SeqW.skipG rfl rfl rfl hc47 ?_
    refine SeqW.skipG rfl rfl rfl hc47 ?_
    refine SeqW.skipG rfl rfl rfl hc47 ?_
    refine SeqW.consX rfl (StepX.pure (pPick (t := true) (v := (Value.bool true)) rfl ((congrArg Value.bool hc47)) rfl) ?_)
    refine SeqW.done fun fr48 hf49 => ?_
    have h3 : fr48 3 = (Value.pointer (some ⟨b3, 0, none⟩)) := (congrFun hf49 3).trans h3
    have h4 : fr48 4 = v4 := (congrFun hf49 4).trans h4
    have h23 : fr48 23 = (Value.bool true) := (congrFun hf49 23).trans rfl
    clear hf49
    obtain rfl := Option.some.inj hr
    exact ⟨z, hz, st, rfl, h23, bx3, trivial⟩
  · refine SeqW.consG rfl rfl rfl hc50 (StepX.pure (pMove (v := v4) rfl h4) ?_)
    refine SeqW.consG rfl rfl rfl hc50 (StepX.pure (pLenR (xs := x4) rfl Try.underlying22 rfl s4) ?_)
    refine SeqW.consG rfl rfl rfl hc50 (kField rfl Try.underlying30 rfl Try.type3 rfl h3 rfl ?_)
    refine SeqW.consG rfl rfl rfl hc50 (kLoad rfl Try.underlying3 rfl rfl (bx3.load (v := (Value.int .i64 x3.axles)) rfl) ?_)
    refine SeqW.consG rfl rfl rfl hc50 (StepX.pure (pNeq (k := .i64) (a := (x4.length : Int)) (b := x3.axles) rfl rfl rfl) ?_)
    refine SeqW.consX rfl (StepX.pure (pPick (t := false) (v := (Value.bool ((x4.length : Int) != x3.axles))) rfl ((congrArg Value.bool hc50)) rfl) ?_)
    refine SeqW.done fun fr51 hf52 => ?_
    have h3 : fr51 3 = (Value.pointer (some ⟨b3, 0, none⟩)) := (congrFun hf52 3).trans h3
    have h4 : fr51 4 = v4 := (congrFun hf52 4).trans h4
    have h23 : fr51 23 = (Value.bool ((x4.length : Int) != x3.axles)) := (congrFun hf52 23).trans rfl
    clear hf52
    obtain rfl := Option.some.inj hr
    exact ⟨z, hz, st, rfl, h23, bx3, trivial⟩

theorem u4_2 {N : Nat}  {z0 z : Nat → Blk} {e m : Mem} {k : Option Nat} {fr : Nat → Value} {x3 : S30} {x4 : List Int} {x6 : Int} {b3 : Nat} {v4 : Value} (hz : Zx e.next z0 z) (st : St z e m k) (h3 : fr 3 = (Value.pointer (some ⟨b3, 0, none⟩))) (bx3 : Bx z e m k b3 [(str x3.number), (Value.int .i64 x3.length), (Value.int .i64 x3.axles), (Value.int .i64 x3.mass), (Value.int .i64 x3.brake), (Value.int .i64 x3.goods), (Value.bool x3.gentle), (str x3.dest)] 30) (h4 : fr 4 = v4) (s4 : SlR (TInt 3 .i64) z x4 v4) (h6 : fr 6 = (Value.int .i64 x6)) {r : Bool} (hr : m4_2 N x3 x4 x6 = some r) : W Try.prog (sub (bodyOf Try.f4) [1, 1, 1, 1, 0, 1, 0, 0, 1, 0, 0, 0]) (fun ex fr' m' => ∃ z', Zx e.next z0 z' ∧ St z' e m' k ∧ ex = AExit.normal ∧ fr' 79 = (Value.bool r) ∧ Bx z' e m' k b3 [(str x3.number), (Value.int .i64 x3.length), (Value.int .i64 x3.axles), (Value.int .i64 x3.mass), (Value.int .i64 x3.brake), (Value.int .i64 x3.goods), (Value.bool x3.gentle), (str x3.dest)] 30 ∧ True) fr m := by
  unfold m4_2 at hr
  refine W.calm (by decide) ?_
  refine SeqW.consX rfl (StepX.pure (pMove (v := v4) rfl h4) ?_)
  refine SeqW.consX rfl (StepX.pure (pMove (v := (Value.int .i64 x6)) rfl h6) ?_)
  obtain ⟨y70, hy70, hr⟩ := bind_some hr
  refine SeqW.consX rfl (kIdxR (T := (TInt 3 .i64)) (xs := x4) (n := x6) rfl Try.underlying22 Try.type3 rfl rfl rfl s4 hy70 ?_)
  intro b71 f72 cs73 hd74 hc75
  obtain rfl := hd74
  refine SeqW.consX rfl (kLoad (v := (Value.int .i64 y70)) rfl Try.underlying3 rfl rfl (ldz_load st.fz (hc75 0 _ rfl)) ?_)
  refine SeqW.consX rfl (StepX.pure (pLeq (k := .i64) (a := y70) (b := 0) rfl rfl rfl) ?_)
  refine SeqW.consX rfl (StepX.pure (pMove (v := (Value.bool (decide (y70 ≤ 0)))) rfl rfl) ?_)
  rcases if_some hr with ⟨hc76, hr⟩ | ⟨hc79, hr⟩
  · refine SeqW.skipG rfl rfl rfl hc76 ?_
    refine SeqW.skipG rfl rfl rfl hc76 ?_
    refine SeqW.skipG rfl rfl rfl hc76 ?_
    refine SeqW.skipG rfl rfl rfl hc76 ?_
    refine SeqW.skipG rfl rfl rfl hc76 ?_
    refine SeqW.skipG rfl rfl rfl hc76 ?_
    refine SeqW.skipG rfl rfl rfl hc76 ?_
    refine SeqW.skipG rfl rfl rfl hc76 ?_
    refine SeqW.consX rfl (StepX.pure (pPick (t := true) (v := (Value.bool true)) rfl ((congrArg Value.bool hc76)) rfl) ?_)
    refine SeqW.consX rfl (StepX.pure (pMove (v := (Value.bool true)) rfl rfl) ?_)
    refine SeqW.skipG rfl rfl rfl rfl ?_
    refine SeqW.skipG rfl rfl rfl rfl ?_
    refine SeqW.skipG rfl rfl rfl rfl ?_
    refine SeqW.skipU rfl rfl rfl ?_
    refine SeqW.skipU rfl rfl rfl ?_
    refine SeqW.skipU rfl rfl rfl ?_
    refine SeqW.skipU rfl rfl rfl ?_
    refine SeqW.skipU rfl rfl rfl ?_
    refine SeqW.skipU rfl rfl rfl ?_
    refine SeqW.skipU rfl rfl rfl ?_
    refine SeqW.skipU rfl rfl rfl ?_
    refine SeqW.skipU rfl rfl rfl ?_
    refine SeqW.skipU rfl rfl rfl ?_
    refine SeqW.skipG rfl rfl rfl rfl ?_
    refine SeqW.consX rfl (StepX.pure (pPick (t := true) (v := (Value.bool true)) rfl ((congrArg Value.bool (rfl : true = true))) rfl) ?_)
    refine SeqW.consX rfl (StepX.pure (pMove (v := (Value.bool true)) rfl rfl) ?_)
    refine SeqW.skipG rfl rfl rfl rfl ?_
    refine SeqW.skipG rfl rfl rfl rfl ?_
    refine SeqW.skipG rfl rfl rfl rfl ?_
    refine SeqW.skipG rfl rfl rfl rfl ?_
    refine SeqW.skipG rfl rfl rfl rfl ?_
    refine SeqW.skipG rfl rfl rfl rfl ?_
    refine SeqW.skipG rfl rfl rfl rfl ?_
    refine SeqW.skipG rfl rfl rfl rfl ?_
    refine SeqW.skipG rfl rfl rfl rfl ?_
    refine SeqW.skipG rfl rfl rfl rfl ?_
    refine SeqW.skipG rfl rfl rfl rfl ?_
    refine SeqW.skipG rfl rfl rfl rfl ?_
    refine SeqW.skipG rfl rfl rfl rfl ?_
    refine SeqW.skipG rfl rfl rfl rfl ?_
    refine SeqW.skipG rfl rfl rfl rfl ?_
    refine SeqW.skipG rfl rfl rfl rfl ?_
    refine SeqW.skipG rfl rfl rfl rfl ?_
    refine SeqW.consX rfl (StepX.pure (pPick (t := true) (v := (Value.bool true)) rfl ((congrArg Value.bool (rfl : true = true))) rfl) ?_)
    refine SeqW.done fun fr77 hf78 => ?_
    have h3 : fr77 3 = (Value.pointer (some ⟨b3, 0, none⟩)) := (congrFun hf78 3).trans h3
    have h4 : fr77 4 = v4 := (congrFun hf78 4).trans h4
    have h6 : fr77 6 = (Value.int .i64 x6) := (congrFun hf78 6).trans h6
    have h79 : fr77 79 = (Value.bool true) := (congrFun hf78 79).trans rfl
    clear hf78
    obtain rfl := Option.some.inj hr
    exact ⟨z, hz, st, rfl, h79, bx3, trivial⟩
  · refine SeqW.consG rfl rfl rfl hc79 (StepX.pure (pMove (v := v4) rfl h4) ?_)
    refine SeqW.consG rfl rfl rfl hc79 (StepX.pure (pMove (v := (Value.int .i64 x6)) rfl h6) ?_)
    obtain ⟨y80, hy80, hr⟩ := bind_some hr
    refine SeqW.consG rfl rfl rfl hc79 (kIdxR (T := (TInt 3 .i64)) (xs := x4) (n := x6) rfl Try.underlying22 Try.type3 rfl rfl rfl s4 hy80 ?_)
    intro b81 f82 cs83 hd84 hc85
    obtain rfl := hd84
    refine SeqW.consG rfl rfl rfl hc79 (kLoad (v := (Value.int .i64 y80)) rfl Try.underlying3 rfl rfl (ldz_load st.fz (hc85 0 _ rfl)) ?_)
    refine SeqW.consG rfl rfl rfl hc79 (kField rfl Try.underlying30 rfl Try.type3 rfl h3 rfl ?_)
    refine SeqW.consG rfl rfl rfl hc79 (kLoad rfl Try.underlying3 rfl rfl (bx3.load (v := (Value.int .i64 x3.length)) rfl) ?_)
    refine SeqW.consG rfl rfl rfl hc79 (StepX.pure (pMul (k := .i64) (a := 10) (b := x3.length) rfl rfl rfl) ?_)
    refine SeqW.consG rfl rfl rfl hc79 (StepX.pure (pGeq (k := .i64) (a := y80) (b := (IntKind.wrap .i64 (10 * x3.length))) rfl rfl rfl) ?_)
    refine SeqW.consX rfl (StepX.pure (pPick (t := false) (v := (Value.bool (decide ((IntKind.wrap .i64 (10 * x3.length)) ≤ y80)))) rfl ((congrArg Value.bool hc79)) rfl) ?_)
    refine SeqW.consX rfl (StepX.pure (pMove (v := (Value.bool (decide ((IntKind.wrap .i64 (10 * x3.length)) ≤ y80)))) rfl rfl) ?_)
    rcases if_some hr with ⟨hc86, hr⟩ | ⟨hc89, hr⟩
    · refine SeqW.skipG rfl rfl rfl hc86 ?_
      refine SeqW.skipG rfl rfl rfl hc86 ?_
      refine SeqW.skipG rfl rfl rfl hc86 ?_
      refine SeqW.skipU rfl rfl rfl ?_
      refine SeqW.skipU rfl rfl rfl ?_
      refine SeqW.skipU rfl rfl rfl ?_
      refine SeqW.skipU rfl rfl rfl ?_
      refine SeqW.skipU rfl rfl rfl ?_
      refine SeqW.skipU rfl rfl rfl ?_
      refine SeqW.skipU rfl rfl rfl ?_
      refine SeqW.skipU rfl rfl rfl ?_
      refine SeqW.skipU rfl rfl rfl ?_
      refine SeqW.skipU rfl rfl rfl ?_
      refine SeqW.skipG rfl rfl rfl hc86 ?_
      refine SeqW.consX rfl (StepX.pure (pPick (t := true) (v := (Value.bool true)) rfl ((congrArg Value.bool hc86)) rfl) ?_)
      refine SeqW.consX rfl (StepX.pure (pMove (v := (Value.bool true)) rfl rfl) ?_)
      refine SeqW.skipG rfl rfl rfl rfl ?_
      refine SeqW.skipG rfl rfl rfl rfl ?_
      refine SeqW.skipG rfl rfl rfl rfl ?_
      refine SeqW.skipG rfl rfl rfl rfl ?_
      refine SeqW.skipG rfl rfl rfl rfl ?_
      refine SeqW.skipG rfl rfl rfl rfl ?_
      refine SeqW.skipG rfl rfl rfl rfl ?_
      refine SeqW.skipG rfl rfl rfl rfl ?_
      refine SeqW.skipG rfl rfl rfl rfl ?_
      refine SeqW.skipG rfl rfl rfl rfl ?_
      refine SeqW.skipG rfl rfl rfl rfl ?_
      refine SeqW.skipG rfl rfl rfl rfl ?_
      refine SeqW.skipG rfl rfl rfl rfl ?_
      refine SeqW.skipG rfl rfl rfl rfl ?_
      refine SeqW.skipG rfl rfl rfl rfl ?_
      refine SeqW.skipG rfl rfl rfl rfl ?_
      refine SeqW.skipG rfl rfl rfl rfl ?_
      refine SeqW.consX rfl (StepX.pure (pPick (t := true) (v := (Value.bool true)) rfl ((congrArg Value.bool (rfl : true = true))) rfl) ?_)
      refine SeqW.done fun fr87 hf88 => ?_
      have h3 : fr87 3 = (Value.pointer (some ⟨b3, 0, none⟩)) := (congrFun hf88 3).trans h3
      have h4 : fr87 4 = v4 := (congrFun hf88 4).trans h4
      have h6 : fr87 6 = (Value.int .i64 x6) := (congrFun hf88 6).trans h6
      have h79 : fr87 79 = (Value.bool true) := (congrFun hf88 79).trans rfl
      clear hf88
      obtain rfl := Option.some.inj hr
      exact ⟨z, hz, st, rfl, h79, bx3, trivial⟩
    · refine SeqW.consG rfl rfl rfl hc89 (StepX.pure (pMove (v := (Value.int .i64 x6)) rfl h6) ?_)
      refine SeqW.consG rfl rfl rfl hc89 (StepX.pure (pGtr (k := .i64) (a := x6) (b := 0) rfl rfl rfl) ?_)
      refine SeqW.consG rfl rfl rfl hc89 (StepX.pure (pMove (v := (Value.bool (decide (0 < x6)))) rfl rfl) ?_)
      rcases if_some hr with ⟨hc90, hr⟩ | ⟨hc121, hr⟩
      · refine SeqW.consG rfl rfl rfl hc90 (StepX.pure (pMove (v := v4) rfl h4) ?_)
        refine SeqW.consG rfl rfl rfl hc90 (StepX.pure (pMove (v := (Value.int .i64 x6)) rfl h6) ?_)
        obtain ⟨y91, hy91, hr⟩ := bind_some hr
        refine SeqW.consG rfl rfl rfl hc90 (kIdxR (T := (TInt 3 .i64)) (xs := x4) (n := x6) rfl Try.underlying22 Try.type3 rfl rfl rfl s4 hy91 ?_)
        intro b92 f93 cs94 hd95 hc96
        obtain rfl := hd95
        refine SeqW.consG rfl rfl rfl hc90 (kLoad (v := (Value.int .i64 y91)) rfl Try.underlying3 rfl rfl (ldz_load st.fz (hc96 0 _ rfl)) ?_)
        refine SeqW.consG rfl rfl rfl hc90 (StepX.pure (pMove (v := v4) rfl h4) ?_)
        refine SeqW.consG rfl rfl rfl hc90 (StepX.pure (pMove (v := (Value.int .i64 x6)) rfl h6) ?_)
        refine SeqW.consG rfl rfl rfl hc90 (StepX.pure (pSub (k := .i64) (a := x6) (b := 1) rfl rfl rfl) ?_)
        obtain ⟨y97, hy97, hr⟩ := bind_some hr
        refine SeqW.consG rfl rfl rfl hc90 (kIdxR (T := (TInt 3 .i64)) (xs := x4) (n := (IntKind.wrap .i64 (x6 - 1))) rfl Try.underlying22 Try.type3 rfl rfl rfl s4 hy97 ?_)
        intro b98 f99 cs100 hd101 hc102
        obtain rfl := hd101
        refine SeqW.consG rfl rfl rfl hc90 (kLoad (v := (Value.int .i64 y97)) rfl Try.underlying3 rfl rfl (ldz_load st.fz (hc102 0 _ rfl)) ?_)
        refine SeqW.consG rfl rfl rfl hc90 (StepX.pure (pLeq (k := .i64) (a := y91) (b := y97) rfl rfl rfl) ?_)
        refine SeqW.consG rfl rfl rfl hc89 (StepX.pure (pPick (t := true) (v := (Value.bool (decide (y91 ≤ y97)))) rfl ((congrArg Value.bool hc90)) rfl) ?_)
        refine SeqW.consX rfl (StepX.pure (pPick (t := false) (v := (Value.bool (decide (y91 ≤ y97)))) rfl ((congrArg Value.bool hc89)) rfl) ?_)
        refine SeqW.consX rfl (StepX.pure (pMove (v := (Value.bool (decide (y91 ≤ y97)))) rfl rfl) ?_)
        rcases if_some hr with ⟨hc103, hr⟩ | ⟨hc106, hr⟩
        · refine SeqW.skipG rfl rfl rfl hc103 ?_
          refine SeqW.skipG rfl rfl rfl hc103 ?_
          refine SeqW.skipG rfl rfl rfl hc103 ?_
          refine SeqW.skipG rfl rfl rfl hc103 ?_
          refine SeqW.skipG rfl rfl rfl hc103 ?_
          refine SeqW.skipG rfl rfl rfl hc103 ?_
          refine SeqW.skipG rfl rfl rfl hc103 ?_
          refine SeqW.skipG rfl rfl rfl hc103 ?_
          refine SeqW.skipG rfl rfl rfl hc103 ?_
          refine SeqW.skipG rfl rfl rfl hc103 ?_
          refine SeqW.skipG rfl rfl rfl hc103 ?_
          refine SeqW.skipG rfl rfl rfl hc103 ?_
          refine SeqW.skipG rfl rfl rfl hc103 ?_
          refine SeqW.skipG rfl rfl rfl hc103 ?_
          refine SeqW.skipG rfl rfl rfl hc103 ?_
          refine SeqW.skipG rfl rfl rfl hc103 ?_
          refine SeqW.skipG rfl rfl rfl hc103 ?_
          refine SeqW.consX rfl (StepX.pure (pPick (t := true) (v := (Value.bool true)) rfl ((congrArg Value.bool hc103)) rfl) ?_)
          refine SeqW.done fun fr104 hf105 => ?_
          have h3 : fr104 3 = (Value.pointer (some ⟨b3, 0, none⟩)) := (congrFun hf105 3).trans h3
          have h4 : fr104 4 = v4 := (congrFun hf105 4).trans h4
          have h6 : fr104 6 = (Value.int .i64 x6) := (congrFun hf105 6).trans h6
          have h79 : fr104 79 = (Value.bool true) := (congrFun hf105 79).trans rfl
          clear hf105
          obtain rfl := Option.some.inj hr
          exact ⟨z, hz, st, rfl, h79, bx3, trivial⟩
        · refine SeqW.consG rfl rfl rfl hc106 (StepX.pure (pMove (v := v4) rfl h4) ?_)
          refine SeqW.consG rfl rfl rfl hc106 (StepX.pure (pMove (v := (Value.int .i64 x6)) rfl h6) ?_)
          obtain ⟨y107, hy107, hr⟩ := bind_some hr
          refine SeqW.consG rfl rfl rfl hc106 (kIdxR (T := (TInt 3 .i64)) (xs := x4) (n := x6) rfl Try.underlying22 Try.type3 rfl rfl rfl s4 hy107 ?_)
          intro b108 f109 cs110 hd111 hc112
          obtain rfl := hd111
          refine SeqW.consG rfl rfl rfl hc106 (kLoad (v := (Value.int .i64 y107)) rfl Try.underlying3 rfl rfl (ldz_load st.fz (hc112 0 _ rfl)) ?_)
          refine SeqW.consG rfl rfl rfl hc106 (StepX.pure (pMove (v := v4) rfl h4) ?_)
          refine SeqW.consG rfl rfl rfl hc106 (StepX.pure (pMove (v := v4) rfl h4) ?_)
          refine SeqW.consG rfl rfl rfl hc106 (StepX.pure (pLenR (xs := x4) rfl Try.underlying22 rfl s4) ?_)
          refine SeqW.consG rfl rfl rfl hc106 (StepX.pure (pSub (k := .i64) (a := (x4.length : Int)) (b := 1) rfl rfl rfl) ?_)
          refine SeqW.consG rfl rfl rfl hc106 (StepX.pure (pMove (v := (Value.int .i64 x6)) rfl h6) ?_)
          refine SeqW.consG rfl rfl rfl hc106 (StepX.pure (pSub (k := .i64) (a := (IntKind.wrap .i64 ((x4.length : Int) - 1))) (b := x6) rfl rfl rfl) ?_)
          obtain ⟨y113, hy113, hr⟩ := bind_some hr
          refine SeqW.consG rfl rfl rfl hc106 (kIdxR (T := (TInt 3 .i64)) (xs := x4) (n := (IntKind.wrap .i64 ((IntKind.wrap .i64 ((x4.length : Int) - 1)) - x6))) rfl Try.underlying22 Try.type3 rfl rfl rfl s4 hy113 ?_)
          intro b114 f115 cs116 hd117 hc118
          obtain rfl := hd117
          refine SeqW.consG rfl rfl rfl hc106 (kLoad (v := (Value.int .i64 y113)) rfl Try.underlying3 rfl rfl (ldz_load st.fz (hc118 0 _ rfl)) ?_)
          refine SeqW.consG rfl rfl rfl hc106 (StepX.pure (pAdd (k := .i64) (a := y107) (b := y113) rfl rfl rfl) ?_)
          refine SeqW.consG rfl rfl rfl hc106 (kField rfl Try.underlying30 rfl Try.type3 rfl h3 rfl ?_)
          refine SeqW.consG rfl rfl rfl hc106 (kLoad rfl Try.underlying3 rfl rfl (bx3.load (v := (Value.int .i64 x3.length)) rfl) ?_)
          refine SeqW.consG rfl rfl rfl hc106 (StepX.pure (pMul (k := .i64) (a := 10) (b := x3.length) rfl rfl rfl) ?_)
          refine SeqW.consG rfl rfl rfl hc106 (StepX.pure (pNeq (k := .i64) (a := (IntKind.wrap .i64 (y107 + y113))) (b := (IntKind.wrap .i64 (10 * x3.length))) rfl rfl rfl) ?_)
          refine SeqW.consX rfl (StepX.pure (pPick (t := false) (v := (Value.bool ((IntKind.wrap .i64 (y107 + y113)) != (IntKind.wrap .i64 (10 * x3.length))))) rfl ((congrArg Value.bool hc106)) rfl) ?_)
          refine SeqW.done fun fr119 hf120 => ?_
          have h3 : fr119 3 = (Value.pointer (some ⟨b3, 0, none⟩)) := (congrFun hf120 3).trans h3
          have h4 : fr119 4 = v4 := (congrFun hf120 4).trans h4
          have h6 : fr119 6 = (Value.int .i64 x6) := (congrFun hf120 6).trans h6
          have h79 : fr119 79 = (Value.bool ((IntKind.wrap .i64 (y107 + y113)) != (IntKind.wrap .i64 (10 * x3.length)))) := (congrFun hf120 79).trans rfl
          clear hf120
          obtain rfl := Option.some.inj hr
          exact ⟨z, hz, st, rfl, h79, bx3, trivial⟩
      · refine SeqW.skipG rfl rfl rfl hc121 ?_
        refine SeqW.skipG rfl rfl rfl hc121 ?_
        refine SeqW.skipG rfl rfl rfl hc121 ?_
        refine SeqW.skipG rfl rfl rfl hc121 ?_
        refine SeqW.skipG rfl rfl rfl hc121 ?_
        refine SeqW.skipG rfl rfl rfl hc121 ?_
        refine SeqW.skipG rfl rfl rfl hc121 ?_
        refine SeqW.skipG rfl rfl rfl hc121 ?_
        refine SeqW.skipG rfl rfl rfl hc121 ?_
        refine SeqW.skipG rfl rfl rfl hc121 ?_
        refine SeqW.consG rfl rfl rfl hc89 (StepX.pure (pPick (t := false) (v := (Value.bool false)) rfl ((congrArg Value.bool hc121)) rfl) ?_)
        refine SeqW.consX rfl (StepX.pure (pPick (t := false) (v := (Value.bool false)) rfl ((congrArg Value.bool hc89)) rfl) ?_)
        refine SeqW.consX rfl (StepX.pure (pMove (v := (Value.bool false)) rfl rfl) ?_)
        refine SeqW.consG rfl rfl rfl rfl (StepX.pure (pMove (v := v4) rfl h4) ?_)
        refine SeqW.consG rfl rfl rfl rfl (StepX.pure (pMove (v := (Value.int .i64 x6)) rfl h6) ?_)
        obtain ⟨y122, hy122, hr⟩ := bind_some hr
        refine SeqW.consG rfl rfl rfl rfl (kIdxR (T := (TInt 3 .i64)) (xs := x4) (n := x6) rfl Try.underlying22 Try.type3 rfl rfl rfl s4 hy122 ?_)
        intro b123 f124 cs125 hd126 hc127
        obtain rfl := hd126
        refine SeqW.consG rfl rfl rfl rfl (kLoad (v := (Value.int .i64 y122)) rfl Try.underlying3 rfl rfl (ldz_load st.fz (hc127 0 _ rfl)) ?_)
        refine SeqW.consG rfl rfl rfl rfl (StepX.pure (pMove (v := v4) rfl h4) ?_)
        refine SeqW.consG rfl rfl rfl rfl (StepX.pure (pMove (v := v4) rfl h4) ?_)
        refine SeqW.consG rfl rfl rfl rfl (StepX.pure (pLenR (xs := x4) rfl Try.underlying22 rfl s4) ?_)
        refine SeqW.consG rfl rfl rfl rfl (StepX.pure (pSub (k := .i64) (a := (x4.length : Int)) (b := 1) rfl rfl rfl) ?_)
        refine SeqW.consG rfl rfl rfl rfl (StepX.pure (pMove (v := (Value.int .i64 x6)) rfl h6) ?_)
        refine SeqW.consG rfl rfl rfl rfl (StepX.pure (pSub (k := .i64) (a := (IntKind.wrap .i64 ((x4.length : Int) - 1))) (b := x6) rfl rfl rfl) ?_)
        obtain ⟨y128, hy128, hr⟩ := bind_some hr
        refine SeqW.consG rfl rfl rfl rfl (kIdxR (T := (TInt 3 .i64)) (xs := x4) (n := (IntKind.wrap .i64 ((IntKind.wrap .i64 ((x4.length : Int) - 1)) - x6))) rfl Try.underlying22 Try.type3 rfl rfl rfl s4 hy128 ?_)
        intro b129 f130 cs131 hd132 hc133
        obtain rfl := hd132
        refine SeqW.consG rfl rfl rfl rfl (kLoad (v := (Value.int .i64 y128)) rfl Try.underlying3 rfl rfl (ldz_load st.fz (hc133 0 _ rfl)) ?_)
        refine SeqW.consG rfl rfl rfl rfl (StepX.pure (pAdd (k := .i64) (a := y122) (b := y128) rfl rfl rfl) ?_)
        refine SeqW.consG rfl rfl rfl rfl (kField rfl Try.underlying30 rfl Try.type3 rfl h3 rfl ?_)
        refine SeqW.consG rfl rfl rfl rfl (kLoad rfl Try.underlying3 rfl rfl (bx3.load (v := (Value.int .i64 x3.length)) rfl) ?_)
        refine SeqW.consG rfl rfl rfl rfl (StepX.pure (pMul (k := .i64) (a := 10) (b := x3.length) rfl rfl rfl) ?_)
        refine SeqW.consG rfl rfl rfl rfl (StepX.pure (pNeq (k := .i64) (a := (IntKind.wrap .i64 (y122 + y128))) (b := (IntKind.wrap .i64 (10 * x3.length))) rfl rfl rfl) ?_)
        refine SeqW.consX rfl (StepX.pure (pPick (t := false) (v := (Value.bool ((IntKind.wrap .i64 (y122 + y128)) != (IntKind.wrap .i64 (10 * x3.length))))) rfl ((congrArg Value.bool (rfl : false = false))) rfl) ?_)
        refine SeqW.done fun fr134 hf135 => ?_
        have h3 : fr134 3 = (Value.pointer (some ⟨b3, 0, none⟩)) := (congrFun hf135 3).trans h3
        have h4 : fr134 4 = v4 := (congrFun hf135 4).trans h4
        have h6 : fr134 6 = (Value.int .i64 x6) := (congrFun hf135 6).trans h6
        have h79 : fr134 79 = (Value.bool ((IntKind.wrap .i64 (y122 + y128)) != (IntKind.wrap .i64 (10 * x3.length)))) := (congrFun hf135 79).trans rfl
        clear hf135
        obtain rfl := Option.some.inj hr
        exact ⟨z, hz, st, rfl, h79, bx3, trivial⟩

theorem u4_1 : ∀ (n : Nat) {N : Nat}  {z0 z : Nat → Blk} {e m : Mem} {k : Option Nat} {fr : Nat → Value} {x3 : S30} {x4 : List Int} {x6 : Int} {b3 : Nat} {v4 : Value} (hz : Zx e.next z0 z) (st : St z e m k) (h3 : fr 3 = (Value.pointer (some ⟨b3, 0, none⟩))) (bx3 : Bx z e m k b3 [(str x3.number), (Value.int .i64 x3.length), (Value.int .i64 x3.axles), (Value.int .i64 x3.mass), (Value.int .i64 x3.brake), (Value.int .i64 x3.goods), (Value.bool x3.gentle), (str x3.dest)] 30) (h4 : fr 4 = v4) (s4 : SlR (TInt 3 .i64) z x4 v4) (h6 : fr 6 = (Value.int .i64 x6)) {r : Sum (Unit) (Bool)} (hr : m4_1 N x3 x4 n x6 = some r), W Try.prog (sub (bodyOf Try.f4) [1, 1, 1, 1, 0, 1, 0]) (fun ex fr' m' => ∃ z', Zx e.next z0 z' ∧ St z' e m' k ∧ ((∃ q, r = Sum.inl q ∧ ex = AExit.exit 0 ∧ True) ∨ (∃ q, r = Sum.inr q ∧ ex = AExit.ret ∧ fr' 2 = (Value.bool q) ∧ True))) fr m := by
  intro n
  induction n with
  | zero => intro N z0 z e m k fr x3 x4 x6 b3 v4 hz st h3 bx3 h4 s4 h6 r hr; cases (show (none : Option _) = some r from hr)
  | succ n ih =>
    intro N z0 z e m k fr x3 x4 x6 b3 v4 hz st h3 bx3 h4 s4 h6 r hr
    unfold m4_1 at hr
    refine W.loop1 ?_
    refine W.seq ?_
    refine W.seq ?_
    refine W.region ?_
    refine SeqW.consX rfl (StepX.pure (pMove (v := (Value.int .i64 x6)) rfl h6) ?_)
    refine SeqW.consX rfl (StepX.pure (pMove (v := v4) rfl h4) ?_)
    refine SeqW.consX rfl (StepX.pure (pLenR (xs := x4) rfl Try.underlying22 rfl s4) ?_)
    refine SeqW.consX rfl (StepX.pure (pLss (k := .i64) (a := x6) (b := (x4.length : Int)) rfl rfl rfl) ?_)
    refine SeqW.done fun fr67 hf68 => ?_
    have h3 : fr67 3 = (Value.pointer (some ⟨b3, 0, none⟩)) := (congrFun hf68 3).trans h3
    have h4 : fr67 4 = v4 := (congrFun hf68 4).trans h4
    have h6 : fr67 6 = (Value.int .i64 x6) := (congrFun hf68 6).trans h6
    have h27 : fr67 27 = (Value.bool (decide (x6 < (x4.length : Int)))) := (congrFun hf68 27).trans rfl
    clear hf68
    refine thenQ.n ?_
    rcases if_some hr with ⟨hc69, hr⟩ | ⟨hc151, hr⟩
    · refine W.condT h27 hc69 ?_
      refine W.skip ?_
      refine thenQ.n ?_
      refine W.seq ?_
      refine W.block ?_
      refine W.seq ?_
      obtain ⟨y136, hy136, hr⟩ := bind_some hr
      refine W.keep (u4_2 (x3 := x3) (Zx.refl _) st h3 bx3 h4 s4 h6 hy136) ?_
      rintro ex142 fr137 m138 hk140 ⟨z139, hz141, st, rfl, h79, o143, -⟩
      replace s4 := s4.mono hz141.le
      have h3 := (hk140 3 rfl).trans h3
      have h4 := (hk140 4 rfl).trans h4
      have h6 := (hk140 6 rfl).trans h6
      replace hz := hz.trans hz141
      clear hk140
      refine thenQ.n ?_
      rcases if_some hr with ⟨hc144, hr⟩ | ⟨hc147, hr⟩
      · refine W.condT h79 hc144 ?_
        refine W.seq ?_
        refine W.region ?_
        refine SeqW.consX rfl (StepX.pure (pAssign (v := (Value.bool false)) rfl rfl) ?_)
        refine SeqW.done fun fr145 hf146 => ?_
        have h2 : fr145 2 = (Value.bool false) := (congrFun hf146 2).trans rfl
        clear hf146
        refine thenQ.n ?_
        refine W.ret ?_
        refine blockQ.r ?_
        refine thenQ.r ?_
        refine thenQ.r ?_
        obtain rfl := Option.some.inj hr
        exact ⟨z139, hz, st, .inr ⟨_, rfl, rfl, h2, trivial⟩⟩
      · refine W.condF h79 hc147 ?_
        refine W.skip ?_
        refine blockQ.n ?_
        refine thenQ.n ?_
        refine W.region ?_
        refine SeqW.consX rfl (StepX.pure (pMove (v := (Value.int .i64 x6)) rfl h6) ?_)
        refine SeqW.consX rfl (StepX.pure (pAdd (k := .i64) (a := x6) (b := 1) rfl rfl rfl) ?_)
        obtain ⟨y148, hy148, hr⟩ := lt_some hr
        refine SeqW.consX rfl (StepX.pure (pAssign rfl (congrArg (Value.int .i64) hy148)) ?_)
        refine SeqW.done fun fr149 hf150 => ?_
        have h3 : fr149 3 = (Value.pointer (some ⟨b3, 0, none⟩)) := (congrFun hf150 3).trans h3
        have h4 : fr149 4 = v4 := (congrFun hf150 4).trans h4
        have h6 : fr149 6 = (Value.int .i64 y148) := (congrFun hf150 6).trans rfl
        clear hf150
        refine thenQ.n ?_
        exact ih (x3 := x3) hz st h3 o143 h4 s4 h6 hr
    · refine W.condF h27 hc151 ?_
      refine W.exit ?_
      refine thenQ.x ?_
      refine thenQ.x ?_
      obtain rfl := Option.some.inj hr
      exact ⟨z, hz, st, .inl ⟨_, rfl, rfl, trivial⟩⟩

theorem u4 {N : Nat}  {z0 z : Nat → Blk} {e m : Mem} {k : Option Nat} {fr : Nat → Value} {x0 : List Int} {v0 : Value} (hz : Zx e.next z0 z) (st : St z e m k) (h0 : fr 0 = v0) (s0 : SlR (TInt 3 .i64) z x0 v0) {r : Bool} (hr : m4 N x0 = some r) : W Try.prog (sub (bodyOf Try.f4) []) (fun ex fr' m' => ∃ z', Zx e.next z0 z' ∧ St z' e m' k ∧ (ex = .normal ∨ ex = .ret) ∧ fr' 2 = (Value.bool r) ∧ True) fr m := by
  unfold m4 at hr
  refine W.seq ?_
  refine W.region ?_
  refine SeqW.consX rfl (StepX.pure (pAssign (v := (Value.bool false)) rfl rfl) ?_)
  refine SeqW.done fun fr1 hf2 => ?_
  have h0 : fr1 0 = v0 := (congrFun hf2 0).trans h0
  clear hf2
  refine thenQ.n ?_
  refine W.seq ?_
  refine W.region ?_
  refine SeqW.consX rfl (StepX.pure (pMove (v := v0) rfl h0) ?_)
  obtain ⟨y3, hy3, hr⟩ := bind_some hr
  refine SeqW.consX rfl (StepX.call (gCallee rfl rfl (args1 rfl)) ((c12 (z := z) st.fz st.dead s0 hy3).mono ?_))
  rintro _ m8 ⟨z4, b9, v12, hzx5, fz6, sm7, rfl, s13, x10, hn15, -⟩
  replace s0 := s0.mono hzx5.le
  have x10 : Bx z4 e m8 k b9 _ _ := ⟨x10.blk, x10.lt, x10.dead, .inl (Nat.le_trans st.next hn15)⟩
  replace hz := hz.trans (Zx.here st hzx5)
  replace st := st.call hzx5 fz6 sm7 no_hq
  obtain ⟨y16, hy16, hr⟩ := bind_some hr
  refine SeqW.consX rfl (StepX.call (gCallee rfl rfl (args2 rfl rfl)) ((c13 (x0 := y3) (z := z4) st.fz st.dead s13 ⟨x10.blk, x10.lt, x10.dead, .inr rfl⟩ hy16).mono ?_))
  rintro _ m21 ⟨z17, v22, hzx18, fz19, sm20, rfl, s23, x25, -⟩
  replace s13 := s13.mono hzx18.le
  have x10n : Bx z17 e m21 k b9 _ _ := ⟨x25.blk, x25.lt, x25.dead, x10.fresh⟩
  replace hz := hz.trans (Zx.here st hzx18)
  replace st := st.call hzx18 fz19 sm20 x10.hq
  refine SeqW.consX rfl (kAlloc rfl Try.type30 rfl rfl rfl [(str []), (Value.int .i64 0), (Value.int .i64 0), (Value.int .i64 0), (Value.int .i64 0), (Value.int .i64 0), (Value.bool false), (str [])] rfl st ?_)
  intro b26 m27 st x28 sm29 hap30
  refine SeqW.consX rfl (kPut (off := 0) (w := (Value.agg [(str y16.1.number), (Value.int .i64 y16.1.length), (Value.int .i64 y16.1.axles), (Value.int .i64 y16.1.mass), (Value.int .i64 y16.1.brake), (Value.int .i64 y16.1.goods), (Value.bool y16.1.gentle), (str y16.1.dest)].toArray)) (new := [(str y16.1.number), (Value.int .i64 y16.1.length), (Value.int .i64 y16.1.axles), (Value.int .i64 y16.1.mass), (Value.int .i64 y16.1.brake), (Value.int .i64 y16.1.goods), (Value.bool y16.1.gentle), (str y16.1.dest)]) rfl Try.type30 rfl rfl rfl rfl rfl x28 rfl [(str y16.1.number), (Value.int .i64 y16.1.length), (Value.int .i64 y16.1.axles), (Value.int .i64 y16.1.mass), (Value.int .i64 y16.1.brake), (Value.int .i64 y16.1.goods), (Value.bool y16.1.gentle), (str y16.1.dest)] rfl st ?_)
  intro m32 st x28 sm33
  refine SeqW.done fun fr34 hf35 => ?_
  have h3 : fr34 3 = (Value.pointer (some ⟨b26, 0, none⟩)) := (congrFun hf35 3).trans rfl
  clear hf35
  refine thenQ.n ?_
  refine W.seq ?_
  refine W.region ?_
  refine SeqW.consX rfl (kLoadA rfl Try.underlying30 rfl Try.type30 rfl h3 x28.loads ?_)
  obtain ⟨y36, hy36, hr⟩ := bind_some hr
  refine SeqW.consX rfl (StepX.call (gCallee rfl rfl (args1 rfl)) ((c14 (x0 := y16.1) (z := z17) st.fz st.dead  hy36).mono ?_))
  rintro _ m41 ⟨z37, v42, hzx38, fz39, sm40, rfl, s43, -⟩
  replace x28 := x28.call hzx38 sm40 Ap.none'
  replace hz := hz.trans (Zx.here st hzx38)
  replace st := st.call hzx38 fz39 sm40 no_hq
  refine SeqW.consX rfl (StepX.pure (pMove (v := (Value.tuple [v42, (Value.int .i64 y36.2)].toArray)) rfl rfl) ?_)
  refine SeqW.consX rfl (StepX.pure (pExtract (vs := [v42, (Value.int .i64 y36.2)]) (v := v42) rfl rfl rfl) ?_)
  refine SeqW.consX rfl (StepX.pure (pExtract (vs := [v42, (Value.int .i64 y36.2)]) (v := (Value.int .i64 y36.2)) rfl rfl rfl) ?_)
  refine SeqW.consX rfl (StepX.pure (pAssign (v := v42) rfl rfl) ?_)
  refine SeqW.consX rfl (StepX.pure (pAssign (v := (Value.int .i64 y36.2)) rfl rfl) ?_)
  refine SeqW.done fun fr45 hf46 => ?_
  have h3 : fr45 3 = (Value.pointer (some ⟨b26, 0, none⟩)) := (congrFun hf46 3).trans h3
  have h4 : fr45 4 = v42 := (congrFun hf46 4).trans rfl
  have h5 : fr45 5 = (Value.int .i64 y36.2) := (congrFun hf46 5).trans rfl
  clear hf46
  refine thenQ.n ?_
  refine W.seq ?_
  refine W.seq ?_
  obtain ⟨y53, hy53, hr⟩ := bind_some hr
  refine W.keep (u4_0 (x3 := y16.1) (Zx.refl _) st h3 x28 h4 s43 h5 hy53) ?_
  rintro ex59 fr54 m55 hk57 ⟨z56, hz58, st, rfl, h23, o60, -⟩
  replace s43 := s43.mono hz58.le
  have h3 := (hk57 3 rfl).trans h3
  have h4 := (hk57 4 rfl).trans h4
  replace hz := hz.trans hz58
  clear hk57
  refine thenQ.n ?_
  rcases if_some hr with ⟨hc61, hr⟩ | ⟨hc64, hr⟩
  · refine W.condT h23 hc61 ?_
    refine W.seq ?_
    refine W.region ?_
    refine SeqW.consX rfl (StepX.pure (pAssign (v := (Value.bool false)) rfl rfl) ?_)
    refine SeqW.done fun fr62 hf63 => ?_
    have h2 : fr62 2 = (Value.bool false) := (congrFun hf63 2).trans rfl
    clear hf63
    refine thenQ.n ?_
    refine W.ret ?_
    refine thenQ.r ?_
    obtain rfl := Option.some.inj hr
    exact ⟨z56, hz, st, .inr rfl, h2, trivial⟩
  · refine W.condF h23 hc64 ?_
    refine W.skip ?_
    refine thenQ.n ?_
    refine W.seq ?_
    refine W.seq ?_
    refine W.region ?_
    refine SeqW.consX rfl (StepX.pure (pAssign (v := (Value.int .i64 0)) rfl rfl) ?_)
    refine SeqW.done fun fr65 hf66 => ?_
    have h3 : fr65 3 = (Value.pointer (some ⟨b26, 0, none⟩)) := (congrFun hf66 3).trans h3
    have h4 : fr65 4 = v42 := (congrFun hf66 4).trans h4
    have h6 : fr65 6 = (Value.int .i64 0) := (congrFun hf66 6).trans rfl
    clear hf66
    refine thenQ.n ?_
    refine W.block ?_
    obtain ⟨y152, hy152, hr⟩ := bind_some hr
    refine W.keep (u4_1 (x3 := y16.1) _ (Zx.refl _) st h3 o60 h4 s43 h6 hy152) ?_
    rintro ex158 fr153 m154 hk156 ⟨z155, hz157, st, ⟨y159, rfl, rfl, -⟩ | ⟨y163, rfl, rfl, h2, -⟩⟩
    · dsimp only at hr
      replace hz := hz.trans hz157
      clear hk156
      refine blockQ.hit ?_
      refine thenQ.n ?_
      refine W.seq ?_
      refine W.region ?_
      obtain ⟨y160, hy160, hr⟩ := bind_some hr
      refine SeqW.consX rfl (StepX.call (gCallee rfl rfl args0) ((c11 (z := z155) st.fz st.dead  hy160).mono ?_))
      rintro _ _ ⟨rfl, rfl⟩
      refine SeqW.consX rfl (StepX.pure (pAssign (v := (Value.bool y160)) rfl rfl) ?_)
      refine SeqW.done fun fr161 hf162 => ?_
      have h2 : fr161 2 = (Value.bool y160) := (congrFun hf162 2).trans rfl
      clear hf162
      refine thenQ.n ?_
      refine W.ret ?_
      obtain rfl := Option.some.inj hr
      exact ⟨z155, hz, st, .inr rfl, h2, trivial⟩
    · dsimp only at hr
      replace hz := hz.trans hz157
      clear hk156
      refine blockQ.r ?_
      refine thenQ.r ?_
      obtain rfl := Option.some.inj hr
      exact ⟨z155, hz, st, .inr rfl, h2, trivial⟩

theorem c4 {N : Nat} {z : Nat → Blk} {m : Mem} {x0 : List Int} {v0 : Value} (fz : Fz z m) (hd : ∀ b, m.next ≤ b → m.blk b = .dead) (s0 : SlR (TInt 3 .i64) z x0 v0) {r : Bool} (hr : m4 N x0 = some r) : CallW Try.prog 4 #[v0] m fun v m' => v = (Value.bool r) ∧ m' = m := by
  refine CallW.flat Try.func4 rfl (by kernel_rfl) (Nat.le_of_ble_eq_true rfl) rfl (z := z) (fun fr hf => ?_)
  have h0 : fr 0 = _ := hf 0 _ rfl
  refine (u4 (k := none) (Zx.refl _) (St.start fz hd) h0 s0 hr).mono ?_
  rintro ex fr' m' ⟨z', hz, st, he, h2, -⟩
  exact ⟨he, z', st, [(Value.bool r)], ⟨h2.symm, trivial⟩, .inl rfl, rfl⟩

/-! ### humpyard/humpyardref07.fit -/

theorem u46_1 {N : Nat}  {z0 z : Nat → Blk} {e m : Mem} {k : Option Nat} {fr : Nat → Value} {x9 : Int} {x31 : Bool} (hz : Zx e.next z0 z) (st : St z e m k) (h9 : fr 9 = (Value.int .i64 x9)) (h31 : fr 31 = (Value.bool x31)) {r : Int} (hr : m46_1 N x9 x31 = some r) : W Try.prog (sub (bodyOf Try.f46) [1, 1, 1, 0, 1, 0, 0, 1, 0, 0, 1, 0, 1]) (fun ex fr' m' => ∃ z', Zx e.next z0 z' ∧ St z' e m' k ∧ ex = AExit.normal ∧ fr' 9 = (Value.int .i64 r) ∧ True) fr m := by
  unfold m46_1 at hr
  rcases if_some hr with ⟨hc33, hr⟩ | ⟨hc37, hr⟩
  · refine W.condT h31 hc33 ?_
    refine W.region ?_
    refine SeqW.consX rfl (StepX.pure (pMove (v := (Value.int .i64 x9)) rfl h9) ?_)
    refine SeqW.consX rfl (StepX.pure (pNeg (k := .i64) (a := x9) rfl rfl) ?_)
    obtain ⟨y34, hy34, hr⟩ := lt_some hr
    refine SeqW.consX rfl (StepX.pure (pAssign rfl (congrArg (Value.int .i64) hy34)) ?_)
    refine SeqW.done fun fr35 hf36 => ?_
    have h9 : fr35 9 = (Value.int .i64 y34) := (congrFun hf36 9).trans rfl
    clear hf36
    obtain rfl := Option.some.inj hr
    exact ⟨z, hz, st, rfl, h9, trivial⟩
  · refine W.condF h31 hc37 ?_
    refine W.skip ?_
    obtain rfl := Option.some.inj hr
    exact ⟨z, hz, st, rfl, h9, trivial⟩

theorem u46_0 : ∀ (n : Nat) {N : Nat}  {z0 z : Nat → Blk} {e m : Mem} {k : Option Nat} {fr : Nat → Value} {x0 : List Int} {x1 : List Int} {x2 : Int} {x7 : Int} {x8 : Int} {v0 : Value} {v1 : Value} (hz : Zx e.next z0 z) (st : St z e m k) (h0 : fr 0 = v0) (s0 : SlR (TInt 3 .i64) z x0 v0) (h1 : fr 1 = v1) (s1 : SlR (TInt 3 .i64) z x1 v1) (h2 : fr 2 = (Value.int .i64 x2)) (h7 : fr 7 = (Value.int .i64 x7)) (h8 : fr 8 = (Value.int .i64 x8)) {r : Sum (Int) (Int)} (hr : m46_0 N x0 x1 x2 n x7 x8 = some r), W Try.prog (sub (bodyOf Try.f46) [1, 1, 1, 0, 1, 0]) (fun ex fr' m' => ∃ z', Zx e.next z0 z' ∧ St z' e m' k ∧ ((∃ q, r = Sum.inl q ∧ ex = AExit.exit 0 ∧ fr' 7 = (Value.int .i64 q) ∧ True) ∨ (∃ q, r = Sum.inr q ∧ ex = AExit.ret ∧ fr' 6 = (Value.int .i64 q) ∧ True))) fr m := by
  intro n
  induction n with
  | zero => intro N z0 z e m k fr x0 x1 x2 x7 x8 v0 v1 hz st h0 s0 h1 s1 h2 h7 h8 r hr; cases (show (none : Option _) = some r from hr)
  | succ n ih =>
    intro N z0 z e m k fr x0 x1 x2 x7 x8 v0 v1 hz st h0 s0 h1 s1 h2 h7 h8 r hr
    unfold m46_0 at hr
    refine W.loop1 ?_
    refine W.seq ?_
    refine W.seq ?_
    refine W.region ?_
    refine SeqW.consX rfl (StepX.pure (pMove (v := (Value.int .i64 x8)) rfl h8) ?_)
    refine SeqW.consX rfl (StepX.pure (pMove (v := v1) rfl h1) ?_)
    refine SeqW.consX rfl (StepX.pure (pLenR (xs := x1) rfl Try.underlying22 rfl s1) ?_)
    refine SeqW.consX rfl (StepX.pure (pLss (k := .i64) (a := x8) (b := (x1.length : Int)) rfl rfl rfl) ?_)
    refine SeqW.done fun fr13 hf14 => ?_
    have h0 : fr13 0 = v0 := (congrFun hf14 0).trans h0
    have h1 : fr13 1 = v1 := (congrFun hf14 1).trans h1
    have h2 : fr13 2 = (Value.int .i64 x2) := (congrFun hf14 2).trans h2
    have h7 : fr13 7 = (Value.int .i64 x7) := (congrFun hf14 7).trans h7
    have h8 : fr13 8 = (Value.int .i64 x8) := (congrFun hf14 8).trans h8
    have h18 : fr13 18 = (Value.bool (decide (x8 < (x1.length : Int)))) := (congrFun hf14 18).trans rfl
    clear hf14
    refine thenQ.n ?_
    rcases if_some hr with ⟨hc15, hr⟩ | ⟨hc57, hr⟩
    · refine W.condT h18 hc15 ?_
      refine W.skip ?_
      refine thenQ.n ?_
      refine W.seq ?_
      refine W.block ?_
      refine W.seq ?_
      refine W.calm (by decide) ?_
      refine SeqW.consX rfl (StepX.pure (pMove (v := v0) rfl h0) ?_)
      refine SeqW.consX rfl (StepX.pure (pMove (v := (Value.int .i64 x8)) rfl h8) ?_)
      obtain ⟨y16, hy16, hr⟩ := bind_some hr
      refine SeqW.consX rfl (kIdxR (T := (TInt 3 .i64)) (xs := x0) (n := x8) rfl Try.underlying22 Try.type3 rfl rfl rfl s0 hy16 ?_)
      intro b17 f18 cs19 hd20 hc21
      obtain rfl := hd20
      refine SeqW.consX rfl (kLoad (v := (Value.int .i64 y16)) rfl Try.underlying3 rfl rfl (ldz_load st.fz (hc21 0 _ rfl)) ?_)
      refine SeqW.consX rfl (StepX.pure (pMove (v := v1) rfl h1) ?_)
      refine SeqW.consX rfl (StepX.pure (pMove (v := (Value.int .i64 x8)) rfl h8) ?_)
      obtain ⟨y22, hy22, hr⟩ := bind_some hr
      refine SeqW.consX rfl (kIdxR (T := (TInt 3 .i64)) (xs := x1) (n := x8) rfl Try.underlying22 Try.type3 rfl rfl rfl s1 hy22 ?_)
      intro b23 f24 cs25 hd26 hc27
      obtain rfl := hd26
      refine SeqW.consX rfl (kLoad (v := (Value.int .i64 y22)) rfl Try.underlying3 rfl rfl (ldz_load st.fz (hc27 0 _ rfl)) ?_)
      refine SeqW.consX rfl (StepX.pure (pSub (k := .i64) (a := y16) (b := y22) rfl rfl rfl) ?_)
      obtain ⟨y28, hy28, hr⟩ := lt_some hr
      refine SeqW.consX rfl (StepX.pure (pAssign rfl (congrArg (Value.int .i64) hy28)) ?_)
      refine SeqW.done fun fr29 hf30 => ?_
      have h0 : fr29 0 = v0 := (congrFun hf30 0).trans h0
      have h1 : fr29 1 = v1 := (congrFun hf30 1).trans h1
      have h2 : fr29 2 = (Value.int .i64 x2) := (congrFun hf30 2).trans h2
      have h7 : fr29 7 = (Value.int .i64 x7) := (congrFun hf30 7).trans h7
      have h8 : fr29 8 = (Value.int .i64 x8) := (congrFun hf30 8).trans h8
      have h9 : fr29 9 = (Value.int .i64 y28) := (congrFun hf30 9).trans rfl
      clear hf30
      refine thenQ.n ?_
      refine W.seq ?_
      refine W.seq ?_
      refine W.region ?_
      refine SeqW.consX rfl (StepX.pure (pMove (v := (Value.int .i64 y28)) rfl h9) ?_)
      refine SeqW.consX rfl (StepX.pure (pLss (k := .i64) (a := y28) (b := 0) rfl rfl rfl) ?_)
      refine SeqW.done fun fr31 hf32 => ?_
      have h0 : fr31 0 = v0 := (congrFun hf32 0).trans h0
      have h1 : fr31 1 = v1 := (congrFun hf32 1).trans h1
      have h2 : fr31 2 = (Value.int .i64 x2) := (congrFun hf32 2).trans h2
      have h7 : fr31 7 = (Value.int .i64 x7) := (congrFun hf32 7).trans h7
      have h8 : fr31 8 = (Value.int .i64 x8) := (congrFun hf32 8).trans h8
      have h9 : fr31 9 = (Value.int .i64 y28) := (congrFun hf32 9).trans h9
      have h31 : fr31 31 = (Value.bool (decide (y28 < 0))) := (congrFun hf32 31).trans rfl
      clear hf32
      refine thenQ.n ?_
      obtain ⟨y38, hy38, hr⟩ := bind_some hr
      refine W.keep (u46_1 (Zx.refl _) st h9 h31 hy38) ?_
      rintro ex44 fr39 m40 hk42 ⟨z41, hz43, st, rfl, h9, -⟩
      replace s0 := s0.mono hz43.le
      replace s1 := s1.mono hz43.le
      have h0 := (hk42 0 rfl).trans h0
      have h1 := (hk42 1 rfl).trans h1
      have h2 := (hk42 2 rfl).trans h2
      have h7 := (hk42 7 rfl).trans h7
      have h8 := (hk42 8 rfl).trans h8
      replace hz := hz.trans hz43
      clear hk42
      refine thenQ.n ?_
      refine W.seq ?_
      refine W.seq ?_
      refine W.region ?_
      refine SeqW.consX rfl (StepX.pure (pMove (v := (Value.int .i64 y38)) rfl h9) ?_)
      refine SeqW.consX rfl (StepX.pure (pMove (v := (Value.int .i64 x2)) rfl h2) ?_)
      refine SeqW.consX rfl (StepX.pure (pGtr (k := .i64) (a := y38) (b := x2) rfl rfl rfl) ?_)
      refine SeqW.done fun fr45 hf46 => ?_
      have h0 : fr45 0 = v0 := (congrFun hf46 0).trans h0
      have h1 : fr45 1 = v1 := (congrFun hf46 1).trans h1
      have h2 : fr45 2 = (Value.int .i64 x2) := (congrFun hf46 2).trans h2
      have h7 : fr45 7 = (Value.int .i64 x7) := (congrFun hf46 7).trans h7
      have h8 : fr45 8 = (Value.int .i64 x8) := (congrFun hf46 8).trans h8
      have h9 : fr45 9 = (Value.int .i64 y38) := (congrFun hf46 9).trans h9
      have h36 : fr45 36 = (Value.bool (decide (x2 < y38))) := (congrFun hf46 36).trans rfl
      clear hf46
      refine thenQ.n ?_
      rcases if_some hr with ⟨hc47, hr⟩ | ⟨hc50, hr⟩
      · refine W.condT h36 hc47 ?_
        refine W.seq ?_
        refine W.region ?_
        refine SeqW.consX rfl (StepX.pure (pAssign (v := (Value.int .i64 (-1))) rfl rfl) ?_)
        refine SeqW.done fun fr48 hf49 => ?_
        have h6 : fr48 6 = (Value.int .i64 (-1)) := (congrFun hf49 6).trans rfl
        clear hf49
        refine thenQ.n ?_
        refine W.ret ?_
        refine thenQ.r ?_
        refine blockQ.r ?_
        refine thenQ.r ?_
        refine thenQ.r ?_
        obtain rfl := Option.some.inj hr
        exact ⟨z41, hz, st, .inr ⟨_, rfl, rfl, h6, trivial⟩⟩
      · refine W.condF h36 hc50 ?_
        refine W.skip ?_
        refine thenQ.n ?_
        refine W.region ?_
        refine SeqW.consX rfl (StepX.pure (pMove (v := (Value.int .i64 x7)) rfl h7) ?_)
        refine SeqW.consX rfl (StepX.pure (pMove (v := (Value.int .i64 y38)) rfl h9) ?_)
        refine SeqW.consX rfl (StepX.pure (pAdd (k := .i64) (a := x7) (b := y38) rfl rfl rfl) ?_)
        obtain ⟨y51, hy51, hr⟩ := lt_some hr
        refine SeqW.consX rfl (StepX.pure (pAssign rfl (congrArg (Value.int .i64) hy51)) ?_)
        refine SeqW.done fun fr52 hf53 => ?_
        have h0 : fr52 0 = v0 := (congrFun hf53 0).trans h0
        have h1 : fr52 1 = v1 := (congrFun hf53 1).trans h1
        have h2 : fr52 2 = (Value.int .i64 x2) := (congrFun hf53 2).trans h2
        have h7 : fr52 7 = (Value.int .i64 y51) := (congrFun hf53 7).trans rfl
        have h8 : fr52 8 = (Value.int .i64 x8) := (congrFun hf53 8).trans h8
        clear hf53
        refine blockQ.n ?_
        refine thenQ.n ?_
        refine W.region ?_
        refine SeqW.consX rfl (StepX.pure (pMove (v := (Value.int .i64 x8)) rfl h8) ?_)
        refine SeqW.consX rfl (StepX.pure (pAdd (k := .i64) (a := x8) (b := 1) rfl rfl rfl) ?_)
        obtain ⟨y54, hy54, hr⟩ := lt_some hr
        refine SeqW.consX rfl (StepX.pure (pAssign rfl (congrArg (Value.int .i64) hy54)) ?_)
        refine SeqW.done fun fr55 hf56 => ?_
        have h0 : fr55 0 = v0 := (congrFun hf56 0).trans h0
        have h1 : fr55 1 = v1 := (congrFun hf56 1).trans h1
        have h2 : fr55 2 = (Value.int .i64 x2) := (congrFun hf56 2).trans h2
        have h7 : fr55 7 = (Value.int .i64 y51) := (congrFun hf56 7).trans h7
        have h8 : fr55 8 = (Value.int .i64 y54) := (congrFun hf56 8).trans rfl
        clear hf56
        refine thenQ.n ?_
        exact ih hz st h0 s0 h1 s1 h2 h7 h8 hr
    · refine W.condF h18 hc57 ?_
      refine W.exit ?_
      refine thenQ.x ?_
      refine thenQ.x ?_
      obtain rfl := Option.some.inj hr
      exact ⟨z, hz, st, .inl ⟨_, rfl, rfl, h7, trivial⟩⟩

theorem u46 {N : Nat}  {z0 z : Nat → Blk} {e m : Mem} {k : Option Nat} {fr : Nat → Value} {x0 : List Int} {x1 : List Int} {x2 : Int} {v0 : Value} {v1 : Value} (hz : Zx e.next z0 z) (st : St z e m k) (h0 : fr 0 = v0) (s0 : SlR (TInt 3 .i64) z x0 v0) (h1 : fr 1 = v1) (s1 : SlR (TInt 3 .i64) z x1 v1) (h2 : fr 2 = (Value.int .i64 x2)) {r : Int} (hr : m46 N x0 x1 x2 = some r) : W Try.prog (sub (bodyOf Try.f46) []) (fun ex fr' m' => ∃ z', Zx e.next z0 z' ∧ St z' e m' k ∧ (ex = .normal ∨ ex = .ret) ∧ fr' 6 = (Value.int .i64 r) ∧ True) fr m := by
  unfold m46 at hr
  refine W.seq ?_
  refine W.region ?_
  refine SeqW.consX rfl (StepX.pure (pAssign (v := (Value.int .i64 0)) rfl rfl) ?_)
  refine SeqW.done fun fr1 hf2 => ?_
  have h0 : fr1 0 = v0 := (congrFun hf2 0).trans h0
  have h1 : fr1 1 = v1 := (congrFun hf2 1).trans h1
  have h2 : fr1 2 = (Value.int .i64 x2) := (congrFun hf2 2).trans h2
  clear hf2
  refine thenQ.n ?_
  refine W.seq ?_
  refine W.seq ?_
  refine W.region ?_
  refine SeqW.consX rfl (StepX.pure (pMove (v := v1) rfl h1) ?_)
  refine SeqW.consX rfl (StepX.pure (pLenR (xs := x1) rfl Try.underlying22 rfl s1) ?_)
  refine SeqW.consX rfl (StepX.pure (pMove (v := v0) rfl h0) ?_)
  refine SeqW.consX rfl (StepX.pure (pLenR (xs := x0) rfl Try.underlying22 rfl s0) ?_)
  refine SeqW.consX rfl (StepX.pure (pGtr (k := .i64) (a := (x1.length : Int)) (b := (x0.length : Int)) rfl rfl rfl) ?_)
  refine SeqW.done fun fr3 hf4 => ?_
  have h0 : fr3 0 = v0 := (congrFun hf4 0).trans h0
  have h1 : fr3 1 = v1 := (congrFun hf4 1).trans h1
  have h2 : fr3 2 = (Value.int .i64 x2) := (congrFun hf4 2).trans h2
  have h14 : fr3 14 = (Value.bool (decide ((x0.length : Int) < (x1.length : Int)))) := (congrFun hf4 14).trans rfl
  clear hf4
  refine thenQ.n ?_
  rcases if_some hr with ⟨hc5, hr⟩ | ⟨hc8, hr⟩
  · refine W.condT h14 hc5 ?_
    refine W.seq ?_
    refine W.region ?_
    refine SeqW.consX rfl (StepX.pure (pAssign (v := (Value.int .i64 (-1))) rfl rfl) ?_)
    refine SeqW.done fun fr6 hf7 => ?_
    have h6 : fr6 6 = (Value.int .i64 (-1)) := (congrFun hf7 6).trans rfl
    clear hf7
    refine thenQ.n ?_
    refine W.ret ?_
    refine thenQ.r ?_
    obtain rfl := Option.some.inj hr
    exact ⟨z, hz, st, .inr rfl, h6, trivial⟩
  · refine W.condF h14 hc8 ?_
    refine W.skip ?_
    refine thenQ.n ?_
    refine W.seq ?_
    refine W.region ?_
    refine SeqW.consX rfl (StepX.pure (pAssign (v := (Value.int .i64 0)) rfl rfl) ?_)
    refine SeqW.done fun fr9 hf10 => ?_
    have h0 : fr9 0 = v0 := (congrFun hf10 0).trans h0
    have h1 : fr9 1 = v1 := (congrFun hf10 1).trans h1
    have h2 : fr9 2 = (Value.int .i64 x2) := (congrFun hf10 2).trans h2
    have h7 : fr9 7 = (Value.int .i64 0) := (congrFun hf10 7).trans rfl
    clear hf10
    refine thenQ.n ?_
    refine W.seq ?_
    refine W.seq ?_
    refine W.region ?_
    refine SeqW.consX rfl (StepX.pure (pAssign (v := (Value.int .i64 0)) rfl rfl) ?_)
    refine SeqW.done fun fr11 hf12 => ?_
    have h0 : fr11 0 = v0 := (congrFun hf12 0).trans h0
    have h1 : fr11 1 = v1 := (congrFun hf12 1).trans h1
    have h2 : fr11 2 = (Value.int .i64 x2) := (congrFun hf12 2).trans h2
    have h7 : fr11 7 = (Value.int .i64 0) := (congrFun hf12 7).trans h7
    have h8 : fr11 8 = (Value.int .i64 0) := (congrFun hf12 8).trans rfl
    clear hf12
    refine thenQ.n ?_
    refine W.block ?_
    obtain ⟨y58, hy58, hr⟩ := bind_some hr
    refine W.keep (u46_0 _ (Zx.refl _) st h0 s0 h1 s1 h2 h7 h8 hy58) ?_
    rintro ex64 fr59 m60 hk62 ⟨z61, hz63, st, ⟨y65, rfl, rfl, h7, -⟩ | ⟨y68, rfl, rfl, h6, -⟩⟩
    · dsimp only at hr
      replace hz := hz.trans hz63
      clear hk62
      refine blockQ.hit ?_
      refine thenQ.n ?_
      refine W.seq ?_
      refine W.region ?_
      refine SeqW.consX rfl (StepX.pure (pMove (v := (Value.int .i64 y65)) rfl h7) ?_)
      refine SeqW.consX rfl (StepX.pure (pAssign (v := (Value.int .i64 y65)) rfl rfl) ?_)
      refine SeqW.done fun fr66 hf67 => ?_
      have h6 : fr66 6 = (Value.int .i64 y65) := (congrFun hf67 6).trans rfl
      clear hf67
      refine thenQ.n ?_
      refine W.ret ?_
      obtain rfl := Option.some.inj hr
      exact ⟨z61, hz, st, .inr rfl, h6, trivial⟩
    · dsimp only at hr
      replace hz := hz.trans hz63
      clear hk62
      refine blockQ.r ?_
      refine thenQ.r ?_
      obtain rfl := Option.some.inj hr
      exact ⟨z61, hz, st, .inr rfl, h6, trivial⟩

theorem c46 {N : Nat} {z : Nat → Blk} {m : Mem} {x0 : List Int} {x1 : List Int} {x2 : Int} {v0 : Value} {v1 : Value} (fz : Fz z m) (hd : ∀ b, m.next ≤ b → m.blk b = .dead) (s0 : SlR (TInt 3 .i64) z x0 v0) (s1 : SlR (TInt 3 .i64) z x1 v1) {r : Int} (hr : m46 N x0 x1 x2 = some r) : CallW Try.prog 46 #[v0, v1, (Value.int .i64 x2)] m fun v m' => v = (Value.int .i64 r) ∧ m' = m := by
  refine CallW.flat Try.func46 rfl (by kernel_rfl) (Nat.le_of_ble_eq_true rfl) rfl (z := z) (fun fr hf => ?_)
  have h0 : fr 0 = _ := hf 0 _ rfl
  have h1 : fr 1 = _ := hf 1 _ rfl
  have h2 : fr 2 = _ := hf 2 _ rfl
  refine (u46 (k := none) (Zx.refl _) (St.start fz hd) h0 s0 h1 s1 h2 hr).mono ?_
  rintro ex fr' m' ⟨z', hz, st, he, h6, -⟩
  exact ⟨he, z', st, [(Value.int .i64 r)], ⟨h6.symm, trivial⟩, .inl rfl, rfl⟩

/-! ### humpyard/humpyardref07.Recognize -/

theorem u35_0 {N : Nat}  {z0 z : Nat → Blk} {e m : Mem} {k : Option Nat} {fr : Nat → Value} {x0 : List Int} {x1 : List (List Int)} {v0 : Value} {v1 : Value} (hz : Zx e.next z0 z) (st : St z e m k) (h0 : fr 0 = v0) (s0 : SlR (TInt 3 .i64) z x0 v0) (h1 : fr 1 = v1) (s1 : SlR (TSl 22 (TInt 3 .i64)) z x1 v1) {r : Bool} (hr : m35_0 N x0 x1 = some r) : W Try.prog (sub (bodyOf Try.f35) [1, 0, 0]) (fun ex fr' m' => ∃ z', Zx e.next z0 z' ∧ St z' e m' k ∧ ex = AExit.normal ∧ fr' 29 = (Value.bool r) ∧ True) fr m := by
  unfold m35_0 at hr
  refine W.region ?_
  refine SeqW.consX rfl (StepX.pure (pMove (v := v0) rfl h0) ?_)
  refine SeqW.consX rfl (StepX.pure (pLenR (xs := x0) rfl Try.underlying22 rfl s0) ?_)
  refine SeqW.consX rfl (StepX.pure (pGtr (k := .i64) (a := (x0.length : Int)) (b := 768) rfl rfl rfl) ?_)
  refine SeqW.consX rfl (StepX.pure (pMove (v := (Value.bool (decide (768 < (x0.length : Int))))) rfl rfl) ?_)
  rcases if_some hr with ⟨hc3, hr⟩ | ⟨hc6, hr⟩
  · refine SeqW.skipG rfl rfl rfl hc3 ?_
    refine SeqW.skipG rfl rfl rfl hc3 ?_
    refine SeqW.skipG rfl rfl rfl hc3 ?_
    refine SeqW.consX rfl (StepX.pure (pPick (t := true) (v := (Value.bool true)) rfl ((congrArg Value.bool hc3)) rfl) ?_)
    refine SeqW.done fun fr4 hf5 => ?_
    have h0 : fr4 0 = v0 := (congrFun hf5 0).trans h0
    have h1 : fr4 1 = v1 := (congrFun hf5 1).trans h1
    have h29 : fr4 29 = (Value.bool true) := (congrFun hf5 29).trans rfl
    clear hf5
    obtain rfl := Option.some.inj hr
    exact ⟨z, hz, st, rfl, h29, trivial⟩
  · refine SeqW.consG rfl rfl rfl hc6 (StepX.pure (pMove (v := v1) rfl h1) ?_)
    refine SeqW.consG rfl rfl rfl hc6 (StepX.pure (pLenR (xs := x1) rfl Try.underlying23 rfl s1) ?_)
    refine SeqW.consG rfl rfl rfl hc6 (StepX.pure (pGtr (k := .i64) (a := (x1.length : Int)) (b := 16) rfl rfl rfl) ?_)
    refine SeqW.consX rfl (StepX.pure (pPick (t := false) (v := (Value.bool (decide (16 < (x1.length : Int))))) rfl ((congrArg Value.bool hc6)) rfl) ?_)
    refine SeqW.done fun fr7 hf8 => ?_
    have h0 : fr7 0 = v0 := (congrFun hf8 0).trans h0
    have h1 : fr7 1 = v1 := (congrFun hf8 1).trans h1
    have h29 : fr7 29 = (Value.bool (decide (16 < (x1.length : Int)))) := (congrFun hf8 29).trans rfl
    clear hf8
    obtain rfl := Option.some.inj hr
    exact ⟨z, hz, st, rfl, h29, trivial⟩

theorem u35_1 : ∀ (n : Nat) {N : Nat}  {z0 z : Nat → Blk} {e m : Mem} {k : Option Nat} {fr : Nat → Value} {x1 : List (List Int)} {x9 : Int} {v1 : Value} (hz : Zx e.next z0 z) (st : St z e m k) (h1 : fr 1 = v1) (s1 : SlR (TSl 22 (TInt 3 .i64)) z x1 v1) (h9 : fr 9 = (Value.int .i64 x9)) {r : Sum (Unit) (Int × Int)} (hr : m35_1 N x1 n x9 = some r), W Try.prog (sub (bodyOf Try.f35) [1, 1, 0, 1, 0]) (fun ex fr' m' => ∃ z', Zx e.next z0 z' ∧ St z' e m' k ∧ ((∃ q, r = Sum.inl q ∧ ex = AExit.exit 0 ∧ True) ∨ (∃ q, r = Sum.inr q ∧ ex = AExit.ret ∧ fr' 6 = (Value.slice none 0 0) ∧ fr' 7 = (Value.int .i64 q.1) ∧ fr' 8 = (Value.int .i64 q.2) ∧ True))) fr m := by
  intro n
  induction n with
  | zero => intro N z0 z e m k fr x1 x9 v1 hz st h1 s1 h9 r hr; cases (show (none : Option _) = some r from hr)
  | succ n ih =>
    intro N z0 z e m k fr x1 x9 v1 hz st h1 s1 h9 r hr
    unfold m35_1 at hr
    refine W.loop1 ?_
    refine W.seq ?_
    refine W.seq ?_
    refine W.region ?_
    refine SeqW.consX rfl (StepX.pure (pMove (v := (Value.int .i64 x9)) rfl h9) ?_)
    refine SeqW.consX rfl (StepX.pure (pMove (v := v1) rfl h1) ?_)
    refine SeqW.consX rfl (StepX.pure (pLenR (xs := x1) rfl Try.underlying23 rfl s1) ?_)
    refine SeqW.consX rfl (StepX.pure (pLss (k := .i64) (a := x9) (b := (x1.length : Int)) rfl rfl rfl) ?_)
    refine SeqW.done fun fr22 hf23 => ?_
    have h1 : fr22 1 = v1 := (congrFun hf23 1).trans h1
    have h9 : fr22 9 = (Value.int .i64 x9) := (congrFun hf23 9).trans h9
    have h33 : fr22 33 = (Value.bool (decide (x9 < (x1.length : Int)))) := (congrFun hf23 33).trans rfl
    clear hf23
    refine thenQ.n ?_
    rcases if_some hr with ⟨hc24, hr⟩ | ⟨hc43, hr⟩
    · refine W.condT h33 hc24 ?_
      refine W.skip ?_
      refine thenQ.n ?_
      refine W.seq ?_
      refine W.block ?_
      refine W.seq ?_
      refine W.region ?_
      refine SeqW.consX rfl (StepX.pure (pMove (v := v1) rfl h1) ?_)
      refine SeqW.consX rfl (StepX.pure (pMove (v := (Value.int .i64 x9)) rfl h9) ?_)
      obtain ⟨y25, hy25, hr⟩ := bind_some hr
      refine SeqW.consX rfl (kIdxR (T := (TSl 22 (TInt 3 .i64))) (xs := x1) (n := x9) rfl Try.underlying23 Try.type22 rfl rfl rfl s1 hy25 ?_)
      intro b26 f27 cs28 hd29 hc30
      obtain ⟨v31, rfl, s32⟩ := hd29
      refine SeqW.consX rfl (kLoad (v := v31) rfl Try.underlying22 rfl rfl (ldz_load st.fz (hc30 0 _ rfl)) ?_)
      refine SeqW.consX rfl (StepX.pure (pLenR (xs := y25) rfl Try.underlying22 rfl s32) ?_)
      refine SeqW.consX rfl (StepX.pure (pGtr (k := .i64) (a := (y25.length : Int)) (b := 5) rfl rfl rfl) ?_)
      refine SeqW.done fun fr34 hf35 => ?_
      have h1 : fr34 1 = v1 := (congrFun hf35 1).trans h1
      have h9 : fr34 9 = (Value.int .i64 x9) := (congrFun hf35 9).trans h9
      have h41 : fr34 41 = (Value.bool (decide (5 < (y25.length : Int)))) := (congrFun hf35 41).trans rfl
      clear hf35
      refine thenQ.n ?_
      rcases if_some hr with ⟨hc36, hr⟩ | ⟨hc39, hr⟩
      · refine W.condT h41 hc36 ?_
        refine W.seq ?_
        refine W.region ?_
        refine SeqW.consX rfl (StepX.pure (pAssign (v := (Value.slice none 0 0)) rfl rfl) ?_)
        refine SeqW.consX rfl (StepX.pure (pAssign (v := (Value.int .i64 0)) rfl rfl) ?_)
        refine SeqW.consX rfl (StepX.pure (pAssign (v := (Value.int .i64 3)) rfl rfl) ?_)
        refine SeqW.done fun fr37 hf38 => ?_
        have h6 : fr37 6 = (Value.slice none 0 0) := (congrFun hf38 6).trans rfl
        have h7 : fr37 7 = (Value.int .i64 0) := (congrFun hf38 7).trans rfl
        have h8 : fr37 8 = (Value.int .i64 3) := (congrFun hf38 8).trans rfl
        clear hf38
        refine thenQ.n ?_
        refine W.ret ?_
        refine blockQ.r ?_
        refine thenQ.r ?_
        refine thenQ.r ?_
        obtain rfl := Option.some.inj hr
        exact ⟨z, hz, st, .inr ⟨_, rfl, rfl, h6, h7, h8, trivial⟩⟩
      · refine W.condF h41 hc39 ?_
        refine W.skip ?_
        refine blockQ.n ?_
        refine thenQ.n ?_
        refine W.region ?_
        refine SeqW.consX rfl (StepX.pure (pMove (v := (Value.int .i64 x9)) rfl h9) ?_)
        refine SeqW.consX rfl (StepX.pure (pAdd (k := .i64) (a := x9) (b := 1) rfl rfl rfl) ?_)
        obtain ⟨y40, hy40, hr⟩ := lt_some hr
        refine SeqW.consX rfl (StepX.pure (pAssign rfl (congrArg (Value.int .i64) hy40)) ?_)
        refine SeqW.done fun fr41 hf42 => ?_
        have h1 : fr41 1 = v1 := (congrFun hf42 1).trans h1
        have h9 : fr41 9 = (Value.int .i64 y40) := (congrFun hf42 9).trans rfl
        clear hf42
        refine thenQ.n ?_
        exact ih hz st h1 s1 h9 hr
    · refine W.condF h33 hc43 ?_
      refine W.exit ?_
      refine thenQ.x ?_
      refine thenQ.x ?_
      obtain rfl := Option.some.inj hr
      exact ⟨z, hz, st, .inl ⟨_, rfl, rfl, trivial⟩⟩

theorem u35_2 {N : Nat}  {z0 z : Nat → Blk} {e m : Mem} {k : Option Nat} {fr : Nat → Value} {x2 : Int} (hz : Zx e.next z0 z) (st : St z e m k) (h2 : fr 2 = (Value.int .i64 x2)) {r : Bool} (hr : m35_2 N x2 = some r) : W Try.prog (sub (bodyOf Try.f35) [1, 1, 1, 0, 0]) (fun ex fr' m' => ∃ z', Zx e.next z0 z' ∧ St z' e m' k ∧ ex = AExit.normal ∧ fr' 47 = (Value.bool r) ∧ True) fr m := by
  unfold m35_2 at hr
  refine W.region ?_
  refine SeqW.consX rfl (StepX.pure (pMove (v := (Value.int .i64 x2)) rfl h2) ?_)
  refine SeqW.consX rfl (StepX.pure (pLss (k := .i64) (a := x2) (b := 0) rfl rfl rfl) ?_)
  refine SeqW.consX rfl (StepX.pure (pMove (v := (Value.bool (decide (x2 < 0)))) rfl rfl) ?_)
  rcases if_some hr with ⟨hc52, hr⟩ | ⟨hc55, hr⟩
  · refine SeqW.skipG rfl rfl rfl hc52 ?_
    refine SeqW.skipG rfl rfl rfl hc52 ?_
    refine SeqW.consX rfl (StepX.pure (pPick (t := true) (v := (Value.bool true)) rfl ((congrArg Value.bool hc52)) rfl) ?_)
    refine SeqW.done fun fr53 hf54 => ?_
    have h2 : fr53 2 = (Value.int .i64 x2) := (congrFun hf54 2).trans h2
    have h47 : fr53 47 = (Value.bool true) := (congrFun hf54 47).trans rfl
    clear hf54
    obtain rfl := Option.some.inj hr
    exact ⟨z, hz, st, rfl, h47, trivial⟩
  · refine SeqW.consG rfl rfl rfl hc55 (StepX.pure (pMove (v := (Value.int .i64 x2)) rfl h2) ?_)
    refine SeqW.consG rfl rfl rfl hc55 (StepX.pure (pGtr (k := .i64) (a := x2) (b := 10000) rfl rfl rfl) ?_)
    refine SeqW.consX rfl (StepX.pure (pPick (t := false) (v := (Value.bool (decide (10000 < x2)))) rfl ((congrArg Value.bool hc55)) rfl) ?_)
    refine SeqW.done fun fr56 hf57 => ?_
    have h2 : fr56 2 = (Value.int .i64 x2) := (congrFun hf57 2).trans h2
    have h47 : fr56 47 = (Value.bool (decide (10000 < x2))) := (congrFun hf57 47).trans rfl
    clear hf57
    obtain rfl := Option.some.inj hr
    exact ⟨z, hz, st, rfl, h47, trivial⟩

theorem u35_4 {N : Nat}  {z0 z : Nat → Blk} {e m : Mem} {k : Option Nat} {fr : Nat → Value} {x1 : List (List Int)} {x10 : Int} {x11 : List Int} {x56 : Bool} {v1 : Value} {v11 : Value} (hz : Zx e.next z0 z) (st : St z e m k) (h1 : fr 1 = v1) (s1 : SlR (TSl 22 (TInt 3 .i64)) z x1 v1) (h10 : fr 10 = (Value.int .i64 x10)) (h11 : fr 11 = v11) (s11 : SlR (TInt 3 .i64) z x11 v11) (h56 : fr 56 = (Value.bool x56)) {r : List Int} (hr : m35_4 N x1 x10 x11 x56 = some r) : W Try.prog (sub (bodyOf Try.f35) [1, 1, 1, 1, 0, 1, 0, 0, 1, 0, 0, 1, 0, 1]) (fun ex fr' m' => ∃ z', Zx e.next z0 z' ∧ St z' e m' k ∧ ex = AExit.normal ∧ ∃ (w11 : Value), fr' 11 = w11 ∧ SlR (TInt 3 .i64) z' r w11 ∧ True) fr m := by
  unfold m35_4 at hr
  rcases if_some hr with ⟨hc78, hr⟩ | ⟨hc90, hr⟩
  · refine W.condT h56 hc78 ?_
    refine W.region ?_
    refine SeqW.consX rfl (StepX.pure (pMove (v := v1) rfl h1) ?_)
    refine SeqW.consX rfl (StepX.pure (pMove (v := (Value.int .i64 x10)) rfl h10) ?_)
    obtain ⟨y79, hy79, hr⟩ := bind_some hr
    refine SeqW.consX rfl (kIdxR (T := (TSl 22 (TInt 3 .i64))) (xs := x1) (n := x10) rfl Try.underlying23 Try.type22 rfl rfl rfl s1 hy79 ?_)
    intro b80 f81 cs82 hd83 hc84
    obtain ⟨v85, rfl, s86⟩ := hd83
    refine SeqW.consX rfl (kLoad (v := v85) rfl Try.underlying22 rfl rfl (ldz_load st.fz (hc84 0 _ rfl)) ?_)
    refine SeqW.consX rfl (StepX.pure (pAssign (v := v85) rfl rfl) ?_)
    refine SeqW.done fun fr88 hf89 => ?_
    have h1 : fr88 1 = v1 := (congrFun hf89 1).trans h1
    have h10 : fr88 10 = (Value.int .i64 x10) := (congrFun hf89 10).trans h10
    have h11 : fr88 11 = v85 := (congrFun hf89 11).trans rfl
    clear hf89
    obtain rfl := Option.some.inj hr
    exact ⟨z, hz, st, rfl, v85, h11, s86, trivial⟩
  · refine W.condF h56 hc90 ?_
    refine W.skip ?_
    obtain rfl := Option.some.inj hr
    exact ⟨z, hz, st, rfl, v11, h11, s11, trivial⟩

theorem u35_6 {N : Nat}  {z0 z : Nat → Blk} {e m : Mem} {k : Option Nat} {fr : Nat → Value} {x11 : List Int} {x12 : Int} {v11 : Value} (hz : Zx e.next z0 z) (st : St z e m k) (h11 : fr 11 = v11) (s11 : SlR (TInt 3 .i64) z x11 v11) (h12 : fr 12 = (Value.int .i64 x12)) {r : Bool} (hr : m35_6 N x11 x12 = some r) : W Try.prog (sub (bodyOf Try.f35) [1, 1, 1, 1, 0, 1, 0, 0, 1, 0, 0, 1, 1, 1, 0, 0, 1, 0, 0, 0]) (fun ex fr' m' => ∃ z', Zx e.next z0 z' ∧ St z' e m' k ∧ ex = AExit.normal ∧ fr' 78 = (Value.bool r) ∧ True) fr m := by
  unfold m35_6 at hr
  refine W.region ?_
  refine SeqW.consX rfl (StepX.pure (pMove (v := v11) rfl h11) ?_)
  refine SeqW.consX rfl (StepX.pure (pMove (v := (Value.int .i64 x12)) rfl h12) ?_)
  obtain ⟨y106, hy106, hr⟩ := bind_some hr
  refine SeqW.consX rfl (kIdxR (T := (TInt 3 .i64)) (xs := x11) (n := x12) rfl Try.underlying22 Try.type3 rfl rfl rfl s11 hy106 ?_)
  intro b107 f108 cs109 hd110 hc111
  obtain rfl := hd110
  refine SeqW.consX rfl (kLoad (v := (Value.int .i64 y106)) rfl Try.underlying3 rfl rfl (ldz_load st.fz (hc111 0 _ rfl)) ?_)
  refine SeqW.consX rfl (StepX.pure (pLss (k := .i64) (a := y106) (b := 1) rfl rfl rfl) ?_)
  refine SeqW.consX rfl (StepX.pure (pMove (v := (Value.bool (decide (y106 < 1)))) rfl rfl) ?_)
  rcases if_some hr with ⟨hc112, hr⟩ | ⟨hc115, hr⟩
  · refine SeqW.skipG rfl rfl rfl hc112 ?_
    refine SeqW.skipG rfl rfl rfl hc112 ?_
    refine SeqW.skipG rfl rfl rfl hc112 ?_
    refine SeqW.skipG rfl rfl rfl hc112 ?_
    refine SeqW.skipG rfl rfl rfl hc112 ?_
    refine SeqW.consX rfl (StepX.pure (pPick (t := true) (v := (Value.bool true)) rfl ((congrArg Value.bool hc112)) rfl) ?_)
    refine SeqW.done fun fr113 hf114 => ?_
    have h11 : fr113 11 = v11 := (congrFun hf114 11).trans h11
    have h12 : fr113 12 = (Value.int .i64 x12) := (congrFun hf114 12).trans h12
    have h78 : fr113 78 = (Value.bool true) := (congrFun hf114 78).trans rfl
    clear hf114
    obtain rfl := Option.some.inj hr
    exact ⟨z, hz, st, rfl, h78, trivial⟩
  · refine SeqW.consG rfl rfl rfl hc115 (StepX.pure (pMove (v := v11) rfl h11) ?_)
    refine SeqW.consG rfl rfl rfl hc115 (StepX.pure (pMove (v := (Value.int .i64 x12)) rfl h12) ?_)
    obtain ⟨y116, hy116, hr⟩ := bind_some hr
    refine SeqW.consG rfl rfl rfl hc115 (kIdxR (T := (TInt 3 .i64)) (xs := x11) (n := x12) rfl Try.underlying22 Try.type3 rfl rfl rfl s11 hy116 ?_)
    intro b117 f118 cs119 hd120 hc121
    obtain rfl := hd120
    refine SeqW.consG rfl rfl rfl hc115 (kLoad (v := (Value.int .i64 y116)) rfl Try.underlying3 rfl rfl (ldz_load st.fz (hc121 0 _ rfl)) ?_)
    refine SeqW.consG rfl rfl rfl hc115 (StepX.pure (pGtr (k := .i64) (a := y116) (b := 10000) rfl rfl rfl) ?_)
    refine SeqW.consX rfl (StepX.pure (pPick (t := false) (v := (Value.bool (decide (10000 < y116)))) rfl ((congrArg Value.bool hc115)) rfl) ?_)
    refine SeqW.done fun fr122 hf123 => ?_
    have h11 : fr122 11 = v11 := (congrFun hf123 11).trans h11
    have h12 : fr122 12 = (Value.int .i64 x12) := (congrFun hf123 12).trans h12
    have h78 : fr122 78 = (Value.bool (decide (10000 < y116))) := (congrFun hf123 78).trans rfl
    clear hf123
    obtain rfl := Option.some.inj hr
    exact ⟨z, hz, st, rfl, h78, trivial⟩

theorem u35_5 : ∀ (n : Nat) {N : Nat}  {z0 z : Nat → Blk} {e m : Mem} {k : Option Nat} {fr : Nat → Value} {x11 : List Int} {x12 : Int} {v11 : Value} (hz : Zx e.next z0 z) (st : St z e m k) (h11 : fr 11 = v11) (s11 : SlR (TInt 3 .i64) z x11 v11) (h12 : fr 12 = (Value.int .i64 x12)) {r : Sum (Unit) (Int × Int)} (hr : m35_5 N x11 n x12 = some r), W Try.prog (sub (bodyOf Try.f35) [1, 1, 1, 1, 0, 1, 0, 0, 1, 0, 0, 1, 1, 1, 0]) (fun ex fr' m' => ∃ z', Zx e.next z0 z' ∧ St z' e m' k ∧ ((∃ q, r = Sum.inl q ∧ ex = AExit.exit 4 ∧ True) ∨ (∃ q, r = Sum.inr q ∧ ex = AExit.ret ∧ fr' 6 = (Value.slice none 0 0) ∧ fr' 7 = (Value.int .i64 q.1) ∧ fr' 8 = (Value.int .i64 q.2) ∧ True))) fr m := by
  intro n
  induction n with
  | zero => intro N z0 z e m k fr x11 x12 v11 hz st h11 s11 h12 r hr; cases (show (none : Option _) = some r from hr)
  | succ n ih =>
    intro N z0 z e m k fr x11 x12 v11 hz st h11 s11 h12 r hr
    unfold m35_5 at hr
    refine W.loop1 ?_
    refine W.seq ?_
    refine W.seq ?_
    refine W.region ?_
    refine SeqW.consX rfl (StepX.pure (pMove (v := (Value.int .i64 x12)) rfl h12) ?_)
    refine SeqW.consX rfl (StepX.pure (pMove (v := v11) rfl h11) ?_)
    refine SeqW.consX rfl (StepX.pure (pLenR (xs := x11) rfl Try.underlying22 rfl s11) ?_)
    refine SeqW.consX rfl (StepX.pure (pLss (k := .i64) (a := x12) (b := (x11.length : Int)) rfl rfl rfl) ?_)
    refine SeqW.done fun fr103 hf104 => ?_
    have h11 : fr103 11 = v11 := (congrFun hf104 11).trans h11
    have h12 : fr103 12 = (Value.int .i64 x12) := (congrFun hf104 12).trans h12
    have h64 : fr103 64 = (Value.bool (decide (x12 < (x11.length : Int)))) := (congrFun hf104 64).trans rfl
    clear hf104
    refine thenQ.n ?_
    rcases if_some hr with ⟨hc105, hr⟩ | ⟨hc138, hr⟩
    · refine W.condT h64 hc105 ?_
      refine W.skip ?_
      refine thenQ.n ?_
      refine W.seq ?_
      refine W.block ?_
      refine W.seq ?_
      obtain ⟨y124, hy124, hr⟩ := bind_some hr
      refine W.keep (u35_6 (Zx.refl _) st h11 s11 h12 hy124) ?_
      rintro ex130 fr125 m126 hk128 ⟨z127, hz129, st, rfl, h78, -⟩
      replace s11 := s11.mono hz129.le
      have h11 := (hk128 11 rfl).trans h11
      have h12 := (hk128 12 rfl).trans h12
      replace hz := hz.trans hz129
      clear hk128
      refine thenQ.n ?_
      rcases if_some hr with ⟨hc131, hr⟩ | ⟨hc134, hr⟩
      · refine W.condT h78 hc131 ?_
        refine W.seq ?_
        refine W.region ?_
        refine SeqW.consX rfl (StepX.pure (pAssign (v := (Value.slice none 0 0)) rfl rfl) ?_)
        refine SeqW.consX rfl (StepX.pure (pAssign (v := (Value.int .i64 0)) rfl rfl) ?_)
        refine SeqW.consX rfl (StepX.pure (pAssign (v := (Value.int .i64 2)) rfl rfl) ?_)
        refine SeqW.done fun fr132 hf133 => ?_
        have h6 : fr132 6 = (Value.slice none 0 0) := (congrFun hf133 6).trans rfl
        have h7 : fr132 7 = (Value.int .i64 0) := (congrFun hf133 7).trans rfl
        have h8 : fr132 8 = (Value.int .i64 2) := (congrFun hf133 8).trans rfl
        clear hf133
        refine thenQ.n ?_
        refine W.ret ?_
        refine blockQ.r ?_
        refine thenQ.r ?_
        refine thenQ.r ?_
        obtain rfl := Option.some.inj hr
        exact ⟨z127, hz, st, .inr ⟨_, rfl, rfl, h6, h7, h8, trivial⟩⟩
      · refine W.condF h78 hc134 ?_
        refine W.skip ?_
        refine blockQ.n ?_
        refine thenQ.n ?_
        refine W.region ?_
        refine SeqW.consX rfl (StepX.pure (pMove (v := (Value.int .i64 x12)) rfl h12) ?_)
        refine SeqW.consX rfl (StepX.pure (pAdd (k := .i64) (a := x12) (b := 1) rfl rfl rfl) ?_)
        obtain ⟨y135, hy135, hr⟩ := lt_some hr
        refine SeqW.consX rfl (StepX.pure (pAssign rfl (congrArg (Value.int .i64) hy135)) ?_)
        refine SeqW.done fun fr136 hf137 => ?_
        have h11 : fr136 11 = v11 := (congrFun hf137 11).trans h11
        have h12 : fr136 12 = (Value.int .i64 y135) := (congrFun hf137 12).trans rfl
        clear hf137
        refine thenQ.n ?_
        exact ih hz st h11 s11 h12 hr
    · refine W.condF h64 hc138 ?_
      refine W.exit ?_
      refine thenQ.x ?_
      refine thenQ.x ?_
      obtain rfl := Option.some.inj hr
      exact ⟨z, hz, st, .inl ⟨_, rfl, rfl, trivial⟩⟩

theorem u35_3 : ∀ (n : Nat) {N : Nat}  {z0 z : Nat → Blk} {e m : Mem} {k : Option Nat} {fr : Nat → Value} {x0 : List Int} {x1 : List (List Int)} {x10 : Int} {v0 : Value} {v1 : Value} (hz : Zx e.next z0 z) (st : St z e m k) (h0 : fr 0 = v0) (s0 : SlR (TInt 3 .i64) z x0 v0) (h1 : fr 1 = v1) (s1 : SlR (TSl 22 (TInt 3 .i64)) z x1 v1) (h10 : fr 10 = (Value.int .i64 x10)) {r : Sum (Unit) (Int × Int)} (hr : m35_3 N x0 x1 n x10 = some r), W Try.prog (sub (bodyOf Try.f35) [1, 1, 1, 1, 0, 1, 0]) (fun ex fr' m' => ∃ z', Zx e.next z0 z' ∧ St z' e m' k ∧ ((∃ q, r = Sum.inl q ∧ ex = AExit.exit 2 ∧ True) ∨ (∃ q, r = Sum.inr q ∧ ex = AExit.ret ∧ fr' 6 = (Value.slice none 0 0) ∧ fr' 7 = (Value.int .i64 q.1) ∧ fr' 8 = (Value.int .i64 q.2) ∧ True))) fr m := by
  intro n
  induction n with
  | zero => intro N z0 z e m k fr x0 x1 x10 v0 v1 hz st h0 s0 h1 s1 h10 r hr; cases (show (none : Option _) = some r from hr)
  | succ n ih =>
    intro N z0 z e m k fr x0 x1 x10 v0 v1 hz st h0 s0 h1 s1 h10 r hr
    unfold m35_3 at hr
    refine W.loop1 ?_
    refine W.seq ?_
    refine W.seq ?_
    refine W.region ?_
    refine SeqW.consX rfl (StepX.pure (pMove (v := (Value.int .i64 x10)) rfl h10) ?_)
    refine SeqW.consX rfl (StepX.pure (pMove (v := v1) rfl h1) ?_)
    refine SeqW.consX rfl (StepX.pure (pLenR (xs := x1) rfl Try.underlying23 rfl s1) ?_)
    refine SeqW.consX rfl (StepX.pure (pLss (k := .i64) (a := x10) (b := (x1.length : Int)) rfl rfl rfl) ?_)
    refine SeqW.done fun fr71 hf72 => ?_
    have h0 : fr71 0 = v0 := (congrFun hf72 0).trans h0
    have h1 : fr71 1 = v1 := (congrFun hf72 1).trans h1
    have h10 : fr71 10 = (Value.int .i64 x10) := (congrFun hf72 10).trans h10
    have h51 : fr71 51 = (Value.bool (decide (x10 < (x1.length : Int)))) := (congrFun hf72 51).trans rfl
    clear hf72
    refine thenQ.n ?_
    rcases if_some hr with ⟨hc73, hr⟩ | ⟨hc151, hr⟩
    · refine W.condT h51 hc73 ?_
      refine W.skip ?_
      refine thenQ.n ?_
      refine W.seq ?_
      refine W.block ?_
      refine W.seq ?_
      refine W.region ?_
      refine SeqW.consX rfl (StepX.pure (pMove (v := v0) rfl h0) ?_)
      refine SeqW.consX rfl (StepX.pure (pAssign (v := v0) rfl rfl) ?_)
      refine SeqW.done fun fr74 hf75 => ?_
      have h0 : fr74 0 = v0 := (congrFun hf75 0).trans h0
      have h1 : fr74 1 = v1 := (congrFun hf75 1).trans h1
      have h10 : fr74 10 = (Value.int .i64 x10) := (congrFun hf75 10).trans h10
      have h11 : fr74 11 = v0 := (congrFun hf75 11).trans rfl
      clear hf75
      refine thenQ.n ?_
      refine W.seq ?_
      refine W.seq ?_
      refine W.region ?_
      refine SeqW.consX rfl (StepX.pure (pMove (v := (Value.int .i64 x10)) rfl h10) ?_)
      refine SeqW.consX rfl (StepX.pure (pGeq (k := .i64) (a := x10) (b := 0) rfl rfl rfl) ?_)
      refine SeqW.done fun fr76 hf77 => ?_
      have h0 : fr76 0 = v0 := (congrFun hf77 0).trans h0
      have h1 : fr76 1 = v1 := (congrFun hf77 1).trans h1
      have h10 : fr76 10 = (Value.int .i64 x10) := (congrFun hf77 10).trans h10
      have h11 : fr76 11 = v0 := (congrFun hf77 11).trans h11
      have h56 : fr76 56 = (Value.bool (decide (0 ≤ x10))) := (congrFun hf77 56).trans rfl
      clear hf77
      refine thenQ.n ?_
      obtain ⟨y91, hy91, hr⟩ := bind_some hr
      refine W.keep (u35_4 (Zx.refl _) st h1 s1 h10 h11 s0 h56 hy91) ?_
      rintro ex97 fr92 m93 hk95 ⟨z94, hz96, st, rfl, w98, h11, s100, -⟩
      replace s0 := s0.mono hz96.le
      replace s1 := s1.mono hz96.le
      have h0 := (hk95 0 rfl).trans h0
      have h1 := (hk95 1 rfl).trans h1
      have h10 := (hk95 10 rfl).trans h10
      replace hz := hz.trans hz96
      clear hk95
      refine thenQ.n ?_
      refine W.seq ?_
      refine W.region ?_
      refine SeqW.consX rfl (StepX.pure (pAssign (v := (Value.int .i64 0)) rfl rfl) ?_)
      refine SeqW.done fun fr101 hf102 => ?_
      have h0 : fr101 0 = v0 := (congrFun hf102 0).trans h0
      have h1 : fr101 1 = v1 := (congrFun hf102 1).trans h1
      have h10 : fr101 10 = (Value.int .i64 x10) := (congrFun hf102 10).trans h10
      have h11 : fr101 11 = w98 := (congrFun hf102 11).trans h11
      have h12 : fr101 12 = (Value.int .i64 0) := (congrFun hf102 12).trans rfl
      clear hf102
      refine thenQ.n ?_
      refine W.block ?_
      obtain ⟨y139, hy139, hr⟩ := bind_some hr
      refine W.keep (u35_5 _ (Zx.refl _) st h11 s100 h12 hy139) ?_
      rintro ex145 fr140 m141 hk143 ⟨z142, hz144, st, ⟨y146, rfl, rfl, -⟩ | ⟨y150, rfl, rfl, h6, h7, h8, -⟩⟩
      · dsimp only at hr
        replace s0 := s0.mono hz144.le
        replace s1 := s1.mono hz144.le
        have h0 := (hk143 0 rfl).trans h0
        have h1 := (hk143 1 rfl).trans h1
        have h10 := (hk143 10 rfl).trans h10
        replace hz := hz.trans hz144
        clear hk143
        refine blockQ.hit ?_
        refine blockQ.n ?_
        refine thenQ.n ?_
        refine W.region ?_
        refine SeqW.consX rfl (StepX.pure (pMove (v := (Value.int .i64 x10)) rfl h10) ?_)
        refine SeqW.consX rfl (StepX.pure (pAdd (k := .i64) (a := x10) (b := 1) rfl rfl rfl) ?_)
        obtain ⟨y147, hy147, hr⟩ := lt_some hr
        refine SeqW.consX rfl (StepX.pure (pAssign rfl (congrArg (Value.int .i64) hy147)) ?_)
        refine SeqW.done fun fr148 hf149 => ?_
        have h0 : fr148 0 = v0 := (congrFun hf149 0).trans h0
        have h1 : fr148 1 = v1 := (congrFun hf149 1).trans h1
        have h10 : fr148 10 = (Value.int .i64 y147) := (congrFun hf149 10).trans rfl
        clear hf149
        refine thenQ.n ?_
        exact ih hz st h0 s0 h1 s1 h10 hr
      · dsimp only at hr
        replace hz := hz.trans hz144
        clear hk143
        refine blockQ.r ?_
        refine blockQ.r ?_
        refine thenQ.r ?_
        refine thenQ.r ?_
        obtain rfl := Option.some.inj hr
        exact ⟨z142, hz, st, .inr ⟨_, rfl, rfl, h6, h7, h8, trivial⟩⟩
    · refine W.condF h51 hc151 ?_
      refine W.exit ?_
      refine thenQ.x ?_
      refine thenQ.x ?_
      obtain rfl := Option.some.inj hr
      exact ⟨z, hz, st, .inl ⟨_, rfl, rfl, trivial⟩⟩

theorem u35_10 {N : Nat}  {z0 z : Nat → Blk} {e m : Mem} {k : Option Nat} {fr : Nat → Value} {x14 : List Int} {x18 : Int} {x19 : Int} {v14 : Value} {x15 : List Int} {v15 : Value} (hz : Zx e.next z0 z) (st : St z e m k) (h14 : fr 14 = v14) (o14 : OwF (TInt 3 .i64) z e m k x14 v14) (h15 : fr 15 = v15) (o15 : OwF (TInt 3 .i64) z e m k x15 v15) (h18 : fr 18 = (Value.int .i64 x18)) (h19 : fr 19 = (Value.int .i64 x19)) (ao14_o15 : Ap (blkOf v14) (blkOf v15)) {r : Bool} (hr : m35_10 N x14 x18 x19 = some r) : W Try.prog (sub (bodyOf Try.f35) [1, 1, 1, 1, 1, 1, 1, 0, 1, 0, 0, 1, 0, 0, 1, 1, 0, 0, 1, 0, 0, 1, 1, 0, 0]) (fun ex fr' m' => ∃ z', Zx e.next z0 z' ∧ St z' e m' k ∧ ex = AExit.normal ∧ fr' 128 = (Value.bool r) ∧ OwF (TInt 3 .i64) z' e m' k x14 v14 ∧ OwF (TInt 3 .i64) z' e m' k x15 v15 ∧ Ap (blkOf v14) (blkOf v15) ∧ True) fr m := by
  unfold m35_10 at hr
  refine W.region ?_
  refine SeqW.consX rfl (StepX.pure (pMove (v := (Value.int .i64 x18)) rfl h18) ?_)
  refine SeqW.consX rfl (StepX.pure (pLss (k := .i64) (a := x18) (b := 0) rfl rfl rfl) ?_)
  refine SeqW.consX rfl (StepX.pure (pMove (v := (Value.bool (decide (x18 < 0)))) rfl rfl) ?_)
  rcases if_some hr with ⟨hc236, hr⟩ | ⟨hc239, hr⟩
  · refine SeqW.skipG rfl rfl rfl hc236 ?_
    refine SeqW.skipG rfl rfl rfl hc236 ?_
    refine SeqW.skipG rfl rfl rfl hc236 ?_
    refine SeqW.skipG rfl rfl rfl hc236 ?_
    refine SeqW.skipG rfl rfl rfl hc236 ?_
    refine SeqW.consX rfl (StepX.pure (pPick (t := true) (v := (Value.bool true)) rfl ((congrArg Value.bool hc236)) rfl) ?_)
    refine SeqW.done fun fr237 hf238 => ?_
    have h14 : fr237 14 = v14 := (congrFun hf238 14).trans h14
    have h15 : fr237 15 = v15 := (congrFun hf238 15).trans h15
    have h18 : fr237 18 = (Value.int .i64 x18) := (congrFun hf238 18).trans h18
    have h19 : fr237 19 = (Value.int .i64 x19) := (congrFun hf238 19).trans h19
    have h128 : fr237 128 = (Value.bool true) := (congrFun hf238 128).trans rfl
    clear hf238
    obtain rfl := Option.some.inj hr
    exact ⟨z, hz, st, rfl, h128, o14, o15, ao14_o15, trivial⟩
  · refine SeqW.consG rfl rfl rfl hc239 (StepX.pure (pMove (v := v14) rfl h14) ?_)
    refine SeqW.consG rfl rfl rfl hc239 (StepX.pure (pMove (v := (Value.int .i64 x19)) rfl h19) ?_)
    obtain ⟨y240, hy240, hr⟩ := bind_some hr
    refine SeqW.consG rfl rfl rfl hc239 (kIdxO (T := (TInt 3 .i64)) (xs := x14) (n := x19) rfl Try.underlying22 Try.type3 rfl rfl rfl o14 hy240 ?_)
    intro b241 l242 c243 cs244 hv245 hd246 hg247 hc248
    have hd2460 := hd246
    obtain rfl := hd2460
    refine SeqW.consG rfl rfl rfl hc239 (kLoad (v := (Value.int .i64 y240)) rfl Try.underlying3 rfl rfl (hc248 0 _ rfl) ?_)
    refine SeqW.consG rfl rfl rfl hc239 (StepX.pure (pLss (k := .i64) (a := y240) (b := 0) rfl rfl rfl) ?_)
    refine SeqW.consX rfl (StepX.pure (pPick (t := false) (v := (Value.bool (decide (y240 < 0)))) rfl ((congrArg Value.bool hc239)) rfl) ?_)
    refine SeqW.done fun fr249 hf250 => ?_
    have h14 : fr249 14 = v14 := (congrFun hf250 14).trans h14
    have h15 : fr249 15 = v15 := (congrFun hf250 15).trans h15
    have h18 : fr249 18 = (Value.int .i64 x18) := (congrFun hf250 18).trans h18
    have h19 : fr249 19 = (Value.int .i64 x19) := (congrFun hf250 19).trans h19
    have h128 : fr249 128 = (Value.bool (decide (y240 < 0))) := (congrFun hf250 128).trans rfl
    clear hf250
    obtain rfl := Option.some.inj hr
    exact ⟨z, hz, st, rfl, h128, o14, o15, ao14_o15, trivial⟩

theorem u35_11 {N : Nat}  {z0 z : Nat → Blk} {e m : Mem} {k : Option Nat} {fr : Nat → Value} {x14 : List Int} {x16 : Int} {x18 : Int} {x19 : Int} {v14 : Value} {x15 : List Int} {v15 : Value} (hz : Zx e.next z0 z) (st : St z e m k) (h14 : fr 14 = v14) (o14 : OwF (TInt 3 .i64) z e m k x14 v14) (h15 : fr 15 = v15) (o15 : OwF (TInt 3 .i64) z e m k x15 v15) (h16 : fr 16 = (Value.int .i64 x16)) (h18 : fr 18 = (Value.int .i64 x18)) (h19 : fr 19 = (Value.int .i64 x19)) (ao14_o15 : Ap (blkOf v14) (blkOf v15)) {r : Bool} (hr : m35_11 N x14 x16 x18 x19 = some r) : W Try.prog (sub (bodyOf Try.f35) [1, 1, 1, 1, 1, 1, 1, 0, 1, 0, 0, 1, 0, 0, 1, 1, 0, 0, 1, 0, 0, 1, 1, 1, 0]) (fun ex fr' m' => ∃ z', Zx e.next z0 z' ∧ St z' e m' k ∧ ex = AExit.normal ∧ fr' 146 = (Value.bool r) ∧ OwF (TInt 3 .i64) z' e m' k x14 v14 ∧ OwF (TInt 3 .i64) z' e m' k x15 v15 ∧ Ap (blkOf v14) (blkOf v15) ∧ True) fr m := by
  unfold m35_11 at hr
  refine W.calm (by decide) ?_
  refine SeqW.consX rfl (StepX.pure (pMove (v := v14) rfl h14) ?_)
  refine SeqW.consX rfl (StepX.pure (pMove (v := (Value.int .i64 x16)) rfl h16) ?_)
  obtain ⟨y263, hy263, hr⟩ := bind_some hr
  refine SeqW.consX rfl (kIdxO (T := (TInt 3 .i64)) (xs := x14) (n := x16) rfl Try.underlying22 Try.type3 rfl rfl rfl o14 hy263 ?_)
  intro b264 l265 c266 cs267 hv268 hd269 hg270 hc271
  have hd2690 := hd269
  obtain rfl := hd2690
  refine SeqW.consX rfl (kLoad (v := (Value.int .i64 y263)) rfl Try.underlying3 rfl rfl (hc271 0 _ rfl) ?_)
  refine SeqW.consX rfl (StepX.pure (pLss (k := .i64) (a := y263) (b := 0) rfl rfl rfl) ?_)
  refine SeqW.consX rfl (StepX.pure (pMove (v := (Value.bool (decide (y263 < 0)))) rfl rfl) ?_)
  rcases if_some hr with ⟨hc272, hr⟩ | ⟨hc275, hr⟩
  · refine SeqW.skipG rfl rfl rfl hc272 ?_
    refine SeqW.skipG rfl rfl rfl hc272 ?_
    refine SeqW.skipG rfl rfl rfl hc272 ?_
    refine SeqW.skipG rfl rfl rfl hc272 ?_
    refine SeqW.skipG rfl rfl rfl hc272 ?_
    refine SeqW.skipG rfl rfl rfl hc272 ?_
    refine SeqW.skipG rfl rfl rfl hc272 ?_
    refine SeqW.skipG rfl rfl rfl hc272 ?_
    refine SeqW.skipG rfl rfl rfl hc272 ?_
    refine SeqW.skipG rfl rfl rfl hc272 ?_
    refine SeqW.skipG rfl rfl rfl hc272 ?_
    refine SeqW.consX rfl (StepX.pure (pPick (t := true) (v := (Value.bool true)) rfl ((congrArg Value.bool hc272)) rfl) ?_)
    refine SeqW.done fun fr273 hf274 => ?_
    have h14 : fr273 14 = v14 := (congrFun hf274 14).trans h14
    have h15 : fr273 15 = v15 := (congrFun hf274 15).trans h15
    have h16 : fr273 16 = (Value.int .i64 x16) := (congrFun hf274 16).trans h16
    have h18 : fr273 18 = (Value.int .i64 x18) := (congrFun hf274 18).trans h18
    have h19 : fr273 19 = (Value.int .i64 x19) := (congrFun hf274 19).trans h19
    have h146 : fr273 146 = (Value.bool true) := (congrFun hf274 146).trans rfl
    clear hf274
    obtain rfl := Option.some.inj hr
    exact ⟨z, hz, st, rfl, h146, o14, o15, ao14_o15, trivial⟩
  · refine SeqW.consG rfl rfl rfl hc275 (StepX.pure (pMove (v := (Value.int .i64 x18)) rfl h18) ?_)
    refine SeqW.consG rfl rfl rfl hc275 (StepX.pure (pMove (v := v14) rfl h14) ?_)
    refine SeqW.consG rfl rfl rfl hc275 (StepX.pure (pMove (v := (Value.int .i64 x19)) rfl h19) ?_)
    obtain ⟨y276, hy276, hr⟩ := bind_some hr
    refine SeqW.consG rfl rfl rfl hc275 (kIdxO (T := (TInt 3 .i64)) (xs := x14) (n := x19) rfl Try.underlying22 Try.type3 rfl rfl rfl o14 hy276 ?_)
    intro b277 l278 c279 cs280 hv281 hd282 hg283 hc284
    have hd2820 := hd282
    obtain rfl := hd2820
    refine SeqW.consG rfl rfl rfl hc275 (kLoad (v := (Value.int .i64 y276)) rfl Try.underlying3 rfl rfl (hc284 0 _ rfl) ?_)
    refine SeqW.consG rfl rfl rfl hc275 (StepX.pure (pAdd (k := .i64) (a := x18) (b := y276) rfl rfl rfl) ?_)
    refine SeqW.consG rfl rfl rfl hc275 (StepX.pure (pMove (v := v14) rfl h14) ?_)
    refine SeqW.consG rfl rfl rfl hc275 (StepX.pure (pMove (v := (Value.int .i64 x16)) rfl h16) ?_)
    obtain ⟨y285, hy285, hr⟩ := bind_some hr
    refine SeqW.consG rfl rfl rfl hc275 (kIdxO (T := (TInt 3 .i64)) (xs := x14) (n := x16) rfl Try.underlying22 Try.type3 rfl rfl rfl o14 hy285 ?_)
    intro b286 l287 c288 cs289 hv290 hd291 hg292 hc293
    have hd2910 := hd291
    obtain rfl := hd2910
    refine SeqW.consG rfl rfl rfl hc275 (kLoad (v := (Value.int .i64 y285)) rfl Try.underlying3 rfl rfl (hc293 0 _ rfl) ?_)
    refine SeqW.consG rfl rfl rfl hc275 (StepX.pure (pLss (k := .i64) (a := (IntKind.wrap .i64 (x18 + y276))) (b := y285) rfl rfl rfl) ?_)
    refine SeqW.consX rfl (StepX.pure (pPick (t := false) (v := (Value.bool (decide ((IntKind.wrap .i64 (x18 + y276)) < y285)))) rfl ((congrArg Value.bool hc275)) rfl) ?_)
    refine SeqW.done fun fr294 hf295 => ?_
    have h14 : fr294 14 = v14 := (congrFun hf295 14).trans h14
    have h15 : fr294 15 = v15 := (congrFun hf295 15).trans h15
    have h16 : fr294 16 = (Value.int .i64 x16) := (congrFun hf295 16).trans h16
    have h18 : fr294 18 = (Value.int .i64 x18) := (congrFun hf295 18).trans h18
    have h19 : fr294 19 = (Value.int .i64 x19) := (congrFun hf295 19).trans h19
    have h146 : fr294 146 = (Value.bool (decide ((IntKind.wrap .i64 (x18 + y276)) < y285))) := (congrFun hf295 146).trans rfl
    clear hf295
    obtain rfl := Option.some.inj hr
    exact ⟨z, hz, st, rfl, h146, o14, o15, ao14_o15, trivial⟩

theorem u35_9 {N : Nat}  {z0 z : Nat → Blk} {e m : Mem} {k : Option Nat} {fr : Nat → Value} {x0 : List Int} {x1 : List (List Int)} {x2 : Int} {x14 : List Int} {x15 : List Int} {x16 : Int} {x17 : Int} {v0 : Value} {v1 : Value} {v14 : Value} {v15 : Value} (hz : Zx e.next z0 z) (st : St z e m k) (h0 : fr 0 = v0) (s0 : SlR (TInt 3 .i64) z x0 v0) (h1 : fr 1 = v1) (s1 : SlR (TSl 22 (TInt 3 .i64)) z x1 v1) (h2 : fr 2 = (Value.int .i64 x2)) (h14 : fr 14 = v14) (o14 : OwF (TInt 3 .i64) z e m k x14 v14) (h15 : fr 15 = v15) (o15 : OwF (TInt 3 .i64) z e m k x15 v15) (h16 : fr 16 = (Value.int .i64 x16)) (h17 : fr 17 = (Value.int .i64 x17)) (ao14_o15 : Ap (blkOf v14) (blkOf v15)) {r : List Int × List Int} (hr : m35_9 N x0 x1 x2 x14 x15 x16 x17 = some r) : W Try.prog (sub (bodyOf Try.f35) [1, 1, 1, 1, 1, 1, 1, 0, 1, 0, 0, 1, 0, 0, 1, 1, 0, 0, 1, 0]) (fun ex fr' m' => ∃ z', Zx e.next z0 z' ∧ St z' e m' k ∧ ex = AExit.normal ∧ fr' 14 = v14 ∧ OwF (TInt 3 .i64) z' e m' k r.1 v14 ∧ fr' 15 = v15 ∧ OwF (TInt 3 .i64) z' e m' k r.2 v15 ∧ Ap (blkOf v14) (blkOf v15) ∧ True) fr m := by
  unfold m35_9 at hr
  refine W.block ?_
  refine W.seq ?_
  refine W.draw ?_
  refine DrawW.cons rfl (StepX.pure (pMove (v := v0) rfl h0) ?_)
  refine ⟨trivial, ?_⟩
  refine DrawW.cons rfl (StepX.pure (pMove (v := (Value.int .i64 x16)) rfl h16) ?_)
  refine ⟨trivial, ?_⟩
  obtain ⟨y205, hy205, hr⟩ := bind_some hr
  refine DrawW.cons rfl (kCut (T := (TInt 3 .i64)) (xs := x0) (a := x16) (b := (x0.length : Int)) rfl Try.underlying22 Try.type3 rfl rfl ⟨_, rfl⟩ rfl s0 st hy205 ?_)
  intro v206 _ hI208 s207
  refine ⟨?_, ?_⟩
  · exact demN
  refine DrawW.cons rfl (StepX.pure (pMove (v := v1) rfl h1) ?_)
  refine ⟨trivial, ?_⟩
  refine DrawW.cons rfl (StepX.pure (pMove (v := (Value.int .i64 x17)) rfl h17) ?_)
  refine ⟨trivial, ?_⟩
  obtain ⟨y210, hy210, hr⟩ := bind_some hr
  refine DrawW.cons rfl (kIdxR (T := (TSl 22 (TInt 3 .i64))) (xs := x1) (n := x17) rfl Try.underlying23 Try.type22 rfl rfl rfl s1 hy210 ?_)
  intro b211 f212 cs213 hd214 hc215
  obtain ⟨v216, rfl, s217⟩ := hd214
  refine ⟨trivial, ?_⟩
  refine DrawW.cons rfl (kLoad (v := v216) rfl Try.underlying22 rfl rfl (ldz_load st.fz (hc215 0 _ rfl)) ?_)
  refine ⟨?_, ?_⟩
  · exact demN
  refine DrawW.cons rfl (StepX.pure (pMove (v := (Value.int .i64 x2)) rfl h2) ?_)
  refine ⟨trivial, ?_⟩
  have old219 := o14
  have old220 := o15
  obtain ⟨y221, hy221, hr⟩ := bind_some hr
  refine DrawW.cons rfl (StepX.call (gCallee rfl rfl (args3 rfl rfl rfl)) ((c46 (z := z) st.fz st.dead s207 s217 hy221).mono ?_))
  rintro _ _ ⟨rfl, rfl⟩
  refine ⟨⟨?_, ?_⟩, ?_⟩
  · first | refine demP (gLoad (v := v216) rfl Try.underlying22 rfl rfl (ldz_load st.fz (hc215 0 _ rfl))) ?_ | refine demA (by decide) ?_
    first | refine demP (hI208 _ st.fz) ?_ | refine demA (by decide) ?_
    exact demN
  · exact demN
  refine DrawW.cons rfl (StepX.pure (pAssign (v := (Value.int .i64 y221)) rfl rfl) ?_)
  refine ⟨trivial, ?_⟩
  refine DrawW.done fun fr222 hf223 => ?_
  have h0 : fr222 0 = v0 := (congrFun hf223 0).trans h0
  have h1 : fr222 1 = v1 := (congrFun hf223 1).trans h1
  have h2 : fr222 2 = (Value.int .i64 x2) := (congrFun hf223 2).trans h2
  have h14 : fr222 14 = v14 := (congrFun hf223 14).trans h14
  have h15 : fr222 15 = v15 := (congrFun hf223 15).trans h15
  have h16 : fr222 16 = (Value.int .i64 x16) := (congrFun hf223 16).trans h16
  have h17 : fr222 17 = (Value.int .i64 x17) := (congrFun hf223 17).trans h17
  have h18 : fr222 18 = (Value.int .i64 y221) := (congrFun hf223 18).trans rfl
  clear hf223
  refine thenQ.n ?_
  refine W.seq ?_
  refine W.region ?_
  refine SeqW.consX rfl (StepX.pure (pMove (v := (Value.int .i64 x16)) rfl h16) ?_)
  refine SeqW.consX rfl (StepX.pure (pMove (v := v1) rfl h1) ?_)
  refine SeqW.consX rfl (StepX.pure (pMove (v := (Value.int .i64 x17)) rfl h17) ?_)
  obtain ⟨y224, hy224, hr⟩ := bind_some hr
  refine SeqW.consX rfl (kIdxR (T := (TSl 22 (TInt 3 .i64))) (xs := x1) (n := x17) rfl Try.underlying23 Try.type22 rfl rfl rfl s1 hy224 ?_)
  intro b225 f226 cs227 hd228 hc229
  obtain ⟨v230, rfl, s231⟩ := hd228
  refine SeqW.consX rfl (kLoad (v := v230) rfl Try.underlying22 rfl rfl (ldz_load st.fz (hc229 0 _ rfl)) ?_)
  refine SeqW.consX rfl (StepX.pure (pLenR (xs := y224) rfl Try.underlying22 rfl s231) ?_)
  refine SeqW.consX rfl (StepX.pure (pAdd (k := .i64) (a := x16) (b := (y224.length : Int)) rfl rfl rfl) ?_)
  refine SeqW.consX rfl (StepX.pure (pAdd (k := .i64) (a := (IntKind.wrap .i64 (x16 + (y224.length : Int)))) (b := 1) rfl rfl rfl) ?_)
  obtain ⟨y233, hy233, hr⟩ := lt_some hr
  refine SeqW.consX rfl (StepX.pure (pAssign rfl (congrArg (Value.int .i64) hy233)) ?_)
  refine SeqW.done fun fr234 hf235 => ?_
  have h0 : fr234 0 = v0 := (congrFun hf235 0).trans h0
  have h1 : fr234 1 = v1 := (congrFun hf235 1).trans h1
  have h2 : fr234 2 = (Value.int .i64 x2) := (congrFun hf235 2).trans h2
  have h14 : fr234 14 = v14 := (congrFun hf235 14).trans h14
  have h15 : fr234 15 = v15 := (congrFun hf235 15).trans h15
  have h16 : fr234 16 = (Value.int .i64 x16) := (congrFun hf235 16).trans h16
  have h17 : fr234 17 = (Value.int .i64 x17) := (congrFun hf235 17).trans h17
  have h18 : fr234 18 = (Value.int .i64 y221) := (congrFun hf235 18).trans h18
  have h19 : fr234 19 = (Value.int .i64 y233) := (congrFun hf235 19).trans rfl
  clear hf235
  refine thenQ.n ?_
  refine W.seq ?_
  refine W.seq ?_
  obtain ⟨y251, hy251, hr⟩ := bind_some hr
  refine W.keep (u35_10 (Zx.refl _) st h14 o14 h15 o15 h18 h19 ao14_o15 hy251) ?_
  rintro ex257 fr252 m253 hk255 ⟨z254, hz256, st, rfl, h128, o258, o259, a260, -⟩
  replace s0 := s0.mono hz256.le
  replace s1 := s1.mono hz256.le
  have h0 := (hk255 0 rfl).trans h0
  have h1 := (hk255 1 rfl).trans h1
  have h2 := (hk255 2 rfl).trans h2
  have h14 := (hk255 14 rfl).trans h14
  have h15 := (hk255 15 rfl).trans h15
  have h16 := (hk255 16 rfl).trans h16
  have h17 := (hk255 17 rfl).trans h17
  have h18 := (hk255 18 rfl).trans h18
  have h19 := (hk255 19 rfl).trans h19
  replace hz := hz.trans hz256
  clear hk255
  refine thenQ.n ?_
  rcases if_some hr with ⟨hc261, hr⟩ | ⟨hc262, hr⟩
  · refine W.condT h128 hc261 ?_
    refine W.exit ?_
    refine thenQ.x ?_
    refine blockQ.hit ?_
    obtain rfl := Option.some.inj hr
    exact ⟨z254, hz, st, rfl, h14, o258, h15, o259, a260, trivial⟩
  · refine W.condF h128 hc262 ?_
    refine W.skip ?_
    refine thenQ.n ?_
    refine W.seq ?_
    obtain ⟨y296, hy296, hr⟩ := bind_some hr
    refine W.keep (u35_11 (Zx.refl _) st h14 o258 h15 o259 h16 h18 h19 a260 hy296) ?_
    rintro ex302 fr297 m298 hk300 ⟨z299, hz301, st, rfl, h146, o303, o304, a305, -⟩
    replace s0 := s0.mono hz301.le
    replace s1 := s1.mono hz301.le
    have h0 := (hk300 0 rfl).trans h0
    have h1 := (hk300 1 rfl).trans h1
    have h2 := (hk300 2 rfl).trans h2
    have h14 := (hk300 14 rfl).trans h14
    have h15 := (hk300 15 rfl).trans h15
    have h16 := (hk300 16 rfl).trans h16
    have h17 := (hk300 17 rfl).trans h17
    have h18 := (hk300 18 rfl).trans h18
    have h19 := (hk300 19 rfl).trans h19
    replace hz := hz.trans hz301
    clear hk300
    refine thenQ.n ?_
    rcases if_some hr with ⟨hc306, hr⟩ | ⟨hc342, hr⟩
    · refine W.condT h146 hc306 ?_
      refine W.region ?_
      refine SeqW.consX rfl (StepX.pure (pMove (v := v14) rfl h14) ?_)
      refine SeqW.consX rfl (StepX.pure (pMove (v := (Value.int .i64 x16)) rfl h16) ?_)
      refine SeqW.consX rfl (StepX.pure (pMove (v := v15) rfl h15) ?_)
      refine SeqW.consX rfl (StepX.pure (pMove (v := (Value.int .i64 x16)) rfl h16) ?_)
      refine SeqW.consX rfl (StepX.pure (pMove (v := (Value.int .i64 y221)) rfl h18) ?_)
      refine SeqW.consX rfl (StepX.pure (pMove (v := v14) rfl h14) ?_)
      refine SeqW.consX rfl (StepX.pure (pMove (v := (Value.int .i64 y233)) rfl h19) ?_)
      obtain ⟨y307, hy307, hr⟩ := bind_some hr
      refine SeqW.consX rfl (kIdxO (T := (TInt 3 .i64)) (xs := x14) (n := y233) rfl Try.underlying22 Try.type3 rfl rfl rfl o303 hy307 ?_)
      intro b308 l309 c310 cs311 hv312 hd313 hg314 hc315
      have hd3130 := hd313
      obtain rfl := hd3130
      refine SeqW.consX rfl (kLoad (v := (Value.int .i64 y307)) rfl Try.underlying3 rfl rfl (hc315 0 _ rfl) ?_)
      refine SeqW.consX rfl (StepX.pure (pAdd (k := .i64) (a := y221) (b := y307) rfl rfl rfl) ?_)
      refine SeqW.consX rfl (StepX.pure (pMove (v := (Value.int .i64 x17)) rfl h17) ?_)
      obtain ⟨y316, hy316, hr⟩ := bind_some hr
      refine SeqW.consX rfl (kIdxO (T := (TInt 3 .i64)) (xs := x14) (n := x16) rfl Try.underlying22 Try.type3 rfl rfl rfl o303 hy316 ?_)
      intro b317 l318 c319 cs320 hv321 hd322 hg323 hc324
      have hd3220 := hd322
      obtain rfl := hd3220
      refine SeqW.consX rfl (kSet (T := (TInt 3 .i64)) (off := (x16 : Int).toNat * ((TInt 3 .i64)).sz) (n := (x16 : Int).toNat) (f := 0) (w := (Value.int .i64 (IntKind.wrap .i64 (y221 + y307)))) (new := [(Value.int .i64 (IntKind.wrap .i64 (y221 + y307)))]) (ecs := [(Value.int .i64 y316)]) (ecs' := [(Value.int .i64 (IntKind.wrap .i64 (y221 + y307)))]) (a := y316) (a' := (IntKind.wrap .i64 (y221 + y307))) rfl Try.type3 rfl rfl rfl rfl rfl rfl o303 hv321 hg323 hd322 hc324 rfl rfl rfl st ?_)
      intro m325 st o303 sm326
      obtain ⟨y327, hy327, hr⟩ := lt_some hr
      rw [hy327] at o303
      replace o304 := o304.same sm326 (Ap.symm a305)
      obtain ⟨y328, hy328, hr⟩ := bind_some hr
      refine SeqW.consX rfl (kIdxO (T := (TInt 3 .i64)) (xs := x15) (n := x16) rfl Try.underlying22 Try.type3 rfl rfl rfl o304 hy328 ?_)
      intro b329 l330 c331 cs332 hv333 hd334 hg335 hc336
      have hd3340 := hd334
      obtain rfl := hd3340
      refine SeqW.consX rfl (kSet (T := (TInt 3 .i64)) (off := (x16 : Int).toNat * ((TInt 3 .i64)).sz) (n := (x16 : Int).toNat) (f := 0) (w := (Value.int .i64 x17)) (new := [(Value.int .i64 x17)]) (ecs := [(Value.int .i64 y328)]) (ecs' := [(Value.int .i64 x17)]) (a := y328) (a' := x17) rfl Try.type3 rfl rfl rfl rfl rfl rfl o304 hv333 hg335 hd334 hc336 rfl rfl rfl st ?_)
      intro m337 st o304 sm338
      obtain ⟨y339, hy339, hr⟩ := lt_some hr
      rw [hy339] at o304
      replace o303 := o303.same sm338 a305
      refine SeqW.done fun fr340 hf341 => ?_
      have h0 : fr340 0 = v0 := (congrFun hf341 0).trans h0
      have h1 : fr340 1 = v1 := (congrFun hf341 1).trans h1
      have h2 : fr340 2 = (Value.int .i64 x2) := (congrFun hf341 2).trans h2
      have h14 : fr340 14 = v14 := (congrFun hf341 14).trans h14
      have h15 : fr340 15 = v15 := (congrFun hf341 15).trans h15
      have h16 : fr340 16 = (Value.int .i64 x16) := (congrFun hf341 16).trans h16
      have h17 : fr340 17 = (Value.int .i64 x17) := (congrFun hf341 17).trans h17
      clear hf341
      refine blockQ.n ?_
      obtain rfl := Option.some.inj hr
      exact ⟨z299, hz, st, rfl, h14, o303, h15, o304, a305, trivial⟩
    · refine W.condF h146 hc342 ?_
      refine W.skip ?_
      refine blockQ.n ?_
      obtain rfl := Option.some.inj hr
      exact ⟨z299, hz, st, rfl, h14, o303, h15, o304, a305, trivial⟩

theorem u35_8 : ∀ (n : Nat) {N : Nat}  {z0 z : Nat → Blk} {e m : Mem} {k : Option Nat} {fr : Nat → Value} {x0 : List Int} {x1 : List (List Int)} {x2 : Int} {x14 : List Int} {x15 : List Int} {x16 : Int} {x17 : Int} {v0 : Value} {v1 : Value} {v14 : Value} {v15 : Value} (hz : Zx e.next z0 z) (st : St z e m k) (h0 : fr 0 = v0) (s0 : SlR (TInt 3 .i64) z x0 v0) (h1 : fr 1 = v1) (s1 : SlR (TSl 22 (TInt 3 .i64)) z x1 v1) (h2 : fr 2 = (Value.int .i64 x2)) (h14 : fr 14 = v14) (o14 : OwF (TInt 3 .i64) z e m k x14 v14) (h15 : fr 15 = v15) (o15 : OwF (TInt 3 .i64) z e m k x15 v15) (h16 : fr 16 = (Value.int .i64 x16)) (h17 : fr 17 = (Value.int .i64 x17)) (ao14_o15 : Ap (blkOf v14) (blkOf v15)) {r : List Int × List Int} (hr : m35_8 N x0 x1 x2 x16 n x14 x15 x17 = some r), W Try.prog (sub (bodyOf Try.f35) [1, 1, 1, 1, 1, 1, 1, 0, 1, 0, 0, 1, 0, 0, 1, 1, 0]) (fun ex fr' m' => ∃ z', Zx e.next z0 z' ∧ St z' e m' k ∧ ex = AExit.exit 8 ∧ fr' 14 = v14 ∧ OwF (TInt 3 .i64) z' e m' k r.1 v14 ∧ fr' 15 = v15 ∧ OwF (TInt 3 .i64) z' e m' k r.2 v15 ∧ Ap (blkOf v14) (blkOf v15) ∧ True) fr m := by
  intro n
  induction n with
  | zero => intro N z0 z e m k fr x0 x1 x2 x14 x15 x16 x17 v0 v1 v14 v15 hz st h0 s0 h1 s1 h2 h14 o14 h15 o15 h16 h17 ao14_o15 r hr; cases (show (none : Option _) = some r from hr)
  | succ n ih =>
    intro N z0 z e m k fr x0 x1 x2 x14 x15 x16 x17 v0 v1 v14 v15 hz st h0 s0 h1 s1 h2 h14 o14 h15 o15 h16 h17 ao14_o15 r hr
    unfold m35_8 at hr
    refine W.loop1 ?_
    refine W.seq ?_
    refine W.seq ?_
    refine W.region ?_
    refine SeqW.consX rfl (StepX.pure (pMove (v := (Value.int .i64 x17)) rfl h17) ?_)
    refine SeqW.consX rfl (StepX.pure (pMove (v := v1) rfl h1) ?_)
    refine SeqW.consX rfl (StepX.pure (pLenR (xs := x1) rfl Try.underlying23 rfl s1) ?_)
    refine SeqW.consX rfl (StepX.pure (pLss (k := .i64) (a := x17) (b := (x1.length : Int)) rfl rfl rfl) ?_)
    refine SeqW.done fun fr202 hf203 => ?_
    have h0 : fr202 0 = v0 := (congrFun hf203 0).trans h0
    have h1 : fr202 1 = v1 := (congrFun hf203 1).trans h1
    have h2 : fr202 2 = (Value.int .i64 x2) := (congrFun hf203 2).trans h2
    have h14 : fr202 14 = v14 := (congrFun hf203 14).trans h14
    have h15 : fr202 15 = v15 := (congrFun hf203 15).trans h15
    have h16 : fr202 16 = (Value.int .i64 x16) := (congrFun hf203 16).trans h16
    have h17 : fr202 17 = (Value.int .i64 x17) := (congrFun hf203 17).trans h17
    have h100 : fr202 100 = (Value.bool (decide (x17 < (x1.length : Int)))) := (congrFun hf203 100).trans rfl
    clear hf203
    refine thenQ.n ?_
    rcases if_some hr with ⟨hc204, hr⟩ | ⟨hc358, hr⟩
    · refine W.condT h100 hc204 ?_
      refine W.skip ?_
      refine thenQ.n ?_
      refine W.seq ?_
      obtain ⟨y343, hy343, hr⟩ := bind_some hr
      refine W.keep (u35_9 (Zx.refl _) st h0 s0 h1 s1 h2 h14 o14 h15 o15 h16 h17 ao14_o15 hy343) ?_
      rintro ex349 fr344 m345 hk347 ⟨z346, hz348, st, rfl, h14, o351, h15, o353, a354, -⟩
      replace s0 := s0.mono hz348.le
      replace s1 := s1.mono hz348.le
      have h0 := (hk347 0 rfl).trans h0
      have h1 := (hk347 1 rfl).trans h1
      have h2 := (hk347 2 rfl).trans h2
      have h16 := (hk347 16 rfl).trans h16
      have h17 := (hk347 17 rfl).trans h17
      replace hz := hz.trans hz348
      clear hk347
      refine thenQ.n ?_
      refine W.region ?_
      refine SeqW.consX rfl (StepX.pure (pMove (v := (Value.int .i64 x17)) rfl h17) ?_)
      refine SeqW.consX rfl (StepX.pure (pAdd (k := .i64) (a := x17) (b := 1) rfl rfl rfl) ?_)
      obtain ⟨y355, hy355, hr⟩ := lt_some hr
      refine SeqW.consX rfl (StepX.pure (pAssign rfl (congrArg (Value.int .i64) hy355)) ?_)
      refine SeqW.done fun fr356 hf357 => ?_
      have h0 : fr356 0 = v0 := (congrFun hf357 0).trans h0
      have h1 : fr356 1 = v1 := (congrFun hf357 1).trans h1
      have h2 : fr356 2 = (Value.int .i64 x2) := (congrFun hf357 2).trans h2
      have h14 : fr356 14 = v14 := (congrFun hf357 14).trans h14
      have h15 : fr356 15 = v15 := (congrFun hf357 15).trans h15
      have h16 : fr356 16 = (Value.int .i64 x16) := (congrFun hf357 16).trans h16
      have h17 : fr356 17 = (Value.int .i64 y355) := (congrFun hf357 17).trans rfl
      clear hf357
      refine thenQ.n ?_
      exact ih hz st h0 s0 h1 s1 h2 h14 o351 h15 o353 h16 h17 a354 hr
    · refine W.condF h100 hc358 ?_
      refine W.exit ?_
      refine thenQ.x ?_
      refine thenQ.x ?_
      obtain rfl := Option.some.inj hr
      exact ⟨z, hz, st, rfl, h14, o14, h15, o15, ao14_o15, trivial⟩

theorem u35_7 : ∀ (n : Nat) {N : Nat}  {z0 z : Nat → Blk} {e m : Mem} {k : Option Nat} {fr : Nat → Value} {x0 : List Int} {x1 : List (List Int)} {x2 : Int} {x14 : List Int} {x15 : List Int} {x16 : Int} {v0 : Value} {v1 : Value} {v14 : Value} {v15 : Value} (hz : Zx e.next z0 z) (st : St z e m k) (h0 : fr 0 = v0) (s0 : SlR (TInt 3 .i64) z x0 v0) (h1 : fr 1 = v1) (s1 : SlR (TSl 22 (TInt 3 .i64)) z x1 v1) (h2 : fr 2 = (Value.int .i64 x2)) (h14 : fr 14 = v14) (o14 : OwF (TInt 3 .i64) z e m k x14 v14) (h15 : fr 15 = v15) (o15 : OwF (TInt 3 .i64) z e m k x15 v15) (h16 : fr 16 = (Value.int .i64 x16)) (ao14_o15 : Ap (blkOf v14) (blkOf v15)) {r : List Int × List Int} (hr : m35_7 N x0 x1 x2 n x14 x15 x16 = some r), W Try.prog (sub (bodyOf Try.f35) [1, 1, 1, 1, 1, 1, 1, 0, 1, 0]) (fun ex fr' m' => ∃ z', Zx e.next z0 z' ∧ St z' e m' k ∧ ex = AExit.exit 6 ∧ fr' 14 = v14 ∧ OwF (TInt 3 .i64) z' e m' k r.1 v14 ∧ fr' 15 = v15 ∧ OwF (TInt 3 .i64) z' e m' k r.2 v15 ∧ Ap (blkOf v14) (blkOf v15) ∧ True) fr m := by
  intro n
  induction n with
  | zero => intro N z0 z e m k fr x0 x1 x2 x14 x15 x16 v0 v1 v14 v15 hz st h0 s0 h1 s1 h2 h14 o14 h15 o15 h16 ao14_o15 r hr; cases (show (none : Option _) = some r from hr)
  | succ n ih =>
    intro N z0 z e m k fr x0 x1 x2 x14 x15 x16 v0 v1 v14 v15 hz st h0 s0 h1 s1 h2 h14 o14 h15 o15 h16 ao14_o15 r hr
    unfold m35_7 at hr
    refine W.loop1 ?_
    refine W.seq ?_
    refine W.seq ?_
    refine W.region ?_
    refine SeqW.consX rfl (StepX.pure (pMove (v := (Value.int .i64 x16)) rfl h16) ?_)
    refine SeqW.consX rfl (StepX.pure (pGeq (k := .i64) (a := x16) (b := 0) rfl rfl rfl) ?_)
    refine SeqW.done fun fr183 hf184 => ?_
    have h0 : fr183 0 = v0 := (congrFun hf184 0).trans h0
    have h1 : fr183 1 = v1 := (congrFun hf184 1).trans h1
    have h2 : fr183 2 = (Value.int .i64 x2) := (congrFun hf184 2).trans h2
    have h14 : fr183 14 = v14 := (congrFun hf184 14).trans h14
    have h15 : fr183 15 = v15 := (congrFun hf184 15).trans h15
    have h16 : fr183 16 = (Value.int .i64 x16) := (congrFun hf184 16).trans h16
    have h91 : fr183 91 = (Value.bool (decide (0 ≤ x16))) := (congrFun hf184 91).trans rfl
    clear hf184
    refine thenQ.n ?_
    rcases if_some hr with ⟨hc185, hr⟩ | ⟨hc374, hr⟩
    · refine W.condT h91 hc185 ?_
      refine W.skip ?_
      refine thenQ.n ?_
      refine W.seq ?_
      refine W.block ?_
      refine W.seq ?_
      refine W.region ?_
      refine SeqW.consX rfl (StepX.pure (pMove (v := v14) rfl h14) ?_)
      refine SeqW.consX rfl (StepX.pure (pMove (v := (Value.int .i64 x16)) rfl h16) ?_)
      obtain ⟨y186, hy186, hr⟩ := bind_some hr
      refine SeqW.consX rfl (kIdxO (T := (TInt 3 .i64)) (xs := x14) (n := x16) rfl Try.underlying22 Try.type3 rfl rfl rfl o14 hy186 ?_)
      intro b187 l188 c189 cs190 hv191 hd192 hg193 hc194
      have hd1920 := hd192
      obtain rfl := hd1920
      refine SeqW.consX rfl (kSet (T := (TInt 3 .i64)) (off := (x16 : Int).toNat * ((TInt 3 .i64)).sz) (n := (x16 : Int).toNat) (f := 0) (w := (Value.int .i64 (-1))) (new := [(Value.int .i64 (-1))]) (ecs := [(Value.int .i64 y186)]) (ecs' := [(Value.int .i64 (-1))]) (a := y186) (a' := (-1)) rfl Try.type3 rfl rfl rfl rfl rfl rfl o14 hv191 hg193 hd192 hc194 rfl rfl rfl st ?_)
      intro m195 st o14 sm196
      obtain ⟨y197, hy197, hr⟩ := lt_some hr
      rw [hy197] at o14
      replace o15 := o15.same sm196 (Ap.symm ao14_o15)
      refine SeqW.done fun fr198 hf199 => ?_
      have h0 : fr198 0 = v0 := (congrFun hf199 0).trans h0
      have h1 : fr198 1 = v1 := (congrFun hf199 1).trans h1
      have h2 : fr198 2 = (Value.int .i64 x2) := (congrFun hf199 2).trans h2
      have h14 : fr198 14 = v14 := (congrFun hf199 14).trans h14
      have h15 : fr198 15 = v15 := (congrFun hf199 15).trans h15
      have h16 : fr198 16 = (Value.int .i64 x16) := (congrFun hf199 16).trans h16
      clear hf199
      refine thenQ.n ?_
      refine W.seq ?_
      refine W.region ?_
      refine SeqW.consX rfl (StepX.pure (pAssign (v := (Value.int .i64 0)) rfl rfl) ?_)
      refine SeqW.done fun fr200 hf201 => ?_
      have h0 : fr200 0 = v0 := (congrFun hf201 0).trans h0
      have h1 : fr200 1 = v1 := (congrFun hf201 1).trans h1
      have h2 : fr200 2 = (Value.int .i64 x2) := (congrFun hf201 2).trans h2
      have h14 : fr200 14 = v14 := (congrFun hf201 14).trans h14
      have h15 : fr200 15 = v15 := (congrFun hf201 15).trans h15
      have h16 : fr200 16 = (Value.int .i64 x16) := (congrFun hf201 16).trans h16
      have h17 : fr200 17 = (Value.int .i64 0) := (congrFun hf201 17).trans rfl
      clear hf201
      refine thenQ.n ?_
      refine W.block ?_
      obtain ⟨y359, hy359, hr⟩ := bind_some hr
      refine W.keep (u35_8 _ (Zx.refl _) st h0 s0 h1 s1 h2 h14 o14 h15 o15 h16 h17 ao14_o15 hy359) ?_
      rintro ex365 fr360 m361 hk363 ⟨z362, hz364, st, rfl, h14, o367, h15, o369, a370, -⟩
      replace s0 := s0.mono hz364.le
      replace s1 := s1.mono hz364.le
      have h0 := (hk363 0 rfl).trans h0
      have h1 := (hk363 1 rfl).trans h1
      have h2 := (hk363 2 rfl).trans h2
      have h16 := (hk363 16 rfl).trans h16
      replace hz := hz.trans hz364
      clear hk363
      refine blockQ.hit ?_
      refine blockQ.n ?_
      refine thenQ.n ?_
      refine W.region ?_
      refine SeqW.consX rfl (StepX.pure (pMove (v := (Value.int .i64 x16)) rfl h16) ?_)
      refine SeqW.consX rfl (StepX.pure (pSub (k := .i64) (a := x16) (b := 1) rfl rfl rfl) ?_)
      obtain ⟨y371, hy371, hr⟩ := lt_some hr
      refine SeqW.consX rfl (StepX.pure (pAssign rfl (congrArg (Value.int .i64) hy371)) ?_)
      refine SeqW.done fun fr372 hf373 => ?_
      have h0 : fr372 0 = v0 := (congrFun hf373 0).trans h0
      have h1 : fr372 1 = v1 := (congrFun hf373 1).trans h1
      have h2 : fr372 2 = (Value.int .i64 x2) := (congrFun hf373 2).trans h2
      have h14 : fr372 14 = v14 := (congrFun hf373 14).trans h14
      have h15 : fr372 15 = v15 := (congrFun hf373 15).trans h15
      have h16 : fr372 16 = (Value.int .i64 y371) := (congrFun hf373 16).trans rfl
      clear hf373
      refine thenQ.n ?_
      exact ih hz st h0 s0 h1 s1 h2 h14 o367 h15 o369 h16 a370 hr
    · refine W.condF h91 hc374 ?_
      refine W.exit ?_
      refine thenQ.x ?_
      refine thenQ.x ?_
      obtain rfl := Option.some.inj hr
      exact ⟨z, hz, st, rfl, h14, o14, h15, o15, ao14_o15, trivial⟩

theorem u35_12 : ∀ (n : Nat) {N : Nat}  {z0 z : Nat → Blk} {e m : Mem} {k : Option Nat} {fr : Nat → Value} {x1 : List (List Int)} {x13 : Int} {x15 : List Int} {x20 : List Int} {x21 : Int} {v1 : Value} {x14 : List Int} {v14 : Value} {v15 : Value} {v20 : Value} (hz : Zx e.next z0 z) (st : St z e m k) (h1 : fr 1 = v1) (s1 : SlR (TSl 22 (TInt 3 .i64)) z x1 v1) (h13 : fr 13 = (Value.int .i64 x13)) (h14 : fr 14 = v14) (o14 : OwF (TInt 3 .i64) z e m k x14 v14) (h15 : fr 15 = v15) (o15 : OwF (TInt 3 .i64) z e m k x15 v15) (h20 : fr 20 = v20) (o20 : OwF (TInt 3 .i64) z e m k x20 v20) (h21 : fr 21 = (Value.int .i64 x21)) (ao14_o15 : Ap (blkOf v14) (blkOf v15)) (ao14_o20 : Ap (blkOf v14) (blkOf v20)) (ao15_o20 : Ap (blkOf v15) (blkOf v20)) {r : List Int} (hr : m35_12 N x1 x13 x15 n x20 x21 = some r), W Try.prog (sub (bodyOf Try.f35) [1, 1, 1, 1, 1, 1, 1, 1, 1, 1, 0, 1, 0]) (fun ex fr' m' => ∃ z', Zx e.next z0 z' ∧ St z' e m' k ∧ ex = AExit.exit 10 ∧ ∃ (w20 : Value), fr' 20 = w20 ∧ OwF (TInt 3 .i64) z' e m' k r w20 ∧ OwF (TInt 3 .i64) z' e m' k x14 v14 ∧ Ap (blkOf w20) (blkOf v14) ∧ True) fr m := by
  intro n
  induction n with
  | zero => intro N z0 z e m k fr x1 x13 x15 x20 x21 v1 x14 v14 v15 v20 hz st h1 s1 h13 h14 o14 h15 o15 h20 o20 h21 ao14_o15 ao14_o20 ao15_o20 r hr; cases (show (none : Option _) = some r from hr)
  | succ n ih =>
    intro N z0 z e m k fr x1 x13 x15 x20 x21 v1 x14 v14 v15 v20 hz st h1 s1 h13 h14 o14 h15 o15 h20 o20 h21 ao14_o15 ao14_o20 ao15_o20 r hr
    unfold m35_12 at hr
    refine W.loop1 ?_
    refine W.seq ?_
    refine W.seq ?_
    refine W.region ?_
    refine SeqW.consX rfl (StepX.pure (pMove (v := (Value.int .i64 x21)) rfl h21) ?_)
    refine SeqW.consX rfl (StepX.pure (pMove (v := (Value.int .i64 x13)) rfl h13) ?_)
    refine SeqW.consX rfl (StepX.pure (pLss (k := .i64) (a := x21) (b := x13) rfl rfl rfl) ?_)
    refine SeqW.done fun fr406 hf407 => ?_
    have h1 : fr406 1 = v1 := (congrFun hf407 1).trans h1
    have h13 : fr406 13 = (Value.int .i64 x13) := (congrFun hf407 13).trans h13
    have h14 : fr406 14 = v14 := (congrFun hf407 14).trans h14
    have h15 : fr406 15 = v15 := (congrFun hf407 15).trans h15
    have h20 : fr406 20 = v20 := (congrFun hf407 20).trans h20
    have h21 : fr406 21 = (Value.int .i64 x21) := (congrFun hf407 21).trans h21
    have h166 : fr406 166 = (Value.bool (decide (x21 < x13))) := (congrFun hf407 166).trans rfl
    clear hf407
    refine thenQ.n ?_
    rcases if_some hr with ⟨hc408, hr⟩ | ⟨hc460, hr⟩
    · refine W.condT h166 hc408 ?_
      refine W.skip ?_
      refine thenQ.n ?_
      refine W.seq ?_
      refine W.block ?_
      refine W.region ?_
      refine SeqW.consX rfl (StepX.pure (pMove (v := v20) rfl h20) ?_)
      refine SeqW.consX rfl (StepX.pure (pMove (v := v15) rfl h15) ?_)
      refine SeqW.consX rfl (StepX.pure (pMove (v := (Value.int .i64 x21)) rfl h21) ?_)
      obtain ⟨y409, hy409, hr⟩ := bind_some hr
      refine SeqW.consX rfl (kIdxO (T := (TInt 3 .i64)) (xs := x15) (n := x21) rfl Try.underlying22 Try.type3 rfl rfl rfl o15 hy409 ?_)
      intro b410 l411 c412 cs413 hv414 hd415 hg416 hc417
      have hd4150 := hd415
      obtain rfl := hd4150
      refine SeqW.consX rfl (kLoad (v := (Value.int .i64 y409)) rfl Try.underlying3 rfl rfl (hc417 0 _ rfl) ?_)
      refine SeqW.consX rfl (kBuild (T := (TInt 3 .i64)) rfl Try.underlying22 Try.type3 rfl rfl rfl rfl ([y409] : List Int) [[(Value.int .i64 y409)]] rfl rfl rfl (BuildOk.mk (w := (Value.int .i64 y409)) rfl rfl rfl rfl trivial) st ?_)
      intro v418 m419 st o420 sm421 hap422
      have a424 := hap422 _ o14.lt
      have a425 := hap422 _ o15.lt
      have a426 := hap422 _ o20.lt
      replace o14 := o14.same sm421 Ap.none'
      replace o15 := o15.same sm421 Ap.none'
      replace o20 := o20.same sm421 Ap.none'
      obtain ⟨y427, hy427, hr⟩ := bind_some hr
      refine SeqW.consX rfl (kAppend (T := (TInt 3 .i64)) (xs := x20) (ys := ([y409] : List Int)) rfl Try.underlying22 Try.type3 rfl rfl rfl rfl rfl rfl (.inl ⟨_, Try.underlying22⟩) rfl o20 rfl o420.ow.src st hy427 ?_)
      intro v428 m429 st o430 sm431 hap432
      have a434 := hap432 _ o14.lt ao14_o20
      have a435 := hap432 _ o15.lt ao15_o20
      have a436 := hap432 _ o420.lt (Ap.symm a426)
      replace o14 := o14.same sm431 ao14_o20
      replace o15 := o15.same sm431 ao15_o20
      replace o420 := o420.same sm431 (Ap.symm a426)
      refine SeqW.consX rfl (StepX.pure (pAssign (v := v428) rfl rfl) ?_)
      refine SeqW.done fun fr437 hf438 => ?_
      have h1 : fr437 1 = v1 := (congrFun hf438 1).trans h1
      have h13 : fr437 13 = (Value.int .i64 x13) := (congrFun hf438 13).trans h13
      have h14 : fr437 14 = v14 := (congrFun hf438 14).trans h14
      have h15 : fr437 15 = v15 := (congrFun hf438 15).trans h15
      have h20 : fr437 20 = v428 := (congrFun hf438 20).trans rfl
      have h21 : fr437 21 = (Value.int .i64 x21) := (congrFun hf438 21).trans h21
      clear hf438
      refine blockQ.n ?_
      refine thenQ.n ?_
      refine W.region ?_
      refine SeqW.consX rfl (StepX.pure (pMove (v := (Value.int .i64 x21)) rfl h21) ?_)
      refine SeqW.consX rfl (StepX.pure (pMove (v := v1) rfl h1) ?_)
      refine SeqW.consX rfl (StepX.pure (pMove (v := v15) rfl h15) ?_)
      refine SeqW.consX rfl (StepX.pure (pMove (v := (Value.int .i64 x21)) rfl h21) ?_)
      obtain ⟨y439, hy439, hr⟩ := bind_some hr
      refine SeqW.consX rfl (kIdxO (T := (TInt 3 .i64)) (xs := x15) (n := x21) rfl Try.underlying22 Try.type3 rfl rfl rfl o15 hy439 ?_)
      intro b440 l441 c442 cs443 hv444 hd445 hg446 hc447
      have hd4450 := hd445
      obtain rfl := hd4450
      refine SeqW.consX rfl (kLoad (v := (Value.int .i64 y439)) rfl Try.underlying3 rfl rfl (hc447 0 _ rfl) ?_)
      obtain ⟨y448, hy448, hr⟩ := bind_some hr
      refine SeqW.consX rfl (kIdxR (T := (TSl 22 (TInt 3 .i64))) (xs := x1) (n := y439) rfl Try.underlying23 Try.type22 rfl rfl rfl s1 hy448 ?_)
      intro b449 f450 cs451 hd452 hc453
      obtain ⟨v454, rfl, s455⟩ := hd452
      refine SeqW.consX rfl (kLoad (v := v454) rfl Try.underlying22 rfl rfl (ldz_load st.fz (hc453 0 _ rfl)) ?_)
      refine SeqW.consX rfl (StepX.pure (pLenR (xs := y448) rfl Try.underlying22 rfl s455) ?_)
      refine SeqW.consX rfl (StepX.pure (pAdd (k := .i64) (a := (y448.length : Int)) (b := 1) rfl rfl rfl) ?_)
      refine SeqW.consX rfl (StepX.pure (pAdd (k := .i64) (a := x21) (b := (IntKind.wrap .i64 ((y448.length : Int) + 1))) rfl rfl rfl) ?_)
      obtain ⟨y457, hy457, hr⟩ := lt_some hr
      refine SeqW.consX rfl (StepX.pure (pAssign rfl (congrArg (Value.int .i64) hy457)) ?_)
      refine SeqW.done fun fr458 hf459 => ?_
      have h1 : fr458 1 = v1 := (congrFun hf459 1).trans h1
      have h13 : fr458 13 = (Value.int .i64 x13) := (congrFun hf459 13).trans h13
      have h14 : fr458 14 = v14 := (congrFun hf459 14).trans h14
      have h15 : fr458 15 = v15 := (congrFun hf459 15).trans h15
      have h20 : fr458 20 = v428 := (congrFun hf459 20).trans h20
      have h21 : fr458 21 = (Value.int .i64 y457) := (congrFun hf459 21).trans rfl
      clear hf459
      refine thenQ.n ?_
      exact ih hz st h1 s1 h13 h14 o14 h15 o15 h20 o430 h21 ao14_o15 a434 a435 hr
    · refine W.condF h166 hc460 ?_
      refine W.exit ?_
      refine thenQ.x ?_
      refine thenQ.x ?_
      obtain rfl := Option.some.inj hr
      exact ⟨z, hz, st, rfl, v20, h20, o20, o14, (Ap.symm ao14_o20), trivial⟩

theorem u35 {N : Nat}  {z0 z : Nat → Blk} {e m : Mem} {k : Option Nat} {fr : Nat → Value} {x0 : List Int} {x1 : List (List Int)} {x2 : Int} {v0 : Value} {v1 : Value} (hz : Zx e.next z0 z) (st : St z e m k) (h0 : fr 0 = v0) (s0 : SlR (TInt 3 .i64) z x0 v0) (h1 : fr 1 = v1) (s1 : SlR (TSl 22 (TInt 3 .i64)) z x1 v1) (h2 : fr 2 = (Value.int .i64 x2)) {r : List Int × Int × Int} (hr : m35 N x0 x1 x2 = some r) : W Try.prog (sub (bodyOf Try.f35) []) (fun ex fr' m' => ∃ z', Zx e.next z0 z' ∧ St z' e m' k ∧ (ex = .normal ∨ ex = .ret) ∧ ∃ (w6 : Value), fr' 6 = w6 ∧ SlR (TInt 3 .i64) z' r.1 w6 ∧ fr' 7 = (Value.int .i64 r.2.1) ∧ fr' 8 = (Value.int .i64 r.2.2) ∧ True) fr m := by
  unfold m35 at hr
  refine W.seq ?_
  refine W.region ?_
  refine SeqW.consX rfl (StepX.pure (pAssign (v := (Value.slice none 0 0)) rfl rfl) ?_)
  refine SeqW.consX rfl (StepX.pure (pAssign (v := (Value.int .i64 0)) rfl rfl) ?_)
  refine SeqW.consX rfl (StepX.pure (pAssign (v := (Value.int .i64 0)) rfl rfl) ?_)
  refine SeqW.done fun fr1 hf2 => ?_
  have h0 : fr1 0 = v0 := (congrFun hf2 0).trans h0
  have h1 : fr1 1 = v1 := (congrFun hf2 1).trans h1
  have h2 : fr1 2 = (Value.int .i64 x2) := (congrFun hf2 2).trans h2
  clear hf2
  refine thenQ.n ?_
  refine W.seq ?_
  refine W.seq ?_
  obtain ⟨y9, hy9, hr⟩ := bind_some hr
  refine W.keep (u35_0 (Zx.refl _) st h0 s0 h1 s1 hy9) ?_
  rintro ex15 fr10 m11 hk13 ⟨z12, hz14, st, rfl, h29, -⟩
  replace s0 := s0.mono hz14.le
  replace s1 := s1.mono hz14.le
  have h0 := (hk13 0 rfl).trans h0
  have h1 := (hk13 1 rfl).trans h1
  have h2 := (hk13 2 rfl).trans h2
  replace hz := hz.trans hz14
  clear hk13
  refine thenQ.n ?_
  rcases if_some hr with ⟨hc16, hr⟩ | ⟨hc19, hr⟩
  · refine W.condT h29 hc16 ?_
    refine W.seq ?_
    refine W.region ?_
    refine SeqW.consX rfl (StepX.pure (pAssign (v := (Value.slice none 0 0)) rfl rfl) ?_)
    refine SeqW.consX rfl (StepX.pure (pAssign (v := (Value.int .i64 0)) rfl rfl) ?_)
    refine SeqW.consX rfl (StepX.pure (pAssign (v := (Value.int .i64 3)) rfl rfl) ?_)
    refine SeqW.done fun fr17 hf18 => ?_
    have h6 : fr17 6 = (Value.slice none 0 0) := (congrFun hf18 6).trans rfl
    have h7 : fr17 7 = (Value.int .i64 0) := (congrFun hf18 7).trans rfl
    have h8 : fr17 8 = (Value.int .i64 3) := (congrFun hf18 8).trans rfl
    clear hf18
    refine thenQ.n ?_
    refine W.ret ?_
    refine thenQ.r ?_
    obtain rfl := Option.some.inj hr
    exact ⟨z12, hz, st, .inr rfl, (Value.slice none 0 0), h6, SlR.nil, h7, h8, trivial⟩
  · refine W.condF h29 hc19 ?_
    refine W.skip ?_
    refine thenQ.n ?_
    refine W.seq ?_
    refine W.seq ?_
    refine W.region ?_
    refine SeqW.consX rfl (StepX.pure (pAssign (v := (Value.int .i64 0)) rfl rfl) ?_)
    refine SeqW.done fun fr20 hf21 => ?_
    have h0 : fr20 0 = v0 := (congrFun hf21 0).trans h0
    have h1 : fr20 1 = v1 := (congrFun hf21 1).trans h1
    have h2 : fr20 2 = (Value.int .i64 x2) := (congrFun hf21 2).trans h2
    have h9 : fr20 9 = (Value.int .i64 0) := (congrFun hf21 9).trans rfl
    clear hf21
    refine thenQ.n ?_
    refine W.block ?_
    obtain ⟨y44, hy44, hr⟩ := bind_some hr
    refine W.keep (u35_1 _ (Zx.refl _) st h1 s1 h9 hy44) ?_
    rintro ex50 fr45 m46 hk48 ⟨z47, hz49, st, ⟨y51, rfl, rfl, -⟩ | ⟨y489, rfl, rfl, h6, h7, h8, -⟩⟩
    · dsimp only at hr
      replace s0 := s0.mono hz49.le
      replace s1 := s1.mono hz49.le
      have h0 := (hk48 0 rfl).trans h0
      have h1 := (hk48 1 rfl).trans h1
      have h2 := (hk48 2 rfl).trans h2
      replace hz := hz.trans hz49
      clear hk48
      refine blockQ.hit ?_
      refine thenQ.n ?_
      refine W.seq ?_
      refine W.seq ?_
      obtain ⟨y58, hy58, hr⟩ := bind_some hr
      refine W.keep (u35_2 (Zx.refl _) st h2 hy58) ?_
      rintro ex64 fr59 m60 hk62 ⟨z61, hz63, st, rfl, h47, -⟩
      replace s0 := s0.mono hz63.le
      replace s1 := s1.mono hz63.le
      have h0 := (hk62 0 rfl).trans h0
      have h1 := (hk62 1 rfl).trans h1
      have h2 := (hk62 2 rfl).trans h2
      replace hz := hz.trans hz63
      clear hk62
      refine thenQ.n ?_
      rcases if_some hr with ⟨hc65, hr⟩ | ⟨hc68, hr⟩
      · refine W.condT h47 hc65 ?_
        refine W.seq ?_
        refine W.region ?_
        refine SeqW.consX rfl (StepX.pure (pAssign (v := (Value.slice none 0 0)) rfl rfl) ?_)
        refine SeqW.consX rfl (StepX.pure (pAssign (v := (Value.int .i64 0)) rfl rfl) ?_)
        refine SeqW.consX rfl (StepX.pure (pAssign (v := (Value.int .i64 2)) rfl rfl) ?_)
        refine SeqW.done fun fr66 hf67 => ?_
        have h6 : fr66 6 = (Value.slice none 0 0) := (congrFun hf67 6).trans rfl
        have h7 : fr66 7 = (Value.int .i64 0) := (congrFun hf67 7).trans rfl
        have h8 : fr66 8 = (Value.int .i64 2) := (congrFun hf67 8).trans rfl
        clear hf67
        refine thenQ.n ?_
        refine W.ret ?_
        refine thenQ.r ?_
        obtain rfl := Option.some.inj hr
        exact ⟨z61, hz, st, .inr rfl, (Value.slice none 0 0), h6, SlR.nil, h7, h8, trivial⟩
      · refine W.condF h47 hc68 ?_
        refine W.skip ?_
        refine thenQ.n ?_
        refine W.seq ?_
        refine W.seq ?_
        refine W.region ?_
        refine SeqW.consX rfl (StepX.pure (pAssign (v := (Value.int .i64 (-1))) rfl rfl) ?_)
        refine SeqW.done fun fr69 hf70 => ?_
        have h0 : fr69 0 = v0 := (congrFun hf70 0).trans h0
        have h1 : fr69 1 = v1 := (congrFun hf70 1).trans h1
        have h2 : fr69 2 = (Value.int .i64 x2) := (congrFun hf70 2).trans h2
        have h10 : fr69 10 = (Value.int .i64 (-1)) := (congrFun hf70 10).trans rfl
        clear hf70
        refine thenQ.n ?_
        refine W.block ?_
        obtain ⟨y152, hy152, hr⟩ := bind_some hr
        refine W.keep (u35_3 _ (Zx.refl _) st h0 s0 h1 s1 h10 hy152) ?_
        rintro ex158 fr153 m154 hk156 ⟨z155, hz157, st, ⟨y159, rfl, rfl, -⟩ | ⟨y488, rfl, rfl, h6, h7, h8, -⟩⟩
        · dsimp only at hr
          replace s0 := s0.mono hz157.le
          replace s1 := s1.mono hz157.le
          have h0 := (hk156 0 rfl).trans h0
          have h1 := (hk156 1 rfl).trans h1
          have h2 := (hk156 2 rfl).trans h2
          replace hz := hz.trans hz157
          clear hk156
          refine blockQ.hit ?_
          refine thenQ.n ?_
          refine W.seq ?_
          refine W.region ?_
          refine SeqW.consX rfl (StepX.pure (pMove (v := v0) rfl h0) ?_)
          refine SeqW.consX rfl (StepX.pure (pLenR (xs := x0) rfl Try.underlying22 rfl s0) ?_)
          refine SeqW.consX rfl (StepX.pure (pAdd (k := .i64) (a := (x0.length : Int)) (b := 1) rfl rfl rfl) ?_)
          obtain ⟨y160, hy160, hr⟩ := lt_some hr
          refine SeqW.consX rfl (StepX.pure (pAssign rfl (congrArg (Value.int .i64) hy160)) ?_)
          refine SeqW.done fun fr161 hf162 => ?_
          have h0 : fr161 0 = v0 := (congrFun hf162 0).trans h0
          have h1 : fr161 1 = v1 := (congrFun hf162 1).trans h1
          have h2 : fr161 2 = (Value.int .i64 x2) := (congrFun hf162 2).trans h2
          have h13 : fr161 13 = (Value.int .i64 y160) := (congrFun hf162 13).trans rfl
          clear hf162
          refine thenQ.n ?_
          refine W.seq ?_
          refine W.calm (by decide) ?_
          refine SeqW.consX rfl (StepX.pure (pMove (v := (Value.int .i64 y160)) rfl h13) ?_)
          refine SeqW.consX rfl (StepX.pure (pAdd (k := .i64) (a := y160) (b := 1) rfl rfl rfl) ?_)
          obtain ⟨y163, hy163, hr⟩ := bind_some hr
          refine SeqW.consX rfl (kMake (T := (TInt 3 .i64)) (x0 := 0) (n := (IntKind.wrap .i64 (y160 + 1))) rfl Try.underlying22 Try.type3 rfl rfl rfl rfl rfl rfl rfl rfl st hy163 ?_)
          intro v164 m165 st o166 sm167 hap168
          refine SeqW.consX rfl (StepX.pure (pMove (v := (Value.int .i64 y160)) rfl h13) ?_)
          refine SeqW.consX rfl (StepX.pure (pAdd (k := .i64) (a := y160) (b := 1) rfl rfl rfl) ?_)
          obtain ⟨y170, hy170, hr⟩ := bind_some hr
          refine SeqW.consX rfl (kMake (T := (TInt 3 .i64)) (x0 := 0) (n := (IntKind.wrap .i64 (y160 + 1))) rfl Try.underlying22 Try.type3 rfl rfl rfl rfl rfl rfl rfl rfl st hy170 ?_)
          intro v171 m172 st o173 sm174 hap175
          have a177 := hap175 _ o166.lt
          replace o166 := o166.same sm174 Ap.none'
          refine SeqW.consX rfl (StepX.pure (pAssign (v := v164) rfl rfl) ?_)
          refine SeqW.consX rfl (StepX.pure (pAssign (v := v171) rfl rfl) ?_)
          refine SeqW.done fun fr178 hf179 => ?_
          have h0 : fr178 0 = v0 := (congrFun hf179 0).trans h0
          have h1 : fr178 1 = v1 := (congrFun hf179 1).trans h1
          have h2 : fr178 2 = (Value.int .i64 x2) := (congrFun hf179 2).trans h2
          have h13 : fr178 13 = (Value.int .i64 y160) := (congrFun hf179 13).trans h13
          have h14 : fr178 14 = v164 := (congrFun hf179 14).trans rfl
          have h15 : fr178 15 = v171 := (congrFun hf179 15).trans rfl
          clear hf179
          refine thenQ.n ?_
          refine W.seq ?_
          refine W.seq ?_
          refine W.region ?_
          refine SeqW.consX rfl (StepX.pure (pMove (v := (Value.int .i64 y160)) rfl h13) ?_)
          refine SeqW.consX rfl (StepX.pure (pSub (k := .i64) (a := y160) (b := 1) rfl rfl rfl) ?_)
          obtain ⟨y180, hy180, hr⟩ := lt_some hr
          refine SeqW.consX rfl (StepX.pure (pAssign rfl (congrArg (Value.int .i64) hy180)) ?_)
          refine SeqW.done fun fr181 hf182 => ?_
          have h0 : fr181 0 = v0 := (congrFun hf182 0).trans h0
          have h1 : fr181 1 = v1 := (congrFun hf182 1).trans h1
          have h2 : fr181 2 = (Value.int .i64 x2) := (congrFun hf182 2).trans h2
          have h13 : fr181 13 = (Value.int .i64 y160) := (congrFun hf182 13).trans h13
          have h14 : fr181 14 = v164 := (congrFun hf182 14).trans h14
          have h15 : fr181 15 = v171 := (congrFun hf182 15).trans h15
          have h16 : fr181 16 = (Value.int .i64 y180) := (congrFun hf182 16).trans rfl
          clear hf182
          refine thenQ.n ?_
          refine W.block ?_
          obtain ⟨y375, hy375, hr⟩ := bind_some hr
          refine W.keep (u35_7 _ (Zx.refl _) st h0 s0 h1 s1 h2 h14 o166 h15 o173 h16 a177 hy375) ?_
          rintro ex381 fr376 m377 hk379 ⟨z378, hz380, st, rfl, h14, o383, h15, o385, a386, -⟩
          replace s1 := s1.mono hz380.le
          have h1 := (hk379 1 rfl).trans h1
          have h13 := (hk379 13 rfl).trans h13
          replace hz := hz.trans hz380
          clear hk379
          refine blockQ.hit ?_
          refine thenQ.n ?_
          refine W.seq ?_
          refine W.seq ?_
          refine W.region ?_
          refine SeqW.consX rfl (StepX.pure (pMove (v := v164) rfl h14) ?_)
          obtain ⟨y387, hy387, hr⟩ := bind_some hr
          refine SeqW.consX rfl (kIdxO (T := (TInt 3 .i64)) (xs := y375.1) (n := 0) rfl Try.underlying22 Try.type3 rfl rfl rfl o383 hy387 ?_)
          intro b388 l389 c390 cs391 hv392 hd393 hg394 hc395
          have hd3930 := hd393
          obtain rfl := hd3930
          refine SeqW.consX rfl (kLoad (v := (Value.int .i64 y387)) rfl Try.underlying3 rfl rfl (hc395 0 _ rfl) ?_)
          refine SeqW.consX rfl (StepX.pure (pLss (k := .i64) (a := y387) (b := 0) rfl rfl rfl) ?_)
          refine SeqW.done fun fr396 hf397 => ?_
          have h1 : fr396 1 = v1 := (congrFun hf397 1).trans h1
          have h13 : fr396 13 = (Value.int .i64 y160) := (congrFun hf397 13).trans h13
          have h14 : fr396 14 = v164 := (congrFun hf397 14).trans h14
          have h15 : fr396 15 = v171 := (congrFun hf397 15).trans h15
          have h163 : fr396 163 = (Value.bool (decide (y387 < 0))) := (congrFun hf397 163).trans rfl
          clear hf397
          refine thenQ.n ?_
          rcases if_some hr with ⟨hc398, hr⟩ | ⟨hc401, hr⟩
          · refine W.condT h163 hc398 ?_
            refine W.seq ?_
            refine W.region ?_
            refine SeqW.consX rfl (StepX.pure (pAssign (v := (Value.slice none 0 0)) rfl rfl) ?_)
            refine SeqW.consX rfl (StepX.pure (pAssign (v := (Value.int .i64 0)) rfl rfl) ?_)
            refine SeqW.consX rfl (StepX.pure (pAssign (v := (Value.int .i64 15)) rfl rfl) ?_)
            refine SeqW.done fun fr399 hf400 => ?_
            have h6 : fr399 6 = (Value.slice none 0 0) := (congrFun hf400 6).trans rfl
            have h7 : fr399 7 = (Value.int .i64 0) := (congrFun hf400 7).trans rfl
            have h8 : fr399 8 = (Value.int .i64 15) := (congrFun hf400 8).trans rfl
            clear hf400
            refine thenQ.n ?_
            refine W.ret ?_
            refine thenQ.r ?_
            obtain rfl := Option.some.inj hr
            exact ⟨z378, hz, st, .inr rfl, (Value.slice none 0 0), h6, SlR.nil, h7, h8, trivial⟩
          · refine W.condF h163 hc401 ?_
            refine W.skip ?_
            refine thenQ.n ?_
            refine W.seq ?_
            refine W.region ?_
            refine SeqW.consX rfl (StepX.pure (pAssign (v := (Value.slice none 0 0)) rfl rfl) ?_)
            refine SeqW.done fun fr402 hf403 => ?_
            have h1 : fr402 1 = v1 := (congrFun hf403 1).trans h1
            have h13 : fr402 13 = (Value.int .i64 y160) := (congrFun hf403 13).trans h13
            have h14 : fr402 14 = v164 := (congrFun hf403 14).trans h14
            have h15 : fr402 15 = v171 := (congrFun hf403 15).trans h15
            have h20 : fr402 20 = (Value.slice none 0 0) := (congrFun hf403 20).trans rfl
            clear hf403
            refine thenQ.n ?_
            refine W.seq ?_
            refine W.seq ?_
            refine W.region ?_
            refine SeqW.consX rfl (StepX.pure (pAssign (v := (Value.int .i64 0)) rfl rfl) ?_)
            refine SeqW.done fun fr404 hf405 => ?_
            have h1 : fr404 1 = v1 := (congrFun hf405 1).trans h1
            have h13 : fr404 13 = (Value.int .i64 y160) := (congrFun hf405 13).trans h13
            have h14 : fr404 14 = v164 := (congrFun hf405 14).trans h14
            have h15 : fr404 15 = v171 := (congrFun hf405 15).trans h15
            have h20 : fr404 20 = (Value.slice none 0 0) := (congrFun hf405 20).trans h20
            have h21 : fr404 21 = (Value.int .i64 0) := (congrFun hf405 21).trans rfl
            clear hf405
            refine thenQ.n ?_
            refine W.block ?_
            obtain ⟨y461, hy461, hr⟩ := bind_some hr
            refine W.keep (u35_12 _ (Zx.refl _) st h1 s1 h13 h14 o383 h15 o385 h20 OwF.nil h21 a386 Ap.none' Ap.none' hy461) ?_
            rintro ex467 fr462 m463 hk465 ⟨z464, hz466, st, rfl, w468, h20, o470, o471, a472, -⟩
            have h14 := (hk465 14 rfl).trans h14
            replace hz := hz.trans hz466
            clear hk465
            refine blockQ.hit ?_
            refine thenQ.n ?_
            refine W.seq ?_
            refine W.calm (by decide) ?_
            refine SeqW.consX rfl (StepX.pure (pMove (v := w468) rfl h20) ?_)
            refine SeqW.consX rfl (StepX.pure (pMove (v := v164) rfl h14) ?_)
            obtain ⟨y473, hy473, hr⟩ := bind_some hr
            refine SeqW.consX rfl (kIdxO (T := (TInt 3 .i64)) (xs := y375.1) (n := 0) rfl Try.underlying22 Try.type3 rfl rfl rfl o471 hy473 ?_)
            intro b474 l475 c476 cs477 hv478 hd479 hg480 hc481
            have hd4790 := hd479
            obtain rfl := hd4790
            refine SeqW.consX rfl (kLoad (v := (Value.int .i64 y473)) rfl Try.underlying3 rfl rfl (hc481 0 _ rfl) ?_)
            refine SeqW.consX rfl (StepX.pure (pAssign (v := w468) rfl rfl) ?_)
            refine SeqW.consX rfl (StepX.pure (pAssign (v := (Value.int .i64 y473)) rfl rfl) ?_)
            refine SeqW.consX rfl (StepX.pure (pAssign (v := (Value.int .i64 0)) rfl rfl) ?_)
            refine SeqW.done fun fr482 hf483 => ?_
            have h6 : fr482 6 = w468 := (congrFun hf483 6).trans rfl
            have h7 : fr482 7 = (Value.int .i64 y473) := (congrFun hf483 7).trans rfl
            have h8 : fr482 8 = (Value.int .i64 0) := (congrFun hf483 8).trans rfl
            clear hf483
            refine thenQ.n ?_
            refine W.ret ?_
            obtain ⟨z484, hz485, st, s486, hl487⟩ := o470.freeze st
            replace hz := hz.trans hz485
            obtain rfl := Option.some.inj hr
            exact ⟨z484, hz, st, .inr rfl, w468, h6, s486, h7, h8, trivial⟩
        · dsimp only at hr
          replace hz := hz.trans hz157
          clear hk156
          refine blockQ.r ?_
          refine thenQ.r ?_
          obtain rfl := Option.some.inj hr
          exact ⟨z155, hz, st, .inr rfl, (Value.slice none 0 0), h6, SlR.nil, h7, h8, trivial⟩
    · dsimp only at hr
      replace hz := hz.trans hz49
      clear hk48
      refine blockQ.r ?_
      refine thenQ.r ?_
      obtain rfl := Option.some.inj hr
      exact ⟨z47, hz, st, .inr rfl, (Value.slice none 0 0), h6, SlR.nil, h7, h8, trivial⟩

theorem c35 {N : Nat} {z : Nat → Blk} {m : Mem} {x0 : List Int} {x1 : List (List Int)} {x2 : Int} {v0 : Value} {v1 : Value} (fz : Fz z m) (hd : ∀ b, m.next ≤ b → m.blk b = .dead) (s0 : SlR (TInt 3 .i64) z x0 v0) (s1 : SlR (TSl 22 (TInt 3 .i64)) z x1 v1) {r : List Int × Int × Int} (hr : m35 N x0 x1 x2 = some r) : CallW Try.prog 35 #[v0, v1, (Value.int .i64 x2)] m fun v m' => ∃ z' w6, Zx m.next z z' ∧ Fz z' m' ∧ Same m m' none ∧ v = (Value.tuple [w6, (Value.int .i64 r.2.1), (Value.int .i64 r.2.2)].toArray) ∧ SlR (TInt 3 .i64) z' r.1 w6 ∧ True := by
  refine CallW.any Try.func35 rfl (by kernel_rfl) (Nat.le_of_ble_eq_true rfl) (fun fr hf => ?_)
  have h0 : fr 0 = _ := hf 0 _ rfl
  have h1 : fr 1 = _ := hf 1 _ rfl
  have h2 : fr 2 = _ := hf 2 _ rfl
  refine (u35 (k := none) (Zx.refl _) (St.start fz hd) h0 s0 h1 s1 h2 hr).mono ?_
  rintro ex fr' m' ⟨z', hz, st, he, w6, h6, s6, h7, h8, -⟩
  exact ⟨he, [w6, (Value.int .i64 r.2.1), (Value.int .i64 r.2.2)], ⟨h6.symm, h7.symm, h8.symm, trivial⟩, .inr (List.forall_mem_cons.2 ⟨s6.stor.1, List.forall_mem_cons.2 ⟨rfl, List.forall_mem_cons.2 ⟨rfl, fun _ h => nomatch h⟩⟩⟩), z', w6, hz, st.fz, st.toSame, rfl, s6, trivial⟩

/-! ### humpyard/humpyardlaw07.recognizes -/

theorem u17_0 {N : Nat}  {z0 z : Nat → Blk} {e m : Mem} {k : Option Nat} {fr : Nat → Value} {x7 : List Int} {x8 : Int} {x9 : Int} {x10 : List Int} {x11 : Int} {x12 : Int} {v7 : Value} {v10 : Value} (hz : Zx e.next z0 z) (st : St z e m k) (h7 : fr 7 = v7) (s7 : SlR (TInt 3 .i64) z x7 v7) (h8 : fr 8 = (Value.int .i64 x8)) (h9 : fr 9 = (Value.int .i64 x9)) (h10 : fr 10 = v10) (s10 : SlR (TInt 3 .i64) z x10 v10) (h11 : fr 11 = (Value.int .i64 x11)) (h12 : fr 12 = (Value.int .i64 x12)) {r : Bool} (hr : m17_0 N x7 x8 x9 x10 x11 x12 = some r) : W Try.prog (sub (bodyOf Try.f17) [1, 1, 1, 0]) (fun ex fr' m' => ∃ z', Zx e.next z0 z' ∧ St z' e m' k ∧ ex = AExit.normal ∧ fr' 6 = (Value.bool r) ∧ True) fr m := by
  unfold m17_0 at hr
  refine W.region ?_
  refine SeqW.consX rfl (StepX.pure (pMove (v := v7) rfl h7) ?_)
  refine SeqW.consX rfl (StepX.pure (pMove (v := v10) rfl h10) ?_)
  obtain ⟨y25, hy25, hr⟩ := bind_some hr
  refine SeqW.consX rfl (StepX.call (gCallee rfl rfl (args2 rfl rfl)) ((c25 (z := z) st.fz st.dead s7 s10 hy25).mono ?_))
  rintro _ _ ⟨rfl, rfl⟩
  refine SeqW.consX rfl (StepX.pure (pMove (v := (Value.bool y25)) rfl rfl) ?_)
  rcases if_some hr with ⟨hc26, hr⟩ | ⟨hc34, hr⟩
  · refine SeqW.consG rfl rfl rfl hc26 (StepX.pure (pMove (v := (Value.int .i64 x8)) rfl h8) ?_)
    refine SeqW.consG rfl rfl rfl hc26 (StepX.pure (pMove (v := (Value.int .i64 x11)) rfl h11) ?_)
    refine SeqW.consG rfl rfl rfl hc26 (StepX.pure (pEql (k := .i64) (a := x8) (b := x11) rfl rfl rfl) ?_)
    refine SeqW.consX rfl (StepX.pure (pPick (t := true) (v := (Value.bool (x8 == x11))) rfl ((congrArg Value.bool hc26)) rfl) ?_)
    refine SeqW.consX rfl (StepX.pure (pMove (v := (Value.bool (x8 == x11))) rfl rfl) ?_)
    rcases if_some hr with ⟨hc27, hr⟩ | ⟨hc31, hr⟩
    · refine SeqW.consG rfl rfl rfl hc27 (StepX.pure (pMove (v := (Value.int .i64 x9)) rfl h9) ?_)
      refine SeqW.consG rfl rfl rfl hc27 (StepX.pure (pMove (v := (Value.int .i64 x12)) rfl h12) ?_)
      refine SeqW.consG rfl rfl rfl hc27 (StepX.pure (pEql (k := .i64) (a := x9) (b := x12) rfl rfl rfl) ?_)
      refine SeqW.consX rfl (StepX.pure (pPick (t := true) (v := (Value.bool (x9 == x12))) rfl ((congrArg Value.bool hc27)) rfl) ?_)
      obtain ⟨y28, hy28, hr⟩ := lt_some hr
      refine SeqW.consX rfl (StepX.pure (pAssign rfl (congrArg Value.bool hy28)) ?_)
      refine SeqW.done fun fr29 hf30 => ?_
      have h6 : fr29 6 = (Value.bool y28) := (congrFun hf30 6).trans rfl
      clear hf30
      obtain rfl := Option.some.inj hr
      exact ⟨z, hz, st, rfl, h6, trivial⟩
    · refine SeqW.skipG rfl rfl rfl hc31 ?_
      refine SeqW.skipG rfl rfl rfl hc31 ?_
      refine SeqW.skipG rfl rfl rfl hc31 ?_
      refine SeqW.consX rfl (StepX.pure (pPick (t := false) (v := (Value.bool false)) rfl ((congrArg Value.bool hc31)) rfl) ?_)
      refine SeqW.consX rfl (StepX.pure (pAssign (v := (Value.bool false)) rfl rfl) ?_)
      refine SeqW.done fun fr32 hf33 => ?_
      have h6 : fr32 6 = (Value.bool false) := (congrFun hf33 6).trans rfl
      clear hf33
      obtain rfl := Option.some.inj hr
      exact ⟨z, hz, st, rfl, h6, trivial⟩
  · refine SeqW.skipG rfl rfl rfl hc34 ?_
    refine SeqW.skipG rfl rfl rfl hc34 ?_
    refine SeqW.skipG rfl rfl rfl hc34 ?_
    refine SeqW.consX rfl (StepX.pure (pPick (t := false) (v := (Value.bool false)) rfl ((congrArg Value.bool hc34)) rfl) ?_)
    refine SeqW.consX rfl (StepX.pure (pMove (v := (Value.bool false)) rfl rfl) ?_)
    refine SeqW.skipG rfl rfl rfl rfl ?_
    refine SeqW.skipG rfl rfl rfl rfl ?_
    refine SeqW.skipG rfl rfl rfl rfl ?_
    refine SeqW.consX rfl (StepX.pure (pPick (t := false) (v := (Value.bool false)) rfl ((congrArg Value.bool (rfl : false = false))) rfl) ?_)
    refine SeqW.consX rfl (StepX.pure (pAssign (v := (Value.bool false)) rfl rfl) ?_)
    refine SeqW.done fun fr35 hf36 => ?_
    have h6 : fr35 6 = (Value.bool false) := (congrFun hf36 6).trans rfl
    clear hf36
    obtain rfl := Option.some.inj hr
    exact ⟨z, hz, st, rfl, h6, trivial⟩

theorem u17 {N : Nat}  {z0 z : Nat → Blk} {e m : Mem} {k : Option Nat} {fr : Nat → Value} {x0 : List Int} {x1 : List (List Int)} {x2 : Int} {v0 : Value} {v1 : Value} (hz : Zx e.next z0 z) (st : St z e m k) (h0 : fr 0 = v0) (s0 : SlR (TInt 3 .i64) z x0 v0) (h1 : fr 1 = v1) (s1 : SlR (TSl 22 (TInt 3 .i64)) z x1 v1) (h2 : fr 2 = (Value.int .i64 x2)) {r : Bool} (hr : m17 N x0 x1 x2 = some r) : W Try.prog (sub (bodyOf Try.f17) []) (fun ex fr' m' => ∃ z', Zx e.next z0 z' ∧ St z' e m' k ∧ (ex = .normal ∨ ex = .ret) ∧ fr' 6 = (Value.bool r) ∧ True) fr m := by
  unfold m17 at hr
  refine W.seq ?_
  refine W.region ?_
  refine SeqW.consX rfl (StepX.pure (pAssign (v := (Value.bool false)) rfl rfl) ?_)
  refine SeqW.done fun fr1 hf2 => ?_
  have h0 : fr1 0 = v0 := (congrFun hf2 0).trans h0
  have h1 : fr1 1 = v1 := (congrFun hf2 1).trans h1
  have h2 : fr1 2 = (Value.int .i64 x2) := (congrFun hf2 2).trans h2
  clear hf2
  refine thenQ.n ?_
  refine W.seq ?_
  refine W.region ?_
  refine SeqW.consX rfl (StepX.pure (pMove (v := v0) rfl h0) ?_)
  refine SeqW.consX rfl (StepX.pure (pMove (v := v1) rfl h1) ?_)
  refine SeqW.consX rfl (StepX.pure (pMove (v := (Value.int .i64 x2)) rfl h2) ?_)
  obtain ⟨y3, hy3, hr⟩ := bind_some hr
  refine SeqW.consX rfl (StepX.call (gCallee rfl rfl (args3 rfl rfl rfl)) ((c10 (z := z) st.fz st.dead s0 s1 hy3).mono ?_))
  rintro _ m8 ⟨z4, v9, hzx5, fz6, sm7, rfl, s10, -⟩
  replace s0 := s0.mono hzx5.le
  replace s1 := s1.mono hzx5.le
  replace hz := hz.trans (Zx.here st hzx5)
  replace st := st.call hzx5 fz6 sm7 no_hq
  refine SeqW.consX rfl (StepX.pure (pMove (v := (Value.tuple [v9, (Value.int .i64 y3.2.1), (Value.int .i64 y3.2.2)].toArray)) rfl rfl) ?_)
  refine SeqW.consX rfl (StepX.pure (pExtract (vs := [v9, (Value.int .i64 y3.2.1), (Value.int .i64 y3.2.2)]) (v := v9) rfl rfl rfl) ?_)
  refine SeqW.consX rfl (StepX.pure (pExtract (vs := [v9, (Value.int .i64 y3.2.1), (Value.int .i64 y3.2.2)]) (v := (Value.int .i64 y3.2.1)) rfl rfl rfl) ?_)
  refine SeqW.consX rfl (StepX.pure (pExtract (vs := [v9, (Value.int .i64 y3.2.1), (Value.int .i64 y3.2.2)]) (v := (Value.int .i64 y3.2.2)) rfl rfl rfl) ?_)
  refine SeqW.consX rfl (StepX.pure (pAssign (v := v9) rfl rfl) ?_)
  refine SeqW.consX rfl (StepX.pure (pAssign (v := (Value.int .i64 y3.2.1)) rfl rfl) ?_)
  refine SeqW.consX rfl (StepX.pure (pAssign (v := (Value.int .i64 y3.2.2)) rfl rfl) ?_)
  refine SeqW.done fun fr12 hf13 => ?_
  have h0 : fr12 0 = v0 := (congrFun hf13 0).trans h0
  have h1 : fr12 1 = v1 := (congrFun hf13 1).trans h1
  have h2 : fr12 2 = (Value.int .i64 x2) := (congrFun hf13 2).trans h2
  have h7 : fr12 7 = v9 := (congrFun hf13 7).trans rfl
  have h8 : fr12 8 = (Value.int .i64 y3.2.1) := (congrFun hf13 8).trans rfl
  have h9 : fr12 9 = (Value.int .i64 y3.2.2) := (congrFun hf13 9).trans rfl
  clear hf13
  refine thenQ.n ?_
  refine W.seq ?_
  refine W.region ?_
  refine SeqW.consX rfl (StepX.pure (pMove (v := v0) rfl h0) ?_)
  refine SeqW.consX rfl (StepX.pure (pMove (v := v1) rfl h1) ?_)
  refine SeqW.consX rfl (StepX.pure (pMove (v := (Value.int .i64 x2)) rfl h2) ?_)
  obtain ⟨y14, hy14, hr⟩ := bind_some hr
  refine SeqW.consX rfl (StepX.call (gCallee rfl rfl (args3 rfl rfl rfl)) ((c35 (z := z4) st.fz st.dead s0 s1 hy14).mono ?_))
  rintro _ m19 ⟨z15, v20, hzx16, fz17, sm18, rfl, s21, -⟩
  replace s0 := s0.mono hzx16.le
  replace s1 := s1.mono hzx16.le
  replace s10 := s10.mono hzx16.le
  replace hz := hz.trans (Zx.here st hzx16)
  replace st := st.call hzx16 fz17 sm18 no_hq
  refine SeqW.consX rfl (StepX.pure (pMove (v := (Value.tuple [v20, (Value.int .i64 y14.2.1), (Value.int .i64 y14.2.2)].toArray)) rfl rfl) ?_)
  refine SeqW.consX rfl (StepX.pure (pExtract (vs := [v20, (Value.int .i64 y14.2.1), (Value.int .i64 y14.2.2)]) (v := v20) rfl rfl rfl) ?_)
  refine SeqW.consX rfl (StepX.pure (pExtract (vs := [v20, (Value.int .i64 y14.2.1), (Value.int .i64 y14.2.2)]) (v := (Value.int .i64 y14.2.1)) rfl rfl rfl) ?_)
  refine SeqW.consX rfl (StepX.pure (pExtract (vs := [v20, (Value.int .i64 y14.2.1), (Value.int .i64 y14.2.2)]) (v := (Value.int .i64 y14.2.2)) rfl rfl rfl) ?_)
  refine SeqW.consX rfl (StepX.pure (pAssign (v := v20) rfl rfl) ?_)
  refine SeqW.consX rfl (StepX.pure (pAssign (v := (Value.int .i64 y14.2.1)) rfl rfl) ?_)
  refine SeqW.consX rfl (StepX.pure (pAssign (v := (Value.int .i64 y14.2.2)) rfl rfl) ?_)
  refine SeqW.done fun fr23 hf24 => ?_
  have h7 : fr23 7 = v9 := (congrFun hf24 7).trans h7
  have h8 : fr23 8 = (Value.int .i64 y3.2.1) := (congrFun hf24 8).trans h8
  have h9 : fr23 9 = (Value.int .i64 y3.2.2) := (congrFun hf24 9).trans h9
  have h10 : fr23 10 = v20 := (congrFun hf24 10).trans rfl
  have h11 : fr23 11 = (Value.int .i64 y14.2.1) := (congrFun hf24 11).trans rfl
  have h12 : fr23 12 = (Value.int .i64 y14.2.2) := (congrFun hf24 12).trans rfl
  clear hf24
  refine thenQ.n ?_
  refine W.seq ?_
  obtain ⟨y37, hy37, hr⟩ := bind_some hr
  refine W.keep (u17_0 (Zx.refl _) st h7 s10 h8 h9 h10 s21 h11 h12 hy37) ?_
  rintro ex43 fr38 m39 hk41 ⟨z40, hz42, st, rfl, h6, -⟩
  replace hz := hz.trans hz42
  clear hk41
  refine thenQ.n ?_
  refine W.ret ?_
  obtain rfl := Option.some.inj hr
  exact ⟨z40, hz, st, .inr rfl, h6, trivial⟩

theorem c17 {N : Nat} {z : Nat → Blk} {m : Mem} {x0 : List Int} {x1 : List (List Int)} {x2 : Int} {v0 : Value} {v1 : Value} (fz : Fz z m) (hd : ∀ b, m.next ≤ b → m.blk b = .dead) (s0 : SlR (TInt 3 .i64) z x0 v0) (s1 : SlR (TSl 22 (TInt 3 .i64)) z x1 v1) {r : Bool} (hr : m17 N x0 x1 x2 = some r) : CallW Try.prog 17 #[v0, v1, (Value.int .i64 x2)] m fun v m' => v = (Value.bool r) ∧ m' = m := by
  refine CallW.flat Try.func17 rfl (by kernel_rfl) (Nat.le_of_ble_eq_true rfl) rfl (z := z) (fun fr hf => ?_)
  have h0 : fr 0 = _ := hf 0 _ rfl
  have h1 : fr 1 = _ := hf 1 _ rfl
  have h2 : fr 2 = _ := hf 2 _ rfl
  refine (u17 (k := none) (Zx.refl _) (St.start fz hd) h0 s0 h1 s1 h2 hr).mono ?_
  rintro ex fr' m' ⟨z', hz, st, he, h6, -⟩
  exact ⟨he, z', st, [(Value.bool r)], ⟨h6.symm, trivial⟩, .inl rfl, rfl⟩

end Go.W
