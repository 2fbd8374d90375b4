/- The models are what the program computes. -/
import Derived.Test.YtaoioacomnnhdaaWM
import Derived.Test.YtaoioacomnnhdaaProg
set_option linter.unusedVariables false
set_option linter.unusedSimpArgs false
set_option maxRecDepth 100000
set_option maxHeartbeats 4000000
namespace Go.W
open Go.AM Go.Proofs

theorem places52 {fs : Array Field} (h : Try.prog.underlying 52 = some (.struct fs)) : places Try.prog fs = [some (0, 1), some (1, 1)] := by
  rw [Try.underlying52] at h; cases h; rfl
theorem places36 {fs : Array Field} (h : Try.prog.underlying 36 = some (.struct fs)) : places Try.prog fs = [some (0, 1), some (1, 1), some (2, 1), some (3, 1), some (4, 1), some (5, 1), some (6, 1), some (7, 1)] := by
  rw [Try.underlying36] at h; cases h; rfl
theorem places32 {fs : Array Field} (h : Try.prog.underlying 32 = some (.struct fs)) : places Try.prog fs = [some (0, 1), some (1, 1), some (2, 1), some (3, 1), some (4, 1)] := by
  rw [Try.underlying32] at h; cases h; rfl
theorem places59 {fs : Array Field} (h : Try.prog.underlying 59 = some (.struct fs)) : places Try.prog fs = [some (0, 1), some (1, 1), some (2, 1), some (3, 1), some (4, 1), some (5, 1), some (6, 1)] := by
  rw [Try.underlying59] at h; cases h; rfl
theorem places63 {fs : Array Field} (h : Try.prog.underlying 63 = some (.struct fs)) : places Try.prog fs = [some (0, 1), some (1, 1), some (2, 7)] := by
  rw [Try.underlying63] at h; cases h; rfl


/-! ### humpyard/humpgen.New -/

theorem u_gen_New {N : Nat}  {z0 z : Nat → Blk} {e m : Mem} {k : Option Nat} {fr : Nat → Value} {x0 : List Int} {v0 : Value} (hz : Zx e.next z0 z) (st : St z e m k) (h0 : fr 0 = v0) (s0 : SlR (TInt 3 .i64) z x0 v0) {r : Maker} (hr : gen_New N x0 = some r) : W Try.prog (sub (bodyOf Try.f9) []) (fun ex fr' m' => ∃ z', Zx e.next z0 z' ∧ St z' e m' k ∧ (ex = .normal ∨ ex = .ret) ∧ ∃ (c2 : Nat) (w2_0 : Value), fr' 2 = (vP c2) ∧ SlR (TInt 3 .i64) z' r.l w2_0 ∧ Bx z' e m' k c2 [w2_0, (vI r.n)] 52 ∧ (e.next ≤ c2 ∨ k = some c2) ∧ True) fr m := by
 unfold gen_New at hr
 refine W.seq (W.region ?_)
 refine sx rfl (pAssign (v := (Value.pointer none)) rfl rfl) ?_
 refine SeqW.done fun fr1 hf2 => ?_
 have h0 := (congrFun hf2 0).trans h0
 clear hf2
 refine thenQ.n (W.seq (W.region ?_))
 refine sx rfl (pMove (v := v0) rfl h0) ?_
 obtain ⟨A3, c4, eA3⟩ := s0.len
 subst eA3
 refine SeqW.consX rfl (kBuildS [(0, (Value.slice A3 (x0).length c4))] [(Value.slice A3 (x0).length c4), (vI 0)] rfl Try.underlying52 Try.type52 rfl rfl (places52 Try.underlying52) rfl (rfl) rfl ?_)
 refine SeqW.consX rfl (kBox (v := (Value.agg [(Value.slice A3 (x0).length c4), (vI 0)].toArray)) rfl Try.type52 rfl rfl [(Value.slice A3 (x0).length c4), (vI 0)] rfl rfl st ?_)
 intro B5 m6  st X7 sm8 hap9
 refine sx rfl (pAssign (v := (vP B5)) rfl rfl) ?_
 refine SeqW.done fun fr11 hf12 => ?_
 have h2 : fr11 2 = (vP B5) := (congrFun hf12 2).trans rfl
 clear hf12
 refine thenQ.n ?_
 refine W.ret ?_
 obtain rfl := Option.some.inj hr
 exact ⟨z, hz, st, .inr rfl, B5, (Value.slice A3 (x0).length c4), h2, s0, X7, X7.fresh, trivial⟩

theorem c_gen_New {N : Nat} {z : Nat → Blk} {m : Mem} {x0 : List Int} {v0 : Value} (fz : Fz z m) (hd : ∀ b, m.next ≤ b → m.blk b = .dead) (s0 : SlR (TInt 3 .i64) z x0 v0) {r : Maker} (hr : gen_New N x0 = some r) : CallW Try.prog 9 #[v0] m fun v m' => ∃ z' c2 w2_0, Zx m.next z z' ∧ Fz z' m' ∧ Same m m' none ∧ v = (vP c2) ∧ SlR (TInt 3 .i64) z' r.l w2_0 ∧ Bx z' m m' none c2 [w2_0, (vI r.n)] 52 ∧ m.next ≤ c2 ∧ True := by
 refine CallW.any Try.func9 rfl (by kernel_rfl) (Nat.le_of_ble_eq_true rfl) (fun fr hf => ?_)
 have h0 : fr 0 = _ := hf 0 _ rfl
 refine (u_gen_New (k := none) (Zx.refl _) (St.start fz hd) h0 s0 hr).mono ?_
 rintro ex fr' m' ⟨z', hz, st, he, c2, w2_0, h2, s2_0, bx2, fx2, -⟩
 exact ⟨he, [(vP c2)], ⟨h2.symm, trivial⟩, .inl rfl, z', c2, w2_0, hz, st.fz, st.toSame, rfl, s2_0, bx2, (fx2.resolve_right (by simp)), trivial⟩

/-! ### (*humpyard/humpgen.Maker).Next -/

theorem u_Maker_Next_0 {N : Nat}  {z0 z : Nat → Blk} {e m : Mem} {k : Option Nat} {fr : Nat → Value} {x0 : Maker} {x5 : Int} {x11 : Bool} {v0_0 : Value} {b0 : Nat} (hz : Zx e.next z0 z) (st : St z e m k) (h0 : fr 0 = (vP b0)) (s0_0 : SlR (TInt 3 .i64) z x0.l v0_0) (bx0 : Bx z e m k b0 [v0_0, (vI x0.n)] 52) (h5 : fr 5 = (vI x5)) (h11 : fr 11 = (vB x11)) {r : Int} (hr : Maker_Next_0 N x0 x5 x11 = some r) : W Try.prog (sub (bodyOf Try.f13) [1, 1, 0, 1]) (fun ex fr' m' => ∃ z', Zx e.next z0 z' ∧ St z' e m' k ∧ ex = AExit.normal ∧ fr' 5 = (vI r) ∧ Bx z' e m' k b0 [v0_0, (vI x0.n)] 52 ∧ True) fr m := by
 unfold Maker_Next_0 at hr
 rcases if_some hr with ⟨hc7, hr⟩ | ⟨hc20, hr⟩
 ·refine W.condT h11 hc7 ?_
  refine W.calm (by decide) ?_
  refine sx rfl (pMove (v := (vP b0)) rfl h0) ?_
  refine sx rfl (PureR.nilCheck _ _ rfl rfl) ?_
  refine SeqW.consX rfl (kField rfl Try.underlying52 rfl Try.type22 rfl rfl rfl ?_)
  refine SeqW.consX rfl (kLoad rfl Try.underlying22 rfl rfl (bx0.load (v := v0_0) rfl) ?_)
  refine sx rfl (pMove (v := (vP b0)) rfl h0) ?_
  refine sx rfl (PureR.nilCheck _ _ rfl rfl) ?_
  refine SeqW.consX rfl (kField rfl Try.underlying52 rfl Try.type3 rfl rfl rfl ?_)
  refine SeqW.consX rfl (kLoad rfl Try.underlying3 rfl rfl (bx0.load (v := (vI x0.n)) rfl) ?_)
  refine sx rfl (pMove (v := (vP b0)) rfl h0) ?_
  refine sx rfl (PureR.nilCheck _ _ rfl rfl) ?_
  refine SeqW.consX rfl (kField rfl Try.underlying52 rfl Try.type22 rfl rfl rfl ?_)
  refine SeqW.consX rfl (kLoad rfl Try.underlying22 rfl rfl (bx0.load (v := v0_0) rfl) ?_)
  refine sx rfl (pLenR (xs := x0.l) rfl Try.underlying22 rfl s0_0) ?_
  obtain ⟨y8, hy8, hr⟩ := bind_some hr
  refine SeqW.consX rfl (kRem (k1 := .i64) (a := x0.n) (b := (x0.l.length : Int)) rfl rfl rfl hy8 ?_)
  obtain ⟨y9, hy9, hr⟩ := bind_some hr
  refine SeqW.consX rfl (kIdxR (T := (TInt 3 .i64)) (xs := x0.l) (n := y8) rfl Try.underlying22 Try.type3 rfl rfl rfl s0_0 hy9 ?_)
  intro B10 f11 cs12 hd13 hc14
  obtain rfl := hd13
  refine SeqW.consX rfl (kLoad (v := (vI y9)) rfl Try.underlying3 rfl rfl (ldz_load st.fz (hc14 0 _ rfl)) ?_)
  refine sx rfl (pMove (v := (vP b0)) rfl h0) ?_
  refine sx rfl (PureR.nilCheck _ _ rfl rfl) ?_
  refine SeqW.consX rfl (kField rfl Try.underlying52 rfl Try.type3 rfl rfl rfl ?_)
  refine SeqW.consX rfl (kLoad rfl Try.underlying3 rfl rfl (bx0.load (v := (vI x0.n)) rfl) ?_)
  refine sx rfl (pMove (v := (vP b0)) rfl h0) ?_
  refine sx rfl (PureR.nilCheck _ _ rfl rfl) ?_
  refine SeqW.consX rfl (kField rfl Try.underlying52 rfl Try.type22 rfl rfl rfl ?_)
  refine SeqW.consX rfl (kLoad rfl Try.underlying22 rfl rfl (bx0.load (v := v0_0) rfl) ?_)
  refine sx rfl (pLenR (xs := x0.l) rfl Try.underlying22 rfl s0_0) ?_
  obtain ⟨y16, hy16, hr⟩ := bind_some hr
  refine SeqW.consX rfl (kQuo (k1 := .i64) (a := x0.n) (b := (x0.l.length : Int)) rfl rfl rfl hy16 ?_)
  refine sx rfl (pMul (k := .i64) (a := (IntKind.wrap .i64 (y16))) (b := 7919) rfl rfl rfl) ?_
  refine sx rfl (pAdd (k := .i64) (a := y9) (b := (IntKind.wrap .i64 ((IntKind.wrap .i64 (y16)) * 7919))) rfl rfl rfl) ?_
  obtain ⟨y17, hy17, hr⟩ := lt_some hr
  refine sx rfl (pAssign rfl (congrArg (Value.int .i64) hy17)) ?_
  refine SeqW.done fun fr18 hf19 => ?_
  have h0 := (congrFun hf19 0).trans h0
  have h5 : fr18 5 = (vI y17) := (congrFun hf19 5).trans rfl
  clear hf19
  obtain rfl := Option.some.inj hr
  exact ⟨z, hz, st, rfl, h5, bx0, trivial⟩
 ·refine W.condF h11 hc20 (W.skip ?_)
  obtain rfl := Option.some.inj hr
  exact ⟨z, hz, st, rfl, h5, bx0, trivial⟩

theorem u_Maker_Next_1 {N : Nat}  {z0 z : Nat → Blk} {e m : Mem} {k : Option Nat} {fr : Nat → Value} {x1 : Int} {x5 : Int} {x51 : Bool} {x0 : Maker} {v0_0 : Value} {b0 : Nat} (hz : Zx e.next z0 z) (st : St z e m k) (h0 : fr 0 = (vP b0)) (s0_0 : SlR (TInt 3 .i64) z x0.l v0_0) (bx0 : Bx z e m k b0 [v0_0, (vI x0.n)] 52) (h1 : fr 1 = (vI x1)) (h5 : fr 5 = (vI x5)) (h51 : fr 51 = (vB x51)) {r : Int} (hr : Maker_Next_1 N x1 x5 x51 = some r) : W Try.prog (sub (bodyOf Try.f13) [1, 1, 1, 1, 1, 0, 1]) (fun ex fr' m' => ∃ z', Zx e.next z0 z' ∧ St z' e m' k ∧ ex = AExit.normal ∧ fr' 5 = (vI r) ∧ Bx z' e m' k b0 [v0_0, (vI x0.n)] 52 ∧ True) fr m := by
 unfold Maker_Next_1 at hr
 rcases if_some hr with ⟨hc38, hr⟩ | ⟨hc42, hr⟩
 ·refine W.condT h51 hc38 (W.region ?_)
  refine sx rfl (pMove (v := (vI x5)) rfl h5) ?_
  refine sx rfl (pMove (v := (vI x1)) rfl h1) ?_
  refine sx rfl (pAdd (k := .i64) (a := x5) (b := x1) rfl rfl rfl) ?_
  obtain ⟨y39, hy39, hr⟩ := lt_some hr
  refine sx rfl (pAssign rfl (congrArg (Value.int .i64) hy39)) ?_
  refine SeqW.done fun fr40 hf41 => ?_
  have h0 := (congrFun hf41 0).trans h0
  have h5 : fr40 5 = (vI y39) := (congrFun hf41 5).trans rfl
  clear hf41
  obtain rfl := Option.some.inj hr
  exact ⟨z, hz, st, rfl, h5, bx0, trivial⟩
 ·refine W.condF h51 hc42 (W.skip ?_)
  obtain rfl := Option.some.inj hr
  exact ⟨z, hz, st, rfl, h5, bx0, trivial⟩

theorem u_Maker_Next {N : Nat}  {z0 z : Nat → Blk} {e m : Mem} {k : Option Nat} {fr : Nat → Value} {x0 : Maker} {x1 : Int} {v0_0 : Value} {b0 : Nat} (hz : Zx e.next z0 z) (st : St z e m k) (h0 : fr 0 = (vP b0)) (s0_0 : SlR (TInt 3 .i64) z x0.l v0_0) (bx0 : Bx z e m k b0 [v0_0, (vI x0.n)] 52) (h1 : fr 1 = (vI x1)) {r : Int × Maker} (hr : Maker_Next N x0 x1 = some r) : W Try.prog (sub (bodyOf Try.f13) []) (fun ex fr' m' => ∃ z', Zx e.next z0 z' ∧ St z' e m' k ∧ (ex = .normal ∨ ex = .ret) ∧ ∃ (wr_0 : Value), fr' 4 = (vI r.1) ∧ SlR (TInt 3 .i64) z' r.2.l wr_0 ∧ Bx z' e m' k b0 [wr_0, (vI r.2.n)] 52 ∧ True) fr m := by
 unfold Maker_Next at hr
 refine W.seq (W.region ?_)
 refine sx rfl (pAssign (v := (vI 0)) rfl rfl) ?_
 refine SeqW.done fun fr1 hf2 => ?_
 have h0 := (congrFun hf2 0).trans h0
 have h1 := (congrFun hf2 1).trans h1
 clear hf2
 refine thenQ.n (W.seq (W.region ?_))
 refine sx rfl (pAssign (v := (vI 0)) rfl rfl) ?_
 refine SeqW.done fun fr3 hf4 => ?_
 have h0 := (congrFun hf4 0).trans h0
 have h1 := (congrFun hf4 1).trans h1
 have h5 : fr3 5 = (vI 0) := (congrFun hf4 5).trans rfl
 clear hf4
 refine thenQ.n (W.seq ?_)
 refine W.seq (W.region ?_)
 refine sx rfl (pMove (v := (vP b0)) rfl h0) ?_
 refine sx rfl (PureR.nilCheck _ _ rfl rfl) ?_
 refine SeqW.consX rfl (kField rfl Try.underlying52 rfl Try.type22 rfl rfl rfl ?_)
 refine SeqW.consX rfl (kLoad rfl Try.underlying22 rfl rfl (bx0.load (v := v0_0) rfl) ?_)
 refine sx rfl (pLenR (xs := x0.l) rfl Try.underlying22 rfl s0_0) ?_
 refine sx rfl (pGtr (k := .i64) (a := (x0.l.length : Int)) (b := 0) rfl rfl rfl) ?_
 refine SeqW.done fun fr5 hf6 => ?_
 have h0 := (congrFun hf6 0).trans h0
 have h1 := (congrFun hf6 1).trans h1
 have h5 := (congrFun hf6 5).trans h5
 have h11 : fr5 11 = (vB (decide (0 < (x0.l.length : Int)))) := (congrFun hf6 11).trans rfl
 clear hf6
 refine thenQ.n ?_
 obtain ⟨y21, hy21, hr⟩ := bind_some hr
 refine W.keep (u_Maker_Next_0 (x0 := x0) (Zx.refl _) st h0 s0_0 bx0 h5 h11 hy21) ?_
 rintro ex27 fr22 m23 hk25 ⟨z24, hz26, st, rfl, h5, O28, -⟩
 replace s0_0 := s0_0.mono hz26.le
 have h0 := (hk25 0 rfl).trans h0
 have h1 := (hk25 1 rfl).trans h1
 replace hz := hz.trans hz26
 clear hk25
 refine thenQ.n (W.seq (W.region ?_))
 refine sx rfl (pMove (v := (vP b0)) rfl h0) ?_
 refine sx rfl (PureR.nilCheck _ _ rfl rfl) ?_
 refine SeqW.consX rfl (kField rfl Try.underlying52 rfl Try.type3 rfl rfl rfl ?_)
 refine SeqW.consX rfl (kLoad rfl Try.underlying3 rfl rfl (O28.load (v := (vI x0.n)) rfl) ?_)
 refine sx rfl (pAdd (k := .i64) (a := x0.n) (b := 1) rfl rfl rfl) ?_
 refine sx rfl (PureR.nilCheck _ _ rfl rfl) ?_
 refine SeqW.consX rfl (kField rfl Try.underlying52 rfl Try.type3 rfl rfl rfl ?_)
 refine SeqW.consX rfl (kPut (off := 1) (w := (vI (IntKind.wrap .i64 (x0.n + 1)))) (new := [(vI (IntKind.wrap .i64 (x0.n + 1)))]) rfl Try.type3 rfl rfl rfl rfl rfl O28 rfl [v0_0, (vI (IntKind.wrap .i64 (x0.n + 1)))] rfl st ?_)
 intro m29 st O28 sm30
 refine SeqW.done fun fr31 hf32 => ?_
 have h0 := (congrFun hf32 0).trans h0
 have h1 := (congrFun hf32 1).trans h1
 have h5 := (congrFun hf32 5).trans h5
 clear hf32
 refine thenQ.n (W.seq (W.region ?_))
 refine sx rfl (pMove (v := (vI y21)) rfl h5) ?_
 refine sx rfl (pMove (v := (vI x1)) rfl h1) ?_
 obtain ⟨y33, hy33, hr⟩ := bind_some hr
 refine SeqW.consX rfl (kRem (k1 := .i64) (a := y21) (b := x1) rfl rfl rfl hy33 ?_)
 refine sx rfl (pAssign (v := (vI y33)) rfl rfl) ?_
 refine SeqW.done fun fr34 hf35 => ?_
 have h0 := (congrFun hf35 0).trans h0
 have h1 := (congrFun hf35 1).trans h1
 have h5 : fr34 5 = (vI y33) := (congrFun hf35 5).trans rfl
 clear hf35
 refine thenQ.n (W.seq ?_)
 refine W.seq (W.region ?_)
 refine sx rfl (pMove (v := (vI y33)) rfl h5) ?_
 refine sx rfl (pLss (k := .i64) (a := y33) (b := 0) rfl rfl rfl) ?_
 refine SeqW.done fun fr36 hf37 => ?_
 have h0 := (congrFun hf37 0).trans h0
 have h1 := (congrFun hf37 1).trans h1
 have h5 := (congrFun hf37 5).trans h5
 have h51 : fr36 51 = (vB (decide (y33 < 0))) := (congrFun hf37 51).trans rfl
 clear hf37
 refine thenQ.n ?_
 obtain ⟨y43, hy43, hr⟩ := bind_some hr
 refine W.keep (u_Maker_Next_1 (x0 := (Maker.mk x0.l (IntKind.wrap .i64 (x0.n + 1)))) (Zx.refl _) st h0 s0_0 O28 h1 h5 h51 hy43) ?_
 rintro ex49 fr44 m45 hk47 ⟨z46, hz48, st, rfl, h5, O50, -⟩
 replace s0_0 := s0_0.mono hz48.le
 have h0 := (hk47 0 rfl).trans h0
 replace hz := hz.trans hz48
 clear hk47
 refine thenQ.n (W.seq (W.region ?_))
 refine sx rfl (pMove (v := (vI y43)) rfl h5) ?_
 refine sx rfl (pAssign (v := (vI y43)) rfl rfl) ?_
 refine SeqW.done fun fr51 hf52 => ?_
 have h0 := (congrFun hf52 0).trans h0
 have h4 : fr51 4 = (vI y43) := (congrFun hf52 4).trans rfl
 clear hf52
 refine thenQ.n ?_
 refine W.ret ?_
 obtain rfl := Option.some.inj hr
 exact ⟨z46, hz, st, .inr rfl, v0_0, h4, s0_0, O50, trivial⟩

theorem c_Maker_Next {N : Nat} {z : Nat → Blk} {m : Mem} {x0 : Maker} {x1 : Int} {v0_0 : Value} {b0 : Nat} (fz : Fz z m) (hd : ∀ b, m.next ≤ b → m.blk b = .dead) (s0_0 : SlR (TInt 3 .i64) z x0.l v0_0) (bx0 : Bx z m m (some b0) b0 [v0_0, (vI x0.n)] 52) {r : Int × Maker} (hr : Maker_Next N x0 x1 = some r) : CallW Try.prog 13 #[(vP b0), (vI x1)] m fun v m' => ∃ z' wr_0, Zx m.next z z' ∧ Fz z' m' ∧ Same m m' (some b0) ∧ v = (vI r.1) ∧ SlR (TInt 3 .i64) z' r.2.l wr_0 ∧ Bx z' m m' (some b0) b0 [wr_0, (vI r.2.n)] 52 ∧ True := by
 refine CallW.any Try.func13 rfl (by kernel_rfl) (Nat.le_of_ble_eq_true rfl) (fun fr hf => ?_)
 have h0 : fr 0 = _ := hf 0 _ rfl
 have h1 : fr 1 = _ := hf 1 _ rfl
 refine (u_Maker_Next (k := (some b0)) (Zx.refl _) (St.start fz hd) h0 s0_0 bx0 h1 hr).mono ?_
 rintro ex fr' m' ⟨z', hz, st, he, wr_0, h4, sr_0, bxr, -⟩
 exact ⟨he, [(vI r.1)], ⟨h4.symm, trivial⟩, .inl rfl, z', wr_0, hz, st.fz, st.toSame, rfl, sr_0, bxr, trivial⟩

/-! ### (*humpyard/humpgen.Maker).Pick -/

theorem u_Maker_Pick {N : Nat}  {z0 z : Nat → Blk} {e m : Mem} {k : Option Nat} {fr : Nat → Value} {x0 : Maker} {x1 : List Int} {v0_0 : Value} {b0 : Nat} {v1 : Value} (hz : Zx e.next z0 z) (st : St z e m k) (h0 : fr 0 = (vP b0)) (s0_0 : SlR (TInt 3 .i64) z x0.l v0_0) (bx0 : Bx z e m k b0 [v0_0, (vI x0.n)] 52) (h1 : fr 1 = v1) (s1 : SlR (TInt 3 .i64) z x1 v1) {r : Int × Maker} (hr : Maker_Pick N x0 x1 = some r) : W Try.prog (sub (bodyOf Try.f14) []) (fun ex fr' m' => ∃ z', Zx e.next z0 z' ∧ St z' e m' k ∧ (ex = .normal ∨ ex = .ret) ∧ ∃ (wr_0 : Value), fr' 4 = (vI r.1) ∧ SlR (TInt 3 .i64) z' r.2.l wr_0 ∧ Bx z' e m' k b0 [wr_0, (vI r.2.n)] 52 ∧ True) fr m := by
 unfold Maker_Pick at hr
 refine W.seq (W.region ?_)
 refine sx rfl (pAssign (v := (vI 0)) rfl rfl) ?_
 refine SeqW.done fun fr1 hf2 => ?_
 have h0 := (congrFun hf2 0).trans h0
 have h1 := (congrFun hf2 1).trans h1
 clear hf2
 refine thenQ.n (W.seq (W.region ?_))
 refine sx rfl (pMove (v := v1) rfl h1) ?_
 refine sx rfl (pMove (v := (vP b0)) rfl h0) ?_
 refine sx rfl (pMove (v := v1) rfl h1) ?_
 refine sx rfl (pLenR (xs := x1) rfl Try.underlying22 rfl s1) ?_
 obtain ⟨y3, hy3, hr⟩ := bind_some hr
 refine SeqW.consX rfl (StepX.call (gCallee rfl rfl (args2 rfl rfl)) ((c_Maker_Next (x0 := x0) (z := z) st.fz st.dead s0_0 ⟨bx0.blk, bx0.lt, bx0.dead, .inr rfl⟩ hy3).mono ?_))
 rintro _ m8 ⟨z4, V9, hzx5, fz6, sm7, rfl, Q10, X12, -⟩
 replace s0_0 := s0_0.mono hzx5.le
 replace s1 := s1.mono hzx5.le
 have bx0n : Bx z4 e m8 k b0 _ _ := ⟨X12.blk, X12.lt, X12.dead, bx0.fresh⟩
 replace hz := hz.trans (Zx.here st hzx5)
 replace st := st.call hzx5 fz6 sm7 bx0.hq
 obtain ⟨y13, hy13, hr⟩ := bind_some hr
 refine SeqW.consX rfl (kIdxR (T := (TInt 3 .i64)) (xs := x1) (n := y3.1) rfl Try.underlying22 Try.type3 rfl rfl rfl s1 hy13 ?_)
 intro B14 f15 cs16 hd17 hc18
 obtain rfl := hd17
 refine SeqW.consX rfl (kLoad (v := (vI y13)) rfl Try.underlying3 rfl rfl (ldz_load st.fz (hc18 0 _ rfl)) ?_)
 refine sx rfl (pAssign (v := (vI y13)) rfl rfl) ?_
 refine SeqW.done fun fr20 hf21 => ?_
 have h0 := (congrFun hf21 0).trans h0
 have h4 : fr20 4 = (vI y13) := (congrFun hf21 4).trans rfl
 clear hf21
 refine thenQ.n ?_
 refine W.ret ?_
 obtain rfl := Option.some.inj hr
 exact ⟨z4, hz, st, .inr rfl, V9, h4, Q10, bx0n, trivial⟩

theorem c_Maker_Pick {N : Nat} {z : Nat → Blk} {m : Mem} {x0 : Maker} {x1 : List Int} {v0_0 : Value} {b0 : Nat} {v1 : Value} (fz : Fz z m) (hd : ∀ b, m.next ≤ b → m.blk b = .dead) (s0_0 : SlR (TInt 3 .i64) z x0.l v0_0) (bx0 : Bx z m m (some b0) b0 [v0_0, (vI x0.n)] 52) (s1 : SlR (TInt 3 .i64) z x1 v1) {r : Int × Maker} (hr : Maker_Pick N x0 x1 = some r) : CallW Try.prog 14 #[(vP b0), v1] m fun v m' => ∃ z' wr_0, Zx m.next z z' ∧ Fz z' m' ∧ Same m m' (some b0) ∧ v = (vI r.1) ∧ SlR (TInt 3 .i64) z' r.2.l wr_0 ∧ Bx z' m m' (some b0) b0 [wr_0, (vI r.2.n)] 52 ∧ True := by
 refine CallW.any Try.func14 rfl (by kernel_rfl) (Nat.le_of_ble_eq_true rfl) (fun fr hf => ?_)
 have h0 : fr 0 = _ := hf 0 _ rfl
 have h1 : fr 1 = _ := hf 1 _ rfl
 refine (u_Maker_Pick (k := (some b0)) (Zx.refl _) (St.start fz hd) h0 s0_0 bx0 h1 s1 hr).mono ?_
 rintro ex fr' m' ⟨z', hz, st, he, wr_0, h4, sr_0, bxr, -⟩
 exact ⟨he, [(vI r.1)], ⟨h4.symm, trivial⟩, .inl rfl, z', wr_0, hz, st.fz, st.toSame, rfl, sr_0, bxr, trivial⟩

/-! ### (*humpyard/humpgen.Maker).Digits -/

theorem u_Maker_Digits_0 : ∀ (n : Nat) {N : Nat}  {z0 z : Nat → Blk} {e m : Mem} {k : Option Nat} {fr : Nat → Value} {x0 : Maker} {x1 : Int} {x5 : List UInt8} {x6 : Int} {v0_0 : Value} {b0 : Nat} {v5 : Value} (hz : Zx e.next z0 z) (st : St z e m k) (h0 : fr 0 = (vP b0)) (s0_0 : SlR (TInt 3 .i64) z x0.l v0_0) (bx0 : Bx z e m k b0 [v0_0, (vI x0.n)] 52) (h1 : fr 1 = (vI x1)) (h5 : fr 5 = v5) (o5 : OwF (TU8 5) z e m k x5 v5) (h6 : fr 6 = (vI x6)) (ao0_o5 : Ap (some b0) (blkOf v5)) {r : Maker × List UInt8} (hr : Maker_Digits_0 N x1 n x0 x5 x6 = some r), W Try.prog (sub (bodyOf Try.f55) [1, 1, 0, 1, 0]) (fun ex fr' m' => ∃ z', Zx e.next z0 z' ∧ St z' e m' k ∧ ex = AExit.exit 0 ∧ ∃ (w0_0 : Value), fr' 0 = (vP b0) ∧ SlR (TInt 3 .i64) z' r.1.l w0_0 ∧ Bx z' e m' k b0 [w0_0, (vI r.1.n)] 52 ∧ fr' 5 = v5 ∧ OwF (TU8 5) z' e m' k r.2 v5 ∧ Ap (some b0) (blkOf v5) ∧ True) fr m := by
 intro n
 induction n with
 | zero => intro N z0 z e m k fr x0 x1 x5 x6 v0_0 b0 v5 hz st h0 s0_0 bx0 h1 h5 o5 h6 ao0_o5 r hr; cases (show (none : Option _) = some r from hr)
 | succ n ih =>
  intro N z0 z e m k fr x0 x1 x5 x6 v0_0 b0 v5 hz st h0 s0_0 bx0 h1 h5 o5 h6 ao0_o5 r hr
  unfold Maker_Digits_0 at hr
  refine W.loop1 ?_
  refine W.seq (W.seq (W.region ?_))
  refine sx rfl (pMove (v := (vI x6)) rfl h6) ?_
  refine sx rfl (pMove (v := (vI x1)) rfl h1) ?_
  refine sx rfl (pLss (k := .i64) (a := x6) (b := x1) rfl rfl rfl) ?_
  refine SeqW.done fun fr15 hf16 => ?_
  have h0 := (congrFun hf16 0).trans h0
  have h1 := (congrFun hf16 1).trans h1
  have h5 := (congrFun hf16 5).trans h5
  have h6 := (congrFun hf16 6).trans h6
  have h11 : fr15 11 = (vB (decide (x6 < x1))) := (congrFun hf16 11).trans rfl
  clear hf16
  refine thenQ.n ?_
  rcases if_some hr with ⟨hc17, hr⟩ | ⟨hc46, hr⟩
  ·refine W.condT h11 hc17 (W.skip ?_)
   refine thenQ.n (W.seq ?_)
   refine W.block ?_
   refine W.region ?_
   refine sx rfl (pMove (v := v5) rfl h5) ?_
   refine sx rfl (pMove (v := (vI x6)) rfl h6) ?_
   refine sx rfl (pMove (v := (vP b0)) rfl h0) ?_
   obtain ⟨y18, hy18, hr⟩ := bind_some hr
   refine SeqW.consX rfl (StepX.call (gCallee rfl rfl (args2 rfl rfl)) ((c_Maker_Next (x0 := x0) (z := z) st.fz st.dead s0_0 ⟨bx0.blk, bx0.lt, bx0.dead, .inr rfl⟩ hy18).mono ?_))
   rintro _ m23 ⟨z19, V24, hzx20, fz21, sm22, rfl, Q25, X27, -⟩
   replace s0_0 := s0_0.mono hzx20.le
   replace o5 := o5.call hzx20 sm22 (Ap.symm ao0_o5)
   have bx0n : Bx z19 e m23 k b0 _ _ := ⟨X27.blk, X27.lt, X27.dead, bx0.fresh⟩
   replace hz := hz.trans (Zx.here st hzx20)
   replace st := st.call hzx20 fz21 sm22 bx0.hq
   refine sx rfl (pAdd (k := .i64) (a := 48) (b := y18.1) rfl rfl rfl) ?_
   refine sx rfl (pConv (k := .i64) (a := (IntKind.wrap .i64 (48 + y18.1))) rfl Try.underlying3 Try.underlying5 rfl) ?_
   obtain ⟨y28, hy28, hr⟩ := bind_some hr
   refine SeqW.consX rfl (kIdxO (T := (TU8 5)) (xs := x5) (n := x6) rfl Try.underlying68 Try.type5 rfl rfl rfl o5 hy28 ?_)
   intro B29 l30 c31 cs32 hv33 hd34 hg35 hc36
   have hd340 := hd34
   obtain rfl := hd340
   obtain ⟨y39, hy39, hr⟩ := bind_some hr
   refine SeqW.consX rfl (kSet (T := (TU8 5)) (off := (x6 : Int).toNat * ((TU8 5)).sz) (n := (x6 : Int).toNat) (f := 0) (w := (Value.int .u8 (UInt8.toNat y39 : Int))) (new := [(Value.int .u8 (UInt8.toNat y39 : Int))]) (ecs := [(Value.int .u8 (UInt8.toNat y28 : Int))]) (ecs' := [(Value.int .u8 (UInt8.toNat y39 : Int))]) (a := y28) (a' := y39) rfl Try.type5 rfl rfl (by rw [← toU8_some hy39]; exact rfl) rfl rfl rfl o5 hv33 hg35 hd34 hc36 rfl rfl rfl st ?_)
   intro m37 st o5 sm38
   obtain ⟨y40, hy40, hr⟩ := lt_some hr
   rw [hy40] at o5
   replace bx0n := bx0n.same sm38 ao0_o5
   refine SeqW.done fun fr41 hf42 => ?_
   have h0 := (congrFun hf42 0).trans h0
   have h1 := (congrFun hf42 1).trans h1
   have h5 := (congrFun hf42 5).trans h5
   have h6 := (congrFun hf42 6).trans h6
   clear hf42
   refine blockQ.n ?_
   refine thenQ.n (W.region ?_)
   refine sx rfl (pMove (v := (vI x6)) rfl h6) ?_
   refine sx rfl (pAdd (k := .i64) (a := x6) (b := 1) rfl rfl rfl) ?_
   obtain ⟨y43, hy43, hr⟩ := lt_some hr
   refine sx rfl (pAssign rfl (congrArg (Value.int .i64) hy43)) ?_
   refine SeqW.done fun fr44 hf45 => ?_
   have h0 := (congrFun hf45 0).trans h0
   have h1 := (congrFun hf45 1).trans h1
   have h5 := (congrFun hf45 5).trans h5
   have h6 : fr44 6 = (vI y43) := (congrFun hf45 6).trans rfl
   clear hf45
   refine thenQ.n ?_
   exact ih (x0 := y18.2) hz st h0 Q25 bx0n h1 h5 o5 h6 ao0_o5 hr
  ·refine W.condF h11 hc46 ?_
   refine W.exit ?_
   refine thenQ.x ?_
   refine thenQ.x ?_
   obtain rfl := Option.some.inj hr
   exact ⟨z, hz, st, rfl, v0_0, h0, s0_0, bx0, h5, o5, ao0_o5, trivial⟩

theorem u_Maker_Digits {N : Nat}  {z0 z : Nat → Blk} {e m : Mem} {k : Option Nat} {fr : Nat → Value} {x0 : Maker} {x1 : Int} {v0_0 : Value} {b0 : Nat} (hz : Zx e.next z0 z) (st : St z e m k) (h0 : fr 0 = (vP b0)) (s0_0 : SlR (TInt 3 .i64) z x0.l v0_0) (bx0 : Bx z e m k b0 [v0_0, (vI x0.n)] 52) (h1 : fr 1 = (vI x1)) {r : List UInt8 × Maker} (hr : Maker_Digits N x0 x1 = some r) : W Try.prog (sub (bodyOf Try.f55) []) (fun ex fr' m' => ∃ z', Zx e.next z0 z' ∧ St z' e m' k ∧ (ex = .normal ∨ ex = .ret) ∧ ∃ (wr_0 : Value), fr' 4 = (str r.1) ∧ SlR (TInt 3 .i64) z' r.2.l wr_0 ∧ Bx z' e m' k b0 [wr_0, (vI r.2.n)] 52 ∧ True) fr m := by
 unfold Maker_Digits at hr
 refine W.seq (W.region ?_)
 refine sx rfl (pAssign (v := (str [])) rfl rfl) ?_
 refine SeqW.done fun fr1 hf2 => ?_
 have h0 := (congrFun hf2 0).trans h0
 have h1 := (congrFun hf2 1).trans h1
 clear hf2
 refine thenQ.n (W.seq (W.region ?_))
 refine sx rfl (pMove (v := (vI x1)) rfl h1) ?_
 obtain ⟨y3, hy3, hr⟩ := bind_some hr
 refine SeqW.consX rfl (kMake (T := (TU8 5)) (x0 := 0) (n := x1) rfl Try.underlying68 Try.type5 rfl rfl rfl rfl rfl rfl rfl rfl st hy3 ?_)
 intro V4 m5 st O6 sm7 hap8
 have A10 := hap8 _ bx0.lt'
 replace bx0 := bx0.same sm7 Ap.none'
 refine sx rfl (pAssign (v := V4) rfl rfl) ?_
 refine SeqW.done fun fr11 hf12 => ?_
 have h0 := (congrFun hf12 0).trans h0
 have h1 := (congrFun hf12 1).trans h1
 have h5 : fr11 5 = V4 := (congrFun hf12 5).trans rfl
 clear hf12
 refine thenQ.n (W.seq ?_)
 refine W.seq (W.region ?_)
 refine sx rfl (pAssign (v := (vI 0)) rfl rfl) ?_
 refine SeqW.done fun fr13 hf14 => ?_
 have h0 := (congrFun hf14 0).trans h0
 have h1 := (congrFun hf14 1).trans h1
 have h5 := (congrFun hf14 5).trans h5
 have h6 : fr13 6 = (vI 0) := (congrFun hf14 6).trans rfl
 clear hf14
 refine thenQ.n ?_
 refine W.block ?_
 obtain ⟨y47, hy47, hr⟩ := bind_some hr
 refine W.keep (u_Maker_Digits_0 (x0 := x0) _ (Zx.refl _) st h0 s0_0 bx0 h1 h5 O6 h6 A10 hy47) ?_
 rintro ex53 fr48 m49 hk51 ⟨z50, hz52, st, rfl, w54, h0, Q56, X58, h5, O60, A61, -⟩
 replace hz := hz.trans hz52
 clear hk51
 refine blockQ.hit ?_
 refine thenQ.n (W.seq (W.region ?_))
 refine sx rfl (pMove (v := V4) rfl h5) ?_
 refine SeqW.consX rfl (kStrO (s := y47.2) rfl Try.underlying68 Try.underlying5 Try.underlying9 rfl O60 ?_)
 refine sx rfl (pAssign (v := (str y47.2)) rfl rfl) ?_
 refine SeqW.done fun fr62 hf63 => ?_
 have h0 := (congrFun hf63 0).trans h0
 have h4 : fr62 4 = (str y47.2) := (congrFun hf63 4).trans rfl
 clear hf63
 refine thenQ.n ?_
 refine W.ret ?_
 obtain rfl := Option.some.inj hr
 exact ⟨z50, hz, st, .inr rfl, w54, h4, Q56, X58, trivial⟩

theorem c_Maker_Digits {N : Nat} {z : Nat → Blk} {m : Mem} {x0 : Maker} {x1 : Int} {v0_0 : Value} {b0 : Nat} (fz : Fz z m) (hd : ∀ b, m.next ≤ b → m.blk b = .dead) (s0_0 : SlR (TInt 3 .i64) z x0.l v0_0) (bx0 : Bx z m m (some b0) b0 [v0_0, (vI x0.n)] 52) {r : List UInt8 × Maker} (hr : Maker_Digits N x0 x1 = some r) : CallW Try.prog 55 #[(vP b0), (vI x1)] m fun v m' => ∃ z' wr_0, Zx m.next z z' ∧ Fz z' m' ∧ Same m m' (some b0) ∧ v = (str r.1) ∧ SlR (TInt 3 .i64) z' r.2.l wr_0 ∧ Bx z' m m' (some b0) b0 [wr_0, (vI r.2.n)] 52 ∧ True := by
 refine CallW.any Try.func55 rfl (by kernel_rfl) (Nat.le_of_ble_eq_true rfl) (fun fr hf => ?_)
 have h0 : fr 0 = _ := hf 0 _ rfl
 have h1 : fr 1 = _ := hf 1 _ rfl
 refine (u_Maker_Digits (k := (some b0)) (Zx.refl _) (St.start fz hd) h0 s0_0 bx0 h1 hr).mono ?_
 rintro ex fr' m' ⟨z', hz, st, he, wr_0, h4, sr_0, bxr, -⟩
 exact ⟨he, [(str r.1)], ⟨h4.symm, trivial⟩, .inl rfl, z', wr_0, hz, st.fz, st.toSame, rfl, sr_0, bxr, trivial⟩

/-! ### humpyard/humpyardref02.digits -/

theorem u_r02_digits_1 {N : Nat}  {z0 z : Nat → Blk} {e m : Mem} {k : Option Nat} {fr : Nat → Value} {x0 : List UInt8} {x5 : Int} (hz : Zx e.next z0 z) (st : St z e m k) (h0 : fr 0 = (str x0)) (h5 : fr 5 = (vI x5)) {r : Bool} (hr : r02_digits_1 N x0 x5 = some r) : W Try.prog (sub (bodyOf Try.f64) [1, 1, 0, 1, 0, 0, 1, 0, 0, 0]) (fun ex fr' m' => ∃ z', Zx e.next z0 z' ∧ St z' e m' k ∧ ex = AExit.normal ∧ fr' 24 = (vB r) ∧ True) fr m := by
 unfold r02_digits_1 at hr
 refine W.region ?_
 refine sx rfl (pMove (v := (str x0)) rfl h0) ?_
 refine sx rfl (pMove (v := (vI x5)) rfl h5) ?_
 obtain ⟨y14, hy14, hr⟩ := bind_some hr
 refine SeqW.consX rfl (kIndexS (s := x0) (n := x5) rfl Try.underlying9 rfl rfl hy14 ?_)
 refine sx rfl (pLss (k := .u8) (a := (UInt8.toNat y14 : Int)) (b := 48) rfl rfl rfl) ?_
 refine sx rfl (pMove (v := (vB (decide ((UInt8.toNat y14 : Int) < 48)))) rfl rfl) ?_
 rcases if_some hr with ⟨hc15, hr⟩ | ⟨hc18, hr⟩
 ·refine kx rfl rfl rfl hc15 ?_
  iterate 3 refine kx rfl rfl rfl hc15 ?_
  refine sx rfl (pPick (t := true) (v := (vB true)) rfl ((congrArg vB hc15)) rfl) ?_
  refine SeqW.done fun fr16 hf17 => ?_
  have h0 := (congrFun hf17 0).trans h0
  have h5 := (congrFun hf17 5).trans h5
  have h24 : fr16 24 = (vB true) := (congrFun hf17 24).trans rfl
  clear hf17
  obtain rfl := Option.some.inj hr
  exact ⟨z, hz, st, rfl, h24, trivial⟩
 ·refine SeqW.consG rfl rfl rfl hc18 (StepX.pure (pMove (v := (str x0)) rfl h0) ?_)
  refine SeqW.consG rfl rfl rfl hc18 (StepX.pure (pMove (v := (vI x5)) rfl h5) ?_)
  obtain ⟨y19, hy19, hr⟩ := bind_some hr
  refine SeqW.consG rfl rfl rfl hc18 (kIndexS (s := x0) (n := x5) rfl Try.underlying9 rfl rfl hy19 ?_)
  refine SeqW.consG rfl rfl rfl hc18 (StepX.pure (pGtr (k := .u8) (a := (UInt8.toNat y19 : Int)) (b := 57) rfl rfl rfl) ?_)
  refine sx rfl (pPick (t := false) (v := (vB (decide (57 < (UInt8.toNat y19 : Int))))) rfl ((congrArg vB hc18)) rfl) ?_
  refine SeqW.done fun fr20 hf21 => ?_
  have h0 := (congrFun hf21 0).trans h0
  have h5 := (congrFun hf21 5).trans h5
  have h24 : fr20 24 = (vB (decide (57 < (UInt8.toNat y19 : Int)))) := (congrFun hf21 24).trans rfl
  clear hf21
  obtain rfl := Option.some.inj hr
  exact ⟨z, hz, st, rfl, h24, trivial⟩

theorem u_r02_digits_0 : ∀ (n : Nat) {N : Nat}  {z0 z : Nat → Blk} {e m : Mem} {k : Option Nat} {fr : Nat → Value} {x0 : List UInt8} {x1 : Int} {x5 : Int} (hz : Zx e.next z0 z) (st : St z e m k) (h0 : fr 0 = (str x0)) (h1 : fr 1 = (vI x1)) (h5 : fr 5 = (vI x5)) {r : Sum (Unit) (Bool)} (hr : r02_digits_0 N x0 x1 n x5 = some r), W Try.prog (sub (bodyOf Try.f64) [1, 1, 0, 1, 0]) (fun ex fr' m' => ∃ z', Zx e.next z0 z' ∧ St z' e m' k ∧ ((∃ q, r = Sum.inl q ∧ ex = AExit.exit 0 ∧ True) ∨ (∃ q, r = Sum.inr q ∧ ex = AExit.ret ∧ fr' 4 = (vB q) ∧ True))) fr m := by
 intro n
 induction n with
 | zero => intro N z0 z e m k fr x0 x1 x5 hz st h0 h1 h5 r hr; cases (show (none : Option _) = some r from hr)
 | succ n ih =>
  intro N z0 z e m k fr x0 x1 x5 hz st h0 h1 h5 r hr
  unfold r02_digits_0 at hr
  refine W.loop1 ?_
  refine W.seq (W.seq (W.region ?_))
  refine sx rfl (pMove (v := (vI x5)) rfl h5) ?_
  refine sx rfl (pMove (v := (vI x1)) rfl h1) ?_
  refine sx rfl (pLss (k := .i64) (a := x5) (b := x1) rfl rfl rfl) ?_
  refine SeqW.done fun fr11 hf12 => ?_
  have h0 := (congrFun hf12 0).trans h0
  have h1 := (congrFun hf12 1).trans h1
  have h5 := (congrFun hf12 5).trans h5
  have h12 : fr11 12 = (vB (decide (x5 < x1))) := (congrFun hf12 12).trans rfl
  clear hf12
  refine thenQ.n ?_
  rcases if_some hr with ⟨hc13, hr⟩ | ⟨hc36, hr⟩
  ·refine W.condT h12 hc13 (W.skip ?_)
   refine thenQ.n (W.seq ?_)
   refine W.block ?_
   refine W.seq ?_
   obtain ⟨y22, hy22, hr⟩ := bind_some hr
   refine W.keep (u_r02_digits_1 (Zx.refl _) st h0 h5 hy22) ?_
   rintro ex28 fr23 m24 hk26 ⟨z25, hz27, st, rfl, h24, -⟩
   have h0 := (hk26 0 rfl).trans h0
   have h1 := (hk26 1 rfl).trans h1
   have h5 := (hk26 5 rfl).trans h5
   replace hz := hz.trans hz27
   clear hk26
   refine thenQ.n ?_
   rcases if_some hr with ⟨hc29, hr⟩ | ⟨hc32, hr⟩
   ·refine W.condT h24 hc29 (W.seq (W.region ?_))
    refine sx rfl (pAssign (v := (vB false)) rfl rfl) ?_
    refine SeqW.done fun fr30 hf31 => ?_
    have h4 : fr30 4 = (vB false) := (congrFun hf31 4).trans rfl
    clear hf31
    refine thenQ.n ?_
    refine W.ret ?_
    refine blockQ.r ?_
    refine thenQ.r ?_
    refine thenQ.r ?_
    obtain rfl := Option.some.inj hr
    exact ⟨z25, hz, st, .inr ⟨_, rfl, rfl, h4, trivial⟩⟩
   ·refine W.condF h24 hc32 (W.skip ?_)
    refine blockQ.n ?_
    refine thenQ.n (W.region ?_)
    refine sx rfl (pMove (v := (vI x5)) rfl h5) ?_
    refine sx rfl (pAdd (k := .i64) (a := x5) (b := 1) rfl rfl rfl) ?_
    obtain ⟨y33, hy33, hr⟩ := lt_some hr
    refine sx rfl (pAssign rfl (congrArg (Value.int .i64) hy33)) ?_
    refine SeqW.done fun fr34 hf35 => ?_
    have h0 := (congrFun hf35 0).trans h0
    have h1 := (congrFun hf35 1).trans h1
    have h5 : fr34 5 = (vI y33) := (congrFun hf35 5).trans rfl
    clear hf35
    refine thenQ.n ?_
    exact ih hz st h0 h1 h5 hr
  ·refine W.condF h12 hc36 ?_
   refine W.exit ?_
   refine thenQ.x ?_
   refine thenQ.x ?_
   obtain rfl := Option.some.inj hr
   exact ⟨z, hz, st, .inl ⟨_, rfl, rfl, trivial⟩⟩

theorem u_r02_digits {N : Nat}  {z0 z : Nat → Blk} {e m : Mem} {k : Option Nat} {fr : Nat → Value} {x0 : List UInt8} {x1 : Int} (hz : Zx e.next z0 z) (st : St z e m k) (h0 : fr 0 = (str x0)) (h1 : fr 1 = (vI x1)) {r : Bool} (hr : r02_digits N x0 x1 = some r) : W Try.prog (sub (bodyOf Try.f64) []) (fun ex fr' m' => ∃ z', Zx e.next z0 z' ∧ St z' e m' k ∧ (ex = .normal ∨ ex = .ret) ∧ fr' 4 = (vB r) ∧ True) fr m := by
 unfold r02_digits at hr
 refine W.seq (W.region ?_)
 refine sx rfl (pAssign (v := (vB false)) rfl rfl) ?_
 refine SeqW.done fun fr1 hf2 => ?_
 have h0 := (congrFun hf2 0).trans h0
 have h1 := (congrFun hf2 1).trans h1
 clear hf2
 refine thenQ.n (W.seq ?_)
 refine W.seq (W.region ?_)
 refine sx rfl (pMove (v := (str x0)) rfl h0) ?_
 refine sx rfl (pLenS (s := x0) rfl rfl Try.underlying9 rfl) ?_
 refine sx rfl (pMove (v := (vI x1)) rfl h1) ?_
 refine sx rfl (pNeq (k := .i64) (a := (x0.length : Int)) (b := x1) rfl rfl rfl) ?_
 refine SeqW.done fun fr3 hf4 => ?_
 have h0 := (congrFun hf4 0).trans h0
 have h1 := (congrFun hf4 1).trans h1
 have h9 : fr3 9 = (vB ((x0.length : Int) != x1)) := (congrFun hf4 9).trans rfl
 clear hf4
 refine thenQ.n ?_
 rcases if_some hr with ⟨hc5, hr⟩ | ⟨hc8, hr⟩
 ·refine W.condT h9 hc5 (W.seq (W.region ?_))
  refine sx rfl (pAssign (v := (vB false)) rfl rfl) ?_
  refine SeqW.done fun fr6 hf7 => ?_
  have h4 : fr6 4 = (vB false) := (congrFun hf7 4).trans rfl
  clear hf7
  refine thenQ.n ?_
  refine W.ret ?_
  refine thenQ.r ?_
  obtain rfl := Option.some.inj hr
  exact ⟨z, hz, st, .inr rfl, h4, trivial⟩
 ·refine W.condF h9 hc8 (W.skip ?_)
  refine thenQ.n (W.seq ?_)
  refine W.seq (W.region ?_)
  refine sx rfl (pAssign (v := (vI 0)) rfl rfl) ?_
  refine SeqW.done fun fr9 hf10 => ?_
  have h0 := (congrFun hf10 0).trans h0
  have h1 := (congrFun hf10 1).trans h1
  have h5 : fr9 5 = (vI 0) := (congrFun hf10 5).trans rfl
  clear hf10
  refine thenQ.n ?_
  refine W.block ?_
  obtain ⟨y37, hy37, hr⟩ := bind_some hr
  refine W.keep (u_r02_digits_0 _ (Zx.refl _) st h0 h1 h5 hy37) ?_
  rintro ex43 fr38 m39 hk41 ⟨z40, hz42, st, ⟨y44, rfl, rfl, -⟩ | ⟨y47, rfl, rfl, h4, -⟩⟩
  ·dsimp only at hr
   replace hz := hz.trans hz42
   clear hk41
   refine blockQ.hit ?_
   refine thenQ.n (W.seq (W.region ?_))
   refine sx rfl (pAssign (v := (vB true)) rfl rfl) ?_
   refine SeqW.done fun fr45 hf46 => ?_
   have h4 : fr45 4 = (vB true) := (congrFun hf46 4).trans rfl
   clear hf46
   refine thenQ.n ?_
   refine W.ret ?_
   obtain rfl := Option.some.inj hr
   exact ⟨z40, hz, st, .inr rfl, h4, trivial⟩
  ·dsimp only at hr
   replace hz := hz.trans hz42
   clear hk41
   refine blockQ.r ?_
   refine thenQ.r ?_
   obtain rfl := Option.some.inj hr
   exact ⟨z40, hz, st, .inr rfl, h4, trivial⟩

theorem c_r02_digits {N : Nat} {z : Nat → Blk} {m : Mem} {x0 : List UInt8} {x1 : Int} (fz : Fz z m) (hd : ∀ b, m.next ≤ b → m.blk b = .dead)  {r : Bool} (hr : r02_digits N x0 x1 = some r) : CallW Try.prog 64 #[(str x0), (vI x1)] m fun v m' => v = (vB r) ∧ m' = m := by
 refine CallW.flat Try.func64 rfl (by kernel_rfl) (Nat.le_of_ble_eq_true rfl) rfl (z := z) (fun fr hf => ?_)
 have h0 : fr 0 = _ := hf 0 _ rfl
 have h1 : fr 1 = _ := hf 1 _ rfl
 refine (u_r02_digits (k := none) (Zx.refl _) (St.start fz hd) h0 h1 hr).mono ?_
 rintro ex fr' m' ⟨z', hz, st, he, h4, -⟩
 exact ⟨he, z', st, [(vB r)], ⟨h4.symm, trivial⟩, .inl rfl, rfl⟩

/-! ### humpyard/humpyardref02.sum -/

theorem u_r02_sum_1 {N : Nat}  {z0 z : Nat → Blk} {e m : Mem} {k : Option Nat} {fr : Nat → Value} {x7 : Int} {x20 : Bool} (hz : Zx e.next z0 z) (st : St z e m k) (h7 : fr 7 = (vI x7)) (h20 : fr 20 = (vB x20)) {r : Int} (hr : r02_sum_1 N x7 x20 = some r) : W Try.prog (sub (bodyOf Try.f65) [1, 1, 0, 1, 0, 0, 1, 0, 0, 1, 0, 1]) (fun ex fr' m' => ∃ z', Zx e.next z0 z' ∧ St z' e m' k ∧ ex = AExit.normal ∧ fr' 7 = (vI r) ∧ True) fr m := by
 unfold r02_sum_1 at hr
 rcases if_some hr with ⟨hc16, hr⟩ | ⟨hc27, hr⟩
 ·refine W.condT h20 hc16 (W.seq (W.region ?_))
  refine sx rfl (pMove (v := (vI x7)) rfl h7) ?_
  refine sx rfl (pMul (k := .i64) (a := x7) (b := 2) rfl rfl rfl) ?_
  obtain ⟨y17, hy17, hr⟩ := lt_some hr
  refine sx rfl (pAssign rfl (congrArg (Value.int .i64) hy17)) ?_
  refine SeqW.done fun fr18 hf19 => ?_
  have h7 : fr18 7 = (vI y17) := (congrFun hf19 7).trans rfl
  clear hf19
  refine thenQ.n (W.seq (W.region ?_))
  refine sx rfl (pMove (v := (vI y17)) rfl h7) ?_
  refine sx rfl (pGtr (k := .i64) (a := y17) (b := 9) rfl rfl rfl) ?_
  refine SeqW.done fun fr20 hf21 => ?_
  have h7 := (congrFun hf21 7).trans h7
  have h24 : fr20 24 = (vB (decide (9 < y17))) := (congrFun hf21 24).trans rfl
  clear hf21
  refine thenQ.n ?_
  rcases if_some hr with ⟨hc22, hr⟩ | ⟨hc26, hr⟩
  ·refine W.condT h24 hc22 (W.region ?_)
   refine sx rfl (pMove (v := (vI y17)) rfl h7) ?_
   refine sx rfl (pSub (k := .i64) (a := y17) (b := 9) rfl rfl rfl) ?_
   obtain ⟨y23, hy23, hr⟩ := lt_some hr
   refine sx rfl (pAssign rfl (congrArg (Value.int .i64) hy23)) ?_
   refine SeqW.done fun fr24 hf25 => ?_
   have h7 : fr24 7 = (vI y23) := (congrFun hf25 7).trans rfl
   clear hf25
   obtain rfl := Option.some.inj hr
   exact ⟨z, hz, st, rfl, h7, trivial⟩
  ·refine W.condF h24 hc26 (W.skip ?_)
   obtain rfl := Option.some.inj hr
   exact ⟨z, hz, st, rfl, h7, trivial⟩
 ·refine W.condF h20 hc27 (W.skip ?_)
  obtain rfl := Option.some.inj hr
  exact ⟨z, hz, st, rfl, h7, trivial⟩

theorem u_r02_sum_0 : ∀ (n : Nat) {N : Nat}  {z0 z : Nat → Blk} {e m : Mem} {k : Option Nat} {fr : Nat → Value} {x0 : List UInt8} {x1 : Int} {x5 : Int} {x6 : Int} (hz : Zx e.next z0 z) (st : St z e m k) (h0 : fr 0 = (str x0)) (h1 : fr 1 = (vI x1)) (h5 : fr 5 = (vI x5)) (h6 : fr 6 = (vI x6)) {r : Int} (hr : r02_sum_0 N x0 x1 n x5 x6 = some r), W Try.prog (sub (bodyOf Try.f65) [1, 1, 0, 1, 0]) (fun ex fr' m' => ∃ z', Zx e.next z0 z' ∧ St z' e m' k ∧ ex = AExit.exit 0 ∧ fr' 5 = (vI r) ∧ True) fr m := by
 intro n
 induction n with
 | zero => intro N z0 z e m k fr x0 x1 x5 x6 hz st h0 h1 h5 h6 r hr; cases (show (none : Option _) = some r from hr)
 | succ n ih =>
  intro N z0 z e m k fr x0 x1 x5 x6 hz st h0 h1 h5 h6 r hr
  unfold r02_sum_0 at hr
  refine W.loop1 ?_
  refine W.seq (W.seq (W.region ?_))
  refine sx rfl (pMove (v := (vI x6)) rfl h6) ?_
  refine sx rfl (pMove (v := (vI x1)) rfl h1) ?_
  refine sx rfl (pLss (k := .i64) (a := x6) (b := x1) rfl rfl rfl) ?_
  refine SeqW.done fun fr7 hf8 => ?_
  have h0 := (congrFun hf8 0).trans h0
  have h1 := (congrFun hf8 1).trans h1
  have h5 := (congrFun hf8 5).trans h5
  have h6 := (congrFun hf8 6).trans h6
  have h10 : fr7 10 = (vB (decide (x6 < x1))) := (congrFun hf8 10).trans rfl
  clear hf8
  refine thenQ.n ?_
  rcases if_some hr with ⟨hc9, hr⟩ | ⟨hc41, hr⟩
  ·refine W.condT h10 hc9 (W.skip ?_)
   refine thenQ.n (W.seq ?_)
   refine W.block ?_
   refine W.seq (W.region ?_)
   refine sx rfl (pMove (v := (str x0)) rfl h0) ?_
   refine sx rfl (pMove (v := (vI x6)) rfl h6) ?_
   obtain ⟨y10, hy10, hr⟩ := bind_some hr
   refine SeqW.consX rfl (kIndexS (s := x0) (n := x6) rfl Try.underlying9 rfl rfl hy10 ?_)
   refine sx rfl (pSub (k := .u8) (a := (UInt8.toNat y10 : Int)) (b := 48) rfl rfl rfl) ?_
   refine sx rfl (pConv (k := .u8) (a := (IntKind.wrap .u8 ((UInt8.toNat y10 : Int) - 48))) rfl Try.underlying5 Try.underlying3 rfl) ?_
   obtain ⟨y11, hy11, hr⟩ := lt_some hr
   refine sx rfl (pAssign rfl (congrArg (Value.int .i64) hy11)) ?_
   refine SeqW.done fun fr12 hf13 => ?_
   have h0 := (congrFun hf13 0).trans h0
   have h1 := (congrFun hf13 1).trans h1
   have h5 := (congrFun hf13 5).trans h5
   have h6 := (congrFun hf13 6).trans h6
   have h7 : fr12 7 = (vI y11) := (congrFun hf13 7).trans rfl
   clear hf13
   refine thenQ.n (W.seq ?_)
   refine W.seq (W.region ?_)
   refine sx rfl (pMove (v := (vI x6)) rfl h6) ?_
   refine sx rfl (pRem (k := .i64) (a := x6) (b := 2) rfl rfl rfl (by decide)) ?_
   refine sx rfl (pEql (k := .i64) (a := (Int.tmod x6 2)) (b := 0) rfl rfl rfl) ?_
   refine SeqW.done fun fr14 hf15 => ?_
   have h0 := (congrFun hf15 0).trans h0
   have h1 := (congrFun hf15 1).trans h1
   have h5 := (congrFun hf15 5).trans h5
   have h6 := (congrFun hf15 6).trans h6
   have h7 := (congrFun hf15 7).trans h7
   have h20 : fr14 20 = (vB ((Int.tmod x6 2) == 0)) := (congrFun hf15 20).trans rfl
   clear hf15
   refine thenQ.n ?_
   obtain ⟨y28, hy28, hr⟩ := bind_some hr
   refine W.keep (u_r02_sum_1 (Zx.refl _) st h7 h20 hy28) ?_
   rintro ex34 fr29 m30 hk32 ⟨z31, hz33, st, rfl, h7, -⟩
   have h0 := (hk32 0 rfl).trans h0
   have h1 := (hk32 1 rfl).trans h1
   have h5 := (hk32 5 rfl).trans h5
   have h6 := (hk32 6 rfl).trans h6
   replace hz := hz.trans hz33
   clear hk32
   refine thenQ.n (W.region ?_)
   refine sx rfl (pMove (v := (vI x5)) rfl h5) ?_
   refine sx rfl (pMove (v := (vI y28)) rfl h7) ?_
   refine sx rfl (pAdd (k := .i64) (a := x5) (b := y28) rfl rfl rfl) ?_
   obtain ⟨y35, hy35, hr⟩ := lt_some hr
   refine sx rfl (pAssign rfl (congrArg (Value.int .i64) hy35)) ?_
   refine SeqW.done fun fr36 hf37 => ?_
   have h0 := (congrFun hf37 0).trans h0
   have h1 := (congrFun hf37 1).trans h1
   have h5 : fr36 5 = (vI y35) := (congrFun hf37 5).trans rfl
   have h6 := (congrFun hf37 6).trans h6
   clear hf37
   refine blockQ.n ?_
   refine thenQ.n (W.region ?_)
   refine sx rfl (pMove (v := (vI x6)) rfl h6) ?_
   refine sx rfl (pAdd (k := .i64) (a := x6) (b := 1) rfl rfl rfl) ?_
   obtain ⟨y38, hy38, hr⟩ := lt_some hr
   refine sx rfl (pAssign rfl (congrArg (Value.int .i64) hy38)) ?_
   refine SeqW.done fun fr39 hf40 => ?_
   have h0 := (congrFun hf40 0).trans h0
   have h1 := (congrFun hf40 1).trans h1
   have h5 := (congrFun hf40 5).trans h5
   have h6 : fr39 6 = (vI y38) := (congrFun hf40 6).trans rfl
   clear hf40
   refine thenQ.n ?_
   exact ih hz st h0 h1 h5 h6 hr
  ·refine W.condF h10 hc41 ?_
   refine W.exit ?_
   refine thenQ.x ?_
   refine thenQ.x ?_
   obtain rfl := Option.some.inj hr
   exact ⟨z, hz, st, rfl, h5, trivial⟩

theorem u_r02_sum {N : Nat}  {z0 z : Nat → Blk} {e m : Mem} {k : Option Nat} {fr : Nat → Value} {x0 : List UInt8} {x1 : Int} (hz : Zx e.next z0 z) (st : St z e m k) (h0 : fr 0 = (str x0)) (h1 : fr 1 = (vI x1)) {r : Int} (hr : r02_sum N x0 x1 = some r) : W Try.prog (sub (bodyOf Try.f65) []) (fun ex fr' m' => ∃ z', Zx e.next z0 z' ∧ St z' e m' k ∧ (ex = .normal ∨ ex = .ret) ∧ fr' 4 = (vI r) ∧ True) fr m := by
 unfold r02_sum at hr
 refine W.seq (W.region ?_)
 refine sx rfl (pAssign (v := (vI 0)) rfl rfl) ?_
 refine SeqW.done fun fr1 hf2 => ?_
 have h0 := (congrFun hf2 0).trans h0
 have h1 := (congrFun hf2 1).trans h1
 clear hf2
 refine thenQ.n (W.seq (W.region ?_))
 refine sx rfl (pAssign (v := (vI 0)) rfl rfl) ?_
 refine SeqW.done fun fr3 hf4 => ?_
 have h0 := (congrFun hf4 0).trans h0
 have h1 := (congrFun hf4 1).trans h1
 have h5 : fr3 5 = (vI 0) := (congrFun hf4 5).trans rfl
 clear hf4
 refine thenQ.n (W.seq ?_)
 refine W.seq (W.region ?_)
 refine sx rfl (pAssign (v := (vI 0)) rfl rfl) ?_
 refine SeqW.done fun fr5 hf6 => ?_
 have h0 := (congrFun hf6 0).trans h0
 have h1 := (congrFun hf6 1).trans h1
 have h5 := (congrFun hf6 5).trans h5
 have h6 : fr5 6 = (vI 0) := (congrFun hf6 6).trans rfl
 clear hf6
 refine thenQ.n ?_
 refine W.block ?_
 obtain ⟨y42, hy42, hr⟩ := bind_some hr
 refine W.keep (u_r02_sum_0 _ (Zx.refl _) st h0 h1 h5 h6 hy42) ?_
 rintro ex48 fr43 m44 hk46 ⟨z45, hz47, st, rfl, h5, -⟩
 replace hz := hz.trans hz47
 clear hk46
 refine blockQ.hit ?_
 refine thenQ.n (W.seq (W.region ?_))
 refine sx rfl (pMove (v := (vI y42)) rfl h5) ?_
 refine sx rfl (pAssign (v := (vI y42)) rfl rfl) ?_
 refine SeqW.done fun fr49 hf50 => ?_
 have h4 : fr49 4 = (vI y42) := (congrFun hf50 4).trans rfl
 clear hf50
 refine thenQ.n ?_
 refine W.ret ?_
 obtain rfl := Option.some.inj hr
 exact ⟨z45, hz, st, .inr rfl, h4, trivial⟩

theorem c_r02_sum {N : Nat} {z : Nat → Blk} {m : Mem} {x0 : List UInt8} {x1 : Int} (fz : Fz z m) (hd : ∀ b, m.next ≤ b → m.blk b = .dead)  {r : Int} (hr : r02_sum N x0 x1 = some r) : CallW Try.prog 65 #[(str x0), (vI x1)] m fun v m' => v = (vI r) ∧ m' = m := by
 refine CallW.flat Try.func65 rfl (by kernel_rfl) (Nat.le_of_ble_eq_true rfl) rfl (z := z) (fun fr hf => ?_)
 have h0 : fr 0 = _ := hf 0 _ rfl
 have h1 : fr 1 = _ := hf 1 _ rfl
 refine (u_r02_sum (k := none) (Zx.refl _) (St.start fz hd) h0 h1 hr).mono ?_
 rintro ex fr' m' ⟨z', hz, st, he, h4, -⟩
 exact ⟨he, z', st, [(vI r)], ⟨h4.symm, trivial⟩, .inl rfl, rfl⟩

/-! ### humpyard/humpyardref02.Digit -/

theorem u_r02_Digit {N : Nat}  {z0 z : Nat → Blk} {e m : Mem} {k : Option Nat} {fr : Nat → Value} {x0 : List UInt8} (hz : Zx e.next z0 z) (st : St z e m k) (h0 : fr 0 = (str x0)) {r : Int × Int} (hr : r02_Digit N x0 = some r) : W Try.prog (sub (bodyOf Try.f56) []) (fun ex fr' m' => ∃ z', Zx e.next z0 z' ∧ St z' e m' k ∧ (ex = .normal ∨ ex = .ret) ∧ fr' 2 = (vI r.1) ∧ fr' 3 = (vI r.2) ∧ True) fr m := by
 unfold r02_Digit at hr
 refine W.seq (W.region ?_)
 refine sx rfl (pAssign (v := (vI 0)) rfl rfl) ?_
 refine sx rfl (pAssign (v := (vI 0)) rfl rfl) ?_
 refine SeqW.done fun fr1 hf2 => ?_
 have h0 := (congrFun hf2 0).trans h0
 clear hf2
 refine thenQ.n (W.seq ?_)
 refine W.seq (W.region ?_)
 refine sx rfl (pMove (v := (str x0)) rfl h0) ?_
 obtain ⟨y3, hy3, hr⟩ := bind_some hr
 refine SeqW.consX rfl (StepX.call (gCallee rfl rfl (args2 rfl rfl)) ((c_r02_digits (z := z) st.fz st.dead  hy3).mono ?_))
 rintro _ _ ⟨rfl, rfl⟩
 refine sx rfl (pNot (b := y3) rfl rfl) ?_
 refine SeqW.done fun fr4 hf5 => ?_
 have h0 := (congrFun hf5 0).trans h0
 have h6 : fr4 6 = (vB (!y3)) := (congrFun hf5 6).trans rfl
 clear hf5
 refine thenQ.n ?_
 rcases if_some hr with ⟨hc6, hr⟩ | ⟨hc9, hr⟩
 ·refine W.condT h6 hc6 (W.seq (W.region ?_))
  refine sx rfl (pAssign (v := (vI 0)) rfl rfl) ?_
  refine sx rfl (pAssign (v := (vI 11)) rfl rfl) ?_
  refine SeqW.done fun fr7 hf8 => ?_
  have h2 : fr7 2 = (vI 0) := (congrFun hf8 2).trans rfl
  have h3 : fr7 3 = (vI 11) := (congrFun hf8 3).trans rfl
  clear hf8
  refine thenQ.n ?_
  refine W.ret ?_
  refine thenQ.r ?_
  obtain rfl := Option.some.inj hr
  exact ⟨z, hz, st, .inr rfl, h2, h3, trivial⟩
 ·refine W.condF h6 hc9 (W.skip ?_)
  refine thenQ.n (W.seq (W.region ?_))
  refine sx rfl (pMove (v := (str x0)) rfl h0) ?_
  obtain ⟨y10, hy10, hr⟩ := bind_some hr
  refine SeqW.consX rfl (StepX.call (gCallee rfl rfl (args2 rfl rfl)) ((c_r02_sum (z := z) st.fz st.dead  hy10).mono ?_))
  rintro _ _ ⟨rfl, rfl⟩
  refine sx rfl (pRem (k := .i64) (a := y10) (b := 10) rfl rfl rfl (by decide)) ?_
  refine sx rfl (pSub (k := .i64) (a := 10) (b := (Int.tmod y10 10)) rfl rfl rfl) ?_
  refine sx rfl (pRem (k := .i64) (a := (IntKind.wrap .i64 (10 - (Int.tmod y10 10)))) (b := 10) rfl rfl rfl (by decide)) ?_
  obtain ⟨y11, hy11, hr⟩ := lt_some hr
  refine sx rfl (pAssign rfl (congrArg (Value.int .i64) hy11)) ?_
  refine sx rfl (pAssign (v := (vI 0)) rfl rfl) ?_
  refine SeqW.done fun fr12 hf13 => ?_
  have h2 : fr12 2 = (vI y11) := (congrFun hf13 2).trans rfl
  have h3 : fr12 3 = (vI 0) := (congrFun hf13 3).trans rfl
  clear hf13
  refine thenQ.n ?_
  refine W.ret ?_
  obtain rfl := Option.some.inj hr
  exact ⟨z, hz, st, .inr rfl, h2, h3, trivial⟩

theorem c_r02_Digit {N : Nat} {z : Nat → Blk} {m : Mem} {x0 : List UInt8} (fz : Fz z m) (hd : ∀ b, m.next ≤ b → m.blk b = .dead)  {r : Int × Int} (hr : r02_Digit N x0 = some r) : CallW Try.prog 56 #[(str x0)] m fun v m' => v = (Value.tuple [(vI r.1), (vI r.2)].toArray) ∧ m' = m := by
 refine CallW.flat Try.func56 rfl (by kernel_rfl) (Nat.le_of_ble_eq_true rfl) rfl (z := z) (fun fr hf => ?_)
 have h0 : fr 0 = _ := hf 0 _ rfl
 refine (u_r02_Digit (k := none) (Zx.refl _) (St.start fz hd) h0 hr).mono ?_
 rintro ex fr' m' ⟨z', hz, st, he, h2, h3, -⟩
 exact ⟨he, z', st, [(vI r.1), (vI r.2)], ⟨h2.symm, h3.symm, trivial⟩, .inr (List.forall_mem_cons.2 ⟨rfl, List.forall_mem_cons.2 ⟨rfl, fun _ h => nomatch h⟩⟩), rfl⟩

/-! ### (*humpyard/humpgen.Maker).Number -/

theorem u_Maker_Number {N : Nat}  {z0 z : Nat → Blk} {e m : Mem} {k : Option Nat} {fr : Nat → Value} {x0 : Maker} {x1 : Int} {v0_0 : Value} {b0 : Nat} (hz : Zx e.next z0 z) (st : St z e m k) (h0 : fr 0 = (vP b0)) (s0_0 : SlR (TInt 3 .i64) z x0.l v0_0) (bx0 : Bx z e m k b0 [v0_0, (vI x0.n)] 52) (h1 : fr 1 = (vI x1)) {r : List UInt8 × Maker} (hr : Maker_Number N x0 x1 = some r) : W Try.prog (sub (bodyOf Try.f32) []) (fun ex fr' m' => ∃ z', Zx e.next z0 z' ∧ St z' e m' k ∧ (ex = .normal ∨ ex = .ret) ∧ ∃ (wr_0 : Value), fr' 4 = (str r.1) ∧ SlR (TInt 3 .i64) z' r.2.l wr_0 ∧ Bx z' e m' k b0 [wr_0, (vI r.2.n)] 52 ∧ True) fr m := by
 unfold Maker_Number at hr
 refine W.seq (W.region ?_)
 refine sx rfl (pAssign (v := (str [])) rfl rfl) ?_
 refine SeqW.done fun fr1 hf2 => ?_
 have h0 := (congrFun hf2 0).trans h0
 have h1 := (congrFun hf2 1).trans h1
 clear hf2
 refine thenQ.n (W.seq (W.region ?_))
 refine sx rfl (pMove (v := (vP b0)) rfl h0) ?_
 obtain ⟨y3, hy3, hr⟩ := bind_some hr
 refine SeqW.consX rfl (StepX.call (gCallee rfl rfl (args2 rfl rfl)) ((c_Maker_Digits (x0 := x0) (z := z) st.fz st.dead s0_0 ⟨bx0.blk, bx0.lt, bx0.dead, .inr rfl⟩ hy3).mono ?_))
 rintro _ m8 ⟨z4, V9, hzx5, fz6, sm7, rfl, Q10, X12, -⟩
 replace s0_0 := s0_0.mono hzx5.le
 have bx0n : Bx z4 e m8 k b0 _ _ := ⟨X12.blk, X12.lt, X12.dead, bx0.fresh⟩
 replace hz := hz.trans (Zx.here st hzx5)
 replace st := st.call hzx5 fz6 sm7 bx0.hq
 obtain ⟨y13, hy13, hr⟩ := bind_some hr
 refine SeqW.consX rfl (kBytes (s := y3.1) rfl Try.underlying9 Try.underlying68 Try.underlying5 Try.type5 rfl rfl hy13 st ?_)
 intro V14 m15 st O16 sm17 hap18
 have A20 := hap18 _ bx0n.lt'
 replace bx0n := bx0n.same sm17 Ap.none'
 refine sx rfl (pAssign (v := V14) rfl rfl) ?_
 refine SeqW.done fun fr21 hf22 => ?_
 have h0 := (congrFun hf22 0).trans h0
 have h1 := (congrFun hf22 1).trans h1
 have h5 : fr21 5 = V14 := (congrFun hf22 5).trans rfl
 clear hf22
 refine thenQ.n (W.seq (W.region ?_))
 refine sx rfl (pMove (v := V14) rfl h5) ?_
 refine sx rfl (pMove (v := V14) rfl h5) ?_
 refine sx rfl (pMove (v := V14) rfl h5) ?_
 refine sx rfl (pMove (v := (vI x1)) rfl h1) ?_
 refine sx rfl (pQuo (k := .i64) (a := x1) (b := 100) rfl rfl rfl (by decide)) ?_
 refine sx rfl (pRem (k := .i64) (a := (IntKind.wrap .i64 (Int.tdiv x1 100))) (b := 10) rfl rfl rfl (by decide)) ?_
 refine sx rfl (pAdd (k := .i64) (a := 48) (b := (Int.tmod (IntKind.wrap .i64 (Int.tdiv x1 100)) 10)) rfl rfl rfl) ?_
 refine sx rfl (pConv (k := .i64) (a := (IntKind.wrap .i64 (48 + (Int.tmod (IntKind.wrap .i64 (Int.tdiv x1 100)) 10)))) rfl Try.underlying3 Try.underlying5 rfl) ?_
 refine sx rfl (pMove (v := (vI x1)) rfl h1) ?_
 refine sx rfl (pQuo (k := .i64) (a := x1) (b := 10) rfl rfl rfl (by decide)) ?_
 refine sx rfl (pRem (k := .i64) (a := (IntKind.wrap .i64 (Int.tdiv x1 10))) (b := 10) rfl rfl rfl (by decide)) ?_
 refine sx rfl (pAdd (k := .i64) (a := 48) (b := (Int.tmod (IntKind.wrap .i64 (Int.tdiv x1 10)) 10)) rfl rfl rfl) ?_
 refine sx rfl (pConv (k := .i64) (a := (IntKind.wrap .i64 (48 + (Int.tmod (IntKind.wrap .i64 (Int.tdiv x1 10)) 10)))) rfl Try.underlying3 Try.underlying5 rfl) ?_
 refine sx rfl (pMove (v := (vI x1)) rfl h1) ?_
 refine sx rfl (pRem (k := .i64) (a := x1) (b := 10) rfl rfl rfl (by decide)) ?_
 refine sx rfl (pAdd (k := .i64) (a := 48) (b := (Int.tmod x1 10)) rfl rfl rfl) ?_
 refine sx rfl (pConv (k := .i64) (a := (IntKind.wrap .i64 (48 + (Int.tmod x1 10)))) rfl Try.underlying3 Try.underlying5 rfl) ?_
 obtain ⟨y23, hy23, hr⟩ := bind_some hr
 refine SeqW.consX rfl (kIdxO (T := (TU8 5)) (xs := y13) (n := 8) rfl Try.underlying68 Try.type5 rfl rfl rfl O16 hy23 ?_)
 intro B24 l25 c26 cs27 hv28 hd29 hg30 hc31
 have hd290 := hd29
 obtain rfl := hd290
 obtain ⟨y34, hy34, hr⟩ := bind_some hr
 refine SeqW.consX rfl (kSet (T := (TU8 5)) (off := (8 : Int).toNat * ((TU8 5)).sz) (n := (8 : Int).toNat) (f := 0) (w := (Value.int .u8 (UInt8.toNat y34 : Int))) (new := [(Value.int .u8 (UInt8.toNat y34 : Int))]) (ecs := [(Value.int .u8 (UInt8.toNat y23 : Int))]) (ecs' := [(Value.int .u8 (UInt8.toNat y34 : Int))]) (a := y23) (a' := y34) rfl Try.type5 rfl rfl (by rw [← toU8_some hy34]; exact rfl) rfl rfl rfl O16 hv28 hg30 hd29 hc31 rfl rfl rfl st ?_)
 intro m32 st O16 sm33
 obtain ⟨y35, hy35, hr⟩ := lt_some hr
 rw [hy35] at O16
 replace bx0n := bx0n.same sm33 A20
 obtain ⟨y36, hy36, hr⟩ := bind_some hr
 refine SeqW.consX rfl (kIdxO (T := (TU8 5)) (xs := y35) (n := 9) rfl Try.underlying68 Try.type5 rfl rfl rfl O16 hy36 ?_)
 intro B37 l38 c39 cs40 hv41 hd42 hg43 hc44
 have hd420 := hd42
 obtain rfl := hd420
 obtain ⟨y47, hy47, hr⟩ := bind_some hr
 refine SeqW.consX rfl (kSet (T := (TU8 5)) (off := (9 : Int).toNat * ((TU8 5)).sz) (n := (9 : Int).toNat) (f := 0) (w := (Value.int .u8 (UInt8.toNat y47 : Int))) (new := [(Value.int .u8 (UInt8.toNat y47 : Int))]) (ecs := [(Value.int .u8 (UInt8.toNat y36 : Int))]) (ecs' := [(Value.int .u8 (UInt8.toNat y47 : Int))]) (a := y36) (a' := y47) rfl Try.type5 rfl rfl (by rw [← toU8_some hy47]; exact rfl) rfl rfl rfl O16 hv41 hg43 hd42 hc44 rfl rfl rfl st ?_)
 intro m45 st O16 sm46
 obtain ⟨y48, hy48, hr⟩ := lt_some hr
 rw [hy48] at O16
 replace bx0n := bx0n.same sm46 A20
 obtain ⟨y49, hy49, hr⟩ := bind_some hr
 refine SeqW.consX rfl (kIdxO (T := (TU8 5)) (xs := y48) (n := 10) rfl Try.underlying68 Try.type5 rfl rfl rfl O16 hy49 ?_)
 intro B50 l51 c52 cs53 hv54 hd55 hg56 hc57
 have hd550 := hd55
 obtain rfl := hd550
 obtain ⟨y60, hy60, hr⟩ := bind_some hr
 refine SeqW.consX rfl (kSet (T := (TU8 5)) (off := (10 : Int).toNat * ((TU8 5)).sz) (n := (10 : Int).toNat) (f := 0) (w := (Value.int .u8 (UInt8.toNat y60 : Int))) (new := [(Value.int .u8 (UInt8.toNat y60 : Int))]) (ecs := [(Value.int .u8 (UInt8.toNat y49 : Int))]) (ecs' := [(Value.int .u8 (UInt8.toNat y60 : Int))]) (a := y49) (a' := y60) rfl Try.type5 rfl rfl (by rw [← toU8_some hy60]; exact rfl) rfl rfl rfl O16 hv54 hg56 hd55 hc57 rfl rfl rfl st ?_)
 intro m58 st O16 sm59
 obtain ⟨y61, hy61, hr⟩ := lt_some hr
 rw [hy61] at O16
 replace bx0n := bx0n.same sm59 A20
 refine SeqW.done fun fr62 hf63 => ?_
 have h0 := (congrFun hf63 0).trans h0
 have h5 := (congrFun hf63 5).trans h5
 clear hf63
 refine thenQ.n (W.seq (W.region ?_))
 refine sx rfl (pMove (v := V14) rfl h5) ?_
 refine SeqW.consX rfl (kStrO (s := y61) rfl Try.underlying68 Try.underlying5 Try.underlying9 rfl O16 ?_)
 obtain ⟨y64, hy64, hr⟩ := bind_some hr
 refine SeqW.consX rfl (StepX.call (gCallee rfl rfl (args1 rfl)) ((c_r02_Digit (z := z4) st.fz st.dead  hy64).mono ?_))
 rintro _ _ ⟨rfl, rfl⟩
 refine sx rfl (pMove (v := (Value.tuple [(vI y64.1), (vI y64.2)].toArray)) rfl rfl) ?_
 refine sx rfl (pExtract (vs := [(vI y64.1), (vI y64.2)]) (v := (vI y64.1)) rfl rfl rfl) ?_
 refine sx rfl (pExtract (vs := [(vI y64.1), (vI y64.2)]) (v := (vI y64.2)) rfl rfl rfl) ?_
 refine sx rfl (pAssign (v := (vI y64.1)) rfl rfl) ?_
 refine sx rfl (pAssign (v := (vI y64.2)) rfl rfl) ?_
 refine SeqW.done fun fr65 hf66 => ?_
 have h0 := (congrFun hf66 0).trans h0
 have h5 := (congrFun hf66 5).trans h5
 have h6 : fr65 6 = (vI y64.1) := (congrFun hf66 6).trans rfl
 clear hf66
 refine thenQ.n (W.seq (W.region ?_))
 refine sx rfl (pMove (v := V14) rfl h5) ?_
 refine SeqW.consX rfl (kStrO (s := y61) rfl Try.underlying68 Try.underlying5 Try.underlying9 rfl O16 ?_)
 refine sx rfl (pMove (v := (vI y64.1)) rfl h6) ?_
 refine sx rfl (pAdd (k := .i64) (a := 48) (b := y64.1) rfl rfl rfl) ?_
 refine sx rfl (pConv (k := .i64) (a := (IntKind.wrap .i64 (48 + y64.1))) rfl Try.underlying3 Try.underlying5 rfl) ?_
 obtain ⟨y67, hy67, hr⟩ := bind_some hr
 refine SeqW.consX rfl (kBuild (T := (TU8 5)) rfl Try.underlying68 Try.type5 rfl rfl rfl rfl ([y67] : List UInt8) [[Value.int .u8 (UInt8.toNat y67 : Int)]] rfl rfl rfl (BuildOk.mk (w := (Value.int .u8 (UInt8.toNat y67 : Int))) (by rw [← toU8_some hy67]; exact rfl) rfl rfl rfl trivial) st ?_)
 intro V68 m69 st O70 sm71 hap72
 have A74 := hap72 _ bx0n.lt'
 replace bx0n := bx0n.same sm71 Ap.none'
 refine SeqW.consX rfl (kStrO (s := ([y67] : List UInt8)) rfl Try.underlying68 Try.underlying5 Try.underlying9 rfl O70 ?_)
 obtain ⟨y75, hy75, hr⟩ := bind_some hr
 refine SeqW.consX rfl (kAddS (s := y61) (r := ([y67] : List UInt8)) rfl rfl rfl hy75 ?_)
 refine sx rfl (pAssign (v := (str y75)) rfl rfl) ?_
 refine SeqW.done fun fr76 hf77 => ?_
 have h0 := (congrFun hf77 0).trans h0
 have h4 : fr76 4 = (str y75) := (congrFun hf77 4).trans rfl
 clear hf77
 refine thenQ.n ?_
 refine W.ret ?_
 obtain rfl := Option.some.inj hr
 exact ⟨z4, hz, st, .inr rfl, V9, h4, Q10, bx0n, trivial⟩

theorem c_Maker_Number {N : Nat} {z : Nat → Blk} {m : Mem} {x0 : Maker} {x1 : Int} {v0_0 : Value} {b0 : Nat} (fz : Fz z m) (hd : ∀ b, m.next ≤ b → m.blk b = .dead) (s0_0 : SlR (TInt 3 .i64) z x0.l v0_0) (bx0 : Bx z m m (some b0) b0 [v0_0, (vI x0.n)] 52) {r : List UInt8 × Maker} (hr : Maker_Number N x0 x1 = some r) : CallW Try.prog 32 #[(vP b0), (vI x1)] m fun v m' => ∃ z' wr_0, Zx m.next z z' ∧ Fz z' m' ∧ Same m m' (some b0) ∧ v = (str r.1) ∧ SlR (TInt 3 .i64) z' r.2.l wr_0 ∧ Bx z' m m' (some b0) b0 [wr_0, (vI r.2.n)] 52 ∧ True := by
 refine CallW.any Try.func32 rfl (by kernel_rfl) (Nat.le_of_ble_eq_true rfl) (fun fr hf => ?_)
 have h0 : fr 0 = _ := hf 0 _ rfl
 have h1 : fr 1 = _ := hf 1 _ rfl
 refine (u_Maker_Number (k := (some b0)) (Zx.refl _) (St.start fz hd) h0 s0_0 bx0 h1 hr).mono ?_
 rintro ex fr' m' ⟨z', hz, st, he, wr_0, h4, sr_0, bxr, -⟩
 exact ⟨he, [(str r.1)], ⟨h4.symm, trivial⟩, .inl rfl, z', wr_0, hz, st.fz, st.toSame, rfl, sr_0, bxr, trivial⟩

/-! ### (*humpyard/humpgen.Maker).Name -/

theorem u_Maker_Name {N : Nat}  {z0 z : Nat → Blk} {e m : Mem} {k : Option Nat} {fr : Nat → Value} {x0 : Maker} {v0_0 : Value} {b0 : Nat} (hz : Zx e.next z0 z) (st : St z e m k) (h0 : fr 0 = (vP b0)) (s0_0 : SlR (TInt 3 .i64) z x0.l v0_0) (bx0 : Bx z e m k b0 [v0_0, (vI x0.n)] 52) {r : List UInt8 × Maker} (hr : Maker_Name N x0 = some r) : W Try.prog (sub (bodyOf Try.f33) []) (fun ex fr' m' => ∃ z', Zx e.next z0 z' ∧ St z' e m' k ∧ (ex = .normal ∨ ex = .ret) ∧ ∃ (wr_0 : Value), fr' 2 = (str r.1) ∧ SlR (TInt 3 .i64) z' r.2.l wr_0 ∧ Bx z' e m' k b0 [wr_0, (vI r.2.n)] 52 ∧ True) fr m := by
 unfold Maker_Name at hr
 refine W.seq (W.region ?_)
 refine sx rfl (pAssign (v := (str [])) rfl rfl) ?_
 refine SeqW.done fun fr1 hf2 => ?_
 have h0 := (congrFun hf2 0).trans h0
 clear hf2
 refine thenQ.n (W.seq (W.region ?_))
 refine SeqW.consX rfl (kBuild (T := (TStr 9)) rfl Try.underlying55 Try.type9 rfl rfl rfl rfl ([[97], [98], [99], [100], [101], [110, 111, 114, 116, 104], [115, 111, 117, 116, 104], [112, 111, 114, 116, 49], [120, 57], [97, 98, 99, 100, 101, 102, 103, 104, 105, 106, 107, 108]] : List (List UInt8)) [[(str [97])], [(str [98])], [(str [99])], [(str [100])], [(str [101])], [(str [110, 111, 114, 116, 104])], [(str [115, 111, 117, 116, 104])], [(str [112, 111, 114, 116, 49])], [(str [120, 57])], [(str [97, 98, 99, 100, 101, 102, 103, 104, 105, 106, 107, 108])]] rfl rfl rfl (BuildOk.mk (w := (str [97])) rfl rfl rfl rfl (BuildOk.mk (w := (str [98])) rfl rfl rfl rfl (BuildOk.mk (w := (str [99])) rfl rfl rfl rfl (BuildOk.mk (w := (str [100])) rfl rfl rfl rfl (BuildOk.mk (w := (str [101])) rfl rfl rfl rfl (BuildOk.mk (w := (str [110, 111, 114, 116, 104])) rfl rfl rfl rfl (BuildOk.mk (w := (str [115, 111, 117, 116, 104])) rfl rfl rfl rfl (BuildOk.mk (w := (str [112, 111, 114, 116, 49])) rfl rfl rfl rfl (BuildOk.mk (w := (str [120, 57])) rfl rfl rfl rfl (BuildOk.mk (w := (str [97, 98, 99, 100, 101, 102, 103, 104, 105, 106, 107, 108])) rfl rfl rfl rfl trivial)))))))))) st ?_)
 intro V3 m4 st O5 sm6 hap7
 have A9 := hap7 _ bx0.lt'
 replace bx0 := bx0.same sm6 Ap.none'
 refine sx rfl (pMove (v := (vP b0)) rfl h0) ?_
 obtain ⟨y10, hy10, hr⟩ := bind_some hr
 refine SeqW.consX rfl (StepX.call (gCallee rfl rfl (args2 rfl rfl)) ((c_Maker_Next (x0 := x0) (z := z) st.fz st.dead s0_0 ⟨bx0.blk, bx0.lt, bx0.dead, .inr rfl⟩ hy10).mono ?_))
 rintro _ m15 ⟨z11, V16, hzx12, fz13, sm14, rfl, Q17, X19, -⟩
 replace s0_0 := s0_0.mono hzx12.le
 replace O5 := O5.call hzx12 sm14 (Ap.symm A9)
 have bx0n : Bx z11 e m15 k b0 _ _ := ⟨X19.blk, X19.lt, X19.dead, bx0.fresh⟩
 replace hz := hz.trans (Zx.here st hzx12)
 replace st := st.call hzx12 fz13 sm14 bx0.hq
 obtain ⟨y20, hy20, hr⟩ := bind_some hr
 refine SeqW.consX rfl (kIdxO (T := (TStr 9)) (xs := ([[97], [98], [99], [100], [101], [110, 111, 114, 116, 104], [115, 111, 117, 116, 104], [112, 111, 114, 116, 49], [120, 57], [97, 98, 99, 100, 101, 102, 103, 104, 105, 106, 107, 108]] : List (List UInt8))) (n := y10.1) rfl Try.underlying55 Try.type9 rfl rfl rfl O5 hy20 ?_)
 intro B21 l22 c23 cs24 hv25 hd26 hg27 hc28
 have hd260 := hd26
 obtain rfl := hd260
 refine SeqW.consX rfl (kLoad (v := (str y20)) rfl Try.underlying9 rfl rfl (hc28 0 _ rfl) ?_)
 refine sx rfl (pAssign (v := (str y20)) rfl rfl) ?_
 refine SeqW.done fun fr29 hf30 => ?_
 have h0 := (congrFun hf30 0).trans h0
 have h2 : fr29 2 = (str y20) := (congrFun hf30 2).trans rfl
 clear hf30
 refine thenQ.n ?_
 refine W.ret ?_
 obtain rfl := Option.some.inj hr
 exact ⟨z11, hz, st, .inr rfl, V16, h2, Q17, bx0n, trivial⟩

theorem c_Maker_Name {N : Nat} {z : Nat → Blk} {m : Mem} {x0 : Maker} {v0_0 : Value} {b0 : Nat} (fz : Fz z m) (hd : ∀ b, m.next ≤ b → m.blk b = .dead) (s0_0 : SlR (TInt 3 .i64) z x0.l v0_0) (bx0 : Bx z m m (some b0) b0 [v0_0, (vI x0.n)] 52) {r : List UInt8 × Maker} (hr : Maker_Name N x0 = some r) : CallW Try.prog 33 #[(vP b0)] m fun v m' => ∃ z' wr_0, Zx m.next z z' ∧ Fz z' m' ∧ Same m m' (some b0) ∧ v = (str r.1) ∧ SlR (TInt 3 .i64) z' r.2.l wr_0 ∧ Bx z' m m' (some b0) b0 [wr_0, (vI r.2.n)] 52 ∧ True := by
 refine CallW.any Try.func33 rfl (by kernel_rfl) (Nat.le_of_ble_eq_true rfl) (fun fr hf => ?_)
 have h0 : fr 0 = _ := hf 0 _ rfl
 refine (u_Maker_Name (k := (some b0)) (Zx.refl _) (St.start fz hd) h0 s0_0 bx0 hr).mono ?_
 rintro ex fr' m' ⟨z', hz, st, he, wr_0, h2, sr_0, bxr, -⟩
 exact ⟨he, [(str r.1)], ⟨h2.symm, trivial⟩, .inl rfl, z', wr_0, hz, st.fz, st.toSame, rfl, sr_0, bxr, trivial⟩

/-! ### (*humpyard/humpgen.Maker).Wagon -/

theorem u_Maker_Wagon_1 {N : Nat}  {z0 z : Nat → Blk} {e m : Mem} {k : Option Nat} {fr : Nat → Value} {x26 : Int} {x27 : Bool} {x0 : Maker} {v0_0 : Value} {b0 : Nat} {x4 : Wagon} {b4 : Nat} {x5 : Wagon} {b5 : Nat} (hz : Zx e.next z0 z) (st : St z e m k) (h0 : fr 0 = (vP b0)) (s0_0 : SlR (TInt 3 .i64) z x0.l v0_0) (bx0 : Bx z e m k b0 [v0_0, (vI x0.n)] 52) (h4 : fr 4 = (vP b4)) (bx4 : Bx z e m k b4 [(str x4.number), (vI x4.length), (vI x4.axles), (vI x4.mass), (vI x4.brake), (vI x4.goods), (vB x4.gentle), (str x4.dest)] 36) (h5 : fr 5 = (vP b5)) (bx5 : Bx z e m k b5 [(str x5.number), (vI x5.length), (vI x5.axles), (vI x5.mass), (vI x5.brake), (vI x5.goods), (vB x5.gentle), (str x5.dest)] 36) (h26 : fr 26 = (Value.int .u8 x26)) (h27 : fr 27 = (vB x27)) (ao0_o4 : Ap (some b0) (some b4)) (ao0_o5 : Ap (some b0) (some b5)) (ao4_o5 : Ap (some b4) (some b5)) {r : Bool} (hr : Maker_Wagon_1 N x26 x27 = some r) : W Try.prog (sub (bodyOf Try.f22) [1, 1, 0, 1, 0, 0, 1]) (fun ex fr' m' => ∃ z', Zx e.next z0 z' ∧ St z' e m' k ∧ ex = AExit.normal ∧ fr' 27 = (vB r) ∧ Bx z' e m' k b0 [v0_0, (vI x0.n)] 52 ∧ Bx z' e m' k b4 [(str x4.number), (vI x4.length), (vI x4.axles), (vI x4.mass), (vI x4.brake), (vI x4.goods), (vB x4.gentle), (str x4.dest)] 36 ∧ Bx z' e m' k b5 [(str x5.number), (vI x5.length), (vI x5.axles), (vI x5.mass), (vI x5.brake), (vI x5.goods), (vB x5.gentle), (str x5.dest)] 36 ∧ Ap (some b0) (some b4) ∧ Ap (some b0) (some b5) ∧ Ap (some b4) (some b5) ∧ True) fr m := by
 unfold Maker_Wagon_1 at hr
 rcases if_some hr with ⟨hc124, hr⟩ | ⟨hc125, hr⟩
 ·refine W.condT h27 hc124 (W.skip ?_)
  obtain rfl := Option.some.inj hr
  exact ⟨z, hz, st, rfl, h27, bx0, bx4, bx5, ao0_o4, ao0_o5, ao4_o5, trivial⟩
 ·refine W.condF h27 hc125 (W.region ?_)
  refine sx rfl (pEql (k := .u8) (a := x26) (b := 52) rfl h26 rfl) ?_
  obtain ⟨y126, hy126, hr⟩ := lt_some hr
  refine sx rfl (pAssign rfl (congrArg vB hy126)) ?_
  refine SeqW.done fun fr127 hf128 => ?_
  have h0 := (congrFun hf128 0).trans h0
  have h4 := (congrFun hf128 4).trans h4
  have h5 := (congrFun hf128 5).trans h5
  have h26 := (congrFun hf128 26).trans h26
  have h27 : fr127 27 = (vB y126) := (congrFun hf128 27).trans rfl
  clear hf128
  obtain rfl := Option.some.inj hr
  exact ⟨z, hz, st, rfl, h27, bx0, bx4, bx5, ao0_o4, ao0_o5, ao4_o5, trivial⟩

theorem u_Maker_Wagon_0 {N : Nat}  {z0 z : Nat → Blk} {e m : Mem} {k : Option Nat} {fr : Nat → Value} {x5 : Wagon} {x26 : Int} {x0 : Maker} {v0_0 : Value} {b0 : Nat} {x4 : Wagon} {b4 : Nat} {b5 : Nat} (hz : Zx e.next z0 z) (st : St z e m k) (h0 : fr 0 = (vP b0)) (s0_0 : SlR (TInt 3 .i64) z x0.l v0_0) (bx0 : Bx z e m k b0 [v0_0, (vI x0.n)] 52) (h4 : fr 4 = (vP b4)) (bx4 : Bx z e m k b4 [(str x4.number), (vI x4.length), (vI x4.axles), (vI x4.mass), (vI x4.brake), (vI x4.goods), (vB x4.gentle), (str x4.dest)] 36) (h5 : fr 5 = (vP b5)) (bx5 : Bx z e m k b5 [(str x5.number), (vI x5.length), (vI x5.axles), (vI x5.mass), (vI x5.brake), (vI x5.goods), (vB x5.gentle), (str x5.dest)] 36) (h26 : fr 26 = (Value.int .u8 x26)) (ao0_o4 : Ap (some b0) (some b4)) (ao0_o5 : Ap (some b0) (some b5)) (ao4_o5 : Ap (some b4) (some b5)) {r : Wagon} (hr : Maker_Wagon_0 N x5 x26 = some r) : W Try.prog (sub (bodyOf Try.f22) [1, 1, 0, 1]) (fun ex fr' m' => ∃ z', Zx e.next z0 z' ∧ St z' e m' k ∧ ex = AExit.normal ∧ fr' 5 = (vP b5) ∧ Bx z' e m' k b5 [(str r.number), (vI r.length), (vI r.axles), (vI r.mass), (vI r.brake), (vI r.goods), (vB r.gentle), (str r.dest)] 36 ∧ Bx z' e m' k b0 [v0_0, (vI x0.n)] 52 ∧ Bx z' e m' k b4 [(str x4.number), (vI x4.length), (vI x4.axles), (vI x4.mass), (vI x4.brake), (vI x4.goods), (vB x4.gentle), (str x4.dest)] 36 ∧ Ap (some b5) (some b0) ∧ Ap (some b5) (some b4) ∧ Ap (some b0) (some b4) ∧ True) fr m := by
 unfold Maker_Wagon_0 at hr
 refine W.block ?_
 refine W.seq (W.seq (W.region ?_))
 refine sx rfl (pEql (k := .u8) (a := x26) (b := 50) rfl h26 rfl) ?_
 obtain ⟨y121, hy121, hr⟩ := lt_some hr
 refine sx rfl (pAssign rfl (congrArg vB hy121)) ?_
 refine SeqW.done fun fr122 hf123 => ?_
 have h0 := (congrFun hf123 0).trans h0
 have h4 := (congrFun hf123 4).trans h4
 have h5 := (congrFun hf123 5).trans h5
 have h26 := (congrFun hf123 26).trans h26
 have h27 : fr122 27 = (vB y121) := (congrFun hf123 27).trans rfl
 clear hf123
 refine thenQ.n ?_
 obtain ⟨y129, hy129, hr⟩ := bind_some hr
 refine W.keep (u_Maker_Wagon_1 (x0 := x0) (x4 := x4) (x5 := x5) (Zx.refl _) st h0 s0_0 bx0 h4 bx4 h5 bx5 h26 h27 ao0_o4 ao0_o5 ao4_o5 hy129) ?_
 rintro ex135 fr130 m131 hk133 ⟨z132, hz134, st, rfl, h27, O136, O137, O138, A139, A140, A141, -⟩
 replace s0_0 := s0_0.mono hz134.le
 have h0 := (hk133 0 rfl).trans h0
 have h4 := (hk133 4 rfl).trans h4
 have h5 := (hk133 5 rfl).trans h5
 have h26 := (hk133 26 rfl).trans h26
 replace hz := hz.trans hz134
 clear hk133
 refine thenQ.n ?_
 rcases if_some hr with ⟨hc142, hr⟩ | ⟨hc147, hr⟩
 ·refine W.condT h27 hc142 (W.region ?_)
  refine SeqW.consX rfl (kField rfl Try.underlying36 rfl Try.type3 rfl h5 rfl ?_)
  refine SeqW.consX rfl (kPut (off := 2) (w := (vI 2)) (new := [(vI 2)]) rfl Try.type3 rfl rfl rfl rfl rfl O138 rfl [(str x5.number), (vI x5.length), (vI 2), (vI x5.mass), (vI x5.brake), (vI x5.goods), (vB x5.gentle), (str x5.dest)] rfl st ?_)
  intro m143 st O138 sm144
  replace O136 := O136.same sm144 A140
  replace O137 := O137.same sm144 A141
  refine SeqW.done fun fr145 hf146 => ?_
  have h0 := (congrFun hf146 0).trans h0
  have h4 := (congrFun hf146 4).trans h4
  have h5 := (congrFun hf146 5).trans h5
  clear hf146
  refine blockQ.n ?_
  obtain rfl := Option.some.inj hr
  exact ⟨z132, hz, st, rfl, h5, O138, O136, O137, (Ap.symm A140), (Ap.symm A141), A139, trivial⟩
 ·refine W.condF h27 hc147 (W.seq (W.region ?_))
  refine sx rfl (pEql (k := .u8) (a := x26) (b := 57) rfl h26 rfl) ?_
  obtain ⟨y148, hy148, hr⟩ := lt_some hr
  refine sx rfl (pAssign rfl (congrArg vB hy148)) ?_
  refine SeqW.done fun fr149 hf150 => ?_
  have h0 := (congrFun hf150 0).trans h0
  have h4 := (congrFun hf150 4).trans h4
  have h5 := (congrFun hf150 5).trans h5
  have h31 : fr149 31 = (vB y148) := (congrFun hf150 31).trans rfl
  clear hf150
  refine thenQ.n ?_
  rcases if_some hr with ⟨hc151, hr⟩ | ⟨hc160, hr⟩
  ·refine W.condT h31 hc151 (W.seq (W.region ?_))
   refine SeqW.consX rfl (kField rfl Try.underlying36 rfl Try.type3 rfl h5 rfl ?_)
   refine SeqW.consX rfl (kPut (off := 2) (w := (vI 6)) (new := [(vI 6)]) rfl Try.type3 rfl rfl rfl rfl rfl O138 rfl [(str x5.number), (vI x5.length), (vI 6), (vI x5.mass), (vI x5.brake), (vI x5.goods), (vB x5.gentle), (str x5.dest)] rfl st ?_)
   intro m152 st O138 sm153
   replace O136 := O136.same sm153 A140
   replace O137 := O137.same sm153 A141
   refine SeqW.done fun fr154 hf155 => ?_
   have h0 := (congrFun hf155 0).trans h0
   have h4 := (congrFun hf155 4).trans h4
   have h5 := (congrFun hf155 5).trans h5
   clear hf155
   refine thenQ.n (W.region ?_)
   refine SeqW.consX rfl (kField rfl Try.underlying36 rfl Try.type3 rfl h5 rfl ?_)
   refine SeqW.consX rfl (kLoad rfl Try.underlying3 rfl rfl (O138.load (v := (vI x5.length)) rfl) ?_)
   refine sx rfl (pMax2 (k := .i64) (a := x5.length) (b := 120) rfl rfl rfl) ?_
   refine SeqW.consX rfl (kField rfl Try.underlying36 rfl Try.type3 rfl h5 rfl ?_)
   refine SeqW.consX rfl (kPut (off := 1) (w := (vI (max x5.length 120))) (new := [(vI (max x5.length 120))]) rfl Try.type3 rfl rfl rfl rfl rfl O138 rfl [(str x5.number), (vI (max x5.length 120)), (vI 6), (vI x5.mass), (vI x5.brake), (vI x5.goods), (vB x5.gentle), (str x5.dest)] rfl st ?_)
   intro m156 st O138 sm157
   replace O136 := O136.same sm157 A140
   replace O137 := O137.same sm157 A141
   refine SeqW.done fun fr158 hf159 => ?_
   have h0 := (congrFun hf159 0).trans h0
   have h4 := (congrFun hf159 4).trans h4
   have h5 := (congrFun hf159 5).trans h5
   clear hf159
   refine blockQ.n ?_
   obtain rfl := Option.some.inj hr
   exact ⟨z132, hz, st, rfl, h5, O138, O136, O137, (Ap.symm A140), (Ap.symm A141), A139, trivial⟩
  ·refine W.condF h31 hc160 (W.skip ?_)
   refine blockQ.n ?_
   obtain rfl := Option.some.inj hr
   exact ⟨z132, hz, st, rfl, h5, O138, O136, O137, (Ap.symm A140), (Ap.symm A141), A139, trivial⟩

theorem u_Maker_Wagon {N : Nat}  {z0 z : Nat → Blk} {e m : Mem} {k : Option Nat} {fr : Nat → Value} {x0 : Maker} {x1 : Int} {v0_0 : Value} {b0 : Nat} (hz : Zx e.next z0 z) (st : St z e m k) (h0 : fr 0 = (vP b0)) (s0_0 : SlR (TInt 3 .i64) z x0.l v0_0) (bx0 : Bx z e m k b0 [v0_0, (vI x0.n)] 52) (h1 : fr 1 = (vI x1)) {r : Wagon × Maker} (hr : Maker_Wagon N x0 x1 = some r) : W Try.prog (sub (bodyOf Try.f22) []) (fun ex fr' m' => ∃ z', Zx e.next z0 z' ∧ St z' e m' k ∧ (ex = .normal ∨ ex = .ret) ∧ ∃ (c4 : Nat) (wr_0 : Value), fr' 4 = (vP c4) ∧ Bx z' e m' k c4 [(str r.1.number), (vI r.1.length), (vI r.1.axles), (vI r.1.mass), (vI r.1.brake), (vI r.1.goods), (vB r.1.gentle), (str r.1.dest)] 36 ∧ (e.next ≤ c4 ∨ k = some c4) ∧ SlR (TInt 3 .i64) z' r.2.l wr_0 ∧ Bx z' e m' k b0 [wr_0, (vI r.2.n)] 52 ∧ True) fr m := by
 unfold Maker_Wagon at hr
 refine W.seq (W.region ?_)
 refine SeqW.consX rfl (kAlloc rfl Try.type36 rfl rfl rfl [(str []), (vI 0), (vI 0), (vI 0), (vI 0), (vI 0), (vB false), (str [])] rfl st ?_)
 intro B1 m2  st X3 sm4 hap5
 have A7 := hap5 _ bx0.lt'
 replace bx0 := bx0.same sm4 Ap.none'
 refine SeqW.done fun fr8 hf9 => ?_
 have h0 := (congrFun hf9 0).trans h0
 have h1 := (congrFun hf9 1).trans h1
 have h4 : fr8 4 = (vP B1) := (congrFun hf9 4).trans rfl
 clear hf9
 refine thenQ.n (W.seq (W.region ?_))
 refine sx rfl (pMove (v := (vP b0)) rfl h0) ?_
 refine sx rfl (pMove (v := (vI x1)) rfl h1) ?_
 obtain ⟨y10, hy10, hr⟩ := bind_some hr
 refine SeqW.consX rfl (StepX.call (gCallee rfl rfl (args2 rfl rfl)) ((c_Maker_Number (x0 := x0) (z := z) st.fz st.dead s0_0 ⟨bx0.blk, bx0.lt, bx0.dead, .inr rfl⟩ hy10).mono ?_))
 rintro _ m15 ⟨z11, V16, hzx12, fz13, sm14, rfl, Q17, X19, -⟩
 replace s0_0 := s0_0.mono hzx12.le
 replace X3 := X3.call hzx12 sm14 (Ap.symm A7)
 have bx0n : Bx z11 e m15 k b0 _ _ := ⟨X19.blk, X19.lt, X19.dead, bx0.fresh⟩
 replace hz := hz.trans (Zx.here st hzx12)
 replace st := st.call hzx12 fz13 sm14 bx0.hq
 refine sx rfl (pMove (v := (vP b0)) rfl h0) ?_
 refine SeqW.consX rfl (kBuild (T := (TInt 3 .i64)) rfl Try.underlying22 Try.type3 rfl rfl rfl rfl ([80, 120, 142, 199, 262, 400] : List Int) [[(vI 80)], [(vI 120)], [(vI 142)], [(vI 199)], [(vI 262)], [(vI 400)]] rfl rfl rfl (BuildOk.mk (w := (vI 80)) rfl rfl rfl rfl (BuildOk.mk (w := (vI 120)) rfl rfl rfl rfl (BuildOk.mk (w := (vI 142)) rfl rfl rfl rfl (BuildOk.mk (w := (vI 199)) rfl rfl rfl rfl (BuildOk.mk (w := (vI 262)) rfl rfl rfl rfl (BuildOk.mk (w := (vI 400)) rfl rfl rfl rfl trivial)))))) st ?_)
 intro V20 m21 st O22 sm23 hap24
 have A26 := hap24 _ bx0n.lt'
 have A27 := hap24 _ X3.lt'
 replace bx0n := bx0n.same sm23 Ap.none'
 replace X3 := X3.same sm23 Ap.none'
 obtain ⟨z28, hz29, st, Q30, hl31⟩ := O22.freeze st
 replace bx0n := bx0n.zle (hl31 _ A26)
 replace X3 := X3.zle (hl31 _ A27)
 replace Q17 := Q17.mono hz29.le
 replace hz := hz.trans hz29
 obtain ⟨y32, hy32, hr⟩ := bind_some hr
 refine SeqW.consX rfl (StepX.call (gCallee rfl rfl (args2 rfl rfl)) ((c_Maker_Pick (x0 := y10.2) (z := z28) st.fz st.dead Q17 ⟨bx0n.blk, bx0n.lt, bx0n.dead, .inr rfl⟩ Q30 hy32).mono ?_))
 rintro _ m37 ⟨z33, V38, hzx34, fz35, sm36, rfl, Q39, X41, -⟩
 replace X3 := X3.call hzx34 sm36 (Ap.symm A7)
 replace Q17 := Q17.mono hzx34.le
 replace Q30 := Q30.mono hzx34.le
 have bx0nn : Bx z33 e m37 k b0 _ _ := ⟨X41.blk, X41.lt, X41.dead, bx0n.fresh⟩
 replace hz := hz.trans (Zx.here st hzx34)
 replace st := st.call hzx34 fz35 sm36 bx0n.hq
 refine sx rfl (pMove (v := (vP b0)) rfl h0) ?_
 refine SeqW.consX rfl (kBuild (T := (TInt 3 .i64)) rfl Try.underlying22 Try.type3 rfl rfl rfl rfl ([50, 120, 400, 800, 2000] : List Int) [[(vI 50)], [(vI 120)], [(vI 400)], [(vI 800)], [(vI 2000)]] rfl rfl rfl (BuildOk.mk (w := (vI 50)) rfl rfl rfl rfl (BuildOk.mk (w := (vI 120)) rfl rfl rfl rfl (BuildOk.mk (w := (vI 400)) rfl rfl rfl rfl (BuildOk.mk (w := (vI 800)) rfl rfl rfl rfl (BuildOk.mk (w := (vI 2000)) rfl rfl rfl rfl trivial))))) st ?_)
 intro V42 m43 st O44 sm45 hap46
 have A48 := hap46 _ bx0nn.lt'
 have A49 := hap46 _ X3.lt'
 replace bx0nn := bx0nn.same sm45 Ap.none'
 replace X3 := X3.same sm45 Ap.none'
 obtain ⟨z50, hz51, st, Q52, hl53⟩ := O44.freeze st
 replace bx0nn := bx0nn.zle (hl53 _ A48)
 replace X3 := X3.zle (hl53 _ A49)
 replace Q39 := Q39.mono hz51.le
 replace hz := hz.trans hz51
 obtain ⟨y54, hy54, hr⟩ := bind_some hr
 refine SeqW.consX rfl (StepX.call (gCallee rfl rfl (args2 rfl rfl)) ((c_Maker_Pick (x0 := y32.2) (z := z50) st.fz st.dead Q39 ⟨bx0nn.blk, bx0nn.lt, bx0nn.dead, .inr rfl⟩ Q52 hy54).mono ?_))
 rintro _ m59 ⟨z55, V60, hzx56, fz57, sm58, rfl, Q61, X63, -⟩
 replace X3 := X3.call hzx56 sm58 (Ap.symm A7)
 replace Q39 := Q39.mono hzx56.le
 replace Q52 := Q52.mono hzx56.le
 have bx0nnn : Bx z55 e m59 k b0 _ _ := ⟨X63.blk, X63.lt, X63.dead, bx0nn.fresh⟩
 replace hz := hz.trans (Zx.here st hzx56)
 replace st := st.call hzx56 fz57 sm58 bx0nn.hq
 refine sx rfl (pMove (v := (vP b0)) rfl h0) ?_
 refine SeqW.consX rfl (kBuild (T := (TInt 3 .i64)) rfl Try.underlying22 Try.type3 rfl rfl rfl rfl ([0, 0, 0, 1, 3, 9] : List Int) [[(vI 0)], [(vI 0)], [(vI 0)], [(vI 1)], [(vI 3)], [(vI 9)]] rfl rfl rfl (BuildOk.mk (w := (vI 0)) rfl rfl rfl rfl (BuildOk.mk (w := (vI 0)) rfl rfl rfl rfl (BuildOk.mk (w := (vI 0)) rfl rfl rfl rfl (BuildOk.mk (w := (vI 1)) rfl rfl rfl rfl (BuildOk.mk (w := (vI 3)) rfl rfl rfl rfl (BuildOk.mk (w := (vI 9)) rfl rfl rfl rfl trivial)))))) st ?_)
 intro V64 m65 st O66 sm67 hap68
 have A70 := hap68 _ bx0nnn.lt'
 have A71 := hap68 _ X3.lt'
 replace bx0nnn := bx0nnn.same sm67 Ap.none'
 replace X3 := X3.same sm67 Ap.none'
 obtain ⟨z72, hz73, st, Q74, hl75⟩ := O66.freeze st
 replace bx0nnn := bx0nnn.zle (hl75 _ A70)
 replace X3 := X3.zle (hl75 _ A71)
 replace Q61 := Q61.mono hz73.le
 replace hz := hz.trans hz73
 obtain ⟨y76, hy76, hr⟩ := bind_some hr
 refine SeqW.consX rfl (StepX.call (gCallee rfl rfl (args2 rfl rfl)) ((c_Maker_Pick (x0 := y54.2) (z := z72) st.fz st.dead Q61 ⟨bx0nnn.blk, bx0nnn.lt, bx0nnn.dead, .inr rfl⟩ Q74 hy76).mono ?_))
 rintro _ m81 ⟨z77, V82, hzx78, fz79, sm80, rfl, Q83, X85, -⟩
 replace X3 := X3.call hzx78 sm80 (Ap.symm A7)
 replace Q61 := Q61.mono hzx78.le
 replace Q74 := Q74.mono hzx78.le
 have bx0nnnn : Bx z77 e m81 k b0 _ _ := ⟨X85.blk, X85.lt, X85.dead, bx0nnn.fresh⟩
 replace hz := hz.trans (Zx.here st hzx78)
 replace st := st.call hzx78 fz79 sm80 bx0nnn.hq
 refine sx rfl (pMove (v := (vP b0)) rfl h0) ?_
 obtain ⟨y86, hy86, hr⟩ := bind_some hr
 refine SeqW.consX rfl (StepX.call (gCallee rfl rfl (args2 rfl rfl)) ((c_Maker_Next (x0 := y76.2) (z := z77) st.fz st.dead Q83 ⟨bx0nnnn.blk, bx0nnnn.lt, bx0nnnn.dead, .inr rfl⟩ hy86).mono ?_))
 rintro _ m91 ⟨z87, V92, hzx88, fz89, sm90, rfl, Q93, X95, -⟩
 replace X3 := X3.call hzx88 sm90 (Ap.symm A7)
 replace Q83 := Q83.mono hzx88.le
 have bx0nnnnn : Bx z87 e m91 k b0 _ _ := ⟨X95.blk, X95.lt, X95.dead, bx0nnnn.fresh⟩
 replace hz := hz.trans (Zx.here st hzx88)
 replace st := st.call hzx88 fz89 sm90 bx0nnnn.hq
 refine sx rfl (pEql (k := .i64) (a := y86.1) (b := 0) rfl rfl rfl) ?_
 refine sx rfl (pMove (v := (vP b0)) rfl h0) ?_
 obtain ⟨y96, hy96, hr⟩ := bind_some hr
 refine SeqW.consX rfl (StepX.call (gCallee rfl rfl (args1 rfl)) ((c_Maker_Name (x0 := y86.2) (z := z87) st.fz st.dead Q93 ⟨bx0nnnnn.blk, bx0nnnnn.lt, bx0nnnnn.dead, .inr rfl⟩ hy96).mono ?_))
 rintro _ m101 ⟨z97, V102, hzx98, fz99, sm100, rfl, Q103, X105, -⟩
 replace X3 := X3.call hzx98 sm100 (Ap.symm A7)
 replace Q93 := Q93.mono hzx98.le
 have bx0nnnnnn : Bx z97 e m101 k b0 _ _ := ⟨X105.blk, X105.lt, X105.dead, bx0nnnnn.fresh⟩
 replace hz := hz.trans (Zx.here st hzx98)
 replace st := st.call hzx98 fz99 sm100 bx0nnnnn.hq
 refine SeqW.consX rfl (kBuildS [(0, (str y10.1)), (2, (vI 4)), (1, (vI y32.1)), (3, (vI y54.1)), (5, (vI y76.1)), (6, (vB (y86.1 == 0))), (7, (str y96.1))] [(str y10.1), (vI y32.1), (vI 4), (vI y54.1), (vI 0), (vI y76.1), (vB (y86.1 == 0)), (str y96.1)] rfl Try.underlying36 Try.type36 rfl rfl (places36 Try.underlying36) rfl (rfl) rfl ?_)
 refine SeqW.consX rfl (kAlloc rfl Try.type36 rfl rfl rfl [(str []), (vI 0), (vI 0), (vI 0), (vI 0), (vI 0), (vB false), (str [])] rfl st ?_)
 intro B106 m107  st X108 sm109 hap110
 have A112 := hap110 _ bx0nnnnnn.lt'
 have A113 := hap110 _ X3.lt'
 replace bx0nnnnnn := bx0nnnnnn.same sm109 Ap.none'
 replace X3 := X3.same sm109 Ap.none'
 refine SeqW.consX rfl (kPut (off := 0) (w := (Value.agg [(str y10.1), (vI y32.1), (vI 4), (vI y54.1), (vI 0), (vI y76.1), (vB (y86.1 == 0)), (str y96.1)].toArray)) (new := [(str y10.1), (vI y32.1), (vI 4), (vI y54.1), (vI 0), (vI y76.1), (vB (y86.1 == 0)), (str y96.1)]) rfl Try.type36 rfl rfl rfl rfl rfl X108 rfl [(str y10.1), (vI y32.1), (vI 4), (vI y54.1), (vI 0), (vI y76.1), (vB (y86.1 == 0)), (str y96.1)] rfl st ?_)
 intro m114 st X108 sm115
 replace bx0nnnnnn := bx0nnnnnn.same sm115 A112
 replace X3 := X3.same sm115 A113
 refine SeqW.done fun fr116 hf117 => ?_
 have h0 := (congrFun hf117 0).trans h0
 have h4 := (congrFun hf117 4).trans h4
 have h5 : fr116 5 = (vP B106) := (congrFun hf117 5).trans rfl
 clear hf117
 refine thenQ.n (W.seq ?_)
 refine W.seq (W.region ?_)
 refine SeqW.consX rfl (kField rfl Try.underlying36 rfl Try.type9 rfl h5 rfl ?_)
 refine SeqW.consX rfl (kLoad rfl Try.underlying9 rfl rfl (X108.load (v := (str y10.1)) rfl) ?_)
 obtain ⟨y118, hy118, hr⟩ := bind_some hr
 refine SeqW.consX rfl (kIndexS (s := y10.1) (n := 4) rfl Try.underlying9 rfl rfl hy118 ?_)
 refine SeqW.done fun fr119 hf120 => ?_
 have h0 := (congrFun hf120 0).trans h0
 have h4 := (congrFun hf120 4).trans h4
 have h5 := (congrFun hf120 5).trans h5
 have h26 : fr119 26 = (Value.int .u8 (UInt8.toNat y118 : Int)) := (congrFun hf120 26).trans rfl
 clear hf120
 refine thenQ.n ?_
 obtain ⟨y161, hy161, hr⟩ := bind_some hr
 refine W.keep (u_Maker_Wagon_0 (x0 := y96.2) (x4 := (Wagon.mk [] 0 0 0 0 0 false [])) (x5 := (Wagon.mk y10.1 y32.1 4 y54.1 0 y76.1 (y86.1 == 0) y96.1)) (Zx.refl _) st h0 Q103 bx0nnnnnn h4 X3 h5 X108 h26 A7 A112 A113 hy161) ?_
 rintro ex167 fr162 m163 hk165 ⟨z164, hz166, st, rfl, h5, X169, O170, O171, A172, A173, A174, -⟩
 replace Q103 := Q103.mono hz166.le
 have h0 := (hk165 0 rfl).trans h0
 have h4 := (hk165 4 rfl).trans h4
 replace hz := hz.trans hz166
 clear hk165
 refine thenQ.n (W.seq ?_)
 refine W.draw ?_
 refine DrawW.cons rfl (kField rfl Try.underlying36 rfl Try.type3 rfl h5 rfl ?_)
 refine ⟨trivial, ?_⟩
 refine DrawW.cons rfl (kLoad rfl Try.underlying3 rfl rfl (X169.load (v := (vI y161.mass)) rfl) ?_)
 refine ⟨?_, ?_⟩
 ·exact demN
 refine DrawW.cons rfl (StepX.pure (pMove (v := (vP b0)) rfl h0) ?_)
 refine ⟨trivial, ?_⟩
 have sto175 := st
 have old176 := O170
 have old177 := O171
 have old178 := X169
 obtain ⟨y179, hy179, hr⟩ := bind_some hr
 refine DrawW.cons rfl (StepX.call (gCallee rfl rfl (args2 rfl rfl)) ((c_Maker_Next (x0 := y96.2) (z := z164) st.fz st.dead Q103 ⟨O170.blk, O170.lt, O170.dead, .inr rfl⟩ hy179).mono ?_))
 rintro _ m184 ⟨z180, V185, hzx181, fz182, sm183, rfl, Q186, X188, -⟩
 have sr189 := Q103
 replace O171 := O171.call hzx181 sm183 (Ap.symm A174)
 replace Q103 := Q103.mono hzx181.le
 replace X169 := X169.call hzx181 sm183 A172
 have O170n : Bx z180 e m184 k b0 _ _ := ⟨X188.blk, X188.lt, X188.dead, O170.fresh⟩
 replace hz := hz.trans (Zx.here st hzx181)
 replace st := st.call hzx181 fz182 sm183 O170.hq
 refine ⟨⟨?_, ?_⟩, ?_⟩
 ·first | refine demP (gLoad rfl Try.underlying3 rfl rfl (X169.load (v := (vI y161.mass)) rfl)) ?_ | refine demA (by decide +kernel) ?_
  exact demN
 ·exact demN
 refine DrawW.cons rfl (StepX.pure (pMul (k := .i64) (a := y161.mass) (b := y179.1) rfl rfl rfl) ?_)
 refine ⟨trivial, ?_⟩
 refine DrawW.cons rfl (StepX.pure (pQuo (k := .i64) (a := (IntKind.wrap .i64 (y161.mass * y179.1))) (b := 4) rfl rfl rfl (by decide)) ?_)
 refine ⟨trivial, ?_⟩
 refine DrawW.cons rfl (kField rfl Try.underlying36 rfl Try.type3 rfl h5 rfl ?_)
 refine ⟨trivial, ?_⟩
 have sto190 := st
 have old191 := O170n
 have old192 := O171
 have old193 := X169
 refine DrawW.cons rfl (kPut (off := 4) (w := (vI (IntKind.wrap .i64 (Int.tdiv (IntKind.wrap .i64 (y161.mass * y179.1)) 4)))) (new := [(vI (IntKind.wrap .i64 (Int.tdiv (IntKind.wrap .i64 (y161.mass * y179.1)) 4)))]) rfl Try.type3 rfl rfl rfl rfl rfl X169 rfl [(str y161.number), (vI y161.length), (vI y161.axles), (vI y161.mass), (vI (IntKind.wrap .i64 (Int.tdiv (IntKind.wrap .i64 (y161.mass * y179.1)) 4))), (vI y161.goods), (vB y161.gentle), (str y161.dest)] rfl st ?_)
 intro m194 st X169 sm195
 replace O170n := O170n.same sm195 (Ap.symm A172)
 replace O171 := O171.same sm195 (Ap.symm A173)
 refine ⟨⟨?_, ?_⟩, ?_⟩
 ·first | refine demP (gLoad rfl Try.underlying3 rfl rfl (X169.load (v := (vI y161.mass)) rfl)) ?_ | refine demA (by decide +kernel) ?_
  exact demN
 ·exact demN
 refine DrawW.done fun fr196 hf197 => ?_
 have h0 := (congrFun hf197 0).trans h0
 have h4 := (congrFun hf197 4).trans h4
 have h5 := (congrFun hf197 5).trans h5
 clear hf197
 refine thenQ.n (W.seq (W.region ?_))
 refine SeqW.consX rfl (kLoadA rfl Try.underlying36 rfl Try.type36 rfl h5 X169.loads ?_)
 refine SeqW.consX rfl (kPut (off := 0) (w := (Value.agg [(str y161.number), (vI y161.length), (vI y161.axles), (vI y161.mass), (vI (IntKind.wrap .i64 (Int.tdiv (IntKind.wrap .i64 (y161.mass * y179.1)) 4))), (vI y161.goods), (vB y161.gentle), (str y161.dest)].toArray)) (new := [(str y161.number), (vI y161.length), (vI y161.axles), (vI y161.mass), (vI (IntKind.wrap .i64 (Int.tdiv (IntKind.wrap .i64 (y161.mass * y179.1)) 4))), (vI y161.goods), (vB y161.gentle), (str y161.dest)]) rfl Try.type36 h4 rfl rfl rfl rfl O171 rfl [(str y161.number), (vI y161.length), (vI y161.axles), (vI y161.mass), (vI (IntKind.wrap .i64 (Int.tdiv (IntKind.wrap .i64 (y161.mass * y179.1)) 4))), (vI y161.goods), (vB y161.gentle), (str y161.dest)] rfl st ?_)
 intro m198 st O171 sm199
 replace O170n := O170n.same sm199 A174
 refine SeqW.done fun fr200 hf201 => ?_
 have h0 := (congrFun hf201 0).trans h0
 have h4 := (congrFun hf201 4).trans h4
 clear hf201
 refine thenQ.n ?_
 refine W.ret ?_
 obtain rfl := Option.some.inj hr
 exact ⟨z180, hz, st, .inr rfl, B1, V185, h4, O171, O171.fresh, Q186, O170n, trivial⟩

theorem c_Maker_Wagon {N : Nat} {z : Nat → Blk} {m : Mem} {x0 : Maker} {x1 : Int} {v0_0 : Value} {b0 : Nat} (fz : Fz z m) (hd : ∀ b, m.next ≤ b → m.blk b = .dead) (s0_0 : SlR (TInt 3 .i64) z x0.l v0_0) (bx0 : Bx z m m (some b0) b0 [v0_0, (vI x0.n)] 52) {r : Wagon × Maker} (hr : Maker_Wagon N x0 x1 = some r) : CallW Try.prog 22 #[(vP b0), (vI x1)] m fun v m' => ∃ z' wr_0, Zx m.next z z' ∧ Fz z' m' ∧ Same m m' (some b0) ∧ v = (Value.agg [(str r.1.number), (vI r.1.length), (vI r.1.axles), (vI r.1.mass), (vI r.1.brake), (vI r.1.goods), (vB r.1.gentle), (str r.1.dest)].toArray) ∧ SlR (TInt 3 .i64) z' r.2.l wr_0 ∧ Bx z' m m' (some b0) b0 [wr_0, (vI r.2.n)] 52 ∧ True := by
 refine CallW.any Try.func22 rfl (by kernel_rfl) (Nat.le_of_ble_eq_true rfl) (fun fr hf => ?_)
 have h0 : fr 0 = _ := hf 0 _ rfl
 have h1 : fr 1 = _ := hf 1 _ rfl
 refine (u_Maker_Wagon (k := (some b0)) (Zx.refl _) (St.start fz hd) h0 s0_0 bx0 h1 hr).mono ?_
 rintro ex fr' m' ⟨z', hz, st, he, c4, wr_0, h4, bx4, fx4, sr_0, bxr, -⟩
 exact ⟨he, [(Value.agg [(str r.1.number), (vI r.1.length), (vI r.1.axles), (vI r.1.mass), (vI r.1.brake), (vI r.1.goods), (vB r.1.gentle), (str r.1.dest)].toArray)], ⟨resCell h4 bx4 Try.underlying36 rfl Try.type36 rfl, trivial⟩, .inl rfl, z', wr_0, hz, st.fz, st.toSame, rfl, sr_0, bxr, trivial⟩

/-! ### (*humpyard/humpgen.Maker).Wagons -/

theorem u_Maker_Wagons_0 : ∀ (n : Nat) {N : Nat}  {z0 z : Nat → Blk} {e m : Mem} {k : Option Nat} {fr : Nat → Value} {x0 : Maker} {x5 : List Wagon} {x6 : Int} {v0_0 : Value} {b0 : Nat} {v5 : Value} (hz : Zx e.next z0 z) (st : St z e m k) (h0 : fr 0 = (vP b0)) (s0_0 : SlR (TInt 3 .i64) z x0.l v0_0) (bx0 : Bx z e m k b0 [v0_0, (vI x0.n)] 52) (h5 : fr 5 = v5) (o5 : OwF TWagon z e m k x5 v5) (h6 : fr 6 = (vI x6)) (ao0_o5 : Ap (some b0) (blkOf v5)) {r : Maker × List Wagon} (hr : Maker_Wagons_0 N n x0 x5 x6 = some r), W Try.prog (sub (bodyOf Try.f11) [1, 1, 0, 1, 0]) (fun ex fr' m' => ∃ z', Zx e.next z0 z' ∧ St z' e m' k ∧ ex = AExit.exit 0 ∧ ∃ (w0_0 : Value) (w5 : Value), fr' 0 = (vP b0) ∧ SlR (TInt 3 .i64) z' r.1.l w0_0 ∧ Bx z' e m' k b0 [w0_0, (vI r.1.n)] 52 ∧ fr' 5 = w5 ∧ OwF TWagon z' e m' k r.2 w5 ∧ Ap (some b0) (blkOf w5) ∧ True) fr m := by
 intro n
 induction n with
 | zero => intro N z0 z e m k fr x0 x5 x6 v0_0 b0 v5 hz st h0 s0_0 bx0 h5 o5 h6 ao0_o5 r hr; cases (show (none : Option _) = some r from hr)
 | succ n ih =>
  intro N z0 z e m k fr x0 x5 x6 v0_0 b0 v5 hz st h0 s0_0 bx0 h5 o5 h6 ao0_o5 r hr
  unfold Maker_Wagons_0 at hr
  refine W.loop1 ?_
  refine W.seq (W.seq (W.region ?_))
  refine sx rfl (pMove (v := (vI x6)) rfl h6) ?_
  refine sx rfl (pGtr (k := .i64) (a := x6) (b := 0) rfl rfl rfl) ?_
  refine SeqW.done fun fr17 hf18 => ?_
  have h0 := (congrFun hf18 0).trans h0
  have h5 := (congrFun hf18 5).trans h5
  have h6 := (congrFun hf18 6).trans h6
  have h12 : fr17 12 = (vB (decide (0 < x6))) := (congrFun hf18 12).trans rfl
  clear hf18
  refine thenQ.n ?_
  rcases if_some hr with ⟨hc19, hr⟩ | ⟨hc52, hr⟩
  ·refine W.condT h12 hc19 (W.skip ?_)
   refine thenQ.n (W.seq ?_)
   refine W.block ?_
   refine W.region ?_
   refine sx rfl (pMove (v := v5) rfl h5) ?_
   refine sx rfl (pMove (v := (vP b0)) rfl h0) ?_
   refine sx rfl (pMove (v := v5) rfl h5) ?_
   refine sx rfl (pLenO (xs := x5) rfl Try.underlying24 rfl o5.ow) ?_
   obtain ⟨y20, hy20, hr⟩ := bind_some hr
   refine SeqW.consX rfl (StepX.call (gCallee rfl rfl (args2 rfl rfl)) ((c_Maker_Wagon (x0 := x0) (z := z) st.fz st.dead s0_0 ⟨bx0.blk, bx0.lt, bx0.dead, .inr rfl⟩ hy20).mono ?_))
   rintro _ m25 ⟨z21, V26, hzx22, fz23, sm24, rfl, Q27, X29, -⟩
   replace s0_0 := s0_0.mono hzx22.le
   replace o5 := o5.call hzx22 sm24 (Ap.symm ao0_o5)
   have bx0n : Bx z21 e m25 k b0 _ _ := ⟨X29.blk, X29.lt, X29.dead, bx0.fresh⟩
   replace hz := hz.trans (Zx.here st hzx22)
   replace st := st.call hzx22 fz23 sm24 bx0.hq
   refine SeqW.consX rfl (kBuild (T := TWagon) rfl Try.underlying24 Try.type36 rfl rfl rfl rfl ([y20.1] : List Wagon) [[(str y20.1.number), (vI y20.1.length), (vI y20.1.axles), (vI y20.1.mass), (vI y20.1.brake), (vI y20.1.goods), (vB y20.1.gentle), (str y20.1.dest)]] rfl rfl rfl (BuildOk.mk (w := (Value.agg [(str y20.1.number), (vI y20.1.length), (vI y20.1.axles), (vI y20.1.mass), (vI y20.1.brake), (vI y20.1.goods), (vB y20.1.gentle), (str y20.1.dest)].toArray)) rfl rfl rfl rfl trivial) st ?_)
   intro V30 m31 st O32 sm33 hap34
   have A36 := hap34 _ bx0n.lt'
   have A37 := hap34 _ o5.lt
   replace bx0n := bx0n.same sm33 Ap.none'
   replace o5 := o5.same sm33 Ap.none'
   obtain ⟨y38, hy38, hr⟩ := bind_some hr
   refine SeqW.consX rfl (kAppend (T := TWagon) (xs := x5) (ys := ([y20.1] : List Wagon)) rfl Try.underlying24 Try.type36 rfl rfl rfl rfl rfl rfl (.inl ⟨_, Try.underlying24⟩) rfl o5 rfl O32.ow.src st hy38 ?_)
   intro V39 m40 st O41 sm42 hap43
   have A45 := hap43 _ bx0n.lt' ao0_o5
   have A46 := hap43 _ O32.lt (Ap.symm A37)
   replace bx0n := bx0n.same sm42 ao0_o5
   replace O32 := O32.same sm42 (Ap.symm A37)
   refine sx rfl (pAssign (v := V39) rfl rfl) ?_
   refine SeqW.done fun fr47 hf48 => ?_
   have h0 := (congrFun hf48 0).trans h0
   have h5 : fr47 5 = V39 := (congrFun hf48 5).trans rfl
   have h6 := (congrFun hf48 6).trans h6
   clear hf48
   refine blockQ.n ?_
   refine thenQ.n (W.region ?_)
   refine sx rfl (pMove (v := (vI x6)) rfl h6) ?_
   refine sx rfl (pSub (k := .i64) (a := x6) (b := 1) rfl rfl rfl) ?_
   obtain ⟨y49, hy49, hr⟩ := lt_some hr
   refine sx rfl (pAssign rfl (congrArg (Value.int .i64) hy49)) ?_
   refine SeqW.done fun fr50 hf51 => ?_
   have h0 := (congrFun hf51 0).trans h0
   have h5 := (congrFun hf51 5).trans h5
   have h6 : fr50 6 = (vI y49) := (congrFun hf51 6).trans rfl
   clear hf51
   refine thenQ.n ?_
   exact ih (x0 := y20.2) hz st h0 Q27 bx0n h5 O41 h6 A45 hr
  ·refine W.condF h12 hc52 ?_
   refine W.exit ?_
   refine thenQ.x ?_
   refine thenQ.x ?_
   obtain rfl := Option.some.inj hr
   exact ⟨z, hz, st, rfl, v0_0, v5, h0, s0_0, bx0, h5, o5, ao0_o5, trivial⟩

theorem u_Maker_Wagons {N : Nat}  {z0 z : Nat → Blk} {e m : Mem} {k : Option Nat} {fr : Nat → Value} {x0 : Maker} {x1 : Int} {v0_0 : Value} {b0 : Nat} (hz : Zx e.next z0 z) (st : St z e m k) (h0 : fr 0 = (vP b0)) (s0_0 : SlR (TInt 3 .i64) z x0.l v0_0) (bx0 : Bx z e m k b0 [v0_0, (vI x0.n)] 52) (h1 : fr 1 = (vI x1)) {r : List Wagon × Maker} (hr : Maker_Wagons N x0 x1 = some r) : W Try.prog (sub (bodyOf Try.f11) []) (fun ex fr' m' => ∃ z', Zx e.next z0 z' ∧ St z' e m' k ∧ (ex = .normal ∨ ex = .ret) ∧ ∃ (w4 : Value) (wr_0 : Value), fr' 4 = w4 ∧ OwF TWagon z' e m' k r.1 w4 ∧ SlR (TInt 3 .i64) z' r.2.l wr_0 ∧ Bx z' e m' k b0 [wr_0, (vI r.2.n)] 52 ∧ True) fr m := by
 unfold Maker_Wagons at hr
 refine W.seq (W.region ?_)
 refine sx rfl (pAssign (v := (Value.slice none 0 0)) rfl rfl) ?_
 refine SeqW.done fun fr1 hf2 => ?_
 have h0 := (congrFun hf2 0).trans h0
 have h1 := (congrFun hf2 1).trans h1
 clear hf2
 refine thenQ.n (W.seq (W.region ?_))
 refine sx rfl (pAssign (v := (Value.slice none 0 0)) rfl rfl) ?_
 refine SeqW.done fun fr3 hf4 => ?_
 have h0 := (congrFun hf4 0).trans h0
 have h1 := (congrFun hf4 1).trans h1
 have h5 : fr3 5 = (Value.slice none 0 0) := (congrFun hf4 5).trans rfl
 clear hf4
 refine thenQ.n (W.seq ?_)
 refine W.seq (W.region ?_)
 refine sx rfl (pMove (v := (vP b0)) rfl h0) ?_
 refine sx rfl (pMove (v := (vI x1)) rfl h1) ?_
 refine sx rfl (pAdd (k := .i64) (a := x1) (b := 1) rfl rfl rfl) ?_
 obtain ⟨y5, hy5, hr⟩ := bind_some hr
 refine SeqW.consX rfl (StepX.call (gCallee rfl rfl (args2 rfl rfl)) ((c_Maker_Next (x0 := x0) (z := z) st.fz st.dead s0_0 ⟨bx0.blk, bx0.lt, bx0.dead, .inr rfl⟩ hy5).mono ?_))
 rintro _ m10 ⟨z6, V11, hzx7, fz8, sm9, rfl, Q12, X14, -⟩
 replace s0_0 := s0_0.mono hzx7.le
 have bx0n : Bx z6 e m10 k b0 _ _ := ⟨X14.blk, X14.lt, X14.dead, bx0.fresh⟩
 replace hz := hz.trans (Zx.here st hzx7)
 replace st := st.call hzx7 fz8 sm9 bx0.hq
 refine sx rfl (pAssign (v := (vI y5.1)) rfl rfl) ?_
 refine SeqW.done fun fr15 hf16 => ?_
 have h0 := (congrFun hf16 0).trans h0
 have h5 := (congrFun hf16 5).trans h5
 have h6 : fr15 6 = (vI y5.1) := (congrFun hf16 6).trans rfl
 clear hf16
 refine thenQ.n ?_
 refine W.block ?_
 obtain ⟨y53, hy53, hr⟩ := bind_some hr
 refine W.keep (u_Maker_Wagons_0 (x0 := y5.2) _ (Zx.refl _) st h0 Q12 bx0n h5 OwF.nil h6 Ap.none' hy53) ?_
 rintro ex59 fr54 m55 hk57 ⟨z56, hz58, st, rfl, w60, w61, h0, Q63, X65, h5, O67, A68, -⟩
 replace hz := hz.trans hz58
 clear hk57
 refine blockQ.hit ?_
 refine thenQ.n (W.seq (W.region ?_))
 refine sx rfl (pMove (v := w61) rfl h5) ?_
 refine sx rfl (pAssign (v := w61) rfl rfl) ?_
 refine SeqW.done fun fr69 hf70 => ?_
 have h0 := (congrFun hf70 0).trans h0
 have h4 : fr69 4 = w61 := (congrFun hf70 4).trans rfl
 clear hf70
 refine thenQ.n ?_
 refine W.ret ?_
 obtain rfl := Option.some.inj hr
 exact ⟨z56, hz, st, .inr rfl, w61, w60, h4, O67, Q63, X65, trivial⟩

theorem c_Maker_Wagons {N : Nat} {z : Nat → Blk} {m : Mem} {x0 : Maker} {x1 : Int} {v0_0 : Value} {b0 : Nat} (fz : Fz z m) (hd : ∀ b, m.next ≤ b → m.blk b = .dead) (s0_0 : SlR (TInt 3 .i64) z x0.l v0_0) (bx0 : Bx z m m (some b0) b0 [v0_0, (vI x0.n)] 52) {r : List Wagon × Maker} (hr : Maker_Wagons N x0 x1 = some r) : CallW Try.prog 11 #[(vP b0), (vI x1)] m fun v m' => ∃ z' w4 wr_0, Zx m.next z z' ∧ Fz z' m' ∧ Same m m' (some b0) ∧ v = w4 ∧ OwF TWagon z' m m' none r.1 w4 ∧ SlR (TInt 3 .i64) z' r.2.l wr_0 ∧ Bx z' m m' (some b0) b0 [wr_0, (vI r.2.n)] 52 ∧ True := by
 refine CallW.any Try.func11 rfl (by kernel_rfl) (Nat.le_of_ble_eq_true rfl) (fun fr hf => ?_)
 have h0 : fr 0 = _ := hf 0 _ rfl
 have h1 : fr 1 = _ := hf 1 _ rfl
 refine (u_Maker_Wagons (k := (some b0)) (Zx.refl _) (St.start fz hd) h0 s0_0 bx0 h1 hr).mono ?_
 rintro ex fr' m' ⟨z', hz, st, he, w4, wr_0, h4, s4, sr_0, bxr, -⟩
 exact ⟨he, [w4], ⟨h4.symm, trivial⟩, .inl rfl, z', w4, wr_0, hz, st.fz, st.toSame, rfl, (s4.up (Nat.le_refl _)), sr_0, bxr, trivial⟩

/-! ### humpyard/yardgen.Off -/

theorem u_yardgen_Off_1 {N : Nat}  {z0 z : Nat → Blk} {e m : Mem} {k : Option Nat} {fr : Nat → Value} {x0 : Maker} {x5 : List Int} {x6 : Int} {v0_0 : Value} {b0 : Nat} {v5 : Value} (hz : Zx e.next z0 z) (st : St z e m k) (h0 : fr 0 = (vP b0)) (s0_0 : SlR (TInt 3 .i64) z x0.l v0_0) (bx0 : Bx z e m k b0 [v0_0, (vI x0.n)] 52) (h5 : fr 5 = v5) (o5 : OwF (TInt 3 .i64) z e m k x5 v5) (h6 : fr 6 = (vI x6)) (ao0_o5 : Ap (some b0) (blkOf v5)) {r : Maker × List Int} (hr : yardgen_Off_1 N x0 x5 x6 = some r) : W Try.prog (sub (bodyOf Try.f12) [1, 1, 0, 1, 0, 0, 1, 0]) (fun ex fr' m' => ∃ z', Zx e.next z0 z' ∧ St z' e m' k ∧ ex = AExit.normal ∧ ∃ (w0_0 : Value) (w5 : Value), fr' 0 = (vP b0) ∧ SlR (TInt 3 .i64) z' r.1.l w0_0 ∧ Bx z' e m' k b0 [w0_0, (vI r.1.n)] 52 ∧ fr' 5 = w5 ∧ OwF (TInt 3 .i64) z' e m' k r.2 w5 ∧ Ap (some b0) (blkOf w5) ∧ True) fr m := by
 unfold yardgen_Off_1 at hr
 refine W.block ?_
 refine W.seq (W.region ?_)
 refine sx rfl (pMove (v := (vP b0)) rfl h0) ?_
 obtain ⟨y10, hy10, hr⟩ := bind_some hr
 refine SeqW.consX rfl (StepX.call (gCallee rfl rfl (args2 rfl rfl)) ((c_Maker_Next (x0 := x0) (z := z) st.fz st.dead s0_0 ⟨bx0.blk, bx0.lt, bx0.dead, .inr rfl⟩ hy10).mono ?_))
 rintro _ m15 ⟨z11, V16, hzx12, fz13, sm14, rfl, Q17, X19, -⟩
 replace s0_0 := s0_0.mono hzx12.le
 replace o5 := o5.call hzx12 sm14 (Ap.symm ao0_o5)
 have bx0n : Bx z11 e m15 k b0 _ _ := ⟨X19.blk, X19.lt, X19.dead, bx0.fresh⟩
 replace hz := hz.trans (Zx.here st hzx12)
 replace st := st.call hzx12 fz13 sm14 bx0.hq
 refine sx rfl (pEql (k := .i64) (a := y10.1) (b := 0) rfl rfl rfl) ?_
 refine SeqW.done fun fr20 hf21 => ?_
 have h0 := (congrFun hf21 0).trans h0
 have h5 := (congrFun hf21 5).trans h5
 have h6 := (congrFun hf21 6).trans h6
 have h14 : fr20 14 = (vB (y10.1 == 0)) := (congrFun hf21 14).trans rfl
 clear hf21
 refine thenQ.n ?_
 rcases if_some hr with ⟨hc22, hr⟩ | ⟨hc42, hr⟩
 ·refine W.condT h14 hc22 (W.region ?_)
  refine sx rfl (pMove (v := v5) rfl h5) ?_
  refine sx rfl (pMove (v := (vI x6)) rfl h6) ?_
  refine SeqW.consX rfl (kBuild (T := (TInt 3 .i64)) rfl Try.underlying22 Try.type3 rfl rfl rfl rfl ([x6] : List Int) [[(vI x6)]] rfl rfl rfl (BuildOk.mk (w := (vI x6)) rfl rfl rfl rfl trivial) st ?_)
  intro V23 m24 st O25 sm26 hap27
  have A29 := hap27 _ bx0n.lt'
  have A30 := hap27 _ o5.lt
  replace bx0n := bx0n.same sm26 Ap.none'
  replace o5 := o5.same sm26 Ap.none'
  obtain ⟨y31, hy31, hr⟩ := bind_some hr
  refine SeqW.consX rfl (kAppend (T := (TInt 3 .i64)) (xs := x5) (ys := ([x6] : List Int)) rfl Try.underlying22 Try.type3 rfl rfl rfl rfl rfl rfl (.inl ⟨_, Try.underlying22⟩) rfl o5 rfl O25.ow.src st hy31 ?_)
  intro V32 m33 st O34 sm35 hap36
  have A38 := hap36 _ bx0n.lt' ao0_o5
  have A39 := hap36 _ O25.lt (Ap.symm A30)
  replace bx0n := bx0n.same sm35 ao0_o5
  replace O25 := O25.same sm35 (Ap.symm A30)
  refine sx rfl (pAssign (v := V32) rfl rfl) ?_
  refine SeqW.done fun fr40 hf41 => ?_
  have h0 := (congrFun hf41 0).trans h0
  have h5 : fr40 5 = V32 := (congrFun hf41 5).trans rfl
  have h6 := (congrFun hf41 6).trans h6
  clear hf41
  refine blockQ.n ?_
  obtain rfl := Option.some.inj hr
  exact ⟨z11, hz, st, rfl, V16, V32, h0, Q17, bx0n, h5, O34, A38, trivial⟩
 ·refine W.condF h14 hc42 (W.skip ?_)
  refine blockQ.n ?_
  obtain rfl := Option.some.inj hr
  exact ⟨z11, hz, st, rfl, V16, v5, h0, Q17, bx0n, h5, o5, ao0_o5, trivial⟩

theorem u_yardgen_Off_0 : ∀ (n : Nat) {N : Nat}  {z0 z : Nat → Blk} {e m : Mem} {k : Option Nat} {fr : Nat → Value} {x0 : Maker} {x1 : Int} {x5 : List Int} {x6 : Int} {v0_0 : Value} {b0 : Nat} {v5 : Value} (hz : Zx e.next z0 z) (st : St z e m k) (h0 : fr 0 = (vP b0)) (s0_0 : SlR (TInt 3 .i64) z x0.l v0_0) (bx0 : Bx z e m k b0 [v0_0, (vI x0.n)] 52) (h1 : fr 1 = (vI x1)) (h5 : fr 5 = v5) (o5 : OwF (TInt 3 .i64) z e m k x5 v5) (h6 : fr 6 = (vI x6)) (ao0_o5 : Ap (some b0) (blkOf v5)) {r : Maker × List Int} (hr : yardgen_Off_0 N x1 n x0 x5 x6 = some r), W Try.prog (sub (bodyOf Try.f12) [1, 1, 0, 1, 0]) (fun ex fr' m' => ∃ z', Zx e.next z0 z' ∧ St z' e m' k ∧ ex = AExit.exit 0 ∧ ∃ (w0_0 : Value) (w5 : Value), fr' 0 = (vP b0) ∧ SlR (TInt 3 .i64) z' r.1.l w0_0 ∧ Bx z' e m' k b0 [w0_0, (vI r.1.n)] 52 ∧ fr' 5 = w5 ∧ OwF (TInt 3 .i64) z' e m' k r.2 w5 ∧ Ap (some b0) (blkOf w5) ∧ True) fr m := by
 intro n
 induction n with
 | zero => intro N z0 z e m k fr x0 x1 x5 x6 v0_0 b0 v5 hz st h0 s0_0 bx0 h1 h5 o5 h6 ao0_o5 r hr; cases (show (none : Option _) = some r from hr)
 | succ n ih =>
  intro N z0 z e m k fr x0 x1 x5 x6 v0_0 b0 v5 hz st h0 s0_0 bx0 h1 h5 o5 h6 ao0_o5 r hr
  unfold yardgen_Off_0 at hr
  refine W.loop1 ?_
  refine W.seq (W.seq (W.region ?_))
  refine sx rfl (pMove (v := (vI x6)) rfl h6) ?_
  refine sx rfl (pMove (v := (vI x1)) rfl h1) ?_
  refine sx rfl (pLss (k := .i64) (a := x6) (b := x1) rfl rfl rfl) ?_
  refine SeqW.done fun fr7 hf8 => ?_
  have h0 := (congrFun hf8 0).trans h0
  have h1 := (congrFun hf8 1).trans h1
  have h5 := (congrFun hf8 5).trans h5
  have h6 := (congrFun hf8 6).trans h6
  have h9 : fr7 9 = (vB (decide (x6 < x1))) := (congrFun hf8 9).trans rfl
  clear hf8
  refine thenQ.n ?_
  rcases if_some hr with ⟨hc9, hr⟩ | ⟨hc62, hr⟩
  ·refine W.condT h9 hc9 (W.skip ?_)
   refine thenQ.n (W.seq ?_)
   obtain ⟨y43, hy43, hr⟩ := bind_some hr
   refine W.keep (u_yardgen_Off_1 (x0 := x0) (Zx.refl _) st h0 s0_0 bx0 h5 o5 h6 ao0_o5 hy43) ?_
   rintro ex49 fr44 m45 hk47 ⟨z46, hz48, st, rfl, w50, w51, h0, Q53, X55, h5, O57, A58, -⟩
   have h1 := (hk47 1 rfl).trans h1
   have h6 := (hk47 6 rfl).trans h6
   replace hz := hz.trans hz48
   clear hk47
   refine thenQ.n (W.region ?_)
   refine sx rfl (pMove (v := (vI x6)) rfl h6) ?_
   refine sx rfl (pAdd (k := .i64) (a := x6) (b := 1) rfl rfl rfl) ?_
   obtain ⟨y59, hy59, hr⟩ := lt_some hr
   refine sx rfl (pAssign rfl (congrArg (Value.int .i64) hy59)) ?_
   refine SeqW.done fun fr60 hf61 => ?_
   have h0 := (congrFun hf61 0).trans h0
   have h1 := (congrFun hf61 1).trans h1
   have h5 := (congrFun hf61 5).trans h5
   have h6 : fr60 6 = (vI y59) := (congrFun hf61 6).trans rfl
   clear hf61
   refine thenQ.n ?_
   exact ih (x0 := y43.1) hz st h0 Q53 X55 h1 h5 O57 h6 A58 hr
  ·refine W.condF h9 hc62 ?_
   refine W.exit ?_
   refine thenQ.x ?_
   refine thenQ.x ?_
   obtain rfl := Option.some.inj hr
   exact ⟨z, hz, st, rfl, v0_0, v5, h0, s0_0, bx0, h5, o5, ao0_o5, trivial⟩

theorem u_yardgen_Off {N : Nat}  {z0 z : Nat → Blk} {e m : Mem} {k : Option Nat} {fr : Nat → Value} {x0 : Maker} {x1 : Int} {v0_0 : Value} {b0 : Nat} (hz : Zx e.next z0 z) (st : St z e m k) (h0 : fr 0 = (vP b0)) (s0_0 : SlR (TInt 3 .i64) z x0.l v0_0) (bx0 : Bx z e m k b0 [v0_0, (vI x0.n)] 52) (h1 : fr 1 = (vI x1)) {r : List Int × Maker} (hr : yardgen_Off N x0 x1 = some r) : W Try.prog (sub (bodyOf Try.f12) []) (fun ex fr' m' => ∃ z', Zx e.next z0 z' ∧ St z' e m' k ∧ (ex = .normal ∨ ex = .ret) ∧ ∃ (w4 : Value) (wr_0 : Value), fr' 4 = w4 ∧ OwF (TInt 3 .i64) z' e m' k r.1 w4 ∧ SlR (TInt 3 .i64) z' r.2.l wr_0 ∧ Bx z' e m' k b0 [wr_0, (vI r.2.n)] 52 ∧ True) fr m := by
 unfold yardgen_Off at hr
 refine W.seq (W.region ?_)
 refine sx rfl (pAssign (v := (Value.slice none 0 0)) rfl rfl) ?_
 refine SeqW.done fun fr1 hf2 => ?_
 have h0 := (congrFun hf2 0).trans h0
 have h1 := (congrFun hf2 1).trans h1
 clear hf2
 refine thenQ.n (W.seq (W.region ?_))
 refine sx rfl (pAssign (v := (Value.slice none 0 0)) rfl rfl) ?_
 refine SeqW.done fun fr3 hf4 => ?_
 have h0 := (congrFun hf4 0).trans h0
 have h1 := (congrFun hf4 1).trans h1
 have h5 : fr3 5 = (Value.slice none 0 0) := (congrFun hf4 5).trans rfl
 clear hf4
 refine thenQ.n (W.seq ?_)
 refine W.seq (W.region ?_)
 refine sx rfl (pAssign (v := (vI 0)) rfl rfl) ?_
 refine SeqW.done fun fr5 hf6 => ?_
 have h0 := (congrFun hf6 0).trans h0
 have h1 := (congrFun hf6 1).trans h1
 have h5 := (congrFun hf6 5).trans h5
 have h6 : fr5 6 = (vI 0) := (congrFun hf6 6).trans rfl
 clear hf6
 refine thenQ.n ?_
 refine W.block ?_
 obtain ⟨y63, hy63, hr⟩ := bind_some hr
 refine W.keep (u_yardgen_Off_0 (x0 := x0) _ (Zx.refl _) st h0 s0_0 bx0 h1 h5 OwF.nil h6 Ap.none' hy63) ?_
 rintro ex69 fr64 m65 hk67 ⟨z66, hz68, st, rfl, w70, w71, h0, Q73, X75, h5, O77, A78, -⟩
 replace hz := hz.trans hz68
 clear hk67
 refine blockQ.hit ?_
 refine thenQ.n (W.seq (W.region ?_))
 refine sx rfl (pMove (v := w71) rfl h5) ?_
 refine sx rfl (pAssign (v := w71) rfl rfl) ?_
 refine SeqW.done fun fr79 hf80 => ?_
 have h0 := (congrFun hf80 0).trans h0
 have h4 : fr79 4 = w71 := (congrFun hf80 4).trans rfl
 clear hf80
 refine thenQ.n ?_
 refine W.ret ?_
 obtain rfl := Option.some.inj hr
 exact ⟨z66, hz, st, .inr rfl, w71, w70, h4, O77, Q73, X75, trivial⟩

theorem c_yardgen_Off {N : Nat} {z : Nat → Blk} {m : Mem} {x0 : Maker} {x1 : Int} {v0_0 : Value} {b0 : Nat} (fz : Fz z m) (hd : ∀ b, m.next ≤ b → m.blk b = .dead) (s0_0 : SlR (TInt 3 .i64) z x0.l v0_0) (bx0 : Bx z m m (some b0) b0 [v0_0, (vI x0.n)] 52) {r : List Int × Maker} (hr : yardgen_Off N x0 x1 = some r) : CallW Try.prog 12 #[(vP b0), (vI x1)] m fun v m' => ∃ z' w4 wr_0, Zx m.next z z' ∧ Fz z' m' ∧ Same m m' (some b0) ∧ v = w4 ∧ OwF (TInt 3 .i64) z' m m' none r.1 w4 ∧ SlR (TInt 3 .i64) z' r.2.l wr_0 ∧ Bx z' m m' (some b0) b0 [wr_0, (vI r.2.n)] 52 ∧ True := by
 refine CallW.any Try.func12 rfl (by kernel_rfl) (Nat.le_of_ble_eq_true rfl) (fun fr hf => ?_)
 have h0 : fr 0 = _ := hf 0 _ rfl
 have h1 : fr 1 = _ := hf 1 _ rfl
 refine (u_yardgen_Off (k := (some b0)) (Zx.refl _) (St.start fz hd) h0 s0_0 bx0 h1 hr).mono ?_
 rintro ex fr' m' ⟨z', hz, st, he, w4, wr_0, h4, s4, sr_0, bxr, -⟩
 exact ⟨he, [w4], ⟨h4.symm, trivial⟩, .inl rfl, z', w4, wr_0, hz, st.fz, st.toSame, rfl, (s4.up (Nat.le_refl _)), sr_0, bxr, trivial⟩

/-! ### humpyard/rulebook.valid -/

theorem u_rulebook_valid_1 {N : Nat}  {z0 z : Nat → Blk} {e m : Mem} {k : Option Nat} {fr : Nat → Value} {x4 : Int} {x1 : Rule} {b1 : Nat} {x11 : List Int} {v11 : Value} (hz : Zx e.next z0 z) (st : St z e m k) (h1 : fr 1 = (vP b1)) (bx1 : Bx z e m k b1 [(vI x1.number), (vI x1.kind), (vI x1.a), (vI x1.b), (vI x1.c)] 32) (h4 : fr 4 = (vI x4)) (h11 : fr 11 = v11) (o11 : OwF (TInt 3 .i64) z e m k x11 v11) (ao1_o11 : Ap (some b1) (blkOf v11)) {r : Bool} (hr : rulebook_valid_1 N x4 = some r) : W Try.prog (sub (bodyOf Try.f31) [1, 0, 1, 0, 0, 1, 1, 0, 0, 1, 0]) (fun ex fr' m' => ∃ z', Zx e.next z0 z' ∧ St z' e m' k ∧ ex = AExit.normal ∧ fr' 22 = (vB r) ∧ Bx z' e m' k b1 [(vI x1.number), (vI x1.kind), (vI x1.a), (vI x1.b), (vI x1.c)] 32 ∧ OwF (TInt 3 .i64) z' e m' k x11 v11 ∧ Ap (some b1) (blkOf v11) ∧ True) fr m := by
 unfold rulebook_valid_1 at hr
 refine W.region ?_
 refine sx rfl (pMove (v := (vI x4)) rfl h4) ?_
 refine sx rfl (pLss (k := .i64) (a := x4) (b := 0) rfl rfl rfl) ?_
 refine sx rfl (pMove (v := (vB (decide (x4 < 0)))) rfl rfl) ?_
 rcases if_some hr with ⟨hc32, hr⟩ | ⟨hc35, hr⟩
 ·refine kx rfl rfl rfl hc32 ?_
  refine kx rfl rfl rfl hc32 ?_
  refine sx rfl (pPick (t := true) (v := (vB true)) rfl ((congrArg vB hc32)) rfl) ?_
  refine SeqW.done fun fr33 hf34 => ?_
  have h1 := (congrFun hf34 1).trans h1
  have h11 := (congrFun hf34 11).trans h11
  have h22 : fr33 22 = (vB true) := (congrFun hf34 22).trans rfl
  clear hf34
  obtain rfl := Option.some.inj hr
  exact ⟨z, hz, st, rfl, h22, bx1, o11, ao1_o11, trivial⟩
 ·refine SeqW.consG rfl rfl rfl hc35 (StepX.pure (pMove (v := (vI x4)) rfl h4) ?_)
  refine SeqW.consG rfl rfl rfl hc35 (StepX.pure (pGtr (k := .i64) (a := x4) (b := 1000000) rfl rfl rfl) ?_)
  refine sx rfl (pPick (t := false) (v := (vB (decide (1000000 < x4)))) rfl ((congrArg vB hc35)) rfl) ?_
  refine SeqW.done fun fr36 hf37 => ?_
  have h1 := (congrFun hf37 1).trans h1
  have h11 := (congrFun hf37 11).trans h11
  have h22 : fr36 22 = (vB (decide (1000000 < x4))) := (congrFun hf37 22).trans rfl
  clear hf37
  obtain rfl := Option.some.inj hr
  exact ⟨z, hz, st, rfl, h22, bx1, o11, ao1_o11, trivial⟩

theorem u_rulebook_valid_0 : ∀ (n : Nat) {N : Nat}  {z0 z : Nat → Blk} {e m : Mem} {k : Option Nat} {fr : Nat → Value} {x11 : List Int} {x12 : Int} {x13 : Int} {x1 : Rule} {b1 : Nat} {v11 : Value} (hz : Zx e.next z0 z) (st : St z e m k) (h1 : fr 1 = (vP b1)) (bx1 : Bx z e m k b1 [(vI x1.number), (vI x1.kind), (vI x1.a), (vI x1.b), (vI x1.c)] 32) (h11 : fr 11 = v11) (o11 : OwF (TInt 3 .i64) z e m k x11 v11) (h12 : fr 12 = (vI x12)) (h13 : fr 13 = (vI x13)) (ao1_o11 : Ap (some b1) (blkOf v11)) {r : Sum (Unit) (Bool)} (hr : rulebook_valid_0 N x11 x12 n x13 = some r), W Try.prog (sub (bodyOf Try.f31) [1, 0, 1, 0]) (fun ex fr' m' => ∃ z', Zx e.next z0 z' ∧ St z' e m' k ∧ ((∃ q, r = Sum.inl q ∧ ex = AExit.exit 0 ∧ Bx z' e m' k b1 [(vI x1.number), (vI x1.kind), (vI x1.a), (vI x1.b), (vI x1.c)] 32 ∧ True) ∨ (∃ q, r = Sum.inr q ∧ ex = AExit.ret ∧ fr' 2 = (vB q) ∧ True))) fr m := by
 intro n
 induction n with
 | zero => intro N z0 z e m k fr x11 x12 x13 x1 b1 v11 hz st h1 bx1 h11 o11 h12 h13 ao1_o11 r hr; cases (show (none : Option _) = some r from hr)
 | succ n ih =>
  intro N z0 z e m k fr x11 x12 x13 x1 b1 v11 hz st h1 bx1 h11 o11 h12 h13 ao1_o11 r hr
  unfold rulebook_valid_0 at hr
  refine W.loop1 ?_
  refine W.seq (W.region ?_)
  refine sx rfl (pLss (k := .i64) (a := x13) (b := x12) rfl h13 h12) ?_
  refine SeqW.done fun fr18 hf19 => ?_
  have h1 := (congrFun hf19 1).trans h1
  have h11 := (congrFun hf19 11).trans h11
  have h12 := (congrFun hf19 12).trans h12
  have h13 := (congrFun hf19 13).trans h13
  have h14 : fr18 14 = (vB (decide (x13 < x12))) := (congrFun hf19 14).trans rfl
  clear hf19
  refine thenQ.n (W.seq ?_)
  rcases if_some hr with ⟨hc20, hr⟩ | ⟨hc54, hr⟩
  ·refine W.condT h14 hc20 (W.skip ?_)
   refine thenQ.n (W.seq ?_)
   refine W.block ?_
   refine W.seq (W.region ?_)
   obtain ⟨y21, hy21, hr⟩ := bind_some hr
   refine SeqW.consX rfl (kIdxO (T := (TInt 3 .i64)) (xs := x11) (n := x13) rfl Try.underlying22 Try.type3 rfl h11 h13 o11 hy21 ?_)
   intro B22 l23 c24 cs25 hv26 hd27 hg28 hc29
   have hd270 := hd27
   obtain rfl := hd270
   refine SeqW.consX rfl (kLoad (v := (vI y21)) rfl Try.underlying3 rfl rfl (hc29 0 _ rfl) ?_)
   refine sx rfl (pAssign (v := (vI y21)) rfl rfl) ?_
   refine SeqW.done fun fr30 hf31 => ?_
   have h1 := (congrFun hf31 1).trans h1
   have h4 : fr30 4 = (vI y21) := (congrFun hf31 4).trans rfl
   have h11 := (congrFun hf31 11).trans h11
   have h12 := (congrFun hf31 12).trans h12
   have h13 := (congrFun hf31 13).trans h13
   clear hf31
   refine thenQ.n (W.seq ?_)
   obtain ⟨y38, hy38, hr⟩ := bind_some hr
   refine W.keep (u_rulebook_valid_1 (x1 := x1) (Zx.refl _) st h1 bx1 h4 h11 o11 ao1_o11 hy38) ?_
   rintro ex44 fr39 m40 hk42 ⟨z41, hz43, st, rfl, h22, O45, O46, A47, -⟩
   have h1 := (hk42 1 rfl).trans h1
   have h11 := (hk42 11 rfl).trans h11
   have h12 := (hk42 12 rfl).trans h12
   have h13 := (hk42 13 rfl).trans h13
   replace hz := hz.trans hz43
   clear hk42
   refine thenQ.n ?_
   rcases if_some hr with ⟨hc48, hr⟩ | ⟨hc51, hr⟩
   ·refine W.condT h22 hc48 (W.seq (W.region ?_))
    refine sx rfl (pAssign (v := (vB false)) rfl rfl) ?_
    refine SeqW.done fun fr49 hf50 => ?_
    have h2 : fr49 2 = (vB false) := (congrFun hf50 2).trans rfl
    clear hf50
    refine thenQ.n ?_
    refine W.ret ?_
    refine blockQ.r ?_
    refine thenQ.r ?_
    refine thenQ.r ?_
    obtain rfl := Option.some.inj hr
    exact ⟨z41, hz, st, .inr ⟨_, rfl, rfl, h2, trivial⟩⟩
   ·refine W.condF h22 hc51 (W.skip ?_)
    refine blockQ.n ?_
    refine thenQ.n (W.region ?_)
    refine sx rfl (pAdd (k := .i64) (a := x13) (b := 1) rfl h13 rfl) ?_
    refine sx rfl (pMove (v := (vI (IntKind.wrap .i64 (x13 + 1)))) rfl rfl) ?_
    refine SeqW.done fun fr52 hf53 => ?_
    have h1 := (congrFun hf53 1).trans h1
    have h11 := (congrFun hf53 11).trans h11
    have h12 := (congrFun hf53 12).trans h12
    have h13 : fr52 13 = (vI (IntKind.wrap .i64 (x13 + 1))) := (congrFun hf53 13).trans rfl
    clear hf53
    refine thenQ.n ?_
    exact ih (x1 := x1) hz st h1 O45 h11 O46 h12 h13 A47 hr
  ·refine W.condF h14 hc54 ?_
   refine W.exit ?_
   refine thenQ.x ?_
   refine thenQ.x ?_
   obtain rfl := Option.some.inj hr
   exact ⟨z, hz, st, .inl ⟨_, rfl, rfl, bx1, trivial⟩⟩

theorem u_rulebook_valid_2 {N : Nat}  {z0 z : Nat → Blk} {e m : Mem} {k : Option Nat} {fr : Nat → Value} {x1 : Rule} {b1 : Nat} (hz : Zx e.next z0 z) (st : St z e m k) (h1 : fr 1 = (vP b1)) (bx1 : Bx z e m k b1 [(vI x1.number), (vI x1.kind), (vI x1.a), (vI x1.b), (vI x1.c)] 32) {r : Bool} (hr : rulebook_valid_2 N x1 = some r) : W Try.prog (sub (bodyOf Try.f31) [1, 1, 0]) (fun ex fr' m' => ∃ z', Zx e.next z0 z' ∧ St z' e m' k ∧ ex = AExit.normal ∧ fr' 2 = (vB r) ∧ True) fr m := by
 unfold rulebook_valid_2 at hr
 refine W.region ?_
 refine SeqW.consX rfl (kField rfl Try.underlying32 rfl Try.type3 rfl h1 rfl ?_)
 refine SeqW.consX rfl (kLoad rfl Try.underlying3 rfl rfl (bx1.load (v := (vI x1.number)) rfl) ?_)
 refine sx rfl (pGeq (k := .i64) (a := x1.number) (b := 1) rfl rfl rfl) ?_
 refine sx rfl (pMove (v := (vB (decide (1 ≤ x1.number)))) rfl rfl) ?_
 rcases if_some hr with ⟨hc64, hr⟩ | ⟨hc76, hr⟩
 ·refine SeqW.consG rfl rfl rfl hc64 (kField rfl Try.underlying32 rfl Try.type3 rfl h1 rfl ?_)
  refine SeqW.consG rfl rfl rfl hc64 (kLoad rfl Try.underlying3 rfl rfl (bx1.load (v := (vI x1.number)) rfl) ?_)
  refine SeqW.consG rfl rfl rfl hc64 (StepX.pure (pLeq (k := .i64) (a := x1.number) (b := 9999) rfl rfl rfl) ?_)
  refine sx rfl (pPick (t := true) (v := (vB (decide (x1.number ≤ 9999)))) rfl ((congrArg vB hc64)) rfl) ?_
  refine sx rfl (pMove (v := (vB (decide (x1.number ≤ 9999)))) rfl rfl) ?_
  rcases if_some hr with ⟨hc65, hr⟩ | ⟨hc73, hr⟩
  ·refine SeqW.consG rfl rfl rfl hc65 (kField rfl Try.underlying32 rfl Try.type3 rfl h1 rfl ?_)
   refine SeqW.consG rfl rfl rfl hc65 (kLoad rfl Try.underlying3 rfl rfl (bx1.load (v := (vI x1.kind)) rfl) ?_)
   refine SeqW.consG rfl rfl rfl hc65 (StepX.pure (pGeq (k := .i64) (a := x1.kind) (b := 1) rfl rfl rfl) ?_)
   refine sx rfl (pPick (t := true) (v := (vB (decide (1 ≤ x1.kind)))) rfl ((congrArg vB hc65)) rfl) ?_
   refine sx rfl (pMove (v := (vB (decide (1 ≤ x1.kind)))) rfl rfl) ?_
   rcases if_some hr with ⟨hc66, hr⟩ | ⟨hc70, hr⟩
   ·refine SeqW.consG rfl rfl rfl hc66 (kField rfl Try.underlying32 rfl Try.type3 rfl h1 rfl ?_)
    refine SeqW.consG rfl rfl rfl hc66 (kLoad rfl Try.underlying3 rfl rfl (bx1.load (v := (vI x1.kind)) rfl) ?_)
    refine SeqW.consG rfl rfl rfl hc66 (StepX.pure (pLeq (k := .i64) (a := x1.kind) (b := 9) rfl rfl rfl) ?_)
    refine sx rfl (pPick (t := true) (v := (vB (decide (x1.kind ≤ 9)))) rfl ((congrArg vB hc66)) rfl) ?_
    obtain ⟨y67, hy67, hr⟩ := lt_some hr
    refine sx rfl (pAssign rfl (congrArg vB hy67)) ?_
    refine SeqW.done fun fr68 hf69 => ?_
    have h2 : fr68 2 = (vB y67) := (congrFun hf69 2).trans rfl
    clear hf69
    obtain rfl := Option.some.inj hr
    exact ⟨z, hz, st, rfl, h2, trivial⟩
   ·refine kx rfl rfl rfl hc70 ?_
    iterate 2 refine kx rfl rfl rfl hc70 ?_
    refine sx rfl (pPick (t := false) (v := (vB false)) rfl ((congrArg vB hc70)) rfl) ?_
    refine sx rfl (pAssign (v := (vB false)) rfl rfl) ?_
    refine SeqW.done fun fr71 hf72 => ?_
    have h2 : fr71 2 = (vB false) := (congrFun hf72 2).trans rfl
    clear hf72
    obtain rfl := Option.some.inj hr
    exact ⟨z, hz, st, rfl, h2, trivial⟩
  ·refine kx rfl rfl rfl hc73 ?_
   iterate 2 refine kx rfl rfl rfl hc73 ?_
   refine sx rfl (pPick (t := false) (v := (vB false)) rfl ((congrArg vB hc73)) rfl) ?_
   refine sx rfl (pMove (v := (vB false)) rfl rfl) ?_
   iterate 3 refine kx rfl rfl rfl rfl ?_
   refine sx rfl (pPick (t := false) (v := (vB false)) rfl ((congrArg vB (rfl : false = false))) rfl) ?_
   refine sx rfl (pAssign (v := (vB false)) rfl rfl) ?_
   refine SeqW.done fun fr74 hf75 => ?_
   have h2 : fr74 2 = (vB false) := (congrFun hf75 2).trans rfl
   clear hf75
   obtain rfl := Option.some.inj hr
   exact ⟨z, hz, st, rfl, h2, trivial⟩
 ·refine kx rfl rfl rfl hc76 ?_
  iterate 2 refine kx rfl rfl rfl hc76 ?_
  refine sx rfl (pPick (t := false) (v := (vB false)) rfl ((congrArg vB hc76)) rfl) ?_
  refine sx rfl (pMove (v := (vB false)) rfl rfl) ?_
  iterate 3 refine kx rfl rfl rfl rfl ?_
  refine sx rfl (pPick (t := false) (v := (vB false)) rfl ((congrArg vB (rfl : false = false))) rfl) ?_
  refine sx rfl (pMove (v := (vB false)) rfl rfl) ?_
  iterate 3 refine kx rfl rfl rfl rfl ?_
  refine sx rfl (pPick (t := false) (v := (vB false)) rfl ((congrArg vB (rfl : false = false))) rfl) ?_
  refine sx rfl (pAssign (v := (vB false)) rfl rfl) ?_
  refine SeqW.done fun fr77 hf78 => ?_
  have h2 : fr77 2 = (vB false) := (congrFun hf78 2).trans rfl
  clear hf78
  obtain rfl := Option.some.inj hr
  exact ⟨z, hz, st, rfl, h2, trivial⟩

theorem u_rulebook_valid {N : Nat}  {z0 z : Nat → Blk} {e m : Mem} {k : Option Nat} {fr : Nat → Value} {x0 : Rule} (hz : Zx e.next z0 z) (st : St z e m k) (h0 : fr 0 = (Value.agg [(vI x0.number), (vI x0.kind), (vI x0.a), (vI x0.b), (vI x0.c)].toArray)) {r : Bool} (hr : rulebook_valid N x0 = some r) : W Try.prog (sub (bodyOf Try.f31) []) (fun ex fr' m' => ∃ z', Zx e.next z0 z' ∧ St z' e m' k ∧ (ex = .normal ∨ ex = .ret) ∧ fr' 2 = (vB r) ∧ True) fr m := by
 unfold rulebook_valid at hr
 refine W.seq (W.region ?_)
 refine SeqW.consX rfl (kBox (v := (Value.agg [(vI x0.number), (vI x0.kind), (vI x0.a), (vI x0.b), (vI x0.c)].toArray)) rfl Try.type32 h0 rfl [(vI x0.number), (vI x0.kind), (vI x0.a), (vI x0.b), (vI x0.c)] rfl rfl st ?_)
 intro B1 m2  st X3 sm4 hap5
 refine sx rfl (pAssign (v := (vB false)) rfl rfl) ?_
 refine SeqW.done fun fr7 hf8 => ?_
 have h1 : fr7 1 = (vP B1) := (congrFun hf8 1).trans rfl
 clear hf8
 refine thenQ.n (W.seq ?_)
 refine W.seq (W.region ?_)
 refine SeqW.consX rfl (kField rfl Try.underlying32 rfl Try.type3 rfl h1 rfl ?_)
 refine SeqW.consX rfl (kLoad rfl Try.underlying3 rfl rfl (X3.load (v := (vI x0.a)) rfl) ?_)
 refine SeqW.consX rfl (kField rfl Try.underlying32 rfl Try.type3 rfl h1 rfl ?_)
 refine SeqW.consX rfl (kLoad rfl Try.underlying3 rfl rfl (X3.load (v := (vI x0.b)) rfl) ?_)
 refine SeqW.consX rfl (kField rfl Try.underlying32 rfl Try.type3 rfl h1 rfl ?_)
 refine SeqW.consX rfl (kLoad rfl Try.underlying3 rfl rfl (X3.load (v := (vI x0.c)) rfl) ?_)
 refine SeqW.consX rfl (kBuild (T := (TInt 3 .i64)) rfl Try.underlying22 Try.type3 rfl rfl rfl rfl ([x0.a, x0.b, x0.c] : List Int) [[(vI x0.a)], [(vI x0.b)], [(vI x0.c)]] rfl rfl rfl (BuildOk.mk (w := (vI x0.a)) rfl rfl rfl rfl (BuildOk.mk (w := (vI x0.b)) rfl rfl rfl rfl (BuildOk.mk (w := (vI x0.c)) rfl rfl rfl rfl trivial))) st ?_)
 intro V9 m10 st O11 sm12 hap13
 have A15 := hap13 _ X3.lt'
 replace X3 := X3.same sm12 Ap.none'
 refine sx rfl (pLenO (xs := ([x0.a, x0.b, x0.c] : List Int)) rfl Try.underlying22 rfl O11.ow) ?_
 refine sx rfl (pMove (v := (vI 0)) rfl rfl) ?_
 refine SeqW.done fun fr16 hf17 => ?_
 have h1 := (congrFun hf17 1).trans h1
 have h11 : fr16 11 = V9 := (congrFun hf17 11).trans rfl
 have h12 : fr16 12 = (vI (([x0.a, x0.b, x0.c] : List Int).length : Int)) := (congrFun hf17 12).trans rfl
 have h13 : fr16 13 = (vI 0) := (congrFun hf17 13).trans rfl
 clear hf17
 refine thenQ.n ?_
 refine W.block ?_
 obtain ⟨y55, hy55, hr⟩ := bind_some hr
 refine W.keep (u_rulebook_valid_0 (x1 := x0) _ (Zx.refl _) st h1 X3 h11 O11 h12 h13 A15 hy55) ?_
 rintro ex61 fr56 m57 hk59 ⟨z58, hz60, st, ⟨y62, rfl, rfl, O63, -⟩ | ⟨y86, rfl, rfl, h2, -⟩⟩
 ·dsimp only at hr
  have h1 := (hk59 1 rfl).trans h1
  replace hz := hz.trans hz60
  clear hk59
  refine blockQ.hit ?_
  refine thenQ.n (W.seq ?_)
  obtain ⟨y79, hy79, hr⟩ := bind_some hr
  refine W.keep (u_rulebook_valid_2 (x1 := x0) (Zx.refl _) st h1 O63 hy79) ?_
  rintro ex85 fr80 m81 hk83 ⟨z82, hz84, st, rfl, h2, -⟩
  replace hz := hz.trans hz84
  clear hk83
  refine thenQ.n ?_
  refine W.ret ?_
  obtain rfl := Option.some.inj hr
  exact ⟨z82, hz, st, .inr rfl, h2, trivial⟩
 ·dsimp only at hr
  replace hz := hz.trans hz60
  clear hk59
  refine blockQ.r ?_
  refine thenQ.r ?_
  obtain rfl := Option.some.inj hr
  exact ⟨z58, hz, st, .inr rfl, h2, trivial⟩

theorem c_rulebook_valid {N : Nat} {z : Nat → Blk} {m : Mem} {x0 : Rule} (fz : Fz z m) (hd : ∀ b, m.next ≤ b → m.blk b = .dead)  {r : Bool} (hr : rulebook_valid N x0 = some r) : CallW Try.prog 31 #[(Value.agg [(vI x0.number), (vI x0.kind), (vI x0.a), (vI x0.b), (vI x0.c)].toArray)] m fun v m' => v = (vB r) ∧ m' = m := by
 refine CallW.flat Try.func31 rfl (by kernel_rfl) (Nat.le_of_ble_eq_true rfl) rfl (z := z) (fun fr hf => ?_)
 have h0 : fr 0 = _ := hf 0 _ rfl
 refine (u_rulebook_valid (k := none) (Zx.refl _) (St.start fz hd) h0 hr).mono ?_
 rintro ex fr' m' ⟨z', hz, st, he, h2, -⟩
 exact ⟨he, z', st, [(vB r)], ⟨h2.symm, trivial⟩, .inl rfl, rfl⟩

/-! ### humpyard/rulebook.Valid$1 -/

theorem u_rulebook_Valid_1 {N : Nat}  {z0 z : Nat → Blk} {e m : Mem} {k : Option Nat} {fr : Nat → Value} {x0 : Rule} {x1 : Rule} {b1 : Nat} {f1 : Nat} (hz : Zx e.next z0 z) (st : St z e m k) (h0 : fr 0 = (Value.agg [(vI x0.number), (vI x0.kind), (vI x0.a), (vI x0.b), (vI x0.c)].toArray)) (h1 : fr 1 = (Value.pointer (some ⟨b1, f1, none⟩))) (c1 : cellsAt z b1 f1 [(vI x1.number), (vI x1.kind), (vI x1.a), (vI x1.b), (vI x1.c)]) {r : Bool} (hr : rulebook_Valid_1 N x0 x1 = some r) : W Try.prog (sub (bodyOf Try.f38) []) (fun ex fr' m' => ∃ z', Zx e.next z0 z' ∧ St z' e m' k ∧ (ex = .normal ∨ ex = .ret) ∧ fr' 3 = (vB r) ∧ True) fr m := by
 unfold rulebook_Valid_1 at hr
 refine W.seq (W.region ?_)
 refine SeqW.consX rfl (kBox (v := (Value.agg [(vI x0.number), (vI x0.kind), (vI x0.a), (vI x0.b), (vI x0.c)].toArray)) rfl Try.type32 h0 rfl [(vI x0.number), (vI x0.kind), (vI x0.a), (vI x0.b), (vI x0.c)] rfl rfl st ?_)
 intro B1 m2  st X3 sm4 hap5
 refine sx rfl (pAssign (v := (vB false)) rfl rfl) ?_
 refine SeqW.done fun fr7 hf8 => ?_
 have h1 := (congrFun hf8 1).trans h1
 have h2 : fr7 2 = (vP B1) := (congrFun hf8 2).trans rfl
 clear hf8
 refine thenQ.n (W.seq (W.region ?_))
 refine SeqW.consX rfl (kField rfl Try.underlying32 rfl Try.type3 rfl h2 rfl ?_)
 refine SeqW.consX rfl (kLoad rfl Try.underlying3 rfl rfl (X3.load (v := (vI x0.number)) rfl) ?_)
 refine SeqW.consX rfl (kField rfl Try.underlying32 rfl Try.type3 rfl h1 rfl ?_)
 refine SeqW.consX rfl (kLoad (v := (vI x1.number)) rfl Try.underlying3 rfl rfl (ldz_load st.fz (c1 0 _ rfl)) ?_)
 refine sx rfl (pEql (k := .i64) (a := x0.number) (b := x1.number) rfl rfl rfl) ?_
 obtain ⟨y9, hy9, hr⟩ := lt_some hr
 refine sx rfl (pAssign rfl (congrArg vB hy9)) ?_
 refine SeqW.done fun fr10 hf11 => ?_
 have h3 : fr10 3 = (vB y9) := (congrFun hf11 3).trans rfl
 clear hf11
 refine thenQ.n ?_
 refine W.ret ?_
 obtain rfl := Option.some.inj hr
 exact ⟨z, hz, st, .inr rfl, h3, trivial⟩

theorem c_rulebook_Valid_1 {N : Nat} {z : Nat → Blk} {m : Mem} {x0 : Rule} {x1 : Rule} {b1 : Nat} {f1 : Nat} (fz : Fz z m) (hd : ∀ b, m.next ≤ b → m.blk b = .dead) (c1 : cellsAt z b1 f1 [(vI x1.number), (vI x1.kind), (vI x1.a), (vI x1.b), (vI x1.c)]) {r : Bool} (hr : rulebook_Valid_1 N x0 x1 = some r) : CallW Try.prog 38 #[(Value.agg [(vI x0.number), (vI x0.kind), (vI x0.a), (vI x0.b), (vI x0.c)].toArray), (Value.pointer (some ⟨b1, f1, none⟩))] m fun v m' => v = (vB r) ∧ m' = m := by
 refine CallW.flat Try.func38 rfl (by kernel_rfl) (Nat.le_of_ble_eq_true rfl) rfl (z := z) (fun fr hf => ?_)
 have h0 : fr 0 = _ := hf 0 _ rfl
 have h1 : fr 1 = _ := hf 1 _ rfl
 refine (u_rulebook_Valid_1 (k := none) (Zx.refl _) (St.start fz hd) h0 h1 c1 hr).mono ?_
 rintro ex fr' m' ⟨z', hz, st, he, h3, -⟩
 exact ⟨he, z', st, [(vB r)], ⟨h3.symm, trivial⟩, .inl rfl, rfl⟩

/-! ### slices.IndexFunc[[]humpyard/api.Rule,humpyard/api.Rule] -/

theorem u_slices_IndexFunc_api_Rule_api_Rule__rulebook_Valid_1_0 : ∀ (n : Nat) {N : Nat}  {z0 z : Nat → Blk} {e m : Mem} {k : Option Nat} {fr : Nat → Value} {x0 : List Rule} {x1 : Rule} {x7 : Int} {x8 : Int} {v0 : Value} {b1_0 : Nat} {f1_0 : Nat} (hz : Zx e.next z0 z) (st : St z e m k) (h0 : fr 0 = v0) (s0 : SlR TRule z x0 v0) (h1 : fr 1 = (Value.func (.func 38) #[] #[(Value.pointer (some ⟨b1_0, f1_0, none⟩))])) (c1_0 : cellsAt z b1_0 f1_0 [(vI x1.number), (vI x1.kind), (vI x1.a), (vI x1.b), (vI x1.c)]) (h7 : fr 7 = (vI x7)) (h8 : fr 8 = (vI x8)) {r : Sum (Unit) (Int)} (hr : slices_IndexFunc_api_Rule_api_Rule__rulebook_Valid_1_0 N x0 x1 x7 n x8 = some r), W Try.prog (sub (bodyOf Try.f61) [1, 0, 1, 0]) (fun ex fr' m' => ∃ z', Zx e.next z0 z' ∧ St z' e m' k ∧ ((∃ q, r = Sum.inl q ∧ ex = AExit.exit 0 ∧ True) ∨ (∃ q, r = Sum.inr q ∧ ex = AExit.ret ∧ fr' 4 = (vI q) ∧ True))) fr m := by
 intro n
 induction n with
 | zero => intro N z0 z e m k fr x0 x1 x7 x8 v0 b1_0 f1_0 hz st h0 s0 h1 c1_0 h7 h8 r hr; cases (show (none : Option _) = some r from hr)
 | succ n ih =>
  intro N z0 z e m k fr x0 x1 x7 x8 v0 b1_0 f1_0 hz st h0 s0 h1 c1_0 h7 h8 r hr
  unfold slices_IndexFunc_api_Rule_api_Rule__rulebook_Valid_1_0 at hr
  refine W.loop1 ?_
  refine W.seq (W.region ?_)
  refine sx rfl (pLss (k := .i64) (a := x8) (b := x7) rfl h8 h7) ?_
  refine SeqW.done fun fr5 hf6 => ?_
  have h0 := (congrFun hf6 0).trans h0
  have h1 := (congrFun hf6 1).trans h1
  have h7 := (congrFun hf6 7).trans h7
  have h8 := (congrFun hf6 8).trans h8
  have h9 : fr5 9 = (vB (decide (x8 < x7))) := (congrFun hf6 9).trans rfl
  clear hf6
  refine thenQ.n (W.seq ?_)
  rcases if_some hr with ⟨hc7, hr⟩ | ⟨hc26, hr⟩
  ·refine W.condT h9 hc7 (W.skip ?_)
   refine thenQ.n (W.seq ?_)
   refine W.block ?_
   refine W.seq (W.region ?_)
   refine sx rfl (pMove (v := (vI x8)) rfl h8) ?_
   refine sx rfl (pAssign (v := (vI x8)) rfl rfl) ?_
   refine SeqW.done fun fr8 hf9 => ?_
   have h0 := (congrFun hf9 0).trans h0
   have h1 := (congrFun hf9 1).trans h1
   have h5 : fr8 5 = (vI x8) := (congrFun hf9 5).trans rfl
   have h7 := (congrFun hf9 7).trans h7
   have h8 := (congrFun hf9 8).trans h8
   clear hf9
   refine thenQ.n (W.seq (W.region ?_))
   refine sx rfl (pMove (v := (Value.func (.func 38) #[] #[(Value.pointer (some ⟨b1_0, f1_0, none⟩))])) rfl h1) ?_
   refine sx rfl (pMove (v := v0) rfl h0) ?_
   refine sx rfl (pMove (v := (vI x8)) rfl h5) ?_
   obtain ⟨y10, hy10, hr⟩ := bind_some hr
   refine SeqW.consX rfl (kIdxR (T := TRule) (xs := x0) (n := x8) rfl Try.underlying23 Try.type32 rfl rfl rfl s0 hy10 ?_)
   intro B11 f12 cs13 hd14 hc15
   obtain rfl := hd14
   refine SeqW.consX rfl (kLoadA rfl Try.underlying32 rfl Try.type32 rfl rfl (st.loads hc15) ?_)
   obtain ⟨y17, hy17, hr⟩ := bind_some hr
   refine SeqW.consX rfl (StepX.call (gCalleeV (args := #[(Value.agg [(vI y10.number), (vI y10.kind), (vI y10.a), (vI y10.b), (vI y10.c)].toArray)]) (caps := #[(Value.pointer (some ⟨b1_0, f1_0, none⟩))]) rfl rfl (args1 rfl) rfl) ((c_rulebook_Valid_1 (x0 := y10) (x1 := x1) (z := z) st.fz st.dead c1_0 hy17).mono ?_))
   rintro _ _ ⟨rfl, rfl⟩
   refine SeqW.done fun fr18 hf19 => ?_
   have h0 := (congrFun hf19 0).trans h0
   have h1 := (congrFun hf19 1).trans h1
   have h5 := (congrFun hf19 5).trans h5
   have h7 := (congrFun hf19 7).trans h7
   have h8 := (congrFun hf19 8).trans h8
   have h16 : fr18 16 = (vB y17) := (congrFun hf19 16).trans rfl
   clear hf19
   refine thenQ.n ?_
   rcases if_some hr with ⟨hc20, hr⟩ | ⟨hc23, hr⟩
   ·refine W.condT h16 hc20 (W.seq (W.region ?_))
    refine sx rfl (pMove (v := (vI x8)) rfl h5) ?_
    refine sx rfl (pAssign (v := (vI x8)) rfl rfl) ?_
    refine SeqW.done fun fr21 hf22 => ?_
    have h4 : fr21 4 = (vI x8) := (congrFun hf22 4).trans rfl
    clear hf22
    refine thenQ.n ?_
    refine W.ret ?_
    refine blockQ.r ?_
    refine thenQ.r ?_
    refine thenQ.r ?_
    obtain rfl := Option.some.inj hr
    exact ⟨z, hz, st, .inr ⟨_, rfl, rfl, h4, trivial⟩⟩
   ·refine W.condF h16 hc23 (W.skip ?_)
    refine blockQ.n ?_
    refine thenQ.n (W.region ?_)
    refine sx rfl (pAdd (k := .i64) (a := x8) (b := 1) rfl h8 rfl) ?_
    refine sx rfl (pMove (v := (vI (IntKind.wrap .i64 (x8 + 1)))) rfl rfl) ?_
    refine SeqW.done fun fr24 hf25 => ?_
    have h0 := (congrFun hf25 0).trans h0
    have h1 := (congrFun hf25 1).trans h1
    have h7 := (congrFun hf25 7).trans h7
    have h8 : fr24 8 = (vI (IntKind.wrap .i64 (x8 + 1))) := (congrFun hf25 8).trans rfl
    clear hf25
    refine thenQ.n ?_
    exact ih (x1 := x1) hz st h0 s0 h1 c1_0 h7 h8 hr
  ·refine W.condF h9 hc26 ?_
   refine W.exit ?_
   refine thenQ.x ?_
   refine thenQ.x ?_
   obtain rfl := Option.some.inj hr
   exact ⟨z, hz, st, .inl ⟨_, rfl, rfl, trivial⟩⟩

theorem u_slices_IndexFunc_api_Rule_api_Rule__rulebook_Valid_1 {N : Nat}  {z0 z : Nat → Blk} {e m : Mem} {k : Option Nat} {fr : Nat → Value} {x0 : List Rule} {x1 : Rule} {v0 : Value} {b1_0 : Nat} {f1_0 : Nat} (hz : Zx e.next z0 z) (st : St z e m k) (h0 : fr 0 = v0) (s0 : SlR TRule z x0 v0) (h1 : fr 1 = (Value.func (.func 38) #[] #[(Value.pointer (some ⟨b1_0, f1_0, none⟩))])) (c1_0 : cellsAt z b1_0 f1_0 [(vI x1.number), (vI x1.kind), (vI x1.a), (vI x1.b), (vI x1.c)]) {r : Int} (hr : slices_IndexFunc_api_Rule_api_Rule__rulebook_Valid_1 N x0 x1 = some r) : W Try.prog (sub (bodyOf Try.f61) []) (fun ex fr' m' => ∃ z', Zx e.next z0 z' ∧ St z' e m' k ∧ (ex = .normal ∨ ex = .ret) ∧ fr' 4 = (vI r) ∧ True) fr m := by
 unfold slices_IndexFunc_api_Rule_api_Rule__rulebook_Valid_1 at hr
 refine W.seq (W.region ?_)
 refine sx rfl (pAssign (v := (vI 0)) rfl rfl) ?_
 refine SeqW.done fun fr1 hf2 => ?_
 have h0 := (congrFun hf2 0).trans h0
 have h1 := (congrFun hf2 1).trans h1
 clear hf2
 refine thenQ.n (W.seq ?_)
 refine W.seq (W.region ?_)
 refine sx rfl (pMove (v := v0) rfl h0) ?_
 refine sx rfl (pLenR (xs := x0) rfl Try.underlying23 rfl s0) ?_
 refine sx rfl (pMove (v := (vI 0)) rfl rfl) ?_
 refine SeqW.done fun fr3 hf4 => ?_
 have h0 := (congrFun hf4 0).trans h0
 have h1 := (congrFun hf4 1).trans h1
 have h7 : fr3 7 = (vI (x0.length : Int)) := (congrFun hf4 7).trans rfl
 have h8 : fr3 8 = (vI 0) := (congrFun hf4 8).trans rfl
 clear hf4
 refine thenQ.n ?_
 refine W.block ?_
 obtain ⟨y27, hy27, hr⟩ := bind_some hr
 refine W.keep (u_slices_IndexFunc_api_Rule_api_Rule__rulebook_Valid_1_0 (x1 := x1) _ (Zx.refl _) st h0 s0 h1 c1_0 h7 h8 hy27) ?_
 rintro ex33 fr28 m29 hk31 ⟨z30, hz32, st, ⟨y34, rfl, rfl, -⟩ | ⟨y37, rfl, rfl, h4, -⟩⟩
 ·dsimp only at hr
  replace hz := hz.trans hz32
  clear hk31
  refine blockQ.hit ?_
  refine thenQ.n (W.seq (W.region ?_))
  refine sx rfl (pAssign (v := (vI (-1))) rfl rfl) ?_
  refine SeqW.done fun fr35 hf36 => ?_
  have h4 : fr35 4 = (vI (-1)) := (congrFun hf36 4).trans rfl
  clear hf36
  refine thenQ.n ?_
  refine W.ret ?_
  obtain rfl := Option.some.inj hr
  exact ⟨z30, hz, st, .inr rfl, h4, trivial⟩
 ·dsimp only at hr
  replace hz := hz.trans hz32
  clear hk31
  refine blockQ.r ?_
  refine thenQ.r ?_
  obtain rfl := Option.some.inj hr
  exact ⟨z30, hz, st, .inr rfl, h4, trivial⟩

theorem c_slices_IndexFunc_api_Rule_api_Rule__rulebook_Valid_1 {N : Nat} {z : Nat → Blk} {m : Mem} {x0 : List Rule} {x1 : Rule} {v0 : Value} {b1_0 : Nat} {f1_0 : Nat} (fz : Fz z m) (hd : ∀ b, m.next ≤ b → m.blk b = .dead) (s0 : SlR TRule z x0 v0) (c1_0 : cellsAt z b1_0 f1_0 [(vI x1.number), (vI x1.kind), (vI x1.a), (vI x1.b), (vI x1.c)]) {r : Int} (hr : slices_IndexFunc_api_Rule_api_Rule__rulebook_Valid_1 N x0 x1 = some r) : CallW Try.prog 61 #[v0, (Value.func (.func 38) #[] #[(Value.pointer (some ⟨b1_0, f1_0, none⟩))])] m fun v m' => v = (vI r) ∧ m' = m := by
 refine CallW.flat Try.func61 rfl (by kernel_rfl) (Nat.le_of_ble_eq_true rfl) rfl (z := z) (fun fr hf => ?_)
 have h0 : fr 0 = _ := hf 0 _ rfl
 have h1 : fr 1 = _ := hf 1 _ rfl
 refine (u_slices_IndexFunc_api_Rule_api_Rule__rulebook_Valid_1 (k := none) (Zx.refl _) (St.start fz hd) h0 s0 h1 c1_0 hr).mono ?_
 rintro ex fr' m' ⟨z', hz, st, he, h4, -⟩
 exact ⟨he, z', st, [(vI r)], ⟨h4.symm, trivial⟩, .inl rfl, rfl⟩

/-! ### slices.ContainsFunc[[]humpyard/api.Rule,humpyard/api.Rule] -/

theorem u_slices_ContainsFunc_api_Rule_api_Rule__rulebook_Valid_1 {N : Nat}  {z0 z : Nat → Blk} {e m : Mem} {k : Option Nat} {fr : Nat → Value} {x0 : List Rule} {x1 : Rule} {v0 : Value} {b1_0 : Nat} {f1_0 : Nat} (hz : Zx e.next z0 z) (st : St z e m k) (h0 : fr 0 = v0) (s0 : SlR TRule z x0 v0) (h1 : fr 1 = (Value.func (.func 38) #[] #[(Value.pointer (some ⟨b1_0, f1_0, none⟩))])) (c1_0 : cellsAt z b1_0 f1_0 [(vI x1.number), (vI x1.kind), (vI x1.a), (vI x1.b), (vI x1.c)]) {r : Bool} (hr : slices_ContainsFunc_api_Rule_api_Rule__rulebook_Valid_1 N x0 x1 = some r) : W Try.prog (sub (bodyOf Try.f37) []) (fun ex fr' m' => ∃ z', Zx e.next z0 z' ∧ St z' e m' k ∧ (ex = .normal ∨ ex = .ret) ∧ fr' 4 = (vB r) ∧ True) fr m := by
 unfold slices_ContainsFunc_api_Rule_api_Rule__rulebook_Valid_1 at hr
 refine W.seq (W.region ?_)
 refine sx rfl (pAssign (v := (vB false)) rfl rfl) ?_
 refine SeqW.done fun fr1 hf2 => ?_
 have h0 := (congrFun hf2 0).trans h0
 have h1 := (congrFun hf2 1).trans h1
 clear hf2
 refine thenQ.n (W.seq (W.region ?_))
 refine sx rfl (pMove (v := v0) rfl h0) ?_
 refine sx rfl (pMove (v := (Value.func (.func 38) #[] #[(Value.pointer (some ⟨b1_0, f1_0, none⟩))])) rfl h1) ?_
 obtain ⟨y3, hy3, hr⟩ := bind_some hr
 refine SeqW.consX rfl (StepX.call (gCallee rfl rfl (args2 rfl rfl)) ((c_slices_IndexFunc_api_Rule_api_Rule__rulebook_Valid_1 (x1 := x1) (z := z) st.fz st.dead s0 c1_0 hy3).mono ?_))
 rintro _ _ ⟨rfl, rfl⟩
 refine sx rfl (pGeq (k := .i64) (a := y3) (b := 0) rfl rfl rfl) ?_
 obtain ⟨y4, hy4, hr⟩ := lt_some hr
 refine sx rfl (pAssign rfl (congrArg vB hy4)) ?_
 refine SeqW.done fun fr5 hf6 => ?_
 have h4 : fr5 4 = (vB y4) := (congrFun hf6 4).trans rfl
 clear hf6
 refine thenQ.n ?_
 refine W.ret ?_
 obtain rfl := Option.some.inj hr
 exact ⟨z, hz, st, .inr rfl, h4, trivial⟩

theorem c_slices_ContainsFunc_api_Rule_api_Rule__rulebook_Valid_1 {N : Nat} {z : Nat → Blk} {m : Mem} {x0 : List Rule} {x1 : Rule} {v0 : Value} {b1_0 : Nat} {f1_0 : Nat} (fz : Fz z m) (hd : ∀ b, m.next ≤ b → m.blk b = .dead) (s0 : SlR TRule z x0 v0) (c1_0 : cellsAt z b1_0 f1_0 [(vI x1.number), (vI x1.kind), (vI x1.a), (vI x1.b), (vI x1.c)]) {r : Bool} (hr : slices_ContainsFunc_api_Rule_api_Rule__rulebook_Valid_1 N x0 x1 = some r) : CallW Try.prog 37 #[v0, (Value.func (.func 38) #[] #[(Value.pointer (some ⟨b1_0, f1_0, none⟩))])] m fun v m' => v = (vB r) ∧ m' = m := by
 refine CallW.flat Try.func37 rfl (by kernel_rfl) (Nat.le_of_ble_eq_true rfl) rfl (z := z) (fun fr hf => ?_)
 have h0 : fr 0 = _ := hf 0 _ rfl
 have h1 : fr 1 = _ := hf 1 _ rfl
 refine (u_slices_ContainsFunc_api_Rule_api_Rule__rulebook_Valid_1 (k := none) (Zx.refl _) (St.start fz hd) h0 s0 h1 c1_0 hr).mono ?_
 rintro ex fr' m' ⟨z', hz, st, he, h4, -⟩
 exact ⟨he, z', st, [(vB r)], ⟨h4.symm, trivial⟩, .inl rfl, rfl⟩

/-! ### humpyard/rulebook.Valid -/

theorem u_rulebook_Valid_0 : ∀ (n : Nat) {N : Nat}  {z0 z : Nat → Blk} {e m : Mem} {k : Option Nat} {fr : Nat → Value} {x0 : List Rule} {x8 : List Rule} {x9 : Int} {x10 : Int} {v0 : Value} {v8 : Value} (hz : Zx e.next z0 z) (st : St z e m k) (h0 : fr 0 = v0) (s0 : SlR TRule z x0 v0) (h8 : fr 8 = v8) (s8 : SlR TRule z x8 v8) (h9 : fr 9 = (vI x9)) (h10 : fr 10 = (vI x10)) {r : Sum (Unit) (Int)} (hr : rulebook_Valid_0 N x0 x8 x9 n x10 = some r), W Try.prog (sub (bodyOf Try.f26) [1, 1, 0, 1, 0]) (fun ex fr' m' => ∃ z', Zx e.next z0 z' ∧ St z' e m' k ∧ ((∃ q, r = Sum.inl q ∧ ex = AExit.exit 0 ∧ True) ∨ (∃ q, r = Sum.inr q ∧ ex = AExit.ret ∧ fr' 2 = (vI q) ∧ True))) fr m := by
 intro n
 induction n with
 | zero => intro N z0 z e m k fr x0 x8 x9 x10 v0 v8 hz st h0 s0 h8 s8 h9 h10 r hr; cases (show (none : Option _) = some r from hr)
 | succ n ih =>
  intro N z0 z e m k fr x0 x8 x9 x10 v0 v8 hz st h0 s0 h8 s8 h9 h10 r hr
  unfold rulebook_Valid_0 at hr
  refine W.loop1 ?_
  refine W.seq (W.region ?_)
  refine sx rfl (pLss (k := .i64) (a := x10) (b := x9) rfl h10 h9) ?_
  refine SeqW.done fun fr11 hf12 => ?_
  have h0 := (congrFun hf12 0).trans h0
  have h8 := (congrFun hf12 8).trans h8
  have h9 := (congrFun hf12 9).trans h9
  have h10 := (congrFun hf12 10).trans h10
  have h11 : fr11 11 = (vB (decide (x10 < x9))) := (congrFun hf12 11).trans rfl
  clear hf12
  refine thenQ.n (W.seq ?_)
  rcases if_some hr with ⟨hc13, hr⟩ | ⟨hc57, hr⟩
  ·refine W.condT h11 hc13 (W.skip ?_)
   refine thenQ.n (W.seq ?_)
   refine W.block ?_
   refine W.seq (W.region ?_)
   refine sx rfl (pMove (v := (vI x10)) rfl h10) ?_
   obtain ⟨y14, hy14, hr⟩ := bind_some hr
   refine SeqW.consX rfl (kIdxR (T := TRule) (xs := x8) (n := x10) rfl Try.underlying23 Try.type32 rfl h8 h10 s8 hy14 ?_)
   intro B15 f16 cs17 hd18 hc19
   obtain rfl := hd18
   refine SeqW.consX rfl (kLoadA rfl Try.underlying32 rfl Try.type32 rfl rfl (st.loads hc19) ?_)
   refine SeqW.consX rfl (kAllocN rfl Try.type32 rfl rfl rfl [(vI 0), (vI 0), (vI 0), (vI 0), (vI 0)] rfl st ?_)
   intro B21 m22 hn26 st X23 sm24 hap25
   refine sx rfl (pAssign (v := (vI x10)) rfl rfl) ?_
   refine SeqW.consX rfl (kPut (off := 0) (w := (Value.agg [(vI y14.number), (vI y14.kind), (vI y14.a), (vI y14.b), (vI y14.c)].toArray)) (new := [(vI y14.number), (vI y14.kind), (vI y14.a), (vI y14.b), (vI y14.c)]) rfl Try.type32 rfl rfl rfl rfl rfl X23 rfl [(vI y14.number), (vI y14.kind), (vI y14.a), (vI y14.b), (vI y14.c)] rfl st ?_)
   intro m28 st X23 sm29
   refine SeqW.done fun fr30 hf31 => ?_
   have h0 := (congrFun hf31 0).trans h0
   have h3 : fr30 3 = (vI x10) := (congrFun hf31 3).trans rfl
   have h4 : fr30 4 = (vP B21) := (congrFun hf31 4).trans rfl
   have h8 := (congrFun hf31 8).trans h8
   have h9 := (congrFun hf31 9).trans h9
   have h10 := (congrFun hf31 10).trans h10
   clear hf31
   refine thenQ.n (W.seq ?_)
   refine W.seq (W.region ?_)
   refine SeqW.consX rfl (kLoadA rfl Try.underlying32 rfl Try.type32 rfl h4 X23.loads ?_)
   obtain ⟨y32, hy32, hr⟩ := bind_some hr
   refine SeqW.consX rfl (StepX.call (gCallee rfl rfl (args1 rfl)) ((c_rulebook_valid (x0 := y14) (z := z) st.fz st.dead  hy32).mono ?_))
   rintro _ _ ⟨rfl, rfl⟩
   refine sx rfl (pNot (b := y32) rfl rfl) ?_
   refine SeqW.done fun fr33 hf34 => ?_
   have h0 := (congrFun hf34 0).trans h0
   have h3 := (congrFun hf34 3).trans h3
   have h4 := (congrFun hf34 4).trans h4
   have h8 := (congrFun hf34 8).trans h8
   have h9 := (congrFun hf34 9).trans h9
   have h10 := (congrFun hf34 10).trans h10
   have h17 : fr33 17 = (vB (!y32)) := (congrFun hf34 17).trans rfl
   clear hf34
   refine thenQ.n ?_
   rcases if_some hr with ⟨hc35, hr⟩ | ⟨hc38, hr⟩
   ·refine W.condT h17 hc35 (W.seq (W.region ?_))
    refine sx rfl (pAssign (v := (vI 1)) rfl rfl) ?_
    refine SeqW.done fun fr36 hf37 => ?_
    have h2 : fr36 2 = (vI 1) := (congrFun hf37 2).trans rfl
    clear hf37
    refine thenQ.n ?_
    refine W.ret ?_
    refine thenQ.r ?_
    refine blockQ.r ?_
    refine thenQ.r ?_
    refine thenQ.r ?_
    obtain rfl := Option.some.inj hr
    exact ⟨z, hz, st, .inr ⟨_, rfl, rfl, h2, trivial⟩⟩
   ·refine W.condF h17 hc38 (W.skip ?_)
    refine thenQ.n (W.seq (W.region ?_))
    refine sx rfl (pMove (v := v0) rfl h0) ?_
    refine sx rfl (pMove (v := (vI x10)) rfl h3) ?_
    obtain ⟨y39, hy39, hr⟩ := bind_some hr
    refine SeqW.consX rfl (kCut (T := TRule) (xs := x0) (a := 0) (b := x10) rfl Try.underlying23 Try.type32 rfl rfl rfl ⟨_, rfl⟩ s0 st hy39 ?_)
    intro V40 _ hI42 Q41
    obtain ⟨z44, hz45, st, Q46, hl47⟩ := X23.freeze hn26 st
    replace s0 := s0.mono hz45.le
    replace s8 := s8.mono hz45.le
    replace Q41 := Q41.mono hz45.le
    replace hz := hz.trans hz45
    refine sx rfl (pFunc (caps := #[(vP B21)]) rfl (args1 h4) rfl) ?_
    obtain ⟨y48, hy48, hr⟩ := bind_some hr
    refine SeqW.consX rfl (StepX.call (gCallee rfl rfl (args2 rfl rfl)) ((c_slices_ContainsFunc_api_Rule_api_Rule__rulebook_Valid_1 (x1 := y14) (z := z44) st.fz st.dead Q41 Q46 hy48).mono ?_))
    rintro _ _ ⟨rfl, rfl⟩
    refine SeqW.done fun fr49 hf50 => ?_
    have h0 := (congrFun hf50 0).trans h0
    have h8 := (congrFun hf50 8).trans h8
    have h9 := (congrFun hf50 9).trans h9
    have h10 := (congrFun hf50 10).trans h10
    have h22 : fr49 22 = (vB y48) := (congrFun hf50 22).trans rfl
    clear hf50
    refine thenQ.n ?_
    rcases if_some hr with ⟨hc51, hr⟩ | ⟨hc54, hr⟩
    ·refine W.condT h22 hc51 (W.seq (W.region ?_))
     refine sx rfl (pAssign (v := (vI 8)) rfl rfl) ?_
     refine SeqW.done fun fr52 hf53 => ?_
     have h2 : fr52 2 = (vI 8) := (congrFun hf53 2).trans rfl
     clear hf53
     refine thenQ.n ?_
     refine W.ret ?_
     refine blockQ.r ?_
     refine thenQ.r ?_
     refine thenQ.r ?_
     obtain rfl := Option.some.inj hr
     exact ⟨z44, hz, st, .inr ⟨_, rfl, rfl, h2, trivial⟩⟩
    ·refine W.condF h22 hc54 (W.skip ?_)
     refine blockQ.n ?_
     refine thenQ.n (W.region ?_)
     refine sx rfl (pAdd (k := .i64) (a := x10) (b := 1) rfl h10 rfl) ?_
     refine sx rfl (pMove (v := (vI (IntKind.wrap .i64 (x10 + 1)))) rfl rfl) ?_
     refine SeqW.done fun fr55 hf56 => ?_
     have h0 := (congrFun hf56 0).trans h0
     have h8 := (congrFun hf56 8).trans h8
     have h9 := (congrFun hf56 9).trans h9
     have h10 : fr55 10 = (vI (IntKind.wrap .i64 (x10 + 1))) := (congrFun hf56 10).trans rfl
     clear hf56
     refine thenQ.n ?_
     exact ih hz st h0 s0 h8 s8 h9 h10 hr
  ·refine W.condF h11 hc57 ?_
   refine W.exit ?_
   refine thenQ.x ?_
   refine thenQ.x ?_
   obtain rfl := Option.some.inj hr
   exact ⟨z, hz, st, .inl ⟨_, rfl, rfl, trivial⟩⟩

theorem u_rulebook_Valid {N : Nat}  {z0 z : Nat → Blk} {e m : Mem} {k : Option Nat} {fr : Nat → Value} {x0 : List Rule} {v0 : Value} (hz : Zx e.next z0 z) (st : St z e m k) (h0 : fr 0 = v0) (s0 : SlR TRule z x0 v0) {r : Int} (hr : rulebook_Valid N x0 = some r) : W Try.prog (sub (bodyOf Try.f26) []) (fun ex fr' m' => ∃ z', Zx e.next z0 z' ∧ St z' e m' k ∧ (ex = .normal ∨ ex = .ret) ∧ fr' 2 = (vI r) ∧ True) fr m := by
 unfold rulebook_Valid at hr
 refine W.seq (W.region ?_)
 refine sx rfl (pAssign (v := (vI 0)) rfl rfl) ?_
 refine SeqW.done fun fr1 hf2 => ?_
 have h0 := (congrFun hf2 0).trans h0
 clear hf2
 refine thenQ.n (W.seq ?_)
 refine W.seq (W.region ?_)
 refine sx rfl (pMove (v := v0) rfl h0) ?_
 refine sx rfl (pLenR (xs := x0) rfl Try.underlying23 rfl s0) ?_
 refine sx rfl (pGtr (k := .i64) (a := (x0.length : Int)) (b := 32) rfl rfl rfl) ?_
 refine SeqW.done fun fr3 hf4 => ?_
 have h0 := (congrFun hf4 0).trans h0
 have h7 : fr3 7 = (vB (decide (32 < (x0.length : Int)))) := (congrFun hf4 7).trans rfl
 clear hf4
 refine thenQ.n ?_
 rcases if_some hr with ⟨hc5, hr⟩ | ⟨hc8, hr⟩
 ·refine W.condT h7 hc5 (W.seq (W.region ?_))
  refine sx rfl (pAssign (v := (vI 3)) rfl rfl) ?_
  refine SeqW.done fun fr6 hf7 => ?_
  have h2 : fr6 2 = (vI 3) := (congrFun hf7 2).trans rfl
  clear hf7
  refine thenQ.n ?_
  refine W.ret ?_
  refine thenQ.r ?_
  obtain rfl := Option.some.inj hr
  exact ⟨z, hz, st, .inr rfl, h2, trivial⟩
 ·refine W.condF h7 hc8 (W.skip ?_)
  refine thenQ.n (W.seq ?_)
  refine W.seq (W.region ?_)
  refine sx rfl (pMove (v := v0) rfl h0) ?_
  refine sx rfl (pLenR (xs := x0) rfl Try.underlying23 rfl s0) ?_
  refine sx rfl (pMove (v := (vI 0)) rfl rfl) ?_
  refine SeqW.done fun fr9 hf10 => ?_
  have h0 := (congrFun hf10 0).trans h0
  have h8 : fr9 8 = v0 := (congrFun hf10 8).trans rfl
  have h9 : fr9 9 = (vI (x0.length : Int)) := (congrFun hf10 9).trans rfl
  have h10 : fr9 10 = (vI 0) := (congrFun hf10 10).trans rfl
  clear hf10
  refine thenQ.n ?_
  refine W.block ?_
  obtain ⟨y58, hy58, hr⟩ := bind_some hr
  refine W.keep (u_rulebook_Valid_0 _ (Zx.refl _) st h0 s0 h8 s0 h9 h10 hy58) ?_
  rintro ex64 fr59 m60 hk62 ⟨z61, hz63, st, ⟨y65, rfl, rfl, -⟩ | ⟨y68, rfl, rfl, h2, -⟩⟩
  ·dsimp only at hr
   replace hz := hz.trans hz63
   clear hk62
   refine blockQ.hit ?_
   refine thenQ.n (W.seq (W.region ?_))
   refine sx rfl (pAssign (v := (vI 0)) rfl rfl) ?_
   refine SeqW.done fun fr66 hf67 => ?_
   have h2 : fr66 2 = (vI 0) := (congrFun hf67 2).trans rfl
   clear hf67
   refine thenQ.n ?_
   refine W.ret ?_
   obtain rfl := Option.some.inj hr
   exact ⟨z61, hz, st, .inr rfl, h2, trivial⟩
  ·dsimp only at hr
   replace hz := hz.trans hz63
   clear hk62
   refine blockQ.r ?_
   refine thenQ.r ?_
   obtain rfl := Option.some.inj hr
   exact ⟨z61, hz, st, .inr rfl, h2, trivial⟩

theorem c_rulebook_Valid {N : Nat} {z : Nat → Blk} {m : Mem} {x0 : List Rule} {v0 : Value} (fz : Fz z m) (hd : ∀ b, m.next ≤ b → m.blk b = .dead) (s0 : SlR TRule z x0 v0) {r : Int} (hr : rulebook_Valid N x0 = some r) : CallW Try.prog 26 #[v0] m fun v m' => v = (vI r) ∧ m' = m := by
 refine CallW.flat Try.func26 rfl (by kernel_rfl) (Nat.le_of_ble_eq_true rfl) rfl (z := z) (fun fr hf => ?_)
 have h0 : fr 0 = _ := hf 0 _ rfl
 refine (u_rulebook_Valid (k := none) (Zx.refl _) (St.start fz hd) h0 s0 hr).mono ?_
 rintro ex fr' m' ⟨z', hz, st, he, h2, -⟩
 exact ⟨he, z', st, [(vI r)], ⟨h2.symm, trivial⟩, .inl rfl, rfl⟩

/-! ### humpyard/wagonnumber.digits -/

theorem u_wagonnumber_digits_1 {N : Nat}  {z0 z : Nat → Blk} {e m : Mem} {k : Option Nat} {fr : Nat → Value} {x0 : List UInt8} {x5 : Int} (hz : Zx e.next z0 z) (st : St z e m k) (h0 : fr 0 = (str x0)) (h5 : fr 5 = (vI x5)) {r : Bool} (hr : wagonnumber_digits_1 N x0 x5 = some r) : W Try.prog (sub (bodyOf Try.f79) [1, 0, 1, 0, 0, 1, 0, 0, 0]) (fun ex fr' m' => ∃ z', Zx e.next z0 z' ∧ St z' e m' k ∧ ex = AExit.normal ∧ fr' 21 = (vB r) ∧ True) fr m := by
 unfold wagonnumber_digits_1 at hr
 refine W.region ?_
 refine sx rfl (pMove (v := (str x0)) rfl h0) ?_
 refine sx rfl (pMove (v := (vI x5)) rfl h5) ?_
 obtain ⟨y8, hy8, hr⟩ := bind_some hr
 refine SeqW.consX rfl (kIndexS (s := x0) (n := x5) rfl Try.underlying9 rfl rfl hy8 ?_)
 refine sx rfl (pLss (k := .u8) (a := (UInt8.toNat y8 : Int)) (b := 48) rfl rfl rfl) ?_
 refine sx rfl (pMove (v := (vB (decide ((UInt8.toNat y8 : Int) < 48)))) rfl rfl) ?_
 rcases if_some hr with ⟨hc9, hr⟩ | ⟨hc12, hr⟩
 ·refine kx rfl rfl rfl hc9 ?_
  iterate 3 refine kx rfl rfl rfl hc9 ?_
  refine sx rfl (pPick (t := true) (v := (vB true)) rfl ((congrArg vB hc9)) rfl) ?_
  refine SeqW.done fun fr10 hf11 => ?_
  have h0 := (congrFun hf11 0).trans h0
  have h5 := (congrFun hf11 5).trans h5
  have h21 : fr10 21 = (vB true) := (congrFun hf11 21).trans rfl
  clear hf11
  obtain rfl := Option.some.inj hr
  exact ⟨z, hz, st, rfl, h21, trivial⟩
 ·refine SeqW.consG rfl rfl rfl hc12 (StepX.pure (pMove (v := (str x0)) rfl h0) ?_)
  refine SeqW.consG rfl rfl rfl hc12 (StepX.pure (pMove (v := (vI x5)) rfl h5) ?_)
  obtain ⟨y13, hy13, hr⟩ := bind_some hr
  refine SeqW.consG rfl rfl rfl hc12 (kIndexS (s := x0) (n := x5) rfl Try.underlying9 rfl rfl hy13 ?_)
  refine SeqW.consG rfl rfl rfl hc12 (StepX.pure (pGtr (k := .u8) (a := (UInt8.toNat y13 : Int)) (b := 57) rfl rfl rfl) ?_)
  refine sx rfl (pPick (t := false) (v := (vB (decide (57 < (UInt8.toNat y13 : Int))))) rfl ((congrArg vB hc12)) rfl) ?_
  refine SeqW.done fun fr14 hf15 => ?_
  have h0 := (congrFun hf15 0).trans h0
  have h5 := (congrFun hf15 5).trans h5
  have h21 : fr14 21 = (vB (decide (57 < (UInt8.toNat y13 : Int)))) := (congrFun hf15 21).trans rfl
  clear hf15
  obtain rfl := Option.some.inj hr
  exact ⟨z, hz, st, rfl, h21, trivial⟩

theorem u_wagonnumber_digits_0 : ∀ (n : Nat) {N : Nat}  {z0 z : Nat → Blk} {e m : Mem} {k : Option Nat} {fr : Nat → Value} {x0 : List UInt8} {x5 : Int} (hz : Zx e.next z0 z) (st : St z e m k) (h0 : fr 0 = (str x0)) (h5 : fr 5 = (vI x5)) {r : Sum (Unit) (Bool)} (hr : wagonnumber_digits_0 N x0 n x5 = some r), W Try.prog (sub (bodyOf Try.f79) [1, 0, 1, 0]) (fun ex fr' m' => ∃ z', Zx e.next z0 z' ∧ St z' e m' k ∧ ((∃ q, r = Sum.inl q ∧ ex = AExit.exit 0 ∧ True) ∨ (∃ q, r = Sum.inr q ∧ ex = AExit.ret ∧ fr' 4 = (vB q) ∧ True))) fr m := by
 intro n
 induction n with
 | zero => intro N z0 z e m k fr x0 x5 hz st h0 h5 r hr; cases (show (none : Option _) = some r from hr)
 | succ n ih =>
  intro N z0 z e m k fr x0 x5 hz st h0 h5 r hr
  unfold wagonnumber_digits_0 at hr
  refine W.loop1 ?_
  refine W.seq (W.seq (W.region ?_))
  refine sx rfl (pMove (v := (vI x5)) rfl h5) ?_
  refine sx rfl (pMove (v := (str x0)) rfl h0) ?_
  refine sx rfl (pLenS (s := x0) rfl rfl Try.underlying9 rfl) ?_
  refine sx rfl (pLss (k := .i64) (a := x5) (b := (x0.length : Int)) rfl rfl rfl) ?_
  refine SeqW.done fun fr5 hf6 => ?_
  have h0 := (congrFun hf6 0).trans h0
  have h5 := (congrFun hf6 5).trans h5
  have h9 : fr5 9 = (vB (decide (x5 < (x0.length : Int)))) := (congrFun hf6 9).trans rfl
  clear hf6
  refine thenQ.n ?_
  rcases if_some hr with ⟨hc7, hr⟩ | ⟨hc30, hr⟩
  ·refine W.condT h9 hc7 (W.skip ?_)
   refine thenQ.n (W.seq ?_)
   refine W.block ?_
   refine W.seq ?_
   obtain ⟨y16, hy16, hr⟩ := bind_some hr
   refine W.keep (u_wagonnumber_digits_1 (Zx.refl _) st h0 h5 hy16) ?_
   rintro ex22 fr17 m18 hk20 ⟨z19, hz21, st, rfl, h21, -⟩
   have h0 := (hk20 0 rfl).trans h0
   have h5 := (hk20 5 rfl).trans h5
   replace hz := hz.trans hz21
   clear hk20
   refine thenQ.n ?_
   rcases if_some hr with ⟨hc23, hr⟩ | ⟨hc26, hr⟩
   ·refine W.condT h21 hc23 (W.seq (W.region ?_))
    refine sx rfl (pAssign (v := (vB false)) rfl rfl) ?_
    refine SeqW.done fun fr24 hf25 => ?_
    have h4 : fr24 4 = (vB false) := (congrFun hf25 4).trans rfl
    clear hf25
    refine thenQ.n ?_
    refine W.ret ?_
    refine blockQ.r ?_
    refine thenQ.r ?_
    refine thenQ.r ?_
    obtain rfl := Option.some.inj hr
    exact ⟨z19, hz, st, .inr ⟨_, rfl, rfl, h4, trivial⟩⟩
   ·refine W.condF h21 hc26 (W.skip ?_)
    refine blockQ.n ?_
    refine thenQ.n (W.region ?_)
    refine sx rfl (pMove (v := (vI x5)) rfl h5) ?_
    refine sx rfl (pAdd (k := .i64) (a := x5) (b := 1) rfl rfl rfl) ?_
    obtain ⟨y27, hy27, hr⟩ := lt_some hr
    refine sx rfl (pAssign rfl (congrArg (Value.int .i64) hy27)) ?_
    refine SeqW.done fun fr28 hf29 => ?_
    have h0 := (congrFun hf29 0).trans h0
    have h5 : fr28 5 = (vI y27) := (congrFun hf29 5).trans rfl
    clear hf29
    refine thenQ.n ?_
    exact ih hz st h0 h5 hr
  ·refine W.condF h9 hc30 ?_
   refine W.exit ?_
   refine thenQ.x ?_
   refine thenQ.x ?_
   obtain rfl := Option.some.inj hr
   exact ⟨z, hz, st, .inl ⟨_, rfl, rfl, trivial⟩⟩

theorem u_wagonnumber_digits {N : Nat}  {z0 z : Nat → Blk} {e m : Mem} {k : Option Nat} {fr : Nat → Value} {x0 : List UInt8} {x1 : Int} (hz : Zx e.next z0 z) (st : St z e m k) (h0 : fr 0 = (str x0)) (h1 : fr 1 = (vI x1)) {r : Bool} (hr : wagonnumber_digits N x0 x1 = some r) : W Try.prog (sub (bodyOf Try.f79) []) (fun ex fr' m' => ∃ z', Zx e.next z0 z' ∧ St z' e m' k ∧ (ex = .normal ∨ ex = .ret) ∧ fr' 4 = (vB r) ∧ True) fr m := by
 unfold wagonnumber_digits at hr
 refine W.seq (W.region ?_)
 refine sx rfl (pAssign (v := (vB false)) rfl rfl) ?_
 refine SeqW.done fun fr1 hf2 => ?_
 have h0 := (congrFun hf2 0).trans h0
 have h1 := (congrFun hf2 1).trans h1
 clear hf2
 refine thenQ.n (W.seq ?_)
 refine W.seq (W.region ?_)
 refine sx rfl (pAssign (v := (vI 0)) rfl rfl) ?_
 refine SeqW.done fun fr3 hf4 => ?_
 have h0 := (congrFun hf4 0).trans h0
 have h1 := (congrFun hf4 1).trans h1
 have h5 : fr3 5 = (vI 0) := (congrFun hf4 5).trans rfl
 clear hf4
 refine thenQ.n ?_
 refine W.block ?_
 obtain ⟨y31, hy31, hr⟩ := bind_some hr
 refine W.keep (u_wagonnumber_digits_0 _ (Zx.refl _) st h0 h5 hy31) ?_
 rintro ex37 fr32 m33 hk35 ⟨z34, hz36, st, ⟨y38, rfl, rfl, -⟩ | ⟨y42, rfl, rfl, h4, -⟩⟩
 ·dsimp only at hr
  have h0 := (hk35 0 rfl).trans h0
  have h1 := (hk35 1 rfl).trans h1
  replace hz := hz.trans hz36
  clear hk35
  refine blockQ.hit ?_
  refine thenQ.n (W.seq (W.region ?_))
  refine sx rfl (pMove (v := (str x0)) rfl h0) ?_
  refine sx rfl (pLenS (s := x0) rfl rfl Try.underlying9 rfl) ?_
  refine sx rfl (pMove (v := (vI x1)) rfl h1) ?_
  refine sx rfl (pEql (k := .i64) (a := (x0.length : Int)) (b := x1) rfl rfl rfl) ?_
  obtain ⟨y39, hy39, hr⟩ := lt_some hr
  refine sx rfl (pAssign rfl (congrArg vB hy39)) ?_
  refine SeqW.done fun fr40 hf41 => ?_
  have h4 : fr40 4 = (vB y39) := (congrFun hf41 4).trans rfl
  clear hf41
  refine thenQ.n ?_
  refine W.ret ?_
  obtain rfl := Option.some.inj hr
  exact ⟨z34, hz, st, .inr rfl, h4, trivial⟩
 ·dsimp only at hr
  replace hz := hz.trans hz36
  clear hk35
  refine blockQ.r ?_
  refine thenQ.r ?_
  obtain rfl := Option.some.inj hr
  exact ⟨z34, hz, st, .inr rfl, h4, trivial⟩

theorem c_wagonnumber_digits {N : Nat} {z : Nat → Blk} {m : Mem} {x0 : List UInt8} {x1 : Int} (fz : Fz z m) (hd : ∀ b, m.next ≤ b → m.blk b = .dead)  {r : Bool} (hr : wagonnumber_digits N x0 x1 = some r) : CallW Try.prog 79 #[(str x0), (vI x1)] m fun v m' => v = (vB r) ∧ m' = m := by
 refine CallW.flat Try.func79 rfl (by kernel_rfl) (Nat.le_of_ble_eq_true rfl) rfl (z := z) (fun fr hf => ?_)
 have h0 : fr 0 = _ := hf 0 _ rfl
 have h1 : fr 1 = _ := hf 1 _ rfl
 refine (u_wagonnumber_digits (k := none) (Zx.refl _) (St.start fz hd) h0 h1 hr).mono ?_
 rintro ex fr' m' ⟨z', hz, st, he, h4, -⟩
 exact ⟨he, z', st, [(vB r)], ⟨h4.symm, trivial⟩, .inl rfl, rfl⟩

/-! ### humpyard/wagonnumber.sum -/

theorem u_wagonnumber_sum_1 {N : Nat}  {z0 z : Nat → Blk} {e m : Mem} {k : Option Nat} {fr : Nat → Value} {x5 : Int} {x19 : Bool} (hz : Zx e.next z0 z) (st : St z e m k) (h5 : fr 5 = (vI x5)) (h19 : fr 19 = (vB x19)) {r : Int} (hr : wagonnumber_sum_1 N x5 x19 = some r) : W Try.prog (sub (bodyOf Try.f81) [1, 1, 0, 1, 0, 0, 1, 0, 0, 1, 0, 1]) (fun ex fr' m' => ∃ z', Zx e.next z0 z' ∧ St z' e m' k ∧ ex = AExit.normal ∧ fr' 5 = (vI r) ∧ True) fr m := by
 unfold wagonnumber_sum_1 at hr
 rcases if_some hr with ⟨hc16, hr⟩ | ⟨hc27, hr⟩
 ·refine W.condT h19 hc16 (W.seq (W.region ?_))
  refine sx rfl (pMove (v := (vI x5)) rfl h5) ?_
  refine sx rfl (pMul (k := .i64) (a := x5) (b := 2) rfl rfl rfl) ?_
  obtain ⟨y17, hy17, hr⟩ := lt_some hr
  refine sx rfl (pAssign rfl (congrArg (Value.int .i64) hy17)) ?_
  refine SeqW.done fun fr18 hf19 => ?_
  have h5 : fr18 5 = (vI y17) := (congrFun hf19 5).trans rfl
  clear hf19
  refine thenQ.n (W.seq (W.region ?_))
  refine sx rfl (pMove (v := (vI y17)) rfl h5) ?_
  refine sx rfl (pGtr (k := .i64) (a := y17) (b := 9) rfl rfl rfl) ?_
  refine SeqW.done fun fr20 hf21 => ?_
  have h5 := (congrFun hf21 5).trans h5
  have h23 : fr20 23 = (vB (decide (9 < y17))) := (congrFun hf21 23).trans rfl
  clear hf21
  refine thenQ.n ?_
  rcases if_some hr with ⟨hc22, hr⟩ | ⟨hc26, hr⟩
  ·refine W.condT h23 hc22 (W.region ?_)
   refine sx rfl (pMove (v := (vI y17)) rfl h5) ?_
   refine sx rfl (pSub (k := .i64) (a := y17) (b := 9) rfl rfl rfl) ?_
   obtain ⟨y23, hy23, hr⟩ := lt_some hr
   refine sx rfl (pAssign rfl (congrArg (Value.int .i64) hy23)) ?_
   refine SeqW.done fun fr24 hf25 => ?_
   have h5 : fr24 5 = (vI y23) := (congrFun hf25 5).trans rfl
   clear hf25
   obtain rfl := Option.some.inj hr
   exact ⟨z, hz, st, rfl, h5, trivial⟩
  ·refine W.condF h23 hc26 (W.skip ?_)
   obtain rfl := Option.some.inj hr
   exact ⟨z, hz, st, rfl, h5, trivial⟩
 ·refine W.condF h19 hc27 (W.skip ?_)
  obtain rfl := Option.some.inj hr
  exact ⟨z, hz, st, rfl, h5, trivial⟩

theorem u_wagonnumber_sum_0 : ∀ (n : Nat) {N : Nat}  {z0 z : Nat → Blk} {e m : Mem} {k : Option Nat} {fr : Nat → Value} {x0 : List UInt8} {x3 : Int} {x4 : Int} (hz : Zx e.next z0 z) (st : St z e m k) (h0 : fr 0 = (str x0)) (h3 : fr 3 = (vI x3)) (h4 : fr 4 = (vI x4)) {r : Int} (hr : wagonnumber_sum_0 N x0 n x3 x4 = some r), W Try.prog (sub (bodyOf Try.f81) [1, 1, 0, 1, 0]) (fun ex fr' m' => ∃ z', Zx e.next z0 z' ∧ St z' e m' k ∧ ex = AExit.exit 0 ∧ fr' 3 = (vI r) ∧ True) fr m := by
 intro n
 induction n with
 | zero => intro N z0 z e m k fr x0 x3 x4 hz st h0 h3 h4 r hr; cases (show (none : Option _) = some r from hr)
 | succ n ih =>
  intro N z0 z e m k fr x0 x3 x4 hz st h0 h3 h4 r hr
  unfold wagonnumber_sum_0 at hr
  refine W.loop1 ?_
  refine W.seq (W.seq (W.region ?_))
  refine sx rfl (pMove (v := (vI x4)) rfl h4) ?_
  refine sx rfl (pMove (v := (str x0)) rfl h0) ?_
  refine sx rfl (pLenS (s := x0) rfl rfl Try.underlying9 rfl) ?_
  refine sx rfl (pLss (k := .i64) (a := x4) (b := (x0.length : Int)) rfl rfl rfl) ?_
  refine SeqW.done fun fr7 hf8 => ?_
  have h0 := (congrFun hf8 0).trans h0
  have h3 := (congrFun hf8 3).trans h3
  have h4 := (congrFun hf8 4).trans h4
  have h9 : fr7 9 = (vB (decide (x4 < (x0.length : Int)))) := (congrFun hf8 9).trans rfl
  clear hf8
  refine thenQ.n ?_
  rcases if_some hr with ⟨hc9, hr⟩ | ⟨hc41, hr⟩
  ·refine W.condT h9 hc9 (W.skip ?_)
   refine thenQ.n (W.seq ?_)
   refine W.block ?_
   refine W.seq (W.region ?_)
   refine sx rfl (pMove (v := (str x0)) rfl h0) ?_
   refine sx rfl (pMove (v := (vI x4)) rfl h4) ?_
   obtain ⟨y10, hy10, hr⟩ := bind_some hr
   refine SeqW.consX rfl (kIndexS (s := x0) (n := x4) rfl Try.underlying9 rfl rfl hy10 ?_)
   refine sx rfl (pSub (k := .u8) (a := (UInt8.toNat y10 : Int)) (b := 48) rfl rfl rfl) ?_
   refine sx rfl (pConv (k := .u8) (a := (IntKind.wrap .u8 ((UInt8.toNat y10 : Int) - 48))) rfl Try.underlying5 Try.underlying3 rfl) ?_
   obtain ⟨y11, hy11, hr⟩ := lt_some hr
   refine sx rfl (pAssign rfl (congrArg (Value.int .i64) hy11)) ?_
   refine SeqW.done fun fr12 hf13 => ?_
   have h0 := (congrFun hf13 0).trans h0
   have h3 := (congrFun hf13 3).trans h3
   have h4 := (congrFun hf13 4).trans h4
   have h5 : fr12 5 = (vI y11) := (congrFun hf13 5).trans rfl
   clear hf13
   refine thenQ.n (W.seq ?_)
   refine W.seq (W.region ?_)
   refine sx rfl (pMove (v := (vI x4)) rfl h4) ?_
   refine sx rfl (pRem (k := .i64) (a := x4) (b := 2) rfl rfl rfl (by decide)) ?_
   refine sx rfl (pEql (k := .i64) (a := (Int.tmod x4 2)) (b := 0) rfl rfl rfl) ?_
   refine SeqW.done fun fr14 hf15 => ?_
   have h0 := (congrFun hf15 0).trans h0
   have h3 := (congrFun hf15 3).trans h3
   have h4 := (congrFun hf15 4).trans h4
   have h5 := (congrFun hf15 5).trans h5
   have h19 : fr14 19 = (vB ((Int.tmod x4 2) == 0)) := (congrFun hf15 19).trans rfl
   clear hf15
   refine thenQ.n ?_
   obtain ⟨y28, hy28, hr⟩ := bind_some hr
   refine W.keep (u_wagonnumber_sum_1 (Zx.refl _) st h5 h19 hy28) ?_
   rintro ex34 fr29 m30 hk32 ⟨z31, hz33, st, rfl, h5, -⟩
   have h0 := (hk32 0 rfl).trans h0
   have h3 := (hk32 3 rfl).trans h3
   have h4 := (hk32 4 rfl).trans h4
   replace hz := hz.trans hz33
   clear hk32
   refine thenQ.n (W.region ?_)
   refine sx rfl (pMove (v := (vI x3)) rfl h3) ?_
   refine sx rfl (pMove (v := (vI y28)) rfl h5) ?_
   refine sx rfl (pAdd (k := .i64) (a := x3) (b := y28) rfl rfl rfl) ?_
   obtain ⟨y35, hy35, hr⟩ := lt_some hr
   refine sx rfl (pAssign rfl (congrArg (Value.int .i64) hy35)) ?_
   refine SeqW.done fun fr36 hf37 => ?_
   have h0 := (congrFun hf37 0).trans h0
   have h3 : fr36 3 = (vI y35) := (congrFun hf37 3).trans rfl
   have h4 := (congrFun hf37 4).trans h4
   clear hf37
   refine blockQ.n ?_
   refine thenQ.n (W.region ?_)
   refine sx rfl (pMove (v := (vI x4)) rfl h4) ?_
   refine sx rfl (pAdd (k := .i64) (a := x4) (b := 1) rfl rfl rfl) ?_
   obtain ⟨y38, hy38, hr⟩ := lt_some hr
   refine sx rfl (pAssign rfl (congrArg (Value.int .i64) hy38)) ?_
   refine SeqW.done fun fr39 hf40 => ?_
   have h0 := (congrFun hf40 0).trans h0
   have h3 := (congrFun hf40 3).trans h3
   have h4 : fr39 4 = (vI y38) := (congrFun hf40 4).trans rfl
   clear hf40
   refine thenQ.n ?_
   exact ih hz st h0 h3 h4 hr
  ·refine W.condF h9 hc41 ?_
   refine W.exit ?_
   refine thenQ.x ?_
   refine thenQ.x ?_
   obtain rfl := Option.some.inj hr
   exact ⟨z, hz, st, rfl, h3, trivial⟩

theorem u_wagonnumber_sum {N : Nat}  {z0 z : Nat → Blk} {e m : Mem} {k : Option Nat} {fr : Nat → Value} {x0 : List UInt8} (hz : Zx e.next z0 z) (st : St z e m k) (h0 : fr 0 = (str x0)) {r : Int} (hr : wagonnumber_sum N x0 = some r) : W Try.prog (sub (bodyOf Try.f81) []) (fun ex fr' m' => ∃ z', Zx e.next z0 z' ∧ St z' e m' k ∧ (ex = .normal ∨ ex = .ret) ∧ fr' 2 = (vI r) ∧ True) fr m := by
 unfold wagonnumber_sum at hr
 refine W.seq (W.region ?_)
 refine sx rfl (pAssign (v := (vI 0)) rfl rfl) ?_
 refine SeqW.done fun fr1 hf2 => ?_
 have h0 := (congrFun hf2 0).trans h0
 clear hf2
 refine thenQ.n (W.seq (W.region ?_))
 refine sx rfl (pAssign (v := (vI 0)) rfl rfl) ?_
 refine SeqW.done fun fr3 hf4 => ?_
 have h0 := (congrFun hf4 0).trans h0
 have h3 : fr3 3 = (vI 0) := (congrFun hf4 3).trans rfl
 clear hf4
 refine thenQ.n (W.seq ?_)
 refine W.seq (W.region ?_)
 refine sx rfl (pAssign (v := (vI 0)) rfl rfl) ?_
 refine SeqW.done fun fr5 hf6 => ?_
 have h0 := (congrFun hf6 0).trans h0
 have h3 := (congrFun hf6 3).trans h3
 have h4 : fr5 4 = (vI 0) := (congrFun hf6 4).trans rfl
 clear hf6
 refine thenQ.n ?_
 refine W.block ?_
 obtain ⟨y42, hy42, hr⟩ := bind_some hr
 refine W.keep (u_wagonnumber_sum_0 _ (Zx.refl _) st h0 h3 h4 hy42) ?_
 rintro ex48 fr43 m44 hk46 ⟨z45, hz47, st, rfl, h3, -⟩
 replace hz := hz.trans hz47
 clear hk46
 refine blockQ.hit ?_
 refine thenQ.n (W.seq (W.region ?_))
 refine sx rfl (pMove (v := (vI y42)) rfl h3) ?_
 refine sx rfl (pAssign (v := (vI y42)) rfl rfl) ?_
 refine SeqW.done fun fr49 hf50 => ?_
 have h2 : fr49 2 = (vI y42) := (congrFun hf50 2).trans rfl
 clear hf50
 refine thenQ.n ?_
 refine W.ret ?_
 obtain rfl := Option.some.inj hr
 exact ⟨z45, hz, st, .inr rfl, h2, trivial⟩

theorem c_wagonnumber_sum {N : Nat} {z : Nat → Blk} {m : Mem} {x0 : List UInt8} (fz : Fz z m) (hd : ∀ b, m.next ≤ b → m.blk b = .dead)  {r : Int} (hr : wagonnumber_sum N x0 = some r) : CallW Try.prog 81 #[(str x0)] m fun v m' => v = (vI r) ∧ m' = m := by
 refine CallW.flat Try.func81 rfl (by kernel_rfl) (Nat.le_of_ble_eq_true rfl) rfl (z := z) (fun fr hf => ?_)
 have h0 : fr 0 = _ := hf 0 _ rfl
 refine (u_wagonnumber_sum (k := none) (Zx.refl _) (St.start fz hd) h0 hr).mono ?_
 rintro ex fr' m' ⟨z', hz, st, he, h2, -⟩
 exact ⟨he, z', st, [(vI r)], ⟨h2.symm, trivial⟩, .inl rfl, rfl⟩

/-! ### humpyard/wagonnumber.check -/

theorem u_wagonnumber_check {N : Nat}  {z0 z : Nat → Blk} {e m : Mem} {k : Option Nat} {fr : Nat → Value} {x0 : List UInt8} (hz : Zx e.next z0 z) (st : St z e m k) (h0 : fr 0 = (str x0)) {r : Int} (hr : wagonnumber_check N x0 = some r) : W Try.prog (sub (bodyOf Try.f80) []) (fun ex fr' m' => ∃ z', Zx e.next z0 z' ∧ St z' e m' k ∧ (ex = .normal ∨ ex = .ret) ∧ fr' 2 = (vI r) ∧ True) fr m := by
 unfold wagonnumber_check at hr
 refine W.seq (W.region ?_)
 refine sx rfl (pAssign (v := (vI 0)) rfl rfl) ?_
 refine SeqW.done fun fr1 hf2 => ?_
 have h0 := (congrFun hf2 0).trans h0
 clear hf2
 refine thenQ.n (W.seq (W.region ?_))
 refine sx rfl (pMove (v := (str x0)) rfl h0) ?_
 obtain ⟨y3, hy3, hr⟩ := bind_some hr
 refine SeqW.consX rfl (StepX.call (gCallee rfl rfl (args1 rfl)) ((c_wagonnumber_sum (z := z) st.fz st.dead  hy3).mono ?_))
 rintro _ _ ⟨rfl, rfl⟩
 refine sx rfl (pRem (k := .i64) (a := y3) (b := 10) rfl rfl rfl (by decide)) ?_
 refine sx rfl (pSub (k := .i64) (a := 10) (b := (Int.tmod y3 10)) rfl rfl rfl) ?_
 refine sx rfl (pRem (k := .i64) (a := (IntKind.wrap .i64 (10 - (Int.tmod y3 10)))) (b := 10) rfl rfl rfl (by decide)) ?_
 obtain ⟨y4, hy4, hr⟩ := lt_some hr
 refine sx rfl (pAssign rfl (congrArg (Value.int .i64) hy4)) ?_
 refine SeqW.done fun fr5 hf6 => ?_
 have h2 : fr5 2 = (vI y4) := (congrFun hf6 2).trans rfl
 clear hf6
 refine thenQ.n ?_
 refine W.ret ?_
 obtain rfl := Option.some.inj hr
 exact ⟨z, hz, st, .inr rfl, h2, trivial⟩

theorem c_wagonnumber_check {N : Nat} {z : Nat → Blk} {m : Mem} {x0 : List UInt8} (fz : Fz z m) (hd : ∀ b, m.next ≤ b → m.blk b = .dead)  {r : Int} (hr : wagonnumber_check N x0 = some r) : CallW Try.prog 80 #[(str x0)] m fun v m' => v = (vI r) ∧ m' = m := by
 refine CallW.flat Try.func80 rfl (by kernel_rfl) (Nat.le_of_ble_eq_true rfl) rfl (z := z) (fun fr hf => ?_)
 have h0 : fr 0 = _ := hf 0 _ rfl
 refine (u_wagonnumber_check (k := none) (Zx.refl _) (St.start fz hd) h0 hr).mono ?_
 rintro ex fr' m' ⟨z', hz, st, he, h2, -⟩
 exact ⟨he, z', st, [(vI r)], ⟨h2.symm, trivial⟩, .inl rfl, rfl⟩

/-! ### humpyard/wagonnumber.Valid -/

theorem u_wagonnumber_Valid {N : Nat}  {z0 z : Nat → Blk} {e m : Mem} {k : Option Nat} {fr : Nat → Value} {x0 : List UInt8} (hz : Zx e.next z0 z) (st : St z e m k) (h0 : fr 0 = (str x0)) {r : Int} (hr : wagonnumber_Valid N x0 = some r) : W Try.prog (sub (bodyOf Try.f77) []) (fun ex fr' m' => ∃ z', Zx e.next z0 z' ∧ St z' e m' k ∧ (ex = .normal ∨ ex = .ret) ∧ fr' 2 = (vI r) ∧ True) fr m := by
 unfold wagonnumber_Valid at hr
 refine W.seq (W.region ?_)
 refine sx rfl (pAssign (v := (vI 0)) rfl rfl) ?_
 refine SeqW.done fun fr1 hf2 => ?_
 have h0 := (congrFun hf2 0).trans h0
 clear hf2
 refine thenQ.n (W.seq ?_)
 refine W.seq (W.region ?_)
 refine sx rfl (pMove (v := (str x0)) rfl h0) ?_
 obtain ⟨y3, hy3, hr⟩ := bind_some hr
 refine SeqW.consX rfl (StepX.call (gCallee rfl rfl (args2 rfl rfl)) ((c_wagonnumber_digits (z := z) st.fz st.dead  hy3).mono ?_))
 rintro _ _ ⟨rfl, rfl⟩
 refine sx rfl (pNot (b := y3) rfl rfl) ?_
 refine SeqW.done fun fr4 hf5 => ?_
 have h0 := (congrFun hf5 0).trans h0
 have h5 : fr4 5 = (vB (!y3)) := (congrFun hf5 5).trans rfl
 clear hf5
 refine thenQ.n ?_
 rcases if_some hr with ⟨hc6, hr⟩ | ⟨hc9, hr⟩
 ·refine W.condT h5 hc6 (W.seq (W.region ?_))
  refine sx rfl (pAssign (v := (vI 11)) rfl rfl) ?_
  refine SeqW.done fun fr7 hf8 => ?_
  have h2 : fr7 2 = (vI 11) := (congrFun hf8 2).trans rfl
  clear hf8
  refine thenQ.n ?_
  refine W.ret ?_
  refine thenQ.r ?_
  obtain rfl := Option.some.inj hr
  exact ⟨z, hz, st, .inr rfl, h2, trivial⟩
 ·refine W.condF h5 hc9 (W.skip ?_)
  refine thenQ.n (W.seq (W.seq ?_))
  refine W.draw ?_
  refine DrawW.cons rfl (StepX.pure (pMove (v := (str x0)) rfl h0) ?_)
  refine ⟨trivial, ?_⟩
  obtain ⟨y10, hy10, hr⟩ := bind_some hr
  refine DrawW.cons rfl (kIndexS (s := x0) (n := 11) rfl Try.underlying9 rfl rfl hy10 ?_)
  refine ⟨trivial, ?_⟩
  refine DrawW.cons rfl (StepX.pure (pSub (k := .u8) (a := (UInt8.toNat y10 : Int)) (b := 48) rfl rfl rfl) ?_)
  refine ⟨trivial, ?_⟩
  have sto11 := st
  refine DrawW.cons rfl (StepX.pure (pConv (k := .u8) (a := (IntKind.wrap .u8 ((UInt8.toNat y10 : Int) - 48))) rfl Try.underlying5 Try.underlying3 rfl) ?_)
  refine ⟨trivial, ?_⟩
  refine DrawW.cons rfl (StepX.pure (pMove (v := (str x0)) rfl h0) ?_)
  refine ⟨trivial, ?_⟩
  obtain ⟨y12, hy12, hr⟩ := bind_some hr
  refine DrawW.cons rfl (kCutS (s := x0) (a := 0) (b := 11) rfl Try.underlying9 rfl rfl ⟨_, rfl⟩ hy12 ?_)
  refine ⟨trivial, ?_⟩
  have sto13 := st
  obtain ⟨y14, hy14, hr⟩ := bind_some hr
  refine DrawW.cons rfl (StepX.call (gCallee rfl rfl (args1 rfl)) ((c_wagonnumber_check (z := z) st.fz st.dead  hy14).mono ?_))
  rintro _ _ ⟨rfl, rfl⟩
  refine ⟨⟨?_, ?_⟩, ?_⟩
  ·exact demN
  ·exact demN
  refine DrawW.cons rfl (StepX.pure (pNeq (k := .i64) (a := (IntKind.wrap .i64 (IntKind.wrap .u8 ((UInt8.toNat y10 : Int) - 48)))) (b := y14) rfl rfl rfl) ?_)
  refine ⟨trivial, ?_⟩
  refine DrawW.done fun fr15 hf16 => ?_
  have h13 : fr15 13 = (vB ((IntKind.wrap .i64 (IntKind.wrap .u8 ((UInt8.toNat y10 : Int) - 48))) != y14)) := (congrFun hf16 13).trans rfl
  clear hf16
  refine thenQ.n ?_
  rcases if_some hr with ⟨hc17, hr⟩ | ⟨hc20, hr⟩
  ·refine W.condT h13 hc17 (W.seq (W.region ?_))
   refine sx rfl (pAssign (v := (vI 9)) rfl rfl) ?_
   refine SeqW.done fun fr18 hf19 => ?_
   have h2 : fr18 2 = (vI 9) := (congrFun hf19 2).trans rfl
   clear hf19
   refine thenQ.n ?_
   refine W.ret ?_
   refine thenQ.r ?_
   obtain rfl := Option.some.inj hr
   exact ⟨z, hz, st, .inr rfl, h2, trivial⟩
  ·refine W.condF h13 hc20 (W.skip ?_)
   refine thenQ.n (W.seq (W.region ?_))
   refine sx rfl (pAssign (v := (vI 0)) rfl rfl) ?_
   refine SeqW.done fun fr21 hf22 => ?_
   have h2 : fr21 2 = (vI 0) := (congrFun hf22 2).trans rfl
   clear hf22
   refine thenQ.n ?_
   refine W.ret ?_
   obtain rfl := Option.some.inj hr
   exact ⟨z, hz, st, .inr rfl, h2, trivial⟩

theorem c_wagonnumber_Valid {N : Nat} {z : Nat → Blk} {m : Mem} {x0 : List UInt8} (fz : Fz z m) (hd : ∀ b, m.next ≤ b → m.blk b = .dead)  {r : Int} (hr : wagonnumber_Valid N x0 = some r) : CallW Try.prog 77 #[(str x0)] m fun v m' => v = (vI r) ∧ m' = m := by
 refine CallW.flat Try.func77 rfl (by kernel_rfl) (Nat.le_of_ble_eq_true rfl) rfl (z := z) (fun fr hf => ?_)
 have h0 : fr 0 = _ := hf 0 _ rfl
 refine (u_wagonnumber_Valid (k := none) (Zx.refl _) (St.start fz hd) h0 hr).mono ?_
 rintro ex fr' m' ⟨z', hz, st, he, h2, -⟩
 exact ⟨he, z', st, [(vI r)], ⟨h2.symm, trivial⟩, .inl rfl, rfl⟩

/-! ### humpyard/wagonnumber.Kind -/

theorem u_wagonnumber_Kind_0 {N : Nat}  {z0 z : Nat → Blk} {e m : Mem} {k : Option Nat} {fr : Nat → Value} {x11 : Int} {x12 : Bool} (hz : Zx e.next z0 z) (st : St z e m k) (h11 : fr 11 = (Value.int .u8 x11)) (h12 : fr 12 = (vB x12)) {r : Bool} (hr : wagonnumber_Kind_0 N x11 x12 = some r) : W Try.prog (sub (bodyOf Try.f72) [1, 1, 0, 1, 0, 0, 1]) (fun ex fr' m' => ∃ z', Zx e.next z0 z' ∧ St z' e m' k ∧ ex = AExit.normal ∧ fr' 12 = (vB r) ∧ True) fr m := by
 unfold wagonnumber_Kind_0 at hr
 rcases if_some hr with ⟨hc18, hr⟩ | ⟨hc19, hr⟩
 ·refine W.condT h12 hc18 (W.skip ?_)
  obtain rfl := Option.some.inj hr
  exact ⟨z, hz, st, rfl, h12, trivial⟩
 ·refine W.condF h12 hc19 (W.region ?_)
  refine sx rfl (pEql (k := .u8) (a := x11) (b := 56) rfl h11 rfl) ?_
  obtain ⟨y20, hy20, hr⟩ := lt_some hr
  refine sx rfl (pAssign rfl (congrArg vB hy20)) ?_
  refine SeqW.done fun fr21 hf22 => ?_
  have h11 := (congrFun hf22 11).trans h11
  have h12 : fr21 12 = (vB y20) := (congrFun hf22 12).trans rfl
  clear hf22
  obtain rfl := Option.some.inj hr
  exact ⟨z, hz, st, rfl, h12, trivial⟩

theorem u_wagonnumber_Kind_1 {N : Nat}  {z0 z : Nat → Blk} {e m : Mem} {k : Option Nat} {fr : Nat → Value} {x11 : Int} {x15 : Bool} (hz : Zx e.next z0 z) (st : St z e m k) (h11 : fr 11 = (Value.int .u8 x11)) (h15 : fr 15 = (vB x15)) {r : Bool} (hr : wagonnumber_Kind_1 N x11 x15 = some r) : W Try.prog (sub (bodyOf Try.f72) [1, 1, 0, 1, 0, 1, 1, 0, 1]) (fun ex fr' m' => ∃ z', Zx e.next z0 z' ∧ St z' e m' k ∧ ex = AExit.normal ∧ fr' 15 = (vB r) ∧ True) fr m := by
 unfold wagonnumber_Kind_1 at hr
 rcases if_some hr with ⟨hc37, hr⟩ | ⟨hc38, hr⟩
 ·refine W.condT h15 hc37 (W.skip ?_)
  obtain rfl := Option.some.inj hr
  exact ⟨z, hz, st, rfl, h15, trivial⟩
 ·refine W.condF h15 hc38 (W.region ?_)
  refine sx rfl (pEql (k := .u8) (a := x11) (b := 52) rfl h11 rfl) ?_
  obtain ⟨y39, hy39, hr⟩ := lt_some hr
  refine sx rfl (pAssign rfl (congrArg vB hy39)) ?_
  refine SeqW.done fun fr40 hf41 => ?_
  have h11 := (congrFun hf41 11).trans h11
  have h15 : fr40 15 = (vB y39) := (congrFun hf41 15).trans rfl
  clear hf41
  obtain rfl := Option.some.inj hr
  exact ⟨z, hz, st, rfl, h15, trivial⟩

theorem u_wagonnumber_Kind {N : Nat}  {z0 z : Nat → Blk} {e m : Mem} {k : Option Nat} {fr : Nat → Value} {x0 : List UInt8} (hz : Zx e.next z0 z) (st : St z e m k) (h0 : fr 0 = (str x0)) {r : Int × Int} (hr : wagonnumber_Kind N x0 = some r) : W Try.prog (sub (bodyOf Try.f72) []) (fun ex fr' m' => ∃ z', Zx e.next z0 z' ∧ St z' e m' k ∧ (ex = .normal ∨ ex = .ret) ∧ fr' 2 = (vI r.1) ∧ fr' 3 = (vI r.2) ∧ True) fr m := by
 unfold wagonnumber_Kind at hr
 refine W.seq (W.region ?_)
 refine sx rfl (pAssign (v := (vI 0)) rfl rfl) ?_
 refine sx rfl (pAssign (v := (vI 0)) rfl rfl) ?_
 refine SeqW.done fun fr1 hf2 => ?_
 have h0 := (congrFun hf2 0).trans h0
 clear hf2
 refine thenQ.n (W.seq ?_)
 refine W.seq (W.region ?_)
 refine sx rfl (pMove (v := (str x0)) rfl h0) ?_
 obtain ⟨y3, hy3, hr⟩ := bind_some hr
 refine SeqW.consX rfl (StepX.call (gCallee rfl rfl (args1 rfl)) ((c_wagonnumber_Valid (z := z) st.fz st.dead  hy3).mono ?_))
 rintro _ _ ⟨rfl, rfl⟩
 refine sx rfl (pAssign (v := (vI y3)) rfl rfl) ?_
 refine SeqW.done fun fr4 hf5 => ?_
 have h0 := (congrFun hf5 0).trans h0
 have h4 : fr4 4 = (vI y3) := (congrFun hf5 4).trans rfl
 clear hf5
 refine thenQ.n (W.seq (W.region ?_))
 refine sx rfl (pMove (v := (vI y3)) rfl h4) ?_
 refine sx rfl (pNeq (k := .i64) (a := y3) (b := 0) rfl rfl rfl) ?_
 refine SeqW.done fun fr6 hf7 => ?_
 have h0 := (congrFun hf7 0).trans h0
 have h4 := (congrFun hf7 4).trans h4
 have h8 : fr6 8 = (vB (y3 != 0)) := (congrFun hf7 8).trans rfl
 clear hf7
 refine thenQ.n ?_
 rcases if_some hr with ⟨hc8, hr⟩ | ⟨hc11, hr⟩
 ·refine W.condT h8 hc8 (W.seq (W.region ?_))
  refine sx rfl (pMove (v := (vI y3)) rfl h4) ?_
  refine sx rfl (pAssign (v := (vI 0)) rfl rfl) ?_
  refine sx rfl (pAssign (v := (vI y3)) rfl rfl) ?_
  refine SeqW.done fun fr9 hf10 => ?_
  have h2 : fr9 2 = (vI 0) := (congrFun hf10 2).trans rfl
  have h3 : fr9 3 = (vI y3) := (congrFun hf10 3).trans rfl
  clear hf10
  refine thenQ.n ?_
  refine W.ret ?_
  refine thenQ.r ?_
  obtain rfl := Option.some.inj hr
  exact ⟨z, hz, st, .inr rfl, h2, h3, trivial⟩
 ·refine W.condF h8 hc11 (W.skip ?_)
  refine thenQ.n (W.seq ?_)
  refine W.seq (W.region ?_)
  refine sx rfl (pMove (v := (str x0)) rfl h0) ?_
  obtain ⟨y12, hy12, hr⟩ := bind_some hr
  refine SeqW.consX rfl (kIndexS (s := x0) (n := 4) rfl Try.underlying9 rfl rfl hy12 ?_)
  refine SeqW.done fun fr13 hf14 => ?_
  have h11 : fr13 11 = (Value.int .u8 (UInt8.toNat y12 : Int)) := (congrFun hf14 11).trans rfl
  clear hf14
  refine thenQ.n ?_
  refine W.block ?_
  refine W.seq (W.seq (W.region ?_))
  refine sx rfl (pEql (k := .u8) (a := (UInt8.toNat y12 : Int)) (b := 55) rfl h11 rfl) ?_
  obtain ⟨y15, hy15, hr⟩ := lt_some hr
  refine sx rfl (pAssign rfl (congrArg vB hy15)) ?_
  refine SeqW.done fun fr16 hf17 => ?_
  have h11 := (congrFun hf17 11).trans h11
  have h12 : fr16 12 = (vB y15) := (congrFun hf17 12).trans rfl
  clear hf17
  refine thenQ.n ?_
  obtain ⟨y23, hy23, hr⟩ := bind_some hr
  refine W.keep (u_wagonnumber_Kind_0 (Zx.refl _) st h11 h12 hy23) ?_
  rintro ex29 fr24 m25 hk27 ⟨z26, hz28, st, rfl, h12, -⟩
  have h11 := (hk27 11 rfl).trans h11
  replace hz := hz.trans hz28
  clear hk27
  refine thenQ.n ?_
  rcases if_some hr with ⟨hc30, hr⟩ | ⟨hc33, hr⟩
  ·refine W.condT h12 hc30 (W.seq (W.region ?_))
   refine sx rfl (pAssign (v := (vI 1)) rfl rfl) ?_
   refine sx rfl (pAssign (v := (vI 0)) rfl rfl) ?_
   refine SeqW.done fun fr31 hf32 => ?_
   have h2 : fr31 2 = (vI 1) := (congrFun hf32 2).trans rfl
   have h3 : fr31 3 = (vI 0) := (congrFun hf32 3).trans rfl
   clear hf32
   refine thenQ.n ?_
   refine W.ret ?_
   refine blockQ.r ?_
   refine thenQ.r ?_
   obtain rfl := Option.some.inj hr
   exact ⟨z26, hz, st, .inr rfl, h2, h3, trivial⟩
  ·refine W.condF h12 hc33 (W.seq ?_)
   refine W.seq (W.region ?_)
   refine sx rfl (pEql (k := .u8) (a := (UInt8.toNat y12 : Int)) (b := 50) rfl h11 rfl) ?_
   obtain ⟨y34, hy34, hr⟩ := lt_some hr
   refine sx rfl (pAssign rfl (congrArg vB hy34)) ?_
   refine SeqW.done fun fr35 hf36 => ?_
   have h11 := (congrFun hf36 11).trans h11
   have h15 : fr35 15 = (vB y34) := (congrFun hf36 15).trans rfl
   clear hf36
   refine thenQ.n ?_
   obtain ⟨y42, hy42, hr⟩ := bind_some hr
   refine W.keep (u_wagonnumber_Kind_1 (Zx.refl _) st h11 h15 hy42) ?_
   rintro ex48 fr43 m44 hk46 ⟨z45, hz47, st, rfl, h15, -⟩
   have h11 := (hk46 11 rfl).trans h11
   replace hz := hz.trans hz47
   clear hk46
   refine thenQ.n ?_
   rcases if_some hr with ⟨hc49, hr⟩ | ⟨hc52, hr⟩
   ·refine W.condT h15 hc49 (W.seq (W.region ?_))
    refine sx rfl (pAssign (v := (vI 2)) rfl rfl) ?_
    refine sx rfl (pAssign (v := (vI 0)) rfl rfl) ?_
    refine SeqW.done fun fr50 hf51 => ?_
    have h2 : fr50 2 = (vI 2) := (congrFun hf51 2).trans rfl
    have h3 : fr50 3 = (vI 0) := (congrFun hf51 3).trans rfl
    clear hf51
    refine thenQ.n ?_
    refine W.ret ?_
    refine blockQ.r ?_
    refine thenQ.r ?_
    obtain rfl := Option.some.inj hr
    exact ⟨z45, hz, st, .inr rfl, h2, h3, trivial⟩
   ·refine W.condF h15 hc52 (W.seq (W.region ?_))
    refine sx rfl (pEql (k := .u8) (a := (UInt8.toNat y12 : Int)) (b := 57) rfl h11 rfl) ?_
    obtain ⟨y53, hy53, hr⟩ := lt_some hr
    refine sx rfl (pAssign rfl (congrArg vB hy53)) ?_
    refine SeqW.done fun fr54 hf55 => ?_
    have h18 : fr54 18 = (vB y53) := (congrFun hf55 18).trans rfl
    clear hf55
    refine thenQ.n ?_
    rcases if_some hr with ⟨hc56, hr⟩ | ⟨hc59, hr⟩
    ·refine W.condT h18 hc56 (W.seq (W.region ?_))
     refine sx rfl (pAssign (v := (vI 3)) rfl rfl) ?_
     refine sx rfl (pAssign (v := (vI 0)) rfl rfl) ?_
     refine SeqW.done fun fr57 hf58 => ?_
     have h2 : fr57 2 = (vI 3) := (congrFun hf58 2).trans rfl
     have h3 : fr57 3 = (vI 0) := (congrFun hf58 3).trans rfl
     clear hf58
     refine thenQ.n ?_
     refine W.ret ?_
     refine blockQ.r ?_
     refine thenQ.r ?_
     obtain rfl := Option.some.inj hr
     exact ⟨z45, hz, st, .inr rfl, h2, h3, trivial⟩
    ·refine W.condF h18 hc59 (W.skip ?_)
     refine blockQ.n ?_
     refine thenQ.n (W.seq (W.region ?_))
     refine sx rfl (pAssign (v := (vI 0)) rfl rfl) ?_
     refine sx rfl (pAssign (v := (vI 0)) rfl rfl) ?_
     refine SeqW.done fun fr60 hf61 => ?_
     have h2 : fr60 2 = (vI 0) := (congrFun hf61 2).trans rfl
     have h3 : fr60 3 = (vI 0) := (congrFun hf61 3).trans rfl
     clear hf61
     refine thenQ.n ?_
     refine W.ret ?_
     obtain rfl := Option.some.inj hr
     exact ⟨z45, hz, st, .inr rfl, h2, h3, trivial⟩

theorem c_wagonnumber_Kind {N : Nat} {z : Nat → Blk} {m : Mem} {x0 : List UInt8} (fz : Fz z m) (hd : ∀ b, m.next ≤ b → m.blk b = .dead)  {r : Int × Int} (hr : wagonnumber_Kind N x0 = some r) : CallW Try.prog 72 #[(str x0)] m fun v m' => v = (Value.tuple [(vI r.1), (vI r.2)].toArray) ∧ m' = m := by
 refine CallW.flat Try.func72 rfl (by kernel_rfl) (Nat.le_of_ble_eq_true rfl) rfl (z := z) (fun fr hf => ?_)
 have h0 : fr 0 = _ := hf 0 _ rfl
 refine (u_wagonnumber_Kind (k := none) (Zx.refl _) (St.start fz hd) h0 hr).mono ?_
 rintro ex fr' m' ⟨z', hz, st, he, h2, h3, -⟩
 exact ⟨he, z', st, [(vI r.1), (vI r.2)], ⟨h2.symm, h3.symm, trivial⟩, .inr (List.forall_mem_cons.2 ⟨rfl, List.forall_mem_cons.2 ⟨rfl, fun _ h => nomatch h⟩⟩), rfl⟩

/-! ### humpyard/consist.axles -/

theorem u_consist_axles {N : Nat}  {z0 z : Nat → Blk} {e m : Mem} {k : Option Nat} {fr : Nat → Value} {x0 : Int} (hz : Zx e.next z0 z) (st : St z e m k) (h0 : fr 0 = (vI x0)) {r : Int} (hr : consist_axles N x0 = some r) : W Try.prog (sub (bodyOf Try.f73) []) (fun ex fr' m' => ∃ z', Zx e.next z0 z' ∧ St z' e m' k ∧ (ex = .normal ∨ ex = .ret) ∧ fr' 2 = (vI r) ∧ True) fr m := by
 unfold consist_axles at hr
 refine W.seq (W.region ?_)
 refine sx rfl (pAssign (v := (vI 0)) rfl rfl) ?_
 refine SeqW.done fun fr1 hf2 => ?_
 have h0 := (congrFun hf2 0).trans h0
 clear hf2
 refine thenQ.n (W.seq ?_)
 refine W.seq (W.region ?_)
 refine sx rfl (pMove (v := (vI x0)) rfl h0) ?_
 refine SeqW.done fun fr3 hf4 => ?_
 have h3 : fr3 3 = (vI x0) := (congrFun hf4 3).trans rfl
 clear hf4
 refine thenQ.n ?_
 refine W.block ?_
 refine W.seq (W.region ?_)
 refine sx rfl (pEql (k := .i64) (a := x0) (b := 2) rfl h3 rfl) ?_
 obtain ⟨y5, hy5, hr⟩ := lt_some hr
 refine sx rfl (pAssign rfl (congrArg vB hy5)) ?_
 refine SeqW.done fun fr6 hf7 => ?_
 have h3 := (congrFun hf7 3).trans h3
 have h4 : fr6 4 = (vB y5) := (congrFun hf7 4).trans rfl
 clear hf7
 refine thenQ.n ?_
 rcases if_some hr with ⟨hc8, hr⟩ | ⟨hc11, hr⟩
 ·refine W.condT h4 hc8 (W.seq (W.region ?_))
  refine sx rfl (pAssign (v := (vI 2)) rfl rfl) ?_
  refine SeqW.done fun fr9 hf10 => ?_
  have h2 : fr9 2 = (vI 2) := (congrFun hf10 2).trans rfl
  clear hf10
  refine thenQ.n ?_
  refine W.ret ?_
  refine blockQ.r ?_
  refine thenQ.r ?_
  obtain rfl := Option.some.inj hr
  exact ⟨z, hz, st, .inr rfl, h2, trivial⟩
 ·refine W.condF h4 hc11 (W.seq (W.region ?_))
  refine sx rfl (pEql (k := .i64) (a := x0) (b := 3) rfl h3 rfl) ?_
  obtain ⟨y12, hy12, hr⟩ := lt_some hr
  refine sx rfl (pAssign rfl (congrArg vB hy12)) ?_
  refine SeqW.done fun fr13 hf14 => ?_
  have h6 : fr13 6 = (vB y12) := (congrFun hf14 6).trans rfl
  clear hf14
  refine thenQ.n ?_
  rcases if_some hr with ⟨hc15, hr⟩ | ⟨hc18, hr⟩
  ·refine W.condT h6 hc15 (W.seq (W.region ?_))
   refine sx rfl (pAssign (v := (vI 6)) rfl rfl) ?_
   refine SeqW.done fun fr16 hf17 => ?_
   have h2 : fr16 2 = (vI 6) := (congrFun hf17 2).trans rfl
   clear hf17
   refine thenQ.n ?_
   refine W.ret ?_
   refine blockQ.r ?_
   refine thenQ.r ?_
   obtain rfl := Option.some.inj hr
   exact ⟨z, hz, st, .inr rfl, h2, trivial⟩
  ·refine W.condF h6 hc18 (W.skip ?_)
   refine blockQ.n ?_
   refine thenQ.n (W.seq (W.region ?_))
   refine sx rfl (pAssign (v := (vI 4)) rfl rfl) ?_
   refine SeqW.done fun fr19 hf20 => ?_
   have h2 : fr19 2 = (vI 4) := (congrFun hf20 2).trans rfl
   clear hf20
   refine thenQ.n ?_
   refine W.ret ?_
   obtain rfl := Option.some.inj hr
   exact ⟨z, hz, st, .inr rfl, h2, trivial⟩

theorem c_consist_axles {N : Nat} {z : Nat → Blk} {m : Mem} {x0 : Int} (fz : Fz z m) (hd : ∀ b, m.next ≤ b → m.blk b = .dead)  {r : Int} (hr : consist_axles N x0 = some r) : CallW Try.prog 73 #[(vI x0)] m fun v m' => v = (vI r) ∧ m' = m := by
 refine CallW.flat Try.func73 rfl (by kernel_rfl) (Nat.le_of_ble_eq_true rfl) rfl (z := z) (fun fr hf => ?_)
 have h0 : fr 0 = _ := hf 0 _ rfl
 refine (u_consist_axles (k := none) (Zx.refl _) (St.start fz hd) h0 hr).mono ?_
 rintro ex fr' m' ⟨z', hz, st, he, h2, -⟩
 exact ⟨he, z', st, [(vI r)], ⟨h2.symm, trivial⟩, .inl rfl, rfl⟩

/-! ### humpyard/consist.name -/

theorem u_consist_name_1 {N : Nat}  {z0 z : Nat → Blk} {e m : Mem} {k : Option Nat} {fr : Nat → Value} {x4 : Int} (hz : Zx e.next z0 z) (st : St z e m k) (h4 : fr 4 = (Value.int .u8 x4)) {r : Bool} (hr : consist_name_1 N x4 = some r) : W Try.prog (sub (bodyOf Try.f74) [1, 0, 1, 0, 0, 1, 0, 0, 1, 0]) (fun ex fr' m' => ∃ z', Zx e.next z0 z' ∧ St z' e m' k ∧ ex = AExit.normal ∧ fr' 27 = (vB r) ∧ True) fr m := by
 unfold consist_name_1 at hr
 refine W.region ?_
 refine sx rfl (pMove (v := (Value.int .u8 x4)) rfl h4) ?_
 refine sx rfl (pLss (k := .u8) (a := x4) (b := 97) rfl rfl rfl) ?_
 refine sx rfl (pMove (v := (vB (decide (x4 < 97)))) rfl rfl) ?_
 rcases if_some hr with ⟨hc12, hr⟩ | ⟨hc19, hr⟩
 ·refine kx rfl rfl rfl hc12 ?_
  refine kx rfl rfl rfl hc12 ?_
  refine sx rfl (pPick (t := true) (v := (vB true)) rfl ((congrArg vB hc12)) rfl) ?_
  refine sx rfl (pMove (v := (vB true)) rfl rfl) ?_
  refine SeqW.consG rfl rfl rfl rfl (StepX.pure (pMove (v := (Value.int .u8 x4)) rfl h4) ?_)
  refine SeqW.consG rfl rfl rfl rfl (StepX.pure (pLss (k := .u8) (a := x4) (b := 48) rfl rfl rfl) ?_)
  refine SeqW.consG rfl rfl rfl rfl (StepX.pure (pMove (v := (vB (decide (x4 < 48)))) rfl rfl) ?_)
  rcases if_some hr with ⟨hc13, hr⟩ | ⟨hc16, hr⟩
  ·refine kx rfl rfl rfl hc13 ?_
   refine kx rfl rfl rfl hc13 ?_
   refine SeqW.consG rfl rfl rfl rfl (StepX.pure (pPick (t := true) (v := (vB true)) rfl ((congrArg vB hc13)) rfl) ?_)
   refine sx rfl (pPick (t := true) (v := (vB true)) rfl ((congrArg vB (rfl : true = true))) rfl) ?_
   refine SeqW.done fun fr14 hf15 => ?_
   have h27 : fr14 27 = (vB true) := (congrFun hf15 27).trans rfl
   clear hf15
   obtain rfl := Option.some.inj hr
   exact ⟨z, hz, st, rfl, h27, trivial⟩
  ·refine SeqW.consG rfl rfl rfl hc16 (StepX.pure (pMove (v := (Value.int .u8 x4)) rfl h4) ?_)
   refine SeqW.consG rfl rfl rfl hc16 (StepX.pure (pGtr (k := .u8) (a := x4) (b := 57) rfl rfl rfl) ?_)
   refine SeqW.consG rfl rfl rfl rfl (StepX.pure (pPick (t := false) (v := (vB (decide (57 < x4)))) rfl ((congrArg vB hc16)) rfl) ?_)
   refine sx rfl (pPick (t := true) (v := (vB (decide (57 < x4)))) rfl ((congrArg vB (rfl : true = true))) rfl) ?_
   refine SeqW.done fun fr17 hf18 => ?_
   have h27 : fr17 27 = (vB (decide (57 < x4))) := (congrFun hf18 27).trans rfl
   clear hf18
   obtain rfl := Option.some.inj hr
   exact ⟨z, hz, st, rfl, h27, trivial⟩
 ·refine SeqW.consG rfl rfl rfl hc19 (StepX.pure (pMove (v := (Value.int .u8 x4)) rfl h4) ?_)
  refine SeqW.consG rfl rfl rfl hc19 (StepX.pure (pGtr (k := .u8) (a := x4) (b := 122) rfl rfl rfl) ?_)
  refine sx rfl (pPick (t := false) (v := (vB (decide (122 < x4)))) rfl ((congrArg vB hc19)) rfl) ?_
  refine sx rfl (pMove (v := (vB (decide (122 < x4)))) rfl rfl) ?_
  rcases if_some hr with ⟨hc20, hr⟩ | ⟨hc27, hr⟩
  ·refine SeqW.consG rfl rfl rfl hc20 (StepX.pure (pMove (v := (Value.int .u8 x4)) rfl h4) ?_)
   refine SeqW.consG rfl rfl rfl hc20 (StepX.pure (pLss (k := .u8) (a := x4) (b := 48) rfl rfl rfl) ?_)
   refine SeqW.consG rfl rfl rfl hc20 (StepX.pure (pMove (v := (vB (decide (x4 < 48)))) rfl rfl) ?_)
   rcases if_some hr with ⟨hc21, hr⟩ | ⟨hc24, hr⟩
   ·refine kx rfl rfl rfl hc21 ?_
    refine kx rfl rfl rfl hc21 ?_
    refine SeqW.consG rfl rfl rfl hc20 (StepX.pure (pPick (t := true) (v := (vB true)) rfl ((congrArg vB hc21)) rfl) ?_)
    refine sx rfl (pPick (t := true) (v := (vB true)) rfl ((congrArg vB hc20)) rfl) ?_
    refine SeqW.done fun fr22 hf23 => ?_
    have h27 : fr22 27 = (vB true) := (congrFun hf23 27).trans rfl
    clear hf23
    obtain rfl := Option.some.inj hr
    exact ⟨z, hz, st, rfl, h27, trivial⟩
   ·refine SeqW.consG rfl rfl rfl hc24 (StepX.pure (pMove (v := (Value.int .u8 x4)) rfl h4) ?_)
    refine SeqW.consG rfl rfl rfl hc24 (StepX.pure (pGtr (k := .u8) (a := x4) (b := 57) rfl rfl rfl) ?_)
    refine SeqW.consG rfl rfl rfl hc20 (StepX.pure (pPick (t := false) (v := (vB (decide (57 < x4)))) rfl ((congrArg vB hc24)) rfl) ?_)
    refine sx rfl (pPick (t := true) (v := (vB (decide (57 < x4)))) rfl ((congrArg vB hc20)) rfl) ?_
    refine SeqW.done fun fr25 hf26 => ?_
    have h27 : fr25 27 = (vB (decide (57 < x4))) := (congrFun hf26 27).trans rfl
    clear hf26
    obtain rfl := Option.some.inj hr
    exact ⟨z, hz, st, rfl, h27, trivial⟩
  ·refine kx rfl rfl rfl hc27 ?_
   iterate 2 refine kx rfl rfl rfl hc27 ?_
   refine SeqW.skipU rfl rfl rfl ?_
   refine SeqW.skipU rfl rfl rfl ?_
   refine kx rfl rfl rfl hc27 ?_
   refine sx rfl (pPick (t := false) (v := (vB false)) rfl ((congrArg vB hc27)) rfl) ?_
   refine SeqW.done fun fr28 hf29 => ?_
   have h27 : fr28 27 = (vB false) := (congrFun hf29 27).trans rfl
   clear hf29
   obtain rfl := Option.some.inj hr
   exact ⟨z, hz, st, rfl, h27, trivial⟩

theorem u_consist_name_0 : ∀ (n : Nat) {N : Nat}  {z0 z : Nat → Blk} {e m : Mem} {k : Option Nat} {fr : Nat → Value} {x0 : List UInt8} {x3 : Int} (hz : Zx e.next z0 z) (st : St z e m k) (h0 : fr 0 = (str x0)) (h3 : fr 3 = (vI x3)) {r : Sum (Unit) (Bool)} (hr : consist_name_0 N x0 n x3 = some r), W Try.prog (sub (bodyOf Try.f74) [1, 0, 1, 0]) (fun ex fr' m' => ∃ z', Zx e.next z0 z' ∧ St z' e m' k ∧ ((∃ q, r = Sum.inl q ∧ ex = AExit.exit 0 ∧ True) ∨ (∃ q, r = Sum.inr q ∧ ex = AExit.ret ∧ fr' 2 = (vB q) ∧ True))) fr m := by
 intro n
 induction n with
 | zero => intro N z0 z e m k fr x0 x3 hz st h0 h3 r hr; cases (show (none : Option _) = some r from hr)
 | succ n ih =>
  intro N z0 z e m k fr x0 x3 hz st h0 h3 r hr
  unfold consist_name_0 at hr
  refine W.loop1 ?_
  refine W.seq (W.seq (W.region ?_))
  refine sx rfl (pMove (v := (vI x3)) rfl h3) ?_
  refine sx rfl (pMove (v := (str x0)) rfl h0) ?_
  refine sx rfl (pLenS (s := x0) rfl rfl Try.underlying9 rfl) ?_
  refine sx rfl (pLss (k := .i64) (a := x3) (b := (x0.length : Int)) rfl rfl rfl) ?_
  refine SeqW.done fun fr5 hf6 => ?_
  have h0 := (congrFun hf6 0).trans h0
  have h3 := (congrFun hf6 3).trans h3
  have h8 : fr5 8 = (vB (decide (x3 < (x0.length : Int)))) := (congrFun hf6 8).trans rfl
  clear hf6
  refine thenQ.n ?_
  rcases if_some hr with ⟨hc7, hr⟩ | ⟨hc44, hr⟩
  ·refine W.condT h8 hc7 (W.skip ?_)
   refine thenQ.n (W.seq ?_)
   refine W.block ?_
   refine W.seq (W.region ?_)
   refine sx rfl (pMove (v := (str x0)) rfl h0) ?_
   refine sx rfl (pMove (v := (vI x3)) rfl h3) ?_
   obtain ⟨y8, hy8, hr⟩ := bind_some hr
   refine SeqW.consX rfl (kIndexS (s := x0) (n := x3) rfl Try.underlying9 rfl rfl hy8 ?_)
   obtain ⟨y9, hy9, hr⟩ := lt_some hr
   refine sx rfl (pAssign rfl (congrArg (Value.int .u8) hy9)) ?_
   refine SeqW.done fun fr10 hf11 => ?_
   have h0 := (congrFun hf11 0).trans h0
   have h3 := (congrFun hf11 3).trans h3
   have h4 : fr10 4 = (Value.int .u8 y9) := (congrFun hf11 4).trans rfl
   clear hf11
   refine thenQ.n (W.seq ?_)
   obtain ⟨y30, hy30, hr⟩ := bind_some hr
   refine W.keep (u_consist_name_1 (Zx.refl _) st h4 hy30) ?_
   rintro ex36 fr31 m32 hk34 ⟨z33, hz35, st, rfl, h27, -⟩
   have h0 := (hk34 0 rfl).trans h0
   have h3 := (hk34 3 rfl).trans h3
   replace hz := hz.trans hz35
   clear hk34
   refine thenQ.n ?_
   rcases if_some hr with ⟨hc37, hr⟩ | ⟨hc40, hr⟩
   ·refine W.condT h27 hc37 (W.seq (W.region ?_))
    refine sx rfl (pAssign (v := (vB false)) rfl rfl) ?_
    refine SeqW.done fun fr38 hf39 => ?_
    have h2 : fr38 2 = (vB false) := (congrFun hf39 2).trans rfl
    clear hf39
    refine thenQ.n ?_
    refine W.ret ?_
    refine blockQ.r ?_
    refine thenQ.r ?_
    refine thenQ.r ?_
    obtain rfl := Option.some.inj hr
    exact ⟨z33, hz, st, .inr ⟨_, rfl, rfl, h2, trivial⟩⟩
   ·refine W.condF h27 hc40 (W.skip ?_)
    refine blockQ.n ?_
    refine thenQ.n (W.region ?_)
    refine sx rfl (pMove (v := (vI x3)) rfl h3) ?_
    refine sx rfl (pAdd (k := .i64) (a := x3) (b := 1) rfl rfl rfl) ?_
    obtain ⟨y41, hy41, hr⟩ := lt_some hr
    refine sx rfl (pAssign rfl (congrArg (Value.int .i64) hy41)) ?_
    refine SeqW.done fun fr42 hf43 => ?_
    have h0 := (congrFun hf43 0).trans h0
    have h3 : fr42 3 = (vI y41) := (congrFun hf43 3).trans rfl
    clear hf43
    refine thenQ.n ?_
    exact ih hz st h0 h3 hr
  ·refine W.condF h8 hc44 ?_
   refine W.exit ?_
   refine thenQ.x ?_
   refine thenQ.x ?_
   obtain rfl := Option.some.inj hr
   exact ⟨z, hz, st, .inl ⟨_, rfl, rfl, trivial⟩⟩

theorem u_consist_name_2 {N : Nat}  {z0 z : Nat → Blk} {e m : Mem} {k : Option Nat} {fr : Nat → Value} {x0 : List UInt8} (hz : Zx e.next z0 z) (st : St z e m k) (h0 : fr 0 = (str x0)) {r : Bool} (hr : consist_name_2 N x0 = some r) : W Try.prog (sub (bodyOf Try.f74) [1, 1, 0]) (fun ex fr' m' => ∃ z', Zx e.next z0 z' ∧ St z' e m' k ∧ ex = AExit.normal ∧ fr' 2 = (vB r) ∧ True) fr m := by
 unfold consist_name_2 at hr
 refine W.region ?_
 refine sx rfl (pMove (v := (str x0)) rfl h0) ?_
 refine sx rfl (pLenS (s := x0) rfl rfl Try.underlying9 rfl) ?_
 refine sx rfl (pGtr (k := .i64) (a := (x0.length : Int)) (b := 0) rfl rfl rfl) ?_
 refine sx rfl (pMove (v := (vB (decide (0 < (x0.length : Int))))) rfl rfl) ?_
 rcases if_some hr with ⟨hc53, hr⟩ | ⟨hc57, hr⟩
 ·refine SeqW.consG rfl rfl rfl hc53 (StepX.pure (pMove (v := (str x0)) rfl h0) ?_)
  refine SeqW.consG rfl rfl rfl hc53 (StepX.pure (pLenS (s := x0) rfl rfl Try.underlying9 rfl) ?_)
  refine SeqW.consG rfl rfl rfl hc53 (StepX.pure (pLeq (k := .i64) (a := (x0.length : Int)) (b := 12) rfl rfl rfl) ?_)
  refine sx rfl (pPick (t := true) (v := (vB (decide ((x0.length : Int) ≤ 12)))) rfl ((congrArg vB hc53)) rfl) ?_
  obtain ⟨y54, hy54, hr⟩ := lt_some hr
  refine sx rfl (pAssign rfl (congrArg vB hy54)) ?_
  refine SeqW.done fun fr55 hf56 => ?_
  have h2 : fr55 2 = (vB y54) := (congrFun hf56 2).trans rfl
  clear hf56
  obtain rfl := Option.some.inj hr
  exact ⟨z, hz, st, rfl, h2, trivial⟩
 ·refine kx rfl rfl rfl hc57 ?_
  iterate 2 refine kx rfl rfl rfl hc57 ?_
  refine sx rfl (pPick (t := false) (v := (vB false)) rfl ((congrArg vB hc57)) rfl) ?_
  refine sx rfl (pAssign (v := (vB false)) rfl rfl) ?_
  refine SeqW.done fun fr58 hf59 => ?_
  have h2 : fr58 2 = (vB false) := (congrFun hf59 2).trans rfl
  clear hf59
  obtain rfl := Option.some.inj hr
  exact ⟨z, hz, st, rfl, h2, trivial⟩

theorem u_consist_name {N : Nat}  {z0 z : Nat → Blk} {e m : Mem} {k : Option Nat} {fr : Nat → Value} {x0 : List UInt8} (hz : Zx e.next z0 z) (st : St z e m k) (h0 : fr 0 = (str x0)) {r : Bool} (hr : consist_name N x0 = some r) : W Try.prog (sub (bodyOf Try.f74) []) (fun ex fr' m' => ∃ z', Zx e.next z0 z' ∧ St z' e m' k ∧ (ex = .normal ∨ ex = .ret) ∧ fr' 2 = (vB r) ∧ True) fr m := by
 unfold consist_name at hr
 refine W.seq (W.region ?_)
 refine sx rfl (pAssign (v := (vB false)) rfl rfl) ?_
 refine SeqW.done fun fr1 hf2 => ?_
 have h0 := (congrFun hf2 0).trans h0
 clear hf2
 refine thenQ.n (W.seq ?_)
 refine W.seq (W.region ?_)
 refine sx rfl (pAssign (v := (vI 0)) rfl rfl) ?_
 refine SeqW.done fun fr3 hf4 => ?_
 have h0 := (congrFun hf4 0).trans h0
 have h3 : fr3 3 = (vI 0) := (congrFun hf4 3).trans rfl
 clear hf4
 refine thenQ.n ?_
 refine W.block ?_
 obtain ⟨y45, hy45, hr⟩ := bind_some hr
 refine W.keep (u_consist_name_0 _ (Zx.refl _) st h0 h3 hy45) ?_
 rintro ex51 fr46 m47 hk49 ⟨z48, hz50, st, ⟨y52, rfl, rfl, -⟩ | ⟨y67, rfl, rfl, h2, -⟩⟩
 ·dsimp only at hr
  have h0 := (hk49 0 rfl).trans h0
  replace hz := hz.trans hz50
  clear hk49
  refine blockQ.hit ?_
  refine thenQ.n (W.seq ?_)
  obtain ⟨y60, hy60, hr⟩ := bind_some hr
  refine W.keep (u_consist_name_2 (Zx.refl _) st h0 hy60) ?_
  rintro ex66 fr61 m62 hk64 ⟨z63, hz65, st, rfl, h2, -⟩
  replace hz := hz.trans hz65
  clear hk64
  refine thenQ.n ?_
  refine W.ret ?_
  obtain rfl := Option.some.inj hr
  exact ⟨z63, hz, st, .inr rfl, h2, trivial⟩
 ·dsimp only at hr
  replace hz := hz.trans hz50
  clear hk49
  refine blockQ.r ?_
  refine thenQ.r ?_
  obtain rfl := Option.some.inj hr
  exact ⟨z48, hz, st, .inr rfl, h2, trivial⟩

theorem c_consist_name {N : Nat} {z : Nat → Blk} {m : Mem} {x0 : List UInt8} (fz : Fz z m) (hd : ∀ b, m.next ≤ b → m.blk b = .dead)  {r : Bool} (hr : consist_name N x0 = some r) : CallW Try.prog 74 #[(str x0)] m fun v m' => v = (vB r) ∧ m' = m := by
 refine CallW.flat Try.func74 rfl (by kernel_rfl) (Nat.le_of_ble_eq_true rfl) rfl (z := z) (fun fr hf => ?_)
 have h0 : fr 0 = _ := hf 0 _ rfl
 refine (u_consist_name (k := none) (Zx.refl _) (St.start fz hd) h0 hr).mono ?_
 rintro ex fr' m' ⟨z', hz, st, he, h2, -⟩
 exact ⟨he, z', st, [(vB r)], ⟨h2.symm, trivial⟩, .inl rfl, rfl⟩

/-! ### humpyard/consist.Valid -/

theorem u_consist_Valid_0 {N : Nat}  {z0 z : Nat → Blk} {e m : Mem} {k : Option Nat} {fr : Nat → Value} {x5 : Int} {x16 : Bool} {x1 : Wagon} {b1 : Nat} (hz : Zx e.next z0 z) (st : St z e m k) (h1 : fr 1 = (vP b1)) (bx1 : Bx z e m k b1 [(str x1.number), (vI x1.length), (vI x1.axles), (vI x1.mass), (vI x1.brake), (vI x1.goods), (vB x1.gentle), (str x1.dest)] 36) (h5 : fr 5 = (vI x5)) (h16 : fr 16 = (vB x16)) {r : Int} (hr : consist_Valid_0 N x5 x16 = some r) : W Try.prog (sub (bodyOf Try.f69) [1, 1, 1, 1, 0, 1]) (fun ex fr' m' => ∃ z', Zx e.next z0 z' ∧ St z' e m' k ∧ ex = AExit.normal ∧ fr' 5 = (vI r) ∧ Bx z' e m' k b1 [(str x1.number), (vI x1.length), (vI x1.axles), (vI x1.mass), (vI x1.brake), (vI x1.goods), (vB x1.gentle), (str x1.dest)] 36 ∧ True) fr m := by
 unfold consist_Valid_0 at hr
 rcases if_some hr with ⟨hc22, hr⟩ | ⟨hc25, hr⟩
 ·refine W.condT h16 hc22 (W.region ?_)
  refine sx rfl (pAssign (v := (vI 120)) rfl rfl) ?_
  refine SeqW.done fun fr23 hf24 => ?_
  have h1 := (congrFun hf24 1).trans h1
  have h5 : fr23 5 = (vI 120) := (congrFun hf24 5).trans rfl
  clear hf24
  obtain rfl := Option.some.inj hr
  exact ⟨z, hz, st, rfl, h5, bx1, trivial⟩
 ·refine W.condF h16 hc25 (W.skip ?_)
  obtain rfl := Option.some.inj hr
  exact ⟨z, hz, st, rfl, h5, bx1, trivial⟩

theorem u_consist_Valid_1 {N : Nat}  {z0 z : Nat → Blk} {e m : Mem} {k : Option Nat} {fr : Nat → Value} {x1 : Wagon} {x5 : Int} {b1 : Nat} (hz : Zx e.next z0 z) (st : St z e m k) (h1 : fr 1 = (vP b1)) (bx1 : Bx z e m k b1 [(str x1.number), (vI x1.length), (vI x1.axles), (vI x1.mass), (vI x1.brake), (vI x1.goods), (vB x1.gentle), (str x1.dest)] 36) (h5 : fr 5 = (vI x5)) {r : Bool} (hr : consist_Valid_1 N x1 x5 = some r) : W Try.prog (sub (bodyOf Try.f69) [1, 1, 1, 1, 1, 0, 0, 1, 1, 0]) (fun ex fr' m' => ∃ z', Zx e.next z0 z' ∧ St z' e m' k ∧ ex = AExit.normal ∧ fr' 23 = (vB r) ∧ Bx z' e m' k b1 [(str x1.number), (vI x1.length), (vI x1.axles), (vI x1.mass), (vI x1.brake), (vI x1.goods), (vB x1.gentle), (str x1.dest)] 36 ∧ True) fr m := by
 unfold consist_Valid_1 at hr
 refine W.region ?_
 refine SeqW.consX rfl (kField rfl Try.underlying36 rfl Try.type3 rfl h1 rfl ?_)
 refine SeqW.consX rfl (kLoad rfl Try.underlying3 rfl rfl (bx1.load (v := (vI x1.length)) rfl) ?_)
 refine sx rfl (pMove (v := (vI x5)) rfl h5) ?_
 refine sx rfl (pLss (k := .i64) (a := x1.length) (b := x5) rfl rfl rfl) ?_
 refine sx rfl (pMove (v := (vB (decide (x1.length < x5)))) rfl rfl) ?_
 rcases if_some hr with ⟨hc44, hr⟩ | ⟨hc47, hr⟩
 ·refine kx rfl rfl rfl hc44 ?_
  iterate 2 refine kx rfl rfl rfl hc44 ?_
  refine sx rfl (pPick (t := true) (v := (vB true)) rfl ((congrArg vB hc44)) rfl) ?_
  refine sx rfl (pMove (v := (vB true)) rfl rfl) ?_
  iterate 3 refine kx rfl rfl rfl rfl ?_
  refine sx rfl (pPick (t := true) (v := (vB true)) rfl ((congrArg vB (rfl : true = true))) rfl) ?_
  refine sx rfl (pMove (v := (vB true)) rfl rfl) ?_
  iterate 3 refine kx rfl rfl rfl rfl ?_
  refine sx rfl (pPick (t := true) (v := (vB true)) rfl ((congrArg vB (rfl : true = true))) rfl) ?_
  refine sx rfl (pAssign (v := (vB true)) rfl rfl) ?_
  refine SeqW.done fun fr45 hf46 => ?_
  have h1 := (congrFun hf46 1).trans h1
  have h23 : fr45 23 = (vB true) := (congrFun hf46 23).trans rfl
  clear hf46
  obtain rfl := Option.some.inj hr
  exact ⟨z, hz, st, rfl, h23, bx1, trivial⟩
 ·refine SeqW.consG rfl rfl rfl hc47 (kField rfl Try.underlying36 rfl Try.type3 rfl h1 rfl ?_)
  refine SeqW.consG rfl rfl rfl hc47 (kLoad rfl Try.underlying3 rfl rfl (bx1.load (v := (vI x1.length)) rfl) ?_)
  refine SeqW.consG rfl rfl rfl hc47 (StepX.pure (pGtr (k := .i64) (a := x1.length) (b := 400) rfl rfl rfl) ?_)
  refine sx rfl (pPick (t := false) (v := (vB (decide (400 < x1.length)))) rfl ((congrArg vB hc47)) rfl) ?_
  refine sx rfl (pMove (v := (vB (decide (400 < x1.length)))) rfl rfl) ?_
  rcases if_some hr with ⟨hc48, hr⟩ | ⟨hc51, hr⟩
  ·refine kx rfl rfl rfl hc48 ?_
   iterate 2 refine kx rfl rfl rfl hc48 ?_
   refine sx rfl (pPick (t := true) (v := (vB true)) rfl ((congrArg vB hc48)) rfl) ?_
   refine sx rfl (pMove (v := (vB true)) rfl rfl) ?_
   iterate 3 refine kx rfl rfl rfl rfl ?_
   refine sx rfl (pPick (t := true) (v := (vB true)) rfl ((congrArg vB (rfl : true = true))) rfl) ?_
   refine sx rfl (pAssign (v := (vB true)) rfl rfl) ?_
   refine SeqW.done fun fr49 hf50 => ?_
   have h1 := (congrFun hf50 1).trans h1
   have h23 : fr49 23 = (vB true) := (congrFun hf50 23).trans rfl
   clear hf50
   obtain rfl := Option.some.inj hr
   exact ⟨z, hz, st, rfl, h23, bx1, trivial⟩
  ·refine SeqW.consG rfl rfl rfl hc51 (kField rfl Try.underlying36 rfl Try.type3 rfl h1 rfl ?_)
   refine SeqW.consG rfl rfl rfl hc51 (kLoad rfl Try.underlying3 rfl rfl (bx1.load (v := (vI x1.mass)) rfl) ?_)
   refine SeqW.consG rfl rfl rfl hc51 (StepX.pure (pLss (k := .i64) (a := x1.mass) (b := 50) rfl rfl rfl) ?_)
   refine sx rfl (pPick (t := false) (v := (vB (decide (x1.mass < 50)))) rfl ((congrArg vB hc51)) rfl) ?_
   refine sx rfl (pMove (v := (vB (decide (x1.mass < 50)))) rfl rfl) ?_
   rcases if_some hr with ⟨hc52, hr⟩ | ⟨hc55, hr⟩
   ·refine kx rfl rfl rfl hc52 ?_
    iterate 2 refine kx rfl rfl rfl hc52 ?_
    refine sx rfl (pPick (t := true) (v := (vB true)) rfl ((congrArg vB hc52)) rfl) ?_
    refine sx rfl (pAssign (v := (vB true)) rfl rfl) ?_
    refine SeqW.done fun fr53 hf54 => ?_
    have h1 := (congrFun hf54 1).trans h1
    have h23 : fr53 23 = (vB true) := (congrFun hf54 23).trans rfl
    clear hf54
    obtain rfl := Option.some.inj hr
    exact ⟨z, hz, st, rfl, h23, bx1, trivial⟩
   ·refine SeqW.consG rfl rfl rfl hc55 (kField rfl Try.underlying36 rfl Try.type3 rfl h1 rfl ?_)
    refine SeqW.consG rfl rfl rfl hc55 (kLoad rfl Try.underlying3 rfl rfl (bx1.load (v := (vI x1.mass)) rfl) ?_)
    refine SeqW.consG rfl rfl rfl hc55 (StepX.pure (pGtr (k := .i64) (a := x1.mass) (b := 2000) rfl rfl rfl) ?_)
    refine sx rfl (pPick (t := false) (v := (vB (decide (2000 < x1.mass)))) rfl ((congrArg vB hc55)) rfl) ?_
    obtain ⟨y56, hy56, hr⟩ := lt_some hr
    refine sx rfl (pAssign rfl (congrArg vB hy56)) ?_
    refine SeqW.done fun fr57 hf58 => ?_
    have h1 := (congrFun hf58 1).trans h1
    have h23 : fr57 23 = (vB y56) := (congrFun hf58 23).trans rfl
    clear hf58
    obtain rfl := Option.some.inj hr
    exact ⟨z, hz, st, rfl, h23, bx1, trivial⟩

theorem u_consist_Valid_2 {N : Nat}  {z0 z : Nat → Blk} {e m : Mem} {k : Option Nat} {fr : Nat → Value} {x1 : Wagon} {b1 : Nat} (hz : Zx e.next z0 z) (st : St z e m k) (h1 : fr 1 = (vP b1)) (bx1 : Bx z e m k b1 [(str x1.number), (vI x1.length), (vI x1.axles), (vI x1.mass), (vI x1.brake), (vI x1.goods), (vB x1.gentle), (str x1.dest)] 36) {r : Bool} (hr : consist_Valid_2 N x1 = some r) : W Try.prog (sub (bodyOf Try.f69) [1, 1, 1, 1, 1, 0, 0, 1, 1, 1, 1, 0]) (fun ex fr' m' => ∃ z', Zx e.next z0 z' ∧ St z' e m' k ∧ ex = AExit.normal ∧ fr' 43 = (vB r) ∧ Bx z' e m' k b1 [(str x1.number), (vI x1.length), (vI x1.axles), (vI x1.mass), (vI x1.brake), (vI x1.goods), (vB x1.gentle), (str x1.dest)] 36 ∧ True) fr m := by
 unfold consist_Valid_2 at hr
 refine W.region ?_
 refine SeqW.consX rfl (kField rfl Try.underlying36 rfl Try.type3 rfl h1 rfl ?_)
 refine SeqW.consX rfl (kLoad rfl Try.underlying3 rfl rfl (bx1.load (v := (vI x1.brake)) rfl) ?_)
 refine sx rfl (pLss (k := .i64) (a := x1.brake) (b := 0) rfl rfl rfl) ?_
 refine sx rfl (pMove (v := (vB (decide (x1.brake < 0)))) rfl rfl) ?_
 rcases if_some hr with ⟨hc71, hr⟩ | ⟨hc74, hr⟩
 ·refine kx rfl rfl rfl hc71 ?_
  iterate 4 refine kx rfl rfl rfl hc71 ?_
  refine sx rfl (pPick (t := true) (v := (vB true)) rfl ((congrArg vB hc71)) rfl) ?_
  refine sx rfl (pMove (v := (vB true)) rfl rfl) ?_
  iterate 3 refine kx rfl rfl rfl rfl ?_
  refine sx rfl (pPick (t := true) (v := (vB true)) rfl ((congrArg vB (rfl : true = true))) rfl) ?_
  refine sx rfl (pMove (v := (vB true)) rfl rfl) ?_
  iterate 3 refine kx rfl rfl rfl rfl ?_
  refine sx rfl (pPick (t := true) (v := (vB true)) rfl ((congrArg vB (rfl : true = true))) rfl) ?_
  refine sx rfl (pAssign (v := (vB true)) rfl rfl) ?_
  refine SeqW.done fun fr72 hf73 => ?_
  have h1 := (congrFun hf73 1).trans h1
  have h43 : fr72 43 = (vB true) := (congrFun hf73 43).trans rfl
  clear hf73
  obtain rfl := Option.some.inj hr
  exact ⟨z, hz, st, rfl, h43, bx1, trivial⟩
 ·refine SeqW.consG rfl rfl rfl hc74 (kField rfl Try.underlying36 rfl Try.type3 rfl h1 rfl ?_)
  refine SeqW.consG rfl rfl rfl hc74 (kLoad rfl Try.underlying3 rfl rfl (bx1.load (v := (vI x1.brake)) rfl) ?_)
  refine SeqW.consG rfl rfl rfl hc74 (kField rfl Try.underlying36 rfl Try.type3 rfl h1 rfl ?_)
  refine SeqW.consG rfl rfl rfl hc74 (kLoad rfl Try.underlying3 rfl rfl (bx1.load (v := (vI x1.mass)) rfl) ?_)
  refine SeqW.consG rfl rfl rfl hc74 (StepX.pure (pGtr (k := .i64) (a := x1.brake) (b := x1.mass) rfl rfl rfl) ?_)
  refine sx rfl (pPick (t := false) (v := (vB (decide (x1.mass < x1.brake)))) rfl ((congrArg vB hc74)) rfl) ?_
  refine sx rfl (pMove (v := (vB (decide (x1.mass < x1.brake)))) rfl rfl) ?_
  rcases if_some hr with ⟨hc75, hr⟩ | ⟨hc78, hr⟩
  ·refine kx rfl rfl rfl hc75 ?_
   iterate 2 refine kx rfl rfl rfl hc75 ?_
   refine sx rfl (pPick (t := true) (v := (vB true)) rfl ((congrArg vB hc75)) rfl) ?_
   refine sx rfl (pMove (v := (vB true)) rfl rfl) ?_
   iterate 3 refine kx rfl rfl rfl rfl ?_
   refine sx rfl (pPick (t := true) (v := (vB true)) rfl ((congrArg vB (rfl : true = true))) rfl) ?_
   refine sx rfl (pAssign (v := (vB true)) rfl rfl) ?_
   refine SeqW.done fun fr76 hf77 => ?_
   have h1 := (congrFun hf77 1).trans h1
   have h43 : fr76 43 = (vB true) := (congrFun hf77 43).trans rfl
   clear hf77
   obtain rfl := Option.some.inj hr
   exact ⟨z, hz, st, rfl, h43, bx1, trivial⟩
  ·refine SeqW.consG rfl rfl rfl hc78 (kField rfl Try.underlying36 rfl Try.type3 rfl h1 rfl ?_)
   refine SeqW.consG rfl rfl rfl hc78 (kLoad rfl Try.underlying3 rfl rfl (bx1.load (v := (vI x1.goods)) rfl) ?_)
   refine SeqW.consG rfl rfl rfl hc78 (StepX.pure (pLss (k := .i64) (a := x1.goods) (b := 0) rfl rfl rfl) ?_)
   refine sx rfl (pPick (t := false) (v := (vB (decide (x1.goods < 0)))) rfl ((congrArg vB hc78)) rfl) ?_
   refine sx rfl (pMove (v := (vB (decide (x1.goods < 0)))) rfl rfl) ?_
   rcases if_some hr with ⟨hc79, hr⟩ | ⟨hc82, hr⟩
   ·refine kx rfl rfl rfl hc79 ?_
    iterate 2 refine kx rfl rfl rfl hc79 ?_
    refine sx rfl (pPick (t := true) (v := (vB true)) rfl ((congrArg vB hc79)) rfl) ?_
    refine sx rfl (pAssign (v := (vB true)) rfl rfl) ?_
    refine SeqW.done fun fr80 hf81 => ?_
    have h1 := (congrFun hf81 1).trans h1
    have h43 : fr80 43 = (vB true) := (congrFun hf81 43).trans rfl
    clear hf81
    obtain rfl := Option.some.inj hr
    exact ⟨z, hz, st, rfl, h43, bx1, trivial⟩
   ·refine SeqW.consG rfl rfl rfl hc82 (kField rfl Try.underlying36 rfl Try.type3 rfl h1 rfl ?_)
    refine SeqW.consG rfl rfl rfl hc82 (kLoad rfl Try.underlying3 rfl rfl (bx1.load (v := (vI x1.goods)) rfl) ?_)
    refine SeqW.consG rfl rfl rfl hc82 (StepX.pure (pGtr (k := .i64) (a := x1.goods) (b := 9) rfl rfl rfl) ?_)
    refine sx rfl (pPick (t := false) (v := (vB (decide (9 < x1.goods)))) rfl ((congrArg vB hc82)) rfl) ?_
    obtain ⟨y83, hy83, hr⟩ := lt_some hr
    refine sx rfl (pAssign rfl (congrArg vB hy83)) ?_
    refine SeqW.done fun fr84 hf85 => ?_
    have h1 := (congrFun hf85 1).trans h1
    have h43 : fr84 43 = (vB y83) := (congrFun hf85 43).trans rfl
    clear hf85
    obtain rfl := Option.some.inj hr
    exact ⟨z, hz, st, rfl, h43, bx1, trivial⟩

theorem u_consist_Valid {N : Nat}  {z0 z : Nat → Blk} {e m : Mem} {k : Option Nat} {fr : Nat → Value} {x0 : Wagon} (hz : Zx e.next z0 z) (st : St z e m k) (h0 : fr 0 = (Value.agg [(str x0.number), (vI x0.length), (vI x0.axles), (vI x0.mass), (vI x0.brake), (vI x0.goods), (vB x0.gentle), (str x0.dest)].toArray)) {r : Int} (hr : consist_Valid N x0 = some r) : W Try.prog (sub (bodyOf Try.f69) []) (fun ex fr' m' => ∃ z', Zx e.next z0 z' ∧ St z' e m' k ∧ (ex = .normal ∨ ex = .ret) ∧ fr' 2 = (vI r) ∧ True) fr m := by
 unfold consist_Valid at hr
 refine W.seq (W.region ?_)
 refine SeqW.consX rfl (kBox (v := (Value.agg [(str x0.number), (vI x0.length), (vI x0.axles), (vI x0.mass), (vI x0.brake), (vI x0.goods), (vB x0.gentle), (str x0.dest)].toArray)) rfl Try.type36 h0 rfl [(str x0.number), (vI x0.length), (vI x0.axles), (vI x0.mass), (vI x0.brake), (vI x0.goods), (vB x0.gentle), (str x0.dest)] rfl rfl st ?_)
 intro B1 m2  st X3 sm4 hap5
 refine sx rfl (pAssign (v := (vI 0)) rfl rfl) ?_
 refine SeqW.done fun fr7 hf8 => ?_
 have h1 : fr7 1 = (vP B1) := (congrFun hf8 1).trans rfl
 clear hf8
 refine thenQ.n (W.seq (W.region ?_))
 refine SeqW.consX rfl (kField rfl Try.underlying36 rfl Try.type9 rfl h1 rfl ?_)
 refine SeqW.consX rfl (kLoad rfl Try.underlying9 rfl rfl (X3.load (v := (str x0.number)) rfl) ?_)
 obtain ⟨y9, hy9, hr⟩ := bind_some hr
 refine SeqW.consX rfl (StepX.call (gCallee rfl rfl (args1 rfl)) ((c_wagonnumber_Kind (z := z) st.fz st.dead  hy9).mono ?_))
 rintro _ _ ⟨rfl, rfl⟩
 refine sx rfl (pMove (v := (Value.tuple [(vI y9.1), (vI y9.2)].toArray)) rfl rfl) ?_
 refine sx rfl (pExtract (vs := [(vI y9.1), (vI y9.2)]) (v := (vI y9.1)) rfl rfl rfl) ?_
 refine sx rfl (pExtract (vs := [(vI y9.1), (vI y9.2)]) (v := (vI y9.2)) rfl rfl rfl) ?_
 refine sx rfl (pAssign (v := (vI y9.1)) rfl rfl) ?_
 refine sx rfl (pAssign (v := (vI y9.2)) rfl rfl) ?_
 refine SeqW.done fun fr10 hf11 => ?_
 have h1 := (congrFun hf11 1).trans h1
 have h3 : fr10 3 = (vI y9.1) := (congrFun hf11 3).trans rfl
 have h4 : fr10 4 = (vI y9.2) := (congrFun hf11 4).trans rfl
 clear hf11
 refine thenQ.n (W.seq ?_)
 refine W.seq (W.region ?_)
 refine sx rfl (pMove (v := (vI y9.2)) rfl h4) ?_
 refine sx rfl (pNeq (k := .i64) (a := y9.2) (b := 0) rfl rfl rfl) ?_
 refine SeqW.done fun fr12 hf13 => ?_
 have h1 := (congrFun hf13 1).trans h1
 have h3 := (congrFun hf13 3).trans h3
 have h4 := (congrFun hf13 4).trans h4
 have h13 : fr12 13 = (vB (y9.2 != 0)) := (congrFun hf13 13).trans rfl
 clear hf13
 refine thenQ.n ?_
 rcases if_some hr with ⟨hc14, hr⟩ | ⟨hc17, hr⟩
 ·refine W.condT h13 hc14 (W.seq (W.region ?_))
  refine sx rfl (pMove (v := (vI y9.2)) rfl h4) ?_
  refine sx rfl (pAssign (v := (vI y9.2)) rfl rfl) ?_
  refine SeqW.done fun fr15 hf16 => ?_
  have h2 : fr15 2 = (vI y9.2) := (congrFun hf16 2).trans rfl
  clear hf16
  refine thenQ.n ?_
  refine W.ret ?_
  refine thenQ.r ?_
  obtain rfl := Option.some.inj hr
  exact ⟨z, hz, st, .inr rfl, h2, trivial⟩
 ·refine W.condF h13 hc17 (W.skip ?_)
  refine thenQ.n (W.seq (W.region ?_))
  refine sx rfl (pAssign (v := (vI 80)) rfl rfl) ?_
  refine SeqW.done fun fr18 hf19 => ?_
  have h1 := (congrFun hf19 1).trans h1
  have h3 := (congrFun hf19 3).trans h3
  have h5 : fr18 5 = (vI 80) := (congrFun hf19 5).trans rfl
  clear hf19
  refine thenQ.n (W.seq ?_)
  refine W.seq (W.region ?_)
  refine sx rfl (pMove (v := (vI y9.1)) rfl h3) ?_
  refine sx rfl (pEql (k := .i64) (a := y9.1) (b := 3) rfl rfl rfl) ?_
  refine SeqW.done fun fr20 hf21 => ?_
  have h1 := (congrFun hf21 1).trans h1
  have h3 := (congrFun hf21 3).trans h3
  have h5 := (congrFun hf21 5).trans h5
  have h16 : fr20 16 = (vB (y9.1 == 3)) := (congrFun hf21 16).trans rfl
  clear hf21
  refine thenQ.n ?_
  obtain ⟨y26, hy26, hr⟩ := bind_some hr
  refine W.keep (u_consist_Valid_0 (x1 := x0) (Zx.refl _) st h1 X3 h5 h16 hy26) ?_
  rintro ex32 fr27 m28 hk30 ⟨z29, hz31, st, rfl, h5, O33, -⟩
  have h1 := (hk30 1 rfl).trans h1
  have h3 := (hk30 3 rfl).trans h3
  replace hz := hz.trans hz31
  clear hk30
  refine thenQ.n (W.seq ?_)
  refine W.block ?_
  refine W.seq ?_
  refine W.draw ?_
  refine DrawW.cons rfl (kField rfl Try.underlying36 rfl Try.type3 rfl h1 rfl ?_)
  refine ⟨trivial, ?_⟩
  refine DrawW.cons rfl (kLoad rfl Try.underlying3 rfl rfl (O33.load (v := (vI x0.axles)) rfl) ?_)
  refine ⟨?_, ?_⟩
  ·exact demN
  refine DrawW.cons rfl (StepX.pure (pMove (v := (vI y9.1)) rfl h3) ?_)
  refine ⟨trivial, ?_⟩
  have sto34 := st
  have old35 := O33
  obtain ⟨y36, hy36, hr⟩ := bind_some hr
  refine DrawW.cons rfl (StepX.call (gCallee rfl rfl (args1 rfl)) ((c_consist_axles (z := z29) st.fz st.dead  hy36).mono ?_))
  rintro _ _ ⟨rfl, rfl⟩
  refine ⟨⟨?_, ?_⟩, ?_⟩
  ·first | refine demP (gLoad rfl Try.underlying3 rfl rfl (O33.load (v := (vI x0.axles)) rfl)) ?_ | refine demA (by decide +kernel) ?_
   exact demN
  ·exact demN
  refine DrawW.cons rfl (StepX.pure (pNeq (k := .i64) (a := x0.axles) (b := y36) rfl rfl rfl) ?_)
  refine ⟨trivial, ?_⟩
  obtain ⟨y37, hy37, hr⟩ := lt_some hr
  refine DrawW.cons rfl (StepX.pure (pAssign rfl (congrArg vB hy37)) ?_)
  refine ⟨trivial, ?_⟩
  refine DrawW.done fun fr38 hf39 => ?_
  have h1 := (congrFun hf39 1).trans h1
  have h5 := (congrFun hf39 5).trans h5
  have h17 : fr38 17 = (vB y37) := (congrFun hf39 17).trans rfl
  clear hf39
  refine thenQ.n ?_
  rcases if_some hr with ⟨hc40, hr⟩ | ⟨hc43, hr⟩
  ·refine W.condT h17 hc40 (W.seq (W.region ?_))
   refine sx rfl (pAssign (v := (vI 1)) rfl rfl) ?_
   refine SeqW.done fun fr41 hf42 => ?_
   have h2 : fr41 2 = (vI 1) := (congrFun hf42 2).trans rfl
   clear hf42
   refine thenQ.n ?_
   refine W.ret ?_
   refine blockQ.r ?_
   refine thenQ.r ?_
   obtain rfl := Option.some.inj hr
   exact ⟨z29, hz, st, .inr rfl, h2, trivial⟩
  ·refine W.condF h17 hc43 (W.seq ?_)
   obtain ⟨y59, hy59, hr⟩ := bind_some hr
   refine W.keep (u_consist_Valid_1 (x1 := x0) (Zx.refl _) st h1 O33 h5 hy59) ?_
   rintro ex65 fr60 m61 hk63 ⟨z62, hz64, st, rfl, h23, O66, -⟩
   have h1 := (hk63 1 rfl).trans h1
   replace hz := hz.trans hz64
   clear hk63
   refine thenQ.n ?_
   rcases if_some hr with ⟨hc67, hr⟩ | ⟨hc70, hr⟩
   ·refine W.condT h23 hc67 (W.seq (W.region ?_))
    refine sx rfl (pAssign (v := (vI 2)) rfl rfl) ?_
    refine SeqW.done fun fr68 hf69 => ?_
    have h2 : fr68 2 = (vI 2) := (congrFun hf69 2).trans rfl
    clear hf69
    refine thenQ.n ?_
    refine W.ret ?_
    refine blockQ.r ?_
    refine thenQ.r ?_
    obtain rfl := Option.some.inj hr
    exact ⟨z62, hz, st, .inr rfl, h2, trivial⟩
   ·refine W.condF h23 hc70 (W.seq ?_)
    obtain ⟨y86, hy86, hr⟩ := bind_some hr
    refine W.keep (u_consist_Valid_2 (x1 := x0) (Zx.refl _) st h1 O66 hy86) ?_
    rintro ex92 fr87 m88 hk90 ⟨z89, hz91, st, rfl, h43, O93, -⟩
    have h1 := (hk90 1 rfl).trans h1
    replace hz := hz.trans hz91
    clear hk90
    refine thenQ.n ?_
    rcases if_some hr with ⟨hc94, hr⟩ | ⟨hc97, hr⟩
    ·refine W.condT h43 hc94 (W.seq (W.region ?_))
     refine sx rfl (pAssign (v := (vI 2)) rfl rfl) ?_
     refine SeqW.done fun fr95 hf96 => ?_
     have h2 : fr95 2 = (vI 2) := (congrFun hf96 2).trans rfl
     clear hf96
     refine thenQ.n ?_
     refine W.ret ?_
     refine blockQ.r ?_
     refine thenQ.r ?_
     obtain rfl := Option.some.inj hr
     exact ⟨z89, hz, st, .inr rfl, h2, trivial⟩
    ·refine W.condF h43 hc97 (W.seq (W.region ?_))
     refine SeqW.consX rfl (kField rfl Try.underlying36 rfl Try.type9 rfl h1 rfl ?_)
     refine SeqW.consX rfl (kLoad rfl Try.underlying9 rfl rfl (O93.load (v := (str x0.dest)) rfl) ?_)
     obtain ⟨y98, hy98, hr⟩ := bind_some hr
     refine SeqW.consX rfl (StepX.call (gCallee rfl rfl (args1 rfl)) ((c_consist_name (z := z89) st.fz st.dead  hy98).mono ?_))
     rintro _ _ ⟨rfl, rfl⟩
     refine sx rfl (pNot (b := y98) rfl rfl) ?_
     obtain ⟨y99, hy99, hr⟩ := lt_some hr
     refine sx rfl (pAssign rfl (congrArg vB hy99)) ?_
     refine SeqW.done fun fr100 hf101 => ?_
     have h64 : fr100 64 = (vB y99) := (congrFun hf101 64).trans rfl
     clear hf101
     refine thenQ.n ?_
     rcases if_some hr with ⟨hc102, hr⟩ | ⟨hc105, hr⟩
     ·refine W.condT h64 hc102 (W.seq (W.region ?_))
      refine sx rfl (pAssign (v := (vI 7)) rfl rfl) ?_
      refine SeqW.done fun fr103 hf104 => ?_
      have h2 : fr103 2 = (vI 7) := (congrFun hf104 2).trans rfl
      clear hf104
      refine thenQ.n ?_
      refine W.ret ?_
      refine blockQ.r ?_
      refine thenQ.r ?_
      obtain rfl := Option.some.inj hr
      exact ⟨z89, hz, st, .inr rfl, h2, trivial⟩
     ·refine W.condF h64 hc105 (W.skip ?_)
      refine blockQ.n ?_
      refine thenQ.n (W.seq (W.region ?_))
      refine sx rfl (pAssign (v := (vI 0)) rfl rfl) ?_
      refine SeqW.done fun fr106 hf107 => ?_
      have h2 : fr106 2 = (vI 0) := (congrFun hf107 2).trans rfl
      clear hf107
      refine thenQ.n ?_
      refine W.ret ?_
      obtain rfl := Option.some.inj hr
      exact ⟨z89, hz, st, .inr rfl, h2, trivial⟩

theorem c_consist_Valid {N : Nat} {z : Nat → Blk} {m : Mem} {x0 : Wagon} (fz : Fz z m) (hd : ∀ b, m.next ≤ b → m.blk b = .dead)  {r : Int} (hr : consist_Valid N x0 = some r) : CallW Try.prog 69 #[(Value.agg [(str x0.number), (vI x0.length), (vI x0.axles), (vI x0.mass), (vI x0.brake), (vI x0.goods), (vB x0.gentle), (str x0.dest)].toArray)] m fun v m' => v = (vI r) ∧ m' = m := by
 refine CallW.flat Try.func69 rfl (by kernel_rfl) (Nat.le_of_ble_eq_true rfl) rfl (z := z) (fun fr hf => ?_)
 have h0 : fr 0 = _ := hf 0 _ rfl
 refine (u_consist_Valid (k := none) (Zx.refl _) (St.start fz hd) h0 hr).mono ?_
 rintro ex fr' m' ⟨z', hz, st, he, h2, -⟩
 exact ⟨he, z', st, [(vI r)], ⟨h2.symm, trivial⟩, .inl rfl, rfl⟩

/-! ### humpyard/consist.check -/

theorem u_consist_check_0 : ∀ (n : Nat) {N : Nat}  {z0 z : Nat → Blk} {e m : Mem} {k : Option Nat} {fr : Nat → Value} {x3 : List ((List UInt8) × Bool)} {x11 : List Wagon} {x12 : Int} {x13 : Int} {v3 : Value} {v11 : Value} (hz : Zx e.next z0 z) (st : St z e m k) (h3 : fr 3 = v3) (o3 : OwM (MTy.mk kStr kBool 89) z e m k x3 v3) (h11 : fr 11 = v11) (s11 : SlR TWagon z x11 v11) (h12 : fr 12 = (vI x12)) (h13 : fr 13 = (vI x13)) {r : Sum (Unit) (Int)} (hr : consist_check_0 N x11 x12 n x3 x13 = some r), W Try.prog (sub (bodyOf Try.f62) [1, 1, 1, 0, 1, 0]) (fun ex fr' m' => ∃ z', Zx e.next z0 z' ∧ St z' e m' k ∧ ((∃ q, r = Sum.inl q ∧ ex = AExit.exit 0 ∧ True) ∨ (∃ q, r = Sum.inr q ∧ ex = AExit.ret ∧ fr' 2 = (vI q) ∧ True))) fr m := by
 intro n
 induction n with
 | zero => intro N z0 z e m k fr x3 x11 x12 x13 v3 v11 hz st h3 o3 h11 s11 h12 h13 r hr; cases (show (none : Option _) = some r from hr)
 | succ n ih =>
  intro N z0 z e m k fr x3 x11 x12 x13 v3 v11 hz st h3 o3 h11 s11 h12 h13 r hr
  unfold consist_check_0 at hr
  refine W.loop1 ?_
  refine W.seq (W.region ?_)
  refine sx rfl (pLss (k := .i64) (a := x13) (b := x12) rfl h13 h12) ?_
  refine SeqW.done fun fr19 hf20 => ?_
  have h3 := (congrFun hf20 3).trans h3
  have h11 := (congrFun hf20 11).trans h11
  have h12 := (congrFun hf20 12).trans h12
  have h13 := (congrFun hf20 13).trans h13
  have h14 : fr19 14 = (vB (decide (x13 < x12))) := (congrFun hf20 14).trans rfl
  clear hf20
  refine thenQ.n (W.seq ?_)
  rcases if_some hr with ⟨hc21, hr⟩ | ⟨hc63, hr⟩
  ·refine W.condT h14 hc21 (W.skip ?_)
   refine thenQ.n (W.seq ?_)
   refine W.block ?_
   refine W.seq (W.region ?_)
   obtain ⟨y22, hy22, hr⟩ := bind_some hr
   refine SeqW.consX rfl (kIdxR (T := TWagon) (xs := x11) (n := x13) rfl Try.underlying24 Try.type36 rfl h11 h13 s11 hy22 ?_)
   intro B23 f24 cs25 hd26 hc27
   obtain rfl := hd26
   refine SeqW.consX rfl (kLoadA rfl Try.underlying36 rfl Try.type36 rfl rfl (st.loads hc27) ?_)
   refine SeqW.consX rfl (kAlloc rfl Try.type36 rfl rfl rfl [(str []), (vI 0), (vI 0), (vI 0), (vI 0), (vI 0), (vB false), (str [])] rfl st ?_)
   intro B29 m30  st X31 sm32 hap33
   have A35 := hap33 _ o3.lt
   replace o3 := o3.same sm32 Ap.none'
   refine SeqW.consX rfl (kPut (off := 0) (w := (Value.agg [(str y22.number), (vI y22.length), (vI y22.axles), (vI y22.mass), (vI y22.brake), (vI y22.goods), (vB y22.gentle), (str y22.dest)].toArray)) (new := [(str y22.number), (vI y22.length), (vI y22.axles), (vI y22.mass), (vI y22.brake), (vI y22.goods), (vB y22.gentle), (str y22.dest)]) rfl Try.type36 rfl rfl rfl rfl rfl X31 rfl [(str y22.number), (vI y22.length), (vI y22.axles), (vI y22.mass), (vI y22.brake), (vI y22.goods), (vB y22.gentle), (str y22.dest)] rfl st ?_)
   intro m36 st X31 sm37
   replace o3 := o3.same sm37 A35
   refine SeqW.done fun fr38 hf39 => ?_
   have h3 := (congrFun hf39 3).trans h3
   have h5 : fr38 5 = (vP B29) := (congrFun hf39 5).trans rfl
   have h11 := (congrFun hf39 11).trans h11
   have h12 := (congrFun hf39 12).trans h12
   have h13 := (congrFun hf39 13).trans h13
   clear hf39
   refine thenQ.n (W.seq ?_)
   refine W.seq (W.region ?_)
   refine SeqW.consX rfl (kLoadA rfl Try.underlying36 rfl Try.type36 rfl h5 X31.loads ?_)
   obtain ⟨y40, hy40, hr⟩ := bind_some hr
   refine SeqW.consX rfl (StepX.call (gCallee rfl rfl (args1 rfl)) ((c_consist_Valid (x0 := y22) (z := z) st.fz st.dead  hy40).mono ?_))
   rintro _ _ ⟨rfl, rfl⟩
   refine sx rfl (pAssign (v := (vI y40)) rfl rfl) ?_
   refine SeqW.done fun fr41 hf42 => ?_
   have h3 := (congrFun hf42 3).trans h3
   have h5 := (congrFun hf42 5).trans h5
   have h6 : fr41 6 = (vI y40) := (congrFun hf42 6).trans rfl
   have h11 := (congrFun hf42 11).trans h11
   have h12 := (congrFun hf42 12).trans h12
   have h13 := (congrFun hf42 13).trans h13
   clear hf42
   refine thenQ.n (W.seq (W.region ?_))
   refine sx rfl (pMove (v := (vI y40)) rfl h6) ?_
   refine sx rfl (pNeq (k := .i64) (a := y40) (b := 0) rfl rfl rfl) ?_
   refine SeqW.done fun fr43 hf44 => ?_
   have h3 := (congrFun hf44 3).trans h3
   have h5 := (congrFun hf44 5).trans h5
   have h6 := (congrFun hf44 6).trans h6
   have h11 := (congrFun hf44 11).trans h11
   have h12 := (congrFun hf44 12).trans h12
   have h13 := (congrFun hf44 13).trans h13
   have h20 : fr43 20 = (vB (y40 != 0)) := (congrFun hf44 20).trans rfl
   clear hf44
   refine thenQ.n ?_
   rcases if_some hr with ⟨hc45, hr⟩ | ⟨hc48, hr⟩
   ·refine W.condT h20 hc45 (W.seq (W.region ?_))
    refine sx rfl (pMove (v := (vI y40)) rfl h6) ?_
    refine sx rfl (pAssign (v := (vI y40)) rfl rfl) ?_
    refine SeqW.done fun fr46 hf47 => ?_
    have h2 : fr46 2 = (vI y40) := (congrFun hf47 2).trans rfl
    clear hf47
    refine thenQ.n ?_
    refine W.ret ?_
    refine thenQ.r ?_
    refine blockQ.r ?_
    refine thenQ.r ?_
    refine thenQ.r ?_
    obtain rfl := Option.some.inj hr
    exact ⟨z, hz, st, .inr ⟨_, rfl, rfl, h2, trivial⟩⟩
   ·refine W.condF h20 hc48 (W.skip ?_)
    refine thenQ.n (W.seq ?_)
    refine W.seq (W.region ?_)
    refine sx rfl (pMove (v := v3) rfl h3) ?_
    refine SeqW.consX rfl (kField rfl Try.underlying36 rfl Try.type9 rfl h5 rfl ?_)
    refine SeqW.consX rfl (kLoad rfl Try.underlying9 rfl rfl (X31.load (v := (str y22.number)) rfl) ?_)
    obtain ⟨y49, hy49, hr⟩ := lt_some hr
    refine SeqW.consX rfl (kLookO (M := (MTy.mk kStr kBool 89)) (z0 := false) (a := y22.number) (ok := false) (w0 := (vB (y49.getD false))) rfl Try.underlying89 Try.underlying89 (keyStr Try.underlying9 Try.type9 rfl) (valBool Try.underlying4 Try.type4 rfl) Try.type4 (by rw [noAgg Try.underlying4 rfl]; rfl) rfl o3 rfl (by rw [noAgg Try.underlying9 rfl]; rfl) hy49 (by rw [noAgg Try.underlying4 rfl]; rfl) ?_)
    refine SeqW.done fun fr50 hf51 => ?_
    have h3 := (congrFun hf51 3).trans h3
    have h5 := (congrFun hf51 5).trans h5
    have h11 := (congrFun hf51 11).trans h11
    have h12 := (congrFun hf51 12).trans h12
    have h13 := (congrFun hf51 13).trans h13
    have h25 : fr50 25 = (vB (y49.getD false)) := (congrFun hf51 25).trans rfl
    clear hf51
    refine thenQ.n ?_
    rcases if_some hr with ⟨hc52, hr⟩ | ⟨hc55, hr⟩
    ·refine W.condT h25 hc52 (W.seq (W.region ?_))
     refine sx rfl (pAssign (v := (vI 8)) rfl rfl) ?_
     refine SeqW.done fun fr53 hf54 => ?_
     have h2 : fr53 2 = (vI 8) := (congrFun hf54 2).trans rfl
     clear hf54
     refine thenQ.n ?_
     refine W.ret ?_
     refine thenQ.r ?_
     refine blockQ.r ?_
     refine thenQ.r ?_
     refine thenQ.r ?_
     obtain rfl := Option.some.inj hr
     exact ⟨z, hz, st, .inr ⟨_, rfl, rfl, h2, trivial⟩⟩
    ·refine W.condF h25 hc55 (W.skip ?_)
     refine thenQ.n (W.region ?_)
     refine sx rfl (pMove (v := v3) rfl h3) ?_
     refine SeqW.consX rfl (kField rfl Try.underlying36 rfl Try.type9 rfl h5 rfl ?_)
     refine SeqW.consX rfl (kLoad rfl Try.underlying9 rfl rfl (X31.load (v := (str y22.number)) rfl) ?_)
     obtain ⟨y56, hy56, hr⟩ := lt_some hr
     refine SeqW.consX rfl (kMapSet (M := (MTy.mk kStr kBool 89)) (a := y22.number) (b := true) (.inl rfl) Try.underlying89 Try.underlying89 (keyStr Try.underlying9 Try.type9 rfl) (valBool Try.underlying4 Try.type4 rfl) rfl o3 rfl (by rw [noAgg Try.underlying9 rfl]; rfl) rfl (by rw [noAgg Try.underlying4 rfl]; rfl) st hy56 ?_)
     intro m57 st o3 sm58
     refine SeqW.done fun fr59 hf60 => ?_
     have h3 := (congrFun hf60 3).trans h3
     have h11 := (congrFun hf60 11).trans h11
     have h12 := (congrFun hf60 12).trans h12
     have h13 := (congrFun hf60 13).trans h13
     clear hf60
     refine blockQ.n ?_
     refine thenQ.n (W.region ?_)
     refine sx rfl (pAdd (k := .i64) (a := x13) (b := 1) rfl h13 rfl) ?_
     refine sx rfl (pMove (v := (vI (IntKind.wrap .i64 (x13 + 1)))) rfl rfl) ?_
     refine SeqW.done fun fr61 hf62 => ?_
     have h3 := (congrFun hf62 3).trans h3
     have h11 := (congrFun hf62 11).trans h11
     have h12 := (congrFun hf62 12).trans h12
     have h13 : fr61 13 = (vI (IntKind.wrap .i64 (x13 + 1))) := (congrFun hf62 13).trans rfl
     clear hf62
     refine thenQ.n ?_
     exact ih hz st h3 o3 h11 s11 h12 h13 hr
  ·refine W.condF h14 hc63 ?_
   refine W.exit ?_
   refine thenQ.x ?_
   refine thenQ.x ?_
   obtain rfl := Option.some.inj hr
   exact ⟨z, hz, st, .inl ⟨_, rfl, rfl, trivial⟩⟩

theorem u_consist_check {N : Nat}  {z0 z : Nat → Blk} {e m : Mem} {k : Option Nat} {fr : Nat → Value} {x0 : List Wagon} {v0 : Value} (hz : Zx e.next z0 z) (st : St z e m k) (h0 : fr 0 = v0) (s0 : SlR TWagon z x0 v0) {r : Int} (hr : consist_check N x0 = some r) : W Try.prog (sub (bodyOf Try.f62) []) (fun ex fr' m' => ∃ z', Zx e.next z0 z' ∧ St z' e m' k ∧ (ex = .normal ∨ ex = .ret) ∧ fr' 2 = (vI r) ∧ True) fr m := by
 unfold consist_check at hr
 refine W.seq (W.region ?_)
 refine sx rfl (pAssign (v := (vI 0)) rfl rfl) ?_
 refine SeqW.done fun fr1 hf2 => ?_
 have h0 := (congrFun hf2 0).trans h0
 clear hf2
 refine thenQ.n (W.seq ?_)
 refine W.seq (W.region ?_)
 refine sx rfl (pMove (v := v0) rfl h0) ?_
 refine sx rfl (pLenR (xs := x0) rfl Try.underlying24 rfl s0) ?_
 refine sx rfl (pGtr (k := .i64) (a := (x0.length : Int)) (b := 96) rfl rfl rfl) ?_
 refine SeqW.done fun fr3 hf4 => ?_
 have h0 := (congrFun hf4 0).trans h0
 have h9 : fr3 9 = (vB (decide (96 < (x0.length : Int)))) := (congrFun hf4 9).trans rfl
 clear hf4
 refine thenQ.n ?_
 rcases if_some hr with ⟨hc5, hr⟩ | ⟨hc8, hr⟩
 ·refine W.condT h9 hc5 (W.seq (W.region ?_))
  refine sx rfl (pAssign (v := (vI 3)) rfl rfl) ?_
  refine SeqW.done fun fr6 hf7 => ?_
  have h2 : fr6 2 = (vI 3) := (congrFun hf7 2).trans rfl
  clear hf7
  refine thenQ.n ?_
  refine W.ret ?_
  refine thenQ.r ?_
  obtain rfl := Option.some.inj hr
  exact ⟨z, hz, st, .inr rfl, h2, trivial⟩
 ·refine W.condF h9 hc8 (W.skip ?_)
  refine thenQ.n (W.seq (W.region ?_))
  refine SeqW.consX rfl (kMakeMap (MTy.mk kStr kBool 89) rfl Try.underlying89 rfl st ?_)
  intro V9 m10 st O11 sm12 hap13
  refine sx rfl (pAssign (v := V9) rfl rfl) ?_
  refine SeqW.done fun fr15 hf16 => ?_
  have h0 := (congrFun hf16 0).trans h0
  have h3 : fr15 3 = V9 := (congrFun hf16 3).trans rfl
  clear hf16
  refine thenQ.n (W.seq ?_)
  refine W.seq (W.region ?_)
  refine sx rfl (pMove (v := v0) rfl h0) ?_
  refine sx rfl (pLenR (xs := x0) rfl Try.underlying24 rfl s0) ?_
  refine sx rfl (pMove (v := (vI 0)) rfl rfl) ?_
  refine SeqW.done fun fr17 hf18 => ?_
  have h3 := (congrFun hf18 3).trans h3
  have h11 : fr17 11 = v0 := (congrFun hf18 11).trans rfl
  have h12 : fr17 12 = (vI (x0.length : Int)) := (congrFun hf18 12).trans rfl
  have h13 : fr17 13 = (vI 0) := (congrFun hf18 13).trans rfl
  clear hf18
  refine thenQ.n ?_
  refine W.block ?_
  obtain ⟨y64, hy64, hr⟩ := bind_some hr
  refine W.keep (u_consist_check_0 _ (Zx.refl _) st h3 O11 h11 s0 h12 h13 hy64) ?_
  rintro ex70 fr65 m66 hk68 ⟨z67, hz69, st, ⟨y71, rfl, rfl, -⟩ | ⟨y74, rfl, rfl, h2, -⟩⟩
  ·dsimp only at hr
   replace hz := hz.trans hz69
   clear hk68
   refine blockQ.hit ?_
   refine thenQ.n (W.seq (W.region ?_))
   refine sx rfl (pAssign (v := (vI 0)) rfl rfl) ?_
   refine SeqW.done fun fr72 hf73 => ?_
   have h2 : fr72 2 = (vI 0) := (congrFun hf73 2).trans rfl
   clear hf73
   refine thenQ.n ?_
   refine W.ret ?_
   obtain rfl := Option.some.inj hr
   exact ⟨z67, hz, st, .inr rfl, h2, trivial⟩
  ·dsimp only at hr
   replace hz := hz.trans hz69
   clear hk68
   refine blockQ.r ?_
   refine thenQ.r ?_
   obtain rfl := Option.some.inj hr
   exact ⟨z67, hz, st, .inr rfl, h2, trivial⟩

theorem c_consist_check {N : Nat} {z : Nat → Blk} {m : Mem} {x0 : List Wagon} {v0 : Value} (fz : Fz z m) (hd : ∀ b, m.next ≤ b → m.blk b = .dead) (s0 : SlR TWagon z x0 v0) {r : Int} (hr : consist_check N x0 = some r) : CallW Try.prog 62 #[v0] m fun v m' => v = (vI r) ∧ m' = m := by
 refine CallW.flat Try.func62 rfl (by kernel_rfl) (Nat.le_of_ble_eq_true rfl) rfl (z := z) (fun fr hf => ?_)
 have h0 : fr 0 = _ := hf 0 _ rfl
 refine (u_consist_check (k := none) (Zx.refl _) (St.start fz hd) h0 s0 hr).mono ?_
 rintro ex fr' m' ⟨z', hz, st, he, h2, -⟩
 exact ⟨he, z', st, [(vI r)], ⟨h2.symm, trivial⟩, .inl rfl, rfl⟩

/-! ### humpyard/consist.Total -/

theorem u_consist_Total_0 : ∀ (n : Nat) {N : Nat}  {z0 z : Nat → Blk} {e m : Mem} {k : Option Nat} {fr : Nat → Value} {x2 : Int} {x3 : Int} {x4 : Int} {x14 : List Wagon} {x15 : Int} {x16 : Int} {v14 : Value} (hz : Zx e.next z0 z) (st : St z e m k) (h2 : fr 2 = (vI x2)) (h3 : fr 3 = (vI x3)) (h4 : fr 4 = (vI x4)) (h14 : fr 14 = v14) (s14 : SlR TWagon z x14 v14) (h15 : fr 15 = (vI x15)) (h16 : fr 16 = (vI x16)) {r : Int × Int × Int} (hr : consist_Total_0 N x14 x15 n x2 x3 x4 x16 = some r), W Try.prog (sub (bodyOf Try.f39) [1, 1, 0, 1, 0]) (fun ex fr' m' => ∃ z', Zx e.next z0 z' ∧ St z' e m' k ∧ ex = AExit.exit 0 ∧ fr' 2 = (vI r.1) ∧ fr' 3 = (vI r.2.1) ∧ fr' 4 = (vI r.2.2) ∧ True) fr m := by
 intro n
 induction n with
 | zero => intro N z0 z e m k fr x2 x3 x4 x14 x15 x16 v14 hz st h2 h3 h4 h14 s14 h15 h16 r hr; cases (show (none : Option _) = some r from hr)
 | succ n ih =>
  intro N z0 z e m k fr x2 x3 x4 x14 x15 x16 v14 hz st h2 h3 h4 h14 s14 h15 h16 r hr
  unfold consist_Total_0 at hr
  refine W.loop1 ?_
  refine W.seq (W.region ?_)
  refine sx rfl (pLss (k := .i64) (a := x16) (b := x15) rfl h16 h15) ?_
  refine SeqW.done fun fr14 hf15 => ?_
  have h2 := (congrFun hf15 2).trans h2
  have h3 := (congrFun hf15 3).trans h3
  have h4 := (congrFun hf15 4).trans h4
  have h14 := (congrFun hf15 14).trans h14
  have h15 := (congrFun hf15 15).trans h15
  have h16 := (congrFun hf15 16).trans h16
  have h17 : fr14 17 = (vB (decide (x16 < x15))) := (congrFun hf15 17).trans rfl
  clear hf15
  refine thenQ.n (W.seq ?_)
  rcases if_some hr with ⟨hc16, hr⟩ | ⟨hc45, hr⟩
  ·refine W.condT h17 hc16 (W.skip ?_)
   refine thenQ.n (W.seq ?_)
   refine W.block ?_
   refine W.seq (W.region ?_)
   obtain ⟨y17, hy17, hr⟩ := bind_some hr
   refine SeqW.consX rfl (kIdxR (T := TWagon) (xs := x14) (n := x16) rfl Try.underlying24 Try.type36 rfl h14 h16 s14 hy17 ?_)
   intro B18 f19 cs20 hd21 hc22
   obtain rfl := hd21
   refine SeqW.consX rfl (kLoadA rfl Try.underlying36 rfl Try.type36 rfl rfl (st.loads hc22) ?_)
   refine SeqW.consX rfl (kAlloc rfl Try.type36 rfl rfl rfl [(str []), (vI 0), (vI 0), (vI 0), (vI 0), (vI 0), (vB false), (str [])] rfl st ?_)
   intro B24 m25  st X26 sm27 hap28
   refine SeqW.consX rfl (kPut (off := 0) (w := (Value.agg [(str y17.number), (vI y17.length), (vI y17.axles), (vI y17.mass), (vI y17.brake), (vI y17.goods), (vB y17.gentle), (str y17.dest)].toArray)) (new := [(str y17.number), (vI y17.length), (vI y17.axles), (vI y17.mass), (vI y17.brake), (vI y17.goods), (vB y17.gentle), (str y17.dest)]) rfl Try.type36 rfl rfl rfl rfl rfl X26 rfl [(str y17.number), (vI y17.length), (vI y17.axles), (vI y17.mass), (vI y17.brake), (vI y17.goods), (vB y17.gentle), (str y17.dest)] rfl st ?_)
   intro m30 st X26 sm31
   refine SeqW.done fun fr32 hf33 => ?_
   have h2 := (congrFun hf33 2).trans h2
   have h3 := (congrFun hf33 3).trans h3
   have h4 := (congrFun hf33 4).trans h4
   have h8 : fr32 8 = (vP B24) := (congrFun hf33 8).trans rfl
   have h14 := (congrFun hf33 14).trans h14
   have h15 := (congrFun hf33 15).trans h15
   have h16 := (congrFun hf33 16).trans h16
   clear hf33
   refine thenQ.n (W.seq (W.region ?_))
   refine sx rfl (pMove (v := (vI x2)) rfl h2) ?_
   refine SeqW.consX rfl (kField rfl Try.underlying36 rfl Try.type3 rfl h8 rfl ?_)
   refine SeqW.consX rfl (kLoad rfl Try.underlying3 rfl rfl (X26.load (v := (vI y17.length)) rfl) ?_)
   refine sx rfl (pAdd (k := .i64) (a := x2) (b := y17.length) rfl rfl rfl) ?_
   obtain ⟨y34, hy34, hr⟩ := lt_some hr
   refine sx rfl (pAssign rfl (congrArg (Value.int .i64) hy34)) ?_
   refine SeqW.done fun fr35 hf36 => ?_
   have h2 : fr35 2 = (vI y34) := (congrFun hf36 2).trans rfl
   have h3 := (congrFun hf36 3).trans h3
   have h4 := (congrFun hf36 4).trans h4
   have h8 := (congrFun hf36 8).trans h8
   have h14 := (congrFun hf36 14).trans h14
   have h15 := (congrFun hf36 15).trans h15
   have h16 := (congrFun hf36 16).trans h16
   clear hf36
   refine thenQ.n (W.seq (W.region ?_))
   refine sx rfl (pMove (v := (vI x3)) rfl h3) ?_
   refine SeqW.consX rfl (kField rfl Try.underlying36 rfl Try.type3 rfl h8 rfl ?_)
   refine SeqW.consX rfl (kLoad rfl Try.underlying3 rfl rfl (X26.load (v := (vI y17.mass)) rfl) ?_)
   refine sx rfl (pAdd (k := .i64) (a := x3) (b := y17.mass) rfl rfl rfl) ?_
   obtain ⟨y37, hy37, hr⟩ := lt_some hr
   refine sx rfl (pAssign rfl (congrArg (Value.int .i64) hy37)) ?_
   refine SeqW.done fun fr38 hf39 => ?_
   have h2 := (congrFun hf39 2).trans h2
   have h3 : fr38 3 = (vI y37) := (congrFun hf39 3).trans rfl
   have h4 := (congrFun hf39 4).trans h4
   have h8 := (congrFun hf39 8).trans h8
   have h14 := (congrFun hf39 14).trans h14
   have h15 := (congrFun hf39 15).trans h15
   have h16 := (congrFun hf39 16).trans h16
   clear hf39
   refine thenQ.n (W.region ?_)
   refine sx rfl (pMove (v := (vI x4)) rfl h4) ?_
   refine SeqW.consX rfl (kField rfl Try.underlying36 rfl Try.type3 rfl h8 rfl ?_)
   refine SeqW.consX rfl (kLoad rfl Try.underlying3 rfl rfl (X26.load (v := (vI y17.axles)) rfl) ?_)
   refine sx rfl (pAdd (k := .i64) (a := x4) (b := y17.axles) rfl rfl rfl) ?_
   obtain ⟨y40, hy40, hr⟩ := lt_some hr
   refine sx rfl (pAssign rfl (congrArg (Value.int .i64) hy40)) ?_
   refine SeqW.done fun fr41 hf42 => ?_
   have h2 := (congrFun hf42 2).trans h2
   have h3 := (congrFun hf42 3).trans h3
   have h4 : fr41 4 = (vI y40) := (congrFun hf42 4).trans rfl
   have h14 := (congrFun hf42 14).trans h14
   have h15 := (congrFun hf42 15).trans h15
   have h16 := (congrFun hf42 16).trans h16
   clear hf42
   refine blockQ.n ?_
   refine thenQ.n (W.region ?_)
   refine sx rfl (pAdd (k := .i64) (a := x16) (b := 1) rfl h16 rfl) ?_
   refine sx rfl (pMove (v := (vI (IntKind.wrap .i64 (x16 + 1)))) rfl rfl) ?_
   refine SeqW.done fun fr43 hf44 => ?_
   have h2 := (congrFun hf44 2).trans h2
   have h3 := (congrFun hf44 3).trans h3
   have h4 := (congrFun hf44 4).trans h4
   have h14 := (congrFun hf44 14).trans h14
   have h15 := (congrFun hf44 15).trans h15
   have h16 : fr43 16 = (vI (IntKind.wrap .i64 (x16 + 1))) := (congrFun hf44 16).trans rfl
   clear hf44
   refine thenQ.n ?_
   exact ih hz st h2 h3 h4 h14 s14 h15 h16 hr
  ·refine W.condF h17 hc45 ?_
   refine W.exit ?_
   refine thenQ.x ?_
   refine thenQ.x ?_
   obtain rfl := Option.some.inj hr
   exact ⟨z, hz, st, rfl, h2, h3, h4, trivial⟩

theorem u_consist_Total {N : Nat}  {z0 z : Nat → Blk} {e m : Mem} {k : Option Nat} {fr : Nat → Value} {x0 : List Wagon} {v0 : Value} (hz : Zx e.next z0 z) (st : St z e m k) (h0 : fr 0 = v0) (s0 : SlR TWagon z x0 v0) {r : Int × Int × Int × Int} (hr : consist_Total N x0 = some r) : W Try.prog (sub (bodyOf Try.f39) []) (fun ex fr' m' => ∃ z', Zx e.next z0 z' ∧ St z' e m' k ∧ (ex = .normal ∨ ex = .ret) ∧ fr' 2 = (vI r.1) ∧ fr' 3 = (vI r.2.1) ∧ fr' 4 = (vI r.2.2.1) ∧ fr' 5 = (vI r.2.2.2) ∧ True) fr m := by
 unfold consist_Total at hr
 refine W.seq (W.region ?_)
 refine sx rfl (pAssign (v := (vI 0)) rfl rfl) ?_
 refine sx rfl (pAssign (v := (vI 0)) rfl rfl) ?_
 refine sx rfl (pAssign (v := (vI 0)) rfl rfl) ?_
 refine sx rfl (pAssign (v := (vI 0)) rfl rfl) ?_
 refine SeqW.done fun fr1 hf2 => ?_
 have h0 := (congrFun hf2 0).trans h0
 have h2 : fr1 2 = (vI 0) := (congrFun hf2 2).trans rfl
 have h3 : fr1 3 = (vI 0) := (congrFun hf2 3).trans rfl
 have h4 : fr1 4 = (vI 0) := (congrFun hf2 4).trans rfl
 clear hf2
 refine thenQ.n (W.seq ?_)
 refine W.seq (W.region ?_)
 refine sx rfl (pMove (v := v0) rfl h0) ?_
 obtain ⟨y3, hy3, hr⟩ := bind_some hr
 refine SeqW.consX rfl (StepX.call (gCallee rfl rfl (args1 rfl)) ((c_consist_check (z := z) st.fz st.dead s0 hy3).mono ?_))
 rintro _ _ ⟨rfl, rfl⟩
 refine sx rfl (pAssign (v := (vI y3)) rfl rfl) ?_
 refine SeqW.done fun fr4 hf5 => ?_
 have h0 := (congrFun hf5 0).trans h0
 have h2 := (congrFun hf5 2).trans h2
 have h3 := (congrFun hf5 3).trans h3
 have h4 := (congrFun hf5 4).trans h4
 have h6 : fr4 6 = (vI y3) := (congrFun hf5 6).trans rfl
 clear hf5
 refine thenQ.n (W.seq (W.region ?_))
 refine sx rfl (pMove (v := (vI y3)) rfl h6) ?_
 refine sx rfl (pNeq (k := .i64) (a := y3) (b := 0) rfl rfl rfl) ?_
 refine SeqW.done fun fr6 hf7 => ?_
 have h0 := (congrFun hf7 0).trans h0
 have h2 := (congrFun hf7 2).trans h2
 have h3 := (congrFun hf7 3).trans h3
 have h4 := (congrFun hf7 4).trans h4
 have h6 := (congrFun hf7 6).trans h6
 have h12 : fr6 12 = (vB (y3 != 0)) := (congrFun hf7 12).trans rfl
 clear hf7
 refine thenQ.n ?_
 rcases if_some hr with ⟨hc8, hr⟩ | ⟨hc11, hr⟩
 ·refine W.condT h12 hc8 (W.seq (W.region ?_))
  refine sx rfl (pMove (v := (vI y3)) rfl h6) ?_
  refine sx rfl (pAssign (v := (vI 0)) rfl rfl) ?_
  refine sx rfl (pAssign (v := (vI 0)) rfl rfl) ?_
  refine sx rfl (pAssign (v := (vI 0)) rfl rfl) ?_
  refine sx rfl (pAssign (v := (vI y3)) rfl rfl) ?_
  refine SeqW.done fun fr9 hf10 => ?_
  have h2 : fr9 2 = (vI 0) := (congrFun hf10 2).trans rfl
  have h3 : fr9 3 = (vI 0) := (congrFun hf10 3).trans rfl
  have h4 : fr9 4 = (vI 0) := (congrFun hf10 4).trans rfl
  have h5 : fr9 5 = (vI y3) := (congrFun hf10 5).trans rfl
  clear hf10
  refine thenQ.n ?_
  refine W.ret ?_
  refine thenQ.r ?_
  obtain rfl := Option.some.inj hr
  exact ⟨z, hz, st, .inr rfl, h2, h3, h4, h5, trivial⟩
 ·refine W.condF h12 hc11 (W.skip ?_)
  refine thenQ.n (W.seq ?_)
  refine W.seq (W.region ?_)
  refine sx rfl (pMove (v := v0) rfl h0) ?_
  refine sx rfl (pLenR (xs := x0) rfl Try.underlying24 rfl s0) ?_
  refine sx rfl (pMove (v := (vI 0)) rfl rfl) ?_
  refine SeqW.done fun fr12 hf13 => ?_
  have h2 := (congrFun hf13 2).trans h2
  have h3 := (congrFun hf13 3).trans h3
  have h4 := (congrFun hf13 4).trans h4
  have h14 : fr12 14 = v0 := (congrFun hf13 14).trans rfl
  have h15 : fr12 15 = (vI (x0.length : Int)) := (congrFun hf13 15).trans rfl
  have h16 : fr12 16 = (vI 0) := (congrFun hf13 16).trans rfl
  clear hf13
  refine thenQ.n ?_
  refine W.block ?_
  obtain ⟨y46, hy46, hr⟩ := bind_some hr
  refine W.keep (u_consist_Total_0 _ (Zx.refl _) st h2 h3 h4 h14 s0 h15 h16 hy46) ?_
  rintro ex52 fr47 m48 hk50 ⟨z49, hz51, st, rfl, h2, h3, h4, -⟩
  replace hz := hz.trans hz51
  clear hk50
  refine blockQ.hit ?_
  refine thenQ.n (W.seq (W.region ?_))
  refine sx rfl (pMove (v := (vI y46.1)) rfl h2) ?_
  refine sx rfl (pMove (v := (vI y46.2.1)) rfl h3) ?_
  refine sx rfl (pMove (v := (vI y46.2.2)) rfl h4) ?_
  refine sx rfl (pAssign (v := (vI y46.1)) rfl rfl) ?_
  refine sx rfl (pAssign (v := (vI y46.2.1)) rfl rfl) ?_
  refine sx rfl (pAssign (v := (vI y46.2.2)) rfl rfl) ?_
  refine sx rfl (pAssign (v := (vI 0)) rfl rfl) ?_
  refine SeqW.done fun fr53 hf54 => ?_
  have h2 : fr53 2 = (vI y46.1) := (congrFun hf54 2).trans rfl
  have h3 : fr53 3 = (vI y46.2.1) := (congrFun hf54 3).trans rfl
  have h4 : fr53 4 = (vI y46.2.2) := (congrFun hf54 4).trans rfl
  have h5 : fr53 5 = (vI 0) := (congrFun hf54 5).trans rfl
  clear hf54
  refine thenQ.n ?_
  refine W.ret ?_
  obtain rfl := Option.some.inj hr
  exact ⟨z49, hz, st, .inr rfl, h2, h3, h4, h5, trivial⟩

theorem c_consist_Total {N : Nat} {z : Nat → Blk} {m : Mem} {x0 : List Wagon} {v0 : Value} (fz : Fz z m) (hd : ∀ b, m.next ≤ b → m.blk b = .dead) (s0 : SlR TWagon z x0 v0) {r : Int × Int × Int × Int} (hr : consist_Total N x0 = some r) : CallW Try.prog 39 #[v0] m fun v m' => v = (Value.tuple [(vI r.1), (vI r.2.1), (vI r.2.2.1), (vI r.2.2.2)].toArray) ∧ m' = m := by
 refine CallW.flat Try.func39 rfl (by kernel_rfl) (Nat.le_of_ble_eq_true rfl) rfl (z := z) (fun fr hf => ?_)
 have h0 : fr 0 = _ := hf 0 _ rfl
 refine (u_consist_Total (k := none) (Zx.refl _) (St.start fz hd) h0 s0 hr).mono ?_
 rintro ex fr' m' ⟨z', hz, st, he, h2, h3, h4, h5, -⟩
 exact ⟨he, z', st, [(vI r.1), (vI r.2.1), (vI r.2.2.1), (vI r.2.2.2)], ⟨h2.symm, h3.symm, h4.symm, h5.symm, trivial⟩, .inr (List.forall_mem_cons.2 ⟨rfl, List.forall_mem_cons.2 ⟨rfl, List.forall_mem_cons.2 ⟨rfl, List.forall_mem_cons.2 ⟨rfl, fun _ h => nomatch h⟩⟩⟩⟩), rfl⟩

/-! ### humpyard/brake.in -/

theorem u_brake_in_0 {N : Nat}  {z0 z : Nat → Blk} {e m : Mem} {k : Option Nat} {fr : Nat → Value} {x0 : Int} {x1 : Int} {x2 : Int} (hz : Zx e.next z0 z) (st : St z e m k) (h0 : fr 0 = (vI x0)) (h1 : fr 1 = (vI x1)) (h2 : fr 2 = (vI x2)) {r : Bool} (hr : brake_in_0 N x0 x1 x2 = some r) : W Try.prog (sub (bodyOf Try.f40) [1, 0]) (fun ex fr' m' => ∃ z', Zx e.next z0 z' ∧ St z' e m' k ∧ ex = AExit.normal ∧ fr' 6 = (vB r) ∧ True) fr m := by
 unfold brake_in_0 at hr
 refine W.region ?_
 refine sx rfl (pMove (v := (vI x0)) rfl h0) ?_
 refine sx rfl (pMove (v := (vI x1)) rfl h1) ?_
 refine sx rfl (pGeq (k := .i64) (a := x0) (b := x1) rfl rfl rfl) ?_
 refine sx rfl (pMove (v := (vB (decide (x1 ≤ x0)))) rfl rfl) ?_
 rcases if_some hr with ⟨hc3, hr⟩ | ⟨hc7, hr⟩
 ·refine SeqW.consG rfl rfl rfl hc3 (StepX.pure (pMove (v := (vI x0)) rfl h0) ?_)
  refine SeqW.consG rfl rfl rfl hc3 (StepX.pure (pMove (v := (vI x2)) rfl h2) ?_)
  refine SeqW.consG rfl rfl rfl hc3 (StepX.pure (pLeq (k := .i64) (a := x0) (b := x2) rfl rfl rfl) ?_)
  refine sx rfl (pPick (t := true) (v := (vB (decide (x0 ≤ x2)))) rfl ((congrArg vB hc3)) rfl) ?_
  obtain ⟨y4, hy4, hr⟩ := lt_some hr
  refine sx rfl (pAssign rfl (congrArg vB hy4)) ?_
  refine SeqW.done fun fr5 hf6 => ?_
  have h6 : fr5 6 = (vB y4) := (congrFun hf6 6).trans rfl
  clear hf6
  obtain rfl := Option.some.inj hr
  exact ⟨z, hz, st, rfl, h6, trivial⟩
 ·refine kx rfl rfl rfl hc7 ?_
  iterate 2 refine kx rfl rfl rfl hc7 ?_
  refine sx rfl (pPick (t := false) (v := (vB false)) rfl ((congrArg vB hc7)) rfl) ?_
  refine sx rfl (pAssign (v := (vB false)) rfl rfl) ?_
  refine SeqW.done fun fr8 hf9 => ?_
  have h6 : fr8 6 = (vB false) := (congrFun hf9 6).trans rfl
  clear hf9
  obtain rfl := Option.some.inj hr
  exact ⟨z, hz, st, rfl, h6, trivial⟩

theorem u_brake_in {N : Nat}  {z0 z : Nat → Blk} {e m : Mem} {k : Option Nat} {fr : Nat → Value} {x0 : Int} {x1 : Int} {x2 : Int} (hz : Zx e.next z0 z) (st : St z e m k) (h0 : fr 0 = (vI x0)) (h1 : fr 1 = (vI x1)) (h2 : fr 2 = (vI x2)) {r : Bool} (hr : brake_in N x0 x1 x2 = some r) : W Try.prog (sub (bodyOf Try.f40) []) (fun ex fr' m' => ∃ z', Zx e.next z0 z' ∧ St z' e m' k ∧ (ex = .normal ∨ ex = .ret) ∧ fr' 6 = (vB r) ∧ True) fr m := by
 unfold brake_in at hr
 refine W.seq (W.region ?_)
 refine sx rfl (pAssign (v := (vB false)) rfl rfl) ?_
 refine SeqW.done fun fr1 hf2 => ?_
 have h0 := (congrFun hf2 0).trans h0
 have h1 := (congrFun hf2 1).trans h1
 have h2 := (congrFun hf2 2).trans h2
 clear hf2
 refine thenQ.n (W.seq ?_)
 obtain ⟨y10, hy10, hr⟩ := bind_some hr
 refine W.keep (u_brake_in_0 (Zx.refl _) st h0 h1 h2 hy10) ?_
 rintro ex16 fr11 m12 hk14 ⟨z13, hz15, st, rfl, h6, -⟩
 replace hz := hz.trans hz15
 clear hk14
 refine thenQ.n ?_
 refine W.ret ?_
 obtain rfl := Option.some.inj hr
 exact ⟨z13, hz, st, .inr rfl, h6, trivial⟩

theorem c_brake_in {N : Nat} {z : Nat → Blk} {m : Mem} {x0 : Int} {x1 : Int} {x2 : Int} (fz : Fz z m) (hd : ∀ b, m.next ≤ b → m.blk b = .dead)  {r : Bool} (hr : brake_in N x0 x1 x2 = some r) : CallW Try.prog 40 #[(vI x0), (vI x1), (vI x2)] m fun v m' => v = (vB r) ∧ m' = m := by
 refine CallW.flat Try.func40 rfl (by kernel_rfl) (Nat.le_of_ble_eq_true rfl) rfl (z := z) (fun fr hf => ?_)
 have h0 : fr 0 = _ := hf 0 _ rfl
 have h1 : fr 1 = _ := hf 1 _ rfl
 have h2 : fr 2 = _ := hf 2 _ rfl
 refine (u_brake_in (k := none) (Zx.refl _) (St.start fz hd) h0 h1 h2 hr).mono ?_
 rintro ex fr' m' ⟨z', hz, st, he, h6, -⟩
 exact ⟨he, z', st, [(vB r)], ⟨h6.symm, trivial⟩, .inl rfl, rfl⟩

/-! ### humpyard/brake.Factor -/

theorem u_brake_Factor {N : Nat}  {z0 z : Nat → Blk} {e m : Mem} {k : Option Nat} {fr : Nat → Value} {x0 : Int} (hz : Zx e.next z0 z) (st : St z e m k) (h0 : fr 0 = (vI x0)) {r : Int} (hr : brake_Factor N x0 = some r) : W Try.prog (sub (bodyOf Try.f41) []) (fun ex fr' m' => ∃ z', Zx e.next z0 z' ∧ St z' e m' k ∧ (ex = .normal ∨ ex = .ret) ∧ fr' 2 = (vI r) ∧ True) fr m := by
 unfold brake_Factor at hr
 refine W.seq (W.region ?_)
 refine sx rfl (pAssign (v := (vI 0)) rfl rfl) ?_
 refine SeqW.done fun fr1 hf2 => ?_
 have h0 := (congrFun hf2 0).trans h0
 clear hf2
 refine thenQ.n (W.seq ?_)
 refine W.seq (W.region ?_)
 refine sx rfl (pMove (v := (vI x0)) rfl h0) ?_
 refine sx rfl (pLeq (k := .i64) (a := x0) (b := 5000) rfl rfl rfl) ?_
 refine SeqW.done fun fr3 hf4 => ?_
 have h0 := (congrFun hf4 0).trans h0
 have h4 : fr3 4 = (vB (decide (x0 ≤ 5000))) := (congrFun hf4 4).trans rfl
 clear hf4
 refine thenQ.n ?_
 rcases if_some hr with ⟨hc5, hr⟩ | ⟨hc8, hr⟩
 ·refine W.condT h4 hc5 (W.seq (W.region ?_))
  refine sx rfl (pAssign (v := (vI 100)) rfl rfl) ?_
  refine SeqW.done fun fr6 hf7 => ?_
  have h2 : fr6 2 = (vI 100) := (congrFun hf7 2).trans rfl
  clear hf7
  refine thenQ.n ?_
  refine W.ret ?_
  refine thenQ.r ?_
  obtain rfl := Option.some.inj hr
  exact ⟨z, hz, st, .inr rfl, h2, trivial⟩
 ·refine W.condF h4 hc8 (W.skip ?_)
  refine thenQ.n (W.seq ?_)
  refine W.seq (W.region ?_)
  refine sx rfl (pMove (v := (vI x0)) rfl h0) ?_
  refine sx rfl (pGtr (k := .i64) (a := x0) (b := 10000) rfl rfl rfl) ?_
  refine SeqW.done fun fr9 hf10 => ?_
  have h0 := (congrFun hf10 0).trans h0
  have h6 : fr9 6 = (vB (decide (10000 < x0))) := (congrFun hf10 6).trans rfl
  clear hf10
  refine thenQ.n ?_
  rcases if_some hr with ⟨hc11, hr⟩ | ⟨hc14, hr⟩
  ·refine W.condT h6 hc11 (W.seq (W.region ?_))
   refine sx rfl (pAssign (v := (vI 80)) rfl rfl) ?_
   refine SeqW.done fun fr12 hf13 => ?_
   have h2 : fr12 2 = (vI 80) := (congrFun hf13 2).trans rfl
   clear hf13
   refine thenQ.n ?_
   refine W.ret ?_
   refine thenQ.r ?_
   obtain rfl := Option.some.inj hr
   exact ⟨z, hz, st, .inr rfl, h2, trivial⟩
  ·refine W.condF h6 hc14 (W.skip ?_)
   refine thenQ.n (W.seq (W.region ?_))
   refine sx rfl (pMove (v := (vI x0)) rfl h0) ?_
   refine sx rfl (pSub (k := .i64) (a := x0) (b := 5000) rfl rfl rfl) ?_
   refine sx rfl (pAdd (k := .i64) (a := (IntKind.wrap .i64 (x0 - 5000))) (b := 99) rfl rfl rfl) ?_
   refine sx rfl (pQuo (k := .i64) (a := (IntKind.wrap .i64 ((IntKind.wrap .i64 (x0 - 5000)) + 99))) (b := 100) rfl rfl rfl (by decide)) ?_
   refine sx rfl (pSub (k := .i64) (a := 100) (b := (IntKind.wrap .i64 (Int.tdiv (IntKind.wrap .i64 ((IntKind.wrap .i64 (x0 - 5000)) + 99)) 100))) rfl rfl rfl) ?_
   refine sx rfl (pMax2 (k := .i64) (a := 80) (b := (IntKind.wrap .i64 (100 - (IntKind.wrap .i64 (Int.tdiv (IntKind.wrap .i64 ((IntKind.wrap .i64 (x0 - 5000)) + 99)) 100))))) rfl rfl rfl) ?_
   obtain ⟨y15, hy15, hr⟩ := lt_some hr
   refine sx rfl (pAssign rfl (congrArg (Value.int .i64) hy15)) ?_
   refine SeqW.done fun fr16 hf17 => ?_
   have h2 : fr16 2 = (vI y15) := (congrFun hf17 2).trans rfl
   clear hf17
   refine thenQ.n ?_
   refine W.ret ?_
   obtain rfl := Option.some.inj hr
   exact ⟨z, hz, st, .inr rfl, h2, trivial⟩

theorem c_brake_Factor {N : Nat} {z : Nat → Blk} {m : Mem} {x0 : Int} (fz : Fz z m) (hd : ∀ b, m.next ≤ b → m.blk b = .dead)  {r : Int} (hr : brake_Factor N x0 = some r) : CallW Try.prog 41 #[(vI x0)] m fun v m' => v = (vI r) ∧ m' = m := by
 refine CallW.flat Try.func41 rfl (by kernel_rfl) (Nat.le_of_ble_eq_true rfl) rfl (z := z) (fun fr hf => ?_)
 have h0 : fr 0 = _ := hf 0 _ rfl
 refine (u_brake_Factor (k := none) (Zx.refl _) (St.start fz hd) h0 hr).mono ?_
 rintro ex fr' m' ⟨z', hz, st, he, h2, -⟩
 exact ⟨he, z', st, [(vI r)], ⟨h2.symm, trivial⟩, .inl rfl, rfl⟩

end Go.W
