/- The models are what the program computes. -/
import Derived.Test.YtpfkolbgdmmakaaWM
import Derived.Test.YtpfkolbgdmmakaaProg
set_option linter.unusedVariables false
set_option linter.unusedSimpArgs false
set_option maxRecDepth 100000
set_option maxHeartbeats 4000000
namespace Go.W
open Go.AM Go.Proofs

theorem places53 {fs : Array Field} (h : Try.prog.underlying 53 = some (.struct fs)) : places Try.prog fs = [some (0, 1), some (1, 1)] := by
  rw [Try.underlying53] at h; cases h; rfl
theorem places42 {fs : Array Field} (h : Try.prog.underlying 42 = some (.struct fs)) : places Try.prog fs = [some (0, 1), some (1, 1), some (2, 1), some (3, 1), some (4, 1), some (5, 1), some (6, 1), some (7, 1)] := by
  rw [Try.underlying42] at h; cases h; rfl
theorem places61 {fs : Array Field} (h : Try.prog.underlying 61 = some (.struct fs)) : places Try.prog fs = [some (0, 1), some (1, 1)] := by
  rw [Try.underlying61] at h; cases h; rfl
theorem stood_Wagon : Try.prog.stoodInHeld 42 = false := by kernel_rfl
theorem guard_Wagon : Try.prog.eqGuardType Try.prog.depth 42 = false := by kernel_rfl
theorem scal_Wagon {fs : Array Field} (h : Try.prog.underlying 42 = some (.struct fs)) (x y : Wagon) : ScalF Try.prog fs.toList 0 [(str x.number), (Value.int .i64 x.length), (Value.int .i64 x.axles), (Value.int .i64 x.mass), (Value.int .i64 x.brake), (Value.int .i64 x.goods), (Value.bool x.gentle), (str x.dest)] [(str y.number), (Value.int .i64 y.length), (Value.int .i64 y.axles), (Value.int .i64 y.mass), (Value.int .i64 y.brake), (Value.int .i64 y.goods), (Value.bool y.gentle), (str y.dest)] := by
  rw [Try.underlying42] at h; cases h
  exact ⟨rfl, by decide, .inr (.inr ⟨_, _, Try.underlying9, rfl, rfl⟩), ⟨rfl, by decide, .inl ⟨_, _, _, _, Try.underlying3, rfl, rfl⟩, ⟨rfl, by decide, .inl ⟨_, _, _, _, Try.underlying3, rfl, rfl⟩, ⟨rfl, by decide, .inl ⟨_, _, _, _, Try.underlying3, rfl, rfl⟩, ⟨rfl, by decide, .inl ⟨_, _, _, _, Try.underlying3, rfl, rfl⟩, ⟨rfl, by decide, .inl ⟨_, _, _, _, Try.underlying3, rfl, rfl⟩, ⟨rfl, by decide, .inr (.inl ⟨_, _, Try.underlying4, rfl, rfl⟩), ⟨rfl, by decide, .inr (.inr ⟨_, _, Try.underlying9, rfl, rfl⟩), trivial⟩⟩⟩⟩⟩⟩⟩⟩
theorem eqc_Wagon (x y : Wagon) : decide (x = y) = true ↔ ([(str x.number), (Value.int .i64 x.length), (Value.int .i64 x.axles), (Value.int .i64 x.mass), (Value.int .i64 x.brake), (Value.int .i64 x.goods), (Value.bool x.gentle), (str x.dest)] : List Value) = [(str y.number), (Value.int .i64 y.length), (Value.int .i64 y.axles), (Value.int .i64 y.mass), (Value.int .i64 y.brake), (Value.int .i64 y.goods), (Value.bool y.gentle), (str y.dest)] := by
  rw [decide_eq_true_eq]
  constructor
  · rintro rfl; rfl
  · intro h
    simp only [List.cons.injEq, Value.int.injEq, Value.bool.injEq, true_and, and_true] at h
    cases x; cases y
    simp only at h
    obtain ⟨h0, h1, h2, h3, h4, h5, h6, h7⟩ := h
    obtain rfl := str_inj h0; subst h1; subst h2; subst h3; subst h4; subst h5; subst h6; obtain rfl := str_inj h7
    rfl


/-! ### humpyard/humpgen.New -/

theorem u_gen_New {N : Nat}  {z0 z : Nat → Blk} {e m : Mem} {k : Option Nat} {fr : Nat → Value} {x0 : List Int} {v0 : Value} (hz : Zx e.next z0 z) (st : St z e m k) (h0 : fr 0 = v0) (s0 : SlR (TInt 3 .i64) z x0 v0) {r : Maker} (hr : gen_New N x0 = some r) : W Try.prog (sub (bodyOf Try.f9) []) (fun ex fr' m' => ∃ z', Zx e.next z0 z' ∧ St z' e m' k ∧ (ex = .normal ∨ ex = .ret) ∧ ∃ (c2 : Nat) (w2_0 : Value), fr' 2 = (vP c2) ∧ SlR (TInt 3 .i64) z' r.l w2_0 ∧ Bx z' e m' k c2 [w2_0, (vI r.n)] 53 ∧ (e.next ≤ c2 ∨ k = some c2) ∧ True) fr m := by
 unfold gen_New at hr
 refine W.seq (W.region ?_)
 refine sx rfl (pAssign (v := (Value.pointer none)) rfl rfl) ?_
 refine SeqW.done fun fr1 hf2 => ?_
 have h0 := (congrFun hf2 0).trans h0
 clear hf2
 refine thenQ.n (W.seq (W.region ?_))
 refine sx rfl (pMove (v := v0) rfl h0) ?_
 obtain ⟨A3, c4, eA3⟩ := s0.len
 subst eA3
 refine SeqW.consX rfl (kBuildS [(0, (Value.slice A3 (x0).length c4))] [(Value.slice A3 (x0).length c4), (vI 0)] rfl Try.underlying53 Try.type53 rfl rfl (places53 Try.underlying53) rfl (rfl) rfl ?_)
 refine SeqW.consX rfl (kBox (v := (Value.agg [(Value.slice A3 (x0).length c4), (vI 0)].toArray)) rfl Try.type53 rfl rfl [(Value.slice A3 (x0).length c4), (vI 0)] rfl rfl st ?_)
 intro B5 m6 st X7 sm8 hap9
 refine sx rfl (pAssign (v := (vP B5)) rfl rfl) ?_
 refine SeqW.done fun fr11 hf12 => ?_
 have h2 : fr11 2 = (vP B5) := (congrFun hf12 2).trans rfl
 clear hf12
 refine thenQ.n ?_
 refine W.ret ?_
 obtain rfl := Option.some.inj hr
 exact ⟨z, hz, st, .inr rfl, B5, (Value.slice A3 (x0).length c4), h2, s0, X7, X7.fresh, trivial⟩

theorem c_gen_New {N : Nat} {z : Nat → Blk} {m : Mem} {x0 : List Int} {v0 : Value} (fz : Fz z m) (hd : ∀ b, m.next ≤ b → m.blk b = .dead) (s0 : SlR (TInt 3 .i64) z x0 v0) {r : Maker} (hr : gen_New N x0 = some r) : CallW Try.prog 9 #[v0] m fun v m' => ∃ z' c2 w2_0, Zx m.next z z' ∧ Fz z' m' ∧ Same m m' none ∧ v = (vP c2) ∧ SlR (TInt 3 .i64) z' r.l w2_0 ∧ Bx z' m m' none c2 [w2_0, (vI r.n)] 53 ∧ m.next ≤ c2 ∧ True := by
 refine CallW.any Try.func9 rfl (by kernel_rfl) (Nat.le_of_ble_eq_true rfl) (fun fr hf => ?_)
 have h0 : fr 0 = _ := hf 0 _ rfl
 refine (u_gen_New (k := none) (Zx.refl _) (St.start fz hd) h0 s0 hr).mono ?_
 rintro ex fr' m' ⟨z', hz, st, he, c2, w2_0, h2, s2_0, bx2, fx2, -⟩
 exact ⟨he, [(vP c2)], ⟨h2.symm, trivial⟩, .inl rfl, z', c2, w2_0, hz, st.fz, st.toSame, rfl, s2_0, bx2, (fx2.resolve_right (by simp)), trivial⟩

/-! ### (*humpyard/humpgen.Maker).Next -/

theorem u_Maker_Next_0 {N : Nat}  {z0 z : Nat → Blk} {e m : Mem} {k : Option Nat} {fr : Nat → Value} {x0 : Maker} {x5 : Int} {x11 : Bool} {v0_0 : Value} {b0 : Nat} (hz : Zx e.next z0 z) (st : St z e m k) (h0 : fr 0 = (vP b0)) (s0_0 : SlR (TInt 3 .i64) z x0.l v0_0) (bx0 : Bx z e m k b0 [v0_0, (vI x0.n)] 53) (h5 : fr 5 = (vI x5)) (h11 : fr 11 = (vB x11)) {r : Int} (hr : Maker_Next_0 N x0 x5 x11 = some r) : W Try.prog (sub (bodyOf Try.f19) [1, 1, 0, 1]) (fun ex fr' m' => ∃ z', Zx e.next z0 z' ∧ St z' e m' k ∧ ex = AExit.normal ∧ fr' 5 = (vI r) ∧ Bx z' e m' k b0 [v0_0, (vI x0.n)] 53 ∧ True) fr m := by
 unfold Maker_Next_0 at hr
 rcases if_some hr with ⟨hc7, hr⟩ | ⟨hc19, hr⟩
 ·refine W.condT h11 hc7 ?_
  refine W.calm (by decide) ?_
  refine sx rfl (pMove (v := (vP b0)) rfl h0) ?_
  refine sx rfl (PureR.nilCheck _ _ rfl rfl) ?_
  refine SeqW.consX rfl (kField rfl Try.underlying53 rfl Try.type22 rfl rfl rfl ?_)
  refine SeqW.consX rfl (kLoad rfl Try.underlying22 rfl rfl (bx0.load (v := v0_0) rfl) ?_)
  refine sx rfl (pMove (v := (vP b0)) rfl h0) ?_
  refine sx rfl (PureR.nilCheck _ _ rfl rfl) ?_
  refine SeqW.consX rfl (kField rfl Try.underlying53 rfl Try.type3 rfl rfl rfl ?_)
  refine SeqW.consX rfl (kLoad rfl Try.underlying3 rfl rfl (bx0.load (v := (vI x0.n)) rfl) ?_)
  refine sx rfl (pMove (v := (vP b0)) rfl h0) ?_
  refine sx rfl (PureR.nilCheck _ _ rfl rfl) ?_
  refine SeqW.consX rfl (kField rfl Try.underlying53 rfl Try.type22 rfl rfl rfl ?_)
  refine SeqW.consX rfl (kLoad rfl Try.underlying22 rfl rfl (bx0.load (v := v0_0) rfl) ?_)
  refine sx rfl (pLenR (xs := x0.l) rfl Try.underlying22 rfl s0_0) ?_
  obtain ⟨y8, hy8, hr⟩ := bind_some hr
  refine SeqW.consX rfl (kRem (k1 := .i64) (a := x0.n) (b := (x0.l.length : Int)) rfl rfl rfl hy8 ?_)
  obtain ⟨y9, hy9, hr⟩ := bind_some hr
  refine SeqW.consX rfl (kIdxR (T := (TInt 3 .i64)) (xs := x0.l) (n := y8) rfl Try.underlying22 Try.type3 rfl rfl rfl s0_0 hy9 ?_)
  intro B10 f11 cs12 hd13 hc14
  obtain rfl := hd13
  refine SeqW.consX rfl (kLoad (v := (vI y9)) rfl Try.underlying3 rfl rfl (ldz_load st.fz (hc14 0 _ rfl)) ?_)
  refine sx rfl (pMove (v := (vP b0)) rfl h0) ?_
  refine sx rfl (PureR.nilCheck _ _ rfl rfl) ?_
  refine SeqW.consX rfl (kField rfl Try.underlying53 rfl Try.type3 rfl rfl rfl ?_)
  refine SeqW.consX rfl (kLoad rfl Try.underlying3 rfl rfl (bx0.load (v := (vI x0.n)) rfl) ?_)
  refine sx rfl (pMove (v := (vP b0)) rfl h0) ?_
  refine sx rfl (PureR.nilCheck _ _ rfl rfl) ?_
  refine SeqW.consX rfl (kField rfl Try.underlying53 rfl Try.type22 rfl rfl rfl ?_)
  refine SeqW.consX rfl (kLoad rfl Try.underlying22 rfl rfl (bx0.load (v := v0_0) rfl) ?_)
  refine sx rfl (pLenR (xs := x0.l) rfl Try.underlying22 rfl s0_0) ?_
  obtain ⟨y15, hy15, hr⟩ := bind_some hr
  refine SeqW.consX rfl (kQuo (k1 := .i64) (a := x0.n) (b := (x0.l.length : Int)) rfl rfl rfl hy15 ?_)
  refine sx rfl (pMul (k := .i64) (a := (IntKind.wrap .i64 (y15))) (b := 7919) rfl rfl rfl) ?_
  refine sx rfl (pAdd (k := .i64) (a := y9) (b := (IntKind.wrap .i64 ((IntKind.wrap .i64 (y15)) * 7919))) rfl rfl rfl) ?_
  obtain ⟨y16, hy16, hr⟩ := lt_some hr
  refine sx rfl (pAssign rfl (congrArg (Value.int .i64) hy16)) ?_
  refine SeqW.done fun fr17 hf18 => ?_
  have h0 := (congrFun hf18 0).trans h0
  have h5 : fr17 5 = (vI y16) := (congrFun hf18 5).trans rfl
  clear hf18
  obtain rfl := Option.some.inj hr
  exact ⟨z, hz, st, rfl, h5, bx0, trivial⟩
 ·refine W.condF h11 hc19 (W.skip ?_)
  obtain rfl := Option.some.inj hr
  exact ⟨z, hz, st, rfl, h5, bx0, trivial⟩

theorem u_Maker_Next_1 {N : Nat}  {z0 z : Nat → Blk} {e m : Mem} {k : Option Nat} {fr : Nat → Value} {x1 : Int} {x5 : Int} {x51 : Bool} {x0 : Maker} {v0_0 : Value} {b0 : Nat} (hz : Zx e.next z0 z) (st : St z e m k) (h0 : fr 0 = (vP b0)) (s0_0 : SlR (TInt 3 .i64) z x0.l v0_0) (bx0 : Bx z e m k b0 [v0_0, (vI x0.n)] 53) (h1 : fr 1 = (vI x1)) (h5 : fr 5 = (vI x5)) (h51 : fr 51 = (vB x51)) {r : Int} (hr : Maker_Next_1 N x1 x5 x51 = some r) : W Try.prog (sub (bodyOf Try.f19) [1, 1, 1, 1, 1, 0, 1]) (fun ex fr' m' => ∃ z', Zx e.next z0 z' ∧ St z' e m' k ∧ ex = AExit.normal ∧ fr' 5 = (vI r) ∧ Bx z' e m' k b0 [v0_0, (vI x0.n)] 53 ∧ True) fr m := by
 unfold Maker_Next_1 at hr
 rcases if_some hr with ⟨hc37, hr⟩ | ⟨hc41, hr⟩
 ·refine W.condT h51 hc37 (W.region ?_)
  refine sx rfl (pMove (v := (vI x5)) rfl h5) ?_
  refine sx rfl (pMove (v := (vI x1)) rfl h1) ?_
  refine sx rfl (pAdd (k := .i64) (a := x5) (b := x1) rfl rfl rfl) ?_
  obtain ⟨y38, hy38, hr⟩ := lt_some hr
  refine sx rfl (pAssign rfl (congrArg (Value.int .i64) hy38)) ?_
  refine SeqW.done fun fr39 hf40 => ?_
  have h0 := (congrFun hf40 0).trans h0
  have h5 : fr39 5 = (vI y38) := (congrFun hf40 5).trans rfl
  clear hf40
  obtain rfl := Option.some.inj hr
  exact ⟨z, hz, st, rfl, h5, bx0, trivial⟩
 ·refine W.condF h51 hc41 (W.skip ?_)
  obtain rfl := Option.some.inj hr
  exact ⟨z, hz, st, rfl, h5, bx0, trivial⟩

theorem u_Maker_Next {N : Nat}  {z0 z : Nat → Blk} {e m : Mem} {k : Option Nat} {fr : Nat → Value} {x0 : Maker} {x1 : Int} {v0_0 : Value} {b0 : Nat} (hz : Zx e.next z0 z) (st : St z e m k) (h0 : fr 0 = (vP b0)) (s0_0 : SlR (TInt 3 .i64) z x0.l v0_0) (bx0 : Bx z e m k b0 [v0_0, (vI x0.n)] 53) (h1 : fr 1 = (vI x1)) {r : Int × Maker} (hr : Maker_Next N x0 x1 = some r) : W Try.prog (sub (bodyOf Try.f19) []) (fun ex fr' m' => ∃ z', Zx e.next z0 z' ∧ St z' e m' k ∧ (ex = .normal ∨ ex = .ret) ∧ ∃ (wr_0 : Value), fr' 4 = (vI r.1) ∧ SlR (TInt 3 .i64) z' r.2.l wr_0 ∧ Bx z' e m' k b0 [wr_0, (vI r.2.n)] 53 ∧ True) fr m := by
 unfold Maker_Next at hr
 refine W.seq (W.region ?_)
 refine sx rfl (pAssign (v := (vI 0)) rfl rfl) ?_
 refine SeqW.done fun fr1 hf2 => ?_
 have h0 := (congrFun hf2 0).trans h0
 have h1 := (congrFun hf2 1).trans h1
 clear hf2
 refine thenQ.n (W.seq (W.region ?_))
 refine sx rfl (pAssign (v := (vI 0)) rfl rfl) ?_
 refine SeqW.done fun fr3 hf4 => ?_
 have h0 := (congrFun hf4 0).trans h0
 have h1 := (congrFun hf4 1).trans h1
 have h5 : fr3 5 = (vI 0) := (congrFun hf4 5).trans rfl
 clear hf4
 refine thenQ.n (W.seq ?_)
 refine W.seq (W.region ?_)
 refine sx rfl (pMove (v := (vP b0)) rfl h0) ?_
 refine sx rfl (PureR.nilCheck _ _ rfl rfl) ?_
 refine SeqW.consX rfl (kField rfl Try.underlying53 rfl Try.type22 rfl rfl rfl ?_)
 refine SeqW.consX rfl (kLoad rfl Try.underlying22 rfl rfl (bx0.load (v := v0_0) rfl) ?_)
 refine sx rfl (pLenR (xs := x0.l) rfl Try.underlying22 rfl s0_0) ?_
 refine sx rfl (pGtr (k := .i64) (a := (x0.l.length : Int)) (b := 0) rfl rfl rfl) ?_
 refine SeqW.done fun fr5 hf6 => ?_
 have h0 := (congrFun hf6 0).trans h0
 have h1 := (congrFun hf6 1).trans h1
 have h5 := (congrFun hf6 5).trans h5
 have h11 : fr5 11 = (vB (decide (0 < (x0.l.length : Int)))) := (congrFun hf6 11).trans rfl
 clear hf6
 refine thenQ.n ?_
 obtain ⟨y20, hy20, hr⟩ := bind_some hr
 refine W.keep (u_Maker_Next_0 (x0 := x0) (Zx.refl _) st h0 s0_0 bx0 h5 h11 hy20) ?_
 rintro ex26 fr21 m22 hk24 ⟨z23, hz25, st, rfl, h5, O27, -⟩
 replace s0_0 := s0_0.mono hz25.le
 have h0 := (hk24 0 rfl).trans h0
 have h1 := (hk24 1 rfl).trans h1
 replace hz := hz.trans hz25
 clear hk24
 refine thenQ.n (W.seq (W.region ?_))
 refine sx rfl (pMove (v := (vP b0)) rfl h0) ?_
 refine sx rfl (PureR.nilCheck _ _ rfl rfl) ?_
 refine SeqW.consX rfl (kField rfl Try.underlying53 rfl Try.type3 rfl rfl rfl ?_)
 refine SeqW.consX rfl (kLoad rfl Try.underlying3 rfl rfl (O27.load (v := (vI x0.n)) rfl) ?_)
 refine sx rfl (pAdd (k := .i64) (a := x0.n) (b := 1) rfl rfl rfl) ?_
 refine sx rfl (PureR.nilCheck _ _ rfl rfl) ?_
 refine SeqW.consX rfl (kField rfl Try.underlying53 rfl Try.type3 rfl rfl rfl ?_)
 refine SeqW.consX rfl (kPut (off := 1) (w := (vI (IntKind.wrap .i64 (x0.n + 1)))) (new := [(vI (IntKind.wrap .i64 (x0.n + 1)))]) rfl Try.type3 rfl rfl rfl rfl rfl O27 rfl [v0_0, (vI (IntKind.wrap .i64 (x0.n + 1)))] rfl st ?_)
 intro m28 st O27 sm29
 refine SeqW.done fun fr30 hf31 => ?_
 have h0 := (congrFun hf31 0).trans h0
 have h1 := (congrFun hf31 1).trans h1
 have h5 := (congrFun hf31 5).trans h5
 clear hf31
 refine thenQ.n (W.seq (W.region ?_))
 refine sx rfl (pMove (v := (vI y20)) rfl h5) ?_
 refine sx rfl (pMove (v := (vI x1)) rfl h1) ?_
 obtain ⟨y32, hy32, hr⟩ := bind_some hr
 refine SeqW.consX rfl (kRem (k1 := .i64) (a := y20) (b := x1) rfl rfl rfl hy32 ?_)
 refine sx rfl (pAssign (v := (vI y32)) rfl rfl) ?_
 refine SeqW.done fun fr33 hf34 => ?_
 have h0 := (congrFun hf34 0).trans h0
 have h1 := (congrFun hf34 1).trans h1
 have h5 : fr33 5 = (vI y32) := (congrFun hf34 5).trans rfl
 clear hf34
 refine thenQ.n (W.seq ?_)
 refine W.seq (W.region ?_)
 refine sx rfl (pMove (v := (vI y32)) rfl h5) ?_
 refine sx rfl (pLss (k := .i64) (a := y32) (b := 0) rfl rfl rfl) ?_
 refine SeqW.done fun fr35 hf36 => ?_
 have h0 := (congrFun hf36 0).trans h0
 have h1 := (congrFun hf36 1).trans h1
 have h5 := (congrFun hf36 5).trans h5
 have h51 : fr35 51 = (vB (decide (y32 < 0))) := (congrFun hf36 51).trans rfl
 clear hf36
 refine thenQ.n ?_
 obtain ⟨y42, hy42, hr⟩ := bind_some hr
 refine W.keep (u_Maker_Next_1 (x0 := (Maker.mk x0.l (IntKind.wrap .i64 (x0.n + 1)))) (Zx.refl _) st h0 s0_0 O27 h1 h5 h51 hy42) ?_
 rintro ex48 fr43 m44 hk46 ⟨z45, hz47, st, rfl, h5, O49, -⟩
 replace s0_0 := s0_0.mono hz47.le
 have h0 := (hk46 0 rfl).trans h0
 replace hz := hz.trans hz47
 clear hk46
 refine thenQ.n (W.seq (W.region ?_))
 refine sx rfl (pMove (v := (vI y42)) rfl h5) ?_
 refine sx rfl (pAssign (v := (vI y42)) rfl rfl) ?_
 refine SeqW.done fun fr50 hf51 => ?_
 have h0 := (congrFun hf51 0).trans h0
 have h4 : fr50 4 = (vI y42) := (congrFun hf51 4).trans rfl
 clear hf51
 refine thenQ.n ?_
 refine W.ret ?_
 obtain rfl := Option.some.inj hr
 exact ⟨z45, hz, st, .inr rfl, v0_0, h4, s0_0, O49, trivial⟩

theorem c_Maker_Next {N : Nat} {z : Nat → Blk} {m : Mem} {x0 : Maker} {x1 : Int} {v0_0 : Value} {b0 : Nat} (fz : Fz z m) (hd : ∀ b, m.next ≤ b → m.blk b = .dead) (s0_0 : SlR (TInt 3 .i64) z x0.l v0_0) (bx0 : Bx z m m (some b0) b0 [v0_0, (vI x0.n)] 53) {r : Int × Maker} (hr : Maker_Next N x0 x1 = some r) : CallW Try.prog 19 #[(vP b0), (vI x1)] m fun v m' => ∃ z' wr_0, Zx m.next z z' ∧ Fz z' m' ∧ Same m m' (some b0) ∧ v = (vI r.1) ∧ SlR (TInt 3 .i64) z' r.2.l wr_0 ∧ Bx z' m m' (some b0) b0 [wr_0, (vI r.2.n)] 53 ∧ True := by
 refine CallW.any Try.func19 rfl (by kernel_rfl) (Nat.le_of_ble_eq_true rfl) (fun fr hf => ?_)
 have h0 : fr 0 = _ := hf 0 _ rfl
 have h1 : fr 1 = _ := hf 1 _ rfl
 refine (u_Maker_Next (k := (some b0)) (Zx.refl _) (St.start fz hd) h0 s0_0 bx0 h1 hr).mono ?_
 rintro ex fr' m' ⟨z', hz, st, he, wr_0, h4, sr_0, bxr, -⟩
 exact ⟨he, [(vI r.1)], ⟨h4.symm, trivial⟩, .inl rfl, z', wr_0, hz, st.fz, st.toSame, rfl, sr_0, bxr, trivial⟩

/-! ### (*humpyard/humpgen.Maker).Digits -/

theorem u_Maker_Digits_0 : ∀ (n : Nat) {N : Nat}  {z0 z : Nat → Blk} {e m : Mem} {k : Option Nat} {fr : Nat → Value} {x0 : Maker} {x1 : Int} {x5 : List UInt8} {x6 : Int} {v0_0 : Value} {b0 : Nat} {v5 : Value} (hz : Zx e.next z0 z) (st : St z e m k) (h0 : fr 0 = (vP b0)) (s0_0 : SlR (TInt 3 .i64) z x0.l v0_0) (bx0 : Bx z e m k b0 [v0_0, (vI x0.n)] 53) (h1 : fr 1 = (vI x1)) (h5 : fr 5 = v5) (o5 : OwF (TU8 5) z e m k x5 v5) (h6 : fr 6 = (vI x6)) (ao0_o5 : Ap (some b0) (blkOf v5)) {r : Maker × List UInt8} (hr : Maker_Digits_0 N x1 n x0 x5 x6 = some r), W Try.prog (sub (bodyOf Try.f43) [1, 1, 0, 1, 0]) (fun ex fr' m' => ∃ z', Zx e.next z0 z' ∧ St z' e m' k ∧ ex = AExit.exit 0 ∧ ∃ (w0_0 : Value), fr' 0 = (vP b0) ∧ SlR (TInt 3 .i64) z' r.1.l w0_0 ∧ Bx z' e m' k b0 [w0_0, (vI r.1.n)] 53 ∧ fr' 5 = v5 ∧ OwF (TU8 5) z' e m' k r.2 v5 ∧ Ap (some b0) (blkOf v5) ∧ True) fr m := by
 intro n
 induction n with
 | zero => intro N z0 z e m k fr x0 x1 x5 x6 v0_0 b0 v5 hz st h0 s0_0 bx0 h1 h5 o5 h6 ao0_o5 r hr; cases (show (none : Option _) = some r from hr)
 | succ n ih =>
  intro N z0 z e m k fr x0 x1 x5 x6 v0_0 b0 v5 hz st h0 s0_0 bx0 h1 h5 o5 h6 ao0_o5 r hr
  unfold Maker_Digits_0 at hr
  refine W.loop1 ?_
  refine W.seq (W.seq (W.region ?_))
  refine sx rfl (pMove (v := (vI x6)) rfl h6) ?_
  refine sx rfl (pMove (v := (vI x1)) rfl h1) ?_
  refine sx rfl (pLss (k := .i64) (a := x6) (b := x1) rfl rfl rfl) ?_
  refine SeqW.done fun fr15 hf16 => ?_
  have h0 := (congrFun hf16 0).trans h0
  have h1 := (congrFun hf16 1).trans h1
  have h5 := (congrFun hf16 5).trans h5
  have h6 := (congrFun hf16 6).trans h6
  have h11 : fr15 11 = (vB (decide (x6 < x1))) := (congrFun hf16 11).trans rfl
  clear hf16
  refine thenQ.n ?_
  rcases if_some hr with ⟨hc17, hr⟩ | ⟨hc46, hr⟩
  ·refine W.condT h11 hc17 (W.skip ?_)
   refine thenQ.n (W.seq ?_)
   refine W.block ?_
   refine W.region ?_
   refine sx rfl (pMove (v := v5) rfl h5) ?_
   refine sx rfl (pMove (v := (vI x6)) rfl h6) ?_
   refine sx rfl (pMove (v := (vP b0)) rfl h0) ?_
   obtain ⟨y18, hy18, hr⟩ := bind_some hr
   refine SeqW.consX rfl (StepX.call (gCallee rfl rfl (args2 rfl rfl)) ((c_Maker_Next (x0 := x0) (z := z) st.fz st.dead s0_0 ⟨bx0.blk, bx0.lt, bx0.dead, .inr rfl⟩ hy18).mono ?_))
   rintro _ m23 ⟨z19, V24, hzx20, fz21, sm22, rfl, Q25, X27, -⟩
   replace s0_0 := s0_0.mono hzx20.le
   replace o5 := o5.call hzx20 sm22 (Ap.symm ao0_o5)
   have bx0n : Bx z19 e m23 k b0 _ _ := ⟨X27.blk, X27.lt, X27.dead, bx0.fresh⟩
   replace hz := hz.trans (Zx.here st hzx20)
   replace st := st.call hzx20 fz21 sm22 bx0.hq
   refine sx rfl (pAdd (k := .i64) (a := 48) (b := y18.1) rfl rfl rfl) ?_
   refine sx rfl (pConv (k := .i64) (a := (IntKind.wrap .i64 (48 + y18.1))) rfl Try.underlying3 Try.underlying5 rfl) ?_
   obtain ⟨y28, hy28, hr⟩ := bind_some hr
   refine SeqW.consX rfl (kIdxO (T := (TU8 5)) (xs := x5) (n := x6) rfl Try.underlying23 Try.type5 rfl rfl rfl o5 hy28 ?_)
   intro B29 l30 c31 cs32 hv33 hd34 hg35 hc36
   have hd340 := hd34
   obtain rfl := hd340
   obtain ⟨y39, hy39, hr⟩ := bind_some hr
   refine SeqW.consX rfl (kSet (T := (TU8 5)) (off := (x6 : Int).toNat * ((TU8 5)).sz) (n := (x6 : Int).toNat) (f := 0) (w := (Value.int .u8 (UInt8.toNat y39 : Int))) (new := [(Value.int .u8 (UInt8.toNat y39 : Int))]) (ecs := [(Value.int .u8 (UInt8.toNat y28 : Int))]) (ecs' := [(Value.int .u8 (UInt8.toNat y39 : Int))]) (a := y28) (a' := y39) rfl Try.type5 rfl rfl (by rw [← toU8_some hy39]; exact rfl) rfl rfl rfl o5 hv33 hg35 hd34 hc36 rfl rfl rfl st ?_)
   intro m37 st o5 sm38
   obtain ⟨y40, hy40, hr⟩ := lt_some hr
   rw [hy40] at o5
   replace bx0n := bx0n.same sm38 ao0_o5
   refine SeqW.done fun fr41 hf42 => ?_
   have h0 := (congrFun hf42 0).trans h0
   have h1 := (congrFun hf42 1).trans h1
   have h5 := (congrFun hf42 5).trans h5
   have h6 := (congrFun hf42 6).trans h6
   clear hf42
   refine blockQ.n ?_
   refine thenQ.n (W.region ?_)
   refine sx rfl (pMove (v := (vI x6)) rfl h6) ?_
   refine sx rfl (pAdd (k := .i64) (a := x6) (b := 1) rfl rfl rfl) ?_
   obtain ⟨y43, hy43, hr⟩ := lt_some hr
   refine sx rfl (pAssign rfl (congrArg (Value.int .i64) hy43)) ?_
   refine SeqW.done fun fr44 hf45 => ?_
   have h0 := (congrFun hf45 0).trans h0
   have h1 := (congrFun hf45 1).trans h1
   have h5 := (congrFun hf45 5).trans h5
   have h6 : fr44 6 = (vI y43) := (congrFun hf45 6).trans rfl
   clear hf45
   refine thenQ.n ?_
   exact ih (x0 := y18.2) hz st h0 Q25 bx0n h1 h5 o5 h6 ao0_o5 hr
  ·refine W.condF h11 hc46 ?_
   refine W.exit ?_
   refine thenQ.x ?_
   refine thenQ.x ?_
   obtain rfl := Option.some.inj hr
   exact ⟨z, hz, st, rfl, v0_0, h0, s0_0, bx0, h5, o5, ao0_o5, trivial⟩

theorem u_Maker_Digits {N : Nat}  {z0 z : Nat → Blk} {e m : Mem} {k : Option Nat} {fr : Nat → Value} {x0 : Maker} {x1 : Int} {v0_0 : Value} {b0 : Nat} (hz : Zx e.next z0 z) (st : St z e m k) (h0 : fr 0 = (vP b0)) (s0_0 : SlR (TInt 3 .i64) z x0.l v0_0) (bx0 : Bx z e m k b0 [v0_0, (vI x0.n)] 53) (h1 : fr 1 = (vI x1)) {r : List UInt8 × Maker} (hr : Maker_Digits N x0 x1 = some r) : W Try.prog (sub (bodyOf Try.f43) []) (fun ex fr' m' => ∃ z', Zx e.next z0 z' ∧ St z' e m' k ∧ (ex = .normal ∨ ex = .ret) ∧ ∃ (wr_0 : Value), fr' 4 = (str r.1) ∧ SlR (TInt 3 .i64) z' r.2.l wr_0 ∧ Bx z' e m' k b0 [wr_0, (vI r.2.n)] 53 ∧ True) fr m := by
 unfold Maker_Digits at hr
 refine W.seq (W.region ?_)
 refine sx rfl (pAssign (v := (str [])) rfl rfl) ?_
 refine SeqW.done fun fr1 hf2 => ?_
 have h0 := (congrFun hf2 0).trans h0
 have h1 := (congrFun hf2 1).trans h1
 clear hf2
 refine thenQ.n (W.seq (W.region ?_))
 refine sx rfl (pMove (v := (vI x1)) rfl h1) ?_
 obtain ⟨y3, hy3, hr⟩ := bind_some hr
 refine SeqW.consX rfl (kMake (T := (TU8 5)) (x0 := 0) (n := x1) rfl Try.underlying23 Try.type5 rfl rfl rfl rfl rfl rfl rfl rfl st hy3 ?_)
 intro V4 m5 st O6 sm7 hap8
 have A10 := hap8 _ bx0.lt'
 replace bx0 := bx0.same sm7 Ap.none'
 refine sx rfl (pAssign (v := V4) rfl rfl) ?_
 refine SeqW.done fun fr11 hf12 => ?_
 have h0 := (congrFun hf12 0).trans h0
 have h1 := (congrFun hf12 1).trans h1
 have h5 : fr11 5 = V4 := (congrFun hf12 5).trans rfl
 clear hf12
 refine thenQ.n (W.seq ?_)
 refine W.seq (W.region ?_)
 refine sx rfl (pAssign (v := (vI 0)) rfl rfl) ?_
 refine SeqW.done fun fr13 hf14 => ?_
 have h0 := (congrFun hf14 0).trans h0
 have h1 := (congrFun hf14 1).trans h1
 have h5 := (congrFun hf14 5).trans h5
 have h6 : fr13 6 = (vI 0) := (congrFun hf14 6).trans rfl
 clear hf14
 refine thenQ.n ?_
 refine W.block ?_
 obtain ⟨y47, hy47, hr⟩ := bind_some hr
 refine W.keep (u_Maker_Digits_0 (x0 := x0) _ (Zx.refl _) st h0 s0_0 bx0 h1 h5 O6 h6 A10 hy47) ?_
 rintro ex53 fr48 m49 hk51 ⟨z50, hz52, st, rfl, w54, h0, Q56, X58, h5, O60, A61, -⟩
 replace hz := hz.trans hz52
 clear hk51
 refine blockQ.hit ?_
 refine thenQ.n (W.seq (W.region ?_))
 refine sx rfl (pMove (v := V4) rfl h5) ?_
 refine SeqW.consX rfl (kStrO (s := y47.2) rfl Try.underlying23 Try.underlying5 Try.underlying9 rfl O60 ?_)
 refine sx rfl (pAssign (v := (str y47.2)) rfl rfl) ?_
 refine SeqW.done fun fr62 hf63 => ?_
 have h0 := (congrFun hf63 0).trans h0
 have h4 : fr62 4 = (str y47.2) := (congrFun hf63 4).trans rfl
 clear hf63
 refine thenQ.n ?_
 refine W.ret ?_
 obtain rfl := Option.some.inj hr
 exact ⟨z50, hz, st, .inr rfl, w54, h4, Q56, X58, trivial⟩

theorem c_Maker_Digits {N : Nat} {z : Nat → Blk} {m : Mem} {x0 : Maker} {x1 : Int} {v0_0 : Value} {b0 : Nat} (fz : Fz z m) (hd : ∀ b, m.next ≤ b → m.blk b = .dead) (s0_0 : SlR (TInt 3 .i64) z x0.l v0_0) (bx0 : Bx z m m (some b0) b0 [v0_0, (vI x0.n)] 53) {r : List UInt8 × Maker} (hr : Maker_Digits N x0 x1 = some r) : CallW Try.prog 43 #[(vP b0), (vI x1)] m fun v m' => ∃ z' wr_0, Zx m.next z z' ∧ Fz z' m' ∧ Same m m' (some b0) ∧ v = (str r.1) ∧ SlR (TInt 3 .i64) z' r.2.l wr_0 ∧ Bx z' m m' (some b0) b0 [wr_0, (vI r.2.n)] 53 ∧ True := by
 refine CallW.any Try.func43 rfl (by kernel_rfl) (Nat.le_of_ble_eq_true rfl) (fun fr hf => ?_)
 have h0 : fr 0 = _ := hf 0 _ rfl
 have h1 : fr 1 = _ := hf 1 _ rfl
 refine (u_Maker_Digits (k := (some b0)) (Zx.refl _) (St.start fz hd) h0 s0_0 bx0 h1 hr).mono ?_
 rintro ex fr' m' ⟨z', hz, st, he, wr_0, h4, sr_0, bxr, -⟩
 exact ⟨he, [(str r.1)], ⟨h4.symm, trivial⟩, .inl rfl, z', wr_0, hz, st.fz, st.toSame, rfl, sr_0, bxr, trivial⟩

/-! ### humpyard/humpyardref02.digits -/

theorem u_r02_digits_1 {N : Nat}  {z0 z : Nat → Blk} {e m : Mem} {k : Option Nat} {fr : Nat → Value} {x0 : List UInt8} {x5 : Int} (hz : Zx e.next z0 z) (st : St z e m k) (h0 : fr 0 = (str x0)) (h5 : fr 5 = (vI x5)) {r : Bool} (hr : r02_digits_1 N x0 x5 = some r) : W Try.prog (sub (bodyOf Try.f51) [1, 1, 0, 1, 0, 0, 1, 0, 0, 0]) (fun ex fr' m' => ∃ z', Zx e.next z0 z' ∧ St z' e m' k ∧ ex = AExit.normal ∧ fr' 24 = (vB r) ∧ True) fr m := by
 unfold r02_digits_1 at hr
 refine W.region ?_
 refine sx rfl (pMove (v := (str x0)) rfl h0) ?_
 refine sx rfl (pMove (v := (vI x5)) rfl h5) ?_
 obtain ⟨y14, hy14, hr⟩ := bind_some hr
 refine SeqW.consX rfl (kIndexS (s := x0) (n := x5) rfl Try.underlying9 rfl rfl hy14 ?_)
 refine sx rfl (pLss (k := .u8) (a := (UInt8.toNat y14 : Int)) (b := 48) rfl rfl rfl) ?_
 refine sx rfl (pMove (v := (vB (decide ((UInt8.toNat y14 : Int) < 48)))) rfl rfl) ?_
 rcases if_some hr with ⟨hc15, hr⟩ | ⟨hc18, hr⟩
 ·refine kx rfl rfl rfl hc15 ?_
  iterate 3 refine kx rfl rfl rfl hc15 ?_
  refine sx rfl (pPick (t := true) (v := (vB true)) rfl ((congrArg vB hc15)) rfl) ?_
  refine SeqW.done fun fr16 hf17 => ?_
  have h0 := (congrFun hf17 0).trans h0
  have h5 := (congrFun hf17 5).trans h5
  have h24 : fr16 24 = (vB true) := (congrFun hf17 24).trans rfl
  clear hf17
  obtain rfl := Option.some.inj hr
  exact ⟨z, hz, st, rfl, h24, trivial⟩
 ·refine SeqW.consG rfl rfl rfl hc18 (StepX.pure (pMove (v := (str x0)) rfl h0) ?_)
  refine SeqW.consG rfl rfl rfl hc18 (StepX.pure (pMove (v := (vI x5)) rfl h5) ?_)
  obtain ⟨y19, hy19, hr⟩ := bind_some hr
  refine SeqW.consG rfl rfl rfl hc18 (kIndexS (s := x0) (n := x5) rfl Try.underlying9 rfl rfl hy19 ?_)
  refine SeqW.consG rfl rfl rfl hc18 (StepX.pure (pGtr (k := .u8) (a := (UInt8.toNat y19 : Int)) (b := 57) rfl rfl rfl) ?_)
  refine sx rfl (pPick (t := false) (v := (vB (decide (57 < (UInt8.toNat y19 : Int))))) rfl ((congrArg vB hc18)) rfl) ?_
  refine SeqW.done fun fr20 hf21 => ?_
  have h0 := (congrFun hf21 0).trans h0
  have h5 := (congrFun hf21 5).trans h5
  have h24 : fr20 24 = (vB (decide (57 < (UInt8.toNat y19 : Int)))) := (congrFun hf21 24).trans rfl
  clear hf21
  obtain rfl := Option.some.inj hr
  exact ⟨z, hz, st, rfl, h24, trivial⟩

theorem u_r02_digits_0 : ∀ (n : Nat) {N : Nat}  {z0 z : Nat → Blk} {e m : Mem} {k : Option Nat} {fr : Nat → Value} {x0 : List UInt8} {x1 : Int} {x5 : Int} (hz : Zx e.next z0 z) (st : St z e m k) (h0 : fr 0 = (str x0)) (h1 : fr 1 = (vI x1)) (h5 : fr 5 = (vI x5)) {r : Sum (Unit) (Bool)} (hr : r02_digits_0 N x0 x1 n x5 = some r), W Try.prog (sub (bodyOf Try.f51) [1, 1, 0, 1, 0]) (fun ex fr' m' => ∃ z', Zx e.next z0 z' ∧ St z' e m' k ∧ ((∃ q, r = Sum.inl q ∧ ex = AExit.exit 0 ∧ True) ∨ (∃ q, r = Sum.inr q ∧ ex = AExit.ret ∧ fr' 4 = (vB q) ∧ True))) fr m := by
 intro n
 induction n with
 | zero => intro N z0 z e m k fr x0 x1 x5 hz st h0 h1 h5 r hr; cases (show (none : Option _) = some r from hr)
 | succ n ih =>
  intro N z0 z e m k fr x0 x1 x5 hz st h0 h1 h5 r hr
  unfold r02_digits_0 at hr
  refine W.loop1 ?_
  refine W.seq (W.seq (W.region ?_))
  refine sx rfl (pMove (v := (vI x5)) rfl h5) ?_
  refine sx rfl (pMove (v := (vI x1)) rfl h1) ?_
  refine sx rfl (pLss (k := .i64) (a := x5) (b := x1) rfl rfl rfl) ?_
  refine SeqW.done fun fr11 hf12 => ?_
  have h0 := (congrFun hf12 0).trans h0
  have h1 := (congrFun hf12 1).trans h1
  have h5 := (congrFun hf12 5).trans h5
  have h12 : fr11 12 = (vB (decide (x5 < x1))) := (congrFun hf12 12).trans rfl
  clear hf12
  refine thenQ.n ?_
  rcases if_some hr with ⟨hc13, hr⟩ | ⟨hc36, hr⟩
  ·refine W.condT h12 hc13 (W.skip ?_)
   refine thenQ.n (W.seq ?_)
   refine W.block ?_
   refine W.seq ?_
   obtain ⟨y22, hy22, hr⟩ := bind_some hr
   refine W.keep (u_r02_digits_1 (Zx.refl _) st h0 h5 hy22) ?_
   rintro ex28 fr23 m24 hk26 ⟨z25, hz27, st, rfl, h24, -⟩
   have h0 := (hk26 0 rfl).trans h0
   have h1 := (hk26 1 rfl).trans h1
   have h5 := (hk26 5 rfl).trans h5
   replace hz := hz.trans hz27
   clear hk26
   refine thenQ.n ?_
   rcases if_some hr with ⟨hc29, hr⟩ | ⟨hc32, hr⟩
   ·refine W.condT h24 hc29 (W.seq (W.region ?_))
    refine sx rfl (pAssign (v := (vB false)) rfl rfl) ?_
    refine SeqW.done fun fr30 hf31 => ?_
    have h4 : fr30 4 = (vB false) := (congrFun hf31 4).trans rfl
    clear hf31
    refine thenQ.n ?_
    refine W.ret ?_
    refine blockQ.r ?_
    refine thenQ.r ?_
    refine thenQ.r ?_
    obtain rfl := Option.some.inj hr
    exact ⟨z25, hz, st, .inr ⟨_, rfl, rfl, h4, trivial⟩⟩
   ·refine W.condF h24 hc32 (W.skip ?_)
    refine blockQ.n ?_
    refine thenQ.n (W.region ?_)
    refine sx rfl (pMove (v := (vI x5)) rfl h5) ?_
    refine sx rfl (pAdd (k := .i64) (a := x5) (b := 1) rfl rfl rfl) ?_
    obtain ⟨y33, hy33, hr⟩ := lt_some hr
    refine sx rfl (pAssign rfl (congrArg (Value.int .i64) hy33)) ?_
    refine SeqW.done fun fr34 hf35 => ?_
    have h0 := (congrFun hf35 0).trans h0
    have h1 := (congrFun hf35 1).trans h1
    have h5 : fr34 5 = (vI y33) := (congrFun hf35 5).trans rfl
    clear hf35
    refine thenQ.n ?_
    exact ih hz st h0 h1 h5 hr
  ·refine W.condF h12 hc36 ?_
   refine W.exit ?_
   refine thenQ.x ?_
   refine thenQ.x ?_
   obtain rfl := Option.some.inj hr
   exact ⟨z, hz, st, .inl ⟨_, rfl, rfl, trivial⟩⟩

theorem u_r02_digits {N : Nat}  {z0 z : Nat → Blk} {e m : Mem} {k : Option Nat} {fr : Nat → Value} {x0 : List UInt8} {x1 : Int} (hz : Zx e.next z0 z) (st : St z e m k) (h0 : fr 0 = (str x0)) (h1 : fr 1 = (vI x1)) {r : Bool} (hr : r02_digits N x0 x1 = some r) : W Try.prog (sub (bodyOf Try.f51) []) (fun ex fr' m' => ∃ z', Zx e.next z0 z' ∧ St z' e m' k ∧ (ex = .normal ∨ ex = .ret) ∧ fr' 4 = (vB r) ∧ True) fr m := by
 unfold r02_digits at hr
 refine W.seq (W.region ?_)
 refine sx rfl (pAssign (v := (vB false)) rfl rfl) ?_
 refine SeqW.done fun fr1 hf2 => ?_
 have h0 := (congrFun hf2 0).trans h0
 have h1 := (congrFun hf2 1).trans h1
 clear hf2
 refine thenQ.n (W.seq ?_)
 refine W.seq (W.region ?_)
 refine sx rfl (pMove (v := (str x0)) rfl h0) ?_
 refine sx rfl (pLenS (s := x0) rfl rfl Try.underlying9 rfl) ?_
 refine sx rfl (pMove (v := (vI x1)) rfl h1) ?_
 refine sx rfl (pNeq (k := .i64) (a := (x0.length : Int)) (b := x1) rfl rfl rfl) ?_
 refine SeqW.done fun fr3 hf4 => ?_
 have h0 := (congrFun hf4 0).trans h0
 have h1 := (congrFun hf4 1).trans h1
 have h9 : fr3 9 = (vB ((x0.length : Int) != x1)) := (congrFun hf4 9).trans rfl
 clear hf4
 refine thenQ.n ?_
 rcases if_some hr with ⟨hc5, hr⟩ | ⟨hc8, hr⟩
 ·refine W.condT h9 hc5 (W.seq (W.region ?_))
  refine sx rfl (pAssign (v := (vB false)) rfl rfl) ?_
  refine SeqW.done fun fr6 hf7 => ?_
  have h4 : fr6 4 = (vB false) := (congrFun hf7 4).trans rfl
  clear hf7
  refine thenQ.n ?_
  refine W.ret ?_
  refine thenQ.r ?_
  obtain rfl := Option.some.inj hr
  exact ⟨z, hz, st, .inr rfl, h4, trivial⟩
 ·refine W.condF h9 hc8 (W.skip ?_)
  refine thenQ.n (W.seq ?_)
  refine W.seq (W.region ?_)
  refine sx rfl (pAssign (v := (vI 0)) rfl rfl) ?_
  refine SeqW.done fun fr9 hf10 => ?_
  have h0 := (congrFun hf10 0).trans h0
  have h1 := (congrFun hf10 1).trans h1
  have h5 : fr9 5 = (vI 0) := (congrFun hf10 5).trans rfl
  clear hf10
  refine thenQ.n ?_
  refine W.block ?_
  obtain ⟨y37, hy37, hr⟩ := bind_some hr
  refine W.keep (u_r02_digits_0 _ (Zx.refl _) st h0 h1 h5 hy37) ?_
  rintro ex43 fr38 m39 hk41 ⟨z40, hz42, st, ⟨y44, rfl, rfl, -⟩ | ⟨y47, rfl, rfl, h4, -⟩⟩
  ·dsimp only at hr
   replace hz := hz.trans hz42
   clear hk41
   refine blockQ.hit ?_
   refine thenQ.n (W.seq (W.region ?_))
   refine sx rfl (pAssign (v := (vB true)) rfl rfl) ?_
   refine SeqW.done fun fr45 hf46 => ?_
   have h4 : fr45 4 = (vB true) := (congrFun hf46 4).trans rfl
   clear hf46
   refine thenQ.n ?_
   refine W.ret ?_
   obtain rfl := Option.some.inj hr
   exact ⟨z40, hz, st, .inr rfl, h4, trivial⟩
  ·dsimp only at hr
   replace hz := hz.trans hz42
   clear hk41
   refine blockQ.r ?_
   refine thenQ.r ?_
   obtain rfl := Option.some.inj hr
   exact ⟨z40, hz, st, .inr rfl, h4, trivial⟩

theorem c_r02_digits {N : Nat} {z : Nat → Blk} {m : Mem} {x0 : List UInt8} {x1 : Int} (fz : Fz z m) (hd : ∀ b, m.next ≤ b → m.blk b = .dead)  {r : Bool} (hr : r02_digits N x0 x1 = some r) : CallW Try.prog 51 #[(str x0), (vI x1)] m fun v m' => v = (vB r) ∧ m' = m := by
 refine CallW.flat Try.func51 rfl (by kernel_rfl) (Nat.le_of_ble_eq_true rfl) rfl (z := z) (fun fr hf => ?_)
 have h0 : fr 0 = _ := hf 0 _ rfl
 have h1 : fr 1 = _ := hf 1 _ rfl
 refine (u_r02_digits (k := none) (Zx.refl _) (St.start fz hd) h0 h1 hr).mono ?_
 rintro ex fr' m' ⟨z', hz, st, he, h4, -⟩
 exact ⟨he, z', st, [(vB r)], ⟨h4.symm, trivial⟩, .inl rfl, rfl⟩

/-! ### humpyard/humpyardref02.sum -/

theorem u_r02_sum_1 {N : Nat}  {z0 z : Nat → Blk} {e m : Mem} {k : Option Nat} {fr : Nat → Value} {x7 : Int} {x20 : Bool} (hz : Zx e.next z0 z) (st : St z e m k) (h7 : fr 7 = (vI x7)) (h20 : fr 20 = (vB x20)) {r : Int} (hr : r02_sum_1 N x7 x20 = some r) : W Try.prog (sub (bodyOf Try.f52) [1, 1, 0, 1, 0, 0, 1, 0, 0, 1, 0, 1]) (fun ex fr' m' => ∃ z', Zx e.next z0 z' ∧ St z' e m' k ∧ ex = AExit.normal ∧ fr' 7 = (vI r) ∧ True) fr m := by
 unfold r02_sum_1 at hr
 rcases if_some hr with ⟨hc16, hr⟩ | ⟨hc27, hr⟩
 ·refine W.condT h20 hc16 (W.seq (W.region ?_))
  refine sx rfl (pMove (v := (vI x7)) rfl h7) ?_
  refine sx rfl (pMul (k := .i64) (a := x7) (b := 2) rfl rfl rfl) ?_
  obtain ⟨y17, hy17, hr⟩ := lt_some hr
  refine sx rfl (pAssign rfl (congrArg (Value.int .i64) hy17)) ?_
  refine SeqW.done fun fr18 hf19 => ?_
  have h7 : fr18 7 = (vI y17) := (congrFun hf19 7).trans rfl
  clear hf19
  refine thenQ.n (W.seq (W.region ?_))
  refine sx rfl (pMove (v := (vI y17)) rfl h7) ?_
  refine sx rfl (pGtr (k := .i64) (a := y17) (b := 9) rfl rfl rfl) ?_
  refine SeqW.done fun fr20 hf21 => ?_
  have h7 := (congrFun hf21 7).trans h7
  have h24 : fr20 24 = (vB (decide (9 < y17))) := (congrFun hf21 24).trans rfl
  clear hf21
  refine thenQ.n ?_
  rcases if_some hr with ⟨hc22, hr⟩ | ⟨hc26, hr⟩
  ·refine W.condT h24 hc22 (W.region ?_)
   refine sx rfl (pMove (v := (vI y17)) rfl h7) ?_
   refine sx rfl (pSub (k := .i64) (a := y17) (b := 9) rfl rfl rfl) ?_
   obtain ⟨y23, hy23, hr⟩ := lt_some hr
   refine sx rfl (pAssign rfl (congrArg (Value.int .i64) hy23)) ?_
   refine SeqW.done fun fr24 hf25 => ?_
   have h7 : fr24 7 = (vI y23) := (congrFun hf25 7).trans rfl
   clear hf25
   obtain rfl := Option.some.inj hr
   exact ⟨z, hz, st, rfl, h7, trivial⟩
  ·refine W.condF h24 hc26 (W.skip ?_)
   obtain rfl := Option.some.inj hr
   exact ⟨z, hz, st, rfl, h7, trivial⟩
 ·refine W.condF h20 hc27 (W.skip ?_)
  obtain rfl := Option.some.inj hr
  exact ⟨z, hz, st, rfl, h7, trivial⟩

theorem u_r02_sum_0 : ∀ (n : Nat) {N : Nat}  {z0 z : Nat → Blk} {e m : Mem} {k : Option Nat} {fr : Nat → Value} {x0 : List UInt8} {x1 : Int} {x5 : Int} {x6 : Int} (hz : Zx e.next z0 z) (st : St z e m k) (h0 : fr 0 = (str x0)) (h1 : fr 1 = (vI x1)) (h5 : fr 5 = (vI x5)) (h6 : fr 6 = (vI x6)) {r : Int} (hr : r02_sum_0 N x0 x1 n x5 x6 = some r), W Try.prog (sub (bodyOf Try.f52) [1, 1, 0, 1, 0]) (fun ex fr' m' => ∃ z', Zx e.next z0 z' ∧ St z' e m' k ∧ ex = AExit.exit 0 ∧ fr' 5 = (vI r) ∧ True) fr m := by
 intro n
 induction n with
 | zero => intro N z0 z e m k fr x0 x1 x5 x6 hz st h0 h1 h5 h6 r hr; cases (show (none : Option _) = some r from hr)
 | succ n ih =>
  intro N z0 z e m k fr x0 x1 x5 x6 hz st h0 h1 h5 h6 r hr
  unfold r02_sum_0 at hr
  refine W.loop1 ?_
  refine W.seq (W.seq (W.region ?_))
  refine sx rfl (pMove (v := (vI x6)) rfl h6) ?_
  refine sx rfl (pMove (v := (vI x1)) rfl h1) ?_
  refine sx rfl (pLss (k := .i64) (a := x6) (b := x1) rfl rfl rfl) ?_
  refine SeqW.done fun fr7 hf8 => ?_
  have h0 := (congrFun hf8 0).trans h0
  have h1 := (congrFun hf8 1).trans h1
  have h5 := (congrFun hf8 5).trans h5
  have h6 := (congrFun hf8 6).trans h6
  have h10 : fr7 10 = (vB (decide (x6 < x1))) := (congrFun hf8 10).trans rfl
  clear hf8
  refine thenQ.n ?_
  rcases if_some hr with ⟨hc9, hr⟩ | ⟨hc41, hr⟩
  ·refine W.condT h10 hc9 (W.skip ?_)
   refine thenQ.n (W.seq ?_)
   refine W.block ?_
   refine W.seq (W.region ?_)
   refine sx rfl (pMove (v := (str x0)) rfl h0) ?_
   refine sx rfl (pMove (v := (vI x6)) rfl h6) ?_
   obtain ⟨y10, hy10, hr⟩ := bind_some hr
   refine SeqW.consX rfl (kIndexS (s := x0) (n := x6) rfl Try.underlying9 rfl rfl hy10 ?_)
   refine sx rfl (pSub (k := .u8) (a := (UInt8.toNat y10 : Int)) (b := 48) rfl rfl rfl) ?_
   refine sx rfl (pConv (k := .u8) (a := (IntKind.wrap .u8 ((UInt8.toNat y10 : Int) - 48))) rfl Try.underlying5 Try.underlying3 rfl) ?_
   obtain ⟨y11, hy11, hr⟩ := lt_some hr
   refine sx rfl (pAssign rfl (congrArg (Value.int .i64) hy11)) ?_
   refine SeqW.done fun fr12 hf13 => ?_
   have h0 := (congrFun hf13 0).trans h0
   have h1 := (congrFun hf13 1).trans h1
   have h5 := (congrFun hf13 5).trans h5
   have h6 := (congrFun hf13 6).trans h6
   have h7 : fr12 7 = (vI y11) := (congrFun hf13 7).trans rfl
   clear hf13
   refine thenQ.n (W.seq ?_)
   refine W.seq (W.region ?_)
   refine sx rfl (pMove (v := (vI x6)) rfl h6) ?_
   refine sx rfl (pRem (k := .i64) (a := x6) (b := 2) rfl rfl rfl (by decide)) ?_
   refine sx rfl (pEql (k := .i64) (a := (Int.tmod x6 2)) (b := 0) rfl rfl rfl) ?_
   refine SeqW.done fun fr14 hf15 => ?_
   have h0 := (congrFun hf15 0).trans h0
   have h1 := (congrFun hf15 1).trans h1
   have h5 := (congrFun hf15 5).trans h5
   have h6 := (congrFun hf15 6).trans h6
   have h7 := (congrFun hf15 7).trans h7
   have h20 : fr14 20 = (vB ((Int.tmod x6 2) == 0)) := (congrFun hf15 20).trans rfl
   clear hf15
   refine thenQ.n ?_
   obtain ⟨y28, hy28, hr⟩ := bind_some hr
   refine W.keep (u_r02_sum_1 (Zx.refl _) st h7 h20 hy28) ?_
   rintro ex34 fr29 m30 hk32 ⟨z31, hz33, st, rfl, h7, -⟩
   have h0 := (hk32 0 rfl).trans h0
   have h1 := (hk32 1 rfl).trans h1
   have h5 := (hk32 5 rfl).trans h5
   have h6 := (hk32 6 rfl).trans h6
   replace hz := hz.trans hz33
   clear hk32
   refine thenQ.n (W.region ?_)
   refine sx rfl (pMove (v := (vI x5)) rfl h5) ?_
   refine sx rfl (pMove (v := (vI y28)) rfl h7) ?_
   refine sx rfl (pAdd (k := .i64) (a := x5) (b := y28) rfl rfl rfl) ?_
   obtain ⟨y35, hy35, hr⟩ := lt_some hr
   refine sx rfl (pAssign rfl (congrArg (Value.int .i64) hy35)) ?_
   refine SeqW.done fun fr36 hf37 => ?_
   have h0 := (congrFun hf37 0).trans h0
   have h1 := (congrFun hf37 1).trans h1
   have h5 : fr36 5 = (vI y35) := (congrFun hf37 5).trans rfl
   have h6 := (congrFun hf37 6).trans h6
   clear hf37
   refine blockQ.n ?_
   refine thenQ.n (W.region ?_)
   refine sx rfl (pMove (v := (vI x6)) rfl h6) ?_
   refine sx rfl (pAdd (k := .i64) (a := x6) (b := 1) rfl rfl rfl) ?_
   obtain ⟨y38, hy38, hr⟩ := lt_some hr
   refine sx rfl (pAssign rfl (congrArg (Value.int .i64) hy38)) ?_
   refine SeqW.done fun fr39 hf40 => ?_
   have h0 := (congrFun hf40 0).trans h0
   have h1 := (congrFun hf40 1).trans h1
   have h5 := (congrFun hf40 5).trans h5
   have h6 : fr39 6 = (vI y38) := (congrFun hf40 6).trans rfl
   clear hf40
   refine thenQ.n ?_
   exact ih hz st h0 h1 h5 h6 hr
  ·refine W.condF h10 hc41 ?_
   refine W.exit ?_
   refine thenQ.x ?_
   refine thenQ.x ?_
   obtain rfl := Option.some.inj hr
   exact ⟨z, hz, st, rfl, h5, trivial⟩

theorem u_r02_sum {N : Nat}  {z0 z : Nat → Blk} {e m : Mem} {k : Option Nat} {fr : Nat → Value} {x0 : List UInt8} {x1 : Int} (hz : Zx e.next z0 z) (st : St z e m k) (h0 : fr 0 = (str x0)) (h1 : fr 1 = (vI x1)) {r : Int} (hr : r02_sum N x0 x1 = some r) : W Try.prog (sub (bodyOf Try.f52) []) (fun ex fr' m' => ∃ z', Zx e.next z0 z' ∧ St z' e m' k ∧ (ex = .normal ∨ ex = .ret) ∧ fr' 4 = (vI r) ∧ True) fr m := by
 unfold r02_sum at hr
 refine W.seq (W.region ?_)
 refine sx rfl (pAssign (v := (vI 0)) rfl rfl) ?_
 refine SeqW.done fun fr1 hf2 => ?_
 have h0 := (congrFun hf2 0).trans h0
 have h1 := (congrFun hf2 1).trans h1
 clear hf2
 refine thenQ.n (W.seq (W.region ?_))
 refine sx rfl (pAssign (v := (vI 0)) rfl rfl) ?_
 refine SeqW.done fun fr3 hf4 => ?_
 have h0 := (congrFun hf4 0).trans h0
 have h1 := (congrFun hf4 1).trans h1
 have h5 : fr3 5 = (vI 0) := (congrFun hf4 5).trans rfl
 clear hf4
 refine thenQ.n (W.seq ?_)
 refine W.seq (W.region ?_)
 refine sx rfl (pAssign (v := (vI 0)) rfl rfl) ?_
 refine SeqW.done fun fr5 hf6 => ?_
 have h0 := (congrFun hf6 0).trans h0
 have h1 := (congrFun hf6 1).trans h1
 have h5 := (congrFun hf6 5).trans h5
 have h6 : fr5 6 = (vI 0) := (congrFun hf6 6).trans rfl
 clear hf6
 refine thenQ.n ?_
 refine W.block ?_
 obtain ⟨y42, hy42, hr⟩ := bind_some hr
 refine W.keep (u_r02_sum_0 _ (Zx.refl _) st h0 h1 h5 h6 hy42) ?_
 rintro ex48 fr43 m44 hk46 ⟨z45, hz47, st, rfl, h5, -⟩
 replace hz := hz.trans hz47
 clear hk46
 refine blockQ.hit ?_
 refine thenQ.n (W.seq (W.region ?_))
 refine sx rfl (pMove (v := (vI y42)) rfl h5) ?_
 refine sx rfl (pAssign (v := (vI y42)) rfl rfl) ?_
 refine SeqW.done fun fr49 hf50 => ?_
 have h4 : fr49 4 = (vI y42) := (congrFun hf50 4).trans rfl
 clear hf50
 refine thenQ.n ?_
 refine W.ret ?_
 obtain rfl := Option.some.inj hr
 exact ⟨z45, hz, st, .inr rfl, h4, trivial⟩

theorem c_r02_sum {N : Nat} {z : Nat → Blk} {m : Mem} {x0 : List UInt8} {x1 : Int} (fz : Fz z m) (hd : ∀ b, m.next ≤ b → m.blk b = .dead)  {r : Int} (hr : r02_sum N x0 x1 = some r) : CallW Try.prog 52 #[(str x0), (vI x1)] m fun v m' => v = (vI r) ∧ m' = m := by
 refine CallW.flat Try.func52 rfl (by kernel_rfl) (Nat.le_of_ble_eq_true rfl) rfl (z := z) (fun fr hf => ?_)
 have h0 : fr 0 = _ := hf 0 _ rfl
 have h1 : fr 1 = _ := hf 1 _ rfl
 refine (u_r02_sum (k := none) (Zx.refl _) (St.start fz hd) h0 h1 hr).mono ?_
 rintro ex fr' m' ⟨z', hz, st, he, h4, -⟩
 exact ⟨he, z', st, [(vI r)], ⟨h4.symm, trivial⟩, .inl rfl, rfl⟩

/-! ### humpyard/humpyardref02.Digit -/

theorem u_r02_Digit {N : Nat}  {z0 z : Nat → Blk} {e m : Mem} {k : Option Nat} {fr : Nat → Value} {x0 : List UInt8} (hz : Zx e.next z0 z) (st : St z e m k) (h0 : fr 0 = (str x0)) {r : Int × Int} (hr : r02_Digit N x0 = some r) : W Try.prog (sub (bodyOf Try.f44) []) (fun ex fr' m' => ∃ z', Zx e.next z0 z' ∧ St z' e m' k ∧ (ex = .normal ∨ ex = .ret) ∧ fr' 2 = (vI r.1) ∧ fr' 3 = (vI r.2) ∧ True) fr m := by
 unfold r02_Digit at hr
 refine W.seq (W.region ?_)
 refine sx rfl (pAssign (v := (vI 0)) rfl rfl) ?_
 refine sx rfl (pAssign (v := (vI 0)) rfl rfl) ?_
 refine SeqW.done fun fr1 hf2 => ?_
 have h0 := (congrFun hf2 0).trans h0
 clear hf2
 refine thenQ.n (W.seq ?_)
 refine W.seq (W.region ?_)
 refine sx rfl (pMove (v := (str x0)) rfl h0) ?_
 obtain ⟨y3, hy3, hr⟩ := bind_some hr
 refine SeqW.consX rfl (StepX.call (gCallee rfl rfl (args2 rfl rfl)) ((c_r02_digits (z := z) st.fz st.dead  hy3).mono ?_))
 rintro _ _ ⟨rfl, rfl⟩
 refine sx rfl (pNot (b := y3) rfl rfl) ?_
 refine SeqW.done fun fr4 hf5 => ?_
 have h0 := (congrFun hf5 0).trans h0
 have h6 : fr4 6 = (vB (!y3)) := (congrFun hf5 6).trans rfl
 clear hf5
 refine thenQ.n ?_
 rcases if_some hr with ⟨hc6, hr⟩ | ⟨hc9, hr⟩
 ·refine W.condT h6 hc6 (W.seq (W.region ?_))
  refine sx rfl (pAssign (v := (vI 0)) rfl rfl) ?_
  refine sx rfl (pAssign (v := (vI 11)) rfl rfl) ?_
  refine SeqW.done fun fr7 hf8 => ?_
  have h2 : fr7 2 = (vI 0) := (congrFun hf8 2).trans rfl
  have h3 : fr7 3 = (vI 11) := (congrFun hf8 3).trans rfl
  clear hf8
  refine thenQ.n ?_
  refine W.ret ?_
  refine thenQ.r ?_
  obtain rfl := Option.some.inj hr
  exact ⟨z, hz, st, .inr rfl, h2, h3, trivial⟩
 ·refine W.condF h6 hc9 (W.skip ?_)
  refine thenQ.n (W.seq (W.region ?_))
  refine sx rfl (pMove (v := (str x0)) rfl h0) ?_
  obtain ⟨y10, hy10, hr⟩ := bind_some hr
  refine SeqW.consX rfl (StepX.call (gCallee rfl rfl (args2 rfl rfl)) ((c_r02_sum (z := z) st.fz st.dead  hy10).mono ?_))
  rintro _ _ ⟨rfl, rfl⟩
  refine sx rfl (pRem (k := .i64) (a := y10) (b := 10) rfl rfl rfl (by decide)) ?_
  refine sx rfl (pSub (k := .i64) (a := 10) (b := (Int.tmod y10 10)) rfl rfl rfl) ?_
  refine sx rfl (pRem (k := .i64) (a := (IntKind.wrap .i64 (10 - (Int.tmod y10 10)))) (b := 10) rfl rfl rfl (by decide)) ?_
  obtain ⟨y11, hy11, hr⟩ := lt_some hr
  refine sx rfl (pAssign rfl (congrArg (Value.int .i64) hy11)) ?_
  refine sx rfl (pAssign (v := (vI 0)) rfl rfl) ?_
  refine SeqW.done fun fr12 hf13 => ?_
  have h2 : fr12 2 = (vI y11) := (congrFun hf13 2).trans rfl
  have h3 : fr12 3 = (vI 0) := (congrFun hf13 3).trans rfl
  clear hf13
  refine thenQ.n ?_
  refine W.ret ?_
  obtain rfl := Option.some.inj hr
  exact ⟨z, hz, st, .inr rfl, h2, h3, trivial⟩

theorem c_r02_Digit {N : Nat} {z : Nat → Blk} {m : Mem} {x0 : List UInt8} (fz : Fz z m) (hd : ∀ b, m.next ≤ b → m.blk b = .dead)  {r : Int × Int} (hr : r02_Digit N x0 = some r) : CallW Try.prog 44 #[(str x0)] m fun v m' => v = (Value.tuple [(vI r.1), (vI r.2)].toArray) ∧ m' = m := by
 refine CallW.flat Try.func44 rfl (by kernel_rfl) (Nat.le_of_ble_eq_true rfl) rfl (z := z) (fun fr hf => ?_)
 have h0 : fr 0 = _ := hf 0 _ rfl
 refine (u_r02_Digit (k := none) (Zx.refl _) (St.start fz hd) h0 hr).mono ?_
 rintro ex fr' m' ⟨z', hz, st, he, h2, h3, -⟩
 exact ⟨he, z', st, [(vI r.1), (vI r.2)], ⟨h2.symm, h3.symm, trivial⟩, .inr (List.forall_mem_cons.2 ⟨rfl, List.forall_mem_cons.2 ⟨rfl, fun _ h => nomatch h⟩⟩), rfl⟩

/-! ### (*humpyard/humpgen.Maker).Number -/

theorem u_Maker_Number {N : Nat}  {z0 z : Nat → Blk} {e m : Mem} {k : Option Nat} {fr : Nat → Value} {x0 : Maker} {x1 : Int} {v0_0 : Value} {b0 : Nat} (hz : Zx e.next z0 z) (st : St z e m k) (h0 : fr 0 = (vP b0)) (s0_0 : SlR (TInt 3 .i64) z x0.l v0_0) (bx0 : Bx z e m k b0 [v0_0, (vI x0.n)] 53) (h1 : fr 1 = (vI x1)) {r : List UInt8 × Maker} (hr : Maker_Number N x0 x1 = some r) : W Try.prog (sub (bodyOf Try.f33) []) (fun ex fr' m' => ∃ z', Zx e.next z0 z' ∧ St z' e m' k ∧ (ex = .normal ∨ ex = .ret) ∧ ∃ (wr_0 : Value), fr' 4 = (str r.1) ∧ SlR (TInt 3 .i64) z' r.2.l wr_0 ∧ Bx z' e m' k b0 [wr_0, (vI r.2.n)] 53 ∧ True) fr m := by
 unfold Maker_Number at hr
 refine W.seq (W.region ?_)
 refine sx rfl (pAssign (v := (str [])) rfl rfl) ?_
 refine SeqW.done fun fr1 hf2 => ?_
 have h0 := (congrFun hf2 0).trans h0
 have h1 := (congrFun hf2 1).trans h1
 clear hf2
 refine thenQ.n (W.seq (W.region ?_))
 refine sx rfl (pMove (v := (vP b0)) rfl h0) ?_
 obtain ⟨y3, hy3, hr⟩ := bind_some hr
 refine SeqW.consX rfl (StepX.call (gCallee rfl rfl (args2 rfl rfl)) ((c_Maker_Digits (x0 := x0) (z := z) st.fz st.dead s0_0 ⟨bx0.blk, bx0.lt, bx0.dead, .inr rfl⟩ hy3).mono ?_))
 rintro _ m8 ⟨z4, V9, hzx5, fz6, sm7, rfl, Q10, X12, -⟩
 replace s0_0 := s0_0.mono hzx5.le
 have bx0n : Bx z4 e m8 k b0 _ _ := ⟨X12.blk, X12.lt, X12.dead, bx0.fresh⟩
 replace hz := hz.trans (Zx.here st hzx5)
 replace st := st.call hzx5 fz6 sm7 bx0.hq
 obtain ⟨y13, hy13, hr⟩ := bind_some hr
 refine SeqW.consX rfl (kBytes (s := y3.1) rfl Try.underlying9 Try.underlying23 Try.underlying5 Try.type5 rfl rfl hy13 st ?_)
 intro V14 m15 st O16 sm17 hap18
 have A20 := hap18 _ bx0n.lt'
 replace bx0n := bx0n.same sm17 Ap.none'
 refine sx rfl (pAssign (v := V14) rfl rfl) ?_
 refine SeqW.done fun fr21 hf22 => ?_
 have h0 := (congrFun hf22 0).trans h0
 have h1 := (congrFun hf22 1).trans h1
 have h5 : fr21 5 = V14 := (congrFun hf22 5).trans rfl
 clear hf22
 refine thenQ.n (W.seq (W.region ?_))
 refine sx rfl (pMove (v := V14) rfl h5) ?_
 refine sx rfl (pMove (v := V14) rfl h5) ?_
 refine sx rfl (pMove (v := V14) rfl h5) ?_
 refine sx rfl (pMove (v := (vI x1)) rfl h1) ?_
 refine sx rfl (pQuo (k := .i64) (a := x1) (b := 100) rfl rfl rfl (by decide)) ?_
 refine sx rfl (pRem (k := .i64) (a := (IntKind.wrap .i64 (Int.tdiv x1 100))) (b := 10) rfl rfl rfl (by decide)) ?_
 refine sx rfl (pAdd (k := .i64) (a := 48) (b := (Int.tmod (IntKind.wrap .i64 (Int.tdiv x1 100)) 10)) rfl rfl rfl) ?_
 refine sx rfl (pConv (k := .i64) (a := (IntKind.wrap .i64 (48 + (Int.tmod (IntKind.wrap .i64 (Int.tdiv x1 100)) 10)))) rfl Try.underlying3 Try.underlying5 rfl) ?_
 refine sx rfl (pMove (v := (vI x1)) rfl h1) ?_
 refine sx rfl (pQuo (k := .i64) (a := x1) (b := 10) rfl rfl rfl (by decide)) ?_
 refine sx rfl (pRem (k := .i64) (a := (IntKind.wrap .i64 (Int.tdiv x1 10))) (b := 10) rfl rfl rfl (by decide)) ?_
 refine sx rfl (pAdd (k := .i64) (a := 48) (b := (Int.tmod (IntKind.wrap .i64 (Int.tdiv x1 10)) 10)) rfl rfl rfl) ?_
 refine sx rfl (pConv (k := .i64) (a := (IntKind.wrap .i64 (48 + (Int.tmod (IntKind.wrap .i64 (Int.tdiv x1 10)) 10)))) rfl Try.underlying3 Try.underlying5 rfl) ?_
 refine sx rfl (pMove (v := (vI x1)) rfl h1) ?_
 refine sx rfl (pRem (k := .i64) (a := x1) (b := 10) rfl rfl rfl (by decide)) ?_
 refine sx rfl (pAdd (k := .i64) (a := 48) (b := (Int.tmod x1 10)) rfl rfl rfl) ?_
 refine sx rfl (pConv (k := .i64) (a := (IntKind.wrap .i64 (48 + (Int.tmod x1 10)))) rfl Try.underlying3 Try.underlying5 rfl) ?_
 obtain ⟨y23, hy23, hr⟩ := bind_some hr
 refine SeqW.consX rfl (kIdxO (T := (TU8 5)) (xs := y13) (n := 8) rfl Try.underlying23 Try.type5 rfl rfl rfl O16 hy23 ?_)
 intro B24 l25 c26 cs27 hv28 hd29 hg30 hc31
 have hd290 := hd29
 obtain rfl := hd290
 obtain ⟨y34, hy34, hr⟩ := bind_some hr
 refine SeqW.consX rfl (kSet (T := (TU8 5)) (off := (8 : Int).toNat * ((TU8 5)).sz) (n := (8 : Int).toNat) (f := 0) (w := (Value.int .u8 (UInt8.toNat y34 : Int))) (new := [(Value.int .u8 (UInt8.toNat y34 : Int))]) (ecs := [(Value.int .u8 (UInt8.toNat y23 : Int))]) (ecs' := [(Value.int .u8 (UInt8.toNat y34 : Int))]) (a := y23) (a' := y34) rfl Try.type5 rfl rfl (by rw [← toU8_some hy34]; exact rfl) rfl rfl rfl O16 hv28 hg30 hd29 hc31 rfl rfl rfl st ?_)
 intro m32 st O16 sm33
 obtain ⟨y35, hy35, hr⟩ := lt_some hr
 rw [hy35] at O16
 replace bx0n := bx0n.same sm33 A20
 obtain ⟨y36, hy36, hr⟩ := bind_some hr
 refine SeqW.consX rfl (kIdxO (T := (TU8 5)) (xs := y35) (n := 9) rfl Try.underlying23 Try.type5 rfl rfl rfl O16 hy36 ?_)
 intro B37 l38 c39 cs40 hv41 hd42 hg43 hc44
 have hd420 := hd42
 obtain rfl := hd420
 obtain ⟨y47, hy47, hr⟩ := bind_some hr
 refine SeqW.consX rfl (kSet (T := (TU8 5)) (off := (9 : Int).toNat * ((TU8 5)).sz) (n := (9 : Int).toNat) (f := 0) (w := (Value.int .u8 (UInt8.toNat y47 : Int))) (new := [(Value.int .u8 (UInt8.toNat y47 : Int))]) (ecs := [(Value.int .u8 (UInt8.toNat y36 : Int))]) (ecs' := [(Value.int .u8 (UInt8.toNat y47 : Int))]) (a := y36) (a' := y47) rfl Try.type5 rfl rfl (by rw [← toU8_some hy47]; exact rfl) rfl rfl rfl O16 hv41 hg43 hd42 hc44 rfl rfl rfl st ?_)
 intro m45 st O16 sm46
 obtain ⟨y48, hy48, hr⟩ := lt_some hr
 rw [hy48] at O16
 replace bx0n := bx0n.same sm46 A20
 obtain ⟨y49, hy49, hr⟩ := bind_some hr
 refine SeqW.consX rfl (kIdxO (T := (TU8 5)) (xs := y48) (n := 10) rfl Try.underlying23 Try.type5 rfl rfl rfl O16 hy49 ?_)
 intro B50 l51 c52 cs53 hv54 hd55 hg56 hc57
 have hd550 := hd55
 obtain rfl := hd550
 obtain ⟨y60, hy60, hr⟩ := bind_some hr
 refine SeqW.consX rfl (kSet (T := (TU8 5)) (off := (10 : Int).toNat * ((TU8 5)).sz) (n := (10 : Int).toNat) (f := 0) (w := (Value.int .u8 (UInt8.toNat y60 : Int))) (new := [(Value.int .u8 (UInt8.toNat y60 : Int))]) (ecs := [(Value.int .u8 (UInt8.toNat y49 : Int))]) (ecs' := [(Value.int .u8 (UInt8.toNat y60 : Int))]) (a := y49) (a' := y60) rfl Try.type5 rfl rfl (by rw [← toU8_some hy60]; exact rfl) rfl rfl rfl O16 hv54 hg56 hd55 hc57 rfl rfl rfl st ?_)
 intro m58 st O16 sm59
 obtain ⟨y61, hy61, hr⟩ := lt_some hr
 rw [hy61] at O16
 replace bx0n := bx0n.same sm59 A20
 refine SeqW.done fun fr62 hf63 => ?_
 have h0 := (congrFun hf63 0).trans h0
 have h5 := (congrFun hf63 5).trans h5
 clear hf63
 refine thenQ.n (W.seq (W.region ?_))
 refine sx rfl (pMove (v := V14) rfl h5) ?_
 refine SeqW.consX rfl (kStrO (s := y61) rfl Try.underlying23 Try.underlying5 Try.underlying9 rfl O16 ?_)
 obtain ⟨y64, hy64, hr⟩ := bind_some hr
 refine SeqW.consX rfl (StepX.call (gCallee rfl rfl (args1 rfl)) ((c_r02_Digit (z := z4) st.fz st.dead  hy64).mono ?_))
 rintro _ _ ⟨rfl, rfl⟩
 refine sx rfl (pMove (v := (Value.tuple [(vI y64.1), (vI y64.2)].toArray)) rfl rfl) ?_
 refine sx rfl (pExtract (vs := [(vI y64.1), (vI y64.2)]) (v := (vI y64.1)) rfl rfl rfl) ?_
 refine sx rfl (pExtract (vs := [(vI y64.1), (vI y64.2)]) (v := (vI y64.2)) rfl rfl rfl) ?_
 refine sx rfl (pAssign (v := (vI y64.1)) rfl rfl) ?_
 refine sx rfl (pAssign (v := (vI y64.2)) rfl rfl) ?_
 refine SeqW.done fun fr65 hf66 => ?_
 have h0 := (congrFun hf66 0).trans h0
 have h5 := (congrFun hf66 5).trans h5
 have h6 : fr65 6 = (vI y64.1) := (congrFun hf66 6).trans rfl
 clear hf66
 refine thenQ.n (W.seq (W.region ?_))
 refine sx rfl (pMove (v := V14) rfl h5) ?_
 refine SeqW.consX rfl (kStrO (s := y61) rfl Try.underlying23 Try.underlying5 Try.underlying9 rfl O16 ?_)
 refine sx rfl (pMove (v := (vI y64.1)) rfl h6) ?_
 refine sx rfl (pAdd (k := .i64) (a := 48) (b := y64.1) rfl rfl rfl) ?_
 refine sx rfl (pConv (k := .i64) (a := (IntKind.wrap .i64 (48 + y64.1))) rfl Try.underlying3 Try.underlying5 rfl) ?_
 obtain ⟨y67, hy67, hr⟩ := bind_some hr
 refine SeqW.consX rfl (kBuild (T := (TU8 5)) rfl Try.underlying23 Try.type5 rfl rfl rfl rfl ([y67] : List UInt8) [[Value.int .u8 (UInt8.toNat y67 : Int)]] rfl rfl rfl (BuildOk.mk (w := (Value.int .u8 (UInt8.toNat y67 : Int))) (by rw [← toU8_some hy67]; exact rfl) rfl rfl rfl trivial) st ?_)
 intro V68 m69 st O70 sm71 hap72
 have A74 := hap72 _ bx0n.lt'
 replace bx0n := bx0n.same sm71 Ap.none'
 refine SeqW.consX rfl (kStrO (s := ([y67] : List UInt8)) rfl Try.underlying23 Try.underlying5 Try.underlying9 rfl O70 ?_)
 obtain ⟨y75, hy75, hr⟩ := bind_some hr
 refine SeqW.consX rfl (kAddS (s := y61) (r := ([y67] : List UInt8)) rfl rfl rfl hy75 ?_)
 refine sx rfl (pAssign (v := (str y75)) rfl rfl) ?_
 refine SeqW.done fun fr76 hf77 => ?_
 have h0 := (congrFun hf77 0).trans h0
 have h4 : fr76 4 = (str y75) := (congrFun hf77 4).trans rfl
 clear hf77
 refine thenQ.n ?_
 refine W.ret ?_
 obtain rfl := Option.some.inj hr
 exact ⟨z4, hz, st, .inr rfl, V9, h4, Q10, bx0n, trivial⟩

theorem c_Maker_Number {N : Nat} {z : Nat → Blk} {m : Mem} {x0 : Maker} {x1 : Int} {v0_0 : Value} {b0 : Nat} (fz : Fz z m) (hd : ∀ b, m.next ≤ b → m.blk b = .dead) (s0_0 : SlR (TInt 3 .i64) z x0.l v0_0) (bx0 : Bx z m m (some b0) b0 [v0_0, (vI x0.n)] 53) {r : List UInt8 × Maker} (hr : Maker_Number N x0 x1 = some r) : CallW Try.prog 33 #[(vP b0), (vI x1)] m fun v m' => ∃ z' wr_0, Zx m.next z z' ∧ Fz z' m' ∧ Same m m' (some b0) ∧ v = (str r.1) ∧ SlR (TInt 3 .i64) z' r.2.l wr_0 ∧ Bx z' m m' (some b0) b0 [wr_0, (vI r.2.n)] 53 ∧ True := by
 refine CallW.any Try.func33 rfl (by kernel_rfl) (Nat.le_of_ble_eq_true rfl) (fun fr hf => ?_)
 have h0 : fr 0 = _ := hf 0 _ rfl
 have h1 : fr 1 = _ := hf 1 _ rfl
 refine (u_Maker_Number (k := (some b0)) (Zx.refl _) (St.start fz hd) h0 s0_0 bx0 h1 hr).mono ?_
 rintro ex fr' m' ⟨z', hz, st, he, wr_0, h4, sr_0, bxr, -⟩
 exact ⟨he, [(str r.1)], ⟨h4.symm, trivial⟩, .inl rfl, z', wr_0, hz, st.fz, st.toSame, rfl, sr_0, bxr, trivial⟩

/-! ### (*humpyard/humpgen.Maker).Pick -/

theorem u_Maker_Pick {N : Nat}  {z0 z : Nat → Blk} {e m : Mem} {k : Option Nat} {fr : Nat → Value} {x0 : Maker} {x1 : List Int} {v0_0 : Value} {b0 : Nat} {v1 : Value} (hz : Zx e.next z0 z) (st : St z e m k) (h0 : fr 0 = (vP b0)) (s0_0 : SlR (TInt 3 .i64) z x0.l v0_0) (bx0 : Bx z e m k b0 [v0_0, (vI x0.n)] 53) (h1 : fr 1 = v1) (s1 : SlR (TInt 3 .i64) z x1 v1) {r : Int × Maker} (hr : Maker_Pick N x0 x1 = some r) : W Try.prog (sub (bodyOf Try.f34) []) (fun ex fr' m' => ∃ z', Zx e.next z0 z' ∧ St z' e m' k ∧ (ex = .normal ∨ ex = .ret) ∧ ∃ (wr_0 : Value), fr' 4 = (vI r.1) ∧ SlR (TInt 3 .i64) z' r.2.l wr_0 ∧ Bx z' e m' k b0 [wr_0, (vI r.2.n)] 53 ∧ True) fr m := by
 unfold Maker_Pick at hr
 refine W.seq (W.region ?_)
 refine sx rfl (pAssign (v := (vI 0)) rfl rfl) ?_
 refine SeqW.done fun fr1 hf2 => ?_
 have h0 := (congrFun hf2 0).trans h0
 have h1 := (congrFun hf2 1).trans h1
 clear hf2
 refine thenQ.n (W.seq (W.region ?_))
 refine sx rfl (pMove (v := v1) rfl h1) ?_
 refine sx rfl (pMove (v := (vP b0)) rfl h0) ?_
 refine sx rfl (pMove (v := v1) rfl h1) ?_
 refine sx rfl (pLenR (xs := x1) rfl Try.underlying22 rfl s1) ?_
 obtain ⟨y3, hy3, hr⟩ := bind_some hr
 refine SeqW.consX rfl (StepX.call (gCallee rfl rfl (args2 rfl rfl)) ((c_Maker_Next (x0 := x0) (z := z) st.fz st.dead s0_0 ⟨bx0.blk, bx0.lt, bx0.dead, .inr rfl⟩ hy3).mono ?_))
 rintro _ m8 ⟨z4, V9, hzx5, fz6, sm7, rfl, Q10, X12, -⟩
 replace s0_0 := s0_0.mono hzx5.le
 replace s1 := s1.mono hzx5.le
 have bx0n : Bx z4 e m8 k b0 _ _ := ⟨X12.blk, X12.lt, X12.dead, bx0.fresh⟩
 replace hz := hz.trans (Zx.here st hzx5)
 replace st := st.call hzx5 fz6 sm7 bx0.hq
 obtain ⟨y13, hy13, hr⟩ := bind_some hr
 refine SeqW.consX rfl (kIdxR (T := (TInt 3 .i64)) (xs := x1) (n := y3.1) rfl Try.underlying22 Try.type3 rfl rfl rfl s1 hy13 ?_)
 intro B14 f15 cs16 hd17 hc18
 obtain rfl := hd17
 refine SeqW.consX rfl (kLoad (v := (vI y13)) rfl Try.underlying3 rfl rfl (ldz_load st.fz (hc18 0 _ rfl)) ?_)
 refine sx rfl (pAssign (v := (vI y13)) rfl rfl) ?_
 refine SeqW.done fun fr19 hf20 => ?_
 have h0 := (congrFun hf20 0).trans h0
 have h4 : fr19 4 = (vI y13) := (congrFun hf20 4).trans rfl
 clear hf20
 refine thenQ.n ?_
 refine W.ret ?_
 obtain rfl := Option.some.inj hr
 exact ⟨z4, hz, st, .inr rfl, V9, h4, Q10, bx0n, trivial⟩

theorem c_Maker_Pick {N : Nat} {z : Nat → Blk} {m : Mem} {x0 : Maker} {x1 : List Int} {v0_0 : Value} {b0 : Nat} {v1 : Value} (fz : Fz z m) (hd : ∀ b, m.next ≤ b → m.blk b = .dead) (s0_0 : SlR (TInt 3 .i64) z x0.l v0_0) (bx0 : Bx z m m (some b0) b0 [v0_0, (vI x0.n)] 53) (s1 : SlR (TInt 3 .i64) z x1 v1) {r : Int × Maker} (hr : Maker_Pick N x0 x1 = some r) : CallW Try.prog 34 #[(vP b0), v1] m fun v m' => ∃ z' wr_0, Zx m.next z z' ∧ Fz z' m' ∧ Same m m' (some b0) ∧ v = (vI r.1) ∧ SlR (TInt 3 .i64) z' r.2.l wr_0 ∧ Bx z' m m' (some b0) b0 [wr_0, (vI r.2.n)] 53 ∧ True := by
 refine CallW.any Try.func34 rfl (by kernel_rfl) (Nat.le_of_ble_eq_true rfl) (fun fr hf => ?_)
 have h0 : fr 0 = _ := hf 0 _ rfl
 have h1 : fr 1 = _ := hf 1 _ rfl
 refine (u_Maker_Pick (k := (some b0)) (Zx.refl _) (St.start fz hd) h0 s0_0 bx0 h1 s1 hr).mono ?_
 rintro ex fr' m' ⟨z', hz, st, he, wr_0, h4, sr_0, bxr, -⟩
 exact ⟨he, [(vI r.1)], ⟨h4.symm, trivial⟩, .inl rfl, z', wr_0, hz, st.fz, st.toSame, rfl, sr_0, bxr, trivial⟩

/-! ### (*humpyard/humpgen.Maker).Name -/

theorem u_Maker_Name {N : Nat}  {z0 z : Nat → Blk} {e m : Mem} {k : Option Nat} {fr : Nat → Value} {x0 : Maker} {v0_0 : Value} {b0 : Nat} (hz : Zx e.next z0 z) (st : St z e m k) (h0 : fr 0 = (vP b0)) (s0_0 : SlR (TInt 3 .i64) z x0.l v0_0) (bx0 : Bx z e m k b0 [v0_0, (vI x0.n)] 53) {r : List UInt8 × Maker} (hr : Maker_Name N x0 = some r) : W Try.prog (sub (bodyOf Try.f35) []) (fun ex fr' m' => ∃ z', Zx e.next z0 z' ∧ St z' e m' k ∧ (ex = .normal ∨ ex = .ret) ∧ ∃ (wr_0 : Value), fr' 2 = (str r.1) ∧ SlR (TInt 3 .i64) z' r.2.l wr_0 ∧ Bx z' e m' k b0 [wr_0, (vI r.2.n)] 53 ∧ True) fr m := by
 unfold Maker_Name at hr
 refine W.seq (W.region ?_)
 refine sx rfl (pAssign (v := (str [])) rfl rfl) ?_
 refine SeqW.done fun fr1 hf2 => ?_
 have h0 := (congrFun hf2 0).trans h0
 clear hf2
 refine thenQ.n (W.seq (W.region ?_))
 refine SeqW.consX rfl (kBuild (T := (TStr 9)) rfl Try.underlying69 Try.type9 rfl rfl rfl rfl ([[97], [98], [99], [100], [101], [110, 111, 114, 116, 104], [115, 111, 117, 116, 104], [112, 111, 114, 116, 49], [120, 57], [97, 98, 99, 100, 101, 102, 103, 104, 105, 106, 107, 108]] : List (List UInt8)) [[(str [97])], [(str [98])], [(str [99])], [(str [100])], [(str [101])], [(str [110, 111, 114, 116, 104])], [(str [115, 111, 117, 116, 104])], [(str [112, 111, 114, 116, 49])], [(str [120, 57])], [(str [97, 98, 99, 100, 101, 102, 103, 104, 105, 106, 107, 108])]] rfl rfl rfl (BuildOk.mk (w := (str [97])) rfl rfl rfl rfl (BuildOk.mk (w := (str [98])) rfl rfl rfl rfl (BuildOk.mk (w := (str [99])) rfl rfl rfl rfl (BuildOk.mk (w := (str [100])) rfl rfl rfl rfl (BuildOk.mk (w := (str [101])) rfl rfl rfl rfl (BuildOk.mk (w := (str [110, 111, 114, 116, 104])) rfl rfl rfl rfl (BuildOk.mk (w := (str [115, 111, 117, 116, 104])) rfl rfl rfl rfl (BuildOk.mk (w := (str [112, 111, 114, 116, 49])) rfl rfl rfl rfl (BuildOk.mk (w := (str [120, 57])) rfl rfl rfl rfl (BuildOk.mk (w := (str [97, 98, 99, 100, 101, 102, 103, 104, 105, 106, 107, 108])) rfl rfl rfl rfl trivial)))))))))) st ?_)
 intro V3 m4 st O5 sm6 hap7
 have A9 := hap7 _ bx0.lt'
 replace bx0 := bx0.same sm6 Ap.none'
 refine sx rfl (pMove (v := (vP b0)) rfl h0) ?_
 obtain ⟨y10, hy10, hr⟩ := bind_some hr
 refine SeqW.consX rfl (StepX.call (gCallee rfl rfl (args2 rfl rfl)) ((c_Maker_Next (x0 := x0) (z := z) st.fz st.dead s0_0 ⟨bx0.blk, bx0.lt, bx0.dead, .inr rfl⟩ hy10).mono ?_))
 rintro _ m15 ⟨z11, V16, hzx12, fz13, sm14, rfl, Q17, X19, -⟩
 replace s0_0 := s0_0.mono hzx12.le
 replace O5 := O5.call hzx12 sm14 (Ap.symm A9)
 have bx0n : Bx z11 e m15 k b0 _ _ := ⟨X19.blk, X19.lt, X19.dead, bx0.fresh⟩
 replace hz := hz.trans (Zx.here st hzx12)
 replace st := st.call hzx12 fz13 sm14 bx0.hq
 obtain ⟨y20, hy20, hr⟩ := bind_some hr
 refine SeqW.consX rfl (kIdxO (T := (TStr 9)) (xs := ([[97], [98], [99], [100], [101], [110, 111, 114, 116, 104], [115, 111, 117, 116, 104], [112, 111, 114, 116, 49], [120, 57], [97, 98, 99, 100, 101, 102, 103, 104, 105, 106, 107, 108]] : List (List UInt8))) (n := y10.1) rfl Try.underlying69 Try.type9 rfl rfl rfl O5 hy20 ?_)
 intro B21 l22 c23 cs24 hv25 hd26 hg27 hc28
 have hd260 := hd26
 obtain rfl := hd260
 refine SeqW.consX rfl (kLoad (v := (str y20)) rfl Try.underlying9 rfl rfl (hc28 0 _ rfl) ?_)
 refine sx rfl (pAssign (v := (str y20)) rfl rfl) ?_
 refine SeqW.done fun fr29 hf30 => ?_
 have h0 := (congrFun hf30 0).trans h0
 have h2 : fr29 2 = (str y20) := (congrFun hf30 2).trans rfl
 clear hf30
 refine thenQ.n ?_
 refine W.ret ?_
 obtain rfl := Option.some.inj hr
 exact ⟨z11, hz, st, .inr rfl, V16, h2, Q17, bx0n, trivial⟩

theorem c_Maker_Name {N : Nat} {z : Nat → Blk} {m : Mem} {x0 : Maker} {v0_0 : Value} {b0 : Nat} (fz : Fz z m) (hd : ∀ b, m.next ≤ b → m.blk b = .dead) (s0_0 : SlR (TInt 3 .i64) z x0.l v0_0) (bx0 : Bx z m m (some b0) b0 [v0_0, (vI x0.n)] 53) {r : List UInt8 × Maker} (hr : Maker_Name N x0 = some r) : CallW Try.prog 35 #[(vP b0)] m fun v m' => ∃ z' wr_0, Zx m.next z z' ∧ Fz z' m' ∧ Same m m' (some b0) ∧ v = (str r.1) ∧ SlR (TInt 3 .i64) z' r.2.l wr_0 ∧ Bx z' m m' (some b0) b0 [wr_0, (vI r.2.n)] 53 ∧ True := by
 refine CallW.any Try.func35 rfl (by kernel_rfl) (Nat.le_of_ble_eq_true rfl) (fun fr hf => ?_)
 have h0 : fr 0 = _ := hf 0 _ rfl
 refine (u_Maker_Name (k := (some b0)) (Zx.refl _) (St.start fz hd) h0 s0_0 bx0 hr).mono ?_
 rintro ex fr' m' ⟨z', hz, st, he, wr_0, h2, sr_0, bxr, -⟩
 exact ⟨he, [(str r.1)], ⟨h2.symm, trivial⟩, .inl rfl, z', wr_0, hz, st.fz, st.toSame, rfl, sr_0, bxr, trivial⟩

/-! ### (*humpyard/humpgen.Maker).Wagon -/

theorem u_Maker_Wagon_1 {N : Nat}  {z0 z : Nat → Blk} {e m : Mem} {k : Option Nat} {fr : Nat → Value} {x26 : Int} {x27 : Bool} {x0 : Maker} {v0_0 : Value} {b0 : Nat} {x4 : Wagon} {b4 : Nat} {x5 : Wagon} {b5 : Nat} (hz : Zx e.next z0 z) (st : St z e m k) (h0 : fr 0 = (vP b0)) (s0_0 : SlR (TInt 3 .i64) z x0.l v0_0) (bx0 : Bx z e m k b0 [v0_0, (vI x0.n)] 53) (h4 : fr 4 = (vP b4)) (bx4 : Bx z e m k b4 [(str x4.number), (vI x4.length), (vI x4.axles), (vI x4.mass), (vI x4.brake), (vI x4.goods), (vB x4.gentle), (str x4.dest)] 42) (h5 : fr 5 = (vP b5)) (bx5 : Bx z e m k b5 [(str x5.number), (vI x5.length), (vI x5.axles), (vI x5.mass), (vI x5.brake), (vI x5.goods), (vB x5.gentle), (str x5.dest)] 42) (h26 : fr 26 = (Value.int .u8 x26)) (h27 : fr 27 = (vB x27)) (ao0_o4 : Ap (some b0) (some b4)) (ao0_o5 : Ap (some b0) (some b5)) (ao4_o5 : Ap (some b4) (some b5)) {r : Bool} (hr : Maker_Wagon_1 N x26 x27 = some r) : W Try.prog (sub (bodyOf Try.f18) [1, 1, 0, 1, 0, 0, 1]) (fun ex fr' m' => ∃ z', Zx e.next z0 z' ∧ St z' e m' k ∧ ex = AExit.normal ∧ fr' 27 = (vB r) ∧ Bx z' e m' k b0 [v0_0, (vI x0.n)] 53 ∧ Bx z' e m' k b4 [(str x4.number), (vI x4.length), (vI x4.axles), (vI x4.mass), (vI x4.brake), (vI x4.goods), (vB x4.gentle), (str x4.dest)] 42 ∧ Bx z' e m' k b5 [(str x5.number), (vI x5.length), (vI x5.axles), (vI x5.mass), (vI x5.brake), (vI x5.goods), (vB x5.gentle), (str x5.dest)] 42 ∧ Ap (some b0) (some b4) ∧ Ap (some b0) (some b5) ∧ Ap (some b4) (some b5) ∧ True) fr m := by
 unfold Maker_Wagon_1 at hr
 rcases if_some hr with ⟨hc124, hr⟩ | ⟨hc125, hr⟩
 ·refine W.condT h27 hc124 (W.skip ?_)
  obtain rfl := Option.some.inj hr
  exact ⟨z, hz, st, rfl, h27, bx0, bx4, bx5, ao0_o4, ao0_o5, ao4_o5, trivial⟩
 ·refine W.condF h27 hc125 (W.region ?_)
  refine sx rfl (pEql (k := .u8) (a := x26) (b := 52) rfl h26 rfl) ?_
  obtain ⟨y126, hy126, hr⟩ := lt_some hr
  refine sx rfl (pAssign rfl (congrArg vB hy126)) ?_
  refine SeqW.done fun fr127 hf128 => ?_
  have h0 := (congrFun hf128 0).trans h0
  have h4 := (congrFun hf128 4).trans h4
  have h5 := (congrFun hf128 5).trans h5
  have h26 := (congrFun hf128 26).trans h26
  have h27 : fr127 27 = (vB y126) := (congrFun hf128 27).trans rfl
  clear hf128
  obtain rfl := Option.some.inj hr
  exact ⟨z, hz, st, rfl, h27, bx0, bx4, bx5, ao0_o4, ao0_o5, ao4_o5, trivial⟩

theorem u_Maker_Wagon_0 {N : Nat}  {z0 z : Nat → Blk} {e m : Mem} {k : Option Nat} {fr : Nat → Value} {x5 : Wagon} {x26 : Int} {x0 : Maker} {v0_0 : Value} {b0 : Nat} {x4 : Wagon} {b4 : Nat} {b5 : Nat} (hz : Zx e.next z0 z) (st : St z e m k) (h0 : fr 0 = (vP b0)) (s0_0 : SlR (TInt 3 .i64) z x0.l v0_0) (bx0 : Bx z e m k b0 [v0_0, (vI x0.n)] 53) (h4 : fr 4 = (vP b4)) (bx4 : Bx z e m k b4 [(str x4.number), (vI x4.length), (vI x4.axles), (vI x4.mass), (vI x4.brake), (vI x4.goods), (vB x4.gentle), (str x4.dest)] 42) (h5 : fr 5 = (vP b5)) (bx5 : Bx z e m k b5 [(str x5.number), (vI x5.length), (vI x5.axles), (vI x5.mass), (vI x5.brake), (vI x5.goods), (vB x5.gentle), (str x5.dest)] 42) (h26 : fr 26 = (Value.int .u8 x26)) (ao0_o4 : Ap (some b0) (some b4)) (ao0_o5 : Ap (some b0) (some b5)) (ao4_o5 : Ap (some b4) (some b5)) {r : Wagon} (hr : Maker_Wagon_0 N x5 x26 = some r) : W Try.prog (sub (bodyOf Try.f18) [1, 1, 0, 1]) (fun ex fr' m' => ∃ z', Zx e.next z0 z' ∧ St z' e m' k ∧ ex = AExit.normal ∧ fr' 5 = (vP b5) ∧ Bx z' e m' k b5 [(str r.number), (vI r.length), (vI r.axles), (vI r.mass), (vI r.brake), (vI r.goods), (vB r.gentle), (str r.dest)] 42 ∧ Bx z' e m' k b0 [v0_0, (vI x0.n)] 53 ∧ Bx z' e m' k b4 [(str x4.number), (vI x4.length), (vI x4.axles), (vI x4.mass), (vI x4.brake), (vI x4.goods), (vB x4.gentle), (str x4.dest)] 42 ∧ Ap (some b5) (some b0) ∧ Ap (some b5) (some b4) ∧ Ap (some b0) (some b4) ∧ True) fr m := by
 unfold Maker_Wagon_0 at hr
 refine W.block ?_
 refine W.seq (W.seq (W.region ?_))
 refine sx rfl (pEql (k := .u8) (a := x26) (b := 50) rfl h26 rfl) ?_
 obtain ⟨y121, hy121, hr⟩ := lt_some hr
 refine sx rfl (pAssign rfl (congrArg vB hy121)) ?_
 refine SeqW.done fun fr122 hf123 => ?_
 have h0 := (congrFun hf123 0).trans h0
 have h4 := (congrFun hf123 4).trans h4
 have h5 := (congrFun hf123 5).trans h5
 have h26 := (congrFun hf123 26).trans h26
 have h27 : fr122 27 = (vB y121) := (congrFun hf123 27).trans rfl
 clear hf123
 refine thenQ.n ?_
 obtain ⟨y129, hy129, hr⟩ := bind_some hr
 refine W.keep (u_Maker_Wagon_1 (x0 := x0) (x4 := x4) (x5 := x5) (Zx.refl _) st h0 s0_0 bx0 h4 bx4 h5 bx5 h26 h27 ao0_o4 ao0_o5 ao4_o5 hy129) ?_
 rintro ex135 fr130 m131 hk133 ⟨z132, hz134, st, rfl, h27, O136, O137, O138, A139, A140, A141, -⟩
 replace s0_0 := s0_0.mono hz134.le
 have h0 := (hk133 0 rfl).trans h0
 have h4 := (hk133 4 rfl).trans h4
 have h5 := (hk133 5 rfl).trans h5
 have h26 := (hk133 26 rfl).trans h26
 replace hz := hz.trans hz134
 clear hk133
 refine thenQ.n ?_
 rcases if_some hr with ⟨hc142, hr⟩ | ⟨hc147, hr⟩
 ·refine W.condT h27 hc142 (W.region ?_)
  refine SeqW.consX rfl (kField rfl Try.underlying42 rfl Try.type3 rfl h5 rfl ?_)
  refine SeqW.consX rfl (kPut (off := 2) (w := (vI 2)) (new := [(vI 2)]) rfl Try.type3 rfl rfl rfl rfl rfl O138 rfl [(str x5.number), (vI x5.length), (vI 2), (vI x5.mass), (vI x5.brake), (vI x5.goods), (vB x5.gentle), (str x5.dest)] rfl st ?_)
  intro m143 st O138 sm144
  replace O136 := O136.same sm144 A140
  replace O137 := O137.same sm144 A141
  refine SeqW.done fun fr145 hf146 => ?_
  have h0 := (congrFun hf146 0).trans h0
  have h4 := (congrFun hf146 4).trans h4
  have h5 := (congrFun hf146 5).trans h5
  clear hf146
  refine blockQ.n ?_
  obtain rfl := Option.some.inj hr
  exact ⟨z132, hz, st, rfl, h5, O138, O136, O137, (Ap.symm A140), (Ap.symm A141), A139, trivial⟩
 ·refine W.condF h27 hc147 (W.seq (W.region ?_))
  refine sx rfl (pEql (k := .u8) (a := x26) (b := 57) rfl h26 rfl) ?_
  obtain ⟨y148, hy148, hr⟩ := lt_some hr
  refine sx rfl (pAssign rfl (congrArg vB hy148)) ?_
  refine SeqW.done fun fr149 hf150 => ?_
  have h0 := (congrFun hf150 0).trans h0
  have h4 := (congrFun hf150 4).trans h4
  have h5 := (congrFun hf150 5).trans h5
  have h31 : fr149 31 = (vB y148) := (congrFun hf150 31).trans rfl
  clear hf150
  refine thenQ.n ?_
  rcases if_some hr with ⟨hc151, hr⟩ | ⟨hc160, hr⟩
  ·refine W.condT h31 hc151 (W.seq (W.region ?_))
   refine SeqW.consX rfl (kField rfl Try.underlying42 rfl Try.type3 rfl h5 rfl ?_)
   refine SeqW.consX rfl (kPut (off := 2) (w := (vI 6)) (new := [(vI 6)]) rfl Try.type3 rfl rfl rfl rfl rfl O138 rfl [(str x5.number), (vI x5.length), (vI 6), (vI x5.mass), (vI x5.brake), (vI x5.goods), (vB x5.gentle), (str x5.dest)] rfl st ?_)
   intro m152 st O138 sm153
   replace O136 := O136.same sm153 A140
   replace O137 := O137.same sm153 A141
   refine SeqW.done fun fr154 hf155 => ?_
   have h0 := (congrFun hf155 0).trans h0
   have h4 := (congrFun hf155 4).trans h4
   have h5 := (congrFun hf155 5).trans h5
   clear hf155
   refine thenQ.n (W.region ?_)
   refine SeqW.consX rfl (kField rfl Try.underlying42 rfl Try.type3 rfl h5 rfl ?_)
   refine SeqW.consX rfl (kLoad rfl Try.underlying3 rfl rfl (O138.load (v := (vI x5.length)) rfl) ?_)
   refine sx rfl (pMax2 (k := .i64) (a := x5.length) (b := 120) rfl rfl rfl) ?_
   refine SeqW.consX rfl (kField rfl Try.underlying42 rfl Try.type3 rfl h5 rfl ?_)
   refine SeqW.consX rfl (kPut (off := 1) (w := (vI (max x5.length 120))) (new := [(vI (max x5.length 120))]) rfl Try.type3 rfl rfl rfl rfl rfl O138 rfl [(str x5.number), (vI (max x5.length 120)), (vI 6), (vI x5.mass), (vI x5.brake), (vI x5.goods), (vB x5.gentle), (str x5.dest)] rfl st ?_)
   intro m156 st O138 sm157
   replace O136 := O136.same sm157 A140
   replace O137 := O137.same sm157 A141
   refine SeqW.done fun fr158 hf159 => ?_
   have h0 := (congrFun hf159 0).trans h0
   have h4 := (congrFun hf159 4).trans h4
   have h5 := (congrFun hf159 5).trans h5
   clear hf159
   refine blockQ.n ?_
   obtain rfl := Option.some.inj hr
   exact ⟨z132, hz, st, rfl, h5, O138, O136, O137, (Ap.symm A140), (Ap.symm A141), A139, trivial⟩
  ·refine W.condF h31 hc160 (W.skip ?_)
   refine blockQ.n ?_
   obtain rfl := Option.some.inj hr
   exact ⟨z132, hz, st, rfl, h5, O138, O136, O137, (Ap.symm A140), (Ap.symm A141), A139, trivial⟩

theorem u_Maker_Wagon {N : Nat}  {z0 z : Nat → Blk} {e m : Mem} {k : Option Nat} {fr : Nat → Value} {x0 : Maker} {x1 : Int} {v0_0 : Value} {b0 : Nat} (hz : Zx e.next z0 z) (st : St z e m k) (h0 : fr 0 = (vP b0)) (s0_0 : SlR (TInt 3 .i64) z x0.l v0_0) (bx0 : Bx z e m k b0 [v0_0, (vI x0.n)] 53) (h1 : fr 1 = (vI x1)) {r : Wagon × Maker} (hr : Maker_Wagon N x0 x1 = some r) : W Try.prog (sub (bodyOf Try.f18) []) (fun ex fr' m' => ∃ z', Zx e.next z0 z' ∧ St z' e m' k ∧ (ex = .normal ∨ ex = .ret) ∧ ∃ (c4 : Nat) (wr_0 : Value), fr' 4 = (vP c4) ∧ Bx z' e m' k c4 [(str r.1.number), (vI r.1.length), (vI r.1.axles), (vI r.1.mass), (vI r.1.brake), (vI r.1.goods), (vB r.1.gentle), (str r.1.dest)] 42 ∧ (e.next ≤ c4 ∨ k = some c4) ∧ SlR (TInt 3 .i64) z' r.2.l wr_0 ∧ Bx z' e m' k b0 [wr_0, (vI r.2.n)] 53 ∧ True) fr m := by
 unfold Maker_Wagon at hr
 refine W.seq (W.region ?_)
 refine SeqW.consX rfl (kAlloc rfl Try.type42 rfl rfl rfl [(str []), (vI 0), (vI 0), (vI 0), (vI 0), (vI 0), (vB false), (str [])] rfl st ?_)
 intro B1 m2 st X3 sm4 hap5
 have A7 := hap5 _ bx0.lt'
 replace bx0 := bx0.same sm4 Ap.none'
 refine SeqW.done fun fr8 hf9 => ?_
 have h0 := (congrFun hf9 0).trans h0
 have h1 := (congrFun hf9 1).trans h1
 have h4 : fr8 4 = (vP B1) := (congrFun hf9 4).trans rfl
 clear hf9
 refine thenQ.n (W.seq (W.region ?_))
 refine sx rfl (pMove (v := (vP b0)) rfl h0) ?_
 refine sx rfl (pMove (v := (vI x1)) rfl h1) ?_
 obtain ⟨y10, hy10, hr⟩ := bind_some hr
 refine SeqW.consX rfl (StepX.call (gCallee rfl rfl (args2 rfl rfl)) ((c_Maker_Number (x0 := x0) (z := z) st.fz st.dead s0_0 ⟨bx0.blk, bx0.lt, bx0.dead, .inr rfl⟩ hy10).mono ?_))
 rintro _ m15 ⟨z11, V16, hzx12, fz13, sm14, rfl, Q17, X19, -⟩
 replace s0_0 := s0_0.mono hzx12.le
 replace X3 := X3.call hzx12 sm14 (Ap.symm A7)
 have bx0n : Bx z11 e m15 k b0 _ _ := ⟨X19.blk, X19.lt, X19.dead, bx0.fresh⟩
 replace hz := hz.trans (Zx.here st hzx12)
 replace st := st.call hzx12 fz13 sm14 bx0.hq
 refine sx rfl (pMove (v := (vP b0)) rfl h0) ?_
 refine SeqW.consX rfl (kBuild (T := (TInt 3 .i64)) rfl Try.underlying22 Try.type3 rfl rfl rfl rfl ([80, 120, 142, 199, 262, 400] : List Int) [[(vI 80)], [(vI 120)], [(vI 142)], [(vI 199)], [(vI 262)], [(vI 400)]] rfl rfl rfl (BuildOk.mk (w := (vI 80)) rfl rfl rfl rfl (BuildOk.mk (w := (vI 120)) rfl rfl rfl rfl (BuildOk.mk (w := (vI 142)) rfl rfl rfl rfl (BuildOk.mk (w := (vI 199)) rfl rfl rfl rfl (BuildOk.mk (w := (vI 262)) rfl rfl rfl rfl (BuildOk.mk (w := (vI 400)) rfl rfl rfl rfl trivial)))))) st ?_)
 intro V20 m21 st O22 sm23 hap24
 have A26 := hap24 _ bx0n.lt'
 have A27 := hap24 _ X3.lt'
 replace bx0n := bx0n.same sm23 Ap.none'
 replace X3 := X3.same sm23 Ap.none'
 obtain ⟨z28, hz29, st, Q30, hl31⟩ := O22.freeze st
 replace bx0n := bx0n.zle (hl31 _ A26)
 replace X3 := X3.zle (hl31 _ A27)
 replace Q17 := Q17.mono hz29.le
 replace hz := hz.trans hz29
 obtain ⟨y32, hy32, hr⟩ := bind_some hr
 refine SeqW.consX rfl (StepX.call (gCallee rfl rfl (args2 rfl rfl)) ((c_Maker_Pick (x0 := y10.2) (z := z28) st.fz st.dead Q17 ⟨bx0n.blk, bx0n.lt, bx0n.dead, .inr rfl⟩ Q30 hy32).mono ?_))
 rintro _ m37 ⟨z33, V38, hzx34, fz35, sm36, rfl, Q39, X41, -⟩
 replace X3 := X3.call hzx34 sm36 (Ap.symm A7)
 replace Q17 := Q17.mono hzx34.le
 replace Q30 := Q30.mono hzx34.le
 have bx0nn : Bx z33 e m37 k b0 _ _ := ⟨X41.blk, X41.lt, X41.dead, bx0n.fresh⟩
 replace hz := hz.trans (Zx.here st hzx34)
 replace st := st.call hzx34 fz35 sm36 bx0n.hq
 refine sx rfl (pMove (v := (vP b0)) rfl h0) ?_
 refine SeqW.consX rfl (kBuild (T := (TInt 3 .i64)) rfl Try.underlying22 Try.type3 rfl rfl rfl rfl ([50, 120, 400, 800, 2000] : List Int) [[(vI 50)], [(vI 120)], [(vI 400)], [(vI 800)], [(vI 2000)]] rfl rfl rfl (BuildOk.mk (w := (vI 50)) rfl rfl rfl rfl (BuildOk.mk (w := (vI 120)) rfl rfl rfl rfl (BuildOk.mk (w := (vI 400)) rfl rfl rfl rfl (BuildOk.mk (w := (vI 800)) rfl rfl rfl rfl (BuildOk.mk (w := (vI 2000)) rfl rfl rfl rfl trivial))))) st ?_)
 intro V42 m43 st O44 sm45 hap46
 have A48 := hap46 _ bx0nn.lt'
 have A49 := hap46 _ X3.lt'
 replace bx0nn := bx0nn.same sm45 Ap.none'
 replace X3 := X3.same sm45 Ap.none'
 obtain ⟨z50, hz51, st, Q52, hl53⟩ := O44.freeze st
 replace bx0nn := bx0nn.zle (hl53 _ A48)
 replace X3 := X3.zle (hl53 _ A49)
 replace Q39 := Q39.mono hz51.le
 replace hz := hz.trans hz51
 obtain ⟨y54, hy54, hr⟩ := bind_some hr
 refine SeqW.consX rfl (StepX.call (gCallee rfl rfl (args2 rfl rfl)) ((c_Maker_Pick (x0 := y32.2) (z := z50) st.fz st.dead Q39 ⟨bx0nn.blk, bx0nn.lt, bx0nn.dead, .inr rfl⟩ Q52 hy54).mono ?_))
 rintro _ m59 ⟨z55, V60, hzx56, fz57, sm58, rfl, Q61, X63, -⟩
 replace X3 := X3.call hzx56 sm58 (Ap.symm A7)
 replace Q39 := Q39.mono hzx56.le
 replace Q52 := Q52.mono hzx56.le
 have bx0nnn : Bx z55 e m59 k b0 _ _ := ⟨X63.blk, X63.lt, X63.dead, bx0nn.fresh⟩
 replace hz := hz.trans (Zx.here st hzx56)
 replace st := st.call hzx56 fz57 sm58 bx0nn.hq
 refine sx rfl (pMove (v := (vP b0)) rfl h0) ?_
 refine SeqW.consX rfl (kBuild (T := (TInt 3 .i64)) rfl Try.underlying22 Try.type3 rfl rfl rfl rfl ([0, 0, 0, 1, 3, 9] : List Int) [[(vI 0)], [(vI 0)], [(vI 0)], [(vI 1)], [(vI 3)], [(vI 9)]] rfl rfl rfl (BuildOk.mk (w := (vI 0)) rfl rfl rfl rfl (BuildOk.mk (w := (vI 0)) rfl rfl rfl rfl (BuildOk.mk (w := (vI 0)) rfl rfl rfl rfl (BuildOk.mk (w := (vI 1)) rfl rfl rfl rfl (BuildOk.mk (w := (vI 3)) rfl rfl rfl rfl (BuildOk.mk (w := (vI 9)) rfl rfl rfl rfl trivial)))))) st ?_)
 intro V64 m65 st O66 sm67 hap68
 have A70 := hap68 _ bx0nnn.lt'
 have A71 := hap68 _ X3.lt'
 replace bx0nnn := bx0nnn.same sm67 Ap.none'
 replace X3 := X3.same sm67 Ap.none'
 obtain ⟨z72, hz73, st, Q74, hl75⟩ := O66.freeze st
 replace bx0nnn := bx0nnn.zle (hl75 _ A70)
 replace X3 := X3.zle (hl75 _ A71)
 replace Q61 := Q61.mono hz73.le
 replace hz := hz.trans hz73
 obtain ⟨y76, hy76, hr⟩ := bind_some hr
 refine SeqW.consX rfl (StepX.call (gCallee rfl rfl (args2 rfl rfl)) ((c_Maker_Pick (x0 := y54.2) (z := z72) st.fz st.dead Q61 ⟨bx0nnn.blk, bx0nnn.lt, bx0nnn.dead, .inr rfl⟩ Q74 hy76).mono ?_))
 rintro _ m81 ⟨z77, V82, hzx78, fz79, sm80, rfl, Q83, X85, -⟩
 replace X3 := X3.call hzx78 sm80 (Ap.symm A7)
 replace Q61 := Q61.mono hzx78.le
 replace Q74 := Q74.mono hzx78.le
 have bx0nnnn : Bx z77 e m81 k b0 _ _ := ⟨X85.blk, X85.lt, X85.dead, bx0nnn.fresh⟩
 replace hz := hz.trans (Zx.here st hzx78)
 replace st := st.call hzx78 fz79 sm80 bx0nnn.hq
 refine sx rfl (pMove (v := (vP b0)) rfl h0) ?_
 obtain ⟨y86, hy86, hr⟩ := bind_some hr
 refine SeqW.consX rfl (StepX.call (gCallee rfl rfl (args2 rfl rfl)) ((c_Maker_Next (x0 := y76.2) (z := z77) st.fz st.dead Q83 ⟨bx0nnnn.blk, bx0nnnn.lt, bx0nnnn.dead, .inr rfl⟩ hy86).mono ?_))
 rintro _ m91 ⟨z87, V92, hzx88, fz89, sm90, rfl, Q93, X95, -⟩
 replace X3 := X3.call hzx88 sm90 (Ap.symm A7)
 replace Q83 := Q83.mono hzx88.le
 have bx0nnnnn : Bx z87 e m91 k b0 _ _ := ⟨X95.blk, X95.lt, X95.dead, bx0nnnn.fresh⟩
 replace hz := hz.trans (Zx.here st hzx88)
 replace st := st.call hzx88 fz89 sm90 bx0nnnn.hq
 refine sx rfl (pEql (k := .i64) (a := y86.1) (b := 0) rfl rfl rfl) ?_
 refine sx rfl (pMove (v := (vP b0)) rfl h0) ?_
 obtain ⟨y96, hy96, hr⟩ := bind_some hr
 refine SeqW.consX rfl (StepX.call (gCallee rfl rfl (args1 rfl)) ((c_Maker_Name (x0 := y86.2) (z := z87) st.fz st.dead Q93 ⟨bx0nnnnn.blk, bx0nnnnn.lt, bx0nnnnn.dead, .inr rfl⟩ hy96).mono ?_))
 rintro _ m101 ⟨z97, V102, hzx98, fz99, sm100, rfl, Q103, X105, -⟩
 replace X3 := X3.call hzx98 sm100 (Ap.symm A7)
 replace Q93 := Q93.mono hzx98.le
 have bx0nnnnnn : Bx z97 e m101 k b0 _ _ := ⟨X105.blk, X105.lt, X105.dead, bx0nnnnn.fresh⟩
 replace hz := hz.trans (Zx.here st hzx98)
 replace st := st.call hzx98 fz99 sm100 bx0nnnnn.hq
 refine SeqW.consX rfl (kBuildS [(0, (str y10.1)), (2, (vI 4)), (1, (vI y32.1)), (3, (vI y54.1)), (5, (vI y76.1)), (6, (vB (y86.1 == 0))), (7, (str y96.1))] [(str y10.1), (vI y32.1), (vI 4), (vI y54.1), (vI 0), (vI y76.1), (vB (y86.1 == 0)), (str y96.1)] rfl Try.underlying42 Try.type42 rfl rfl (places42 Try.underlying42) rfl (rfl) rfl ?_)
 refine SeqW.consX rfl (kAlloc rfl Try.type42 rfl rfl rfl [(str []), (vI 0), (vI 0), (vI 0), (vI 0), (vI 0), (vB false), (str [])] rfl st ?_)
 intro B106 m107 st X108 sm109 hap110
 have A112 := hap110 _ bx0nnnnnn.lt'
 have A113 := hap110 _ X3.lt'
 replace bx0nnnnnn := bx0nnnnnn.same sm109 Ap.none'
 replace X3 := X3.same sm109 Ap.none'
 refine SeqW.consX rfl (kPut (off := 0) (w := (Value.agg [(str y10.1), (vI y32.1), (vI 4), (vI y54.1), (vI 0), (vI y76.1), (vB (y86.1 == 0)), (str y96.1)].toArray)) (new := [(str y10.1), (vI y32.1), (vI 4), (vI y54.1), (vI 0), (vI y76.1), (vB (y86.1 == 0)), (str y96.1)]) rfl Try.type42 rfl rfl rfl rfl rfl X108 rfl [(str y10.1), (vI y32.1), (vI 4), (vI y54.1), (vI 0), (vI y76.1), (vB (y86.1 == 0)), (str y96.1)] rfl st ?_)
 intro m114 st X108 sm115
 replace bx0nnnnnn := bx0nnnnnn.same sm115 A112
 replace X3 := X3.same sm115 A113
 refine SeqW.done fun fr116 hf117 => ?_
 have h0 := (congrFun hf117 0).trans h0
 have h4 := (congrFun hf117 4).trans h4
 have h5 : fr116 5 = (vP B106) := (congrFun hf117 5).trans rfl
 clear hf117
 refine thenQ.n (W.seq ?_)
 refine W.seq (W.region ?_)
 refine SeqW.consX rfl (kField rfl Try.underlying42 rfl Try.type9 rfl h5 rfl ?_)
 refine SeqW.consX rfl (kLoad rfl Try.underlying9 rfl rfl (X108.load (v := (str y10.1)) rfl) ?_)
 obtain ⟨y118, hy118, hr⟩ := bind_some hr
 refine SeqW.consX rfl (kIndexS (s := y10.1) (n := 4) rfl Try.underlying9 rfl rfl hy118 ?_)
 refine SeqW.done fun fr119 hf120 => ?_
 have h0 := (congrFun hf120 0).trans h0
 have h4 := (congrFun hf120 4).trans h4
 have h5 := (congrFun hf120 5).trans h5
 have h26 : fr119 26 = (Value.int .u8 (UInt8.toNat y118 : Int)) := (congrFun hf120 26).trans rfl
 clear hf120
 refine thenQ.n ?_
 obtain ⟨y161, hy161, hr⟩ := bind_some hr
 refine W.keep (u_Maker_Wagon_0 (x0 := y96.2) (x4 := (Wagon.mk [] 0 0 0 0 0 false [])) (x5 := (Wagon.mk y10.1 y32.1 4 y54.1 0 y76.1 (y86.1 == 0) y96.1)) (Zx.refl _) st h0 Q103 bx0nnnnnn h4 X3 h5 X108 h26 A7 A112 A113 hy161) ?_
 rintro ex167 fr162 m163 hk165 ⟨z164, hz166, st, rfl, h5, X169, O170, O171, A172, A173, A174, -⟩
 replace Q103 := Q103.mono hz166.le
 have h0 := (hk165 0 rfl).trans h0
 have h4 := (hk165 4 rfl).trans h4
 replace hz := hz.trans hz166
 clear hk165
 refine thenQ.n (W.seq ?_)
 refine W.draw ?_
 refine DrawW.cons rfl (kField rfl Try.underlying42 rfl Try.type3 rfl h5 rfl ?_)
 refine ⟨trivial, ?_⟩
 refine DrawW.cons rfl (kLoad rfl Try.underlying3 rfl rfl (X169.load (v := (vI y161.mass)) rfl) ?_)
 refine ⟨?_, ?_⟩
 ·exact demN
 refine DrawW.cons rfl (StepX.pure (pMove (v := (vP b0)) rfl h0) ?_)
 refine ⟨trivial, ?_⟩
 have sto175 := st
 have old176 := O170
 have old177 := O171
 have old178 := X169
 obtain ⟨y179, hy179, hr⟩ := bind_some hr
 refine DrawW.cons rfl (StepX.call (gCallee rfl rfl (args2 rfl rfl)) ((c_Maker_Next (x0 := y96.2) (z := z164) st.fz st.dead Q103 ⟨O170.blk, O170.lt, O170.dead, .inr rfl⟩ hy179).mono ?_))
 rintro _ m184 ⟨z180, V185, hzx181, fz182, sm183, rfl, Q186, X188, -⟩
 have sr189 := Q103
 replace O171 := O171.call hzx181 sm183 (Ap.symm A174)
 replace Q103 := Q103.mono hzx181.le
 replace X169 := X169.call hzx181 sm183 A172
 have O170n : Bx z180 e m184 k b0 _ _ := ⟨X188.blk, X188.lt, X188.dead, O170.fresh⟩
 replace hz := hz.trans (Zx.here st hzx181)
 replace st := st.call hzx181 fz182 sm183 O170.hq
 refine ⟨⟨?_, ?_⟩, ?_⟩
 ·first | refine demP (gLoad rfl Try.underlying3 rfl rfl (X169.load (v := (vI y161.mass)) rfl)) ?_ | refine demA (by decide) ?_
  exact demN
 ·exact demN
 refine DrawW.cons rfl (StepX.pure (pMul (k := .i64) (a := y161.mass) (b := y179.1) rfl rfl rfl) ?_)
 refine ⟨trivial, ?_⟩
 refine DrawW.cons rfl (StepX.pure (pQuo (k := .i64) (a := (IntKind.wrap .i64 (y161.mass * y179.1))) (b := 4) rfl rfl rfl (by decide)) ?_)
 refine ⟨trivial, ?_⟩
 refine DrawW.cons rfl (kField rfl Try.underlying42 rfl Try.type3 rfl h5 rfl ?_)
 refine ⟨trivial, ?_⟩
 have sto190 := st
 have old191 := O170n
 have old192 := O171
 have old193 := X169
 refine DrawW.cons rfl (kPut (off := 4) (w := (vI (IntKind.wrap .i64 (Int.tdiv (IntKind.wrap .i64 (y161.mass * y179.1)) 4)))) (new := [(vI (IntKind.wrap .i64 (Int.tdiv (IntKind.wrap .i64 (y161.mass * y179.1)) 4)))]) rfl Try.type3 rfl rfl rfl rfl rfl X169 rfl [(str y161.number), (vI y161.length), (vI y161.axles), (vI y161.mass), (vI (IntKind.wrap .i64 (Int.tdiv (IntKind.wrap .i64 (y161.mass * y179.1)) 4))), (vI y161.goods), (vB y161.gentle), (str y161.dest)] rfl st ?_)
 intro m194 st X169 sm195
 replace O170n := O170n.same sm195 (Ap.symm A172)
 replace O171 := O171.same sm195 (Ap.symm A173)
 refine ⟨⟨?_, ?_⟩, ?_⟩
 ·first | refine demP (gLoad rfl Try.underlying3 rfl rfl (X169.load (v := (vI y161.mass)) rfl)) ?_ | refine demA (by decide) ?_
  exact demN
 ·exact demN
 refine DrawW.done fun fr196 hf197 => ?_
 have h0 := (congrFun hf197 0).trans h0
 have h4 := (congrFun hf197 4).trans h4
 have h5 := (congrFun hf197 5).trans h5
 clear hf197
 refine thenQ.n (W.seq (W.region ?_))
 refine SeqW.consX rfl (kLoadA rfl Try.underlying42 rfl Try.type42 rfl h5 X169.loads ?_)
 refine SeqW.consX rfl (kPut (off := 0) (w := (Value.agg [(str y161.number), (vI y161.length), (vI y161.axles), (vI y161.mass), (vI (IntKind.wrap .i64 (Int.tdiv (IntKind.wrap .i64 (y161.mass * y179.1)) 4))), (vI y161.goods), (vB y161.gentle), (str y161.dest)].toArray)) (new := [(str y161.number), (vI y161.length), (vI y161.axles), (vI y161.mass), (vI (IntKind.wrap .i64 (Int.tdiv (IntKind.wrap .i64 (y161.mass * y179.1)) 4))), (vI y161.goods), (vB y161.gentle), (str y161.dest)]) rfl Try.type42 h4 rfl rfl rfl rfl O171 rfl [(str y161.number), (vI y161.length), (vI y161.axles), (vI y161.mass), (vI (IntKind.wrap .i64 (Int.tdiv (IntKind.wrap .i64 (y161.mass * y179.1)) 4))), (vI y161.goods), (vB y161.gentle), (str y161.dest)] rfl st ?_)
 intro m198 st O171 sm199
 replace O170n := O170n.same sm199 A174
 refine SeqW.done fun fr200 hf201 => ?_
 have h0 := (congrFun hf201 0).trans h0
 have h4 := (congrFun hf201 4).trans h4
 clear hf201
 refine thenQ.n ?_
 refine W.ret ?_
 obtain rfl := Option.some.inj hr
 exact ⟨z180, hz, st, .inr rfl, B1, V185, h4, O171, O171.fresh, Q186, O170n, trivial⟩

theorem c_Maker_Wagon {N : Nat} {z : Nat → Blk} {m : Mem} {x0 : Maker} {x1 : Int} {v0_0 : Value} {b0 : Nat} (fz : Fz z m) (hd : ∀ b, m.next ≤ b → m.blk b = .dead) (s0_0 : SlR (TInt 3 .i64) z x0.l v0_0) (bx0 : Bx z m m (some b0) b0 [v0_0, (vI x0.n)] 53) {r : Wagon × Maker} (hr : Maker_Wagon N x0 x1 = some r) : CallW Try.prog 18 #[(vP b0), (vI x1)] m fun v m' => ∃ z' wr_0, Zx m.next z z' ∧ Fz z' m' ∧ Same m m' (some b0) ∧ v = (Value.agg [(str r.1.number), (vI r.1.length), (vI r.1.axles), (vI r.1.mass), (vI r.1.brake), (vI r.1.goods), (vB r.1.gentle), (str r.1.dest)].toArray) ∧ SlR (TInt 3 .i64) z' r.2.l wr_0 ∧ Bx z' m m' (some b0) b0 [wr_0, (vI r.2.n)] 53 ∧ True := by
 refine CallW.any Try.func18 rfl (by kernel_rfl) (Nat.le_of_ble_eq_true rfl) (fun fr hf => ?_)
 have h0 : fr 0 = _ := hf 0 _ rfl
 have h1 : fr 1 = _ := hf 1 _ rfl
 refine (u_Maker_Wagon (k := (some b0)) (Zx.refl _) (St.start fz hd) h0 s0_0 bx0 h1 hr).mono ?_
 rintro ex fr' m' ⟨z', hz, st, he, c4, wr_0, h4, bx4, fx4, sr_0, bxr, -⟩
 exact ⟨he, [(Value.agg [(str r.1.number), (vI r.1.length), (vI r.1.axles), (vI r.1.mass), (vI r.1.brake), (vI r.1.goods), (vB r.1.gentle), (str r.1.dest)].toArray)], ⟨resCell h4 bx4 Try.underlying42 rfl Try.type42 rfl, trivial⟩, .inl rfl, z', wr_0, hz, st.fz, st.toSame, rfl, sr_0, bxr, trivial⟩

/-! ### (*humpyard/humpgen.Maker).Wagons -/

theorem u_Maker_Wagons_0 : ∀ (n : Nat) {N : Nat}  {z0 z : Nat → Blk} {e m : Mem} {k : Option Nat} {fr : Nat → Value} {x0 : Maker} {x5 : List Wagon} {x6 : Int} {v0_0 : Value} {b0 : Nat} {v5 : Value} (hz : Zx e.next z0 z) (st : St z e m k) (h0 : fr 0 = (vP b0)) (s0_0 : SlR (TInt 3 .i64) z x0.l v0_0) (bx0 : Bx z e m k b0 [v0_0, (vI x0.n)] 53) (h5 : fr 5 = v5) (o5 : OwF TWagon z e m k x5 v5) (h6 : fr 6 = (vI x6)) (ao0_o5 : Ap (some b0) (blkOf v5)) {r : Maker × List Wagon} (hr : Maker_Wagons_0 N n x0 x5 x6 = some r), W Try.prog (sub (bodyOf Try.f10) [1, 1, 0, 1, 0]) (fun ex fr' m' => ∃ z', Zx e.next z0 z' ∧ St z' e m' k ∧ ex = AExit.exit 0 ∧ ∃ (w0_0 : Value) (w5 : Value), fr' 0 = (vP b0) ∧ SlR (TInt 3 .i64) z' r.1.l w0_0 ∧ Bx z' e m' k b0 [w0_0, (vI r.1.n)] 53 ∧ fr' 5 = w5 ∧ OwF TWagon z' e m' k r.2 w5 ∧ Ap (some b0) (blkOf w5) ∧ True) fr m := by
 intro n
 induction n with
 | zero => intro N z0 z e m k fr x0 x5 x6 v0_0 b0 v5 hz st h0 s0_0 bx0 h5 o5 h6 ao0_o5 r hr; cases (show (none : Option _) = some r from hr)
 | succ n ih =>
  intro N z0 z e m k fr x0 x5 x6 v0_0 b0 v5 hz st h0 s0_0 bx0 h5 o5 h6 ao0_o5 r hr
  unfold Maker_Wagons_0 at hr
  refine W.loop1 ?_
  refine W.seq (W.seq (W.region ?_))
  refine sx rfl (pMove (v := (vI x6)) rfl h6) ?_
  refine sx rfl (pGtr (k := .i64) (a := x6) (b := 0) rfl rfl rfl) ?_
  refine SeqW.done fun fr17 hf18 => ?_
  have h0 := (congrFun hf18 0).trans h0
  have h5 := (congrFun hf18 5).trans h5
  have h6 := (congrFun hf18 6).trans h6
  have h12 : fr17 12 = (vB (decide (0 < x6))) := (congrFun hf18 12).trans rfl
  clear hf18
  refine thenQ.n ?_
  rcases if_some hr with ⟨hc19, hr⟩ | ⟨hc52, hr⟩
  ·refine W.condT h12 hc19 (W.skip ?_)
   refine thenQ.n (W.seq ?_)
   refine W.block ?_
   refine W.region ?_
   refine sx rfl (pMove (v := v5) rfl h5) ?_
   refine sx rfl (pMove (v := (vP b0)) rfl h0) ?_
   refine sx rfl (pMove (v := v5) rfl h5) ?_
   refine sx rfl (pLenO (xs := x5) rfl Try.underlying24 rfl o5.ow) ?_
   obtain ⟨y20, hy20, hr⟩ := bind_some hr
   refine SeqW.consX rfl (StepX.call (gCallee rfl rfl (args2 rfl rfl)) ((c_Maker_Wagon (x0 := x0) (z := z) st.fz st.dead s0_0 ⟨bx0.blk, bx0.lt, bx0.dead, .inr rfl⟩ hy20).mono ?_))
   rintro _ m25 ⟨z21, V26, hzx22, fz23, sm24, rfl, Q27, X29, -⟩
   replace s0_0 := s0_0.mono hzx22.le
   replace o5 := o5.call hzx22 sm24 (Ap.symm ao0_o5)
   have bx0n : Bx z21 e m25 k b0 _ _ := ⟨X29.blk, X29.lt, X29.dead, bx0.fresh⟩
   replace hz := hz.trans (Zx.here st hzx22)
   replace st := st.call hzx22 fz23 sm24 bx0.hq
   refine SeqW.consX rfl (kBuild (T := TWagon) rfl Try.underlying24 Try.type42 rfl rfl rfl rfl ([y20.1] : List Wagon) [[(str y20.1.number), (vI y20.1.length), (vI y20.1.axles), (vI y20.1.mass), (vI y20.1.brake), (vI y20.1.goods), (vB y20.1.gentle), (str y20.1.dest)]] rfl rfl rfl (BuildOk.mk (w := (Value.agg [(str y20.1.number), (vI y20.1.length), (vI y20.1.axles), (vI y20.1.mass), (vI y20.1.brake), (vI y20.1.goods), (vB y20.1.gentle), (str y20.1.dest)].toArray)) rfl rfl rfl rfl trivial) st ?_)
   intro V30 m31 st O32 sm33 hap34
   have A36 := hap34 _ bx0n.lt'
   have A37 := hap34 _ o5.lt
   replace bx0n := bx0n.same sm33 Ap.none'
   replace o5 := o5.same sm33 Ap.none'
   obtain ⟨y38, hy38, hr⟩ := bind_some hr
   refine SeqW.consX rfl (kAppend (T := TWagon) (xs := x5) (ys := ([y20.1] : List Wagon)) rfl Try.underlying24 Try.type42 rfl rfl rfl rfl rfl rfl (.inl ⟨_, Try.underlying24⟩) rfl o5 rfl O32.ow.src st hy38 ?_)
   intro V39 m40 st O41 sm42 hap43
   have A45 := hap43 _ bx0n.lt' ao0_o5
   have A46 := hap43 _ O32.lt (Ap.symm A37)
   replace bx0n := bx0n.same sm42 ao0_o5
   replace O32 := O32.same sm42 (Ap.symm A37)
   refine sx rfl (pAssign (v := V39) rfl rfl) ?_
   refine SeqW.done fun fr47 hf48 => ?_
   have h0 := (congrFun hf48 0).trans h0
   have h5 : fr47 5 = V39 := (congrFun hf48 5).trans rfl
   have h6 := (congrFun hf48 6).trans h6
   clear hf48
   refine blockQ.n ?_
   refine thenQ.n (W.region ?_)
   refine sx rfl (pMove (v := (vI x6)) rfl h6) ?_
   refine sx rfl (pSub (k := .i64) (a := x6) (b := 1) rfl rfl rfl) ?_
   obtain ⟨y49, hy49, hr⟩ := lt_some hr
   refine sx rfl (pAssign rfl (congrArg (Value.int .i64) hy49)) ?_
   refine SeqW.done fun fr50 hf51 => ?_
   have h0 := (congrFun hf51 0).trans h0
   have h5 := (congrFun hf51 5).trans h5
   have h6 : fr50 6 = (vI y49) := (congrFun hf51 6).trans rfl
   clear hf51
   refine thenQ.n ?_
   exact ih (x0 := y20.2) hz st h0 Q27 bx0n h5 O41 h6 A45 hr
  ·refine W.condF h12 hc52 ?_
   refine W.exit ?_
   refine thenQ.x ?_
   refine thenQ.x ?_
   obtain rfl := Option.some.inj hr
   exact ⟨z, hz, st, rfl, v0_0, v5, h0, s0_0, bx0, h5, o5, ao0_o5, trivial⟩

theorem u_Maker_Wagons {N : Nat}  {z0 z : Nat → Blk} {e m : Mem} {k : Option Nat} {fr : Nat → Value} {x0 : Maker} {x1 : Int} {v0_0 : Value} {b0 : Nat} (hz : Zx e.next z0 z) (st : St z e m k) (h0 : fr 0 = (vP b0)) (s0_0 : SlR (TInt 3 .i64) z x0.l v0_0) (bx0 : Bx z e m k b0 [v0_0, (vI x0.n)] 53) (h1 : fr 1 = (vI x1)) {r : List Wagon × Maker} (hr : Maker_Wagons N x0 x1 = some r) : W Try.prog (sub (bodyOf Try.f10) []) (fun ex fr' m' => ∃ z', Zx e.next z0 z' ∧ St z' e m' k ∧ (ex = .normal ∨ ex = .ret) ∧ ∃ (w4 : Value) (wr_0 : Value), fr' 4 = w4 ∧ OwF TWagon z' e m' k r.1 w4 ∧ SlR (TInt 3 .i64) z' r.2.l wr_0 ∧ Bx z' e m' k b0 [wr_0, (vI r.2.n)] 53 ∧ True) fr m := by
 unfold Maker_Wagons at hr
 refine W.seq (W.region ?_)
 refine sx rfl (pAssign (v := (Value.slice none 0 0)) rfl rfl) ?_
 refine SeqW.done fun fr1 hf2 => ?_
 have h0 := (congrFun hf2 0).trans h0
 have h1 := (congrFun hf2 1).trans h1
 clear hf2
 refine thenQ.n (W.seq (W.region ?_))
 refine sx rfl (pAssign (v := (Value.slice none 0 0)) rfl rfl) ?_
 refine SeqW.done fun fr3 hf4 => ?_
 have h0 := (congrFun hf4 0).trans h0
 have h1 := (congrFun hf4 1).trans h1
 have h5 : fr3 5 = (Value.slice none 0 0) := (congrFun hf4 5).trans rfl
 clear hf4
 refine thenQ.n (W.seq ?_)
 refine W.seq (W.region ?_)
 refine sx rfl (pMove (v := (vP b0)) rfl h0) ?_
 refine sx rfl (pMove (v := (vI x1)) rfl h1) ?_
 refine sx rfl (pAdd (k := .i64) (a := x1) (b := 1) rfl rfl rfl) ?_
 obtain ⟨y5, hy5, hr⟩ := bind_some hr
 refine SeqW.consX rfl (StepX.call (gCallee rfl rfl (args2 rfl rfl)) ((c_Maker_Next (x0 := x0) (z := z) st.fz st.dead s0_0 ⟨bx0.blk, bx0.lt, bx0.dead, .inr rfl⟩ hy5).mono ?_))
 rintro _ m10 ⟨z6, V11, hzx7, fz8, sm9, rfl, Q12, X14, -⟩
 replace s0_0 := s0_0.mono hzx7.le
 have bx0n : Bx z6 e m10 k b0 _ _ := ⟨X14.blk, X14.lt, X14.dead, bx0.fresh⟩
 replace hz := hz.trans (Zx.here st hzx7)
 replace st := st.call hzx7 fz8 sm9 bx0.hq
 refine sx rfl (pAssign (v := (vI y5.1)) rfl rfl) ?_
 refine SeqW.done fun fr15 hf16 => ?_
 have h0 := (congrFun hf16 0).trans h0
 have h5 := (congrFun hf16 5).trans h5
 have h6 : fr15 6 = (vI y5.1) := (congrFun hf16 6).trans rfl
 clear hf16
 refine thenQ.n ?_
 refine W.block ?_
 obtain ⟨y53, hy53, hr⟩ := bind_some hr
 refine W.keep (u_Maker_Wagons_0 (x0 := y5.2) _ (Zx.refl _) st h0 Q12 bx0n h5 OwF.nil h6 Ap.none' hy53) ?_
 rintro ex59 fr54 m55 hk57 ⟨z56, hz58, st, rfl, w60, w61, h0, Q63, X65, h5, O67, A68, -⟩
 replace hz := hz.trans hz58
 clear hk57
 refine blockQ.hit ?_
 refine thenQ.n (W.seq (W.region ?_))
 refine sx rfl (pMove (v := w61) rfl h5) ?_
 refine sx rfl (pAssign (v := w61) rfl rfl) ?_
 refine SeqW.done fun fr69 hf70 => ?_
 have h0 := (congrFun hf70 0).trans h0
 have h4 : fr69 4 = w61 := (congrFun hf70 4).trans rfl
 clear hf70
 refine thenQ.n ?_
 refine W.ret ?_
 obtain rfl := Option.some.inj hr
 exact ⟨z56, hz, st, .inr rfl, w61, w60, h4, O67, Q63, X65, trivial⟩

theorem c_Maker_Wagons {N : Nat} {z : Nat → Blk} {m : Mem} {x0 : Maker} {x1 : Int} {v0_0 : Value} {b0 : Nat} (fz : Fz z m) (hd : ∀ b, m.next ≤ b → m.blk b = .dead) (s0_0 : SlR (TInt 3 .i64) z x0.l v0_0) (bx0 : Bx z m m (some b0) b0 [v0_0, (vI x0.n)] 53) {r : List Wagon × Maker} (hr : Maker_Wagons N x0 x1 = some r) : CallW Try.prog 10 #[(vP b0), (vI x1)] m fun v m' => ∃ z' w4 wr_0, Zx m.next z z' ∧ Fz z' m' ∧ Same m m' (some b0) ∧ v = w4 ∧ OwF TWagon z' m m' none r.1 w4 ∧ SlR (TInt 3 .i64) z' r.2.l wr_0 ∧ Bx z' m m' (some b0) b0 [wr_0, (vI r.2.n)] 53 ∧ True := by
 refine CallW.any Try.func10 rfl (by kernel_rfl) (Nat.le_of_ble_eq_true rfl) (fun fr hf => ?_)
 have h0 : fr 0 = _ := hf 0 _ rfl
 have h1 : fr 1 = _ := hf 1 _ rfl
 refine (u_Maker_Wagons (k := (some b0)) (Zx.refl _) (St.start fz hd) h0 s0_0 bx0 h1 hr).mono ?_
 rintro ex fr' m' ⟨z', hz, st, he, w4, wr_0, h4, s4, sr_0, bxr, -⟩
 exact ⟨he, [w4], ⟨h4.symm, trivial⟩, .inl rfl, z', w4, wr_0, hz, st.fz, st.toSame, rfl, (s4.up (Nat.le_refl _)), sr_0, bxr, trivial⟩

/-! ### humpyard/wagonnumber.digits -/

theorem u_wagonnumber_digits_1 {N : Nat}  {z0 z : Nat → Blk} {e m : Mem} {k : Option Nat} {fr : Nat → Value} {x0 : List UInt8} {x5 : Int} (hz : Zx e.next z0 z) (st : St z e m k) (h0 : fr 0 = (str x0)) (h5 : fr 5 = (vI x5)) {r : Bool} (hr : wagonnumber_digits_1 N x0 x5 = some r) : W Try.prog (sub (bodyOf Try.f55) [1, 0, 1, 0, 0, 1, 0, 0, 0]) (fun ex fr' m' => ∃ z', Zx e.next z0 z' ∧ St z' e m' k ∧ ex = AExit.normal ∧ fr' 21 = (vB r) ∧ True) fr m := by
 unfold wagonnumber_digits_1 at hr
 refine W.region ?_
 refine sx rfl (pMove (v := (str x0)) rfl h0) ?_
 refine sx rfl (pMove (v := (vI x5)) rfl h5) ?_
 obtain ⟨y8, hy8, hr⟩ := bind_some hr
 refine SeqW.consX rfl (kIndexS (s := x0) (n := x5) rfl Try.underlying9 rfl rfl hy8 ?_)
 refine sx rfl (pLss (k := .u8) (a := (UInt8.toNat y8 : Int)) (b := 48) rfl rfl rfl) ?_
 refine sx rfl (pMove (v := (vB (decide ((UInt8.toNat y8 : Int) < 48)))) rfl rfl) ?_
 rcases if_some hr with ⟨hc9, hr⟩ | ⟨hc12, hr⟩
 ·refine kx rfl rfl rfl hc9 ?_
  iterate 3 refine kx rfl rfl rfl hc9 ?_
  refine sx rfl (pPick (t := true) (v := (vB true)) rfl ((congrArg vB hc9)) rfl) ?_
  refine SeqW.done fun fr10 hf11 => ?_
  have h0 := (congrFun hf11 0).trans h0
  have h5 := (congrFun hf11 5).trans h5
  have h21 : fr10 21 = (vB true) := (congrFun hf11 21).trans rfl
  clear hf11
  obtain rfl := Option.some.inj hr
  exact ⟨z, hz, st, rfl, h21, trivial⟩
 ·refine SeqW.consG rfl rfl rfl hc12 (StepX.pure (pMove (v := (str x0)) rfl h0) ?_)
  refine SeqW.consG rfl rfl rfl hc12 (StepX.pure (pMove (v := (vI x5)) rfl h5) ?_)
  obtain ⟨y13, hy13, hr⟩ := bind_some hr
  refine SeqW.consG rfl rfl rfl hc12 (kIndexS (s := x0) (n := x5) rfl Try.underlying9 rfl rfl hy13 ?_)
  refine SeqW.consG rfl rfl rfl hc12 (StepX.pure (pGtr (k := .u8) (a := (UInt8.toNat y13 : Int)) (b := 57) rfl rfl rfl) ?_)
  refine sx rfl (pPick (t := false) (v := (vB (decide (57 < (UInt8.toNat y13 : Int))))) rfl ((congrArg vB hc12)) rfl) ?_
  refine SeqW.done fun fr14 hf15 => ?_
  have h0 := (congrFun hf15 0).trans h0
  have h5 := (congrFun hf15 5).trans h5
  have h21 : fr14 21 = (vB (decide (57 < (UInt8.toNat y13 : Int)))) := (congrFun hf15 21).trans rfl
  clear hf15
  obtain rfl := Option.some.inj hr
  exact ⟨z, hz, st, rfl, h21, trivial⟩

theorem u_wagonnumber_digits_0 : ∀ (n : Nat) {N : Nat}  {z0 z : Nat → Blk} {e m : Mem} {k : Option Nat} {fr : Nat → Value} {x0 : List UInt8} {x5 : Int} (hz : Zx e.next z0 z) (st : St z e m k) (h0 : fr 0 = (str x0)) (h5 : fr 5 = (vI x5)) {r : Sum (Unit) (Bool)} (hr : wagonnumber_digits_0 N x0 n x5 = some r), W Try.prog (sub (bodyOf Try.f55) [1, 0, 1, 0]) (fun ex fr' m' => ∃ z', Zx e.next z0 z' ∧ St z' e m' k ∧ ((∃ q, r = Sum.inl q ∧ ex = AExit.exit 0 ∧ True) ∨ (∃ q, r = Sum.inr q ∧ ex = AExit.ret ∧ fr' 4 = (vB q) ∧ True))) fr m := by
 intro n
 induction n with
 | zero => intro N z0 z e m k fr x0 x5 hz st h0 h5 r hr; cases (show (none : Option _) = some r from hr)
 | succ n ih =>
  intro N z0 z e m k fr x0 x5 hz st h0 h5 r hr
  unfold wagonnumber_digits_0 at hr
  refine W.loop1 ?_
  refine W.seq (W.seq (W.region ?_))
  refine sx rfl (pMove (v := (vI x5)) rfl h5) ?_
  refine sx rfl (pMove (v := (str x0)) rfl h0) ?_
  refine sx rfl (pLenS (s := x0) rfl rfl Try.underlying9 rfl) ?_
  refine sx rfl (pLss (k := .i64) (a := x5) (b := (x0.length : Int)) rfl rfl rfl) ?_
  refine SeqW.done fun fr5 hf6 => ?_
  have h0 := (congrFun hf6 0).trans h0
  have h5 := (congrFun hf6 5).trans h5
  have h9 : fr5 9 = (vB (decide (x5 < (x0.length : Int)))) := (congrFun hf6 9).trans rfl
  clear hf6
  refine thenQ.n ?_
  rcases if_some hr with ⟨hc7, hr⟩ | ⟨hc30, hr⟩
  ·refine W.condT h9 hc7 (W.skip ?_)
   refine thenQ.n (W.seq ?_)
   refine W.block ?_
   refine W.seq ?_
   obtain ⟨y16, hy16, hr⟩ := bind_some hr
   refine W.keep (u_wagonnumber_digits_1 (Zx.refl _) st h0 h5 hy16) ?_
   rintro ex22 fr17 m18 hk20 ⟨z19, hz21, st, rfl, h21, -⟩
   have h0 := (hk20 0 rfl).trans h0
   have h5 := (hk20 5 rfl).trans h5
   replace hz := hz.trans hz21
   clear hk20
   refine thenQ.n ?_
   rcases if_some hr with ⟨hc23, hr⟩ | ⟨hc26, hr⟩
   ·refine W.condT h21 hc23 (W.seq (W.region ?_))
    refine sx rfl (pAssign (v := (vB false)) rfl rfl) ?_
    refine SeqW.done fun fr24 hf25 => ?_
    have h4 : fr24 4 = (vB false) := (congrFun hf25 4).trans rfl
    clear hf25
    refine thenQ.n ?_
    refine W.ret ?_
    refine blockQ.r ?_
    refine thenQ.r ?_
    refine thenQ.r ?_
    obtain rfl := Option.some.inj hr
    exact ⟨z19, hz, st, .inr ⟨_, rfl, rfl, h4, trivial⟩⟩
   ·refine W.condF h21 hc26 (W.skip ?_)
    refine blockQ.n ?_
    refine thenQ.n (W.region ?_)
    refine sx rfl (pMove (v := (vI x5)) rfl h5) ?_
    refine sx rfl (pAdd (k := .i64) (a := x5) (b := 1) rfl rfl rfl) ?_
    obtain ⟨y27, hy27, hr⟩ := lt_some hr
    refine sx rfl (pAssign rfl (congrArg (Value.int .i64) hy27)) ?_
    refine SeqW.done fun fr28 hf29 => ?_
    have h0 := (congrFun hf29 0).trans h0
    have h5 : fr28 5 = (vI y27) := (congrFun hf29 5).trans rfl
    clear hf29
    refine thenQ.n ?_
    exact ih hz st h0 h5 hr
  ·refine W.condF h9 hc30 ?_
   refine W.exit ?_
   refine thenQ.x ?_
   refine thenQ.x ?_
   obtain rfl := Option.some.inj hr
   exact ⟨z, hz, st, .inl ⟨_, rfl, rfl, trivial⟩⟩

theorem u_wagonnumber_digits {N : Nat}  {z0 z : Nat → Blk} {e m : Mem} {k : Option Nat} {fr : Nat → Value} {x0 : List UInt8} {x1 : Int} (hz : Zx e.next z0 z) (st : St z e m k) (h0 : fr 0 = (str x0)) (h1 : fr 1 = (vI x1)) {r : Bool} (hr : wagonnumber_digits N x0 x1 = some r) : W Try.prog (sub (bodyOf Try.f55) []) (fun ex fr' m' => ∃ z', Zx e.next z0 z' ∧ St z' e m' k ∧ (ex = .normal ∨ ex = .ret) ∧ fr' 4 = (vB r) ∧ True) fr m := by
 unfold wagonnumber_digits at hr
 refine W.seq (W.region ?_)
 refine sx rfl (pAssign (v := (vB false)) rfl rfl) ?_
 refine SeqW.done fun fr1 hf2 => ?_
 have h0 := (congrFun hf2 0).trans h0
 have h1 := (congrFun hf2 1).trans h1
 clear hf2
 refine thenQ.n (W.seq ?_)
 refine W.seq (W.region ?_)
 refine sx rfl (pAssign (v := (vI 0)) rfl rfl) ?_
 refine SeqW.done fun fr3 hf4 => ?_
 have h0 := (congrFun hf4 0).trans h0
 have h1 := (congrFun hf4 1).trans h1
 have h5 : fr3 5 = (vI 0) := (congrFun hf4 5).trans rfl
 clear hf4
 refine thenQ.n ?_
 refine W.block ?_
 obtain ⟨y31, hy31, hr⟩ := bind_some hr
 refine W.keep (u_wagonnumber_digits_0 _ (Zx.refl _) st h0 h5 hy31) ?_
 rintro ex37 fr32 m33 hk35 ⟨z34, hz36, st, ⟨y38, rfl, rfl, -⟩ | ⟨y42, rfl, rfl, h4, -⟩⟩
 ·dsimp only at hr
  have h0 := (hk35 0 rfl).trans h0
  have h1 := (hk35 1 rfl).trans h1
  replace hz := hz.trans hz36
  clear hk35
  refine blockQ.hit ?_
  refine thenQ.n (W.seq (W.region ?_))
  refine sx rfl (pMove (v := (str x0)) rfl h0) ?_
  refine sx rfl (pLenS (s := x0) rfl rfl Try.underlying9 rfl) ?_
  refine sx rfl (pMove (v := (vI x1)) rfl h1) ?_
  refine sx rfl (pEql (k := .i64) (a := (x0.length : Int)) (b := x1) rfl rfl rfl) ?_
  obtain ⟨y39, hy39, hr⟩ := lt_some hr
  refine sx rfl (pAssign rfl (congrArg vB hy39)) ?_
  refine SeqW.done fun fr40 hf41 => ?_
  have h4 : fr40 4 = (vB y39) := (congrFun hf41 4).trans rfl
  clear hf41
  refine thenQ.n ?_
  refine W.ret ?_
  obtain rfl := Option.some.inj hr
  exact ⟨z34, hz, st, .inr rfl, h4, trivial⟩
 ·dsimp only at hr
  replace hz := hz.trans hz36
  clear hk35
  refine blockQ.r ?_
  refine thenQ.r ?_
  obtain rfl := Option.some.inj hr
  exact ⟨z34, hz, st, .inr rfl, h4, trivial⟩

theorem c_wagonnumber_digits {N : Nat} {z : Nat → Blk} {m : Mem} {x0 : List UInt8} {x1 : Int} (fz : Fz z m) (hd : ∀ b, m.next ≤ b → m.blk b = .dead)  {r : Bool} (hr : wagonnumber_digits N x0 x1 = some r) : CallW Try.prog 55 #[(str x0), (vI x1)] m fun v m' => v = (vB r) ∧ m' = m := by
 refine CallW.flat Try.func55 rfl (by kernel_rfl) (Nat.le_of_ble_eq_true rfl) rfl (z := z) (fun fr hf => ?_)
 have h0 : fr 0 = _ := hf 0 _ rfl
 have h1 : fr 1 = _ := hf 1 _ rfl
 refine (u_wagonnumber_digits (k := none) (Zx.refl _) (St.start fz hd) h0 h1 hr).mono ?_
 rintro ex fr' m' ⟨z', hz, st, he, h4, -⟩
 exact ⟨he, z', st, [(vB r)], ⟨h4.symm, trivial⟩, .inl rfl, rfl⟩

/-! ### humpyard/wagonnumber.sum -/

theorem u_wagonnumber_sum_1 {N : Nat}  {z0 z : Nat → Blk} {e m : Mem} {k : Option Nat} {fr : Nat → Value} {x5 : Int} {x19 : Bool} (hz : Zx e.next z0 z) (st : St z e m k) (h5 : fr 5 = (vI x5)) (h19 : fr 19 = (vB x19)) {r : Int} (hr : wagonnumber_sum_1 N x5 x19 = some r) : W Try.prog (sub (bodyOf Try.f57) [1, 1, 0, 1, 0, 0, 1, 0, 0, 1, 0, 1]) (fun ex fr' m' => ∃ z', Zx e.next z0 z' ∧ St z' e m' k ∧ ex = AExit.normal ∧ fr' 5 = (vI r) ∧ True) fr m := by
 unfold wagonnumber_sum_1 at hr
 rcases if_some hr with ⟨hc16, hr⟩ | ⟨hc27, hr⟩
 ·refine W.condT h19 hc16 (W.seq (W.region ?_))
  refine sx rfl (pMove (v := (vI x5)) rfl h5) ?_
  refine sx rfl (pMul (k := .i64) (a := x5) (b := 2) rfl rfl rfl) ?_
  obtain ⟨y17, hy17, hr⟩ := lt_some hr
  refine sx rfl (pAssign rfl (congrArg (Value.int .i64) hy17)) ?_
  refine SeqW.done fun fr18 hf19 => ?_
  have h5 : fr18 5 = (vI y17) := (congrFun hf19 5).trans rfl
  clear hf19
  refine thenQ.n (W.seq (W.region ?_))
  refine sx rfl (pMove (v := (vI y17)) rfl h5) ?_
  refine sx rfl (pGtr (k := .i64) (a := y17) (b := 9) rfl rfl rfl) ?_
  refine SeqW.done fun fr20 hf21 => ?_
  have h5 := (congrFun hf21 5).trans h5
  have h23 : fr20 23 = (vB (decide (9 < y17))) := (congrFun hf21 23).trans rfl
  clear hf21
  refine thenQ.n ?_
  rcases if_some hr with ⟨hc22, hr⟩ | ⟨hc26, hr⟩
  ·refine W.condT h23 hc22 (W.region ?_)
   refine sx rfl (pMove (v := (vI y17)) rfl h5) ?_
   refine sx rfl (pSub (k := .i64) (a := y17) (b := 9) rfl rfl rfl) ?_
   obtain ⟨y23, hy23, hr⟩ := lt_some hr
   refine sx rfl (pAssign rfl (congrArg (Value.int .i64) hy23)) ?_
   refine SeqW.done fun fr24 hf25 => ?_
   have h5 : fr24 5 = (vI y23) := (congrFun hf25 5).trans rfl
   clear hf25
   obtain rfl := Option.some.inj hr
   exact ⟨z, hz, st, rfl, h5, trivial⟩
  ·refine W.condF h23 hc26 (W.skip ?_)
   obtain rfl := Option.some.inj hr
   exact ⟨z, hz, st, rfl, h5, trivial⟩
 ·refine W.condF h19 hc27 (W.skip ?_)
  obtain rfl := Option.some.inj hr
  exact ⟨z, hz, st, rfl, h5, trivial⟩

theorem u_wagonnumber_sum_0 : ∀ (n : Nat) {N : Nat}  {z0 z : Nat → Blk} {e m : Mem} {k : Option Nat} {fr : Nat → Value} {x0 : List UInt8} {x3 : Int} {x4 : Int} (hz : Zx e.next z0 z) (st : St z e m k) (h0 : fr 0 = (str x0)) (h3 : fr 3 = (vI x3)) (h4 : fr 4 = (vI x4)) {r : Int} (hr : wagonnumber_sum_0 N x0 n x3 x4 = some r), W Try.prog (sub (bodyOf Try.f57) [1, 1, 0, 1, 0]) (fun ex fr' m' => ∃ z', Zx e.next z0 z' ∧ St z' e m' k ∧ ex = AExit.exit 0 ∧ fr' 3 = (vI r) ∧ True) fr m := by
 intro n
 induction n with
 | zero => intro N z0 z e m k fr x0 x3 x4 hz st h0 h3 h4 r hr; cases (show (none : Option _) = some r from hr)
 | succ n ih =>
  intro N z0 z e m k fr x0 x3 x4 hz st h0 h3 h4 r hr
  unfold wagonnumber_sum_0 at hr
  refine W.loop1 ?_
  refine W.seq (W.seq (W.region ?_))
  refine sx rfl (pMove (v := (vI x4)) rfl h4) ?_
  refine sx rfl (pMove (v := (str x0)) rfl h0) ?_
  refine sx rfl (pLenS (s := x0) rfl rfl Try.underlying9 rfl) ?_
  refine sx rfl (pLss (k := .i64) (a := x4) (b := (x0.length : Int)) rfl rfl rfl) ?_
  refine SeqW.done fun fr7 hf8 => ?_
  have h0 := (congrFun hf8 0).trans h0
  have h3 := (congrFun hf8 3).trans h3
  have h4 := (congrFun hf8 4).trans h4
  have h9 : fr7 9 = (vB (decide (x4 < (x0.length : Int)))) := (congrFun hf8 9).trans rfl
  clear hf8
  refine thenQ.n ?_
  rcases if_some hr with ⟨hc9, hr⟩ | ⟨hc41, hr⟩
  ·refine W.condT h9 hc9 (W.skip ?_)
   refine thenQ.n (W.seq ?_)
   refine W.block ?_
   refine W.seq (W.region ?_)
   refine sx rfl (pMove (v := (str x0)) rfl h0) ?_
   refine sx rfl (pMove (v := (vI x4)) rfl h4) ?_
   obtain ⟨y10, hy10, hr⟩ := bind_some hr
   refine SeqW.consX rfl (kIndexS (s := x0) (n := x4) rfl Try.underlying9 rfl rfl hy10 ?_)
   refine sx rfl (pSub (k := .u8) (a := (UInt8.toNat y10 : Int)) (b := 48) rfl rfl rfl) ?_
   refine sx rfl (pConv (k := .u8) (a := (IntKind.wrap .u8 ((UInt8.toNat y10 : Int) - 48))) rfl Try.underlying5 Try.underlying3 rfl) ?_
   obtain ⟨y11, hy11, hr⟩ := lt_some hr
   refine sx rfl (pAssign rfl (congrArg (Value.int .i64) hy11)) ?_
   refine SeqW.done fun fr12 hf13 => ?_
   have h0 := (congrFun hf13 0).trans h0
   have h3 := (congrFun hf13 3).trans h3
   have h4 := (congrFun hf13 4).trans h4
   have h5 : fr12 5 = (vI y11) := (congrFun hf13 5).trans rfl
   clear hf13
   refine thenQ.n (W.seq ?_)
   refine W.seq (W.region ?_)
   refine sx rfl (pMove (v := (vI x4)) rfl h4) ?_
   refine sx rfl (pRem (k := .i64) (a := x4) (b := 2) rfl rfl rfl (by decide)) ?_
   refine sx rfl (pEql (k := .i64) (a := (Int.tmod x4 2)) (b := 0) rfl rfl rfl) ?_
   refine SeqW.done fun fr14 hf15 => ?_
   have h0 := (congrFun hf15 0).trans h0
   have h3 := (congrFun hf15 3).trans h3
   have h4 := (congrFun hf15 4).trans h4
   have h5 := (congrFun hf15 5).trans h5
   have h19 : fr14 19 = (vB ((Int.tmod x4 2) == 0)) := (congrFun hf15 19).trans rfl
   clear hf15
   refine thenQ.n ?_
   obtain ⟨y28, hy28, hr⟩ := bind_some hr
   refine W.keep (u_wagonnumber_sum_1 (Zx.refl _) st h5 h19 hy28) ?_
   rintro ex34 fr29 m30 hk32 ⟨z31, hz33, st, rfl, h5, -⟩
   have h0 := (hk32 0 rfl).trans h0
   have h3 := (hk32 3 rfl).trans h3
   have h4 := (hk32 4 rfl).trans h4
   replace hz := hz.trans hz33
   clear hk32
   refine thenQ.n (W.region ?_)
   refine sx rfl (pMove (v := (vI x3)) rfl h3) ?_
   refine sx rfl (pMove (v := (vI y28)) rfl h5) ?_
   refine sx rfl (pAdd (k := .i64) (a := x3) (b := y28) rfl rfl rfl) ?_
   obtain ⟨y35, hy35, hr⟩ := lt_some hr
   refine sx rfl (pAssign rfl (congrArg (Value.int .i64) hy35)) ?_
   refine SeqW.done fun fr36 hf37 => ?_
   have h0 := (congrFun hf37 0).trans h0
   have h3 : fr36 3 = (vI y35) := (congrFun hf37 3).trans rfl
   have h4 := (congrFun hf37 4).trans h4
   clear hf37
   refine blockQ.n ?_
   refine thenQ.n (W.region ?_)
   refine sx rfl (pMove (v := (vI x4)) rfl h4) ?_
   refine sx rfl (pAdd (k := .i64) (a := x4) (b := 1) rfl rfl rfl) ?_
   obtain ⟨y38, hy38, hr⟩ := lt_some hr
   refine sx rfl (pAssign rfl (congrArg (Value.int .i64) hy38)) ?_
   refine SeqW.done fun fr39 hf40 => ?_
   have h0 := (congrFun hf40 0).trans h0
   have h3 := (congrFun hf40 3).trans h3
   have h4 : fr39 4 = (vI y38) := (congrFun hf40 4).trans rfl
   clear hf40
   refine thenQ.n ?_
   exact ih hz st h0 h3 h4 hr
  ·refine W.condF h9 hc41 ?_
   refine W.exit ?_
   refine thenQ.x ?_
   refine thenQ.x ?_
   obtain rfl := Option.some.inj hr
   exact ⟨z, hz, st, rfl, h3, trivial⟩

theorem u_wagonnumber_sum {N : Nat}  {z0 z : Nat → Blk} {e m : Mem} {k : Option Nat} {fr : Nat → Value} {x0 : List UInt8} (hz : Zx e.next z0 z) (st : St z e m k) (h0 : fr 0 = (str x0)) {r : Int} (hr : wagonnumber_sum N x0 = some r) : W Try.prog (sub (bodyOf Try.f57) []) (fun ex fr' m' => ∃ z', Zx e.next z0 z' ∧ St z' e m' k ∧ (ex = .normal ∨ ex = .ret) ∧ fr' 2 = (vI r) ∧ True) fr m := by
 unfold wagonnumber_sum at hr
 refine W.seq (W.region ?_)
 refine sx rfl (pAssign (v := (vI 0)) rfl rfl) ?_
 refine SeqW.done fun fr1 hf2 => ?_
 have h0 := (congrFun hf2 0).trans h0
 clear hf2
 refine thenQ.n (W.seq (W.region ?_))
 refine sx rfl (pAssign (v := (vI 0)) rfl rfl) ?_
 refine SeqW.done fun fr3 hf4 => ?_
 have h0 := (congrFun hf4 0).trans h0
 have h3 : fr3 3 = (vI 0) := (congrFun hf4 3).trans rfl
 clear hf4
 refine thenQ.n (W.seq ?_)
 refine W.seq (W.region ?_)
 refine sx rfl (pAssign (v := (vI 0)) rfl rfl) ?_
 refine SeqW.done fun fr5 hf6 => ?_
 have h0 := (congrFun hf6 0).trans h0
 have h3 := (congrFun hf6 3).trans h3
 have h4 : fr5 4 = (vI 0) := (congrFun hf6 4).trans rfl
 clear hf6
 refine thenQ.n ?_
 refine W.block ?_
 obtain ⟨y42, hy42, hr⟩ := bind_some hr
 refine W.keep (u_wagonnumber_sum_0 _ (Zx.refl _) st h0 h3 h4 hy42) ?_
 rintro ex48 fr43 m44 hk46 ⟨z45, hz47, st, rfl, h3, -⟩
 replace hz := hz.trans hz47
 clear hk46
 refine blockQ.hit ?_
 refine thenQ.n (W.seq (W.region ?_))
 refine sx rfl (pMove (v := (vI y42)) rfl h3) ?_
 refine sx rfl (pAssign (v := (vI y42)) rfl rfl) ?_
 refine SeqW.done fun fr49 hf50 => ?_
 have h2 : fr49 2 = (vI y42) := (congrFun hf50 2).trans rfl
 clear hf50
 refine thenQ.n ?_
 refine W.ret ?_
 obtain rfl := Option.some.inj hr
 exact ⟨z45, hz, st, .inr rfl, h2, trivial⟩

theorem c_wagonnumber_sum {N : Nat} {z : Nat → Blk} {m : Mem} {x0 : List UInt8} (fz : Fz z m) (hd : ∀ b, m.next ≤ b → m.blk b = .dead)  {r : Int} (hr : wagonnumber_sum N x0 = some r) : CallW Try.prog 57 #[(str x0)] m fun v m' => v = (vI r) ∧ m' = m := by
 refine CallW.flat Try.func57 rfl (by kernel_rfl) (Nat.le_of_ble_eq_true rfl) rfl (z := z) (fun fr hf => ?_)
 have h0 : fr 0 = _ := hf 0 _ rfl
 refine (u_wagonnumber_sum (k := none) (Zx.refl _) (St.start fz hd) h0 hr).mono ?_
 rintro ex fr' m' ⟨z', hz, st, he, h2, -⟩
 exact ⟨he, z', st, [(vI r)], ⟨h2.symm, trivial⟩, .inl rfl, rfl⟩

/-! ### humpyard/wagonnumber.check -/

theorem u_wagonnumber_check {N : Nat}  {z0 z : Nat → Blk} {e m : Mem} {k : Option Nat} {fr : Nat → Value} {x0 : List UInt8} (hz : Zx e.next z0 z) (st : St z e m k) (h0 : fr 0 = (str x0)) {r : Int} (hr : wagonnumber_check N x0 = some r) : W Try.prog (sub (bodyOf Try.f56) []) (fun ex fr' m' => ∃ z', Zx e.next z0 z' ∧ St z' e m' k ∧ (ex = .normal ∨ ex = .ret) ∧ fr' 2 = (vI r) ∧ True) fr m := by
 unfold wagonnumber_check at hr
 refine W.seq (W.region ?_)
 refine sx rfl (pAssign (v := (vI 0)) rfl rfl) ?_
 refine SeqW.done fun fr1 hf2 => ?_
 have h0 := (congrFun hf2 0).trans h0
 clear hf2
 refine thenQ.n (W.seq (W.region ?_))
 refine sx rfl (pMove (v := (str x0)) rfl h0) ?_
 obtain ⟨y3, hy3, hr⟩ := bind_some hr
 refine SeqW.consX rfl (StepX.call (gCallee rfl rfl (args1 rfl)) ((c_wagonnumber_sum (z := z) st.fz st.dead  hy3).mono ?_))
 rintro _ _ ⟨rfl, rfl⟩
 refine sx rfl (pRem (k := .i64) (a := y3) (b := 10) rfl rfl rfl (by decide)) ?_
 refine sx rfl (pSub (k := .i64) (a := 10) (b := (Int.tmod y3 10)) rfl rfl rfl) ?_
 refine sx rfl (pRem (k := .i64) (a := (IntKind.wrap .i64 (10 - (Int.tmod y3 10)))) (b := 10) rfl rfl rfl (by decide)) ?_
 obtain ⟨y4, hy4, hr⟩ := lt_some hr
 refine sx rfl (pAssign rfl (congrArg (Value.int .i64) hy4)) ?_
 refine SeqW.done fun fr5 hf6 => ?_
 have h2 : fr5 2 = (vI y4) := (congrFun hf6 2).trans rfl
 clear hf6
 refine thenQ.n ?_
 refine W.ret ?_
 obtain rfl := Option.some.inj hr
 exact ⟨z, hz, st, .inr rfl, h2, trivial⟩

theorem c_wagonnumber_check {N : Nat} {z : Nat → Blk} {m : Mem} {x0 : List UInt8} (fz : Fz z m) (hd : ∀ b, m.next ≤ b → m.blk b = .dead)  {r : Int} (hr : wagonnumber_check N x0 = some r) : CallW Try.prog 56 #[(str x0)] m fun v m' => v = (vI r) ∧ m' = m := by
 refine CallW.flat Try.func56 rfl (by kernel_rfl) (Nat.le_of_ble_eq_true rfl) rfl (z := z) (fun fr hf => ?_)
 have h0 : fr 0 = _ := hf 0 _ rfl
 refine (u_wagonnumber_check (k := none) (Zx.refl _) (St.start fz hd) h0 hr).mono ?_
 rintro ex fr' m' ⟨z', hz, st, he, h2, -⟩
 exact ⟨he, z', st, [(vI r)], ⟨h2.symm, trivial⟩, .inl rfl, rfl⟩

/-! ### humpyard/wagonnumber.Valid -/

theorem u_wagonnumber_Valid {N : Nat}  {z0 z : Nat → Blk} {e m : Mem} {k : Option Nat} {fr : Nat → Value} {x0 : List UInt8} (hz : Zx e.next z0 z) (st : St z e m k) (h0 : fr 0 = (str x0)) {r : Int} (hr : wagonnumber_Valid N x0 = some r) : W Try.prog (sub (bodyOf Try.f53) []) (fun ex fr' m' => ∃ z', Zx e.next z0 z' ∧ St z' e m' k ∧ (ex = .normal ∨ ex = .ret) ∧ fr' 2 = (vI r) ∧ True) fr m := by
 unfold wagonnumber_Valid at hr
 refine W.seq (W.region ?_)
 refine sx rfl (pAssign (v := (vI 0)) rfl rfl) ?_
 refine SeqW.done fun fr1 hf2 => ?_
 have h0 := (congrFun hf2 0).trans h0
 clear hf2
 refine thenQ.n (W.seq ?_)
 refine W.seq (W.region ?_)
 refine sx rfl (pMove (v := (str x0)) rfl h0) ?_
 obtain ⟨y3, hy3, hr⟩ := bind_some hr
 refine SeqW.consX rfl (StepX.call (gCallee rfl rfl (args2 rfl rfl)) ((c_wagonnumber_digits (z := z) st.fz st.dead  hy3).mono ?_))
 rintro _ _ ⟨rfl, rfl⟩
 refine sx rfl (pNot (b := y3) rfl rfl) ?_
 refine SeqW.done fun fr4 hf5 => ?_
 have h0 := (congrFun hf5 0).trans h0
 have h5 : fr4 5 = (vB (!y3)) := (congrFun hf5 5).trans rfl
 clear hf5
 refine thenQ.n ?_
 rcases if_some hr with ⟨hc6, hr⟩ | ⟨hc9, hr⟩
 ·refine W.condT h5 hc6 (W.seq (W.region ?_))
  refine sx rfl (pAssign (v := (vI 11)) rfl rfl) ?_
  refine SeqW.done fun fr7 hf8 => ?_
  have h2 : fr7 2 = (vI 11) := (congrFun hf8 2).trans rfl
  clear hf8
  refine thenQ.n ?_
  refine W.ret ?_
  refine thenQ.r ?_
  obtain rfl := Option.some.inj hr
  exact ⟨z, hz, st, .inr rfl, h2, trivial⟩
 ·refine W.condF h5 hc9 (W.skip ?_)
  refine thenQ.n (W.seq (W.seq ?_))
  refine W.draw ?_
  refine DrawW.cons rfl (StepX.pure (pMove (v := (str x0)) rfl h0) ?_)
  refine ⟨trivial, ?_⟩
  obtain ⟨y10, hy10, hr⟩ := bind_some hr
  refine DrawW.cons rfl (kIndexS (s := x0) (n := 11) rfl Try.underlying9 rfl rfl hy10 ?_)
  refine ⟨trivial, ?_⟩
  refine DrawW.cons rfl (StepX.pure (pSub (k := .u8) (a := (UInt8.toNat y10 : Int)) (b := 48) rfl rfl rfl) ?_)
  refine ⟨trivial, ?_⟩
  refine DrawW.cons rfl (StepX.pure (pConv (k := .u8) (a := (IntKind.wrap .u8 ((UInt8.toNat y10 : Int) - 48))) rfl Try.underlying5 Try.underlying3 rfl) ?_)
  refine ⟨trivial, ?_⟩
  refine DrawW.cons rfl (StepX.pure (pMove (v := (str x0)) rfl h0) ?_)
  refine ⟨trivial, ?_⟩
  obtain ⟨y11, hy11, hr⟩ := bind_some hr
  refine DrawW.cons rfl (kCutS (s := x0) (a := 0) (b := 11) rfl Try.underlying9 rfl rfl ⟨_, rfl⟩ hy11 ?_)
  refine ⟨trivial, ?_⟩
  have sto12 := st
  obtain ⟨y13, hy13, hr⟩ := bind_some hr
  refine DrawW.cons rfl (StepX.call (gCallee rfl rfl (args1 rfl)) ((c_wagonnumber_check (z := z) st.fz st.dead  hy13).mono ?_))
  rintro _ _ ⟨rfl, rfl⟩
  refine ⟨⟨?_, ?_⟩, ?_⟩
  ·exact demN
  ·exact demN
  refine DrawW.cons rfl (StepX.pure (pNeq (k := .i64) (a := (IntKind.wrap .i64 (IntKind.wrap .u8 ((UInt8.toNat y10 : Int) - 48)))) (b := y13) rfl rfl rfl) ?_)
  refine ⟨trivial, ?_⟩
  refine DrawW.done fun fr14 hf15 => ?_
  have h13 : fr14 13 = (vB ((IntKind.wrap .i64 (IntKind.wrap .u8 ((UInt8.toNat y10 : Int) - 48))) != y13)) := (congrFun hf15 13).trans rfl
  clear hf15
  refine thenQ.n ?_
  rcases if_some hr with ⟨hc16, hr⟩ | ⟨hc19, hr⟩
  ·refine W.condT h13 hc16 (W.seq (W.region ?_))
   refine sx rfl (pAssign (v := (vI 9)) rfl rfl) ?_
   refine SeqW.done fun fr17 hf18 => ?_
   have h2 : fr17 2 = (vI 9) := (congrFun hf18 2).trans rfl
   clear hf18
   refine thenQ.n ?_
   refine W.ret ?_
   refine thenQ.r ?_
   obtain rfl := Option.some.inj hr
   exact ⟨z, hz, st, .inr rfl, h2, trivial⟩
  ·refine W.condF h13 hc19 (W.skip ?_)
   refine thenQ.n (W.seq (W.region ?_))
   refine sx rfl (pAssign (v := (vI 0)) rfl rfl) ?_
   refine SeqW.done fun fr20 hf21 => ?_
   have h2 : fr20 2 = (vI 0) := (congrFun hf21 2).trans rfl
   clear hf21
   refine thenQ.n ?_
   refine W.ret ?_
   obtain rfl := Option.some.inj hr
   exact ⟨z, hz, st, .inr rfl, h2, trivial⟩

theorem c_wagonnumber_Valid {N : Nat} {z : Nat → Blk} {m : Mem} {x0 : List UInt8} (fz : Fz z m) (hd : ∀ b, m.next ≤ b → m.blk b = .dead)  {r : Int} (hr : wagonnumber_Valid N x0 = some r) : CallW Try.prog 53 #[(str x0)] m fun v m' => v = (vI r) ∧ m' = m := by
 refine CallW.flat Try.func53 rfl (by kernel_rfl) (Nat.le_of_ble_eq_true rfl) rfl (z := z) (fun fr hf => ?_)
 have h0 : fr 0 = _ := hf 0 _ rfl
 refine (u_wagonnumber_Valid (k := none) (Zx.refl _) (St.start fz hd) h0 hr).mono ?_
 rintro ex fr' m' ⟨z', hz, st, he, h2, -⟩
 exact ⟨he, z', st, [(vI r)], ⟨h2.symm, trivial⟩, .inl rfl, rfl⟩

/-! ### humpyard/wagonnumber.Kind -/

theorem u_wagonnumber_Kind_0 {N : Nat}  {z0 z : Nat → Blk} {e m : Mem} {k : Option Nat} {fr : Nat → Value} {x11 : Int} {x12 : Bool} (hz : Zx e.next z0 z) (st : St z e m k) (h11 : fr 11 = (Value.int .u8 x11)) (h12 : fr 12 = (vB x12)) {r : Bool} (hr : wagonnumber_Kind_0 N x11 x12 = some r) : W Try.prog (sub (bodyOf Try.f45) [1, 1, 0, 1, 0, 0, 1]) (fun ex fr' m' => ∃ z', Zx e.next z0 z' ∧ St z' e m' k ∧ ex = AExit.normal ∧ fr' 12 = (vB r) ∧ True) fr m := by
 unfold wagonnumber_Kind_0 at hr
 rcases if_some hr with ⟨hc18, hr⟩ | ⟨hc19, hr⟩
 ·refine W.condT h12 hc18 (W.skip ?_)
  obtain rfl := Option.some.inj hr
  exact ⟨z, hz, st, rfl, h12, trivial⟩
 ·refine W.condF h12 hc19 (W.region ?_)
  refine sx rfl (pEql (k := .u8) (a := x11) (b := 56) rfl h11 rfl) ?_
  obtain ⟨y20, hy20, hr⟩ := lt_some hr
  refine sx rfl (pAssign rfl (congrArg vB hy20)) ?_
  refine SeqW.done fun fr21 hf22 => ?_
  have h11 := (congrFun hf22 11).trans h11
  have h12 : fr21 12 = (vB y20) := (congrFun hf22 12).trans rfl
  clear hf22
  obtain rfl := Option.some.inj hr
  exact ⟨z, hz, st, rfl, h12, trivial⟩

theorem u_wagonnumber_Kind_1 {N : Nat}  {z0 z : Nat → Blk} {e m : Mem} {k : Option Nat} {fr : Nat → Value} {x11 : Int} {x15 : Bool} (hz : Zx e.next z0 z) (st : St z e m k) (h11 : fr 11 = (Value.int .u8 x11)) (h15 : fr 15 = (vB x15)) {r : Bool} (hr : wagonnumber_Kind_1 N x11 x15 = some r) : W Try.prog (sub (bodyOf Try.f45) [1, 1, 0, 1, 0, 1, 1, 0, 1]) (fun ex fr' m' => ∃ z', Zx e.next z0 z' ∧ St z' e m' k ∧ ex = AExit.normal ∧ fr' 15 = (vB r) ∧ True) fr m := by
 unfold wagonnumber_Kind_1 at hr
 rcases if_some hr with ⟨hc37, hr⟩ | ⟨hc38, hr⟩
 ·refine W.condT h15 hc37 (W.skip ?_)
  obtain rfl := Option.some.inj hr
  exact ⟨z, hz, st, rfl, h15, trivial⟩
 ·refine W.condF h15 hc38 (W.region ?_)
  refine sx rfl (pEql (k := .u8) (a := x11) (b := 52) rfl h11 rfl) ?_
  obtain ⟨y39, hy39, hr⟩ := lt_some hr
  refine sx rfl (pAssign rfl (congrArg vB hy39)) ?_
  refine SeqW.done fun fr40 hf41 => ?_
  have h11 := (congrFun hf41 11).trans h11
  have h15 : fr40 15 = (vB y39) := (congrFun hf41 15).trans rfl
  clear hf41
  obtain rfl := Option.some.inj hr
  exact ⟨z, hz, st, rfl, h15, trivial⟩

theorem u_wagonnumber_Kind {N : Nat}  {z0 z : Nat → Blk} {e m : Mem} {k : Option Nat} {fr : Nat → Value} {x0 : List UInt8} (hz : Zx e.next z0 z) (st : St z e m k) (h0 : fr 0 = (str x0)) {r : Int × Int} (hr : wagonnumber_Kind N x0 = some r) : W Try.prog (sub (bodyOf Try.f45) []) (fun ex fr' m' => ∃ z', Zx e.next z0 z' ∧ St z' e m' k ∧ (ex = .normal ∨ ex = .ret) ∧ fr' 2 = (vI r.1) ∧ fr' 3 = (vI r.2) ∧ True) fr m := by
 unfold wagonnumber_Kind at hr
 refine W.seq (W.region ?_)
 refine sx rfl (pAssign (v := (vI 0)) rfl rfl) ?_
 refine sx rfl (pAssign (v := (vI 0)) rfl rfl) ?_
 refine SeqW.done fun fr1 hf2 => ?_
 have h0 := (congrFun hf2 0).trans h0
 clear hf2
 refine thenQ.n (W.seq ?_)
 refine W.seq (W.region ?_)
 refine sx rfl (pMove (v := (str x0)) rfl h0) ?_
 obtain ⟨y3, hy3, hr⟩ := bind_some hr
 refine SeqW.consX rfl (StepX.call (gCallee rfl rfl (args1 rfl)) ((c_wagonnumber_Valid (z := z) st.fz st.dead  hy3).mono ?_))
 rintro _ _ ⟨rfl, rfl⟩
 refine sx rfl (pAssign (v := (vI y3)) rfl rfl) ?_
 refine SeqW.done fun fr4 hf5 => ?_
 have h0 := (congrFun hf5 0).trans h0
 have h4 : fr4 4 = (vI y3) := (congrFun hf5 4).trans rfl
 clear hf5
 refine thenQ.n (W.seq (W.region ?_))
 refine sx rfl (pMove (v := (vI y3)) rfl h4) ?_
 refine sx rfl (pNeq (k := .i64) (a := y3) (b := 0) rfl rfl rfl) ?_
 refine SeqW.done fun fr6 hf7 => ?_
 have h0 := (congrFun hf7 0).trans h0
 have h4 := (congrFun hf7 4).trans h4
 have h8 : fr6 8 = (vB (y3 != 0)) := (congrFun hf7 8).trans rfl
 clear hf7
 refine thenQ.n ?_
 rcases if_some hr with ⟨hc8, hr⟩ | ⟨hc11, hr⟩
 ·refine W.condT h8 hc8 (W.seq (W.region ?_))
  refine sx rfl (pMove (v := (vI y3)) rfl h4) ?_
  refine sx rfl (pAssign (v := (vI 0)) rfl rfl) ?_
  refine sx rfl (pAssign (v := (vI y3)) rfl rfl) ?_
  refine SeqW.done fun fr9 hf10 => ?_
  have h2 : fr9 2 = (vI 0) := (congrFun hf10 2).trans rfl
  have h3 : fr9 3 = (vI y3) := (congrFun hf10 3).trans rfl
  clear hf10
  refine thenQ.n ?_
  refine W.ret ?_
  refine thenQ.r ?_
  obtain rfl := Option.some.inj hr
  exact ⟨z, hz, st, .inr rfl, h2, h3, trivial⟩
 ·refine W.condF h8 hc11 (W.skip ?_)
  refine thenQ.n (W.seq ?_)
  refine W.seq (W.region ?_)
  refine sx rfl (pMove (v := (str x0)) rfl h0) ?_
  obtain ⟨y12, hy12, hr⟩ := bind_some hr
  refine SeqW.consX rfl (kIndexS (s := x0) (n := 4) rfl Try.underlying9 rfl rfl hy12 ?_)
  refine SeqW.done fun fr13 hf14 => ?_
  have h11 : fr13 11 = (Value.int .u8 (UInt8.toNat y12 : Int)) := (congrFun hf14 11).trans rfl
  clear hf14
  refine thenQ.n ?_
  refine W.block ?_
  refine W.seq (W.seq (W.region ?_))
  refine sx rfl (pEql (k := .u8) (a := (UInt8.toNat y12 : Int)) (b := 55) rfl h11 rfl) ?_
  obtain ⟨y15, hy15, hr⟩ := lt_some hr
  refine sx rfl (pAssign rfl (congrArg vB hy15)) ?_
  refine SeqW.done fun fr16 hf17 => ?_
  have h11 := (congrFun hf17 11).trans h11
  have h12 : fr16 12 = (vB y15) := (congrFun hf17 12).trans rfl
  clear hf17
  refine thenQ.n ?_
  obtain ⟨y23, hy23, hr⟩ := bind_some hr
  refine W.keep (u_wagonnumber_Kind_0 (Zx.refl _) st h11 h12 hy23) ?_
  rintro ex29 fr24 m25 hk27 ⟨z26, hz28, st, rfl, h12, -⟩
  have h11 := (hk27 11 rfl).trans h11
  replace hz := hz.trans hz28
  clear hk27
  refine thenQ.n ?_
  rcases if_some hr with ⟨hc30, hr⟩ | ⟨hc33, hr⟩
  ·refine W.condT h12 hc30 (W.seq (W.region ?_))
   refine sx rfl (pAssign (v := (vI 1)) rfl rfl) ?_
   refine sx rfl (pAssign (v := (vI 0)) rfl rfl) ?_
   refine SeqW.done fun fr31 hf32 => ?_
   have h2 : fr31 2 = (vI 1) := (congrFun hf32 2).trans rfl
   have h3 : fr31 3 = (vI 0) := (congrFun hf32 3).trans rfl
   clear hf32
   refine thenQ.n ?_
   refine W.ret ?_
   refine blockQ.r ?_
   refine thenQ.r ?_
   obtain rfl := Option.some.inj hr
   exact ⟨z26, hz, st, .inr rfl, h2, h3, trivial⟩
  ·refine W.condF h12 hc33 (W.seq ?_)
   refine W.seq (W.region ?_)
   refine sx rfl (pEql (k := .u8) (a := (UInt8.toNat y12 : Int)) (b := 50) rfl h11 rfl) ?_
   obtain ⟨y34, hy34, hr⟩ := lt_some hr
   refine sx rfl (pAssign rfl (congrArg vB hy34)) ?_
   refine SeqW.done fun fr35 hf36 => ?_
   have h11 := (congrFun hf36 11).trans h11
   have h15 : fr35 15 = (vB y34) := (congrFun hf36 15).trans rfl
   clear hf36
   refine thenQ.n ?_
   obtain ⟨y42, hy42, hr⟩ := bind_some hr
   refine W.keep (u_wagonnumber_Kind_1 (Zx.refl _) st h11 h15 hy42) ?_
   rintro ex48 fr43 m44 hk46 ⟨z45, hz47, st, rfl, h15, -⟩
   have h11 := (hk46 11 rfl).trans h11
   replace hz := hz.trans hz47
   clear hk46
   refine thenQ.n ?_
   rcases if_some hr with ⟨hc49, hr⟩ | ⟨hc52, hr⟩
   ·refine W.condT h15 hc49 (W.seq (W.region ?_))
    refine sx rfl (pAssign (v := (vI 2)) rfl rfl) ?_
    refine sx rfl (pAssign (v := (vI 0)) rfl rfl) ?_
    refine SeqW.done fun fr50 hf51 => ?_
    have h2 : fr50 2 = (vI 2) := (congrFun hf51 2).trans rfl
    have h3 : fr50 3 = (vI 0) := (congrFun hf51 3).trans rfl
    clear hf51
    refine thenQ.n ?_
    refine W.ret ?_
    refine blockQ.r ?_
    refine thenQ.r ?_
    obtain rfl := Option.some.inj hr
    exact ⟨z45, hz, st, .inr rfl, h2, h3, trivial⟩
   ·refine W.condF h15 hc52 (W.seq (W.region ?_))
    refine sx rfl (pEql (k := .u8) (a := (UInt8.toNat y12 : Int)) (b := 57) rfl h11 rfl) ?_
    obtain ⟨y53, hy53, hr⟩ := lt_some hr
    refine sx rfl (pAssign rfl (congrArg vB hy53)) ?_
    refine SeqW.done fun fr54 hf55 => ?_
    have h18 : fr54 18 = (vB y53) := (congrFun hf55 18).trans rfl
    clear hf55
    refine thenQ.n ?_
    rcases if_some hr with ⟨hc56, hr⟩ | ⟨hc59, hr⟩
    ·refine W.condT h18 hc56 (W.seq (W.region ?_))
     refine sx rfl (pAssign (v := (vI 3)) rfl rfl) ?_
     refine sx rfl (pAssign (v := (vI 0)) rfl rfl) ?_
     refine SeqW.done fun fr57 hf58 => ?_
     have h2 : fr57 2 = (vI 3) := (congrFun hf58 2).trans rfl
     have h3 : fr57 3 = (vI 0) := (congrFun hf58 3).trans rfl
     clear hf58
     refine thenQ.n ?_
     refine W.ret ?_
     refine blockQ.r ?_
     refine thenQ.r ?_
     obtain rfl := Option.some.inj hr
     exact ⟨z45, hz, st, .inr rfl, h2, h3, trivial⟩
    ·refine W.condF h18 hc59 (W.skip ?_)
     refine blockQ.n ?_
     refine thenQ.n (W.seq (W.region ?_))
     refine sx rfl (pAssign (v := (vI 0)) rfl rfl) ?_
     refine sx rfl (pAssign (v := (vI 0)) rfl rfl) ?_
     refine SeqW.done fun fr60 hf61 => ?_
     have h2 : fr60 2 = (vI 0) := (congrFun hf61 2).trans rfl
     have h3 : fr60 3 = (vI 0) := (congrFun hf61 3).trans rfl
     clear hf61
     refine thenQ.n ?_
     refine W.ret ?_
     obtain rfl := Option.some.inj hr
     exact ⟨z45, hz, st, .inr rfl, h2, h3, trivial⟩

theorem c_wagonnumber_Kind {N : Nat} {z : Nat → Blk} {m : Mem} {x0 : List UInt8} (fz : Fz z m) (hd : ∀ b, m.next ≤ b → m.blk b = .dead)  {r : Int × Int} (hr : wagonnumber_Kind N x0 = some r) : CallW Try.prog 45 #[(str x0)] m fun v m' => v = (Value.tuple [(vI r.1), (vI r.2)].toArray) ∧ m' = m := by
 refine CallW.flat Try.func45 rfl (by kernel_rfl) (Nat.le_of_ble_eq_true rfl) rfl (z := z) (fun fr hf => ?_)
 have h0 : fr 0 = _ := hf 0 _ rfl
 refine (u_wagonnumber_Kind (k := none) (Zx.refl _) (St.start fz hd) h0 hr).mono ?_
 rintro ex fr' m' ⟨z', hz, st, he, h2, h3, -⟩
 exact ⟨he, z', st, [(vI r.1), (vI r.2)], ⟨h2.symm, h3.symm, trivial⟩, .inr (List.forall_mem_cons.2 ⟨rfl, List.forall_mem_cons.2 ⟨rfl, fun _ h => nomatch h⟩⟩), rfl⟩

/-! ### humpyard/consist.axles -/

theorem u_consist_axles {N : Nat}  {z0 z : Nat → Blk} {e m : Mem} {k : Option Nat} {fr : Nat → Value} {x0 : Int} (hz : Zx e.next z0 z) (st : St z e m k) (h0 : fr 0 = (vI x0)) {r : Int} (hr : consist_axles N x0 = some r) : W Try.prog (sub (bodyOf Try.f46) []) (fun ex fr' m' => ∃ z', Zx e.next z0 z' ∧ St z' e m' k ∧ (ex = .normal ∨ ex = .ret) ∧ fr' 2 = (vI r) ∧ True) fr m := by
 unfold consist_axles at hr
 refine W.seq (W.region ?_)
 refine sx rfl (pAssign (v := (vI 0)) rfl rfl) ?_
 refine SeqW.done fun fr1 hf2 => ?_
 have h0 := (congrFun hf2 0).trans h0
 clear hf2
 refine thenQ.n (W.seq ?_)
 refine W.seq (W.region ?_)
 refine sx rfl (pMove (v := (vI x0)) rfl h0) ?_
 refine SeqW.done fun fr3 hf4 => ?_
 have h3 : fr3 3 = (vI x0) := (congrFun hf4 3).trans rfl
 clear hf4
 refine thenQ.n ?_
 refine W.block ?_
 refine W.seq (W.region ?_)
 refine sx rfl (pEql (k := .i64) (a := x0) (b := 2) rfl h3 rfl) ?_
 obtain ⟨y5, hy5, hr⟩ := lt_some hr
 refine sx rfl (pAssign rfl (congrArg vB hy5)) ?_
 refine SeqW.done fun fr6 hf7 => ?_
 have h3 := (congrFun hf7 3).trans h3
 have h4 : fr6 4 = (vB y5) := (congrFun hf7 4).trans rfl
 clear hf7
 refine thenQ.n ?_
 rcases if_some hr with ⟨hc8, hr⟩ | ⟨hc11, hr⟩
 ·refine W.condT h4 hc8 (W.seq (W.region ?_))
  refine sx rfl (pAssign (v := (vI 2)) rfl rfl) ?_
  refine SeqW.done fun fr9 hf10 => ?_
  have h2 : fr9 2 = (vI 2) := (congrFun hf10 2).trans rfl
  clear hf10
  refine thenQ.n ?_
  refine W.ret ?_
  refine blockQ.r ?_
  refine thenQ.r ?_
  obtain rfl := Option.some.inj hr
  exact ⟨z, hz, st, .inr rfl, h2, trivial⟩
 ·refine W.condF h4 hc11 (W.seq (W.region ?_))
  refine sx rfl (pEql (k := .i64) (a := x0) (b := 3) rfl h3 rfl) ?_
  obtain ⟨y12, hy12, hr⟩ := lt_some hr
  refine sx rfl (pAssign rfl (congrArg vB hy12)) ?_
  refine SeqW.done fun fr13 hf14 => ?_
  have h6 : fr13 6 = (vB y12) := (congrFun hf14 6).trans rfl
  clear hf14
  refine thenQ.n ?_
  rcases if_some hr with ⟨hc15, hr⟩ | ⟨hc18, hr⟩
  ·refine W.condT h6 hc15 (W.seq (W.region ?_))
   refine sx rfl (pAssign (v := (vI 6)) rfl rfl) ?_
   refine SeqW.done fun fr16 hf17 => ?_
   have h2 : fr16 2 = (vI 6) := (congrFun hf17 2).trans rfl
   clear hf17
   refine thenQ.n ?_
   refine W.ret ?_
   refine blockQ.r ?_
   refine thenQ.r ?_
   obtain rfl := Option.some.inj hr
   exact ⟨z, hz, st, .inr rfl, h2, trivial⟩
  ·refine W.condF h6 hc18 (W.skip ?_)
   refine blockQ.n ?_
   refine thenQ.n (W.seq (W.region ?_))
   refine sx rfl (pAssign (v := (vI 4)) rfl rfl) ?_
   refine SeqW.done fun fr19 hf20 => ?_
   have h2 : fr19 2 = (vI 4) := (congrFun hf20 2).trans rfl
   clear hf20
   refine thenQ.n ?_
   refine W.ret ?_
   obtain rfl := Option.some.inj hr
   exact ⟨z, hz, st, .inr rfl, h2, trivial⟩

theorem c_consist_axles {N : Nat} {z : Nat → Blk} {m : Mem} {x0 : Int} (fz : Fz z m) (hd : ∀ b, m.next ≤ b → m.blk b = .dead)  {r : Int} (hr : consist_axles N x0 = some r) : CallW Try.prog 46 #[(vI x0)] m fun v m' => v = (vI r) ∧ m' = m := by
 refine CallW.flat Try.func46 rfl (by kernel_rfl) (Nat.le_of_ble_eq_true rfl) rfl (z := z) (fun fr hf => ?_)
 have h0 : fr 0 = _ := hf 0 _ rfl
 refine (u_consist_axles (k := none) (Zx.refl _) (St.start fz hd) h0 hr).mono ?_
 rintro ex fr' m' ⟨z', hz, st, he, h2, -⟩
 exact ⟨he, z', st, [(vI r)], ⟨h2.symm, trivial⟩, .inl rfl, rfl⟩

/-! ### humpyard/consist.name -/

theorem u_consist_name_1 {N : Nat}  {z0 z : Nat → Blk} {e m : Mem} {k : Option Nat} {fr : Nat → Value} {x4 : Int} (hz : Zx e.next z0 z) (st : St z e m k) (h4 : fr 4 = (Value.int .u8 x4)) {r : Bool} (hr : consist_name_1 N x4 = some r) : W Try.prog (sub (bodyOf Try.f47) [1, 0, 1, 0, 0, 1, 0, 0, 1, 0]) (fun ex fr' m' => ∃ z', Zx e.next z0 z' ∧ St z' e m' k ∧ ex = AExit.normal ∧ fr' 27 = (vB r) ∧ True) fr m := by
 unfold consist_name_1 at hr
 refine W.region ?_
 refine sx rfl (pMove (v := (Value.int .u8 x4)) rfl h4) ?_
 refine sx rfl (pLss (k := .u8) (a := x4) (b := 97) rfl rfl rfl) ?_
 refine sx rfl (pMove (v := (vB (decide (x4 < 97)))) rfl rfl) ?_
 rcases if_some hr with ⟨hc12, hr⟩ | ⟨hc19, hr⟩
 ·refine kx rfl rfl rfl hc12 ?_
  refine kx rfl rfl rfl hc12 ?_
  refine sx rfl (pPick (t := true) (v := (vB true)) rfl ((congrArg vB hc12)) rfl) ?_
  refine sx rfl (pMove (v := (vB true)) rfl rfl) ?_
  refine SeqW.consG rfl rfl rfl rfl (StepX.pure (pMove (v := (Value.int .u8 x4)) rfl h4) ?_)
  refine SeqW.consG rfl rfl rfl rfl (StepX.pure (pLss (k := .u8) (a := x4) (b := 48) rfl rfl rfl) ?_)
  refine SeqW.consG rfl rfl rfl rfl (StepX.pure (pMove (v := (vB (decide (x4 < 48)))) rfl rfl) ?_)
  rcases if_some hr with ⟨hc13, hr⟩ | ⟨hc16, hr⟩
  ·refine kx rfl rfl rfl hc13 ?_
   refine kx rfl rfl rfl hc13 ?_
   refine SeqW.consG rfl rfl rfl rfl (StepX.pure (pPick (t := true) (v := (vB true)) rfl ((congrArg vB hc13)) rfl) ?_)
   refine sx rfl (pPick (t := true) (v := (vB true)) rfl ((congrArg vB (rfl : true = true))) rfl) ?_
   refine SeqW.done fun fr14 hf15 => ?_
   have h27 : fr14 27 = (vB true) := (congrFun hf15 27).trans rfl
   clear hf15
   obtain rfl := Option.some.inj hr
   exact ⟨z, hz, st, rfl, h27, trivial⟩
  ·refine SeqW.consG rfl rfl rfl hc16 (StepX.pure (pMove (v := (Value.int .u8 x4)) rfl h4) ?_)
   refine SeqW.consG rfl rfl rfl hc16 (StepX.pure (pGtr (k := .u8) (a := x4) (b := 57) rfl rfl rfl) ?_)
   refine SeqW.consG rfl rfl rfl rfl (StepX.pure (pPick (t := false) (v := (vB (decide (57 < x4)))) rfl ((congrArg vB hc16)) rfl) ?_)
   refine sx rfl (pPick (t := true) (v := (vB (decide (57 < x4)))) rfl ((congrArg vB (rfl : true = true))) rfl) ?_
   refine SeqW.done fun fr17 hf18 => ?_
   have h27 : fr17 27 = (vB (decide (57 < x4))) := (congrFun hf18 27).trans rfl
   clear hf18
   obtain rfl := Option.some.inj hr
   exact ⟨z, hz, st, rfl, h27, trivial⟩
 ·refine SeqW.consG rfl rfl rfl hc19 (StepX.pure (pMove (v := (Value.int .u8 x4)) rfl h4) ?_)
  refine SeqW.consG rfl rfl rfl hc19 (StepX.pure (pGtr (k := .u8) (a := x4) (b := 122) rfl rfl rfl) ?_)
  refine sx rfl (pPick (t := false) (v := (vB (decide (122 < x4)))) rfl ((congrArg vB hc19)) rfl) ?_
  refine sx rfl (pMove (v := (vB (decide (122 < x4)))) rfl rfl) ?_
  rcases if_some hr with ⟨hc20, hr⟩ | ⟨hc27, hr⟩
  ·refine SeqW.consG rfl rfl rfl hc20 (StepX.pure (pMove (v := (Value.int .u8 x4)) rfl h4) ?_)
   refine SeqW.consG rfl rfl rfl hc20 (StepX.pure (pLss (k := .u8) (a := x4) (b := 48) rfl rfl rfl) ?_)
   refine SeqW.consG rfl rfl rfl hc20 (StepX.pure (pMove (v := (vB (decide (x4 < 48)))) rfl rfl) ?_)
   rcases if_some hr with ⟨hc21, hr⟩ | ⟨hc24, hr⟩
   ·refine kx rfl rfl rfl hc21 ?_
    refine kx rfl rfl rfl hc21 ?_
    refine SeqW.consG rfl rfl rfl hc20 (StepX.pure (pPick (t := true) (v := (vB true)) rfl ((congrArg vB hc21)) rfl) ?_)
    refine sx rfl (pPick (t := true) (v := (vB true)) rfl ((congrArg vB hc20)) rfl) ?_
    refine SeqW.done fun fr22 hf23 => ?_
    have h27 : fr22 27 = (vB true) := (congrFun hf23 27).trans rfl
    clear hf23
    obtain rfl := Option.some.inj hr
    exact ⟨z, hz, st, rfl, h27, trivial⟩
   ·refine SeqW.consG rfl rfl rfl hc24 (StepX.pure (pMove (v := (Value.int .u8 x4)) rfl h4) ?_)
    refine SeqW.consG rfl rfl rfl hc24 (StepX.pure (pGtr (k := .u8) (a := x4) (b := 57) rfl rfl rfl) ?_)
    refine SeqW.consG rfl rfl rfl hc20 (StepX.pure (pPick (t := false) (v := (vB (decide (57 < x4)))) rfl ((congrArg vB hc24)) rfl) ?_)
    refine sx rfl (pPick (t := true) (v := (vB (decide (57 < x4)))) rfl ((congrArg vB hc20)) rfl) ?_
    refine SeqW.done fun fr25 hf26 => ?_
    have h27 : fr25 27 = (vB (decide (57 < x4))) := (congrFun hf26 27).trans rfl
    clear hf26
    obtain rfl := Option.some.inj hr
    exact ⟨z, hz, st, rfl, h27, trivial⟩
  ·refine kx rfl rfl rfl hc27 ?_
   iterate 2 refine kx rfl rfl rfl hc27 ?_
   refine SeqW.skipU rfl rfl rfl ?_
   refine SeqW.skipU rfl rfl rfl ?_
   refine kx rfl rfl rfl hc27 ?_
   refine sx rfl (pPick (t := false) (v := (vB false)) rfl ((congrArg vB hc27)) rfl) ?_
   refine SeqW.done fun fr28 hf29 => ?_
   have h27 : fr28 27 = (vB false) := (congrFun hf29 27).trans rfl
   clear hf29
   obtain rfl := Option.some.inj hr
   exact ⟨z, hz, st, rfl, h27, trivial⟩

theorem u_consist_name_0 : ∀ (n : Nat) {N : Nat}  {z0 z : Nat → Blk} {e m : Mem} {k : Option Nat} {fr : Nat → Value} {x0 : List UInt8} {x3 : Int} (hz : Zx e.next z0 z) (st : St z e m k) (h0 : fr 0 = (str x0)) (h3 : fr 3 = (vI x3)) {r : Sum (Unit) (Bool)} (hr : consist_name_0 N x0 n x3 = some r), W Try.prog (sub (bodyOf Try.f47) [1, 0, 1, 0]) (fun ex fr' m' => ∃ z', Zx e.next z0 z' ∧ St z' e m' k ∧ ((∃ q, r = Sum.inl q ∧ ex = AExit.exit 0 ∧ True) ∨ (∃ q, r = Sum.inr q ∧ ex = AExit.ret ∧ fr' 2 = (vB q) ∧ True))) fr m := by
 intro n
 induction n with
 | zero => intro N z0 z e m k fr x0 x3 hz st h0 h3 r hr; cases (show (none : Option _) = some r from hr)
 | succ n ih =>
  intro N z0 z e m k fr x0 x3 hz st h0 h3 r hr
  unfold consist_name_0 at hr
  refine W.loop1 ?_
  refine W.seq (W.seq (W.region ?_))
  refine sx rfl (pMove (v := (vI x3)) rfl h3) ?_
  refine sx rfl (pMove (v := (str x0)) rfl h0) ?_
  refine sx rfl (pLenS (s := x0) rfl rfl Try.underlying9 rfl) ?_
  refine sx rfl (pLss (k := .i64) (a := x3) (b := (x0.length : Int)) rfl rfl rfl) ?_
  refine SeqW.done fun fr5 hf6 => ?_
  have h0 := (congrFun hf6 0).trans h0
  have h3 := (congrFun hf6 3).trans h3
  have h8 : fr5 8 = (vB (decide (x3 < (x0.length : Int)))) := (congrFun hf6 8).trans rfl
  clear hf6
  refine thenQ.n ?_
  rcases if_some hr with ⟨hc7, hr⟩ | ⟨hc44, hr⟩
  ·refine W.condT h8 hc7 (W.skip ?_)
   refine thenQ.n (W.seq ?_)
   refine W.block ?_
   refine W.seq (W.region ?_)
   refine sx rfl (pMove (v := (str x0)) rfl h0) ?_
   refine sx rfl (pMove (v := (vI x3)) rfl h3) ?_
   obtain ⟨y8, hy8, hr⟩ := bind_some hr
   refine SeqW.consX rfl (kIndexS (s := x0) (n := x3) rfl Try.underlying9 rfl rfl hy8 ?_)
   obtain ⟨y9, hy9, hr⟩ := lt_some hr
   refine sx rfl (pAssign rfl (congrArg (Value.int .u8) hy9)) ?_
   refine SeqW.done fun fr10 hf11 => ?_
   have h0 := (congrFun hf11 0).trans h0
   have h3 := (congrFun hf11 3).trans h3
   have h4 : fr10 4 = (Value.int .u8 y9) := (congrFun hf11 4).trans rfl
   clear hf11
   refine thenQ.n (W.seq ?_)
   obtain ⟨y30, hy30, hr⟩ := bind_some hr
   refine W.keep (u_consist_name_1 (Zx.refl _) st h4 hy30) ?_
   rintro ex36 fr31 m32 hk34 ⟨z33, hz35, st, rfl, h27, -⟩
   have h0 := (hk34 0 rfl).trans h0
   have h3 := (hk34 3 rfl).trans h3
   replace hz := hz.trans hz35
   clear hk34
   refine thenQ.n ?_
   rcases if_some hr with ⟨hc37, hr⟩ | ⟨hc40, hr⟩
   ·refine W.condT h27 hc37 (W.seq (W.region ?_))
    refine sx rfl (pAssign (v := (vB false)) rfl rfl) ?_
    refine SeqW.done fun fr38 hf39 => ?_
    have h2 : fr38 2 = (vB false) := (congrFun hf39 2).trans rfl
    clear hf39
    refine thenQ.n ?_
    refine W.ret ?_
    refine blockQ.r ?_
    refine thenQ.r ?_
    refine thenQ.r ?_
    obtain rfl := Option.some.inj hr
    exact ⟨z33, hz, st, .inr ⟨_, rfl, rfl, h2, trivial⟩⟩
   ·refine W.condF h27 hc40 (W.skip ?_)
    refine blockQ.n ?_
    refine thenQ.n (W.region ?_)
    refine sx rfl (pMove (v := (vI x3)) rfl h3) ?_
    refine sx rfl (pAdd (k := .i64) (a := x3) (b := 1) rfl rfl rfl) ?_
    obtain ⟨y41, hy41, hr⟩ := lt_some hr
    refine sx rfl (pAssign rfl (congrArg (Value.int .i64) hy41)) ?_
    refine SeqW.done fun fr42 hf43 => ?_
    have h0 := (congrFun hf43 0).trans h0
    have h3 : fr42 3 = (vI y41) := (congrFun hf43 3).trans rfl
    clear hf43
    refine thenQ.n ?_
    exact ih hz st h0 h3 hr
  ·refine W.condF h8 hc44 ?_
   refine W.exit ?_
   refine thenQ.x ?_
   refine thenQ.x ?_
   obtain rfl := Option.some.inj hr
   exact ⟨z, hz, st, .inl ⟨_, rfl, rfl, trivial⟩⟩

theorem u_consist_name_2 {N : Nat}  {z0 z : Nat → Blk} {e m : Mem} {k : Option Nat} {fr : Nat → Value} {x0 : List UInt8} (hz : Zx e.next z0 z) (st : St z e m k) (h0 : fr 0 = (str x0)) {r : Bool} (hr : consist_name_2 N x0 = some r) : W Try.prog (sub (bodyOf Try.f47) [1, 1, 0]) (fun ex fr' m' => ∃ z', Zx e.next z0 z' ∧ St z' e m' k ∧ ex = AExit.normal ∧ fr' 2 = (vB r) ∧ True) fr m := by
 unfold consist_name_2 at hr
 refine W.region ?_
 refine sx rfl (pMove (v := (str x0)) rfl h0) ?_
 refine sx rfl (pLenS (s := x0) rfl rfl Try.underlying9 rfl) ?_
 refine sx rfl (pGtr (k := .i64) (a := (x0.length : Int)) (b := 0) rfl rfl rfl) ?_
 refine sx rfl (pMove (v := (vB (decide (0 < (x0.length : Int))))) rfl rfl) ?_
 rcases if_some hr with ⟨hc53, hr⟩ | ⟨hc57, hr⟩
 ·refine SeqW.consG rfl rfl rfl hc53 (StepX.pure (pMove (v := (str x0)) rfl h0) ?_)
  refine SeqW.consG rfl rfl rfl hc53 (StepX.pure (pLenS (s := x0) rfl rfl Try.underlying9 rfl) ?_)
  refine SeqW.consG rfl rfl rfl hc53 (StepX.pure (pLeq (k := .i64) (a := (x0.length : Int)) (b := 12) rfl rfl rfl) ?_)
  refine sx rfl (pPick (t := true) (v := (vB (decide ((x0.length : Int) ≤ 12)))) rfl ((congrArg vB hc53)) rfl) ?_
  obtain ⟨y54, hy54, hr⟩ := lt_some hr
  refine sx rfl (pAssign rfl (congrArg vB hy54)) ?_
  refine SeqW.done fun fr55 hf56 => ?_
  have h2 : fr55 2 = (vB y54) := (congrFun hf56 2).trans rfl
  clear hf56
  obtain rfl := Option.some.inj hr
  exact ⟨z, hz, st, rfl, h2, trivial⟩
 ·refine kx rfl rfl rfl hc57 ?_
  iterate 2 refine kx rfl rfl rfl hc57 ?_
  refine sx rfl (pPick (t := false) (v := (vB false)) rfl ((congrArg vB hc57)) rfl) ?_
  refine sx rfl (pAssign (v := (vB false)) rfl rfl) ?_
  refine SeqW.done fun fr58 hf59 => ?_
  have h2 : fr58 2 = (vB false) := (congrFun hf59 2).trans rfl
  clear hf59
  obtain rfl := Option.some.inj hr
  exact ⟨z, hz, st, rfl, h2, trivial⟩

theorem u_consist_name {N : Nat}  {z0 z : Nat → Blk} {e m : Mem} {k : Option Nat} {fr : Nat → Value} {x0 : List UInt8} (hz : Zx e.next z0 z) (st : St z e m k) (h0 : fr 0 = (str x0)) {r : Bool} (hr : consist_name N x0 = some r) : W Try.prog (sub (bodyOf Try.f47) []) (fun ex fr' m' => ∃ z', Zx e.next z0 z' ∧ St z' e m' k ∧ (ex = .normal ∨ ex = .ret) ∧ fr' 2 = (vB r) ∧ True) fr m := by
 unfold consist_name at hr
 refine W.seq (W.region ?_)
 refine sx rfl (pAssign (v := (vB false)) rfl rfl) ?_
 refine SeqW.done fun fr1 hf2 => ?_
 have h0 := (congrFun hf2 0).trans h0
 clear hf2
 refine thenQ.n (W.seq ?_)
 refine W.seq (W.region ?_)
 refine sx rfl (pAssign (v := (vI 0)) rfl rfl) ?_
 refine SeqW.done fun fr3 hf4 => ?_
 have h0 := (congrFun hf4 0).trans h0
 have h3 : fr3 3 = (vI 0) := (congrFun hf4 3).trans rfl
 clear hf4
 refine thenQ.n ?_
 refine W.block ?_
 obtain ⟨y45, hy45, hr⟩ := bind_some hr
 refine W.keep (u_consist_name_0 _ (Zx.refl _) st h0 h3 hy45) ?_
 rintro ex51 fr46 m47 hk49 ⟨z48, hz50, st, ⟨y52, rfl, rfl, -⟩ | ⟨y67, rfl, rfl, h2, -⟩⟩
 ·dsimp only at hr
  have h0 := (hk49 0 rfl).trans h0
  replace hz := hz.trans hz50
  clear hk49
  refine blockQ.hit ?_
  refine thenQ.n (W.seq ?_)
  obtain ⟨y60, hy60, hr⟩ := bind_some hr
  refine W.keep (u_consist_name_2 (Zx.refl _) st h0 hy60) ?_
  rintro ex66 fr61 m62 hk64 ⟨z63, hz65, st, rfl, h2, -⟩
  replace hz := hz.trans hz65
  clear hk64
  refine thenQ.n ?_
  refine W.ret ?_
  obtain rfl := Option.some.inj hr
  exact ⟨z63, hz, st, .inr rfl, h2, trivial⟩
 ·dsimp only at hr
  replace hz := hz.trans hz50
  clear hk49
  refine blockQ.r ?_
  refine thenQ.r ?_
  obtain rfl := Option.some.inj hr
  exact ⟨z48, hz, st, .inr rfl, h2, trivial⟩

theorem c_consist_name {N : Nat} {z : Nat → Blk} {m : Mem} {x0 : List UInt8} (fz : Fz z m) (hd : ∀ b, m.next ≤ b → m.blk b = .dead)  {r : Bool} (hr : consist_name N x0 = some r) : CallW Try.prog 47 #[(str x0)] m fun v m' => v = (vB r) ∧ m' = m := by
 refine CallW.flat Try.func47 rfl (by kernel_rfl) (Nat.le_of_ble_eq_true rfl) rfl (z := z) (fun fr hf => ?_)
 have h0 : fr 0 = _ := hf 0 _ rfl
 refine (u_consist_name (k := none) (Zx.refl _) (St.start fz hd) h0 hr).mono ?_
 rintro ex fr' m' ⟨z', hz, st, he, h2, -⟩
 exact ⟨he, z', st, [(vB r)], ⟨h2.symm, trivial⟩, .inl rfl, rfl⟩

/-! ### humpyard/consist.Valid -/

theorem u_consist_Valid_0 {N : Nat}  {z0 z : Nat → Blk} {e m : Mem} {k : Option Nat} {fr : Nat → Value} {x5 : Int} {x16 : Bool} {x1 : Wagon} {b1 : Nat} (hz : Zx e.next z0 z) (st : St z e m k) (h1 : fr 1 = (vP b1)) (bx1 : Bx z e m k b1 [(str x1.number), (vI x1.length), (vI x1.axles), (vI x1.mass), (vI x1.brake), (vI x1.goods), (vB x1.gentle), (str x1.dest)] 42) (h5 : fr 5 = (vI x5)) (h16 : fr 16 = (vB x16)) {r : Int} (hr : consist_Valid_0 N x5 x16 = some r) : W Try.prog (sub (bodyOf Try.f39) [1, 1, 1, 1, 0, 1]) (fun ex fr' m' => ∃ z', Zx e.next z0 z' ∧ St z' e m' k ∧ ex = AExit.normal ∧ fr' 5 = (vI r) ∧ Bx z' e m' k b1 [(str x1.number), (vI x1.length), (vI x1.axles), (vI x1.mass), (vI x1.brake), (vI x1.goods), (vB x1.gentle), (str x1.dest)] 42 ∧ True) fr m := by
 unfold consist_Valid_0 at hr
 rcases if_some hr with ⟨hc22, hr⟩ | ⟨hc25, hr⟩
 ·refine W.condT h16 hc22 (W.region ?_)
  refine sx rfl (pAssign (v := (vI 120)) rfl rfl) ?_
  refine SeqW.done fun fr23 hf24 => ?_
  have h1 := (congrFun hf24 1).trans h1
  have h5 : fr23 5 = (vI 120) := (congrFun hf24 5).trans rfl
  clear hf24
  obtain rfl := Option.some.inj hr
  exact ⟨z, hz, st, rfl, h5, bx1, trivial⟩
 ·refine W.condF h16 hc25 (W.skip ?_)
  obtain rfl := Option.some.inj hr
  exact ⟨z, hz, st, rfl, h5, bx1, trivial⟩

theorem u_consist_Valid_1 {N : Nat}  {z0 z : Nat → Blk} {e m : Mem} {k : Option Nat} {fr : Nat → Value} {x1 : Wagon} {x5 : Int} {b1 : Nat} (hz : Zx e.next z0 z) (st : St z e m k) (h1 : fr 1 = (vP b1)) (bx1 : Bx z e m k b1 [(str x1.number), (vI x1.length), (vI x1.axles), (vI x1.mass), (vI x1.brake), (vI x1.goods), (vB x1.gentle), (str x1.dest)] 42) (h5 : fr 5 = (vI x5)) {r : Bool} (hr : consist_Valid_1 N x1 x5 = some r) : W Try.prog (sub (bodyOf Try.f39) [1, 1, 1, 1, 1, 0, 0, 1, 1, 0]) (fun ex fr' m' => ∃ z', Zx e.next z0 z' ∧ St z' e m' k ∧ ex = AExit.normal ∧ fr' 23 = (vB r) ∧ Bx z' e m' k b1 [(str x1.number), (vI x1.length), (vI x1.axles), (vI x1.mass), (vI x1.brake), (vI x1.goods), (vB x1.gentle), (str x1.dest)] 42 ∧ True) fr m := by
 unfold consist_Valid_1 at hr
 refine W.region ?_
 refine SeqW.consX rfl (kField rfl Try.underlying42 rfl Try.type3 rfl h1 rfl ?_)
 refine SeqW.consX rfl (kLoad rfl Try.underlying3 rfl rfl (bx1.load (v := (vI x1.length)) rfl) ?_)
 refine sx rfl (pMove (v := (vI x5)) rfl h5) ?_
 refine sx rfl (pLss (k := .i64) (a := x1.length) (b := x5) rfl rfl rfl) ?_
 refine sx rfl (pMove (v := (vB (decide (x1.length < x5)))) rfl rfl) ?_
 rcases if_some hr with ⟨hc44, hr⟩ | ⟨hc47, hr⟩
 ·refine kx rfl rfl rfl hc44 ?_
  iterate 2 refine kx rfl rfl rfl hc44 ?_
  refine sx rfl (pPick (t := true) (v := (vB true)) rfl ((congrArg vB hc44)) rfl) ?_
  refine sx rfl (pMove (v := (vB true)) rfl rfl) ?_
  iterate 3 refine kx rfl rfl rfl rfl ?_
  refine sx rfl (pPick (t := true) (v := (vB true)) rfl ((congrArg vB (rfl : true = true))) rfl) ?_
  refine sx rfl (pMove (v := (vB true)) rfl rfl) ?_
  iterate 3 refine kx rfl rfl rfl rfl ?_
  refine sx rfl (pPick (t := true) (v := (vB true)) rfl ((congrArg vB (rfl : true = true))) rfl) ?_
  refine sx rfl (pAssign (v := (vB true)) rfl rfl) ?_
  refine SeqW.done fun fr45 hf46 => ?_
  have h1 := (congrFun hf46 1).trans h1
  have h23 : fr45 23 = (vB true) := (congrFun hf46 23).trans rfl
  clear hf46
  obtain rfl := Option.some.inj hr
  exact ⟨z, hz, st, rfl, h23, bx1, trivial⟩
 ·refine SeqW.consG rfl rfl rfl hc47 (kField rfl Try.underlying42 rfl Try.type3 rfl h1 rfl ?_)
  refine SeqW.consG rfl rfl rfl hc47 (kLoad rfl Try.underlying3 rfl rfl (bx1.load (v := (vI x1.length)) rfl) ?_)
  refine SeqW.consG rfl rfl rfl hc47 (StepX.pure (pGtr (k := .i64) (a := x1.length) (b := 400) rfl rfl rfl) ?_)
  refine sx rfl (pPick (t := false) (v := (vB (decide (400 < x1.length)))) rfl ((congrArg vB hc47)) rfl) ?_
  refine sx rfl (pMove (v := (vB (decide (400 < x1.length)))) rfl rfl) ?_
  rcases if_some hr with ⟨hc48, hr⟩ | ⟨hc51, hr⟩
  ·refine kx rfl rfl rfl hc48 ?_
   iterate 2 refine kx rfl rfl rfl hc48 ?_
   refine sx rfl (pPick (t := true) (v := (vB true)) rfl ((congrArg vB hc48)) rfl) ?_
   refine sx rfl (pMove (v := (vB true)) rfl rfl) ?_
   iterate 3 refine kx rfl rfl rfl rfl ?_
   refine sx rfl (pPick (t := true) (v := (vB true)) rfl ((congrArg vB (rfl : true = true))) rfl) ?_
   refine sx rfl (pAssign (v := (vB true)) rfl rfl) ?_
   refine SeqW.done fun fr49 hf50 => ?_
   have h1 := (congrFun hf50 1).trans h1
   have h23 : fr49 23 = (vB true) := (congrFun hf50 23).trans rfl
   clear hf50
   obtain rfl := Option.some.inj hr
   exact ⟨z, hz, st, rfl, h23, bx1, trivial⟩
  ·refine SeqW.consG rfl rfl rfl hc51 (kField rfl Try.underlying42 rfl Try.type3 rfl h1 rfl ?_)
   refine SeqW.consG rfl rfl rfl hc51 (kLoad rfl Try.underlying3 rfl rfl (bx1.load (v := (vI x1.mass)) rfl) ?_)
   refine SeqW.consG rfl rfl rfl hc51 (StepX.pure (pLss (k := .i64) (a := x1.mass) (b := 50) rfl rfl rfl) ?_)
   refine sx rfl (pPick (t := false) (v := (vB (decide (x1.mass < 50)))) rfl ((congrArg vB hc51)) rfl) ?_
   refine sx rfl (pMove (v := (vB (decide (x1.mass < 50)))) rfl rfl) ?_
   rcases if_some hr with ⟨hc52, hr⟩ | ⟨hc55, hr⟩
   ·refine kx rfl rfl rfl hc52 ?_
    iterate 2 refine kx rfl rfl rfl hc52 ?_
    refine sx rfl (pPick (t := true) (v := (vB true)) rfl ((congrArg vB hc52)) rfl) ?_
    refine sx rfl (pAssign (v := (vB true)) rfl rfl) ?_
    refine SeqW.done fun fr53 hf54 => ?_
    have h1 := (congrFun hf54 1).trans h1
    have h23 : fr53 23 = (vB true) := (congrFun hf54 23).trans rfl
    clear hf54
    obtain rfl := Option.some.inj hr
    exact ⟨z, hz, st, rfl, h23, bx1, trivial⟩
   ·refine SeqW.consG rfl rfl rfl hc55 (kField rfl Try.underlying42 rfl Try.type3 rfl h1 rfl ?_)
    refine SeqW.consG rfl rfl rfl hc55 (kLoad rfl Try.underlying3 rfl rfl (bx1.load (v := (vI x1.mass)) rfl) ?_)
    refine SeqW.consG rfl rfl rfl hc55 (StepX.pure (pGtr (k := .i64) (a := x1.mass) (b := 2000) rfl rfl rfl) ?_)
    refine sx rfl (pPick (t := false) (v := (vB (decide (2000 < x1.mass)))) rfl ((congrArg vB hc55)) rfl) ?_
    obtain ⟨y56, hy56, hr⟩ := lt_some hr
    refine sx rfl (pAssign rfl (congrArg vB hy56)) ?_
    refine SeqW.done fun fr57 hf58 => ?_
    have h1 := (congrFun hf58 1).trans h1
    have h23 : fr57 23 = (vB y56) := (congrFun hf58 23).trans rfl
    clear hf58
    obtain rfl := Option.some.inj hr
    exact ⟨z, hz, st, rfl, h23, bx1, trivial⟩

theorem u_consist_Valid_2 {N : Nat}  {z0 z : Nat → Blk} {e m : Mem} {k : Option Nat} {fr : Nat → Value} {x1 : Wagon} {b1 : Nat} (hz : Zx e.next z0 z) (st : St z e m k) (h1 : fr 1 = (vP b1)) (bx1 : Bx z e m k b1 [(str x1.number), (vI x1.length), (vI x1.axles), (vI x1.mass), (vI x1.brake), (vI x1.goods), (vB x1.gentle), (str x1.dest)] 42) {r : Bool} (hr : consist_Valid_2 N x1 = some r) : W Try.prog (sub (bodyOf Try.f39) [1, 1, 1, 1, 1, 0, 0, 1, 1, 1, 1, 0]) (fun ex fr' m' => ∃ z', Zx e.next z0 z' ∧ St z' e m' k ∧ ex = AExit.normal ∧ fr' 43 = (vB r) ∧ Bx z' e m' k b1 [(str x1.number), (vI x1.length), (vI x1.axles), (vI x1.mass), (vI x1.brake), (vI x1.goods), (vB x1.gentle), (str x1.dest)] 42 ∧ True) fr m := by
 unfold consist_Valid_2 at hr
 refine W.region ?_
 refine SeqW.consX rfl (kField rfl Try.underlying42 rfl Try.type3 rfl h1 rfl ?_)
 refine SeqW.consX rfl (kLoad rfl Try.underlying3 rfl rfl (bx1.load (v := (vI x1.brake)) rfl) ?_)
 refine sx rfl (pLss (k := .i64) (a := x1.brake) (b := 0) rfl rfl rfl) ?_
 refine sx rfl (pMove (v := (vB (decide (x1.brake < 0)))) rfl rfl) ?_
 rcases if_some hr with ⟨hc71, hr⟩ | ⟨hc74, hr⟩
 ·refine kx rfl rfl rfl hc71 ?_
  iterate 4 refine kx rfl rfl rfl hc71 ?_
  refine sx rfl (pPick (t := true) (v := (vB true)) rfl ((congrArg vB hc71)) rfl) ?_
  refine sx rfl (pMove (v := (vB true)) rfl rfl) ?_
  iterate 3 refine kx rfl rfl rfl rfl ?_
  refine sx rfl (pPick (t := true) (v := (vB true)) rfl ((congrArg vB (rfl : true = true))) rfl) ?_
  refine sx rfl (pMove (v := (vB true)) rfl rfl) ?_
  iterate 3 refine kx rfl rfl rfl rfl ?_
  refine sx rfl (pPick (t := true) (v := (vB true)) rfl ((congrArg vB (rfl : true = true))) rfl) ?_
  refine sx rfl (pAssign (v := (vB true)) rfl rfl) ?_
  refine SeqW.done fun fr72 hf73 => ?_
  have h1 := (congrFun hf73 1).trans h1
  have h43 : fr72 43 = (vB true) := (congrFun hf73 43).trans rfl
  clear hf73
  obtain rfl := Option.some.inj hr
  exact ⟨z, hz, st, rfl, h43, bx1, trivial⟩
 ·refine SeqW.consG rfl rfl rfl hc74 (kField rfl Try.underlying42 rfl Try.type3 rfl h1 rfl ?_)
  refine SeqW.consG rfl rfl rfl hc74 (kLoad rfl Try.underlying3 rfl rfl (bx1.load (v := (vI x1.brake)) rfl) ?_)
  refine SeqW.consG rfl rfl rfl hc74 (kField rfl Try.underlying42 rfl Try.type3 rfl h1 rfl ?_)
  refine SeqW.consG rfl rfl rfl hc74 (kLoad rfl Try.underlying3 rfl rfl (bx1.load (v := (vI x1.mass)) rfl) ?_)
  refine SeqW.consG rfl rfl rfl hc74 (StepX.pure (pGtr (k := .i64) (a := x1.brake) (b := x1.mass) rfl rfl rfl) ?_)
  refine sx rfl (pPick (t := false) (v := (vB (decide (x1.mass < x1.brake)))) rfl ((congrArg vB hc74)) rfl) ?_
  refine sx rfl (pMove (v := (vB (decide (x1.mass < x1.brake)))) rfl rfl) ?_
  rcases if_some hr with ⟨hc75, hr⟩ | ⟨hc78, hr⟩
  ·refine kx rfl rfl rfl hc75 ?_
   iterate 2 refine kx rfl rfl rfl hc75 ?_
   refine sx rfl (pPick (t := true) (v := (vB true)) rfl ((congrArg vB hc75)) rfl) ?_
   refine sx rfl (pMove (v := (vB true)) rfl rfl) ?_
   iterate 3 refine kx rfl rfl rfl rfl ?_
   refine sx rfl (pPick (t := true) (v := (vB true)) rfl ((congrArg vB (rfl : true = true))) rfl) ?_
   refine sx rfl (pAssign (v := (vB true)) rfl rfl) ?_
   refine SeqW.done fun fr76 hf77 => ?_
   have h1 := (congrFun hf77 1).trans h1
   have h43 : fr76 43 = (vB true) := (congrFun hf77 43).trans rfl
   clear hf77
   obtain rfl := Option.some.inj hr
   exact ⟨z, hz, st, rfl, h43, bx1, trivial⟩
  ·refine SeqW.consG rfl rfl rfl hc78 (kField rfl Try.underlying42 rfl Try.type3 rfl h1 rfl ?_)
   refine SeqW.consG rfl rfl rfl hc78 (kLoad rfl Try.underlying3 rfl rfl (bx1.load (v := (vI x1.goods)) rfl) ?_)
   refine SeqW.consG rfl rfl rfl hc78 (StepX.pure (pLss (k := .i64) (a := x1.goods) (b := 0) rfl rfl rfl) ?_)
   refine sx rfl (pPick (t := false) (v := (vB (decide (x1.goods < 0)))) rfl ((congrArg vB hc78)) rfl) ?_
   refine sx rfl (pMove (v := (vB (decide (x1.goods < 0)))) rfl rfl) ?_
   rcases if_some hr with ⟨hc79, hr⟩ | ⟨hc82, hr⟩
   ·refine kx rfl rfl rfl hc79 ?_
    iterate 2 refine kx rfl rfl rfl hc79 ?_
    refine sx rfl (pPick (t := true) (v := (vB true)) rfl ((congrArg vB hc79)) rfl) ?_
    refine sx rfl (pAssign (v := (vB true)) rfl rfl) ?_
    refine SeqW.done fun fr80 hf81 => ?_
    have h1 := (congrFun hf81 1).trans h1
    have h43 : fr80 43 = (vB true) := (congrFun hf81 43).trans rfl
    clear hf81
    obtain rfl := Option.some.inj hr
    exact ⟨z, hz, st, rfl, h43, bx1, trivial⟩
   ·refine SeqW.consG rfl rfl rfl hc82 (kField rfl Try.underlying42 rfl Try.type3 rfl h1 rfl ?_)
    refine SeqW.consG rfl rfl rfl hc82 (kLoad rfl Try.underlying3 rfl rfl (bx1.load (v := (vI x1.goods)) rfl) ?_)
    refine SeqW.consG rfl rfl rfl hc82 (StepX.pure (pGtr (k := .i64) (a := x1.goods) (b := 9) rfl rfl rfl) ?_)
    refine sx rfl (pPick (t := false) (v := (vB (decide (9 < x1.goods)))) rfl ((congrArg vB hc82)) rfl) ?_
    obtain ⟨y83, hy83, hr⟩ := lt_some hr
    refine sx rfl (pAssign rfl (congrArg vB hy83)) ?_
    refine SeqW.done fun fr84 hf85 => ?_
    have h1 := (congrFun hf85 1).trans h1
    have h43 : fr84 43 = (vB y83) := (congrFun hf85 43).trans rfl
    clear hf85
    obtain rfl := Option.some.inj hr
    exact ⟨z, hz, st, rfl, h43, bx1, trivial⟩

theorem u_consist_Valid {N : Nat}  {z0 z : Nat → Blk} {e m : Mem} {k : Option Nat} {fr : Nat → Value} {x0 : Wagon} (hz : Zx e.next z0 z) (st : St z e m k) (h0 : fr 0 = (Value.agg [(str x0.number), (vI x0.length), (vI x0.axles), (vI x0.mass), (vI x0.brake), (vI x0.goods), (vB x0.gentle), (str x0.dest)].toArray)) {r : Int} (hr : consist_Valid N x0 = some r) : W Try.prog (sub (bodyOf Try.f39) []) (fun ex fr' m' => ∃ z', Zx e.next z0 z' ∧ St z' e m' k ∧ (ex = .normal ∨ ex = .ret) ∧ fr' 2 = (vI r) ∧ True) fr m := by
 unfold consist_Valid at hr
 refine W.seq (W.region ?_)
 refine SeqW.consX rfl (kBox (v := (Value.agg [(str x0.number), (vI x0.length), (vI x0.axles), (vI x0.mass), (vI x0.brake), (vI x0.goods), (vB x0.gentle), (str x0.dest)].toArray)) rfl Try.type42 h0 rfl [(str x0.number), (vI x0.length), (vI x0.axles), (vI x0.mass), (vI x0.brake), (vI x0.goods), (vB x0.gentle), (str x0.dest)] rfl rfl st ?_)
 intro B1 m2 st X3 sm4 hap5
 refine sx rfl (pAssign (v := (vI 0)) rfl rfl) ?_
 refine SeqW.done fun fr7 hf8 => ?_
 have h1 : fr7 1 = (vP B1) := (congrFun hf8 1).trans rfl
 clear hf8
 refine thenQ.n (W.seq (W.region ?_))
 refine SeqW.consX rfl (kField rfl Try.underlying42 rfl Try.type9 rfl h1 rfl ?_)
 refine SeqW.consX rfl (kLoad rfl Try.underlying9 rfl rfl (X3.load (v := (str x0.number)) rfl) ?_)
 obtain ⟨y9, hy9, hr⟩ := bind_some hr
 refine SeqW.consX rfl (StepX.call (gCallee rfl rfl (args1 rfl)) ((c_wagonnumber_Kind (z := z) st.fz st.dead  hy9).mono ?_))
 rintro _ _ ⟨rfl, rfl⟩
 refine sx rfl (pMove (v := (Value.tuple [(vI y9.1), (vI y9.2)].toArray)) rfl rfl) ?_
 refine sx rfl (pExtract (vs := [(vI y9.1), (vI y9.2)]) (v := (vI y9.1)) rfl rfl rfl) ?_
 refine sx rfl (pExtract (vs := [(vI y9.1), (vI y9.2)]) (v := (vI y9.2)) rfl rfl rfl) ?_
 refine sx rfl (pAssign (v := (vI y9.1)) rfl rfl) ?_
 refine sx rfl (pAssign (v := (vI y9.2)) rfl rfl) ?_
 refine SeqW.done fun fr10 hf11 => ?_
 have h1 := (congrFun hf11 1).trans h1
 have h3 : fr10 3 = (vI y9.1) := (congrFun hf11 3).trans rfl
 have h4 : fr10 4 = (vI y9.2) := (congrFun hf11 4).trans rfl
 clear hf11
 refine thenQ.n (W.seq ?_)
 refine W.seq (W.region ?_)
 refine sx rfl (pMove (v := (vI y9.2)) rfl h4) ?_
 refine sx rfl (pNeq (k := .i64) (a := y9.2) (b := 0) rfl rfl rfl) ?_
 refine SeqW.done fun fr12 hf13 => ?_
 have h1 := (congrFun hf13 1).trans h1
 have h3 := (congrFun hf13 3).trans h3
 have h4 := (congrFun hf13 4).trans h4
 have h13 : fr12 13 = (vB (y9.2 != 0)) := (congrFun hf13 13).trans rfl
 clear hf13
 refine thenQ.n ?_
 rcases if_some hr with ⟨hc14, hr⟩ | ⟨hc17, hr⟩
 ·refine W.condT h13 hc14 (W.seq (W.region ?_))
  refine sx rfl (pMove (v := (vI y9.2)) rfl h4) ?_
  refine sx rfl (pAssign (v := (vI y9.2)) rfl rfl) ?_
  refine SeqW.done fun fr15 hf16 => ?_
  have h2 : fr15 2 = (vI y9.2) := (congrFun hf16 2).trans rfl
  clear hf16
  refine thenQ.n ?_
  refine W.ret ?_
  refine thenQ.r ?_
  obtain rfl := Option.some.inj hr
  exact ⟨z, hz, st, .inr rfl, h2, trivial⟩
 ·refine W.condF h13 hc17 (W.skip ?_)
  refine thenQ.n (W.seq (W.region ?_))
  refine sx rfl (pAssign (v := (vI 80)) rfl rfl) ?_
  refine SeqW.done fun fr18 hf19 => ?_
  have h1 := (congrFun hf19 1).trans h1
  have h3 := (congrFun hf19 3).trans h3
  have h5 : fr18 5 = (vI 80) := (congrFun hf19 5).trans rfl
  clear hf19
  refine thenQ.n (W.seq ?_)
  refine W.seq (W.region ?_)
  refine sx rfl (pMove (v := (vI y9.1)) rfl h3) ?_
  refine sx rfl (pEql (k := .i64) (a := y9.1) (b := 3) rfl rfl rfl) ?_
  refine SeqW.done fun fr20 hf21 => ?_
  have h1 := (congrFun hf21 1).trans h1
  have h3 := (congrFun hf21 3).trans h3
  have h5 := (congrFun hf21 5).trans h5
  have h16 : fr20 16 = (vB (y9.1 == 3)) := (congrFun hf21 16).trans rfl
  clear hf21
  refine thenQ.n ?_
  obtain ⟨y26, hy26, hr⟩ := bind_some hr
  refine W.keep (u_consist_Valid_0 (x1 := x0) (Zx.refl _) st h1 X3 h5 h16 hy26) ?_
  rintro ex32 fr27 m28 hk30 ⟨z29, hz31, st, rfl, h5, O33, -⟩
  have h1 := (hk30 1 rfl).trans h1
  have h3 := (hk30 3 rfl).trans h3
  replace hz := hz.trans hz31
  clear hk30
  refine thenQ.n (W.seq ?_)
  refine W.block ?_
  refine W.seq ?_
  refine W.draw ?_
  refine DrawW.cons rfl (kField rfl Try.underlying42 rfl Try.type3 rfl h1 rfl ?_)
  refine ⟨trivial, ?_⟩
  refine DrawW.cons rfl (kLoad rfl Try.underlying3 rfl rfl (O33.load (v := (vI x0.axles)) rfl) ?_)
  refine ⟨?_, ?_⟩
  ·exact demN
  refine DrawW.cons rfl (StepX.pure (pMove (v := (vI y9.1)) rfl h3) ?_)
  refine ⟨trivial, ?_⟩
  have sto34 := st
  have old35 := O33
  obtain ⟨y36, hy36, hr⟩ := bind_some hr
  refine DrawW.cons rfl (StepX.call (gCallee rfl rfl (args1 rfl)) ((c_consist_axles (z := z29) st.fz st.dead  hy36).mono ?_))
  rintro _ _ ⟨rfl, rfl⟩
  refine ⟨⟨?_, ?_⟩, ?_⟩
  ·first | refine demP (gLoad rfl Try.underlying3 rfl rfl (O33.load (v := (vI x0.axles)) rfl)) ?_ | refine demA (by decide) ?_
   exact demN
  ·exact demN
  refine DrawW.cons rfl (StepX.pure (pNeq (k := .i64) (a := x0.axles) (b := y36) rfl rfl rfl) ?_)
  refine ⟨trivial, ?_⟩
  obtain ⟨y37, hy37, hr⟩ := lt_some hr
  refine DrawW.cons rfl (StepX.pure (pAssign rfl (congrArg vB hy37)) ?_)
  refine ⟨trivial, ?_⟩
  refine DrawW.done fun fr38 hf39 => ?_
  have h1 := (congrFun hf39 1).trans h1
  have h5 := (congrFun hf39 5).trans h5
  have h17 : fr38 17 = (vB y37) := (congrFun hf39 17).trans rfl
  clear hf39
  refine thenQ.n ?_
  rcases if_some hr with ⟨hc40, hr⟩ | ⟨hc43, hr⟩
  ·refine W.condT h17 hc40 (W.seq (W.region ?_))
   refine sx rfl (pAssign (v := (vI 1)) rfl rfl) ?_
   refine SeqW.done fun fr41 hf42 => ?_
   have h2 : fr41 2 = (vI 1) := (congrFun hf42 2).trans rfl
   clear hf42
   refine thenQ.n ?_
   refine W.ret ?_
   refine blockQ.r ?_
   refine thenQ.r ?_
   obtain rfl := Option.some.inj hr
   exact ⟨z29, hz, st, .inr rfl, h2, trivial⟩
  ·refine W.condF h17 hc43 (W.seq ?_)
   obtain ⟨y59, hy59, hr⟩ := bind_some hr
   refine W.keep (u_consist_Valid_1 (x1 := x0) (Zx.refl _) st h1 O33 h5 hy59) ?_
   rintro ex65 fr60 m61 hk63 ⟨z62, hz64, st, rfl, h23, O66, -⟩
   have h1 := (hk63 1 rfl).trans h1
   replace hz := hz.trans hz64
   clear hk63
   refine thenQ.n ?_
   rcases if_some hr with ⟨hc67, hr⟩ | ⟨hc70, hr⟩
   ·refine W.condT h23 hc67 (W.seq (W.region ?_))
    refine sx rfl (pAssign (v := (vI 2)) rfl rfl) ?_
    refine SeqW.done fun fr68 hf69 => ?_
    have h2 : fr68 2 = (vI 2) := (congrFun hf69 2).trans rfl
    clear hf69
    refine thenQ.n ?_
    refine W.ret ?_
    refine blockQ.r ?_
    refine thenQ.r ?_
    obtain rfl := Option.some.inj hr
    exact ⟨z62, hz, st, .inr rfl, h2, trivial⟩
   ·refine W.condF h23 hc70 (W.seq ?_)
    obtain ⟨y86, hy86, hr⟩ := bind_some hr
    refine W.keep (u_consist_Valid_2 (x1 := x0) (Zx.refl _) st h1 O66 hy86) ?_
    rintro ex92 fr87 m88 hk90 ⟨z89, hz91, st, rfl, h43, O93, -⟩
    have h1 := (hk90 1 rfl).trans h1
    replace hz := hz.trans hz91
    clear hk90
    refine thenQ.n ?_
    rcases if_some hr with ⟨hc94, hr⟩ | ⟨hc97, hr⟩
    ·refine W.condT h43 hc94 (W.seq (W.region ?_))
     refine sx rfl (pAssign (v := (vI 2)) rfl rfl) ?_
     refine SeqW.done fun fr95 hf96 => ?_
     have h2 : fr95 2 = (vI 2) := (congrFun hf96 2).trans rfl
     clear hf96
     refine thenQ.n ?_
     refine W.ret ?_
     refine blockQ.r ?_
     refine thenQ.r ?_
     obtain rfl := Option.some.inj hr
     exact ⟨z89, hz, st, .inr rfl, h2, trivial⟩
    ·refine W.condF h43 hc97 (W.seq (W.region ?_))
     refine SeqW.consX rfl (kField rfl Try.underlying42 rfl Try.type9 rfl h1 rfl ?_)
     refine SeqW.consX rfl (kLoad rfl Try.underlying9 rfl rfl (O93.load (v := (str x0.dest)) rfl) ?_)
     obtain ⟨y98, hy98, hr⟩ := bind_some hr
     refine SeqW.consX rfl (StepX.call (gCallee rfl rfl (args1 rfl)) ((c_consist_name (z := z89) st.fz st.dead  hy98).mono ?_))
     rintro _ _ ⟨rfl, rfl⟩
     refine sx rfl (pNot (b := y98) rfl rfl) ?_
     obtain ⟨y99, hy99, hr⟩ := lt_some hr
     refine sx rfl (pAssign rfl (congrArg vB hy99)) ?_
     refine SeqW.done fun fr100 hf101 => ?_
     have h64 : fr100 64 = (vB y99) := (congrFun hf101 64).trans rfl
     clear hf101
     refine thenQ.n ?_
     rcases if_some hr with ⟨hc102, hr⟩ | ⟨hc105, hr⟩
     ·refine W.condT h64 hc102 (W.seq (W.region ?_))
      refine sx rfl (pAssign (v := (vI 7)) rfl rfl) ?_
      refine SeqW.done fun fr103 hf104 => ?_
      have h2 : fr103 2 = (vI 7) := (congrFun hf104 2).trans rfl
      clear hf104
      refine thenQ.n ?_
      refine W.ret ?_
      refine blockQ.r ?_
      refine thenQ.r ?_
      obtain rfl := Option.some.inj hr
      exact ⟨z89, hz, st, .inr rfl, h2, trivial⟩
     ·refine W.condF h64 hc105 (W.skip ?_)
      refine blockQ.n ?_
      refine thenQ.n (W.seq (W.region ?_))
      refine sx rfl (pAssign (v := (vI 0)) rfl rfl) ?_
      refine SeqW.done fun fr106 hf107 => ?_
      have h2 : fr106 2 = (vI 0) := (congrFun hf107 2).trans rfl
      clear hf107
      refine thenQ.n ?_
      refine W.ret ?_
      obtain rfl := Option.some.inj hr
      exact ⟨z89, hz, st, .inr rfl, h2, trivial⟩

theorem c_consist_Valid {N : Nat} {z : Nat → Blk} {m : Mem} {x0 : Wagon} (fz : Fz z m) (hd : ∀ b, m.next ≤ b → m.blk b = .dead)  {r : Int} (hr : consist_Valid N x0 = some r) : CallW Try.prog 39 #[(Value.agg [(str x0.number), (vI x0.length), (vI x0.axles), (vI x0.mass), (vI x0.brake), (vI x0.goods), (vB x0.gentle), (str x0.dest)].toArray)] m fun v m' => v = (vI r) ∧ m' = m := by
 refine CallW.flat Try.func39 rfl (by kernel_rfl) (Nat.le_of_ble_eq_true rfl) rfl (z := z) (fun fr hf => ?_)
 have h0 : fr 0 = _ := hf 0 _ rfl
 refine (u_consist_Valid (k := none) (Zx.refl _) (St.start fz hd) h0 hr).mono ?_
 rintro ex fr' m' ⟨z', hz, st, he, h2, -⟩
 exact ⟨he, z', st, [(vI r)], ⟨h2.symm, trivial⟩, .inl rfl, rfl⟩

/-! ### humpyard/consist.check -/

theorem u_consist_check_0 : ∀ (n : Nat) {N : Nat}  {z0 z : Nat → Blk} {e m : Mem} {k : Option Nat} {fr : Nat → Value} {x3 : List ((List UInt8) × Bool)} {x11 : List Wagon} {x12 : Int} {x13 : Int} {v3 : Value} {v11 : Value} (hz : Zx e.next z0 z) (st : St z e m k) (h3 : fr 3 = v3) (o3 : OwM (MTy.mk kStr kBool 71) z e m k x3 v3) (h11 : fr 11 = v11) (s11 : SlR TWagon z x11 v11) (h12 : fr 12 = (vI x12)) (h13 : fr 13 = (vI x13)) {r : Sum (Unit) (Int)} (hr : consist_check_0 N x11 x12 n x3 x13 = some r), W Try.prog (sub (bodyOf Try.f26) [1, 1, 1, 0, 1, 0]) (fun ex fr' m' => ∃ z', Zx e.next z0 z' ∧ St z' e m' k ∧ ((∃ q, r = Sum.inl q ∧ ex = AExit.exit 0 ∧ True) ∨ (∃ q, r = Sum.inr q ∧ ex = AExit.ret ∧ fr' 2 = (vI q) ∧ True))) fr m := by
 intro n
 induction n with
 | zero => intro N z0 z e m k fr x3 x11 x12 x13 v3 v11 hz st h3 o3 h11 s11 h12 h13 r hr; cases (show (none : Option _) = some r from hr)
 | succ n ih =>
  intro N z0 z e m k fr x3 x11 x12 x13 v3 v11 hz st h3 o3 h11 s11 h12 h13 r hr
  unfold consist_check_0 at hr
  refine W.loop1 ?_
  refine W.seq (W.region ?_)
  refine sx rfl (pLss (k := .i64) (a := x13) (b := x12) rfl h13 h12) ?_
  refine SeqW.done fun fr19 hf20 => ?_
  have h3 := (congrFun hf20 3).trans h3
  have h11 := (congrFun hf20 11).trans h11
  have h12 := (congrFun hf20 12).trans h12
  have h13 := (congrFun hf20 13).trans h13
  have h14 : fr19 14 = (vB (decide (x13 < x12))) := (congrFun hf20 14).trans rfl
  clear hf20
  refine thenQ.n (W.seq ?_)
  rcases if_some hr with ⟨hc21, hr⟩ | ⟨hc62, hr⟩
  ·refine W.condT h14 hc21 (W.skip ?_)
   refine thenQ.n (W.seq ?_)
   refine W.block ?_
   refine W.seq (W.region ?_)
   obtain ⟨y22, hy22, hr⟩ := bind_some hr
   refine SeqW.consX rfl (kIdxR (T := TWagon) (xs := x11) (n := x13) rfl Try.underlying24 Try.type42 rfl h11 h13 s11 hy22 ?_)
   intro B23 f24 cs25 hd26 hc27
   obtain rfl := hd26
   refine SeqW.consX rfl (kLoadA rfl Try.underlying42 rfl Try.type42 rfl rfl (st.loads hc27) ?_)
   refine SeqW.consX rfl (kAlloc rfl Try.type42 rfl rfl rfl [(str []), (vI 0), (vI 0), (vI 0), (vI 0), (vI 0), (vB false), (str [])] rfl st ?_)
   intro B28 m29 st X30 sm31 hap32
   have A34 := hap32 _ o3.lt
   replace o3 := o3.same sm31 Ap.none'
   refine SeqW.consX rfl (kPut (off := 0) (w := (Value.agg [(str y22.number), (vI y22.length), (vI y22.axles), (vI y22.mass), (vI y22.brake), (vI y22.goods), (vB y22.gentle), (str y22.dest)].toArray)) (new := [(str y22.number), (vI y22.length), (vI y22.axles), (vI y22.mass), (vI y22.brake), (vI y22.goods), (vB y22.gentle), (str y22.dest)]) rfl Try.type42 rfl rfl rfl rfl rfl X30 rfl [(str y22.number), (vI y22.length), (vI y22.axles), (vI y22.mass), (vI y22.brake), (vI y22.goods), (vB y22.gentle), (str y22.dest)] rfl st ?_)
   intro m35 st X30 sm36
   replace o3 := o3.same sm36 A34
   refine SeqW.done fun fr37 hf38 => ?_
   have h3 := (congrFun hf38 3).trans h3
   have h5 : fr37 5 = (vP B28) := (congrFun hf38 5).trans rfl
   have h11 := (congrFun hf38 11).trans h11
   have h12 := (congrFun hf38 12).trans h12
   have h13 := (congrFun hf38 13).trans h13
   clear hf38
   refine thenQ.n (W.seq ?_)
   refine W.seq (W.region ?_)
   refine SeqW.consX rfl (kLoadA rfl Try.underlying42 rfl Try.type42 rfl h5 X30.loads ?_)
   obtain ⟨y39, hy39, hr⟩ := bind_some hr
   refine SeqW.consX rfl (StepX.call (gCallee rfl rfl (args1 rfl)) ((c_consist_Valid (x0 := y22) (z := z) st.fz st.dead  hy39).mono ?_))
   rintro _ _ ⟨rfl, rfl⟩
   refine sx rfl (pAssign (v := (vI y39)) rfl rfl) ?_
   refine SeqW.done fun fr40 hf41 => ?_
   have h3 := (congrFun hf41 3).trans h3
   have h5 := (congrFun hf41 5).trans h5
   have h6 : fr40 6 = (vI y39) := (congrFun hf41 6).trans rfl
   have h11 := (congrFun hf41 11).trans h11
   have h12 := (congrFun hf41 12).trans h12
   have h13 := (congrFun hf41 13).trans h13
   clear hf41
   refine thenQ.n (W.seq (W.region ?_))
   refine sx rfl (pMove (v := (vI y39)) rfl h6) ?_
   refine sx rfl (pNeq (k := .i64) (a := y39) (b := 0) rfl rfl rfl) ?_
   refine SeqW.done fun fr42 hf43 => ?_
   have h3 := (congrFun hf43 3).trans h3
   have h5 := (congrFun hf43 5).trans h5
   have h6 := (congrFun hf43 6).trans h6
   have h11 := (congrFun hf43 11).trans h11
   have h12 := (congrFun hf43 12).trans h12
   have h13 := (congrFun hf43 13).trans h13
   have h20 : fr42 20 = (vB (y39 != 0)) := (congrFun hf43 20).trans rfl
   clear hf43
   refine thenQ.n ?_
   rcases if_some hr with ⟨hc44, hr⟩ | ⟨hc47, hr⟩
   ·refine W.condT h20 hc44 (W.seq (W.region ?_))
    refine sx rfl (pMove (v := (vI y39)) rfl h6) ?_
    refine sx rfl (pAssign (v := (vI y39)) rfl rfl) ?_
    refine SeqW.done fun fr45 hf46 => ?_
    have h2 : fr45 2 = (vI y39) := (congrFun hf46 2).trans rfl
    clear hf46
    refine thenQ.n ?_
    refine W.ret ?_
    refine thenQ.r ?_
    refine blockQ.r ?_
    refine thenQ.r ?_
    refine thenQ.r ?_
    obtain rfl := Option.some.inj hr
    exact ⟨z, hz, st, .inr ⟨_, rfl, rfl, h2, trivial⟩⟩
   ·refine W.condF h20 hc47 (W.skip ?_)
    refine thenQ.n (W.seq ?_)
    refine W.seq (W.region ?_)
    refine sx rfl (pMove (v := v3) rfl h3) ?_
    refine SeqW.consX rfl (kField rfl Try.underlying42 rfl Try.type9 rfl h5 rfl ?_)
    refine SeqW.consX rfl (kLoad rfl Try.underlying9 rfl rfl (X30.load (v := (str y22.number)) rfl) ?_)
    obtain ⟨y48, hy48, hr⟩ := lt_some hr
    refine SeqW.consX rfl (kLookO (M := (MTy.mk kStr kBool 71)) (z0 := false) (a := y22.number) (ok := false) (w0 := (vB (y48.getD false))) rfl Try.underlying71 Try.underlying71 (keyStr Try.underlying9 Try.type9 rfl) (valBool Try.underlying4 Try.type4 rfl) Try.type4 (by rw [noAgg Try.underlying4 rfl]; rfl) rfl o3 rfl (by rw [noAgg Try.underlying9 rfl]; rfl) hy48 (by rw [noAgg Try.underlying4 rfl]; rfl) ?_)
    refine SeqW.done fun fr49 hf50 => ?_
    have h3 := (congrFun hf50 3).trans h3
    have h5 := (congrFun hf50 5).trans h5
    have h11 := (congrFun hf50 11).trans h11
    have h12 := (congrFun hf50 12).trans h12
    have h13 := (congrFun hf50 13).trans h13
    have h25 : fr49 25 = (vB (y48.getD false)) := (congrFun hf50 25).trans rfl
    clear hf50
    refine thenQ.n ?_
    rcases if_some hr with ⟨hc51, hr⟩ | ⟨hc54, hr⟩
    ·refine W.condT h25 hc51 (W.seq (W.region ?_))
     refine sx rfl (pAssign (v := (vI 8)) rfl rfl) ?_
     refine SeqW.done fun fr52 hf53 => ?_
     have h2 : fr52 2 = (vI 8) := (congrFun hf53 2).trans rfl
     clear hf53
     refine thenQ.n ?_
     refine W.ret ?_
     refine thenQ.r ?_
     refine blockQ.r ?_
     refine thenQ.r ?_
     refine thenQ.r ?_
     obtain rfl := Option.some.inj hr
     exact ⟨z, hz, st, .inr ⟨_, rfl, rfl, h2, trivial⟩⟩
    ·refine W.condF h25 hc54 (W.skip ?_)
     refine thenQ.n (W.region ?_)
     refine sx rfl (pMove (v := v3) rfl h3) ?_
     refine SeqW.consX rfl (kField rfl Try.underlying42 rfl Try.type9 rfl h5 rfl ?_)
     refine SeqW.consX rfl (kLoad rfl Try.underlying9 rfl rfl (X30.load (v := (str y22.number)) rfl) ?_)
     obtain ⟨y55, hy55, hr⟩ := lt_some hr
     refine SeqW.consX rfl (kMapSet (M := (MTy.mk kStr kBool 71)) (a := y22.number) (b := true) (.inl rfl) Try.underlying71 Try.underlying71 (keyStr Try.underlying9 Try.type9 rfl) (valBool Try.underlying4 Try.type4 rfl) rfl o3 rfl (by rw [noAgg Try.underlying9 rfl]; rfl) rfl (by rw [noAgg Try.underlying4 rfl]; rfl) st hy55 ?_)
     intro m56 st o3 sm57
     refine SeqW.done fun fr58 hf59 => ?_
     have h3 := (congrFun hf59 3).trans h3
     have h11 := (congrFun hf59 11).trans h11
     have h12 := (congrFun hf59 12).trans h12
     have h13 := (congrFun hf59 13).trans h13
     clear hf59
     refine blockQ.n ?_
     refine thenQ.n (W.region ?_)
     refine sx rfl (pAdd (k := .i64) (a := x13) (b := 1) rfl h13 rfl) ?_
     refine sx rfl (pMove (v := (vI (IntKind.wrap .i64 (x13 + 1)))) rfl rfl) ?_
     refine SeqW.done fun fr60 hf61 => ?_
     have h3 := (congrFun hf61 3).trans h3
     have h11 := (congrFun hf61 11).trans h11
     have h12 := (congrFun hf61 12).trans h12
     have h13 : fr60 13 = (vI (IntKind.wrap .i64 (x13 + 1))) := (congrFun hf61 13).trans rfl
     clear hf61
     refine thenQ.n ?_
     exact ih hz st h3 o3 h11 s11 h12 h13 hr
  ·refine W.condF h14 hc62 ?_
   refine W.exit ?_
   refine thenQ.x ?_
   refine thenQ.x ?_
   obtain rfl := Option.some.inj hr
   exact ⟨z, hz, st, .inl ⟨_, rfl, rfl, trivial⟩⟩

theorem u_consist_check {N : Nat}  {z0 z : Nat → Blk} {e m : Mem} {k : Option Nat} {fr : Nat → Value} {x0 : List Wagon} {v0 : Value} (hz : Zx e.next z0 z) (st : St z e m k) (h0 : fr 0 = v0) (s0 : SlR TWagon z x0 v0) {r : Int} (hr : consist_check N x0 = some r) : W Try.prog (sub (bodyOf Try.f26) []) (fun ex fr' m' => ∃ z', Zx e.next z0 z' ∧ St z' e m' k ∧ (ex = .normal ∨ ex = .ret) ∧ fr' 2 = (vI r) ∧ True) fr m := by
 unfold consist_check at hr
 refine W.seq (W.region ?_)
 refine sx rfl (pAssign (v := (vI 0)) rfl rfl) ?_
 refine SeqW.done fun fr1 hf2 => ?_
 have h0 := (congrFun hf2 0).trans h0
 clear hf2
 refine thenQ.n (W.seq ?_)
 refine W.seq (W.region ?_)
 refine sx rfl (pMove (v := v0) rfl h0) ?_
 refine sx rfl (pLenR (xs := x0) rfl Try.underlying24 rfl s0) ?_
 refine sx rfl (pGtr (k := .i64) (a := (x0.length : Int)) (b := 96) rfl rfl rfl) ?_
 refine SeqW.done fun fr3 hf4 => ?_
 have h0 := (congrFun hf4 0).trans h0
 have h9 : fr3 9 = (vB (decide (96 < (x0.length : Int)))) := (congrFun hf4 9).trans rfl
 clear hf4
 refine thenQ.n ?_
 rcases if_some hr with ⟨hc5, hr⟩ | ⟨hc8, hr⟩
 ·refine W.condT h9 hc5 (W.seq (W.region ?_))
  refine sx rfl (pAssign (v := (vI 3)) rfl rfl) ?_
  refine SeqW.done fun fr6 hf7 => ?_
  have h2 : fr6 2 = (vI 3) := (congrFun hf7 2).trans rfl
  clear hf7
  refine thenQ.n ?_
  refine W.ret ?_
  refine thenQ.r ?_
  obtain rfl := Option.some.inj hr
  exact ⟨z, hz, st, .inr rfl, h2, trivial⟩
 ·refine W.condF h9 hc8 (W.skip ?_)
  refine thenQ.n (W.seq (W.region ?_))
  refine SeqW.consX rfl (kMakeMap (MTy.mk kStr kBool 71) rfl Try.underlying71 rfl st ?_)
  intro V9 m10 st O11 sm12 hap13
  refine sx rfl (pAssign (v := V9) rfl rfl) ?_
  refine SeqW.done fun fr15 hf16 => ?_
  have h0 := (congrFun hf16 0).trans h0
  have h3 : fr15 3 = V9 := (congrFun hf16 3).trans rfl
  clear hf16
  refine thenQ.n (W.seq ?_)
  refine W.seq (W.region ?_)
  refine sx rfl (pMove (v := v0) rfl h0) ?_
  refine sx rfl (pLenR (xs := x0) rfl Try.underlying24 rfl s0) ?_
  refine sx rfl (pMove (v := (vI 0)) rfl rfl) ?_
  refine SeqW.done fun fr17 hf18 => ?_
  have h3 := (congrFun hf18 3).trans h3
  have h11 : fr17 11 = v0 := (congrFun hf18 11).trans rfl
  have h12 : fr17 12 = (vI (x0.length : Int)) := (congrFun hf18 12).trans rfl
  have h13 : fr17 13 = (vI 0) := (congrFun hf18 13).trans rfl
  clear hf18
  refine thenQ.n ?_
  refine W.block ?_
  obtain ⟨y63, hy63, hr⟩ := bind_some hr
  refine W.keep (u_consist_check_0 _ (Zx.refl _) st h3 O11 h11 s0 h12 h13 hy63) ?_
  rintro ex69 fr64 m65 hk67 ⟨z66, hz68, st, ⟨y70, rfl, rfl, -⟩ | ⟨y73, rfl, rfl, h2, -⟩⟩
  ·dsimp only at hr
   replace hz := hz.trans hz68
   clear hk67
   refine blockQ.hit ?_
   refine thenQ.n (W.seq (W.region ?_))
   refine sx rfl (pAssign (v := (vI 0)) rfl rfl) ?_
   refine SeqW.done fun fr71 hf72 => ?_
   have h2 : fr71 2 = (vI 0) := (congrFun hf72 2).trans rfl
   clear hf72
   refine thenQ.n ?_
   refine W.ret ?_
   obtain rfl := Option.some.inj hr
   exact ⟨z66, hz, st, .inr rfl, h2, trivial⟩
  ·dsimp only at hr
   replace hz := hz.trans hz68
   clear hk67
   refine blockQ.r ?_
   refine thenQ.r ?_
   obtain rfl := Option.some.inj hr
   exact ⟨z66, hz, st, .inr rfl, h2, trivial⟩

theorem c_consist_check {N : Nat} {z : Nat → Blk} {m : Mem} {x0 : List Wagon} {v0 : Value} (fz : Fz z m) (hd : ∀ b, m.next ≤ b → m.blk b = .dead) (s0 : SlR TWagon z x0 v0) {r : Int} (hr : consist_check N x0 = some r) : CallW Try.prog 26 #[v0] m fun v m' => v = (vI r) ∧ m' = m := by
 refine CallW.flat Try.func26 rfl (by kernel_rfl) (Nat.le_of_ble_eq_true rfl) rfl (z := z) (fun fr hf => ?_)
 have h0 : fr 0 = _ := hf 0 _ rfl
 refine (u_consist_check (k := none) (Zx.refl _) (St.start fz hd) h0 s0 hr).mono ?_
 rintro ex fr' m' ⟨z', hz, st, he, h2, -⟩
 exact ⟨he, z', st, [(vI r)], ⟨h2.symm, trivial⟩, .inl rfl, rfl⟩

/-! ### humpyard/consist.two -/

theorem u_consist_two {N : Nat}  {z0 z : Nat → Blk} {e m : Mem} {k : Option Nat} {fr : Nat → Value} {x0 : List UInt8} {x1 : Int} {v0 : Value} (hz : Zx e.next z0 z) (st : St z e m k) (h0 : fr 0 = v0) (o0 : OwK (TU8 5) z e m k x0 v0) (h1 : fr 1 = (vI x1)) {r : List UInt8} (hr : consist_two N x0 x1 = some r) : W Try.prog (sub (bodyOf Try.f27) []) (fun ex fr' m' => ∃ z', Zx e.next z0 z' ∧ St z' e m' k ∧ (ex = .normal ∨ ex = .ret) ∧ ∃ (w4 : Value), fr' 4 = w4 ∧ OwK (TU8 5) z' e m' k r w4 ∧ True) fr m := by
 unfold consist_two at hr
 refine W.seq (W.region ?_)
 refine sx rfl (pAssign (v := (Value.slice none 0 0)) rfl rfl) ?_
 refine SeqW.done fun fr1 hf2 => ?_
 have h0 := (congrFun hf2 0).trans h0
 have h1 := (congrFun hf2 1).trans h1
 clear hf2
 refine thenQ.n (W.seq (W.region ?_))
 refine sx rfl (pMove (v := v0) rfl h0) ?_
 refine sx rfl (pMove (v := (vI x1)) rfl h1) ?_
 refine sx rfl (pShrL (k := .i64) (a := x1) (n := 8) (p := 256) rfl rfl rfl rfl rfl) ?_
 refine sx rfl (pConv (k := .i64) (a := (Int.fdiv x1 256)) rfl Try.underlying3 Try.underlying5 rfl) ?_
 refine sx rfl (pMove (v := (vI x1)) rfl h1) ?_
 refine sx rfl (pConv (k := .i64) (a := x1) rfl Try.underlying3 Try.underlying5 rfl) ?_
 obtain ⟨y3, hy3, hr⟩ := bind_some hr
 obtain ⟨y4, hy4, hr⟩ := bind_some hr
 refine SeqW.consX rfl (kBuild (T := (TU8 5)) rfl Try.underlying23 Try.type5 rfl rfl rfl rfl ([y3, y4] : List UInt8) [[Value.int .u8 (UInt8.toNat y3 : Int)], [Value.int .u8 (UInt8.toNat y4 : Int)]] rfl rfl rfl (BuildOk.mk (w := (Value.int .u8 (UInt8.toNat y3 : Int))) (by rw [← toU8_some hy3]; exact rfl) rfl rfl rfl (BuildOk.mk (w := (Value.int .u8 (UInt8.toNat y4 : Int))) (by rw [← toU8_some hy4]; exact rfl) rfl rfl rfl trivial)) st ?_)
 intro V5 m6 st O7 sm8 hap9
 have A11 := hap9 _ o0.lt
 replace o0 := o0.same sm8 Ap.none'
 obtain ⟨y12, hy12, hr⟩ := bind_some hr
 refine SeqW.consX rfl (kAppendK (T := (TU8 5)) (xs := x0) (ys := ([y3, y4] : List UInt8)) rfl Try.underlying23 Try.type5 rfl rfl rfl rfl rfl rfl (.inl ⟨_, Try.underlying23⟩) rfl o0 rfl O7.ow.src st hy12 ?_)
 intro V13 m14 st O15 sm16 hap17
 have A19 := hap17 _ O7.lt (Ap.symm A11)
 replace O7 := O7.same sm16 (Ap.symm A11)
 refine sx rfl (pAssign (v := V13) rfl rfl) ?_
 refine SeqW.done fun fr20 hf21 => ?_
 have h4 : fr20 4 = V13 := (congrFun hf21 4).trans rfl
 clear hf21
 refine thenQ.n ?_
 refine W.ret ?_
 obtain rfl := Option.some.inj hr
 exact ⟨z, hz, st, .inr rfl, V13, h4, O15, trivial⟩

theorem c_consist_two {N : Nat} {z : Nat → Blk} {m : Mem} {x0 : List UInt8} {x1 : Int} {v0 : Value} (fz : Fz z m) (hd : ∀ b, m.next ≤ b → m.blk b = .dead) (o0 : Ow (TU8 5) z m x0 v0) {r : List UInt8} (hr : consist_two N x0 x1 = some r) : CallW Try.prog 27 #[v0, (vI x1)] m fun v m' => ∃ z', Zx m.next z z' ∧ St z' m m' (blkOf v0) ∧ OwK (TU8 5) z' m m' (blkOf v0) r v := by
 refine CallW.any Try.func27 rfl (by kernel_rfl) (Nat.le_of_ble_eq_true rfl) (fun fr hf => ?_)
 have h0 : fr 0 = _ := hf 0 _ rfl
 have h1 : fr 1 = _ := hf 1 _ rfl
 refine (u_consist_two (Zx.refl _) (St.start fz hd) h0 o0.K h1 hr).mono ?_
 rintro ex fr' m' ⟨z', hz, st, he, w4, h4, s4, -⟩
 exact ⟨he, [_], ⟨h4.symm, trivial⟩, .inl rfl, z', hz, st, s4⟩

/-! ### humpyard/consist.Check -/

theorem u_consist_Check_0 : ∀ (n : Nat) {N : Nat}  {z0 z : Nat → Blk} {e m : Mem} {k : Option Nat} {fr : Nat → Value} {x3 : Int} {x6 : List UInt8} {x7 : Int} {x8 : Int} {v6 : Value} (hz : Zx e.next z0 z) (st : St z e m k) (h3 : fr 3 = (vI x3)) (h6 : fr 6 = v6) (s6 : SlR (TU8 5) z x6 v6) (h7 : fr 7 = (vI x7)) (h8 : fr 8 = (vI x8)) {r : Int} (hr : consist_Check_0 N x6 x7 n x3 x8 = some r), W Try.prog (sub (bodyOf Try.f28) [1, 1, 0, 1, 0]) (fun ex fr' m' => ∃ z', Zx e.next z0 z' ∧ St z' e m' k ∧ ex = AExit.exit 0 ∧ fr' 3 = (vI r) ∧ True) fr m := by
 intro n
 induction n with
 | zero => intro N z0 z e m k fr x3 x6 x7 x8 v6 hz st h3 h6 s6 h7 h8 r hr; cases (show (none : Option _) = some r from hr)
 | succ n ih =>
  intro N z0 z e m k fr x3 x6 x7 x8 v6 hz st h3 h6 s6 h7 h8 r hr
  unfold consist_Check_0 at hr
  refine W.loop1 ?_
  refine W.seq (W.region ?_)
  refine sx rfl (pLss (k := .i64) (a := x8) (b := x7) rfl h8 h7) ?_
  refine SeqW.done fun fr7 hf8 => ?_
  have h3 := (congrFun hf8 3).trans h3
  have h6 := (congrFun hf8 6).trans h6
  have h7 := (congrFun hf8 7).trans h7
  have h8 := (congrFun hf8 8).trans h8
  have h9 : fr7 9 = (vB (decide (x8 < x7))) := (congrFun hf8 9).trans rfl
  clear hf8
  refine thenQ.n (W.seq ?_)
  rcases if_some hr with ⟨hc9, hr⟩ | ⟨hc24, hr⟩
  ·refine W.condT h9 hc9 (W.skip ?_)
   refine thenQ.n (W.seq ?_)
   refine W.block ?_
   refine W.seq (W.region ?_)
   refine sx rfl (pMove (v := (vI x8)) rfl h8) ?_
   obtain ⟨y10, hy10, hr⟩ := bind_some hr
   refine SeqW.consX rfl (kIdxR (T := (TU8 5)) (xs := x6) (n := x8) rfl Try.underlying23 Try.type5 rfl h6 h8 s6 hy10 ?_)
   intro B11 f12 cs13 hd14 hc15
   obtain rfl := hd14
   refine SeqW.consX rfl (kLoad (v := (Value.int .u8 (UInt8.toNat y10 : Int))) rfl Try.underlying5 rfl rfl (ldz_load st.fz (hc15 0 _ rfl)) ?_)
   refine sx rfl (pAssign (v := (vI x8)) rfl rfl) ?_
   obtain ⟨y16, hy16, hr⟩ := lt_some hr
   refine sx rfl (pAssign rfl (congrArg (Value.int .u8) hy16)) ?_
   refine SeqW.done fun fr17 hf18 => ?_
   have h3 := (congrFun hf18 3).trans h3
   have h4 : fr17 4 = (vI x8) := (congrFun hf18 4).trans rfl
   have h5 : fr17 5 = (Value.int .u8 y16) := (congrFun hf18 5).trans rfl
   have h6 := (congrFun hf18 6).trans h6
   have h7 := (congrFun hf18 7).trans h7
   have h8 := (congrFun hf18 8).trans h8
   clear hf18
   refine thenQ.n (W.region ?_)
   refine sx rfl (pMove (v := (vI x3)) rfl h3) ?_
   refine sx rfl (pMove (v := (vI x8)) rfl h4) ?_
   refine sx rfl (pAdd (k := .i64) (a := x8) (b := 1) rfl rfl rfl) ?_
   refine sx rfl (pRem (k := .i64) (a := (IntKind.wrap .i64 (x8 + 1))) (b := 65521) rfl rfl rfl (by decide)) ?_
   refine sx rfl (pMove (v := (Value.int .u8 y16)) rfl h5) ?_
   refine sx rfl (pConv (k := .u8) (a := y16) rfl Try.underlying5 Try.underlying3 rfl) ?_
   refine sx rfl (pMul (k := .i64) (a := (Int.tmod (IntKind.wrap .i64 (x8 + 1)) 65521)) (b := (IntKind.wrap .i64 y16)) rfl rfl rfl) ?_
   refine sx rfl (pAdd (k := .i64) (a := x3) (b := (IntKind.wrap .i64 ((Int.tmod (IntKind.wrap .i64 (x8 + 1)) 65521) * (IntKind.wrap .i64 y16)))) rfl rfl rfl) ?_
   refine sx rfl (pRem (k := .i64) (a := (IntKind.wrap .i64 (x3 + (IntKind.wrap .i64 ((Int.tmod (IntKind.wrap .i64 (x8 + 1)) 65521) * (IntKind.wrap .i64 y16)))))) (b := 65521) rfl rfl rfl (by decide)) ?_
   obtain ⟨y19, hy19, hr⟩ := lt_some hr
   refine sx rfl (pAssign rfl (congrArg (Value.int .i64) hy19)) ?_
   refine SeqW.done fun fr20 hf21 => ?_
   have h3 : fr20 3 = (vI y19) := (congrFun hf21 3).trans rfl
   have h6 := (congrFun hf21 6).trans h6
   have h7 := (congrFun hf21 7).trans h7
   have h8 := (congrFun hf21 8).trans h8
   clear hf21
   refine blockQ.n ?_
   refine thenQ.n (W.region ?_)
   refine sx rfl (pAdd (k := .i64) (a := x8) (b := 1) rfl h8 rfl) ?_
   refine sx rfl (pMove (v := (vI (IntKind.wrap .i64 (x8 + 1)))) rfl rfl) ?_
   refine SeqW.done fun fr22 hf23 => ?_
   have h3 := (congrFun hf23 3).trans h3
   have h6 := (congrFun hf23 6).trans h6
   have h7 := (congrFun hf23 7).trans h7
   have h8 : fr22 8 = (vI (IntKind.wrap .i64 (x8 + 1))) := (congrFun hf23 8).trans rfl
   clear hf23
   refine thenQ.n ?_
   exact ih hz st h3 h6 s6 h7 h8 hr
  ·refine W.condF h9 hc24 ?_
   refine W.exit ?_
   refine thenQ.x ?_
   refine thenQ.x ?_
   obtain rfl := Option.some.inj hr
   exact ⟨z, hz, st, rfl, h3, trivial⟩

theorem u_consist_Check {N : Nat}  {z0 z : Nat → Blk} {e m : Mem} {k : Option Nat} {fr : Nat → Value} {x0 : List UInt8} {v0 : Value} (hz : Zx e.next z0 z) (st : St z e m k) (h0 : fr 0 = v0) (s0 : SlR (TU8 5) z x0 v0) {r : Int} (hr : consist_Check N x0 = some r) : W Try.prog (sub (bodyOf Try.f28) []) (fun ex fr' m' => ∃ z', Zx e.next z0 z' ∧ St z' e m' k ∧ (ex = .normal ∨ ex = .ret) ∧ fr' 2 = (vI r) ∧ True) fr m := by
 unfold consist_Check at hr
 refine W.seq (W.region ?_)
 refine sx rfl (pAssign (v := (vI 0)) rfl rfl) ?_
 refine SeqW.done fun fr1 hf2 => ?_
 have h0 := (congrFun hf2 0).trans h0
 clear hf2
 refine thenQ.n (W.seq (W.region ?_))
 refine sx rfl (pAssign (v := (vI 0)) rfl rfl) ?_
 refine SeqW.done fun fr3 hf4 => ?_
 have h0 := (congrFun hf4 0).trans h0
 have h3 : fr3 3 = (vI 0) := (congrFun hf4 3).trans rfl
 clear hf4
 refine thenQ.n (W.seq ?_)
 refine W.seq (W.region ?_)
 refine sx rfl (pMove (v := v0) rfl h0) ?_
 refine sx rfl (pLenR (xs := x0) rfl Try.underlying23 rfl s0) ?_
 refine sx rfl (pMove (v := (vI 0)) rfl rfl) ?_
 refine SeqW.done fun fr5 hf6 => ?_
 have h3 := (congrFun hf6 3).trans h3
 have h6 : fr5 6 = v0 := (congrFun hf6 6).trans rfl
 have h7 : fr5 7 = (vI (x0.length : Int)) := (congrFun hf6 7).trans rfl
 have h8 : fr5 8 = (vI 0) := (congrFun hf6 8).trans rfl
 clear hf6
 refine thenQ.n ?_
 refine W.block ?_
 obtain ⟨y25, hy25, hr⟩ := bind_some hr
 refine W.keep (u_consist_Check_0 _ (Zx.refl _) st h3 h6 s0 h7 h8 hy25) ?_
 rintro ex31 fr26 m27 hk29 ⟨z28, hz30, st, rfl, h3, -⟩
 replace hz := hz.trans hz30
 clear hk29
 refine blockQ.hit ?_
 refine thenQ.n (W.seq (W.region ?_))
 refine sx rfl (pMove (v := (vI y25)) rfl h3) ?_
 refine sx rfl (pAssign (v := (vI y25)) rfl rfl) ?_
 refine SeqW.done fun fr32 hf33 => ?_
 have h2 : fr32 2 = (vI y25) := (congrFun hf33 2).trans rfl
 clear hf33
 refine thenQ.n ?_
 refine W.ret ?_
 obtain rfl := Option.some.inj hr
 exact ⟨z28, hz, st, .inr rfl, h2, trivial⟩

theorem c_consist_Check {N : Nat} {z : Nat → Blk} {m : Mem} {x0 : List UInt8} {v0 : Value} (fz : Fz z m) (hd : ∀ b, m.next ≤ b → m.blk b = .dead) (s0 : SlR (TU8 5) z x0 v0) {r : Int} (hr : consist_Check N x0 = some r) : CallW Try.prog 28 #[v0] m fun v m' => v = (vI r) ∧ m' = m := by
 refine CallW.flat Try.func28 rfl (by kernel_rfl) (Nat.le_of_ble_eq_true rfl) rfl (z := z) (fun fr hf => ?_)
 have h0 : fr 0 = _ := hf 0 _ rfl
 refine (u_consist_Check (k := none) (Zx.refl _) (St.start fz hd) h0 s0 hr).mono ?_
 rintro ex fr' m' ⟨z', hz, st, he, h2, -⟩
 exact ⟨he, z', st, [(vI r)], ⟨h2.symm, trivial⟩, .inl rfl, rfl⟩

/-! ### humpyard/consist.Encode -/

theorem u_consist_Encode_1 : ∀ (n : Nat) {N : Nat}  {z0 z : Nat → Blk} {e m : Mem} {k : Option Nat} {fr : Nat → Value} {x5 : List UInt8} {x7 : Wagon} {x8 : Int} {v5 : Value} {b7 : Nat} (hz : Zx e.next z0 z) (st : St z e m k) (h5 : fr 5 = v5) (o5 : OwF (TU8 5) z e m k x5 v5) (h7 : fr 7 = (vP b7)) (bx7 : Bx z e m k b7 [(str x7.number), (vI x7.length), (vI x7.axles), (vI x7.mass), (vI x7.brake), (vI x7.goods), (vB x7.gentle), (str x7.dest)] 42) (h8 : fr 8 = (vI x8)) (ao5_o7 : Ap (blkOf v5) (some b7)) {r : List UInt8} (hr : consist_Encode_1 N x7 n x5 x8 = some r), W Try.prog (sub (bodyOf Try.f11) [1, 1, 1, 0, 1, 0, 0, 1, 1, 0, 0, 1, 0, 1, 0]) (fun ex fr' m' => ∃ z', Zx e.next z0 z' ∧ St z' e m' k ∧ ex = AExit.exit 2 ∧ ∃ (w5 : Value), fr' 5 = w5 ∧ OwF (TU8 5) z' e m' k r w5 ∧ Bx z' e m' k b7 [(str x7.number), (vI x7.length), (vI x7.axles), (vI x7.mass), (vI x7.brake), (vI x7.goods), (vB x7.gentle), (str x7.dest)] 42 ∧ Ap (blkOf w5) (some b7) ∧ True) fr m := by
 intro n
 induction n with
 | zero => intro N z0 z e m k fr x5 x7 x8 v5 b7 hz st h5 o5 h7 bx7 h8 ao5_o7 r hr; cases (show (none : Option _) = some r from hr)
 | succ n ih =>
  intro N z0 z e m k fr x5 x7 x8 v5 b7 hz st h5 o5 h7 bx7 h8 ao5_o7 r hr
  unfold consist_Encode_1 at hr
  refine W.loop1 ?_
  refine W.seq (W.seq (W.region ?_))
  refine sx rfl (pMove (v := (vI x8)) rfl h8) ?_
  refine sx rfl (pLss (k := .i64) (a := x8) (b := 12) rfl rfl rfl) ?_
  refine SeqW.done fun fr45 hf46 => ?_
  have h5 := (congrFun hf46 5).trans h5
  have h7 := (congrFun hf46 7).trans h7
  have h8 := (congrFun hf46 8).trans h8
  have h26 : fr45 26 = (vB (decide (x8 < 12))) := (congrFun hf46 26).trans rfl
  clear hf46
  refine thenQ.n ?_
  rcases if_some hr with ⟨hc47, hr⟩ | ⟨hc77, hr⟩
  ·refine W.condT h26 hc47 (W.skip ?_)
   refine thenQ.n (W.seq ?_)
   refine W.block ?_
   refine W.draw ?_
   refine DrawW.cons rfl (StepX.pure (pMove (v := v5) rfl h5) ?_)
   refine ⟨trivial, ?_⟩
   refine DrawW.cons rfl (kField rfl Try.underlying42 rfl Try.type9 rfl h7 rfl ?_)
   refine ⟨trivial, ?_⟩
   refine DrawW.cons rfl (kLoad rfl Try.underlying9 rfl rfl (bx7.load (v := (str x7.number)) rfl) ?_)
   refine ⟨?_, ?_⟩
   ·exact demN
   refine DrawW.cons rfl (StepX.pure (pMove (v := (vI x8)) rfl h8) ?_)
   refine ⟨trivial, ?_⟩
   obtain ⟨y48, hy48, hr⟩ := bind_some hr
   refine DrawW.cons rfl (kIndexS (s := x7.number) (n := x8) rfl Try.underlying9 rfl rfl hy48 ?_)
   refine ⟨trivial, ?_⟩
   refine DrawW.cons rfl (StepX.pure (pSub (k := .u8) (a := (UInt8.toNat y48 : Int)) (b := 48) rfl rfl rfl) ?_)
   refine ⟨trivial, ?_⟩
   refine DrawW.cons rfl (StepX.pure (pShlL (k := .u8) (a := (IntKind.wrap .u8 ((UInt8.toNat y48 : Int) - 48))) (n := 4) (p := 16) rfl rfl rfl rfl rfl) ?_)
   refine ⟨trivial, ?_⟩
   refine DrawW.cons rfl (kField rfl Try.underlying42 rfl Try.type9 rfl h7 rfl ?_)
   refine ⟨trivial, ?_⟩
   refine DrawW.cons rfl (kLoad rfl Try.underlying9 rfl rfl (bx7.load (v := (str x7.number)) rfl) ?_)
   refine ⟨?_, ?_⟩
   ·exact demN
   refine DrawW.cons rfl (StepX.pure (pMove (v := (vI x8)) rfl h8) ?_)
   refine ⟨trivial, ?_⟩
   refine DrawW.cons rfl (StepX.pure (pAdd (k := .i64) (a := x8) (b := 1) rfl rfl rfl) ?_)
   refine ⟨trivial, ?_⟩
   obtain ⟨y49, hy49, hr⟩ := bind_some hr
   refine DrawW.cons rfl (kIndexS (s := x7.number) (n := (IntKind.wrap .i64 (x8 + 1))) rfl Try.underlying9 rfl rfl hy49 ?_)
   refine ⟨trivial, ?_⟩
   refine DrawW.cons rfl (StepX.pure (pSub (k := .u8) (a := (UInt8.toNat y49 : Int)) (b := 48) rfl rfl rfl) ?_)
   refine ⟨trivial, ?_⟩
   refine DrawW.cons rfl (StepX.pure (pOr (k := .u8) (a := (IntKind.wrap .u8 ((IntKind.wrap .u8 ((UInt8.toNat y48 : Int) - 48)) * 16))) (b := (IntKind.wrap .u8 ((UInt8.toNat y49 : Int) - 48))) rfl rfl rfl) ?_)
   refine ⟨trivial, ?_⟩
   obtain ⟨y50, hy50, hr⟩ := bind_some hr
   refine DrawW.cons rfl (kBuild (T := (TU8 5)) rfl Try.underlying23 Try.type5 rfl rfl rfl rfl ([y50] : List UInt8) [[Value.int .u8 (UInt8.toNat y50 : Int)]] rfl rfl rfl (BuildOk.mk (w := (Value.int .u8 (UInt8.toNat y50 : Int))) (by rw [← toU8_some hy50]; exact rfl) rfl rfl rfl trivial) st ?_)
   intro V51 m52 st O53 sm54 hap55
   have A57 := hap55 _ o5.lt
   have A58 := hap55 _ bx7.lt'
   replace o5 := o5.same sm54 Ap.none'
   replace bx7 := bx7.same sm54 Ap.none'
   refine ⟨trivial, ?_⟩
   have sto59 := st
   have old60 := o5
   have old61 := bx7
   have old62 := O53
   obtain ⟨y63, hy63, hr⟩ := bind_some hr
   refine DrawW.cons rfl (kAppend (T := (TU8 5)) (xs := x5) (ys := ([y50] : List UInt8)) rfl Try.underlying23 Try.type5 rfl rfl rfl rfl rfl rfl (.inl ⟨_, Try.underlying23⟩) rfl o5 rfl O53.ow.src st hy63 ?_)
   intro V64 m65 st O66 sm67 hap68
   have A70 := hap68 _ bx7.lt' (Ap.symm ao5_o7)
   have A71 := hap68 _ O53.lt (Ap.symm A57)
   replace bx7 := bx7.same sm67 (Ap.symm ao5_o7)
   replace O53 := O53.same sm67 (Ap.symm A57)
   refine ⟨⟨?_, ?_⟩, ?_⟩
   ·first | refine demP (gLoad rfl Try.underlying9 rfl rfl (bx7.load (v := (str x7.number)) rfl)) ?_ | refine demA (by decide) ?_
    first | refine demP (gLoad rfl Try.underlying9 rfl rfl (bx7.load (v := (str x7.number)) rfl)) ?_ | refine demA (by decide) ?_
    exact demN
   ·first | refine demP (rfl) ?_ | refine demA (by decide) ?_
    exact demN
   refine DrawW.cons rfl (StepX.pure (pAssign (v := V64) rfl rfl) ?_)
   refine ⟨trivial, ?_⟩
   refine DrawW.done fun fr72 hf73 => ?_
   have h5 : fr72 5 = V64 := (congrFun hf73 5).trans rfl
   have h7 := (congrFun hf73 7).trans h7
   have h8 := (congrFun hf73 8).trans h8
   clear hf73
   refine blockQ.n ?_
   refine thenQ.n (W.region ?_)
   refine sx rfl (pMove (v := (vI x8)) rfl h8) ?_
   refine sx rfl (pAdd (k := .i64) (a := x8) (b := 2) rfl rfl rfl) ?_
   obtain ⟨y74, hy74, hr⟩ := lt_some hr
   refine sx rfl (pAssign rfl (congrArg (Value.int .i64) hy74)) ?_
   refine SeqW.done fun fr75 hf76 => ?_
   have h5 := (congrFun hf76 5).trans h5
   have h7 := (congrFun hf76 7).trans h7
   have h8 : fr75 8 = (vI y74) := (congrFun hf76 8).trans rfl
   clear hf76
   refine thenQ.n ?_
   exact ih (x7 := x7) hz st h5 O66 h7 bx7 h8 (Ap.symm A70) hr
  ·refine W.condF h26 hc77 ?_
   refine W.exit ?_
   refine thenQ.x ?_
   refine thenQ.x ?_
   obtain rfl := Option.some.inj hr
   exact ⟨z, hz, st, rfl, v5, h5, o5, bx7, ao5_o7, trivial⟩

theorem u_consist_Encode_2 {N : Nat}  {z0 z : Nat → Blk} {e m : Mem} {k : Option Nat} {fr : Nat → Value} {x9 : Int} {x64 : Bool} {x5 : List UInt8} {v5 : Value} {x7 : Wagon} {b7 : Nat} (hz : Zx e.next z0 z) (st : St z e m k) (h5 : fr 5 = v5) (o5 : OwF (TU8 5) z e m k x5 v5) (h7 : fr 7 = (vP b7)) (bx7 : Bx z e m k b7 [(str x7.number), (vI x7.length), (vI x7.axles), (vI x7.mass), (vI x7.brake), (vI x7.goods), (vB x7.gentle), (str x7.dest)] 42) (h9 : fr 9 = (vI x9)) (h64 : fr 64 = (vB x64)) (ao5_o7 : Ap (blkOf v5) (some b7)) {r : Int} (hr : consist_Encode_2 N x9 x64 = some r) : W Try.prog (sub (bodyOf Try.f11) [1, 1, 1, 0, 1, 0, 0, 1, 1, 0, 0, 1, 1, 1, 1, 1, 0, 1]) (fun ex fr' m' => ∃ z', Zx e.next z0 z' ∧ St z' e m' k ∧ ex = AExit.normal ∧ fr' 9 = (vI r) ∧ OwF (TU8 5) z' e m' k x5 v5 ∧ Bx z' e m' k b7 [(str x7.number), (vI x7.length), (vI x7.axles), (vI x7.mass), (vI x7.brake), (vI x7.goods), (vB x7.gentle), (str x7.dest)] 42 ∧ Ap (blkOf v5) (some b7) ∧ True) fr m := by
 unfold consist_Encode_2 at hr
 rcases if_some hr with ⟨hc167, hr⟩ | ⟨hc171, hr⟩
 ·refine W.condT h64 hc167 (W.region ?_)
  refine sx rfl (pMove (v := (vI x9)) rfl h9) ?_
  refine sx rfl (pAdd (k := .i64) (a := x9) (b := 16) rfl rfl rfl) ?_
  obtain ⟨y168, hy168, hr⟩ := lt_some hr
  refine sx rfl (pAssign rfl (congrArg (Value.int .i64) hy168)) ?_
  refine SeqW.done fun fr169 hf170 => ?_
  have h5 := (congrFun hf170 5).trans h5
  have h7 := (congrFun hf170 7).trans h7
  have h9 : fr169 9 = (vI y168) := (congrFun hf170 9).trans rfl
  clear hf170
  obtain rfl := Option.some.inj hr
  exact ⟨z, hz, st, rfl, h9, o5, bx7, ao5_o7, trivial⟩
 ·refine W.condF h64 hc171 (W.skip ?_)
  obtain rfl := Option.some.inj hr
  exact ⟨z, hz, st, rfl, h9, o5, bx7, ao5_o7, trivial⟩

theorem u_consist_Encode_0 : ∀ (n : Nat) {N : Nat}  {z0 z : Nat → Blk} {e m : Mem} {k : Option Nat} {fr : Nat → Value} {x5 : List UInt8} {x19 : List Wagon} {x20 : Int} {x21 : Int} {v5 : Value} {v19 : Value} (hz : Zx e.next z0 z) (st : St z e m k) (h5 : fr 5 = v5) (o5 : OwF (TU8 5) z e m k x5 v5) (h19 : fr 19 = v19) (s19 : SlR TWagon z x19 v19) (h20 : fr 20 = (vI x20)) (h21 : fr 21 = (vI x21)) {r : List UInt8} (hr : consist_Encode_0 N x19 x20 n x5 x21 = some r), W Try.prog (sub (bodyOf Try.f11) [1, 1, 1, 0, 1, 0]) (fun ex fr' m' => ∃ z', Zx e.next z0 z' ∧ St z' e m' k ∧ ex = AExit.exit 0 ∧ ∃ (w5 : Value), fr' 5 = w5 ∧ OwF (TU8 5) z' e m' k r w5 ∧ True) fr m := by
 intro n
 induction n with
 | zero => intro N z0 z e m k fr x5 x19 x20 x21 v5 v19 hz st h5 o5 h19 s19 h20 h21 r hr; cases (show (none : Option _) = some r from hr)
 | succ n ih =>
  intro N z0 z e m k fr x5 x19 x20 x21 v5 v19 hz st h5 o5 h19 s19 h20 h21 r hr
  unfold consist_Encode_0 at hr
  refine W.loop1 ?_
  refine W.seq (W.region ?_)
  refine sx rfl (pLss (k := .i64) (a := x21) (b := x20) rfl h21 h20) ?_
  refine SeqW.done fun fr23 hf24 => ?_
  have h5 := (congrFun hf24 5).trans h5
  have h19 := (congrFun hf24 19).trans h19
  have h20 := (congrFun hf24 20).trans h20
  have h21 := (congrFun hf24 21).trans h21
  have h22 : fr23 22 = (vB (decide (x21 < x20))) := (congrFun hf24 22).trans rfl
  clear hf24
  refine thenQ.n (W.seq ?_)
  rcases if_some hr with ⟨hc25, hr⟩ | ⟨hc214, hr⟩
  ·refine W.condT h22 hc25 (W.skip ?_)
   refine thenQ.n (W.seq ?_)
   refine W.block ?_
   refine W.seq (W.region ?_)
   obtain ⟨y26, hy26, hr⟩ := bind_some hr
   refine SeqW.consX rfl (kIdxR (T := TWagon) (xs := x19) (n := x21) rfl Try.underlying24 Try.type42 rfl h19 h21 s19 hy26 ?_)
   intro B27 f28 cs29 hd30 hc31
   obtain rfl := hd30
   refine SeqW.consX rfl (kLoadA rfl Try.underlying42 rfl Try.type42 rfl rfl (st.loads hc31) ?_)
   refine SeqW.consX rfl (kAlloc rfl Try.type42 rfl rfl rfl [(str []), (vI 0), (vI 0), (vI 0), (vI 0), (vI 0), (vB false), (str [])] rfl st ?_)
   intro B32 m33 st X34 sm35 hap36
   have A38 := hap36 _ o5.lt
   replace o5 := o5.same sm35 Ap.none'
   refine SeqW.consX rfl (kPut (off := 0) (w := (Value.agg [(str y26.number), (vI y26.length), (vI y26.axles), (vI y26.mass), (vI y26.brake), (vI y26.goods), (vB y26.gentle), (str y26.dest)].toArray)) (new := [(str y26.number), (vI y26.length), (vI y26.axles), (vI y26.mass), (vI y26.brake), (vI y26.goods), (vB y26.gentle), (str y26.dest)]) rfl Try.type42 rfl rfl rfl rfl rfl X34 rfl [(str y26.number), (vI y26.length), (vI y26.axles), (vI y26.mass), (vI y26.brake), (vI y26.goods), (vB y26.gentle), (str y26.dest)] rfl st ?_)
   intro m39 st X34 sm40
   replace o5 := o5.same sm40 A38
   refine SeqW.done fun fr41 hf42 => ?_
   have h5 := (congrFun hf42 5).trans h5
   have h7 : fr41 7 = (vP B32) := (congrFun hf42 7).trans rfl
   have h19 := (congrFun hf42 19).trans h19
   have h20 := (congrFun hf42 20).trans h20
   have h21 := (congrFun hf42 21).trans h21
   clear hf42
   refine thenQ.n (W.seq ?_)
   refine W.seq (W.region ?_)
   refine sx rfl (pAssign (v := (vI 0)) rfl rfl) ?_
   refine SeqW.done fun fr43 hf44 => ?_
   have h5 := (congrFun hf44 5).trans h5
   have h7 := (congrFun hf44 7).trans h7
   have h8 : fr43 8 = (vI 0) := (congrFun hf44 8).trans rfl
   have h19 := (congrFun hf44 19).trans h19
   have h20 := (congrFun hf44 20).trans h20
   have h21 := (congrFun hf44 21).trans h21
   clear hf44
   refine thenQ.n ?_
   refine W.block ?_
   obtain ⟨y78, hy78, hr⟩ := bind_some hr
   refine W.keep (u_consist_Encode_1 (x7 := y26) _ (Zx.refl _) st h5 o5 h7 X34 h8 A38 hy78) ?_
   rintro ex84 fr79 m80 hk82 ⟨z81, hz83, st, rfl, w85, h5, O87, O88, A89, -⟩
   replace s19 := s19.mono hz83.le
   have h7 := (hk82 7 rfl).trans h7
   have h19 := (hk82 19 rfl).trans h19
   have h20 := (hk82 20 rfl).trans h20
   have h21 := (hk82 21 rfl).trans h21
   replace hz := hz.trans hz83
   clear hk82
   refine blockQ.hit ?_
   refine thenQ.n (W.seq ?_)
   refine W.draw ?_
   refine DrawW.cons rfl (StepX.pure (pMove (v := w85) rfl h5) ?_)
   refine ⟨trivial, ?_⟩
   refine DrawW.cons rfl (kField rfl Try.underlying42 rfl Try.type3 rfl h7 rfl ?_)
   refine ⟨trivial, ?_⟩
   refine DrawW.cons rfl (kLoad rfl Try.underlying3 rfl rfl (O88.load (v := (vI y26.length)) rfl) ?_)
   refine ⟨?_, ?_⟩
   ·exact demN
   have sto90 := st
   have old91 := O88
   have old92 := O87
   obtain ⟨y93, hy93, hr⟩ := bind_some hr
   refine DrawW.cons rfl (StepX.call (gCallee rfl rfl (args2 rfl rfl)) ((c_consist_two st.fz st.dead O87.ow hy93).mono ?_))
   rintro V94 m95 ⟨z96, hzx97, st99, Q98⟩
   obtain ⟨st99b, Q98b, sm100, hap101⟩ := O87.back st hzx97 st99 Q98
   have A104 := hap101 _ O88.lt' (Ap.symm A89)
   have sr105 := s19
   replace s19 := s19.mono hzx97.le
   replace O88 := O88.call hzx97 sm100 (Ap.symm A89)
   replace hz := hz.trans (Zx.here st hzx97)
   replace st := st99b
   refine ⟨⟨?_, ?_⟩, ?_⟩
   ·first | refine demP (gLoad rfl Try.underlying3 rfl rfl (O88.load (v := (vI y26.length)) rfl)) ?_ | refine demA (by decide) ?_
    exact demN
   ·exact demN
   refine DrawW.cons rfl (kField rfl Try.underlying42 rfl Try.type3 rfl h7 rfl ?_)
   refine ⟨trivial, ?_⟩
   refine DrawW.cons rfl (kLoad rfl Try.underlying3 rfl rfl (O88.load (v := (vI y26.axles)) rfl) ?_)
   refine ⟨?_, ?_⟩
   ·first | refine demP (gLoad rfl Try.underlying3 rfl rfl (old91.load (v := (vI y26.axles)) rfl)) ?_ | refine demA (by decide) ?_
    exact demN
   refine DrawW.cons rfl (StepX.pure (pConv (k := .i64) (a := y26.axles) rfl Try.underlying3 Try.underlying5 rfl) ?_)
   refine ⟨trivial, ?_⟩
   obtain ⟨y106, hy106, hr⟩ := bind_some hr
   refine DrawW.cons rfl (kBuild (T := (TU8 5)) rfl Try.underlying23 Try.type5 rfl rfl rfl rfl ([y106] : List UInt8) [[Value.int .u8 (UInt8.toNat y106 : Int)]] rfl rfl rfl (BuildOk.mk (w := (Value.int .u8 (UInt8.toNat y106 : Int))) (by rw [← toU8_some hy106]; exact rfl) rfl rfl rfl trivial) st ?_)
   intro V107 m108 st O109 sm110 hap111
   have A113 := hap111 _ O88.lt'
   have A114 := hap111 _ Q98b.lt
   replace O88 := O88.same sm110 Ap.none'
   replace Q98b := Q98b.same sm110 Ap.none'
   refine ⟨trivial, ?_⟩
   have sto115 := st
   have old116 := O88
   have old117 := Q98b
   have old118 := O109
   obtain ⟨y119, hy119, hr⟩ := bind_some hr
   refine DrawW.cons rfl (kAppend (T := (TU8 5)) (xs := y93) (ys := ([y106] : List UInt8)) rfl Try.underlying23 Try.type5 rfl rfl rfl rfl rfl rfl (.inl ⟨_, Try.underlying23⟩) rfl Q98b rfl O109.ow.src st hy119 ?_)
   intro V120 m121 st O122 sm123 hap124
   have A126 := hap124 _ O88.lt' A104
   have A127 := hap124 _ O109.lt (Ap.symm A114)
   replace O88 := O88.same sm123 A104
   replace O109 := O109.same sm123 (Ap.symm A114)
   refine ⟨⟨?_, ?_⟩, ?_⟩
   ·first | refine demP (gLoad rfl Try.underlying3 rfl rfl (O88.load (v := (vI y26.axles)) rfl)) ?_ | refine demA (by decide) ?_
    first | refine demP (gLoad rfl Try.underlying3 rfl rfl (O88.load (v := (vI y26.length)) rfl)) ?_ | refine demA (by decide) ?_
    exact demN
   ·first | refine demP (rfl) ?_ | refine demA (by decide) ?_
    exact demN
   refine DrawW.cons rfl (StepX.pure (pAssign (v := V120) rfl rfl) ?_)
   refine ⟨trivial, ?_⟩
   refine DrawW.done fun fr128 hf129 => ?_
   have h5 : fr128 5 = V120 := (congrFun hf129 5).trans rfl
   have h7 := (congrFun hf129 7).trans h7
   have h19 := (congrFun hf129 19).trans h19
   have h20 := (congrFun hf129 20).trans h20
   have h21 := (congrFun hf129 21).trans h21
   clear hf129
   refine thenQ.n (W.seq ?_)
   refine W.draw ?_
   refine DrawW.cons rfl (StepX.pure (pMove (v := V120) rfl h5) ?_)
   refine ⟨trivial, ?_⟩
   refine DrawW.cons rfl (kField rfl Try.underlying42 rfl Try.type3 rfl h7 rfl ?_)
   refine ⟨trivial, ?_⟩
   refine DrawW.cons rfl (kLoad rfl Try.underlying3 rfl rfl (O88.load (v := (vI y26.mass)) rfl) ?_)
   refine ⟨?_, ?_⟩
   ·exact demN
   have sto130 := st
   have old131 := O88
   have old132 := O122
   obtain ⟨y133, hy133, hr⟩ := bind_some hr
   refine DrawW.cons rfl (StepX.call (gCallee rfl rfl (args2 rfl rfl)) ((c_consist_two st.fz st.dead O122.ow hy133).mono ?_))
   rintro V134 m135 ⟨z136, hzx137, st139, Q138⟩
   obtain ⟨st139b, Q138b, sm140, hap141⟩ := O122.back st hzx137 st139 Q138
   have A144 := hap141 _ O88.lt' A126
   have sr145 := s19
   replace s19 := s19.mono hzx137.le
   replace O88 := O88.call hzx137 sm140 A126
   replace hz := hz.trans (Zx.here st hzx137)
   replace st := st139b
   refine ⟨⟨?_, ?_⟩, ?_⟩
   ·first | refine demP (gLoad rfl Try.underlying3 rfl rfl (O88.load (v := (vI y26.mass)) rfl)) ?_ | refine demA (by decide) ?_
    exact demN
   ·exact demN
   refine DrawW.cons rfl (kField rfl Try.underlying42 rfl Try.type3 rfl h7 rfl ?_)
   refine ⟨trivial, ?_⟩
   refine DrawW.cons rfl (kLoad rfl Try.underlying3 rfl rfl (O88.load (v := (vI y26.brake)) rfl) ?_)
   refine ⟨?_, ?_⟩
   ·first | refine demP (gLoad rfl Try.underlying3 rfl rfl (old131.load (v := (vI y26.brake)) rfl)) ?_ | refine demA (by decide) ?_
    exact demN
   have sto146 := st
   have old147 := O88
   have old148 := Q138b
   obtain ⟨y149, hy149, hr⟩ := bind_some hr
   refine DrawW.cons rfl (StepX.call (gCallee rfl rfl (args2 rfl rfl)) ((c_consist_two st.fz st.dead Q138b.ow hy149).mono ?_))
   rintro V150 m151 ⟨z152, hzx153, st155, Q154⟩
   obtain ⟨st155b, Q154b, sm156, hap157⟩ := Q138b.back st hzx153 st155 Q154
   have A160 := hap157 _ O88.lt' A144
   replace s19 := s19.mono hzx153.le
   replace O88 := O88.call hzx153 sm156 A144
   replace hz := hz.trans (Zx.here st hzx153)
   replace st := st155b
   refine ⟨⟨?_, ?_⟩, ?_⟩
   ·first | refine demP (gLoad rfl Try.underlying3 rfl rfl (O88.load (v := (vI y26.brake)) rfl)) ?_ | refine demA (by decide) ?_
    first | refine demP (gLoad rfl Try.underlying3 rfl rfl (O88.load (v := (vI y26.mass)) rfl)) ?_ | refine demA (by decide) ?_
    exact demN
   ·exact demN
   refine DrawW.cons rfl (StepX.pure (pAssign (v := V150) rfl rfl) ?_)
   refine ⟨trivial, ?_⟩
   refine DrawW.done fun fr161 hf162 => ?_
   have h5 : fr161 5 = V150 := (congrFun hf162 5).trans rfl
   have h7 := (congrFun hf162 7).trans h7
   have h19 := (congrFun hf162 19).trans h19
   have h20 := (congrFun hf162 20).trans h20
   have h21 := (congrFun hf162 21).trans h21
   clear hf162
   refine thenQ.n (W.seq (W.region ?_))
   refine SeqW.consX rfl (kField rfl Try.underlying42 rfl Try.type3 rfl h7 rfl ?_)
   refine SeqW.consX rfl (kLoad rfl Try.underlying3 rfl rfl (O88.load (v := (vI y26.goods)) rfl) ?_)
   refine sx rfl (pAssign (v := (vI y26.goods)) rfl rfl) ?_
   refine SeqW.done fun fr163 hf164 => ?_
   have h5 := (congrFun hf164 5).trans h5
   have h7 := (congrFun hf164 7).trans h7
   have h9 : fr163 9 = (vI y26.goods) := (congrFun hf164 9).trans rfl
   have h19 := (congrFun hf164 19).trans h19
   have h20 := (congrFun hf164 20).trans h20
   have h21 := (congrFun hf164 21).trans h21
   clear hf164
   refine thenQ.n (W.seq ?_)
   refine W.seq (W.region ?_)
   refine SeqW.consX rfl (kField rfl Try.underlying42 rfl Try.type4 rfl h7 rfl ?_)
   refine SeqW.consX rfl (kLoad rfl Try.underlying4 rfl rfl (O88.load (v := (vB y26.gentle)) rfl) ?_)
   refine SeqW.done fun fr165 hf166 => ?_
   have h5 := (congrFun hf166 5).trans h5
   have h7 := (congrFun hf166 7).trans h7
   have h9 := (congrFun hf166 9).trans h9
   have h19 := (congrFun hf166 19).trans h19
   have h20 := (congrFun hf166 20).trans h20
   have h21 := (congrFun hf166 21).trans h21
   have h64 : fr165 64 = (vB y26.gentle) := (congrFun hf166 64).trans rfl
   clear hf166
   refine thenQ.n ?_
   obtain ⟨y172, hy172, hr⟩ := bind_some hr
   refine W.keep (u_consist_Encode_2 (x7 := y26) (Zx.refl _) st h5 Q154b h7 O88 h9 h64 (Ap.symm A160) hy172) ?_
   rintro ex178 fr173 m174 hk176 ⟨z175, hz177, st, rfl, h9, O179, O180, A181, -⟩
   replace s19 := s19.mono hz177.le
   have h5 := (hk176 5 rfl).trans h5
   have h7 := (hk176 7 rfl).trans h7
   have h19 := (hk176 19 rfl).trans h19
   have h20 := (hk176 20 rfl).trans h20
   have h21 := (hk176 21 rfl).trans h21
   replace hz := hz.trans hz177
   clear hk176
   refine thenQ.n (W.seq (W.region ?_))
   refine sx rfl (pMove (v := V150) rfl h5) ?_
   refine sx rfl (pMove (v := (vI y172)) rfl h9) ?_
   refine sx rfl (pConv (k := .i64) (a := y172) rfl Try.underlying3 Try.underlying5 rfl) ?_
   refine SeqW.consX rfl (kField rfl Try.underlying42 rfl Try.type9 rfl h7 rfl ?_)
   refine SeqW.consX rfl (kLoad rfl Try.underlying9 rfl rfl (O180.load (v := (str y26.dest)) rfl) ?_)
   refine sx rfl (pLenS (s := y26.dest) rfl rfl Try.underlying9 rfl) ?_
   refine sx rfl (pConv (k := .i64) (a := (y26.dest.length : Int)) rfl Try.underlying3 Try.underlying5 rfl) ?_
   obtain ⟨y182, hy182, hr⟩ := bind_some hr
   obtain ⟨y183, hy183, hr⟩ := bind_some hr
   refine SeqW.consX rfl (kBuild (T := (TU8 5)) rfl Try.underlying23 Try.type5 rfl rfl rfl rfl ([y182, y183] : List UInt8) [[Value.int .u8 (UInt8.toNat y182 : Int)], [Value.int .u8 (UInt8.toNat y183 : Int)]] rfl rfl rfl (BuildOk.mk (w := (Value.int .u8 (UInt8.toNat y182 : Int))) (by rw [← toU8_some hy182]; exact rfl) rfl rfl rfl (BuildOk.mk (w := (Value.int .u8 (UInt8.toNat y183 : Int))) (by rw [← toU8_some hy183]; exact rfl) rfl rfl rfl trivial)) st ?_)
   intro V184 m185 st O186 sm187 hap188
   have A190 := hap188 _ O180.lt'
   have A191 := hap188 _ O179.lt
   replace O180 := O180.same sm187 Ap.none'
   replace O179 := O179.same sm187 Ap.none'
   obtain ⟨y192, hy192, hr⟩ := bind_some hr
   refine SeqW.consX rfl (kAppend (T := (TU8 5)) (xs := y149) (ys := ([y182, y183] : List UInt8)) rfl Try.underlying23 Try.type5 rfl rfl rfl rfl rfl rfl (.inl ⟨_, Try.underlying23⟩) rfl O179 rfl O186.ow.src st hy192 ?_)
   intro V193 m194 st O195 sm196 hap197
   have A199 := hap197 _ O180.lt' (Ap.symm A181)
   have A200 := hap197 _ O186.lt (Ap.symm A191)
   replace O180 := O180.same sm196 (Ap.symm A181)
   replace O186 := O186.same sm196 (Ap.symm A191)
   refine sx rfl (pAssign (v := V193) rfl rfl) ?_
   refine SeqW.done fun fr201 hf202 => ?_
   have h5 : fr201 5 = V193 := (congrFun hf202 5).trans rfl
   have h7 := (congrFun hf202 7).trans h7
   have h19 := (congrFun hf202 19).trans h19
   have h20 := (congrFun hf202 20).trans h20
   have h21 := (congrFun hf202 21).trans h21
   clear hf202
   refine thenQ.n (W.region ?_)
   refine sx rfl (pMove (v := V193) rfl h5) ?_
   refine SeqW.consX rfl (kField rfl Try.underlying42 rfl Try.type9 rfl h7 rfl ?_)
   refine SeqW.consX rfl (kLoad rfl Try.underlying9 rfl rfl (O180.load (v := (str y26.dest)) rfl) ?_)
   obtain ⟨y203, hy203, hr⟩ := bind_some hr
   refine SeqW.consX rfl (kAppend (T := (TU8 5)) (xs := y192) (ys := y26.dest) rfl Try.underlying23 Try.type5 rfl rfl rfl rfl rfl rfl (.inr Try.underlying9) rfl O195 rfl (str_src _) st hy203 ?_)
   intro V204 m205 st O206 sm207 hap208
   refine sx rfl (pAssign (v := V204) rfl rfl) ?_
   refine SeqW.done fun fr210 hf211 => ?_
   have h5 : fr210 5 = V204 := (congrFun hf211 5).trans rfl
   have h19 := (congrFun hf211 19).trans h19
   have h20 := (congrFun hf211 20).trans h20
   have h21 := (congrFun hf211 21).trans h21
   clear hf211
   refine blockQ.n ?_
   refine thenQ.n (W.region ?_)
   refine sx rfl (pAdd (k := .i64) (a := x21) (b := 1) rfl h21 rfl) ?_
   refine sx rfl (pMove (v := (vI (IntKind.wrap .i64 (x21 + 1)))) rfl rfl) ?_
   refine SeqW.done fun fr212 hf213 => ?_
   have h5 := (congrFun hf213 5).trans h5
   have h19 := (congrFun hf213 19).trans h19
   have h20 := (congrFun hf213 20).trans h20
   have h21 : fr212 21 = (vI (IntKind.wrap .i64 (x21 + 1))) := (congrFun hf213 21).trans rfl
   clear hf213
   refine thenQ.n ?_
   exact ih hz st h5 O206 h19 s19 h20 h21 hr
  ·refine W.condF h22 hc214 ?_
   refine W.exit ?_
   refine thenQ.x ?_
   refine thenQ.x ?_
   obtain rfl := Option.some.inj hr
   exact ⟨z, hz, st, rfl, v5, h5, o5, trivial⟩

theorem u_consist_Encode {N : Nat}  {z0 z : Nat → Blk} {e m : Mem} {k : Option Nat} {fr : Nat → Value} {x0 : List Wagon} {v0 : Value} (hz : Zx e.next z0 z) (st : St z e m k) (h0 : fr 0 = v0) (s0 : SlR TWagon z x0 v0) {r : List UInt8 × Int} (hr : consist_Encode N x0 = some r) : W Try.prog (sub (bodyOf Try.f11) []) (fun ex fr' m' => ∃ z', Zx e.next z0 z' ∧ St z' e m' k ∧ (ex = .normal ∨ ex = .ret) ∧ ∃ (w2 : Value), fr' 2 = w2 ∧ SlR (TU8 5) z' r.1 w2 ∧ fr' 3 = (vI r.2) ∧ True) fr m := by
 unfold consist_Encode at hr
 refine W.seq (W.region ?_)
 refine sx rfl (pAssign (v := (Value.slice none 0 0)) rfl rfl) ?_
 refine sx rfl (pAssign (v := (vI 0)) rfl rfl) ?_
 refine SeqW.done fun fr1 hf2 => ?_
 have h0 := (congrFun hf2 0).trans h0
 clear hf2
 refine thenQ.n (W.seq ?_)
 refine W.seq (W.region ?_)
 refine sx rfl (pMove (v := v0) rfl h0) ?_
 obtain ⟨y3, hy3, hr⟩ := bind_some hr
 refine SeqW.consX rfl (StepX.call (gCallee rfl rfl (args1 rfl)) ((c_consist_check (z := z) st.fz st.dead s0 hy3).mono ?_))
 rintro _ _ ⟨rfl, rfl⟩
 refine sx rfl (pAssign (v := (vI y3)) rfl rfl) ?_
 refine SeqW.done fun fr4 hf5 => ?_
 have h0 := (congrFun hf5 0).trans h0
 have h4 : fr4 4 = (vI y3) := (congrFun hf5 4).trans rfl
 clear hf5
 refine thenQ.n (W.seq (W.region ?_))
 refine sx rfl (pMove (v := (vI y3)) rfl h4) ?_
 refine sx rfl (pNeq (k := .i64) (a := y3) (b := 0) rfl rfl rfl) ?_
 refine SeqW.done fun fr6 hf7 => ?_
 have h0 := (congrFun hf7 0).trans h0
 have h4 := (congrFun hf7 4).trans h4
 have h13 : fr6 13 = (vB (y3 != 0)) := (congrFun hf7 13).trans rfl
 clear hf7
 refine thenQ.n ?_
 rcases if_some hr with ⟨hc8, hr⟩ | ⟨hc11, hr⟩
 ·refine W.condT h13 hc8 (W.seq (W.region ?_))
  refine sx rfl (pMove (v := (vI y3)) rfl h4) ?_
  refine sx rfl (pAssign (v := (Value.slice none 0 0)) rfl rfl) ?_
  refine sx rfl (pAssign (v := (vI y3)) rfl rfl) ?_
  refine SeqW.done fun fr9 hf10 => ?_
  have h2 : fr9 2 = (Value.slice none 0 0) := (congrFun hf10 2).trans rfl
  have h3 : fr9 3 = (vI y3) := (congrFun hf10 3).trans rfl
  clear hf10
  refine thenQ.n ?_
  refine W.ret ?_
  refine thenQ.r ?_
  obtain rfl := Option.some.inj hr
  exact ⟨z, hz, st, .inr rfl, (Value.slice none 0 0), h2, SlR.nil, h3, trivial⟩
 ·refine W.condF h13 hc11 (W.skip ?_)
  refine thenQ.n (W.seq (W.region ?_))
  refine sx rfl (pMove (v := v0) rfl h0) ?_
  refine sx rfl (pLenR (xs := x0) rfl Try.underlying24 rfl s0) ?_
  refine sx rfl (pConv (k := .i64) (a := (x0.length : Int)) rfl Try.underlying3 Try.underlying5 rfl) ?_
  obtain ⟨y12, hy12, hr⟩ := bind_some hr
  refine SeqW.consX rfl (kBuild (T := (TU8 5)) rfl Try.underlying23 Try.type5 rfl rfl rfl rfl ([y12] : List UInt8) [[Value.int .u8 (UInt8.toNat y12 : Int)]] rfl rfl rfl (BuildOk.mk (w := (Value.int .u8 (UInt8.toNat y12 : Int))) (by rw [← toU8_some hy12]; exact rfl) rfl rfl rfl trivial) st ?_)
  intro V13 m14 st O15 sm16 hap17
  refine sx rfl (pAssign (v := V13) rfl rfl) ?_
  refine SeqW.done fun fr19 hf20 => ?_
  have h0 := (congrFun hf20 0).trans h0
  have h5 : fr19 5 = V13 := (congrFun hf20 5).trans rfl
  clear hf20
  refine thenQ.n (W.seq ?_)
  refine W.seq (W.region ?_)
  refine sx rfl (pMove (v := v0) rfl h0) ?_
  refine sx rfl (pLenR (xs := x0) rfl Try.underlying24 rfl s0) ?_
  refine sx rfl (pMove (v := (vI 0)) rfl rfl) ?_
  refine SeqW.done fun fr21 hf22 => ?_
  have h5 := (congrFun hf22 5).trans h5
  have h19 : fr21 19 = v0 := (congrFun hf22 19).trans rfl
  have h20 : fr21 20 = (vI (x0.length : Int)) := (congrFun hf22 20).trans rfl
  have h21 : fr21 21 = (vI 0) := (congrFun hf22 21).trans rfl
  clear hf22
  refine thenQ.n ?_
  refine W.block ?_
  obtain ⟨y215, hy215, hr⟩ := bind_some hr
  refine W.keep (u_consist_Encode_0 _ (Zx.refl _) st h5 O15 h19 s0 h20 h21 hy215) ?_
  rintro ex221 fr216 m217 hk219 ⟨z218, hz220, st, rfl, w222, h5, O224, -⟩
  replace hz := hz.trans hz220
  clear hk219
  refine blockQ.hit ?_
  refine thenQ.n (W.seq (W.region ?_))
  refine sx rfl (pMove (v := w222) rfl h5) ?_
  refine sx rfl (pMove (v := w222) rfl h5) ?_
  obtain ⟨z225, hz226, st229, Q227, hl228⟩ := O224.freeze st
  obtain ⟨y230, hy230, hr⟩ := bind_some hr
  refine SeqW.consX rfl (StepX.call (gCallee rfl rfl (args1 rfl)) ((c_consist_Check (z := z225) st229.fz st.dead Q227 hy230).mono ?_))
  rintro _ _ ⟨rfl, rfl⟩
  obtain ⟨y231, hy231, hr⟩ := bind_some hr
  refine SeqW.consX rfl (StepX.call (gCallee rfl rfl (args2 rfl rfl)) ((c_consist_two st.fz st.dead O224.ow hy231).mono ?_))
  rintro V232 m233 ⟨z234, hzx235, st237, Q236⟩
  obtain ⟨st237b, Q236b, sm238, hap239⟩ := O224.back st hzx235 st237 Q236
  replace hz := hz.trans (Zx.here st hzx235)
  replace st := st237b
  refine sx rfl (pAssign (v := V232) rfl rfl) ?_
  refine sx rfl (pAssign (v := (vI 0)) rfl rfl) ?_
  refine SeqW.done fun fr242 hf243 => ?_
  have h2 : fr242 2 = V232 := (congrFun hf243 2).trans rfl
  have h3 : fr242 3 = (vI 0) := (congrFun hf243 3).trans rfl
  clear hf243
  refine thenQ.n ?_
  refine W.ret ?_
  obtain ⟨z244, hz245, st, Q246, hl247⟩ := Q236b.freeze st
  replace hz := hz.trans hz245
  obtain rfl := Option.some.inj hr
  exact ⟨z244, hz, st, .inr rfl, V232, h2, Q246, h3, trivial⟩

theorem c_consist_Encode {N : Nat} {z : Nat → Blk} {m : Mem} {x0 : List Wagon} {v0 : Value} (fz : Fz z m) (hd : ∀ b, m.next ≤ b → m.blk b = .dead) (s0 : SlR TWagon z x0 v0) {r : List UInt8 × Int} (hr : consist_Encode N x0 = some r) : CallW Try.prog 11 #[v0] m fun v m' => ∃ z' w2, Zx m.next z z' ∧ Fz z' m' ∧ Same m m' none ∧ v = (Value.tuple [w2, (vI r.2)].toArray) ∧ SlR (TU8 5) z' r.1 w2 ∧ True := by
 refine CallW.any Try.func11 rfl (by kernel_rfl) (Nat.le_of_ble_eq_true rfl) (fun fr hf => ?_)
 have h0 : fr 0 = _ := hf 0 _ rfl
 refine (u_consist_Encode (k := none) (Zx.refl _) (St.start fz hd) h0 s0 hr).mono ?_
 rintro ex fr' m' ⟨z', hz, st, he, w2, h2, s2, h3, -⟩
 exact ⟨he, [w2, (vI r.2)], ⟨h2.symm, h3.symm, trivial⟩, .inr (List.forall_mem_cons.2 ⟨s2.stor.1, List.forall_mem_cons.2 ⟨rfl, fun _ h => nomatch h⟩⟩), z', w2, hz, st.fz, st.toSame, rfl, s2, trivial⟩

/-! ### humpyard/consist.end -/

theorem u_consist_end_0 : ∀ (n : Nat) {N : Nat}  {z0 z : Nat → Blk} {e m : Mem} {k : Option Nat} {fr : Nat → Value} {x0 : List UInt8} {x4 : Int} {x5 : Int} {v0 : Value} (hz : Zx e.next z0 z) (st : St z e m k) (h0 : fr 0 = v0) (s0 : SlR (TU8 5) z x0 v0) (h4 : fr 4 = (vI x4)) (h5 : fr 5 = (vI x5)) {r : Sum (Int) (Int × Bool)} (hr : consist_end_0 N x0 n x4 x5 = some r), W Try.prog (sub (bodyOf Try.f29) [1, 1, 1, 0, 1, 0]) (fun ex fr' m' => ∃ z', Zx e.next z0 z' ∧ St z' e m' k ∧ ((∃ q, r = Sum.inl q ∧ ex = AExit.exit 0 ∧ fr' 4 = (vI q) ∧ True) ∨ (∃ q, r = Sum.inr q ∧ ex = AExit.ret ∧ fr' 2 = (vI q.1) ∧ fr' 3 = (vB q.2) ∧ True))) fr m := by
 intro n
 induction n with
 | zero => intro N z0 z e m k fr x0 x4 x5 v0 hz st h0 s0 h4 h5 r hr; cases (show (none : Option _) = some r from hr)
 | succ n ih =>
  intro N z0 z e m k fr x0 x4 x5 v0 hz st h0 s0 h4 h5 r hr
  unfold consist_end_0 at hr
  refine W.loop1 ?_
  refine W.seq (W.seq (W.region ?_))
  refine sx rfl (pMove (v := (vI x5)) rfl h5) ?_
  refine sx rfl (pMove (v := v0) rfl h0) ?_
  obtain ⟨y13, hy13, hr⟩ := bind_some hr
  refine SeqW.consX rfl (kIdxR (T := (TU8 5)) (xs := x0) (n := 0) rfl Try.underlying23 Try.type5 rfl rfl rfl s0 hy13 ?_)
  intro B14 f15 cs16 hd17 hc18
  obtain rfl := hd17
  refine SeqW.consX rfl (kLoad (v := (Value.int .u8 (UInt8.toNat y13 : Int))) rfl Try.underlying5 rfl rfl (ldz_load st.fz (hc18 0 _ rfl)) ?_)
  refine sx rfl (pConv (k := .u8) (a := (UInt8.toNat y13 : Int)) rfl Try.underlying5 Try.underlying3 rfl) ?_
  refine sx rfl (pLss (k := .i64) (a := x5) (b := (IntKind.wrap .i64 (UInt8.toNat y13 : Int))) rfl rfl rfl) ?_
  refine SeqW.done fun fr19 hf20 => ?_
  have h0 := (congrFun hf20 0).trans h0
  have h4 := (congrFun hf20 4).trans h4
  have h5 := (congrFun hf20 5).trans h5
  have h14 : fr19 14 = (vB (decide (x5 < (IntKind.wrap .i64 (UInt8.toNat y13 : Int))))) := (congrFun hf20 14).trans rfl
  clear hf20
  refine thenQ.n ?_
  rcases if_some hr with ⟨hc21, hr⟩ | ⟨hc43, hr⟩
  ·refine W.condT h14 hc21 (W.skip ?_)
   refine thenQ.n (W.seq ?_)
   refine W.block ?_
   refine W.seq (W.region ?_)
   refine sx rfl (pMove (v := (vI x4)) rfl h4) ?_
   refine sx rfl (pAdd (k := .i64) (a := x4) (b := 15) rfl rfl rfl) ?_
   obtain ⟨y22, hy22, hr⟩ := lt_some hr
   refine sx rfl (pAssign rfl (congrArg (Value.int .i64) hy22)) ?_
   refine SeqW.done fun fr23 hf24 => ?_
   have h0 := (congrFun hf24 0).trans h0
   have h4 : fr23 4 = (vI y22) := (congrFun hf24 4).trans rfl
   have h5 := (congrFun hf24 5).trans h5
   clear hf24
   refine thenQ.n (W.seq ?_)
   refine W.seq (W.region ?_)
   refine sx rfl (pMove (v := (vI y22)) rfl h4) ?_
   refine sx rfl (pMove (v := v0) rfl h0) ?_
   refine sx rfl (pLenR (xs := x0) rfl Try.underlying23 rfl s0) ?_
   refine sx rfl (pGtr (k := .i64) (a := y22) (b := (x0.length : Int)) rfl rfl rfl) ?_
   refine SeqW.done fun fr25 hf26 => ?_
   have h0 := (congrFun hf26 0).trans h0
   have h4 := (congrFun hf26 4).trans h4
   have h5 := (congrFun hf26 5).trans h5
   have h22 : fr25 22 = (vB (decide ((x0.length : Int) < y22))) := (congrFun hf26 22).trans rfl
   clear hf26
   refine thenQ.n ?_
   rcases if_some hr with ⟨hc27, hr⟩ | ⟨hc30, hr⟩
   ·refine W.condT h22 hc27 (W.seq (W.region ?_))
    refine sx rfl (pAssign (v := (vI 0)) rfl rfl) ?_
    refine sx rfl (pAssign (v := (vB false)) rfl rfl) ?_
    refine SeqW.done fun fr28 hf29 => ?_
    have h2 : fr28 2 = (vI 0) := (congrFun hf29 2).trans rfl
    have h3 : fr28 3 = (vB false) := (congrFun hf29 3).trans rfl
    clear hf29
    refine thenQ.n ?_
    refine W.ret ?_
    refine thenQ.r ?_
    refine blockQ.r ?_
    refine thenQ.r ?_
    refine thenQ.r ?_
    obtain rfl := Option.some.inj hr
    exact ⟨z, hz, st, .inr ⟨_, rfl, rfl, h2, h3, trivial⟩⟩
   ·refine W.condF h22 hc30 (W.skip ?_)
    refine thenQ.n (W.region ?_)
    refine sx rfl (pMove (v := (vI y22)) rfl h4) ?_
    refine sx rfl (pMove (v := v0) rfl h0) ?_
    refine sx rfl (pMove (v := (vI y22)) rfl h4) ?_
    refine sx rfl (pSub (k := .i64) (a := y22) (b := 1) rfl rfl rfl) ?_
    obtain ⟨y31, hy31, hr⟩ := bind_some hr
    refine SeqW.consX rfl (kIdxR (T := (TU8 5)) (xs := x0) (n := (IntKind.wrap .i64 (y22 - 1))) rfl Try.underlying23 Try.type5 rfl rfl rfl s0 hy31 ?_)
    intro B32 f33 cs34 hd35 hc36
    obtain rfl := hd35
    refine SeqW.consX rfl (kLoad (v := (Value.int .u8 (UInt8.toNat y31 : Int))) rfl Try.underlying5 rfl rfl (ldz_load st.fz (hc36 0 _ rfl)) ?_)
    refine sx rfl (pConv (k := .u8) (a := (UInt8.toNat y31 : Int)) rfl Try.underlying5 Try.underlying3 rfl) ?_
    refine sx rfl (pAdd (k := .i64) (a := y22) (b := (IntKind.wrap .i64 (UInt8.toNat y31 : Int))) rfl rfl rfl) ?_
    obtain ⟨y37, hy37, hr⟩ := lt_some hr
    refine sx rfl (pAssign rfl (congrArg (Value.int .i64) hy37)) ?_
    refine SeqW.done fun fr38 hf39 => ?_
    have h0 := (congrFun hf39 0).trans h0
    have h4 : fr38 4 = (vI y37) := (congrFun hf39 4).trans rfl
    have h5 := (congrFun hf39 5).trans h5
    clear hf39
    refine blockQ.n ?_
    refine thenQ.n (W.region ?_)
    refine sx rfl (pMove (v := (vI x5)) rfl h5) ?_
    refine sx rfl (pAdd (k := .i64) (a := x5) (b := 1) rfl rfl rfl) ?_
    obtain ⟨y40, hy40, hr⟩ := lt_some hr
    refine sx rfl (pAssign rfl (congrArg (Value.int .i64) hy40)) ?_
    refine SeqW.done fun fr41 hf42 => ?_
    have h0 := (congrFun hf42 0).trans h0
    have h4 := (congrFun hf42 4).trans h4
    have h5 : fr41 5 = (vI y40) := (congrFun hf42 5).trans rfl
    clear hf42
    refine thenQ.n ?_
    exact ih hz st h0 s0 h4 h5 hr
  ·refine W.condF h14 hc43 ?_
   refine W.exit ?_
   refine thenQ.x ?_
   refine thenQ.x ?_
   obtain rfl := Option.some.inj hr
   exact ⟨z, hz, st, .inl ⟨_, rfl, rfl, h4, trivial⟩⟩

theorem u_consist_end {N : Nat}  {z0 z : Nat → Blk} {e m : Mem} {k : Option Nat} {fr : Nat → Value} {x0 : List UInt8} {v0 : Value} (hz : Zx e.next z0 z) (st : St z e m k) (h0 : fr 0 = v0) (s0 : SlR (TU8 5) z x0 v0) {r : Int × Bool} (hr : consist_end N x0 = some r) : W Try.prog (sub (bodyOf Try.f29) []) (fun ex fr' m' => ∃ z', Zx e.next z0 z' ∧ St z' e m' k ∧ (ex = .normal ∨ ex = .ret) ∧ fr' 2 = (vI r.1) ∧ fr' 3 = (vB r.2) ∧ True) fr m := by
 unfold consist_end at hr
 refine W.seq (W.region ?_)
 refine sx rfl (pAssign (v := (vI 0)) rfl rfl) ?_
 refine sx rfl (pAssign (v := (vB false)) rfl rfl) ?_
 refine SeqW.done fun fr1 hf2 => ?_
 have h0 := (congrFun hf2 0).trans h0
 clear hf2
 refine thenQ.n (W.seq ?_)
 refine W.seq (W.region ?_)
 refine sx rfl (pMove (v := v0) rfl h0) ?_
 refine sx rfl (pLenR (xs := x0) rfl Try.underlying23 rfl s0) ?_
 refine sx rfl (pEql (k := .i64) (a := (x0.length : Int)) (b := 0) rfl rfl rfl) ?_
 refine SeqW.done fun fr3 hf4 => ?_
 have h0 := (congrFun hf4 0).trans h0
 have h8 : fr3 8 = (vB ((x0.length : Int) == 0)) := (congrFun hf4 8).trans rfl
 clear hf4
 refine thenQ.n ?_
 rcases if_some hr with ⟨hc5, hr⟩ | ⟨hc8, hr⟩
 ·refine W.condT h8 hc5 (W.seq (W.region ?_))
  refine sx rfl (pAssign (v := (vI 0)) rfl rfl) ?_
  refine sx rfl (pAssign (v := (vB false)) rfl rfl) ?_
  refine SeqW.done fun fr6 hf7 => ?_
  have h2 : fr6 2 = (vI 0) := (congrFun hf7 2).trans rfl
  have h3 : fr6 3 = (vB false) := (congrFun hf7 3).trans rfl
  clear hf7
  refine thenQ.n ?_
  refine W.ret ?_
  refine thenQ.r ?_
  obtain rfl := Option.some.inj hr
  exact ⟨z, hz, st, .inr rfl, h2, h3, trivial⟩
 ·refine W.condF h8 hc8 (W.skip ?_)
  refine thenQ.n (W.seq (W.region ?_))
  refine sx rfl (pAssign (v := (vI 1)) rfl rfl) ?_
  refine SeqW.done fun fr9 hf10 => ?_
  have h0 := (congrFun hf10 0).trans h0
  have h4 : fr9 4 = (vI 1) := (congrFun hf10 4).trans rfl
  clear hf10
  refine thenQ.n (W.seq ?_)
  refine W.seq (W.region ?_)
  refine sx rfl (pAssign (v := (vI 0)) rfl rfl) ?_
  refine SeqW.done fun fr11 hf12 => ?_
  have h0 := (congrFun hf12 0).trans h0
  have h4 := (congrFun hf12 4).trans h4
  have h5 : fr11 5 = (vI 0) := (congrFun hf12 5).trans rfl
  clear hf12
  refine thenQ.n ?_
  refine W.block ?_
  obtain ⟨y44, hy44, hr⟩ := bind_some hr
  refine W.keep (u_consist_end_0 _ (Zx.refl _) st h0 s0 h4 h5 hy44) ?_
  rintro ex50 fr45 m46 hk48 ⟨z47, hz49, st, ⟨y51, rfl, rfl, h4, -⟩ | ⟨y56, rfl, rfl, h2, h3, -⟩⟩
  ·dsimp only at hr
   replace s0 := s0.mono hz49.le
   have h0 := (hk48 0 rfl).trans h0
   replace hz := hz.trans hz49
   clear hk48
   refine blockQ.hit ?_
   refine thenQ.n (W.seq (W.region ?_))
   refine sx rfl (pMove (v := (vI y51)) rfl h4) ?_
   refine sx rfl (pAdd (k := .i64) (a := y51) (b := 2) rfl rfl rfl) ?_
   refine sx rfl (pMove (v := (vI y51)) rfl h4) ?_
   refine sx rfl (pAdd (k := .i64) (a := y51) (b := 2) rfl rfl rfl) ?_
   refine sx rfl (pMove (v := v0) rfl h0) ?_
   refine sx rfl (pLenR (xs := x0) rfl Try.underlying23 rfl s0) ?_
   refine sx rfl (pLeq (k := .i64) (a := (IntKind.wrap .i64 (y51 + 2))) (b := (x0.length : Int)) rfl rfl rfl) ?_
   obtain ⟨y52, hy52, hr⟩ := lt_some hr
   refine sx rfl (pAssign rfl (congrArg (Value.int .i64) hy52)) ?_
   obtain ⟨y53, hy53, hr⟩ := lt_some hr
   refine sx rfl (pAssign rfl (congrArg vB hy53)) ?_
   refine SeqW.done fun fr54 hf55 => ?_
   have h2 : fr54 2 = (vI y52) := (congrFun hf55 2).trans rfl
   have h3 : fr54 3 = (vB y53) := (congrFun hf55 3).trans rfl
   clear hf55
   refine thenQ.n ?_
   refine W.ret ?_
   obtain rfl := Option.some.inj hr
   exact ⟨z47, hz, st, .inr rfl, h2, h3, trivial⟩
  ·dsimp only at hr
   replace hz := hz.trans hz49
   clear hk48
   refine blockQ.r ?_
   refine thenQ.r ?_
   obtain rfl := Option.some.inj hr
   exact ⟨z47, hz, st, .inr rfl, h2, h3, trivial⟩

theorem c_consist_end {N : Nat} {z : Nat → Blk} {m : Mem} {x0 : List UInt8} {v0 : Value} (fz : Fz z m) (hd : ∀ b, m.next ≤ b → m.blk b = .dead) (s0 : SlR (TU8 5) z x0 v0) {r : Int × Bool} (hr : consist_end N x0 = some r) : CallW Try.prog 29 #[v0] m fun v m' => v = (Value.tuple [(vI r.1), (vB r.2)].toArray) ∧ m' = m := by
 refine CallW.flat Try.func29 rfl (by kernel_rfl) (Nat.le_of_ble_eq_true rfl) rfl (z := z) (fun fr hf => ?_)
 have h0 : fr 0 = _ := hf 0 _ rfl
 refine (u_consist_end (k := none) (Zx.refl _) (St.start fz hd) h0 s0 hr).mono ?_
 rintro ex fr' m' ⟨z', hz, st, he, h2, h3, -⟩
 exact ⟨he, z', st, [(vI r.1), (vB r.2)], ⟨h2.symm, h3.symm, trivial⟩, .inr (List.forall_mem_cons.2 ⟨rfl, List.forall_mem_cons.2 ⟨rfl, fun _ h => nomatch h⟩⟩), rfl⟩

/-! ### (*humpyard/consist.reader).one -/

theorem u_reader_one {N : Nat}  {z0 z : Nat → Blk} {e m : Mem} {k : Option Nat} {fr : Nat → Value} {x0 : Reader} {v0_0 : Value} {b0 : Nat} (hz : Zx e.next z0 z) (st : St z e m k) (h0 : fr 0 = (vP b0)) (s0_0 : SlR (TU8 5) z x0.b v0_0) (bx0 : Bx z e m k b0 [v0_0, (vI x0.at_)] 61) {r : Int × Reader} (hr : reader_one N x0 = some r) : W Try.prog (sub (bodyOf Try.f42) []) (fun ex fr' m' => ∃ z', Zx e.next z0 z' ∧ St z' e m' k ∧ (ex = .normal ∨ ex = .ret) ∧ ∃ (wr_0 : Value), fr' 2 = (vI r.1) ∧ SlR (TU8 5) z' r.2.b wr_0 ∧ Bx z' e m' k b0 [wr_0, (vI r.2.at_)] 61 ∧ True) fr m := by
 unfold reader_one at hr
 refine W.seq (W.region ?_)
 refine sx rfl (pAssign (v := (vI 0)) rfl rfl) ?_
 refine SeqW.done fun fr1 hf2 => ?_
 have h0 := (congrFun hf2 0).trans h0
 clear hf2
 refine thenQ.n (W.seq (W.region ?_))
 refine sx rfl (pMove (v := (vP b0)) rfl h0) ?_
 refine sx rfl (PureR.nilCheck _ _ rfl rfl) ?_
 refine SeqW.consX rfl (kField rfl Try.underlying61 rfl Try.type3 rfl rfl rfl ?_)
 refine SeqW.consX rfl (kLoad rfl Try.underlying3 rfl rfl (bx0.load (v := (vI x0.at_)) rfl) ?_)
 refine sx rfl (pAdd (k := .i64) (a := x0.at_) (b := 1) rfl rfl rfl) ?_
 refine sx rfl (PureR.nilCheck _ _ rfl rfl) ?_
 refine SeqW.consX rfl (kField rfl Try.underlying61 rfl Try.type3 rfl rfl rfl ?_)
 refine SeqW.consX rfl (kPut (off := 1) (w := (vI (IntKind.wrap .i64 (x0.at_ + 1)))) (new := [(vI (IntKind.wrap .i64 (x0.at_ + 1)))]) rfl Try.type3 rfl rfl rfl rfl rfl bx0 rfl [v0_0, (vI (IntKind.wrap .i64 (x0.at_ + 1)))] rfl st ?_)
 intro m3 st bx0 sm4
 refine SeqW.done fun fr5 hf6 => ?_
 have h0 := (congrFun hf6 0).trans h0
 clear hf6
 refine thenQ.n (W.seq ?_)
 refine W.calm (by decide) ?_
 refine sx rfl (pMove (v := (vP b0)) rfl h0) ?_
 refine sx rfl (PureR.nilCheck _ _ rfl rfl) ?_
 refine SeqW.consX rfl (kField rfl Try.underlying61 rfl Try.type23 rfl rfl rfl ?_)
 refine SeqW.consX rfl (kLoad rfl Try.underlying23 rfl rfl (bx0.load (v := v0_0) rfl) ?_)
 refine sx rfl (pMove (v := (vP b0)) rfl h0) ?_
 refine sx rfl (PureR.nilCheck _ _ rfl rfl) ?_
 refine SeqW.consX rfl (kField rfl Try.underlying61 rfl Try.type3 rfl rfl rfl ?_)
 refine SeqW.consX rfl (kLoad rfl Try.underlying3 rfl rfl (bx0.load (v := (vI (IntKind.wrap .i64 (x0.at_ + 1)))) rfl) ?_)
 refine sx rfl (pSub (k := .i64) (a := (IntKind.wrap .i64 (x0.at_ + 1))) (b := 1) rfl rfl rfl) ?_
 obtain ⟨y7, hy7, hr⟩ := bind_some hr
 refine SeqW.consX rfl (kIdxR (T := (TU8 5)) (xs := x0.b) (n := (IntKind.wrap .i64 ((IntKind.wrap .i64 (x0.at_ + 1)) - 1))) rfl Try.underlying23 Try.type5 rfl rfl rfl s0_0 hy7 ?_)
 intro B8 f9 cs10 hd11 hc12
 obtain rfl := hd11
 refine SeqW.consX rfl (kLoad (v := (Value.int .u8 (UInt8.toNat y7 : Int))) rfl Try.underlying5 rfl rfl (ldz_load st.fz (hc12 0 _ rfl)) ?_)
 refine sx rfl (pConv (k := .u8) (a := (UInt8.toNat y7 : Int)) rfl Try.underlying5 Try.underlying3 rfl) ?_
 obtain ⟨y13, hy13, hr⟩ := lt_some hr
 refine sx rfl (pAssign rfl (congrArg (Value.int .i64) hy13)) ?_
 refine SeqW.done fun fr14 hf15 => ?_
 have h0 := (congrFun hf15 0).trans h0
 have h2 : fr14 2 = (vI y13) := (congrFun hf15 2).trans rfl
 clear hf15
 refine thenQ.n ?_
 refine W.ret ?_
 obtain rfl := Option.some.inj hr
 exact ⟨z, hz, st, .inr rfl, v0_0, h2, s0_0, bx0, trivial⟩

theorem c_reader_one {N : Nat} {z : Nat → Blk} {m : Mem} {x0 : Reader} {v0_0 : Value} {b0 : Nat} (fz : Fz z m) (hd : ∀ b, m.next ≤ b → m.blk b = .dead) (s0_0 : SlR (TU8 5) z x0.b v0_0) (bx0 : Bx z m m (some b0) b0 [v0_0, (vI x0.at_)] 61) {r : Int × Reader} (hr : reader_one N x0 = some r) : CallW Try.prog 42 #[(vP b0)] m fun v m' => ∃ z' wr_0, Zx m.next z z' ∧ Fz z' m' ∧ Same m m' (some b0) ∧ v = (vI r.1) ∧ SlR (TU8 5) z' r.2.b wr_0 ∧ Bx z' m m' (some b0) b0 [wr_0, (vI r.2.at_)] 61 ∧ True := by
 refine CallW.any Try.func42 rfl (by kernel_rfl) (Nat.le_of_ble_eq_true rfl) (fun fr hf => ?_)
 have h0 : fr 0 = _ := hf 0 _ rfl
 refine (u_reader_one (k := (some b0)) (Zx.refl _) (St.start fz hd) h0 s0_0 bx0 hr).mono ?_
 rintro ex fr' m' ⟨z', hz, st, he, wr_0, h2, sr_0, bxr, -⟩
 exact ⟨he, [(vI r.1)], ⟨h2.symm, trivial⟩, .inl rfl, z', wr_0, hz, st.fz, st.toSame, rfl, sr_0, bxr, trivial⟩

/-! ### (*humpyard/consist.reader).two -/

theorem u_reader_two {N : Nat}  {z0 z : Nat → Blk} {e m : Mem} {k : Option Nat} {fr : Nat → Value} {x0 : Reader} {v0_0 : Value} {b0 : Nat} (hz : Zx e.next z0 z) (st : St z e m k) (h0 : fr 0 = (vP b0)) (s0_0 : SlR (TU8 5) z x0.b v0_0) (bx0 : Bx z e m k b0 [v0_0, (vI x0.at_)] 61) {r : Int × Reader} (hr : reader_two N x0 = some r) : W Try.prog (sub (bodyOf Try.f30) []) (fun ex fr' m' => ∃ z', Zx e.next z0 z' ∧ St z' e m' k ∧ (ex = .normal ∨ ex = .ret) ∧ ∃ (wr_0 : Value), fr' 2 = (vI r.1) ∧ SlR (TU8 5) z' r.2.b wr_0 ∧ Bx z' e m' k b0 [wr_0, (vI r.2.at_)] 61 ∧ True) fr m := by
 unfold reader_two at hr
 refine W.seq (W.region ?_)
 refine sx rfl (pAssign (v := (vI 0)) rfl rfl) ?_
 refine SeqW.done fun fr1 hf2 => ?_
 have h0 := (congrFun hf2 0).trans h0
 clear hf2
 refine thenQ.n (W.seq (W.region ?_))
 refine sx rfl (pMove (v := (vP b0)) rfl h0) ?_
 obtain ⟨y3, hy3, hr⟩ := bind_some hr
 refine SeqW.consX rfl (StepX.call (gCallee rfl rfl (args1 rfl)) ((c_reader_one (x0 := x0) (z := z) st.fz st.dead s0_0 ⟨bx0.blk, bx0.lt, bx0.dead, .inr rfl⟩ hy3).mono ?_))
 rintro _ m8 ⟨z4, V9, hzx5, fz6, sm7, rfl, Q10, X12, -⟩
 replace s0_0 := s0_0.mono hzx5.le
 have bx0n : Bx z4 e m8 k b0 _ _ := ⟨X12.blk, X12.lt, X12.dead, bx0.fresh⟩
 replace hz := hz.trans (Zx.here st hzx5)
 replace st := st.call hzx5 fz6 sm7 bx0.hq
 refine sx rfl (pAssign (v := (vI y3.1)) rfl rfl) ?_
 refine SeqW.done fun fr13 hf14 => ?_
 have h0 := (congrFun hf14 0).trans h0
 have h3 : fr13 3 = (vI y3.1) := (congrFun hf14 3).trans rfl
 clear hf14
 refine thenQ.n (W.seq (W.region ?_))
 refine sx rfl (pMove (v := (vI y3.1)) rfl h3) ?_
 refine sx rfl (pShlL (k := .i64) (a := y3.1) (n := 8) (p := 256) rfl rfl rfl rfl rfl) ?_
 refine sx rfl (pMove (v := (vP b0)) rfl h0) ?_
 obtain ⟨y15, hy15, hr⟩ := bind_some hr
 refine SeqW.consX rfl (StepX.call (gCallee rfl rfl (args1 rfl)) ((c_reader_one (x0 := y3.2) (z := z4) st.fz st.dead Q10 ⟨bx0n.blk, bx0n.lt, bx0n.dead, .inr rfl⟩ hy15).mono ?_))
 rintro _ m20 ⟨z16, V21, hzx17, fz18, sm19, rfl, Q22, X24, -⟩
 replace Q10 := Q10.mono hzx17.le
 have bx0nn : Bx z16 e m20 k b0 _ _ := ⟨X24.blk, X24.lt, X24.dead, bx0n.fresh⟩
 replace hz := hz.trans (Zx.here st hzx17)
 replace st := st.call hzx17 fz18 sm19 bx0n.hq
 refine sx rfl (pOr (k := .i64) (a := (IntKind.wrap .i64 (y3.1 * 256))) (b := y15.1) rfl rfl rfl) ?_
 obtain ⟨y25, hy25, hr⟩ := lt_some hr
 refine sx rfl (pAssign rfl (congrArg (Value.int .i64) hy25)) ?_
 refine SeqW.done fun fr26 hf27 => ?_
 have h0 := (congrFun hf27 0).trans h0
 have h2 : fr26 2 = (vI y25) := (congrFun hf27 2).trans rfl
 clear hf27
 refine thenQ.n ?_
 refine W.ret ?_
 obtain rfl := Option.some.inj hr
 exact ⟨z16, hz, st, .inr rfl, V21, h2, Q22, bx0nn, trivial⟩

theorem c_reader_two {N : Nat} {z : Nat → Blk} {m : Mem} {x0 : Reader} {v0_0 : Value} {b0 : Nat} (fz : Fz z m) (hd : ∀ b, m.next ≤ b → m.blk b = .dead) (s0_0 : SlR (TU8 5) z x0.b v0_0) (bx0 : Bx z m m (some b0) b0 [v0_0, (vI x0.at_)] 61) {r : Int × Reader} (hr : reader_two N x0 = some r) : CallW Try.prog 30 #[(vP b0)] m fun v m' => ∃ z' wr_0, Zx m.next z z' ∧ Fz z' m' ∧ Same m m' (some b0) ∧ v = (vI r.1) ∧ SlR (TU8 5) z' r.2.b wr_0 ∧ Bx z' m m' (some b0) b0 [wr_0, (vI r.2.at_)] 61 ∧ True := by
 refine CallW.any Try.func30 rfl (by kernel_rfl) (Nat.le_of_ble_eq_true rfl) (fun fr hf => ?_)
 have h0 : fr 0 = _ := hf 0 _ rfl
 refine (u_reader_two (k := (some b0)) (Zx.refl _) (St.start fz hd) h0 s0_0 bx0 hr).mono ?_
 rintro ex fr' m' ⟨z', hz, st, he, wr_0, h2, sr_0, bxr, -⟩
 exact ⟨he, [(vI r.1)], ⟨h2.symm, trivial⟩, .inl rfl, z', wr_0, hz, st.fz, st.toSame, rfl, sr_0, bxr, trivial⟩

end Go.W
