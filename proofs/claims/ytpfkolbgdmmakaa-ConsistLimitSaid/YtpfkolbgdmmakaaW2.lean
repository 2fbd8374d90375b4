/- The models are what the program computes. -/
import Derived.Test.YtpfkolbgdmmakaaW1
set_option linter.unusedVariables false
set_option linter.unusedSimpArgs false
set_option maxRecDepth 100000
set_option maxHeartbeats 4000000
namespace Go.W
open Go.AM Go.Proofs


/-! ### (*humpyard/humpgen.Maker).Digits -/

theorem u_Maker_Digits_0 : ∀ (n : Nat) {N : Nat}  {z0 z : Nat → Blk} {e m : Mem} {k : Option Nat} {fr : Nat → Value} {x0 : Maker} {x1 : Int} {x5 : List UInt8} {x6 : Int} {v0_0 : Value} {b0 : Nat} {v5 : Value} (hz : Zx e.next z0 z) (st : St z e m k) (h0 : fr 0 = (vP b0)) (s0_0 : SlR (TInt 3 .i64) z x0.l v0_0) (bx0 : Bx z e m k b0 [v0_0, (vI x0.n)] 53) (h1 : fr 1 = (vI x1)) (h5 : fr 5 = v5) (o5 : OwF (TU8 5) z e m k x5 v5) (h6 : fr 6 = (vI x6)) (ao0_o5 : Ap (some b0) (blkOf v5)) {r : Maker × List UInt8} (hr : Maker_Digits_0 N x1 n x0 x5 x6 = some r), W Try.prog (sub (bodyOf Try.f43) [1, 1, 0, 1, 0]) (fun ex fr' m' => ∃ z', Zx e.next z0 z' ∧ St z' e m' k ∧ ex = AExit.exit 0 ∧ ∃ (w0_0 : Value), fr' 0 = (vP b0) ∧ SlR (TInt 3 .i64) z' r.1.l w0_0 ∧ Bx z' e m' k b0 [w0_0, (vI r.1.n)] 53 ∧ fr' 5 = v5 ∧ OwF (TU8 5) z' e m' k r.2 v5 ∧ Ap (some b0) (blkOf v5) ∧ True) fr m := by
 intro n
 induction n with
 | zero => intro N z0 z e m k fr x0 x1 x5 x6 v0_0 b0 v5 hz st h0 s0_0 bx0 h1 h5 o5 h6 ao0_o5 r hr; cases (show (none : Option _) = some r from hr)
 | succ n ih =>
  intro N z0 z e m k fr x0 x1 x5 x6 v0_0 b0 v5 hz st h0 s0_0 bx0 h1 h5 o5 h6 ao0_o5 r hr
  unfold Maker_Digits_0 at hr
  refine W.loop1 ?_
  refine W.seq (W.seq (W.region ?_))
  refine sx rfl (pMove (v := (vI x6)) rfl h6) ?_
  refine sx rfl (pMove (v := (vI x1)) rfl h1) ?_
  refine sx rfl (pLss (k := .i64) (a := x6) (b := x1) rfl rfl rfl) ?_
  refine SeqW.done fun fr15 hf16 => ?_
  have h0 := (congrFun hf16 0).trans h0
  have h1 := (congrFun hf16 1).trans h1
  have h5 := (congrFun hf16 5).trans h5
  have h6 := (congrFun hf16 6).trans h6
  have h11 : fr15 11 = (vB (decide (x6 < x1))) := (congrFun hf16 11).trans rfl
  clear hf16
  refine thenQ.n ?_
  rcases if_some hr with ⟨hc17, hr⟩ | ⟨hc46, hr⟩
  ·refine W.condT h11 hc17 (W.skip ?_)
   refine thenQ.n (W.seq ?_)
   refine W.block ?_
   refine W.region ?_
   refine sx rfl (pMove (v := v5) rfl h5) ?_
   refine sx rfl (pMove (v := (vI x6)) rfl h6) ?_
   refine sx rfl (pMove (v := (vP b0)) rfl h0) ?_
   obtain ⟨y18, hy18, hr⟩ := bind_some hr
   refine SeqW.consX rfl (StepX.call (gCallee rfl rfl (args2 rfl rfl)) ((c_Maker_Next (x0 := x0) (z := z) st.fz st.dead s0_0 ⟨bx0.blk, bx0.lt, bx0.dead, .inr rfl⟩ hy18).mono ?_))
   rintro _ m23 ⟨z19, V24, hzx20, fz21, sm22, rfl, Q25, X27, -⟩
   replace s0_0 := s0_0.mono hzx20.le
   replace o5 := o5.call hzx20 sm22 (Ap.symm ao0_o5)
   have bx0n : Bx z19 e m23 k b0 _ _ := ⟨X27.blk, X27.lt, X27.dead, bx0.fresh⟩
   replace hz := hz.trans (Zx.here st hzx20)
   replace st := st.call hzx20 fz21 sm22 bx0.hq
   refine sx rfl (pAdd (k := .i64) (a := 48) (b := y18.1) rfl rfl rfl) ?_
   refine sx rfl (pConv (k := .i64) (a := (IntKind.wrap .i64 (48 + y18.1))) rfl Try.underlying3 Try.underlying5 rfl) ?_
   obtain ⟨y28, hy28, hr⟩ := bind_some hr
   refine SeqW.consX rfl (kIdxO (T := (TU8 5)) (xs := x5) (n := x6) rfl Try.underlying23 Try.type5 rfl rfl rfl o5 hy28 ?_)
   intro B29 l30 c31 cs32 hv33 hd34 hg35 hc36
   have hd340 := hd34
   obtain rfl := hd340
   obtain ⟨y39, hy39, hr⟩ := bind_some hr
   refine SeqW.consX rfl (kSet (T := (TU8 5)) (off := (x6 : Int).toNat * ((TU8 5)).sz) (n := (x6 : Int).toNat) (f := 0) (w := (Value.int .u8 (UInt8.toNat y39 : Int))) (new := [(Value.int .u8 (UInt8.toNat y39 : Int))]) (ecs := [(Value.int .u8 (UInt8.toNat y28 : Int))]) (ecs' := [(Value.int .u8 (UInt8.toNat y39 : Int))]) (a := y28) (a' := y39) rfl Try.type5 rfl rfl (by rw [← toU8_some hy39]; exact rfl) rfl rfl rfl o5 hv33 hg35 hd34 hc36 rfl rfl rfl st ?_)
   intro m37 st o5 sm38
   obtain ⟨y40, hy40, hr⟩ := lt_some hr
   rw [hy40] at o5
   replace bx0n := bx0n.same sm38 ao0_o5
   refine SeqW.done fun fr41 hf42 => ?_
   have h0 := (congrFun hf42 0).trans h0
   have h1 := (congrFun hf42 1).trans h1
   have h5 := (congrFun hf42 5).trans h5
   have h6 := (congrFun hf42 6).trans h6
   clear hf42
   refine blockQ.n ?_
   refine thenQ.n (W.region ?_)
   refine sx rfl (pMove (v := (vI x6)) rfl h6) ?_
   refine sx rfl (pAdd (k := .i64) (a := x6) (b := 1) rfl rfl rfl) ?_
   obtain ⟨y43, hy43, hr⟩ := lt_some hr
   refine sx rfl (pAssign rfl (congrArg (Value.int .i64) hy43)) ?_
   refine SeqW.done fun fr44 hf45 => ?_
   have h0 := (congrFun hf45 0).trans h0
   have h1 := (congrFun hf45 1).trans h1
   have h5 := (congrFun hf45 5).trans h5
   have h6 : fr44 6 = (vI y43) := (congrFun hf45 6).trans rfl
   clear hf45
   refine thenQ.n ?_
   exact ih (x0 := y18.2) hz st h0 Q25 bx0n h1 h5 o5 h6 ao0_o5 hr
  ·refine W.condF h11 hc46 ?_
   refine W.exit ?_
   refine thenQ.x ?_
   refine thenQ.x ?_
   obtain rfl := Option.some.inj hr
   exact ⟨z, hz, st, rfl, v0_0, h0, s0_0, bx0, h5, o5, ao0_o5, trivial⟩

theorem u_Maker_Digits {N : Nat}  {z0 z : Nat → Blk} {e m : Mem} {k : Option Nat} {fr : Nat → Value} {x0 : Maker} {x1 : Int} {v0_0 : Value} {b0 : Nat} (hz : Zx e.next z0 z) (st : St z e m k) (h0 : fr 0 = (vP b0)) (s0_0 : SlR (TInt 3 .i64) z x0.l v0_0) (bx0 : Bx z e m k b0 [v0_0, (vI x0.n)] 53) (h1 : fr 1 = (vI x1)) {r : List UInt8 × Maker} (hr : Maker_Digits N x0 x1 = some r) : W Try.prog (sub (bodyOf Try.f43) []) (fun ex fr' m' => ∃ z', Zx e.next z0 z' ∧ St z' e m' k ∧ (ex = .normal ∨ ex = .ret) ∧ ∃ (wr_0 : Value), fr' 4 = (str r.1) ∧ SlR (TInt 3 .i64) z' r.2.l wr_0 ∧ Bx z' e m' k b0 [wr_0, (vI r.2.n)] 53 ∧ True) fr m := by
 unfold Maker_Digits at hr
 refine W.seq (W.region ?_)
 refine sx rfl (pAssign (v := (str [])) rfl rfl) ?_
 refine SeqW.done fun fr1 hf2 => ?_
 have h0 := (congrFun hf2 0).trans h0
 have h1 := (congrFun hf2 1).trans h1
 clear hf2
 refine thenQ.n (W.seq (W.region ?_))
 refine sx rfl (pMove (v := (vI x1)) rfl h1) ?_
 obtain ⟨y3, hy3, hr⟩ := bind_some hr
 refine SeqW.consX rfl (kMake (T := (TU8 5)) (x0 := 0) (n := x1) rfl Try.underlying23 Try.type5 rfl rfl rfl rfl rfl rfl rfl rfl st hy3 ?_)
 intro V4 m5 st O6 sm7 hap8
 have A10 := hap8 _ bx0.lt'
 replace bx0 := bx0.same sm7 Ap.none'
 refine sx rfl (pAssign (v := V4) rfl rfl) ?_
 refine SeqW.done fun fr11 hf12 => ?_
 have h0 := (congrFun hf12 0).trans h0
 have h1 := (congrFun hf12 1).trans h1
 have h5 : fr11 5 = V4 := (congrFun hf12 5).trans rfl
 clear hf12
 refine thenQ.n (W.seq ?_)
 refine W.seq (W.region ?_)
 refine sx rfl (pAssign (v := (vI 0)) rfl rfl) ?_
 refine SeqW.done fun fr13 hf14 => ?_
 have h0 := (congrFun hf14 0).trans h0
 have h1 := (congrFun hf14 1).trans h1
 have h5 := (congrFun hf14 5).trans h5
 have h6 : fr13 6 = (vI 0) := (congrFun hf14 6).trans rfl
 clear hf14
 refine thenQ.n ?_
 refine W.block ?_
 obtain ⟨y47, hy47, hr⟩ := bind_some hr
 refine W.keep (u_Maker_Digits_0 (x0 := x0) _ (Zx.refl _) st h0 s0_0 bx0 h1 h5 O6 h6 A10 hy47) ?_
 rintro ex53 fr48 m49 hk51 ⟨z50, hz52, st, rfl, w54, h0, Q56, X58, h5, O60, A61, -⟩
 replace hz := hz.trans hz52
 clear hk51
 refine blockQ.hit ?_
 refine thenQ.n (W.seq (W.region ?_))
 refine sx rfl (pMove (v := V4) rfl h5) ?_
 refine SeqW.consX rfl (kStrO (s := y47.2) rfl Try.underlying23 Try.underlying5 Try.underlying9 rfl O60 ?_)
 refine sx rfl (pAssign (v := (str y47.2)) rfl rfl) ?_
 refine SeqW.done fun fr62 hf63 => ?_
 have h0 := (congrFun hf63 0).trans h0
 have h4 : fr62 4 = (str y47.2) := (congrFun hf63 4).trans rfl
 clear hf63
 refine thenQ.n ?_
 refine W.ret ?_
 obtain rfl := Option.some.inj hr
 exact ⟨z50, hz, st, .inr rfl, w54, h4, Q56, X58, trivial⟩

theorem c_Maker_Digits {N : Nat} {z : Nat → Blk} {m : Mem} {x0 : Maker} {x1 : Int} {v0_0 : Value} {b0 : Nat} (fz : Fz z m) (hd : ∀ b, m.next ≤ b → m.blk b = .dead) (s0_0 : SlR (TInt 3 .i64) z x0.l v0_0) (bx0 : Bx z m m (some b0) b0 [v0_0, (vI x0.n)] 53) {r : List UInt8 × Maker} (hr : Maker_Digits N x0 x1 = some r) : CallW Try.prog 43 #[(vP b0), (vI x1)] m fun v m' => ∃ z' wr_0, Zx m.next z z' ∧ Fz z' m' ∧ Same m m' (some b0) ∧ v = (str r.1) ∧ SlR (TInt 3 .i64) z' r.2.l wr_0 ∧ Bx z' m m' (some b0) b0 [wr_0, (vI r.2.n)] 53 ∧ True := by
 refine CallW.any Try.func43 rfl (by kernel_rfl) (Nat.le_of_ble_eq_true rfl) (fun fr hf => ?_)
 have h0 : fr 0 = _ := hf 0 _ rfl
 have h1 : fr 1 = _ := hf 1 _ rfl
 refine (u_Maker_Digits (k := (some b0)) (Zx.refl _) (St.start fz hd) h0 s0_0 bx0 h1 hr).mono ?_
 rintro ex fr' m' ⟨z', hz, st, he, wr_0, h4, sr_0, bxr, -⟩
 exact ⟨he, [(str r.1)], ⟨h4.symm, trivial⟩, .inl rfl, z', wr_0, hz, st.fz, st.toSame, rfl, sr_0, bxr, trivial⟩

/-! ### humpyard/humpyardref02.digits -/

theorem u_r02_digits_1 {N : Nat}  {z0 z : Nat → Blk} {e m : Mem} {k : Option Nat} {fr : Nat → Value} {x0 : List UInt8} {x5 : Int} (hz : Zx e.next z0 z) (st : St z e m k) (h0 : fr 0 = (str x0)) (h5 : fr 5 = (vI x5)) {r : Bool} (hr : r02_digits_1 N x0 x5 = some r) : W Try.prog (sub (bodyOf Try.f51) [1, 1, 0, 1, 0, 0, 1, 0, 0, 0]) (fun ex fr' m' => ∃ z', Zx e.next z0 z' ∧ St z' e m' k ∧ ex = AExit.normal ∧ fr' 24 = (vB r) ∧ True) fr m := by
 unfold r02_digits_1 at hr
 refine W.region ?_
 refine sx rfl (pMove (v := (str x0)) rfl h0) ?_
 refine sx rfl (pMove (v := (vI x5)) rfl h5) ?_
 obtain ⟨y14, hy14, hr⟩ := bind_some hr
 refine SeqW.consX rfl (kIndexS (s := x0) (n := x5) rfl Try.underlying9 rfl rfl hy14 ?_)
 refine sx rfl (pLss (k := .u8) (a := (UInt8.toNat y14 : Int)) (b := 48) rfl rfl rfl) ?_
 refine sx rfl (pMove (v := (vB (decide ((UInt8.toNat y14 : Int) < 48)))) rfl rfl) ?_
 rcases if_some hr with ⟨hc15, hr⟩ | ⟨hc18, hr⟩
 ·refine kx rfl rfl rfl hc15 ?_
  iterate 3 refine kx rfl rfl rfl hc15 ?_
  refine sx rfl (pPick (t := true) (v := (vB true)) rfl ((congrArg vB hc15)) rfl) ?_
  refine SeqW.done fun fr16 hf17 => ?_
  have h0 := (congrFun hf17 0).trans h0
  have h5 := (congrFun hf17 5).trans h5
  have h24 : fr16 24 = (vB true) := (congrFun hf17 24).trans rfl
  clear hf17
  obtain rfl := Option.some.inj hr
  exact ⟨z, hz, st, rfl, h24, trivial⟩
 ·refine SeqW.consG rfl rfl rfl hc18 (StepX.pure (pMove (v := (str x0)) rfl h0) ?_)
  refine SeqW.consG rfl rfl rfl hc18 (StepX.pure (pMove (v := (vI x5)) rfl h5) ?_)
  obtain ⟨y19, hy19, hr⟩ := bind_some hr
  refine SeqW.consG rfl rfl rfl hc18 (kIndexS (s := x0) (n := x5) rfl Try.underlying9 rfl rfl hy19 ?_)
  refine SeqW.consG rfl rfl rfl hc18 (StepX.pure (pGtr (k := .u8) (a := (UInt8.toNat y19 : Int)) (b := 57) rfl rfl rfl) ?_)
  refine sx rfl (pPick (t := false) (v := (vB (decide (57 < (UInt8.toNat y19 : Int))))) rfl ((congrArg vB hc18)) rfl) ?_
  refine SeqW.done fun fr20 hf21 => ?_
  have h0 := (congrFun hf21 0).trans h0
  have h5 := (congrFun hf21 5).trans h5
  have h24 : fr20 24 = (vB (decide (57 < (UInt8.toNat y19 : Int)))) := (congrFun hf21 24).trans rfl
  clear hf21
  obtain rfl := Option.some.inj hr
  exact ⟨z, hz, st, rfl, h24, trivial⟩

theorem u_r02_digits_0 : ∀ (n : Nat) {N : Nat}  {z0 z : Nat → Blk} {e m : Mem} {k : Option Nat} {fr : Nat → Value} {x0 : List UInt8} {x1 : Int} {x5 : Int} (hz : Zx e.next z0 z) (st : St z e m k) (h0 : fr 0 = (str x0)) (h1 : fr 1 = (vI x1)) (h5 : fr 5 = (vI x5)) {r : Sum (Unit) (Bool)} (hr : r02_digits_0 N x0 x1 n x5 = some r), W Try.prog (sub (bodyOf Try.f51) [1, 1, 0, 1, 0]) (fun ex fr' m' => ∃ z', Zx e.next z0 z' ∧ St z' e m' k ∧ ((∃ q, r = Sum.inl q ∧ ex = AExit.exit 0 ∧ True) ∨ (∃ q, r = Sum.inr q ∧ ex = AExit.ret ∧ fr' 4 = (vB q) ∧ True))) fr m := by
 intro n
 induction n with
 | zero => intro N z0 z e m k fr x0 x1 x5 hz st h0 h1 h5 r hr; cases (show (none : Option _) = some r from hr)
 | succ n ih =>
  intro N z0 z e m k fr x0 x1 x5 hz st h0 h1 h5 r hr
  unfold r02_digits_0 at hr
  refine W.loop1 ?_
  refine W.seq (W.seq (W.region ?_))
  refine sx rfl (pMove (v := (vI x5)) rfl h5) ?_
  refine sx rfl (pMove (v := (vI x1)) rfl h1) ?_
  refine sx rfl (pLss (k := .i64) (a := x5) (b := x1) rfl rfl rfl) ?_
  refine SeqW.done fun fr11 hf12 => ?_
  have h0 := (congrFun hf12 0).trans h0
  have h1 := (congrFun hf12 1).trans h1
  have h5 := (congrFun hf12 5).trans h5
  have h12 : fr11 12 = (vB (decide (x5 < x1))) := (congrFun hf12 12).trans rfl
  clear hf12
  refine thenQ.n ?_
  rcases if_some hr with ⟨hc13, hr⟩ | ⟨hc36, hr⟩
  ·refine W.condT h12 hc13 (W.skip ?_)
   refine thenQ.n (W.seq ?_)
   refine W.block ?_
   refine W.seq ?_
   obtain ⟨y22, hy22, hr⟩ := bind_some hr
   refine W.keep (u_r02_digits_1 (Zx.refl _) st h0 h5 hy22) ?_
   rintro ex28 fr23 m24 hk26 ⟨z25, hz27, st, rfl, h24, -⟩
   have h0 := (hk26 0 rfl).trans h0
   have h1 := (hk26 1 rfl).trans h1
   have h5 := (hk26 5 rfl).trans h5
   replace hz := hz.trans hz27
   clear hk26
   refine thenQ.n ?_
   rcases if_some hr with ⟨hc29, hr⟩ | ⟨hc32, hr⟩
   ·refine W.condT h24 hc29 (W.seq (W.region ?_))
    refine sx rfl (pAssign (v := (vB false)) rfl rfl) ?_
    refine SeqW.done fun fr30 hf31 => ?_
    have h4 : fr30 4 = (vB false) := (congrFun hf31 4).trans rfl
    clear hf31
    refine thenQ.n ?_
    refine W.ret ?_
    refine blockQ.r ?_
    refine thenQ.r ?_
    refine thenQ.r ?_
    obtain rfl := Option.some.inj hr
    exact ⟨z25, hz, st, .inr ⟨_, rfl, rfl, h4, trivial⟩⟩
   ·refine W.condF h24 hc32 (W.skip ?_)
    refine blockQ.n ?_
    refine thenQ.n (W.region ?_)
    refine sx rfl (pMove (v := (vI x5)) rfl h5) ?_
    refine sx rfl (pAdd (k := .i64) (a := x5) (b := 1) rfl rfl rfl) ?_
    obtain ⟨y33, hy33, hr⟩ := lt_some hr
    refine sx rfl (pAssign rfl (congrArg (Value.int .i64) hy33)) ?_
    refine SeqW.done fun fr34 hf35 => ?_
    have h0 := (congrFun hf35 0).trans h0
    have h1 := (congrFun hf35 1).trans h1
    have h5 : fr34 5 = (vI y33) := (congrFun hf35 5).trans rfl
    clear hf35
    refine thenQ.n ?_
    exact ih hz st h0 h1 h5 hr
  ·refine W.condF h12 hc36 ?_
   refine W.exit ?_
   refine thenQ.x ?_
   refine thenQ.x ?_
   obtain rfl := Option.some.inj hr
   exact ⟨z, hz, st, .inl ⟨_, rfl, rfl, trivial⟩⟩

theorem u_r02_digits {N : Nat}  {z0 z : Nat → Blk} {e m : Mem} {k : Option Nat} {fr : Nat → Value} {x0 : List UInt8} {x1 : Int} (hz : Zx e.next z0 z) (st : St z e m k) (h0 : fr 0 = (str x0)) (h1 : fr 1 = (vI x1)) {r : Bool} (hr : r02_digits N x0 x1 = some r) : W Try.prog (sub (bodyOf Try.f51) []) (fun ex fr' m' => ∃ z', Zx e.next z0 z' ∧ St z' e m' k ∧ (ex = .normal ∨ ex = .ret) ∧ fr' 4 = (vB r) ∧ True) fr m := by
 unfold r02_digits at hr
 refine W.seq (W.region ?_)
 refine sx rfl (pAssign (v := (vB false)) rfl rfl) ?_
 refine SeqW.done fun fr1 hf2 => ?_
 have h0 := (congrFun hf2 0).trans h0
 have h1 := (congrFun hf2 1).trans h1
 clear hf2
 refine thenQ.n (W.seq ?_)
 refine W.seq (W.region ?_)
 refine sx rfl (pMove (v := (str x0)) rfl h0) ?_
 refine sx rfl (pLenS (s := x0) rfl rfl Try.underlying9 rfl) ?_
 refine sx rfl (pMove (v := (vI x1)) rfl h1) ?_
 refine sx rfl (pNeq (k := .i64) (a := (x0.length : Int)) (b := x1) rfl rfl rfl) ?_
 refine SeqW.done fun fr3 hf4 => ?_
 have h0 := (congrFun hf4 0).trans h0
 have h1 := (congrFun hf4 1).trans h1
 have h9 : fr3 9 = (vB ((x0.length : Int) != x1)) := (congrFun hf4 9).trans rfl
 clear hf4
 refine thenQ.n ?_
 rcases if_some hr with ⟨hc5, hr⟩ | ⟨hc8, hr⟩
 ·refine W.condT h9 hc5 (W.seq (W.region ?_))
  refine sx rfl (pAssign (v := (vB false)) rfl rfl) ?_
  refine SeqW.done fun fr6 hf7 => ?_
  have h4 : fr6 4 = (vB false) := (congrFun hf7 4).trans rfl
  clear hf7
  refine thenQ.n ?_
  refine W.ret ?_
  refine thenQ.r ?_
  obtain rfl := Option.some.inj hr
  exact ⟨z, hz, st, .inr rfl, h4, trivial⟩
 ·refine W.condF h9 hc8 (W.skip ?_)
  refine thenQ.n (W.seq ?_)
  refine W.seq (W.region ?_)
  refine sx rfl (pAssign (v := (vI 0)) rfl rfl) ?_
  refine SeqW.done fun fr9 hf10 => ?_
  have h0 := (congrFun hf10 0).trans h0
  have h1 := (congrFun hf10 1).trans h1
  have h5 : fr9 5 = (vI 0) := (congrFun hf10 5).trans rfl
  clear hf10
  refine thenQ.n ?_
  refine W.block ?_
  obtain ⟨y37, hy37, hr⟩ := bind_some hr
  refine W.keep (u_r02_digits_0 _ (Zx.refl _) st h0 h1 h5 hy37) ?_
  rintro ex43 fr38 m39 hk41 ⟨z40, hz42, st, ⟨y44, rfl, rfl, -⟩ | ⟨y47, rfl, rfl, h4, -⟩⟩
  ·dsimp only at hr
   replace hz := hz.trans hz42
   clear hk41
   refine blockQ.hit ?_
   refine thenQ.n (W.seq (W.region ?_))
   refine sx rfl (pAssign (v := (vB true)) rfl rfl) ?_
   refine SeqW.done fun fr45 hf46 => ?_
   have h4 : fr45 4 = (vB true) := (congrFun hf46 4).trans rfl
   clear hf46
   refine thenQ.n ?_
   refine W.ret ?_
   obtain rfl := Option.some.inj hr
   exact ⟨z40, hz, st, .inr rfl, h4, trivial⟩
  ·dsimp only at hr
   replace hz := hz.trans hz42
   clear hk41
   refine blockQ.r ?_
   refine thenQ.r ?_
   obtain rfl := Option.some.inj hr
   exact ⟨z40, hz, st, .inr rfl, h4, trivial⟩

theorem c_r02_digits {N : Nat} {z : Nat → Blk} {m : Mem} {x0 : List UInt8} {x1 : Int} (fz : Fz z m) (hd : ∀ b, m.next ≤ b → m.blk b = .dead)  {r : Bool} (hr : r02_digits N x0 x1 = some r) : CallW Try.prog 51 #[(str x0), (vI x1)] m fun v m' => v = (vB r) ∧ m' = m := by
 refine CallW.flat Try.func51 rfl (by kernel_rfl) (Nat.le_of_ble_eq_true rfl) rfl (z := z) (fun fr hf => ?_)
 have h0 : fr 0 = _ := hf 0 _ rfl
 have h1 : fr 1 = _ := hf 1 _ rfl
 refine (u_r02_digits (k := none) (Zx.refl _) (St.start fz hd) h0 h1 hr).mono ?_
 rintro ex fr' m' ⟨z', hz, st, he, h4, -⟩
 exact ⟨he, z', st, [(vB r)], ⟨h4.symm, trivial⟩, .inl rfl, rfl⟩

/-! ### humpyard/humpyardref02.sum -/

theorem u_r02_sum_1 {N : Nat}  {z0 z : Nat → Blk} {e m : Mem} {k : Option Nat} {fr : Nat → Value} {x7 : Int} {x20 : Bool} (hz : Zx e.next z0 z) (st : St z e m k) (h7 : fr 7 = (vI x7)) (h20 : fr 20 = (vB x20)) {r : Int} (hr : r02_sum_1 N x7 x20 = some r) : W Try.prog (sub (bodyOf Try.f52) [1, 1, 0, 1, 0, 0, 1, 0, 0, 1, 0, 1]) (fun ex fr' m' => ∃ z', Zx e.next z0 z' ∧ St z' e m' k ∧ ex = AExit.normal ∧ fr' 7 = (vI r) ∧ True) fr m := by
 unfold r02_sum_1 at hr
 rcases if_some hr with ⟨hc16, hr⟩ | ⟨hc27, hr⟩
 ·refine W.condT h20 hc16 (W.seq (W.region ?_))
  refine sx rfl (pMove (v := (vI x7)) rfl h7) ?_
  refine sx rfl (pMul (k := .i64) (a := x7) (b := 2) rfl rfl rfl) ?_
  obtain ⟨y17, hy17, hr⟩ := lt_some hr
  refine sx rfl (pAssign rfl (congrArg (Value.int .i64) hy17)) ?_
  refine SeqW.done fun fr18 hf19 => ?_
  have h7 : fr18 7 = (vI y17) := (congrFun hf19 7).trans rfl
  clear hf19
  refine thenQ.n (W.seq (W.region ?_))
  refine sx rfl (pMove (v := (vI y17)) rfl h7) ?_
  refine sx rfl (pGtr (k := .i64) (a := y17) (b := 9) rfl rfl rfl) ?_
  refine SeqW.done fun fr20 hf21 => ?_
  have h7 := (congrFun hf21 7).trans h7
  have h24 : fr20 24 = (vB (decide (9 < y17))) := (congrFun hf21 24).trans rfl
  clear hf21
  refine thenQ.n ?_
  rcases if_some hr with ⟨hc22, hr⟩ | ⟨hc26, hr⟩
  ·refine W.condT h24 hc22 (W.region ?_)
   refine sx rfl (pMove (v := (vI y17)) rfl h7) ?_
   refine sx rfl (pSub (k := .i64) (a := y17) (b := 9) rfl rfl rfl) ?_
   obtain ⟨y23, hy23, hr⟩ := lt_some hr
   refine sx rfl (pAssign rfl (congrArg (Value.int .i64) hy23)) ?_
   refine SeqW.done fun fr24 hf25 => ?_
   have h7 : fr24 7 = (vI y23) := (congrFun hf25 7).trans rfl
   clear hf25
   obtain rfl := Option.some.inj hr
   exact ⟨z, hz, st, rfl, h7, trivial⟩
  ·refine W.condF h24 hc26 (W.skip ?_)
   obtain rfl := Option.some.inj hr
   exact ⟨z, hz, st, rfl, h7, trivial⟩
 ·refine W.condF h20 hc27 (W.skip ?_)
  obtain rfl := Option.some.inj hr
  exact ⟨z, hz, st, rfl, h7, trivial⟩

theorem u_r02_sum_0 : ∀ (n : Nat) {N : Nat}  {z0 z : Nat → Blk} {e m : Mem} {k : Option Nat} {fr : Nat → Value} {x0 : List UInt8} {x1 : Int} {x5 : Int} {x6 : Int} (hz : Zx e.next z0 z) (st : St z e m k) (h0 : fr 0 = (str x0)) (h1 : fr 1 = (vI x1)) (h5 : fr 5 = (vI x5)) (h6 : fr 6 = (vI x6)) {r : Int} (hr : r02_sum_0 N x0 x1 n x5 x6 = some r), W Try.prog (sub (bodyOf Try.f52) [1, 1, 0, 1, 0]) (fun ex fr' m' => ∃ z', Zx e.next z0 z' ∧ St z' e m' k ∧ ex = AExit.exit 0 ∧ fr' 5 = (vI r) ∧ True) fr m := by
 intro n
 induction n with
 | zero => intro N z0 z e m k fr x0 x1 x5 x6 hz st h0 h1 h5 h6 r hr; cases (show (none : Option _) = some r from hr)
 | succ n ih =>
  intro N z0 z e m k fr x0 x1 x5 x6 hz st h0 h1 h5 h6 r hr
  unfold r02_sum_0 at hr
  refine W.loop1 ?_
  refine W.seq (W.seq (W.region ?_))
  refine sx rfl (pMove (v := (vI x6)) rfl h6) ?_
  refine sx rfl (pMove (v := (vI x1)) rfl h1) ?_
  refine sx rfl (pLss (k := .i64) (a := x6) (b := x1) rfl rfl rfl) ?_
  refine SeqW.done fun fr7 hf8 => ?_
  have h0 := (congrFun hf8 0).trans h0
  have h1 := (congrFun hf8 1).trans h1
  have h5 := (congrFun hf8 5).trans h5
  have h6 := (congrFun hf8 6).trans h6
  have h10 : fr7 10 = (vB (decide (x6 < x1))) := (congrFun hf8 10).trans rfl
  clear hf8
  refine thenQ.n ?_
  rcases if_some hr with ⟨hc9, hr⟩ | ⟨hc41, hr⟩
  ·refine W.condT h10 hc9 (W.skip ?_)
   refine thenQ.n (W.seq ?_)
   refine W.block ?_
   refine W.seq (W.region ?_)
   refine sx rfl (pMove (v := (str x0)) rfl h0) ?_
   refine sx rfl (pMove (v := (vI x6)) rfl h6) ?_
   obtain ⟨y10, hy10, hr⟩ := bind_some hr
   refine SeqW.consX rfl (kIndexS (s := x0) (n := x6) rfl Try.underlying9 rfl rfl hy10 ?_)
   refine sx rfl (pSub (k := .u8) (a := (UInt8.toNat y10 : Int)) (b := 48) rfl rfl rfl) ?_
   refine sx rfl (pConv (k := .u8) (a := (IntKind.wrap .u8 ((UInt8.toNat y10 : Int) - 48))) rfl Try.underlying5 Try.underlying3 rfl) ?_
   obtain ⟨y11, hy11, hr⟩ := lt_some hr
   refine sx rfl (pAssign rfl (congrArg (Value.int .i64) hy11)) ?_
   refine SeqW.done fun fr12 hf13 => ?_
   have h0 := (congrFun hf13 0).trans h0
   have h1 := (congrFun hf13 1).trans h1
   have h5 := (congrFun hf13 5).trans h5
   have h6 := (congrFun hf13 6).trans h6
   have h7 : fr12 7 = (vI y11) := (congrFun hf13 7).trans rfl
   clear hf13
   refine thenQ.n (W.seq ?_)
   refine W.seq (W.region ?_)
   refine sx rfl (pMove (v := (vI x6)) rfl h6) ?_
   refine sx rfl (pRem (k := .i64) (a := x6) (b := 2) rfl rfl rfl (by decide)) ?_
   refine sx rfl (pEql (k := .i64) (a := (Int.tmod x6 2)) (b := 0) rfl rfl rfl) ?_
   refine SeqW.done fun fr14 hf15 => ?_
   have h0 := (congrFun hf15 0).trans h0
   have h1 := (congrFun hf15 1).trans h1
   have h5 := (congrFun hf15 5).trans h5
   have h6 := (congrFun hf15 6).trans h6
   have h7 := (congrFun hf15 7).trans h7
   have h20 : fr14 20 = (vB ((Int.tmod x6 2) == 0)) := (congrFun hf15 20).trans rfl
   clear hf15
   refine thenQ.n ?_
   obtain ⟨y28, hy28, hr⟩ := bind_some hr
   refine W.keep (u_r02_sum_1 (Zx.refl _) st h7 h20 hy28) ?_
   rintro ex34 fr29 m30 hk32 ⟨z31, hz33, st, rfl, h7, -⟩
   have h0 := (hk32 0 rfl).trans h0
   have h1 := (hk32 1 rfl).trans h1
   have h5 := (hk32 5 rfl).trans h5
   have h6 := (hk32 6 rfl).trans h6
   replace hz := hz.trans hz33
   clear hk32
   refine thenQ.n (W.region ?_)
   refine sx rfl (pMove (v := (vI x5)) rfl h5) ?_
   refine sx rfl (pMove (v := (vI y28)) rfl h7) ?_
   refine sx rfl (pAdd (k := .i64) (a := x5) (b := y28) rfl rfl rfl) ?_
   obtain ⟨y35, hy35, hr⟩ := lt_some hr
   refine sx rfl (pAssign rfl (congrArg (Value.int .i64) hy35)) ?_
   refine SeqW.done fun fr36 hf37 => ?_
   have h0 := (congrFun hf37 0).trans h0
   have h1 := (congrFun hf37 1).trans h1
   have h5 : fr36 5 = (vI y35) := (congrFun hf37 5).trans rfl
   have h6 := (congrFun hf37 6).trans h6
   clear hf37
   refine blockQ.n ?_
   refine thenQ.n (W.region ?_)
   refine sx rfl (pMove (v := (vI x6)) rfl h6) ?_
   refine sx rfl (pAdd (k := .i64) (a := x6) (b := 1) rfl rfl rfl) ?_
   obtain ⟨y38, hy38, hr⟩ := lt_some hr
   refine sx rfl (pAssign rfl (congrArg (Value.int .i64) hy38)) ?_
   refine SeqW.done fun fr39 hf40 => ?_
   have h0 := (congrFun hf40 0).trans h0
   have h1 := (congrFun hf40 1).trans h1
   have h5 := (congrFun hf40 5).trans h5
   have h6 : fr39 6 = (vI y38) := (congrFun hf40 6).trans rfl
   clear hf40
   refine thenQ.n ?_
   exact ih hz st h0 h1 h5 h6 hr
  ·refine W.condF h10 hc41 ?_
   refine W.exit ?_
   refine thenQ.x ?_
   refine thenQ.x ?_
   obtain rfl := Option.some.inj hr
   exact ⟨z, hz, st, rfl, h5, trivial⟩

theorem u_r02_sum {N : Nat}  {z0 z : Nat → Blk} {e m : Mem} {k : Option Nat} {fr : Nat → Value} {x0 : List UInt8} {x1 : Int} (hz : Zx e.next z0 z) (st : St z e m k) (h0 : fr 0 = (str x0)) (h1 : fr 1 = (vI x1)) {r : Int} (hr : r02_sum N x0 x1 = some r) : W Try.prog (sub (bodyOf Try.f52) []) (fun ex fr' m' => ∃ z', Zx e.next z0 z' ∧ St z' e m' k ∧ (ex = .normal ∨ ex = .ret) ∧ fr' 4 = (vI r) ∧ True) fr m := by
 unfold r02_sum at hr
 refine W.seq (W.region ?_)
 refine sx rfl (pAssign (v := (vI 0)) rfl rfl) ?_
 refine SeqW.done fun fr1 hf2 => ?_
 have h0 := (congrFun hf2 0).trans h0
 have h1 := (congrFun hf2 1).trans h1
 clear hf2
 refine thenQ.n (W.seq (W.region ?_))
 refine sx rfl (pAssign (v := (vI 0)) rfl rfl) ?_
 refine SeqW.done fun fr3 hf4 => ?_
 have h0 := (congrFun hf4 0).trans h0
 have h1 := (congrFun hf4 1).trans h1
 have h5 : fr3 5 = (vI 0) := (congrFun hf4 5).trans rfl
 clear hf4
 refine thenQ.n (W.seq ?_)
 refine W.seq (W.region ?_)
 refine sx rfl (pAssign (v := (vI 0)) rfl rfl) ?_
 refine SeqW.done fun fr5 hf6 => ?_
 have h0 := (congrFun hf6 0).trans h0
 have h1 := (congrFun hf6 1).trans h1
 have h5 := (congrFun hf6 5).trans h5
 have h6 : fr5 6 = (vI 0) := (congrFun hf6 6).trans rfl
 clear hf6
 refine thenQ.n ?_
 refine W.block ?_
 obtain ⟨y42, hy42, hr⟩ := bind_some hr
 refine W.keep (u_r02_sum_0 _ (Zx.refl _) st h0 h1 h5 h6 hy42) ?_
 rintro ex48 fr43 m44 hk46 ⟨z45, hz47, st, rfl, h5, -⟩
 replace hz := hz.trans hz47
 clear hk46
 refine blockQ.hit ?_
 refine thenQ.n (W.seq (W.region ?_))
 refine sx rfl (pMove (v := (vI y42)) rfl h5) ?_
 refine sx rfl (pAssign (v := (vI y42)) rfl rfl) ?_
 refine SeqW.done fun fr49 hf50 => ?_
 have h4 : fr49 4 = (vI y42) := (congrFun hf50 4).trans rfl
 clear hf50
 refine thenQ.n ?_
 refine W.ret ?_
 obtain rfl := Option.some.inj hr
 exact ⟨z45, hz, st, .inr rfl, h4, trivial⟩

theorem c_r02_sum {N : Nat} {z : Nat → Blk} {m : Mem} {x0 : List UInt8} {x1 : Int} (fz : Fz z m) (hd : ∀ b, m.next ≤ b → m.blk b = .dead)  {r : Int} (hr : r02_sum N x0 x1 = some r) : CallW Try.prog 52 #[(str x0), (vI x1)] m fun v m' => v = (vI r) ∧ m' = m := by
 refine CallW.flat Try.func52 rfl (by kernel_rfl) (Nat.le_of_ble_eq_true rfl) rfl (z := z) (fun fr hf => ?_)
 have h0 : fr 0 = _ := hf 0 _ rfl
 have h1 : fr 1 = _ := hf 1 _ rfl
 refine (u_r02_sum (k := none) (Zx.refl _) (St.start fz hd) h0 h1 hr).mono ?_
 rintro ex fr' m' ⟨z', hz, st, he, h4, -⟩
 exact ⟨he, z', st, [(vI r)], ⟨h4.symm, trivial⟩, .inl rfl, rfl⟩

/-! ### humpyard/humpyardref02.Digit -/

theorem u_r02_Digit {N : Nat}  {z0 z : Nat → Blk} {e m : Mem} {k : Option Nat} {fr : Nat → Value} {x0 : List UInt8} (hz : Zx e.next z0 z) (st : St z e m k) (h0 : fr 0 = (str x0)) {r : Int × Int} (hr : r02_Digit N x0 = some r) : W Try.prog (sub (bodyOf Try.f44) []) (fun ex fr' m' => ∃ z', Zx e.next z0 z' ∧ St z' e m' k ∧ (ex = .normal ∨ ex = .ret) ∧ fr' 2 = (vI r.1) ∧ fr' 3 = (vI r.2) ∧ True) fr m := by
 unfold r02_Digit at hr
 refine W.seq (W.region ?_)
 refine sx rfl (pAssign (v := (vI 0)) rfl rfl) ?_
 refine sx rfl (pAssign (v := (vI 0)) rfl rfl) ?_
 refine SeqW.done fun fr1 hf2 => ?_
 have h0 := (congrFun hf2 0).trans h0
 clear hf2
 refine thenQ.n (W.seq ?_)
 refine W.seq (W.region ?_)
 refine sx rfl (pMove (v := (str x0)) rfl h0) ?_
 obtain ⟨y3, hy3, hr⟩ := bind_some hr
 refine SeqW.consX rfl (StepX.call (gCallee rfl rfl (args2 rfl rfl)) ((c_r02_digits (z := z) st.fz st.dead  hy3).mono ?_))
 rintro _ _ ⟨rfl, rfl⟩
 refine sx rfl (pNot (b := y3) rfl rfl) ?_
 refine SeqW.done fun fr4 hf5 => ?_
 have h0 := (congrFun hf5 0).trans h0
 have h6 : fr4 6 = (vB (!y3)) := (congrFun hf5 6).trans rfl
 clear hf5
 refine thenQ.n ?_
 rcases if_some hr with ⟨hc6, hr⟩ | ⟨hc9, hr⟩
 ·refine W.condT h6 hc6 (W.seq (W.region ?_))
  refine sx rfl (pAssign (v := (vI 0)) rfl rfl) ?_
  refine sx rfl (pAssign (v := (vI 11)) rfl rfl) ?_
  refine SeqW.done fun fr7 hf8 => ?_
  have h2 : fr7 2 = (vI 0) := (congrFun hf8 2).trans rfl
  have h3 : fr7 3 = (vI 11) := (congrFun hf8 3).trans rfl
  clear hf8
  refine thenQ.n ?_
  refine W.ret ?_
  refine thenQ.r ?_
  obtain rfl := Option.some.inj hr
  exact ⟨z, hz, st, .inr rfl, h2, h3, trivial⟩
 ·refine W.condF h6 hc9 (W.skip ?_)
  refine thenQ.n (W.seq (W.region ?_))
  refine sx rfl (pMove (v := (str x0)) rfl h0) ?_
  obtain ⟨y10, hy10, hr⟩ := bind_some hr
  refine SeqW.consX rfl (StepX.call (gCallee rfl rfl (args2 rfl rfl)) ((c_r02_sum (z := z) st.fz st.dead  hy10).mono ?_))
  rintro _ _ ⟨rfl, rfl⟩
  refine sx rfl (pRem (k := .i64) (a := y10) (b := 10) rfl rfl rfl (by decide)) ?_
  refine sx rfl (pSub (k := .i64) (a := 10) (b := (Int.tmod y10 10)) rfl rfl rfl) ?_
  refine sx rfl (pRem (k := .i64) (a := (IntKind.wrap .i64 (10 - (Int.tmod y10 10)))) (b := 10) rfl rfl rfl (by decide)) ?_
  obtain ⟨y11, hy11, hr⟩ := lt_some hr
  refine sx rfl (pAssign rfl (congrArg (Value.int .i64) hy11)) ?_
  refine sx rfl (pAssign (v := (vI 0)) rfl rfl) ?_
  refine SeqW.done fun fr12 hf13 => ?_
  have h2 : fr12 2 = (vI y11) := (congrFun hf13 2).trans rfl
  have h3 : fr12 3 = (vI 0) := (congrFun hf13 3).trans rfl
  clear hf13
  refine thenQ.n ?_
  refine W.ret ?_
  obtain rfl := Option.some.inj hr
  exact ⟨z, hz, st, .inr rfl, h2, h3, trivial⟩

theorem c_r02_Digit {N : Nat} {z : Nat → Blk} {m : Mem} {x0 : List UInt8} (fz : Fz z m) (hd : ∀ b, m.next ≤ b → m.blk b = .dead)  {r : Int × Int} (hr : r02_Digit N x0 = some r) : CallW Try.prog 44 #[(str x0)] m fun v m' => v = (Value.tuple [(vI r.1), (vI r.2)].toArray) ∧ m' = m := by
 refine CallW.flat Try.func44 rfl (by kernel_rfl) (Nat.le_of_ble_eq_true rfl) rfl (z := z) (fun fr hf => ?_)
 have h0 : fr 0 = _ := hf 0 _ rfl
 refine (u_r02_Digit (k := none) (Zx.refl _) (St.start fz hd) h0 hr).mono ?_
 rintro ex fr' m' ⟨z', hz, st, he, h2, h3, -⟩
 exact ⟨he, z', st, [(vI r.1), (vI r.2)], ⟨h2.symm, h3.symm, trivial⟩, .inr (List.forall_mem_cons.2 ⟨rfl, List.forall_mem_cons.2 ⟨rfl, fun _ h => nomatch h⟩⟩), rfl⟩

/-! ### (*humpyard/humpgen.Maker).Number -/

theorem u_Maker_Number {N : Nat}  {z0 z : Nat → Blk} {e m : Mem} {k : Option Nat} {fr : Nat → Value} {x0 : Maker} {x1 : Int} {v0_0 : Value} {b0 : Nat} (hz : Zx e.next z0 z) (st : St z e m k) (h0 : fr 0 = (vP b0)) (s0_0 : SlR (TInt 3 .i64) z x0.l v0_0) (bx0 : Bx z e m k b0 [v0_0, (vI x0.n)] 53) (h1 : fr 1 = (vI x1)) {r : List UInt8 × Maker} (hr : Maker_Number N x0 x1 = some r) : W Try.prog (sub (bodyOf Try.f33) []) (fun ex fr' m' => ∃ z', Zx e.next z0 z' ∧ St z' e m' k ∧ (ex = .normal ∨ ex = .ret) ∧ ∃ (wr_0 : Value), fr' 4 = (str r.1) ∧ SlR (TInt 3 .i64) z' r.2.l wr_0 ∧ Bx z' e m' k b0 [wr_0, (vI r.2.n)] 53 ∧ True) fr m := by
 unfold Maker_Number at hr
 refine W.seq (W.region ?_)
 refine sx rfl (pAssign (v := (str [])) rfl rfl) ?_
 refine SeqW.done fun fr1 hf2 => ?_
 have h0 := (congrFun hf2 0).trans h0
 have h1 := (congrFun hf2 1).trans h1
 clear hf2
 refine thenQ.n (W.seq (W.region ?_))
 refine sx rfl (pMove (v := (vP b0)) rfl h0) ?_
 obtain ⟨y3, hy3, hr⟩ := bind_some hr
 refine SeqW.consX rfl (StepX.call (gCallee rfl rfl (args2 rfl rfl)) ((c_Maker_Digits (x0 := x0) (z := z) st.fz st.dead s0_0 ⟨bx0.blk, bx0.lt, bx0.dead, .inr rfl⟩ hy3).mono ?_))
 rintro _ m8 ⟨z4, V9, hzx5, fz6, sm7, rfl, Q10, X12, -⟩
 replace s0_0 := s0_0.mono hzx5.le
 have bx0n : Bx z4 e m8 k b0 _ _ := ⟨X12.blk, X12.lt, X12.dead, bx0.fresh⟩
 replace hz := hz.trans (Zx.here st hzx5)
 replace st := st.call hzx5 fz6 sm7 bx0.hq
 obtain ⟨y13, hy13, hr⟩ := bind_some hr
 refine SeqW.consX rfl (kBytes (s := y3.1) rfl Try.underlying9 Try.underlying23 Try.underlying5 Try.type5 rfl rfl hy13 st ?_)
 intro V14 m15 st O16 sm17 hap18
 have A20 := hap18 _ bx0n.lt'
 replace bx0n := bx0n.same sm17 Ap.none'
 refine sx rfl (pAssign (v := V14) rfl rfl) ?_
 refine SeqW.done fun fr21 hf22 => ?_
 have h0 := (congrFun hf22 0).trans h0
 have h1 := (congrFun hf22 1).trans h1
 have h5 : fr21 5 = V14 := (congrFun hf22 5).trans rfl
 clear hf22
 refine thenQ.n (W.seq (W.region ?_))
 refine sx rfl (pMove (v := V14) rfl h5) ?_
 refine sx rfl (pMove (v := V14) rfl h5) ?_
 refine sx rfl (pMove (v := V14) rfl h5) ?_
 refine sx rfl (pMove (v := (vI x1)) rfl h1) ?_
 refine sx rfl (pQuo (k := .i64) (a := x1) (b := 100) rfl rfl rfl (by decide)) ?_
 refine sx rfl (pRem (k := .i64) (a := (IntKind.wrap .i64 (Int.tdiv x1 100))) (b := 10) rfl rfl rfl (by decide)) ?_
 refine sx rfl (pAdd (k := .i64) (a := 48) (b := (Int.tmod (IntKind.wrap .i64 (Int.tdiv x1 100)) 10)) rfl rfl rfl) ?_
 refine sx rfl (pConv (k := .i64) (a := (IntKind.wrap .i64 (48 + (Int.tmod (IntKind.wrap .i64 (Int.tdiv x1 100)) 10)))) rfl Try.underlying3 Try.underlying5 rfl) ?_
 refine sx rfl (pMove (v := (vI x1)) rfl h1) ?_
 refine sx rfl (pQuo (k := .i64) (a := x1) (b := 10) rfl rfl rfl (by decide)) ?_
 refine sx rfl (pRem (k := .i64) (a := (IntKind.wrap .i64 (Int.tdiv x1 10))) (b := 10) rfl rfl rfl (by decide)) ?_
 refine sx rfl (pAdd (k := .i64) (a := 48) (b := (Int.tmod (IntKind.wrap .i64 (Int.tdiv x1 10)) 10)) rfl rfl rfl) ?_
 refine sx rfl (pConv (k := .i64) (a := (IntKind.wrap .i64 (48 + (Int.tmod (IntKind.wrap .i64 (Int.tdiv x1 10)) 10)))) rfl Try.underlying3 Try.underlying5 rfl) ?_
 refine sx rfl (pMove (v := (vI x1)) rfl h1) ?_
 refine sx rfl (pRem (k := .i64) (a := x1) (b := 10) rfl rfl rfl (by decide)) ?_
 refine sx rfl (pAdd (k := .i64) (a := 48) (b := (Int.tmod x1 10)) rfl rfl rfl) ?_
 refine sx rfl (pConv (k := .i64) (a := (IntKind.wrap .i64 (48 + (Int.tmod x1 10)))) rfl Try.underlying3 Try.underlying5 rfl) ?_
 obtain ⟨y23, hy23, hr⟩ := bind_some hr
 refine SeqW.consX rfl (kIdxO (T := (TU8 5)) (xs := y13) (n := 8) rfl Try.underlying23 Try.type5 rfl rfl rfl O16 hy23 ?_)
 intro B24 l25 c26 cs27 hv28 hd29 hg30 hc31
 have hd290 := hd29
 obtain rfl := hd290
 obtain ⟨y34, hy34, hr⟩ := bind_some hr
 refine SeqW.consX rfl (kSet (T := (TU8 5)) (off := (8 : Int).toNat * ((TU8 5)).sz) (n := (8 : Int).toNat) (f := 0) (w := (Value.int .u8 (UInt8.toNat y34 : Int))) (new := [(Value.int .u8 (UInt8.toNat y34 : Int))]) (ecs := [(Value.int .u8 (UInt8.toNat y23 : Int))]) (ecs' := [(Value.int .u8 (UInt8.toNat y34 : Int))]) (a := y23) (a' := y34) rfl Try.type5 rfl rfl (by rw [← toU8_some hy34]; exact rfl) rfl rfl rfl O16 hv28 hg30 hd29 hc31 rfl rfl rfl st ?_)
 intro m32 st O16 sm33
 obtain ⟨y35, hy35, hr⟩ := lt_some hr
 rw [hy35] at O16
 replace bx0n := bx0n.same sm33 A20
 obtain ⟨y36, hy36, hr⟩ := bind_some hr
 refine SeqW.consX rfl (kIdxO (T := (TU8 5)) (xs := y35) (n := 9) rfl Try.underlying23 Try.type5 rfl rfl rfl O16 hy36 ?_)
 intro B37 l38 c39 cs40 hv41 hd42 hg43 hc44
 have hd420 := hd42
 obtain rfl := hd420
 obtain ⟨y47, hy47, hr⟩ := bind_some hr
 refine SeqW.consX rfl (kSet (T := (TU8 5)) (off := (9 : Int).toNat * ((TU8 5)).sz) (n := (9 : Int).toNat) (f := 0) (w := (Value.int .u8 (UInt8.toNat y47 : Int))) (new := [(Value.int .u8 (UInt8.toNat y47 : Int))]) (ecs := [(Value.int .u8 (UInt8.toNat y36 : Int))]) (ecs' := [(Value.int .u8 (UInt8.toNat y47 : Int))]) (a := y36) (a' := y47) rfl Try.type5 rfl rfl (by rw [← toU8_some hy47]; exact rfl) rfl rfl rfl O16 hv41 hg43 hd42 hc44 rfl rfl rfl st ?_)
 intro m45 st O16 sm46
 obtain ⟨y48, hy48, hr⟩ := lt_some hr
 rw [hy48] at O16
 replace bx0n := bx0n.same sm46 A20
 obtain ⟨y49, hy49, hr⟩ := bind_some hr
 refine SeqW.consX rfl (kIdxO (T := (TU8 5)) (xs := y48) (n := 10) rfl Try.underlying23 Try.type5 rfl rfl rfl O16 hy49 ?_)
 intro B50 l51 c52 cs53 hv54 hd55 hg56 hc57
 have hd550 := hd55
 obtain rfl := hd550
 obtain ⟨y60, hy60, hr⟩ := bind_some hr
 refine SeqW.consX rfl (kSet (T := (TU8 5)) (off := (10 : Int).toNat * ((TU8 5)).sz) (n := (10 : Int).toNat) (f := 0) (w := (Value.int .u8 (UInt8.toNat y60 : Int))) (new := [(Value.int .u8 (UInt8.toNat y60 : Int))]) (ecs := [(Value.int .u8 (UInt8.toNat y49 : Int))]) (ecs' := [(Value.int .u8 (UInt8.toNat y60 : Int))]) (a := y49) (a' := y60) rfl Try.type5 rfl rfl (by rw [← toU8_some hy60]; exact rfl) rfl rfl rfl O16 hv54 hg56 hd55 hc57 rfl rfl rfl st ?_)
 intro m58 st O16 sm59
 obtain ⟨y61, hy61, hr⟩ := lt_some hr
 rw [hy61] at O16
 replace bx0n := bx0n.same sm59 A20
 refine SeqW.done fun fr62 hf63 => ?_
 have h0 := (congrFun hf63 0).trans h0
 have h5 := (congrFun hf63 5).trans h5
 clear hf63
 refine thenQ.n (W.seq (W.region ?_))
 refine sx rfl (pMove (v := V14) rfl h5) ?_
 refine SeqW.consX rfl (kStrO (s := y61) rfl Try.underlying23 Try.underlying5 Try.underlying9 rfl O16 ?_)
 obtain ⟨y64, hy64, hr⟩ := bind_some hr
 refine SeqW.consX rfl (StepX.call (gCallee rfl rfl (args1 rfl)) ((c_r02_Digit (z := z4) st.fz st.dead  hy64).mono ?_))
 rintro _ _ ⟨rfl, rfl⟩
 refine sx rfl (pMove (v := (Value.tuple [(vI y64.1), (vI y64.2)].toArray)) rfl rfl) ?_
 refine sx rfl (pExtract (vs := [(vI y64.1), (vI y64.2)]) (v := (vI y64.1)) rfl rfl rfl) ?_
 refine sx rfl (pExtract (vs := [(vI y64.1), (vI y64.2)]) (v := (vI y64.2)) rfl rfl rfl) ?_
 refine sx rfl (pAssign (v := (vI y64.1)) rfl rfl) ?_
 refine sx rfl (pAssign (v := (vI y64.2)) rfl rfl) ?_
 refine SeqW.done fun fr65 hf66 => ?_
 have h0 := (congrFun hf66 0).trans h0
 have h5 := (congrFun hf66 5).trans h5
 have h6 : fr65 6 = (vI y64.1) := (congrFun hf66 6).trans rfl
 clear hf66
 refine thenQ.n (W.seq (W.region ?_))
 refine sx rfl (pMove (v := V14) rfl h5) ?_
 refine SeqW.consX rfl (kStrO (s := y61) rfl Try.underlying23 Try.underlying5 Try.underlying9 rfl O16 ?_)
 refine sx rfl (pMove (v := (vI y64.1)) rfl h6) ?_
 refine sx rfl (pAdd (k := .i64) (a := 48) (b := y64.1) rfl rfl rfl) ?_
 refine sx rfl (pConv (k := .i64) (a := (IntKind.wrap .i64 (48 + y64.1))) rfl Try.underlying3 Try.underlying5 rfl) ?_
 obtain ⟨y67, hy67, hr⟩ := bind_some hr
 refine SeqW.consX rfl (kBuild (T := (TU8 5)) rfl Try.underlying23 Try.type5 rfl rfl rfl rfl ([y67] : List UInt8) [[Value.int .u8 (UInt8.toNat y67 : Int)]] rfl rfl rfl (BuildOk.mk (w := (Value.int .u8 (UInt8.toNat y67 : Int))) (by rw [← toU8_some hy67]; exact rfl) rfl rfl rfl trivial) st ?_)
 intro V68 m69 st O70 sm71 hap72
 have A74 := hap72 _ bx0n.lt'
 replace bx0n := bx0n.same sm71 Ap.none'
 refine SeqW.consX rfl (kStrO (s := ([y67] : List UInt8)) rfl Try.underlying23 Try.underlying5 Try.underlying9 rfl O70 ?_)
 obtain ⟨y75, hy75, hr⟩ := bind_some hr
 refine SeqW.consX rfl (kAddS (s := y61) (r := ([y67] : List UInt8)) rfl rfl rfl hy75 ?_)
 refine sx rfl (pAssign (v := (str y75)) rfl rfl) ?_
 refine SeqW.done fun fr76 hf77 => ?_
 have h0 := (congrFun hf77 0).trans h0
 have h4 : fr76 4 = (str y75) := (congrFun hf77 4).trans rfl
 clear hf77
 refine thenQ.n ?_
 refine W.ret ?_
 obtain rfl := Option.some.inj hr
 exact ⟨z4, hz, st, .inr rfl, V9, h4, Q10, bx0n, trivial⟩

theorem c_Maker_Number {N : Nat} {z : Nat → Blk} {m : Mem} {x0 : Maker} {x1 : Int} {v0_0 : Value} {b0 : Nat} (fz : Fz z m) (hd : ∀ b, m.next ≤ b → m.blk b = .dead) (s0_0 : SlR (TInt 3 .i64) z x0.l v0_0) (bx0 : Bx z m m (some b0) b0 [v0_0, (vI x0.n)] 53) {r : List UInt8 × Maker} (hr : Maker_Number N x0 x1 = some r) : CallW Try.prog 33 #[(vP b0), (vI x1)] m fun v m' => ∃ z' wr_0, Zx m.next z z' ∧ Fz z' m' ∧ Same m m' (some b0) ∧ v = (str r.1) ∧ SlR (TInt 3 .i64) z' r.2.l wr_0 ∧ Bx z' m m' (some b0) b0 [wr_0, (vI r.2.n)] 53 ∧ True := by
 refine CallW.any Try.func33 rfl (by kernel_rfl) (Nat.le_of_ble_eq_true rfl) (fun fr hf => ?_)
 have h0 : fr 0 = _ := hf 0 _ rfl
 have h1 : fr 1 = _ := hf 1 _ rfl
 refine (u_Maker_Number (k := (some b0)) (Zx.refl _) (St.start fz hd) h0 s0_0 bx0 h1 hr).mono ?_
 rintro ex fr' m' ⟨z', hz, st, he, wr_0, h4, sr_0, bxr, -⟩
 exact ⟨he, [(str r.1)], ⟨h4.symm, trivial⟩, .inl rfl, z', wr_0, hz, st.fz, st.toSame, rfl, sr_0, bxr, trivial⟩

/-! ### (*humpyard/humpgen.Maker).Pick -/

theorem u_Maker_Pick {N : Nat}  {z0 z : Nat → Blk} {e m : Mem} {k : Option Nat} {fr : Nat → Value} {x0 : Maker} {x1 : List Int} {v0_0 : Value} {b0 : Nat} {v1 : Value} (hz : Zx e.next z0 z) (st : St z e m k) (h0 : fr 0 = (vP b0)) (s0_0 : SlR (TInt 3 .i64) z x0.l v0_0) (bx0 : Bx z e m k b0 [v0_0, (vI x0.n)] 53) (h1 : fr 1 = v1) (s1 : SlR (TInt 3 .i64) z x1 v1) {r : Int × Maker} (hr : Maker_Pick N x0 x1 = some r) : W Try.prog (sub (bodyOf Try.f34) []) (fun ex fr' m' => ∃ z', Zx e.next z0 z' ∧ St z' e m' k ∧ (ex = .normal ∨ ex = .ret) ∧ ∃ (wr_0 : Value), fr' 4 = (vI r.1) ∧ SlR (TInt 3 .i64) z' r.2.l wr_0 ∧ Bx z' e m' k b0 [wr_0, (vI r.2.n)] 53 ∧ True) fr m := by
 unfold Maker_Pick at hr
 refine W.seq (W.region ?_)
 refine sx rfl (pAssign (v := (vI 0)) rfl rfl) ?_
 refine SeqW.done fun fr1 hf2 => ?_
 have h0 := (congrFun hf2 0).trans h0
 have h1 := (congrFun hf2 1).trans h1
 clear hf2
 refine thenQ.n (W.seq (W.region ?_))
 refine sx rfl (pMove (v := v1) rfl h1) ?_
 refine sx rfl (pMove (v := (vP b0)) rfl h0) ?_
 refine sx rfl (pMove (v := v1) rfl h1) ?_
 refine sx rfl (pLenR (xs := x1) rfl Try.underlying22 rfl s1) ?_
 obtain ⟨y3, hy3, hr⟩ := bind_some hr
 refine SeqW.consX rfl (StepX.call (gCallee rfl rfl (args2 rfl rfl)) ((c_Maker_Next (x0 := x0) (z := z) st.fz st.dead s0_0 ⟨bx0.blk, bx0.lt, bx0.dead, .inr rfl⟩ hy3).mono ?_))
 rintro _ m8 ⟨z4, V9, hzx5, fz6, sm7, rfl, Q10, X12, -⟩
 replace s0_0 := s0_0.mono hzx5.le
 replace s1 := s1.mono hzx5.le
 have bx0n : Bx z4 e m8 k b0 _ _ := ⟨X12.blk, X12.lt, X12.dead, bx0.fresh⟩
 replace hz := hz.trans (Zx.here st hzx5)
 replace st := st.call hzx5 fz6 sm7 bx0.hq
 obtain ⟨y13, hy13, hr⟩ := bind_some hr
 refine SeqW.consX rfl (kIdxR (T := (TInt 3 .i64)) (xs := x1) (n := y3.1) rfl Try.underlying22 Try.type3 rfl rfl rfl s1 hy13 ?_)
 intro B14 f15 cs16 hd17 hc18
 obtain rfl := hd17
 refine SeqW.consX rfl (kLoad (v := (vI y13)) rfl Try.underlying3 rfl rfl (ldz_load st.fz (hc18 0 _ rfl)) ?_)
 refine sx rfl (pAssign (v := (vI y13)) rfl rfl) ?_
 refine SeqW.done fun fr19 hf20 => ?_
 have h0 := (congrFun hf20 0).trans h0
 have h4 : fr19 4 = (vI y13) := (congrFun hf20 4).trans rfl
 clear hf20
 refine thenQ.n ?_
 refine W.ret ?_
 obtain rfl := Option.some.inj hr
 exact ⟨z4, hz, st, .inr rfl, V9, h4, Q10, bx0n, trivial⟩

theorem c_Maker_Pick {N : Nat} {z : Nat → Blk} {m : Mem} {x0 : Maker} {x1 : List Int} {v0_0 : Value} {b0 : Nat} {v1 : Value} (fz : Fz z m) (hd : ∀ b, m.next ≤ b → m.blk b = .dead) (s0_0 : SlR (TInt 3 .i64) z x0.l v0_0) (bx0 : Bx z m m (some b0) b0 [v0_0, (vI x0.n)] 53) (s1 : SlR (TInt 3 .i64) z x1 v1) {r : Int × Maker} (hr : Maker_Pick N x0 x1 = some r) : CallW Try.prog 34 #[(vP b0), v1] m fun v m' => ∃ z' wr_0, Zx m.next z z' ∧ Fz z' m' ∧ Same m m' (some b0) ∧ v = (vI r.1) ∧ SlR (TInt 3 .i64) z' r.2.l wr_0 ∧ Bx z' m m' (some b0) b0 [wr_0, (vI r.2.n)] 53 ∧ True := by
 refine CallW.any Try.func34 rfl (by kernel_rfl) (Nat.le_of_ble_eq_true rfl) (fun fr hf => ?_)
 have h0 : fr 0 = _ := hf 0 _ rfl
 have h1 : fr 1 = _ := hf 1 _ rfl
 refine (u_Maker_Pick (k := (some b0)) (Zx.refl _) (St.start fz hd) h0 s0_0 bx0 h1 s1 hr).mono ?_
 rintro ex fr' m' ⟨z', hz, st, he, wr_0, h4, sr_0, bxr, -⟩
 exact ⟨he, [(vI r.1)], ⟨h4.symm, trivial⟩, .inl rfl, z', wr_0, hz, st.fz, st.toSame, rfl, sr_0, bxr, trivial⟩

/-! ### (*humpyard/humpgen.Maker).Name -/

theorem u_Maker_Name {N : Nat}  {z0 z : Nat → Blk} {e m : Mem} {k : Option Nat} {fr : Nat → Value} {x0 : Maker} {v0_0 : Value} {b0 : Nat} (hz : Zx e.next z0 z) (st : St z e m k) (h0 : fr 0 = (vP b0)) (s0_0 : SlR (TInt 3 .i64) z x0.l v0_0) (bx0 : Bx z e m k b0 [v0_0, (vI x0.n)] 53) {r : List UInt8 × Maker} (hr : Maker_Name N x0 = some r) : W Try.prog (sub (bodyOf Try.f35) []) (fun ex fr' m' => ∃ z', Zx e.next z0 z' ∧ St z' e m' k ∧ (ex = .normal ∨ ex = .ret) ∧ ∃ (wr_0 : Value), fr' 2 = (str r.1) ∧ SlR (TInt 3 .i64) z' r.2.l wr_0 ∧ Bx z' e m' k b0 [wr_0, (vI r.2.n)] 53 ∧ True) fr m := by
 unfold Maker_Name at hr
 refine W.seq (W.region ?_)
 refine sx rfl (pAssign (v := (str [])) rfl rfl) ?_
 refine SeqW.done fun fr1 hf2 => ?_
 have h0 := (congrFun hf2 0).trans h0
 clear hf2
 refine thenQ.n (W.seq (W.region ?_))
 refine SeqW.consX rfl (kBuild (T := (TStr 9)) rfl Try.underlying69 Try.type9 rfl rfl rfl rfl ([[97], [98], [99], [100], [101], [110, 111, 114, 116, 104], [115, 111, 117, 116, 104], [112, 111, 114, 116, 49], [120, 57], [97, 98, 99, 100, 101, 102, 103, 104, 105, 106, 107, 108]] : List (List UInt8)) [[(str [97])], [(str [98])], [(str [99])], [(str [100])], [(str [101])], [(str [110, 111, 114, 116, 104])], [(str [115, 111, 117, 116, 104])], [(str [112, 111, 114, 116, 49])], [(str [120, 57])], [(str [97, 98, 99, 100, 101, 102, 103, 104, 105, 106, 107, 108])]] rfl rfl rfl (BuildOk.mk (w := (str [97])) rfl rfl rfl rfl (BuildOk.mk (w := (str [98])) rfl rfl rfl rfl (BuildOk.mk (w := (str [99])) rfl rfl rfl rfl (BuildOk.mk (w := (str [100])) rfl rfl rfl rfl (BuildOk.mk (w := (str [101])) rfl rfl rfl rfl (BuildOk.mk (w := (str [110, 111, 114, 116, 104])) rfl rfl rfl rfl (BuildOk.mk (w := (str [115, 111, 117, 116, 104])) rfl rfl rfl rfl (BuildOk.mk (w := (str [112, 111, 114, 116, 49])) rfl rfl rfl rfl (BuildOk.mk (w := (str [120, 57])) rfl rfl rfl rfl (BuildOk.mk (w := (str [97, 98, 99, 100, 101, 102, 103, 104, 105, 106, 107, 108])) rfl rfl rfl rfl trivial)))))))))) st ?_)
 intro V3 m4 st O5 sm6 hap7
 have A9 := hap7 _ bx0.lt'
 replace bx0 := bx0.same sm6 Ap.none'
 refine sx rfl (pMove (v := (vP b0)) rfl h0) ?_
 obtain ⟨y10, hy10, hr⟩ := bind_some hr
 refine SeqW.consX rfl (StepX.call (gCallee rfl rfl (args2 rfl rfl)) ((c_Maker_Next (x0 := x0) (z := z) st.fz st.dead s0_0 ⟨bx0.blk, bx0.lt, bx0.dead, .inr rfl⟩ hy10).mono ?_))
 rintro _ m15 ⟨z11, V16, hzx12, fz13, sm14, rfl, Q17, X19, -⟩
 replace s0_0 := s0_0.mono hzx12.le
 replace O5 := O5.call hzx12 sm14 (Ap.symm A9)
 have bx0n : Bx z11 e m15 k b0 _ _ := ⟨X19.blk, X19.lt, X19.dead, bx0.fresh⟩
 replace hz := hz.trans (Zx.here st hzx12)
 replace st := st.call hzx12 fz13 sm14 bx0.hq
 obtain ⟨y20, hy20, hr⟩ := bind_some hr
 refine SeqW.consX rfl (kIdxO (T := (TStr 9)) (xs := ([[97], [98], [99], [100], [101], [110, 111, 114, 116, 104], [115, 111, 117, 116, 104], [112, 111, 114, 116, 49], [120, 57], [97, 98, 99, 100, 101, 102, 103, 104, 105, 106, 107, 108]] : List (List UInt8))) (n := y10.1) rfl Try.underlying69 Try.type9 rfl rfl rfl O5 hy20 ?_)
 intro B21 l22 c23 cs24 hv25 hd26 hg27 hc28
 have hd260 := hd26
 obtain rfl := hd260
 refine SeqW.consX rfl (kLoad (v := (str y20)) rfl Try.underlying9 rfl rfl (hc28 0 _ rfl) ?_)
 refine sx rfl (pAssign (v := (str y20)) rfl rfl) ?_
 refine SeqW.done fun fr29 hf30 => ?_
 have h0 := (congrFun hf30 0).trans h0
 have h2 : fr29 2 = (str y20) := (congrFun hf30 2).trans rfl
 clear hf30
 refine thenQ.n ?_
 refine W.ret ?_
 obtain rfl := Option.some.inj hr
 exact ⟨z11, hz, st, .inr rfl, V16, h2, Q17, bx0n, trivial⟩

theorem c_Maker_Name {N : Nat} {z : Nat → Blk} {m : Mem} {x0 : Maker} {v0_0 : Value} {b0 : Nat} (fz : Fz z m) (hd : ∀ b, m.next ≤ b → m.blk b = .dead) (s0_0 : SlR (TInt 3 .i64) z x0.l v0_0) (bx0 : Bx z m m (some b0) b0 [v0_0, (vI x0.n)] 53) {r : List UInt8 × Maker} (hr : Maker_Name N x0 = some r) : CallW Try.prog 35 #[(vP b0)] m fun v m' => ∃ z' wr_0, Zx m.next z z' ∧ Fz z' m' ∧ Same m m' (some b0) ∧ v = (str r.1) ∧ SlR (TInt 3 .i64) z' r.2.l wr_0 ∧ Bx z' m m' (some b0) b0 [wr_0, (vI r.2.n)] 53 ∧ True := by
 refine CallW.any Try.func35 rfl (by kernel_rfl) (Nat.le_of_ble_eq_true rfl) (fun fr hf => ?_)
 have h0 : fr 0 = _ := hf 0 _ rfl
 refine (u_Maker_Name (k := (some b0)) (Zx.refl _) (St.start fz hd) h0 s0_0 bx0 hr).mono ?_
 rintro ex fr' m' ⟨z', hz, st, he, wr_0, h2, sr_0, bxr, -⟩
 exact ⟨he, [(str r.1)], ⟨h2.symm, trivial⟩, .inl rfl, z', wr_0, hz, st.fz, st.toSame, rfl, sr_0, bxr, trivial⟩

/-! ### (*humpyard/humpgen.Maker).Wagon -/

theorem u_Maker_Wagon_1 {N : Nat}  {z0 z : Nat → Blk} {e m : Mem} {k : Option Nat} {fr : Nat → Value} {x26 : Int} {x27 : Bool} {x0 : Maker} {v0_0 : Value} {b0 : Nat} {x4 : Wagon} {b4 : Nat} {x5 : Wagon} {b5 : Nat} (hz : Zx e.next z0 z) (st : St z e m k) (h0 : fr 0 = (vP b0)) (s0_0 : SlR (TInt 3 .i64) z x0.l v0_0) (bx0 : Bx z e m k b0 [v0_0, (vI x0.n)] 53) (h4 : fr 4 = (vP b4)) (bx4 : Bx z e m k b4 [(str x4.number), (vI x4.length), (vI x4.axles), (vI x4.mass), (vI x4.brake), (vI x4.goods), (vB x4.gentle), (str x4.dest)] 42) (h5 : fr 5 = (vP b5)) (bx5 : Bx z e m k b5 [(str x5.number), (vI x5.length), (vI x5.axles), (vI x5.mass), (vI x5.brake), (vI x5.goods), (vB x5.gentle), (str x5.dest)] 42) (h26 : fr 26 = (Value.int .u8 x26)) (h27 : fr 27 = (vB x27)) (ao0_o4 : Ap (some b0) (some b4)) (ao0_o5 : Ap (some b0) (some b5)) (ao4_o5 : Ap (some b4) (some b5)) {r : Bool} (hr : Maker_Wagon_1 N x26 x27 = some r) : W Try.prog (sub (bodyOf Try.f18) [1, 1, 0, 1, 0, 0, 1]) (fun ex fr' m' => ∃ z', Zx e.next z0 z' ∧ St z' e m' k ∧ ex = AExit.normal ∧ fr' 27 = (vB r) ∧ Bx z' e m' k b0 [v0_0, (vI x0.n)] 53 ∧ Bx z' e m' k b4 [(str x4.number), (vI x4.length), (vI x4.axles), (vI x4.mass), (vI x4.brake), (vI x4.goods), (vB x4.gentle), (str x4.dest)] 42 ∧ Bx z' e m' k b5 [(str x5.number), (vI x5.length), (vI x5.axles), (vI x5.mass), (vI x5.brake), (vI x5.goods), (vB x5.gentle), (str x5.dest)] 42 ∧ Ap (some b0) (some b4) ∧ Ap (some b0) (some b5) ∧ Ap (some b4) (some b5) ∧ True) fr m := by
 unfold Maker_Wagon_1 at hr
 rcases if_some hr with ⟨hc124, hr⟩ | ⟨hc125, hr⟩
 ·refine W.condT h27 hc124 (W.skip ?_)
  obtain rfl := Option.some.inj hr
  exact ⟨z, hz, st, rfl, h27, bx0, bx4, bx5, ao0_o4, ao0_o5, ao4_o5, trivial⟩
 ·refine W.condF h27 hc125 (W.region ?_)
  refine sx rfl (pEql (k := .u8) (a := x26) (b := 52) rfl h26 rfl) ?_
  obtain ⟨y126, hy126, hr⟩ := lt_some hr
  refine sx rfl (pAssign rfl (congrArg vB hy126)) ?_
  refine SeqW.done fun fr127 hf128 => ?_
  have h0 := (congrFun hf128 0).trans h0
  have h4 := (congrFun hf128 4).trans h4
  have h5 := (congrFun hf128 5).trans h5
  have h26 := (congrFun hf128 26).trans h26
  have h27 : fr127 27 = (vB y126) := (congrFun hf128 27).trans rfl
  clear hf128
  obtain rfl := Option.some.inj hr
  exact ⟨z, hz, st, rfl, h27, bx0, bx4, bx5, ao0_o4, ao0_o5, ao4_o5, trivial⟩

theorem u_Maker_Wagon_0 {N : Nat}  {z0 z : Nat → Blk} {e m : Mem} {k : Option Nat} {fr : Nat → Value} {x5 : Wagon} {x26 : Int} {x0 : Maker} {v0_0 : Value} {b0 : Nat} {x4 : Wagon} {b4 : Nat} {b5 : Nat} (hz : Zx e.next z0 z) (st : St z e m k) (h0 : fr 0 = (vP b0)) (s0_0 : SlR (TInt 3 .i64) z x0.l v0_0) (bx0 : Bx z e m k b0 [v0_0, (vI x0.n)] 53) (h4 : fr 4 = (vP b4)) (bx4 : Bx z e m k b4 [(str x4.number), (vI x4.length), (vI x4.axles), (vI x4.mass), (vI x4.brake), (vI x4.goods), (vB x4.gentle), (str x4.dest)] 42) (h5 : fr 5 = (vP b5)) (bx5 : Bx z e m k b5 [(str x5.number), (vI x5.length), (vI x5.axles), (vI x5.mass), (vI x5.brake), (vI x5.goods), (vB x5.gentle), (str x5.dest)] 42) (h26 : fr 26 = (Value.int .u8 x26)) (ao0_o4 : Ap (some b0) (some b4)) (ao0_o5 : Ap (some b0) (some b5)) (ao4_o5 : Ap (some b4) (some b5)) {r : Wagon} (hr : Maker_Wagon_0 N x5 x26 = some r) : W Try.prog (sub (bodyOf Try.f18) [1, 1, 0, 1]) (fun ex fr' m' => ∃ z', Zx e.next z0 z' ∧ St z' e m' k ∧ ex = AExit.normal ∧ fr' 5 = (vP b5) ∧ Bx z' e m' k b5 [(str r.number), (vI r.length), (vI r.axles), (vI r.mass), (vI r.brake), (vI r.goods), (vB r.gentle), (str r.dest)] 42 ∧ Bx z' e m' k b0 [v0_0, (vI x0.n)] 53 ∧ Bx z' e m' k b4 [(str x4.number), (vI x4.length), (vI x4.axles), (vI x4.mass), (vI x4.brake), (vI x4.goods), (vB x4.gentle), (str x4.dest)] 42 ∧ Ap (some b5) (some b0) ∧ Ap (some b5) (some b4) ∧ Ap (some b0) (some b4) ∧ True) fr m := by
 unfold Maker_Wagon_0 at hr
 refine W.block ?_
 refine W.seq (W.seq (W.region ?_))
 refine sx rfl (pEql (k := .u8) (a := x26) (b := 50) rfl h26 rfl) ?_
 obtain ⟨y121, hy121, hr⟩ := lt_some hr
 refine sx rfl (pAssign rfl (congrArg vB hy121)) ?_
 refine SeqW.done fun fr122 hf123 => ?_
 have h0 := (congrFun hf123 0).trans h0
 have h4 := (congrFun hf123 4).trans h4
 have h5 := (congrFun hf123 5).trans h5
 have h26 := (congrFun hf123 26).trans h26
 have h27 : fr122 27 = (vB y121) := (congrFun hf123 27).trans rfl
 clear hf123
 refine thenQ.n ?_
 obtain ⟨y129, hy129, hr⟩ := bind_some hr
 refine W.keep (u_Maker_Wagon_1 (x0 := x0) (x4 := x4) (x5 := x5) (Zx.refl _) st h0 s0_0 bx0 h4 bx4 h5 bx5 h26 h27 ao0_o4 ao0_o5 ao4_o5 hy129) ?_
 rintro ex135 fr130 m131 hk133 ⟨z132, hz134, st, rfl, h27, O136, O137, O138, A139, A140, A141, -⟩
 replace s0_0 := s0_0.mono hz134.le
 have h0 := (hk133 0 rfl).trans h0
 have h4 := (hk133 4 rfl).trans h4
 have h5 := (hk133 5 rfl).trans h5
 have h26 := (hk133 26 rfl).trans h26
 replace hz := hz.trans hz134
 clear hk133
 refine thenQ.n ?_
 rcases if_some hr with ⟨hc142, hr⟩ | ⟨hc147, hr⟩
 ·refine W.condT h27 hc142 (W.region ?_)
  refine SeqW.consX rfl (kField rfl Try.underlying42 rfl Try.type3 rfl h5 rfl ?_)
  refine SeqW.consX rfl (kPut (off := 2) (w := (vI 2)) (new := [(vI 2)]) rfl Try.type3 rfl rfl rfl rfl rfl O138 rfl [(str x5.number), (vI x5.length), (vI 2), (vI x5.mass), (vI x5.brake), (vI x5.goods), (vB x5.gentle), (str x5.dest)] rfl st ?_)
  intro m143 st O138 sm144
  replace O136 := O136.same sm144 A140
  replace O137 := O137.same sm144 A141
  refine SeqW.done fun fr145 hf146 => ?_
  have h0 := (congrFun hf146 0).trans h0
  have h4 := (congrFun hf146 4).trans h4
  have h5 := (congrFun hf146 5).trans h5
  clear hf146
  refine blockQ.n ?_
  obtain rfl := Option.some.inj hr
  exact ⟨z132, hz, st, rfl, h5, O138, O136, O137, (Ap.symm A140), (Ap.symm A141), A139, trivial⟩
 ·refine W.condF h27 hc147 (W.seq (W.region ?_))
  refine sx rfl (pEql (k := .u8) (a := x26) (b := 57) rfl h26 rfl) ?_
  obtain ⟨y148, hy148, hr⟩ := lt_some hr
  refine sx rfl (pAssign rfl (congrArg vB hy148)) ?_
  refine SeqW.done fun fr149 hf150 => ?_
  have h0 := (congrFun hf150 0).trans h0
  have h4 := (congrFun hf150 4).trans h4
  have h5 := (congrFun hf150 5).trans h5
  have h31 : fr149 31 = (vB y148) := (congrFun hf150 31).trans rfl
  clear hf150
  refine thenQ.n ?_
  rcases if_some hr with ⟨hc151, hr⟩ | ⟨hc160, hr⟩
  ·refine W.condT h31 hc151 (W.seq (W.region ?_))
   refine SeqW.consX rfl (kField rfl Try.underlying42 rfl Try.type3 rfl h5 rfl ?_)
   refine SeqW.consX rfl (kPut (off := 2) (w := (vI 6)) (new := [(vI 6)]) rfl Try.type3 rfl rfl rfl rfl rfl O138 rfl [(str x5.number), (vI x5.length), (vI 6), (vI x5.mass), (vI x5.brake), (vI x5.goods), (vB x5.gentle), (str x5.dest)] rfl st ?_)
   intro m152 st O138 sm153
   replace O136 := O136.same sm153 A140
   replace O137 := O137.same sm153 A141
   refine SeqW.done fun fr154 hf155 => ?_
   have h0 := (congrFun hf155 0).trans h0
   have h4 := (congrFun hf155 4).trans h4
   have h5 := (congrFun hf155 5).trans h5
   clear hf155
   refine thenQ.n (W.region ?_)
   refine SeqW.consX rfl (kField rfl Try.underlying42 rfl Try.type3 rfl h5 rfl ?_)
   refine SeqW.consX rfl (kLoad rfl Try.underlying3 rfl rfl (O138.load (v := (vI x5.length)) rfl) ?_)
   refine sx rfl (pMax2 (k := .i64) (a := x5.length) (b := 120) rfl rfl rfl) ?_
   refine SeqW.consX rfl (kField rfl Try.underlying42 rfl Try.type3 rfl h5 rfl ?_)
   refine SeqW.consX rfl (kPut (off := 1) (w := (vI (max x5.length 120))) (new := [(vI (max x5.length 120))]) rfl Try.type3 rfl rfl rfl rfl rfl O138 rfl [(str x5.number), (vI (max x5.length 120)), (vI 6), (vI x5.mass), (vI x5.brake), (vI x5.goods), (vB x5.gentle), (str x5.dest)] rfl st ?_)
   intro m156 st O138 sm157
   replace O136 := O136.same sm157 A140
   replace O137 := O137.same sm157 A141
   refine SeqW.done fun fr158 hf159 => ?_
   have h0 := (congrFun hf159 0).trans h0
   have h4 := (congrFun hf159 4).trans h4
   have h5 := (congrFun hf159 5).trans h5
   clear hf159
   refine blockQ.n ?_
   obtain rfl := Option.some.inj hr
   exact ⟨z132, hz, st, rfl, h5, O138, O136, O137, (Ap.symm A140), (Ap.symm A141), A139, trivial⟩
  ·refine W.condF h31 hc160 (W.skip ?_)
   refine blockQ.n ?_
   obtain rfl := Option.some.inj hr
   exact ⟨z132, hz, st, rfl, h5, O138, O136, O137, (Ap.symm A140), (Ap.symm A141), A139, trivial⟩

theorem u_Maker_Wagon {N : Nat}  {z0 z : Nat → Blk} {e m : Mem} {k : Option Nat} {fr : Nat → Value} {x0 : Maker} {x1 : Int} {v0_0 : Value} {b0 : Nat} (hz : Zx e.next z0 z) (st : St z e m k) (h0 : fr 0 = (vP b0)) (s0_0 : SlR (TInt 3 .i64) z x0.l v0_0) (bx0 : Bx z e m k b0 [v0_0, (vI x0.n)] 53) (h1 : fr 1 = (vI x1)) {r : Wagon × Maker} (hr : Maker_Wagon N x0 x1 = some r) : W Try.prog (sub (bodyOf Try.f18) []) (fun ex fr' m' => ∃ z', Zx e.next z0 z' ∧ St z' e m' k ∧ (ex = .normal ∨ ex = .ret) ∧ ∃ (c4 : Nat) (wr_0 : Value), fr' 4 = (vP c4) ∧ Bx z' e m' k c4 [(str r.1.number), (vI r.1.length), (vI r.1.axles), (vI r.1.mass), (vI r.1.brake), (vI r.1.goods), (vB r.1.gentle), (str r.1.dest)] 42 ∧ (e.next ≤ c4 ∨ k = some c4) ∧ SlR (TInt 3 .i64) z' r.2.l wr_0 ∧ Bx z' e m' k b0 [wr_0, (vI r.2.n)] 53 ∧ True) fr m := by
 unfold Maker_Wagon at hr
 refine W.seq (W.region ?_)
 refine SeqW.consX rfl (kAlloc rfl Try.type42 rfl rfl rfl [(str []), (vI 0), (vI 0), (vI 0), (vI 0), (vI 0), (vB false), (str [])] rfl st ?_)
 intro B1 m2 st X3 sm4 hap5
 have A7 := hap5 _ bx0.lt'
 replace bx0 := bx0.same sm4 Ap.none'
 refine SeqW.done fun fr8 hf9 => ?_
 have h0 := (congrFun hf9 0).trans h0
 have h1 := (congrFun hf9 1).trans h1
 have h4 : fr8 4 = (vP B1) := (congrFun hf9 4).trans rfl
 clear hf9
 refine thenQ.n (W.seq (W.region ?_))
 refine sx rfl (pMove (v := (vP b0)) rfl h0) ?_
 refine sx rfl (pMove (v := (vI x1)) rfl h1) ?_
 obtain ⟨y10, hy10, hr⟩ := bind_some hr
 refine SeqW.consX rfl (StepX.call (gCallee rfl rfl (args2 rfl rfl)) ((c_Maker_Number (x0 := x0) (z := z) st.fz st.dead s0_0 ⟨bx0.blk, bx0.lt, bx0.dead, .inr rfl⟩ hy10).mono ?_))
 rintro _ m15 ⟨z11, V16, hzx12, fz13, sm14, rfl, Q17, X19, -⟩
 replace s0_0 := s0_0.mono hzx12.le
 replace X3 := X3.call hzx12 sm14 (Ap.symm A7)
 have bx0n : Bx z11 e m15 k b0 _ _ := ⟨X19.blk, X19.lt, X19.dead, bx0.fresh⟩
 replace hz := hz.trans (Zx.here st hzx12)
 replace st := st.call hzx12 fz13 sm14 bx0.hq
 refine sx rfl (pMove (v := (vP b0)) rfl h0) ?_
 refine SeqW.consX rfl (kBuild (T := (TInt 3 .i64)) rfl Try.underlying22 Try.type3 rfl rfl rfl rfl ([80, 120, 142, 199, 262, 400] : List Int) [[(vI 80)], [(vI 120)], [(vI 142)], [(vI 199)], [(vI 262)], [(vI 400)]] rfl rfl rfl (BuildOk.mk (w := (vI 80)) rfl rfl rfl rfl (BuildOk.mk (w := (vI 120)) rfl rfl rfl rfl (BuildOk.mk (w := (vI 142)) rfl rfl rfl rfl (BuildOk.mk (w := (vI 199)) rfl rfl rfl rfl (BuildOk.mk (w := (vI 262)) rfl rfl rfl rfl (BuildOk.mk (w := (vI 400)) rfl rfl rfl rfl trivial)))))) st ?_)
 intro V20 m21 st O22 sm23 hap24
 have A26 := hap24 _ bx0n.lt'
 have A27 := hap24 _ X3.lt'
 replace bx0n := bx0n.same sm23 Ap.none'
 replace X3 := X3.same sm23 Ap.none'
 obtain ⟨z28, hz29, st, Q30, hl31⟩ := O22.freeze st
 replace bx0n := bx0n.zle (hl31 _ A26)
 replace X3 := X3.zle (hl31 _ A27)
 replace Q17 := Q17.mono hz29.le
 replace hz := hz.trans hz29
 obtain ⟨y32, hy32, hr⟩ := bind_some hr
 refine SeqW.consX rfl (StepX.call (gCallee rfl rfl (args2 rfl rfl)) ((c_Maker_Pick (x0 := y10.2) (z := z28) st.fz st.dead Q17 ⟨bx0n.blk, bx0n.lt, bx0n.dead, .inr rfl⟩ Q30 hy32).mono ?_))
 rintro _ m37 ⟨z33, V38, hzx34, fz35, sm36, rfl, Q39, X41, -⟩
 replace X3 := X3.call hzx34 sm36 (Ap.symm A7)
 replace Q17 := Q17.mono hzx34.le
 replace Q30 := Q30.mono hzx34.le
 have bx0nn : Bx z33 e m37 k b0 _ _ := ⟨X41.blk, X41.lt, X41.dead, bx0n.fresh⟩
 replace hz := hz.trans (Zx.here st hzx34)
 replace st := st.call hzx34 fz35 sm36 bx0n.hq
 refine sx rfl (pMove (v := (vP b0)) rfl h0) ?_
 refine SeqW.consX rfl (kBuild (T := (TInt 3 .i64)) rfl Try.underlying22 Try.type3 rfl rfl rfl rfl ([50, 120, 400, 800, 2000] : List Int) [[(vI 50)], [(vI 120)], [(vI 400)], [(vI 800)], [(vI 2000)]] rfl rfl rfl (BuildOk.mk (w := (vI 50)) rfl rfl rfl rfl (BuildOk.mk (w := (vI 120)) rfl rfl rfl rfl (BuildOk.mk (w := (vI 400)) rfl rfl rfl rfl (BuildOk.mk (w := (vI 800)) rfl rfl rfl rfl (BuildOk.mk (w := (vI 2000)) rfl rfl rfl rfl trivial))))) st ?_)
 intro V42 m43 st O44 sm45 hap46
 have A48 := hap46 _ bx0nn.lt'
 have A49 := hap46 _ X3.lt'
 replace bx0nn := bx0nn.same sm45 Ap.none'
 replace X3 := X3.same sm45 Ap.none'
 obtain ⟨z50, hz51, st, Q52, hl53⟩ := O44.freeze st
 replace bx0nn := bx0nn.zle (hl53 _ A48)
 replace X3 := X3.zle (hl53 _ A49)
 replace Q39 := Q39.mono hz51.le
 replace hz := hz.trans hz51
 obtain ⟨y54, hy54, hr⟩ := bind_some hr
 refine SeqW.consX rfl (StepX.call (gCallee rfl rfl (args2 rfl rfl)) ((c_Maker_Pick (x0 := y32.2) (z := z50) st.fz st.dead Q39 ⟨bx0nn.blk, bx0nn.lt, bx0nn.dead, .inr rfl⟩ Q52 hy54).mono ?_))
 rintro _ m59 ⟨z55, V60, hzx56, fz57, sm58, rfl, Q61, X63, -⟩
 replace X3 := X3.call hzx56 sm58 (Ap.symm A7)
 replace Q39 := Q39.mono hzx56.le
 replace Q52 := Q52.mono hzx56.le
 have bx0nnn : Bx z55 e m59 k b0 _ _ := ⟨X63.blk, X63.lt, X63.dead, bx0nn.fresh⟩
 replace hz := hz.trans (Zx.here st hzx56)
 replace st := st.call hzx56 fz57 sm58 bx0nn.hq
 refine sx rfl (pMove (v := (vP b0)) rfl h0) ?_
 refine SeqW.consX rfl (kBuild (T := (TInt 3 .i64)) rfl Try.underlying22 Try.type3 rfl rfl rfl rfl ([0, 0, 0, 1, 3, 9] : List Int) [[(vI 0)], [(vI 0)], [(vI 0)], [(vI 1)], [(vI 3)], [(vI 9)]] rfl rfl rfl (BuildOk.mk (w := (vI 0)) rfl rfl rfl rfl (BuildOk.mk (w := (vI 0)) rfl rfl rfl rfl (BuildOk.mk (w := (vI 0)) rfl rfl rfl rfl (BuildOk.mk (w := (vI 1)) rfl rfl rfl rfl (BuildOk.mk (w := (vI 3)) rfl rfl rfl rfl (BuildOk.mk (w := (vI 9)) rfl rfl rfl rfl trivial)))))) st ?_)
 intro V64 m65 st O66 sm67 hap68
 have A70 := hap68 _ bx0nnn.lt'
 have A71 := hap68 _ X3.lt'
 replace bx0nnn := bx0nnn.same sm67 Ap.none'
 replace X3 := X3.same sm67 Ap.none'
 obtain ⟨z72, hz73, st, Q74, hl75⟩ := O66.freeze st
 replace bx0nnn := bx0nnn.zle (hl75 _ A70)
 replace X3 := X3.zle (hl75 _ A71)
 replace Q61 := Q61.mono hz73.le
 replace hz := hz.trans hz73
 obtain ⟨y76, hy76, hr⟩ := bind_some hr
 refine SeqW.consX rfl (StepX.call (gCallee rfl rfl (args2 rfl rfl)) ((c_Maker_Pick (x0 := y54.2) (z := z72) st.fz st.dead Q61 ⟨bx0nnn.blk, bx0nnn.lt, bx0nnn.dead, .inr rfl⟩ Q74 hy76).mono ?_))
 rintro _ m81 ⟨z77, V82, hzx78, fz79, sm80, rfl, Q83, X85, -⟩
 replace X3 := X3.call hzx78 sm80 (Ap.symm A7)
 replace Q61 := Q61.mono hzx78.le
 replace Q74 := Q74.mono hzx78.le
 have bx0nnnn : Bx z77 e m81 k b0 _ _ := ⟨X85.blk, X85.lt, X85.dead, bx0nnn.fresh⟩
 replace hz := hz.trans (Zx.here st hzx78)
 replace st := st.call hzx78 fz79 sm80 bx0nnn.hq
 refine sx rfl (pMove (v := (vP b0)) rfl h0) ?_
 obtain ⟨y86, hy86, hr⟩ := bind_some hr
 refine SeqW.consX rfl (StepX.call (gCallee rfl rfl (args2 rfl rfl)) ((c_Maker_Next (x0 := y76.2) (z := z77) st.fz st.dead Q83 ⟨bx0nnnn.blk, bx0nnnn.lt, bx0nnnn.dead, .inr rfl⟩ hy86).mono ?_))
 rintro _ m91 ⟨z87, V92, hzx88, fz89, sm90, rfl, Q93, X95, -⟩
 replace X3 := X3.call hzx88 sm90 (Ap.symm A7)
 replace Q83 := Q83.mono hzx88.le
 have bx0nnnnn : Bx z87 e m91 k b0 _ _ := ⟨X95.blk, X95.lt, X95.dead, bx0nnnn.fresh⟩
 replace hz := hz.trans (Zx.here st hzx88)
 replace st := st.call hzx88 fz89 sm90 bx0nnnn.hq
 refine sx rfl (pEql (k := .i64) (a := y86.1) (b := 0) rfl rfl rfl) ?_
 refine sx rfl (pMove (v := (vP b0)) rfl h0) ?_
 obtain ⟨y96, hy96, hr⟩ := bind_some hr
 refine SeqW.consX rfl (StepX.call (gCallee rfl rfl (args1 rfl)) ((c_Maker_Name (x0 := y86.2) (z := z87) st.fz st.dead Q93 ⟨bx0nnnnn.blk, bx0nnnnn.lt, bx0nnnnn.dead, .inr rfl⟩ hy96).mono ?_))
 rintro _ m101 ⟨z97, V102, hzx98, fz99, sm100, rfl, Q103, X105, -⟩
 replace X3 := X3.call hzx98 sm100 (Ap.symm A7)
 replace Q93 := Q93.mono hzx98.le
 have bx0nnnnnn : Bx z97 e m101 k b0 _ _ := ⟨X105.blk, X105.lt, X105.dead, bx0nnnnn.fresh⟩
 replace hz := hz.trans (Zx.here st hzx98)
 replace st := st.call hzx98 fz99 sm100 bx0nnnnn.hq
 refine SeqW.consX rfl (kBuildS [(0, (str y10.1)), (2, (vI 4)), (1, (vI y32.1)), (3, (vI y54.1)), (5, (vI y76.1)), (6, (vB (y86.1 == 0))), (7, (str y96.1))] [(str y10.1), (vI y32.1), (vI 4), (vI y54.1), (vI 0), (vI y76.1), (vB (y86.1 == 0)), (str y96.1)] rfl Try.underlying42 Try.type42 rfl rfl (places42 Try.underlying42) rfl (rfl) rfl ?_)
 refine SeqW.consX rfl (kAlloc rfl Try.type42 rfl rfl rfl [(str []), (vI 0), (vI 0), (vI 0), (vI 0), (vI 0), (vB false), (str [])] rfl st ?_)
 intro B106 m107 st X108 sm109 hap110
 have A112 := hap110 _ bx0nnnnnn.lt'
 have A113 := hap110 _ X3.lt'
 replace bx0nnnnnn := bx0nnnnnn.same sm109 Ap.none'
 replace X3 := X3.same sm109 Ap.none'
 refine SeqW.consX rfl (kPut (off := 0) (w := (Value.agg [(str y10.1), (vI y32.1), (vI 4), (vI y54.1), (vI 0), (vI y76.1), (vB (y86.1 == 0)), (str y96.1)].toArray)) (new := [(str y10.1), (vI y32.1), (vI 4), (vI y54.1), (vI 0), (vI y76.1), (vB (y86.1 == 0)), (str y96.1)]) rfl Try.type42 rfl rfl rfl rfl rfl X108 rfl [(str y10.1), (vI y32.1), (vI 4), (vI y54.1), (vI 0), (vI y76.1), (vB (y86.1 == 0)), (str y96.1)] rfl st ?_)
 intro m114 st X108 sm115
 replace bx0nnnnnn := bx0nnnnnn.same sm115 A112
 replace X3 := X3.same sm115 A113
 refine SeqW.done fun fr116 hf117 => ?_
 have h0 := (congrFun hf117 0).trans h0
 have h4 := (congrFun hf117 4).trans h4
 have h5 : fr116 5 = (vP B106) := (congrFun hf117 5).trans rfl
 clear hf117
 refine thenQ.n (W.seq ?_)
 refine W.seq (W.region ?_)
 refine SeqW.consX rfl (kField rfl Try.underlying42 rfl Try.type9 rfl h5 rfl ?_)
 refine SeqW.consX rfl (kLoad rfl Try.underlying9 rfl rfl (X108.load (v := (str y10.1)) rfl) ?_)
 obtain ⟨y118, hy118, hr⟩ := bind_some hr
 refine SeqW.consX rfl (kIndexS (s := y10.1) (n := 4) rfl Try.underlying9 rfl rfl hy118 ?_)
 refine SeqW.done fun fr119 hf120 => ?_
 have h0 := (congrFun hf120 0).trans h0
 have h4 := (congrFun hf120 4).trans h4
 have h5 := (congrFun hf120 5).trans h5
 have h26 : fr119 26 = (Value.int .u8 (UInt8.toNat y118 : Int)) := (congrFun hf120 26).trans rfl
 clear hf120
 refine thenQ.n ?_
 obtain ⟨y161, hy161, hr⟩ := bind_some hr
 refine W.keep (u_Maker_Wagon_0 (x0 := y96.2) (x4 := (Wagon.mk [] 0 0 0 0 0 false [])) (x5 := (Wagon.mk y10.1 y32.1 4 y54.1 0 y76.1 (y86.1 == 0) y96.1)) (Zx.refl _) st h0 Q103 bx0nnnnnn h4 X3 h5 X108 h26 A7 A112 A113 hy161) ?_
 rintro ex167 fr162 m163 hk165 ⟨z164, hz166, st, rfl, h5, X169, O170, O171, A172, A173, A174, -⟩
 replace Q103 := Q103.mono hz166.le
 have h0 := (hk165 0 rfl).trans h0
 have h4 := (hk165 4 rfl).trans h4
 replace hz := hz.trans hz166
 clear hk165
 refine thenQ.n (W.seq ?_)
 refine W.draw ?_
 refine DrawW.cons rfl (kField rfl Try.underlying42 rfl Try.type3 rfl h5 rfl ?_)
 refine ⟨trivial, ?_⟩
 refine DrawW.cons rfl (kLoad rfl Try.underlying3 rfl rfl (X169.load (v := (vI y161.mass)) rfl) ?_)
 refine ⟨?_, ?_⟩
 ·exact demN
 refine DrawW.cons rfl (StepX.pure (pMove (v := (vP b0)) rfl h0) ?_)
 refine ⟨trivial, ?_⟩
 have sto175 := st
 have old176 := O170
 have old177 := O171
 have old178 := X169
 obtain ⟨y179, hy179, hr⟩ := bind_some hr
 refine DrawW.cons rfl (StepX.call (gCallee rfl rfl (args2 rfl rfl)) ((c_Maker_Next (x0 := y96.2) (z := z164) st.fz st.dead Q103 ⟨O170.blk, O170.lt, O170.dead, .inr rfl⟩ hy179).mono ?_))
 rintro _ m184 ⟨z180, V185, hzx181, fz182, sm183, rfl, Q186, X188, -⟩
 have sr189 := Q103
 replace O171 := O171.call hzx181 sm183 (Ap.symm A174)
 replace Q103 := Q103.mono hzx181.le
 replace X169 := X169.call hzx181 sm183 A172
 have O170n : Bx z180 e m184 k b0 _ _ := ⟨X188.blk, X188.lt, X188.dead, O170.fresh⟩
 replace hz := hz.trans (Zx.here st hzx181)
 replace st := st.call hzx181 fz182 sm183 O170.hq
 refine ⟨⟨?_, ?_⟩, ?_⟩
 ·first | refine demP (gLoad rfl Try.underlying3 rfl rfl (X169.load (v := (vI y161.mass)) rfl)) ?_ | refine demA (by decide) ?_
  exact demN
 ·exact demN
 refine DrawW.cons rfl (StepX.pure (pMul (k := .i64) (a := y161.mass) (b := y179.1) rfl rfl rfl) ?_)
 refine ⟨trivial, ?_⟩
 refine DrawW.cons rfl (StepX.pure (pQuo (k := .i64) (a := (IntKind.wrap .i64 (y161.mass * y179.1))) (b := 4) rfl rfl rfl (by decide)) ?_)
 refine ⟨trivial, ?_⟩
 refine DrawW.cons rfl (kField rfl Try.underlying42 rfl Try.type3 rfl h5 rfl ?_)
 refine ⟨trivial, ?_⟩
 have sto190 := st
 have old191 := O170n
 have old192 := O171
 have old193 := X169
 refine DrawW.cons rfl (kPut (off := 4) (w := (vI (IntKind.wrap .i64 (Int.tdiv (IntKind.wrap .i64 (y161.mass * y179.1)) 4)))) (new := [(vI (IntKind.wrap .i64 (Int.tdiv (IntKind.wrap .i64 (y161.mass * y179.1)) 4)))]) rfl Try.type3 rfl rfl rfl rfl rfl X169 rfl [(str y161.number), (vI y161.length), (vI y161.axles), (vI y161.mass), (vI (IntKind.wrap .i64 (Int.tdiv (IntKind.wrap .i64 (y161.mass * y179.1)) 4))), (vI y161.goods), (vB y161.gentle), (str y161.dest)] rfl st ?_)
 intro m194 st X169 sm195
 replace O170n := O170n.same sm195 (Ap.symm A172)
 replace O171 := O171.same sm195 (Ap.symm A173)
 refine ⟨⟨?_, ?_⟩, ?_⟩
 ·first | refine demP (gLoad rfl Try.underlying3 rfl rfl (X169.load (v := (vI y161.mass)) rfl)) ?_ | refine demA (by decide) ?_
  exact demN
 ·exact demN
 refine DrawW.done fun fr196 hf197 => ?_
 have h0 := (congrFun hf197 0).trans h0
 have h4 := (congrFun hf197 4).trans h4
 have h5 := (congrFun hf197 5).trans h5
 clear hf197
 refine thenQ.n (W.seq (W.region ?_))
 refine SeqW.consX rfl (kLoadA rfl Try.underlying42 rfl Try.type42 rfl h5 X169.loads ?_)
 refine SeqW.consX rfl (kPut (off := 0) (w := (Value.agg [(str y161.number), (vI y161.length), (vI y161.axles), (vI y161.mass), (vI (IntKind.wrap .i64 (Int.tdiv (IntKind.wrap .i64 (y161.mass * y179.1)) 4))), (vI y161.goods), (vB y161.gentle), (str y161.dest)].toArray)) (new := [(str y161.number), (vI y161.length), (vI y161.axles), (vI y161.mass), (vI (IntKind.wrap .i64 (Int.tdiv (IntKind.wrap .i64 (y161.mass * y179.1)) 4))), (vI y161.goods), (vB y161.gentle), (str y161.dest)]) rfl Try.type42 h4 rfl rfl rfl rfl O171 rfl [(str y161.number), (vI y161.length), (vI y161.axles), (vI y161.mass), (vI (IntKind.wrap .i64 (Int.tdiv (IntKind.wrap .i64 (y161.mass * y179.1)) 4))), (vI y161.goods), (vB y161.gentle), (str y161.dest)] rfl st ?_)
 intro m198 st O171 sm199
 replace O170n := O170n.same sm199 A174
 refine SeqW.done fun fr200 hf201 => ?_
 have h0 := (congrFun hf201 0).trans h0
 have h4 := (congrFun hf201 4).trans h4
 clear hf201
 refine thenQ.n ?_
 refine W.ret ?_
 obtain rfl := Option.some.inj hr
 exact ⟨z180, hz, st, .inr rfl, B1, V185, h4, O171, O171.fresh, Q186, O170n, trivial⟩

theorem c_Maker_Wagon {N : Nat} {z : Nat → Blk} {m : Mem} {x0 : Maker} {x1 : Int} {v0_0 : Value} {b0 : Nat} (fz : Fz z m) (hd : ∀ b, m.next ≤ b → m.blk b = .dead) (s0_0 : SlR (TInt 3 .i64) z x0.l v0_0) (bx0 : Bx z m m (some b0) b0 [v0_0, (vI x0.n)] 53) {r : Wagon × Maker} (hr : Maker_Wagon N x0 x1 = some r) : CallW Try.prog 18 #[(vP b0), (vI x1)] m fun v m' => ∃ z' wr_0, Zx m.next z z' ∧ Fz z' m' ∧ Same m m' (some b0) ∧ v = (Value.agg [(str r.1.number), (vI r.1.length), (vI r.1.axles), (vI r.1.mass), (vI r.1.brake), (vI r.1.goods), (vB r.1.gentle), (str r.1.dest)].toArray) ∧ SlR (TInt 3 .i64) z' r.2.l wr_0 ∧ Bx z' m m' (some b0) b0 [wr_0, (vI r.2.n)] 53 ∧ True := by
 refine CallW.any Try.func18 rfl (by kernel_rfl) (Nat.le_of_ble_eq_true rfl) (fun fr hf => ?_)
 have h0 : fr 0 = _ := hf 0 _ rfl
 have h1 : fr 1 = _ := hf 1 _ rfl
 refine (u_Maker_Wagon (k := (some b0)) (Zx.refl _) (St.start fz hd) h0 s0_0 bx0 h1 hr).mono ?_
 rintro ex fr' m' ⟨z', hz, st, he, c4, wr_0, h4, bx4, fx4, sr_0, bxr, -⟩
 exact ⟨he, [(Value.agg [(str r.1.number), (vI r.1.length), (vI r.1.axles), (vI r.1.mass), (vI r.1.brake), (vI r.1.goods), (vB r.1.gentle), (str r.1.dest)].toArray)], ⟨resCell h4 bx4 Try.underlying42 rfl Try.type42 rfl, trivial⟩, .inl rfl, z', wr_0, hz, st.fz, st.toSame, rfl, sr_0, bxr, trivial⟩

/-! ### humpyard/humpyardlaw06.ConsistLimit -/

theorem u_l06_ConsistLimit_0 : ∀ (n : Nat) {N : Nat}  {z0 z : Nat → Blk} {e m : Mem} {k : Option Nat} {fr : Nat → Value} {x1 : Int} {x7 : Maker} {x8 : List Wagon} {x9 : Int} {v7_0 : Value} {b7 : Nat} {v8 : Value} (hz : Zx e.next z0 z) (st : St z e m k) (h1 : fr 1 = (vI x1)) (h7 : fr 7 = (vP b7)) (s7_0 : SlR (TInt 3 .i64) z x7.l v7_0) (bx7 : Bx z e m k b7 [v7_0, (vI x7.n)] 53) (h8 : fr 8 = v8) (o8 : OwF TWagon z e m k x8 v8) (h9 : fr 9 = (vI x9)) (ao7_o8 : Ap (some b7) (blkOf v8)) {r : List Wagon} (hr : l06_ConsistLimit_0 N x1 n x7 x8 x9 = some r), W Try.prog (sub (bodyOf Try.f6) [1, 1, 1, 1, 0, 1, 0]) (fun ex fr' m' => ∃ z', Zx e.next z0 z' ∧ St z' e m' k ∧ ex = AExit.exit 0 ∧ ∃ (w8 : Value), fr' 8 = w8 ∧ OwF TWagon z' e m' k r w8 ∧ True) fr m := by
 intro n
 induction n with
 | zero => intro N z0 z e m k fr x1 x7 x8 x9 v7_0 b7 v8 hz st h1 h7 s7_0 bx7 h8 o8 h9 ao7_o8 r hr; cases (show (none : Option _) = some r from hr)
 | succ n ih =>
  intro N z0 z e m k fr x1 x7 x8 x9 v7_0 b7 v8 hz st h1 h7 s7_0 bx7 h8 o8 h9 ao7_o8 r hr
  unfold l06_ConsistLimit_0 at hr
  refine W.loop1 ?_
  refine W.seq (W.seq (W.region ?_))
  refine sx rfl (pMove (v := (vI x9)) rfl h9) ?_
  refine sx rfl (pMove (v := (vI x1)) rfl h1) ?_
  refine sx rfl (pLss (k := .i64) (a := x9) (b := x1) rfl rfl rfl) ?_
  refine SeqW.done fun fr25 hf26 => ?_
  have h1 := (congrFun hf26 1).trans h1
  have h7 := (congrFun hf26 7).trans h7
  have h8 := (congrFun hf26 8).trans h8
  have h9 := (congrFun hf26 9).trans h9
  have h21 : fr25 21 = (vB (decide (x9 < x1))) := (congrFun hf26 21).trans rfl
  clear hf26
  refine thenQ.n ?_
  rcases if_some hr with ⟨hc27, hr⟩ | ⟨hc60, hr⟩
  ·refine W.condT h21 hc27 (W.skip ?_)
   refine thenQ.n (W.seq ?_)
   refine W.block ?_
   refine W.region ?_
   refine sx rfl (pMove (v := v8) rfl h8) ?_
   refine sx rfl (pMove (v := (vP b7)) rfl h7) ?_
   refine sx rfl (pMove (v := (vI x9)) rfl h9) ?_
   obtain ⟨y28, hy28, hr⟩ := bind_some hr
   refine SeqW.consX rfl (StepX.call (gCallee rfl rfl (args2 rfl rfl)) ((c_Maker_Wagon (x0 := x7) (z := z) st.fz st.dead s7_0 ⟨bx7.blk, bx7.lt, bx7.dead, .inr rfl⟩ hy28).mono ?_))
   rintro _ m33 ⟨z29, V34, hzx30, fz31, sm32, rfl, Q35, X37, -⟩
   replace s7_0 := s7_0.mono hzx30.le
   replace o8 := o8.call hzx30 sm32 (Ap.symm ao7_o8)
   have bx7n : Bx z29 e m33 k b7 _ _ := ⟨X37.blk, X37.lt, X37.dead, bx7.fresh⟩
   replace hz := hz.trans (Zx.here st hzx30)
   replace st := st.call hzx30 fz31 sm32 bx7.hq
   refine SeqW.consX rfl (kBuild (T := TWagon) rfl Try.underlying24 Try.type42 rfl rfl rfl rfl ([y28.1] : List Wagon) [[(str y28.1.number), (vI y28.1.length), (vI y28.1.axles), (vI y28.1.mass), (vI y28.1.brake), (vI y28.1.goods), (vB y28.1.gentle), (str y28.1.dest)]] rfl rfl rfl (BuildOk.mk (w := (Value.agg [(str y28.1.number), (vI y28.1.length), (vI y28.1.axles), (vI y28.1.mass), (vI y28.1.brake), (vI y28.1.goods), (vB y28.1.gentle), (str y28.1.dest)].toArray)) rfl rfl rfl rfl trivial) st ?_)
   intro V38 m39 st O40 sm41 hap42
   have A44 := hap42 _ bx7n.lt'
   have A45 := hap42 _ o8.lt
   replace bx7n := bx7n.same sm41 Ap.none'
   replace o8 := o8.same sm41 Ap.none'
   obtain ⟨y46, hy46, hr⟩ := bind_some hr
   refine SeqW.consX rfl (kAppend (T := TWagon) (xs := x8) (ys := ([y28.1] : List Wagon)) rfl Try.underlying24 Try.type42 rfl rfl rfl rfl rfl rfl (.inl ⟨_, Try.underlying24⟩) rfl o8 rfl O40.ow.src st hy46 ?_)
   intro V47 m48 st O49 sm50 hap51
   have A53 := hap51 _ bx7n.lt' ao7_o8
   have A54 := hap51 _ O40.lt (Ap.symm A45)
   replace bx7n := bx7n.same sm50 ao7_o8
   replace O40 := O40.same sm50 (Ap.symm A45)
   refine sx rfl (pAssign (v := V47) rfl rfl) ?_
   refine SeqW.done fun fr55 hf56 => ?_
   have h1 := (congrFun hf56 1).trans h1
   have h7 := (congrFun hf56 7).trans h7
   have h8 : fr55 8 = V47 := (congrFun hf56 8).trans rfl
   have h9 := (congrFun hf56 9).trans h9
   clear hf56
   refine blockQ.n ?_
   refine thenQ.n (W.region ?_)
   refine sx rfl (pMove (v := (vI x9)) rfl h9) ?_
   refine sx rfl (pAdd (k := .i64) (a := x9) (b := 1) rfl rfl rfl) ?_
   obtain ⟨y57, hy57, hr⟩ := lt_some hr
   refine sx rfl (pAssign rfl (congrArg (Value.int .i64) hy57)) ?_
   refine SeqW.done fun fr58 hf59 => ?_
   have h1 := (congrFun hf59 1).trans h1
   have h7 := (congrFun hf59 7).trans h7
   have h8 := (congrFun hf59 8).trans h8
   have h9 : fr58 9 = (vI y57) := (congrFun hf59 9).trans rfl
   clear hf59
   refine thenQ.n ?_
   exact ih (x7 := y28.2) hz st h1 h7 Q35 bx7n h8 O49 h9 A53 hr
  ·refine W.condF h21 hc60 ?_
   refine W.exit ?_
   refine thenQ.x ?_
   refine thenQ.x ?_
   obtain rfl := Option.some.inj hr
   exact ⟨z, hz, st, rfl, v8, h8, o8, trivial⟩

theorem u_l06_ConsistLimit_1 {N : Nat}  {z0 z : Nat → Blk} {e m : Mem} {k : Option Nat} {fr : Nat → Value} {x1 : Int} {x11 : Int} {x8 : List Wagon} {v8 : Value} (hz : Zx e.next z0 z) (st : St z e m k) (h1 : fr 1 = (vI x1)) (h8 : fr 8 = v8) (o8 : OwF TWagon z e m k x8 v8) (h11 : fr 11 = (vI x11)) {r : Bool} (hr : l06_ConsistLimit_1 N x1 x11 = some r) : W Try.prog (sub (bodyOf Try.f6) [1, 1, 1, 1, 1, 1, 0, 0]) (fun ex fr' m' => ∃ z', Zx e.next z0 z' ∧ St z' e m' k ∧ ex = AExit.normal ∧ fr' 47 = (vB r) ∧ OwF TWagon z' e m' k x8 v8 ∧ True) fr m := by
 unfold l06_ConsistLimit_1 at hr
 refine W.region ?_
 refine sx rfl (pMove (v := (vI x11)) rfl h11) ?_
 refine sx rfl (pEql (k := .i64) (a := x11) (b := 3) rfl rfl rfl) ?_
 refine sx rfl (pMove (v := (vI x1)) rfl h1) ?_
 refine sx rfl (pGtr (k := .i64) (a := x1) (b := 96) rfl rfl rfl) ?_
 refine sx rfl (pNeqB (a := (x11 == 3)) (b := (decide (96 < x1))) rfl Try.underlying4 rfl rfl) ?_
 refine sx rfl (pMove (v := (vB (!((x11 == 3) == (decide (96 < x1)))))) rfl rfl) ?_
 rcases if_some hr with ⟨hc92, hr⟩ | ⟨hc95, hr⟩
 ·refine kx rfl rfl rfl hc92 ?_
  iterate 2 refine kx rfl rfl rfl hc92 ?_
  refine SeqW.skipU rfl rfl rfl ?_
  refine SeqW.skipU rfl rfl rfl ?_
  refine kx rfl rfl rfl hc92 ?_
  refine sx rfl (pPick (t := true) (v := (vB true)) rfl ((congrArg vB hc92)) rfl) ?_
  refine SeqW.done fun fr93 hf94 => ?_
  have h8 := (congrFun hf94 8).trans h8
  have h47 : fr93 47 = (vB true) := (congrFun hf94 47).trans rfl
  clear hf94
  obtain rfl := Option.some.inj hr
  exact ⟨z, hz, st, rfl, h47, o8, trivial⟩
 ·refine SeqW.consG rfl rfl rfl hc95 (StepX.pure (pMove (v := (vI x1)) rfl h1) ?_)
  refine SeqW.consG rfl rfl rfl hc95 (StepX.pure (pLeq (k := .i64) (a := x1) (b := 96) rfl rfl rfl) ?_)
  refine SeqW.consG rfl rfl rfl hc95 (StepX.pure (pMove (v := (vB (decide (x1 ≤ 96)))) rfl rfl) ?_)
  rcases if_some hr with ⟨hc96, hr⟩ | ⟨hc99, hr⟩
  ·refine SeqW.consG rfl rfl rfl hc96 (StepX.pure (pMove (v := (vI x11)) rfl h11) ?_)
   refine SeqW.consG rfl rfl rfl hc96 (StepX.pure (pNeq (k := .i64) (a := x11) (b := 0) rfl rfl rfl) ?_)
   refine SeqW.consG rfl rfl rfl hc95 (StepX.pure (pPick (t := true) (v := (vB (x11 != 0))) rfl ((congrArg vB hc96)) rfl) ?_)
   refine sx rfl (pPick (t := false) (v := (vB (x11 != 0))) rfl ((congrArg vB hc95)) rfl) ?_
   refine SeqW.done fun fr97 hf98 => ?_
   have h8 := (congrFun hf98 8).trans h8
   have h47 : fr97 47 = (vB (x11 != 0)) := (congrFun hf98 47).trans rfl
   clear hf98
   obtain rfl := Option.some.inj hr
   exact ⟨z, hz, st, rfl, h47, o8, trivial⟩
  ·refine kx rfl rfl rfl hc99 ?_
   refine kx rfl rfl rfl hc99 ?_
   refine SeqW.consG rfl rfl rfl hc95 (StepX.pure (pPick (t := false) (v := (vB false)) rfl ((congrArg vB hc99)) rfl) ?_)
   refine sx rfl (pPick (t := false) (v := (vB false)) rfl ((congrArg vB hc95)) rfl) ?_
   refine SeqW.done fun fr100 hf101 => ?_
   have h8 := (congrFun hf101 8).trans h8
   have h47 : fr100 47 = (vB false) := (congrFun hf101 47).trans rfl
   clear hf101
   obtain rfl := Option.some.inj hr
   exact ⟨z, hz, st, rfl, h47, o8, trivial⟩

theorem u_l06_ConsistLimit_2 {N : Nat}  {z0 z : Nat → Blk} {e m : Mem} {k : Option Nat} {fr : Nat → Value} {x11 : Int} (hz : Zx e.next z0 z) (st : St z e m k) (h11 : fr 11 = (vI x11)) {r : Bool} (hr : l06_ConsistLimit_2 N x11 = some r) : W Try.prog (sub (bodyOf Try.f6) [1, 1, 1, 1, 1, 1, 1, 1, 1, 1, 0]) (fun ex fr' m' => ∃ z', Zx e.next z0 z' ∧ St z' e m' k ∧ ex = AExit.normal ∧ fr' 6 = (vB r) ∧ True) fr m := by
 unfold l06_ConsistLimit_2 at hr
 refine W.region ?_
 refine sx rfl (pMove (v := (vI x11)) rfl h11) ?_
 refine sx rfl (pEql (k := .i64) (a := x11) (b := 8) rfl rfl rfl) ?_
 refine sx rfl (pMove (v := (vB (x11 == 8))) rfl rfl) ?_
 rcases if_some hr with ⟨hc170, hr⟩ | ⟨hc174, hr⟩
 ·obtain ⟨y171, hy171, hr⟩ := bind_some hr
  refine SeqW.consG rfl rfl rfl hc170 (StepX.call (gCallee rfl rfl args0) ((c_l06_sane (z := z) st.fz st.dead  hy171).mono ?_))
  rintro _ _ ⟨rfl, rfl⟩
  refine sx rfl (pPick (t := true) (v := (vB y171)) rfl ((congrArg vB hc170)) rfl) ?_
  refine sx rfl (pAssign (v := (vB y171)) rfl rfl) ?_
  refine SeqW.done fun fr172 hf173 => ?_
  have h6 : fr172 6 = (vB y171) := (congrFun hf173 6).trans rfl
  clear hf173
  obtain rfl := Option.some.inj hr
  exact ⟨z, hz, st, rfl, h6, trivial⟩
 ·refine kx rfl rfl rfl hc174 ?_
  refine sx rfl (pPick (t := false) (v := (vB false)) rfl ((congrArg vB hc174)) rfl) ?_
  refine sx rfl (pAssign (v := (vB false)) rfl rfl) ?_
  refine SeqW.done fun fr175 hf176 => ?_
  have h6 : fr175 6 = (vB false) := (congrFun hf176 6).trans rfl
  clear hf176
  obtain rfl := Option.some.inj hr
  exact ⟨z, hz, st, rfl, h6, trivial⟩

theorem u_l06_ConsistLimit {N : Nat}  {z0 z : Nat → Blk} {e m : Mem} {k : Option Nat} {fr : Nat → Value} {x0 : List Int} {x1 : Int} {x2 : Int} {v0 : Value} (hz : Zx e.next z0 z) (st : St z e m k) (h0 : fr 0 = v0) (s0 : SlR (TInt 3 .i64) z x0 v0) (h1 : fr 1 = (vI x1)) (h2 : fr 2 = (vI x2)) {r : Bool} (hr : l06_ConsistLimit N x0 x1 x2 = some r) : W Try.prog (sub (bodyOf Try.f6) []) (fun ex fr' m' => ∃ z', Zx e.next z0 z' ∧ St z' e m' k ∧ (ex = .normal ∨ ex = .ret) ∧ fr' 6 = (vB r) ∧ True) fr m := by
 unfold l06_ConsistLimit at hr
 refine W.seq (W.region ?_)
 refine sx rfl (pAssign (v := (vB false)) rfl rfl) ?_
 refine SeqW.done fun fr1 hf2 => ?_
 have h0 := (congrFun hf2 0).trans h0
 have h1 := (congrFun hf2 1).trans h1
 have h2 := (congrFun hf2 2).trans h2
 clear hf2
 refine thenQ.n (W.seq (W.region ?_))
 refine sx rfl (pMove (v := v0) rfl h0) ?_
 obtain ⟨y3, hy3, hr⟩ := bind_some hr
 refine SeqW.consX rfl (StepX.call (gCallee rfl rfl (args1 rfl)) ((c_gen_New (z := z) st.fz st.dead s0 hy3).mono ?_))
 rintro _ m8 ⟨z4, B9, V12, hzx5, fz6, sm7, rfl, Q13, X10, hn15, -⟩
 replace s0 := s0.mono hzx5.le
 have X10 : Bx z4 e m8 k B9 _ _ := ⟨X10.blk, X10.lt, X10.dead, .inl (Nat.le_trans st.next hn15)⟩
 replace hz := hz.trans (Zx.here st hzx5)
 replace st := st.call hzx5 fz6 sm7 no_hq
 refine sx rfl (pAssign (v := (vP B9)) rfl rfl) ?_
 refine SeqW.done fun fr16 hf17 => ?_
 have h1 := (congrFun hf17 1).trans h1
 have h2 := (congrFun hf17 2).trans h2
 have h7 : fr16 7 = (vP B9) := (congrFun hf17 7).trans rfl
 clear hf17
 refine thenQ.n (W.seq (W.region ?_))
 refine sx rfl (pMove (v := (vI x1)) rfl h1) ?_
 refine sx rfl (pRem (k := .i64) (a := x1) (b := 3) rfl rfl rfl (by decide)) ?_
 refine sx rfl (pAdd (k := .i64) (a := (Int.tmod x1 3)) (b := 3) rfl rfl rfl) ?_
 refine sx rfl (pRem (k := .i64) (a := (IntKind.wrap .i64 ((Int.tmod x1 3) + 3))) (b := 3) rfl rfl rfl (by decide)) ?_
 refine sx rfl (pAdd (k := .i64) (a := 95) (b := (Int.tmod (IntKind.wrap .i64 ((Int.tmod x1 3) + 3)) 3)) rfl rfl rfl) ?_
 obtain ⟨y18, hy18, hr⟩ := lt_some hr
 refine sx rfl (pAssign rfl (congrArg (Value.int .i64) hy18)) ?_
 refine SeqW.done fun fr19 hf20 => ?_
 have h1 : fr19 1 = (vI y18) := (congrFun hf20 1).trans rfl
 have h2 := (congrFun hf20 2).trans h2
 have h7 := (congrFun hf20 7).trans h7
 clear hf20
 refine thenQ.n (W.seq (W.region ?_))
 refine sx rfl (pAssign (v := (Value.slice none 0 0)) rfl rfl) ?_
 refine SeqW.done fun fr21 hf22 => ?_
 have h1 := (congrFun hf22 1).trans h1
 have h2 := (congrFun hf22 2).trans h2
 have h7 := (congrFun hf22 7).trans h7
 have h8 : fr21 8 = (Value.slice none 0 0) := (congrFun hf22 8).trans rfl
 clear hf22
 refine thenQ.n (W.seq ?_)
 refine W.seq (W.region ?_)
 refine sx rfl (pAssign (v := (vI 0)) rfl rfl) ?_
 refine SeqW.done fun fr23 hf24 => ?_
 have h1 := (congrFun hf24 1).trans h1
 have h2 := (congrFun hf24 2).trans h2
 have h7 := (congrFun hf24 7).trans h7
 have h8 := (congrFun hf24 8).trans h8
 have h9 : fr23 9 = (vI 0) := (congrFun hf24 9).trans rfl
 clear hf24
 refine thenQ.n ?_
 refine W.block ?_
 obtain ⟨y61, hy61, hr⟩ := bind_some hr
 refine W.keep (u_l06_ConsistLimit_0 (x7 := y3) _ (Zx.refl _) st h1 h7 Q13 X10 h8 OwF.nil h9 Ap.none' hy61) ?_
 rintro ex67 fr62 m63 hk65 ⟨z64, hz66, st, rfl, w68, h8, O70, -⟩
 have h1 := (hk65 1 rfl).trans h1
 have h2 := (hk65 2 rfl).trans h2
 replace hz := hz.trans hz66
 clear hk65
 refine blockQ.hit ?_
 refine thenQ.n (W.seq (W.region ?_))
 refine sx rfl (pMove (v := w68) rfl h8) ?_
 obtain ⟨z71, hz72, st75, Q73, hl74⟩ := O70.freeze st
 obtain ⟨y76, hy76, hr⟩ := bind_some hr
 refine SeqW.consX rfl (StepX.call (gCallee rfl rfl (args1 rfl)) ((c_consist_Encode (z := z71) st75.fz st.dead Q73 hy76).mono ?_))
 rintro _ m81 ⟨z77, V82, hzx78, fz79, sm80, rfl, Q83, -⟩
 obtain ⟨z85, hzx86, fz87, O88⟩ := OwF.unlend (T := (TU8 5)) (fun _ _ _ _ h => h) st hzx78 fz79 sm80 Q83
 have A89 := Ap.own O70.lt O88.fresh
 replace O70 := O70.call hzx86 sm80 Ap.none'
 have O88 : OwF (TU8 5) z85 e m81 k y76.1 V82 := O88.up st.next
 replace hz := hz.trans (Zx.here st hzx86)
 replace st := st.call hzx86 fz87 sm80 no_hq
 refine sx rfl (pMove (v := (Value.tuple [V82, (vI y76.2)].toArray)) rfl rfl) ?_
 refine sx rfl (pExtract (vs := [V82, (vI y76.2)]) (v := V82) rfl rfl rfl) ?_
 refine sx rfl (pExtract (vs := [V82, (vI y76.2)]) (v := (vI y76.2)) rfl rfl rfl) ?_
 refine sx rfl (pAssign (v := V82) rfl rfl) ?_
 refine sx rfl (pAssign (v := (vI y76.2)) rfl rfl) ?_
 refine SeqW.done fun fr90 hf91 => ?_
 have h1 := (congrFun hf91 1).trans h1
 have h2 := (congrFun hf91 2).trans h2
 have h8 := (congrFun hf91 8).trans h8
 have h11 : fr90 11 = (vI y76.2) := (congrFun hf91 11).trans rfl
 clear hf91
 refine thenQ.n (W.seq (W.seq ?_))
 obtain ⟨y102, hy102, hr⟩ := bind_some hr
 refine W.keep (u_l06_ConsistLimit_1 (Zx.refl _) st h1 h8 O70 h11 hy102) ?_
 rintro ex108 fr103 m104 hk106 ⟨z105, hz107, st, rfl, h47, O109, -⟩
 have h2 := (hk106 2 rfl).trans h2
 have h8 := (hk106 8 rfl).trans h8
 replace hz := hz.trans hz107
 clear hk106
 refine thenQ.n ?_
 rcases if_some hr with ⟨hc110, hr⟩ | ⟨hc113, hr⟩
 ·refine W.condT h47 hc110 (W.seq (W.region ?_))
  refine sx rfl (pAssign (v := (vB false)) rfl rfl) ?_
  refine SeqW.done fun fr111 hf112 => ?_
  have h6 : fr111 6 = (vB false) := (congrFun hf112 6).trans rfl
  clear hf112
  refine thenQ.n ?_
  refine W.ret ?_
  refine thenQ.r ?_
  obtain rfl := Option.some.inj hr
  exact ⟨z105, hz, st, .inr rfl, h6, trivial⟩
 ·refine W.condF h47 hc113 (W.skip ?_)
  refine thenQ.n (W.seq (W.region ?_))
  refine sx rfl (pMove (v := w68) rfl h8) ?_
  obtain ⟨y114, hy114, hr⟩ := bind_some hr
  refine SeqW.consX rfl (kCutO (T := TWagon) (xs := y61) (b := 95) rfl Try.underlying24 Try.type42 rfl rfl rfl ⟨_, rfl⟩ O109 hy114 ?_)
  intro V115 _ O116 hb117
  refine sx rfl (pAssign (v := V115) rfl rfl) ?_
  refine SeqW.done fun fr119 hf120 => ?_
  have h2 := (congrFun hf120 2).trans h2
  have h8 : fr119 8 = V115 := (congrFun hf120 8).trans rfl
  clear hf120
  refine thenQ.n (W.seq (W.region ?_))
  refine sx rfl (pMove (v := V115) rfl h8) ?_
  refine sx rfl (pMove (v := V115) rfl h8) ?_
  refine sx rfl (pMove (v := (vI x2)) rfl h2) ?_
  refine sx rfl (pMove (v := V115) rfl h8) ?_
  refine sx rfl (pLenO (xs := y114) rfl Try.underlying24 rfl O116.ow) ?_
  obtain ⟨y121, hy121, hr⟩ := bind_some hr
  refine SeqW.consX rfl (kRem (k1 := .i64) (a := x2) (b := (y114.length : Int)) rfl rfl rfl hy121 ?_)
  refine sx rfl (pMove (v := V115) rfl h8) ?_
  refine sx rfl (pLenO (xs := y114) rfl Try.underlying24 rfl O116.ow) ?_
  refine sx rfl (pAdd (k := .i64) (a := y121) (b := (y114.length : Int)) rfl rfl rfl) ?_
  refine sx rfl (pMove (v := V115) rfl h8) ?_
  refine sx rfl (pLenO (xs := y114) rfl Try.underlying24 rfl O116.ow) ?_
  obtain ⟨y122, hy122, hr⟩ := bind_some hr
  refine SeqW.consX rfl (kRem (k1 := .i64) (a := (IntKind.wrap .i64 (y121 + (y114.length : Int)))) (b := (y114.length : Int)) rfl rfl rfl hy122 ?_)
  obtain ⟨y123, hy123, hr⟩ := bind_some hr
  refine SeqW.consX rfl (kIdxO (T := TWagon) (xs := y114) (n := y122) rfl Try.underlying24 Try.type42 rfl rfl rfl O116 hy123 ?_)
  intro B124 l125 c126 cs127 hv128 hd129 hg130 hc131
  have hd1290 := hd129
  obtain rfl := hd1290
  refine SeqW.consX rfl (kLoadA rfl Try.underlying42 rfl Try.type42 rfl rfl hc131 ?_)
  refine SeqW.consX rfl (kBuild (T := TWagon) rfl Try.underlying24 Try.type42 rfl rfl rfl rfl ([y123] : List Wagon) [[(str y123.number), (vI y123.length), (vI y123.axles), (vI y123.mass), (vI y123.brake), (vI y123.goods), (vB y123.gentle), (str y123.dest)]] rfl rfl rfl (BuildOk.mk (w := (Value.agg [(str y123.number), (vI y123.length), (vI y123.axles), (vI y123.mass), (vI y123.brake), (vI y123.goods), (vB y123.gentle), (str y123.dest)].toArray)) rfl rfl rfl rfl trivial) st ?_)
  intro V132 m133 st O134 sm135 hap136
  have A138 := hap136 _ O116.lt
  replace O116 := O116.same sm135 Ap.none'
  obtain ⟨y139, hy139, hr⟩ := bind_some hr
  refine SeqW.consX rfl (kAppend (T := TWagon) (xs := y114) (ys := ([y123] : List Wagon)) rfl Try.underlying24 Try.type42 rfl rfl rfl rfl rfl rfl (.inl ⟨_, Try.underlying24⟩) rfl O116 rfl O134.ow.src st hy139 ?_)
  intro V140 m141 st O142 sm143 hap144
  have A146 := hap144 _ O134.lt (Ap.symm A138)
  replace O134 := O134.same sm143 (Ap.symm A138)
  refine sx rfl (pAssign (v := V140) rfl rfl) ?_
  refine SeqW.done fun fr147 hf148 => ?_
  have h8 : fr147 8 = V140 := (congrFun hf148 8).trans rfl
  clear hf148
  refine thenQ.n (W.seq (W.region ?_))
  refine sx rfl (pMove (v := V140) rfl h8) ?_
  obtain ⟨z149, hz150, st153, Q151, hl152⟩ := O142.freeze st
  obtain ⟨y154, hy154, hr⟩ := bind_some hr
  refine SeqW.consX rfl (StepX.call (gCallee rfl rfl (args1 rfl)) ((c_consist_Encode (z := z149) st153.fz st.dead Q151 hy154).mono ?_))
  rintro _ m159 ⟨z155, V160, hzx156, fz157, sm158, rfl, Q161, -⟩
  obtain ⟨z163, hzx164, fz165, O166⟩ := OwF.unlend (T := (TU8 5)) (fun _ _ _ _ h => h) st hzx156 fz157 sm158 Q161
  have A167 := Ap.own O142.lt O166.fresh
  replace O142 := O142.call hzx164 sm158 Ap.none'
  have O166 : OwF (TU8 5) z163 e m159 k y154.1 V160 := O166.up st.next
  replace hz := hz.trans (Zx.here st hzx164)
  replace st := st.call hzx164 fz165 sm158 no_hq
  refine sx rfl (pMove (v := (Value.tuple [V160, (vI y154.2)].toArray)) rfl rfl) ?_
  refine sx rfl (pExtract (vs := [V160, (vI y154.2)]) (v := V160) rfl rfl rfl) ?_
  refine sx rfl (pExtract (vs := [V160, (vI y154.2)]) (v := (vI y154.2)) rfl rfl rfl) ?_
  refine sx rfl (pAssign (v := (vI y154.2)) rfl rfl) ?_
  refine SeqW.done fun fr168 hf169 => ?_
  have h11 : fr168 11 = (vI y154.2) := (congrFun hf169 11).trans rfl
  clear hf169
  refine thenQ.n (W.seq ?_)
  obtain ⟨y177, hy177, hr⟩ := bind_some hr
  refine W.keep (u_l06_ConsistLimit_2 (Zx.refl _) st h11 hy177) ?_
  rintro ex183 fr178 m179 hk181 ⟨z180, hz182, st, rfl, h6, -⟩
  replace hz := hz.trans hz182
  clear hk181
  refine thenQ.n ?_
  refine W.ret ?_
  obtain rfl := Option.some.inj hr
  exact ⟨z180, hz, st, .inr rfl, h6, trivial⟩

theorem c_l06_ConsistLimit {N : Nat} {z : Nat → Blk} {m : Mem} {x0 : List Int} {x1 : Int} {x2 : Int} {v0 : Value} (fz : Fz z m) (hd : ∀ b, m.next ≤ b → m.blk b = .dead) (s0 : SlR (TInt 3 .i64) z x0 v0) {r : Bool} (hr : l06_ConsistLimit N x0 x1 x2 = some r) : CallW Try.prog 6 #[v0, (vI x1), (vI x2)] m fun v m' => v = (vB r) ∧ m' = m := by
 refine CallW.flat Try.func6 rfl (by kernel_rfl) (Nat.le_of_ble_eq_true rfl) rfl (z := z) (fun fr hf => ?_)
 have h0 : fr 0 = _ := hf 0 _ rfl
 have h1 : fr 1 = _ := hf 1 _ rfl
 have h2 : fr 2 = _ := hf 2 _ rfl
 refine (u_l06_ConsistLimit (k := none) (Zx.refl _) (St.start fz hd) h0 s0 h1 h2 hr).mono ?_
 rintro ex fr' m' ⟨z', hz, st, he, h6, -⟩
 exact ⟨he, z', st, [(vB r)], ⟨h6.symm, trivial⟩, .inl rfl, rfl⟩

end Go.W
