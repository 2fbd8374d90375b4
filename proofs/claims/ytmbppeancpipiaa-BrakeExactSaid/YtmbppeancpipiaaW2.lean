/- The models are what the program computes. -/
import Derived.Test.YtmbppeancpipiaaW1
set_option linter.unusedVariables false
set_option linter.unusedSimpArgs false
set_option maxRecDepth 100000
set_option maxHeartbeats 4000000
namespace Go.W
open Go.AM Go.Proofs


/-! ### humpyard/consist.check -/

theorem u_consist_check_0 : ∀ (n : Nat) {N : Nat}  {z0 z : Nat → Blk} {e m : Mem} {k : Option Nat} {fr : Nat → Value} {x3 : List ((List UInt8) × Bool)} {x11 : List Wagon} {x12 : Int} {x13 : Int} {v3 : Value} {v11 : Value} (hz : Zx e.next z0 z) (st : St z e m k) (h3 : fr 3 = v3) (o3 : OwM (MTy.mk kStr kBool 70) z e m k x3 v3) (h11 : fr 11 = v11) (s11 : SlR TWagon z x11 v11) (h12 : fr 12 = (vI x12)) (h13 : fr 13 = (vI x13)) {r : Sum (Unit) (Int)} (hr : consist_check_0 N x11 x12 n x3 x13 = some r), W Try.prog (sub (bodyOf Try.f40) [1, 1, 1, 0, 1, 0]) (fun ex fr' m' => ∃ z', Zx e.next z0 z' ∧ St z' e m' k ∧ ((∃ q, r = Sum.inl q ∧ ex = AExit.exit 0 ∧ True) ∨ (∃ q, r = Sum.inr q ∧ ex = AExit.ret ∧ fr' 2 = (vI q) ∧ True))) fr m := by
 intro n
 induction n with
 | zero => intro N z0 z e m k fr x3 x11 x12 x13 v3 v11 hz st h3 o3 h11 s11 h12 h13 r hr; cases (show (none : Option _) = some r from hr)
 | succ n ih =>
  intro N z0 z e m k fr x3 x11 x12 x13 v3 v11 hz st h3 o3 h11 s11 h12 h13 r hr
  unfold consist_check_0 at hr
  refine W.loop1 ?_
  refine W.seq (W.region ?_)
  refine sx rfl (pLss (k := .i64) (a := x13) (b := x12) rfl h13 h12) ?_
  refine SeqW.done fun fr19 hf20 => ?_
  have h3 := (congrFun hf20 3).trans h3
  have h11 := (congrFun hf20 11).trans h11
  have h12 := (congrFun hf20 12).trans h12
  have h13 := (congrFun hf20 13).trans h13
  have h14 : fr19 14 = (vB (decide (x13 < x12))) := (congrFun hf20 14).trans rfl
  clear hf20
  refine thenQ.n (W.seq ?_)
  rcases if_some hr with ⟨hc21, hr⟩ | ⟨hc62, hr⟩
  ·refine W.condT h14 hc21 (W.skip ?_)
   refine thenQ.n (W.seq ?_)
   refine W.block ?_
   refine W.seq (W.region ?_)
   obtain ⟨y22, hy22, hr⟩ := bind_some hr
   refine SeqW.consX rfl (kIdxR (T := TWagon) (xs := x11) (n := x13) rfl Try.underlying25 Try.type48 rfl h11 h13 s11 hy22 ?_)
   intro B23 f24 cs25 hd26 hc27
   obtain rfl := hd26
   refine SeqW.consX rfl (kLoadA rfl Try.underlying48 rfl Try.type48 rfl rfl (st.loads hc27) ?_)
   refine SeqW.consX rfl (kAlloc rfl Try.type48 rfl rfl rfl [(str []), (vI 0), (vI 0), (vI 0), (vI 0), (vI 0), (vB false), (str [])] rfl st ?_)
   intro B28 m29 st X30 sm31 hap32
   have A34 := hap32 _ o3.lt
   replace o3 := o3.same sm31 Ap.none'
   refine SeqW.consX rfl (kPut (off := 0) (w := (Value.agg [(str y22.number), (vI y22.length), (vI y22.axles), (vI y22.mass), (vI y22.brake), (vI y22.goods), (vB y22.gentle), (str y22.dest)].toArray)) (new := [(str y22.number), (vI y22.length), (vI y22.axles), (vI y22.mass), (vI y22.brake), (vI y22.goods), (vB y22.gentle), (str y22.dest)]) rfl Try.type48 rfl rfl rfl rfl rfl X30 rfl [(str y22.number), (vI y22.length), (vI y22.axles), (vI y22.mass), (vI y22.brake), (vI y22.goods), (vB y22.gentle), (str y22.dest)] rfl st ?_)
   intro m35 st X30 sm36
   replace o3 := o3.same sm36 A34
   refine SeqW.done fun fr37 hf38 => ?_
   have h3 := (congrFun hf38 3).trans h3
   have h5 : fr37 5 = (vP B28) := (congrFun hf38 5).trans rfl
   have h11 := (congrFun hf38 11).trans h11
   have h12 := (congrFun hf38 12).trans h12
   have h13 := (congrFun hf38 13).trans h13
   clear hf38
   refine thenQ.n (W.seq ?_)
   refine W.seq (W.region ?_)
   refine SeqW.consX rfl (kLoadA rfl Try.underlying48 rfl Try.type48 rfl h5 X30.loads ?_)
   obtain ⟨y39, hy39, hr⟩ := bind_some hr
   refine SeqW.consX rfl (StepX.call (gCallee rfl rfl (args1 rfl)) ((c_consist_Valid (x0 := y22) (z := z) st.fz st.dead  hy39).mono ?_))
   rintro _ _ ⟨rfl, rfl⟩
   refine sx rfl (pAssign (v := (vI y39)) rfl rfl) ?_
   refine SeqW.done fun fr40 hf41 => ?_
   have h3 := (congrFun hf41 3).trans h3
   have h5 := (congrFun hf41 5).trans h5
   have h6 : fr40 6 = (vI y39) := (congrFun hf41 6).trans rfl
   have h11 := (congrFun hf41 11).trans h11
   have h12 := (congrFun hf41 12).trans h12
   have h13 := (congrFun hf41 13).trans h13
   clear hf41
   refine thenQ.n (W.seq (W.region ?_))
   refine sx rfl (pMove (v := (vI y39)) rfl h6) ?_
   refine sx rfl (pNeq (k := .i64) (a := y39) (b := 0) rfl rfl rfl) ?_
   refine SeqW.done fun fr42 hf43 => ?_
   have h3 := (congrFun hf43 3).trans h3
   have h5 := (congrFun hf43 5).trans h5
   have h6 := (congrFun hf43 6).trans h6
   have h11 := (congrFun hf43 11).trans h11
   have h12 := (congrFun hf43 12).trans h12
   have h13 := (congrFun hf43 13).trans h13
   have h20 : fr42 20 = (vB (y39 != 0)) := (congrFun hf43 20).trans rfl
   clear hf43
   refine thenQ.n ?_
   rcases if_some hr with ⟨hc44, hr⟩ | ⟨hc47, hr⟩
   ·refine W.condT h20 hc44 (W.seq (W.region ?_))
    refine sx rfl (pMove (v := (vI y39)) rfl h6) ?_
    refine sx rfl (pAssign (v := (vI y39)) rfl rfl) ?_
    refine SeqW.done fun fr45 hf46 => ?_
    have h2 : fr45 2 = (vI y39) := (congrFun hf46 2).trans rfl
    clear hf46
    refine thenQ.n ?_
    refine W.ret ?_
    refine thenQ.r ?_
    refine blockQ.r ?_
    refine thenQ.r ?_
    refine thenQ.r ?_
    obtain rfl := Option.some.inj hr
    exact ⟨z, hz, st, .inr ⟨_, rfl, rfl, h2, trivial⟩⟩
   ·refine W.condF h20 hc47 (W.skip ?_)
    refine thenQ.n (W.seq ?_)
    refine W.seq (W.region ?_)
    refine sx rfl (pMove (v := v3) rfl h3) ?_
    refine SeqW.consX rfl (kField rfl Try.underlying48 rfl Try.type9 rfl h5 rfl ?_)
    refine SeqW.consX rfl (kLoad rfl Try.underlying9 rfl rfl (X30.load (v := (str y22.number)) rfl) ?_)
    obtain ⟨y48, hy48, hr⟩ := lt_some hr
    refine SeqW.consX rfl (kLookO (M := (MTy.mk kStr kBool 70)) (z0 := false) (a := y22.number) (ok := false) (w0 := (vB (y48.getD false))) rfl Try.underlying70 Try.underlying70 (keyStr Try.underlying9 Try.type9 rfl) (valBool Try.underlying4 Try.type4 rfl) Try.type4 (by rw [noAgg Try.underlying4 rfl]; rfl) rfl o3 rfl (by rw [noAgg Try.underlying9 rfl]; rfl) hy48 (by rw [noAgg Try.underlying4 rfl]; rfl) ?_)
    refine SeqW.done fun fr49 hf50 => ?_
    have h3 := (congrFun hf50 3).trans h3
    have h5 := (congrFun hf50 5).trans h5
    have h11 := (congrFun hf50 11).trans h11
    have h12 := (congrFun hf50 12).trans h12
    have h13 := (congrFun hf50 13).trans h13
    have h25 : fr49 25 = (vB (y48.getD false)) := (congrFun hf50 25).trans rfl
    clear hf50
    refine thenQ.n ?_
    rcases if_some hr with ⟨hc51, hr⟩ | ⟨hc54, hr⟩
    ·refine W.condT h25 hc51 (W.seq (W.region ?_))
     refine sx rfl (pAssign (v := (vI 8)) rfl rfl) ?_
     refine SeqW.done fun fr52 hf53 => ?_
     have h2 : fr52 2 = (vI 8) := (congrFun hf53 2).trans rfl
     clear hf53
     refine thenQ.n ?_
     refine W.ret ?_
     refine thenQ.r ?_
     refine blockQ.r ?_
     refine thenQ.r ?_
     refine thenQ.r ?_
     obtain rfl := Option.some.inj hr
     exact ⟨z, hz, st, .inr ⟨_, rfl, rfl, h2, trivial⟩⟩
    ·refine W.condF h25 hc54 (W.skip ?_)
     refine thenQ.n (W.region ?_)
     refine sx rfl (pMove (v := v3) rfl h3) ?_
     refine SeqW.consX rfl (kField rfl Try.underlying48 rfl Try.type9 rfl h5 rfl ?_)
     refine SeqW.consX rfl (kLoad rfl Try.underlying9 rfl rfl (X30.load (v := (str y22.number)) rfl) ?_)
     obtain ⟨y55, hy55, hr⟩ := lt_some hr
     refine SeqW.consX rfl (kMapSet (M := (MTy.mk kStr kBool 70)) (a := y22.number) (b := true) (.inl rfl) Try.underlying70 Try.underlying70 (keyStr Try.underlying9 Try.type9 rfl) (valBool Try.underlying4 Try.type4 rfl) rfl o3 rfl (by rw [noAgg Try.underlying9 rfl]; rfl) rfl (by rw [noAgg Try.underlying4 rfl]; rfl) st hy55 ?_)
     intro m56 st o3 sm57
     refine SeqW.done fun fr58 hf59 => ?_
     have h3 := (congrFun hf59 3).trans h3
     have h11 := (congrFun hf59 11).trans h11
     have h12 := (congrFun hf59 12).trans h12
     have h13 := (congrFun hf59 13).trans h13
     clear hf59
     refine blockQ.n ?_
     refine thenQ.n (W.region ?_)
     refine sx rfl (pAdd (k := .i64) (a := x13) (b := 1) rfl h13 rfl) ?_
     refine sx rfl (pMove (v := (vI (IntKind.wrap .i64 (x13 + 1)))) rfl rfl) ?_
     refine SeqW.done fun fr60 hf61 => ?_
     have h3 := (congrFun hf61 3).trans h3
     have h11 := (congrFun hf61 11).trans h11
     have h12 := (congrFun hf61 12).trans h12
     have h13 : fr60 13 = (vI (IntKind.wrap .i64 (x13 + 1))) := (congrFun hf61 13).trans rfl
     clear hf61
     refine thenQ.n ?_
     exact ih hz st h3 o3 h11 s11 h12 h13 hr
  ·refine W.condF h14 hc62 ?_
   refine W.exit ?_
   refine thenQ.x ?_
   refine thenQ.x ?_
   obtain rfl := Option.some.inj hr
   exact ⟨z, hz, st, .inl ⟨_, rfl, rfl, trivial⟩⟩

theorem u_consist_check {N : Nat}  {z0 z : Nat → Blk} {e m : Mem} {k : Option Nat} {fr : Nat → Value} {x0 : List Wagon} {v0 : Value} (hz : Zx e.next z0 z) (st : St z e m k) (h0 : fr 0 = v0) (s0 : SlR TWagon z x0 v0) {r : Int} (hr : consist_check N x0 = some r) : W Try.prog (sub (bodyOf Try.f40) []) (fun ex fr' m' => ∃ z', Zx e.next z0 z' ∧ St z' e m' k ∧ (ex = .normal ∨ ex = .ret) ∧ fr' 2 = (vI r) ∧ True) fr m := by
 unfold consist_check at hr
 refine W.seq (W.region ?_)
 refine sx rfl (pAssign (v := (vI 0)) rfl rfl) ?_
 refine SeqW.done fun fr1 hf2 => ?_
 have h0 := (congrFun hf2 0).trans h0
 clear hf2
 refine thenQ.n (W.seq ?_)
 refine W.seq (W.region ?_)
 refine sx rfl (pMove (v := v0) rfl h0) ?_
 refine sx rfl (pLenR (xs := x0) rfl Try.underlying25 rfl s0) ?_
 refine sx rfl (pGtr (k := .i64) (a := (x0.length : Int)) (b := 96) rfl rfl rfl) ?_
 refine SeqW.done fun fr3 hf4 => ?_
 have h0 := (congrFun hf4 0).trans h0
 have h9 : fr3 9 = (vB (decide (96 < (x0.length : Int)))) := (congrFun hf4 9).trans rfl
 clear hf4
 refine thenQ.n ?_
 rcases if_some hr with ⟨hc5, hr⟩ | ⟨hc8, hr⟩
 ·refine W.condT h9 hc5 (W.seq (W.region ?_))
  refine sx rfl (pAssign (v := (vI 3)) rfl rfl) ?_
  refine SeqW.done fun fr6 hf7 => ?_
  have h2 : fr6 2 = (vI 3) := (congrFun hf7 2).trans rfl
  clear hf7
  refine thenQ.n ?_
  refine W.ret ?_
  refine thenQ.r ?_
  obtain rfl := Option.some.inj hr
  exact ⟨z, hz, st, .inr rfl, h2, trivial⟩
 ·refine W.condF h9 hc8 (W.skip ?_)
  refine thenQ.n (W.seq (W.region ?_))
  refine SeqW.consX rfl (kMakeMap (MTy.mk kStr kBool 70) rfl Try.underlying70 rfl st ?_)
  intro V9 m10 st O11 sm12 hap13
  refine sx rfl (pAssign (v := V9) rfl rfl) ?_
  refine SeqW.done fun fr15 hf16 => ?_
  have h0 := (congrFun hf16 0).trans h0
  have h3 : fr15 3 = V9 := (congrFun hf16 3).trans rfl
  clear hf16
  refine thenQ.n (W.seq ?_)
  refine W.seq (W.region ?_)
  refine sx rfl (pMove (v := v0) rfl h0) ?_
  refine sx rfl (pLenR (xs := x0) rfl Try.underlying25 rfl s0) ?_
  refine sx rfl (pMove (v := (vI 0)) rfl rfl) ?_
  refine SeqW.done fun fr17 hf18 => ?_
  have h3 := (congrFun hf18 3).trans h3
  have h11 : fr17 11 = v0 := (congrFun hf18 11).trans rfl
  have h12 : fr17 12 = (vI (x0.length : Int)) := (congrFun hf18 12).trans rfl
  have h13 : fr17 13 = (vI 0) := (congrFun hf18 13).trans rfl
  clear hf18
  refine thenQ.n ?_
  refine W.block ?_
  obtain ⟨y63, hy63, hr⟩ := bind_some hr
  refine W.keep (u_consist_check_0 _ (Zx.refl _) st h3 O11 h11 s0 h12 h13 hy63) ?_
  rintro ex69 fr64 m65 hk67 ⟨z66, hz68, st, ⟨y70, rfl, rfl, -⟩ | ⟨y73, rfl, rfl, h2, -⟩⟩
  ·dsimp only at hr
   replace hz := hz.trans hz68
   clear hk67
   refine blockQ.hit ?_
   refine thenQ.n (W.seq (W.region ?_))
   refine sx rfl (pAssign (v := (vI 0)) rfl rfl) ?_
   refine SeqW.done fun fr71 hf72 => ?_
   have h2 : fr71 2 = (vI 0) := (congrFun hf72 2).trans rfl
   clear hf72
   refine thenQ.n ?_
   refine W.ret ?_
   obtain rfl := Option.some.inj hr
   exact ⟨z66, hz, st, .inr rfl, h2, trivial⟩
  ·dsimp only at hr
   replace hz := hz.trans hz68
   clear hk67
   refine blockQ.r ?_
   refine thenQ.r ?_
   obtain rfl := Option.some.inj hr
   exact ⟨z66, hz, st, .inr rfl, h2, trivial⟩

theorem c_consist_check {N : Nat} {z : Nat → Blk} {m : Mem} {x0 : List Wagon} {v0 : Value} (fz : Fz z m) (hd : ∀ b, m.next ≤ b → m.blk b = .dead) (s0 : SlR TWagon z x0 v0) {r : Int} (hr : consist_check N x0 = some r) : CallW Try.prog 40 #[v0] m fun v m' => v = (vI r) ∧ m' = m := by
 refine CallW.flat Try.func40 rfl (by kernel_rfl) (Nat.le_of_ble_eq_true rfl) rfl (z := z) (fun fr hf => ?_)
 have h0 : fr 0 = _ := hf 0 _ rfl
 refine (u_consist_check (k := none) (Zx.refl _) (St.start fz hd) h0 s0 hr).mono ?_
 rintro ex fr' m' ⟨z', hz, st, he, h2, -⟩
 exact ⟨he, z', st, [(vI r)], ⟨h2.symm, trivial⟩, .inl rfl, rfl⟩

/-! ### humpyard/consist.Total -/

theorem u_consist_Total_0 : ∀ (n : Nat) {N : Nat}  {z0 z : Nat → Blk} {e m : Mem} {k : Option Nat} {fr : Nat → Value} {x2 : Int} {x3 : Int} {x4 : Int} {x14 : List Wagon} {x15 : Int} {x16 : Int} {v14 : Value} (hz : Zx e.next z0 z) (st : St z e m k) (h2 : fr 2 = (vI x2)) (h3 : fr 3 = (vI x3)) (h4 : fr 4 = (vI x4)) (h14 : fr 14 = v14) (s14 : SlR TWagon z x14 v14) (h15 : fr 15 = (vI x15)) (h16 : fr 16 = (vI x16)) {r : Int × Int × Int} (hr : consist_Total_0 N x14 x15 n x2 x3 x4 x16 = some r), W Try.prog (sub (bodyOf Try.f31) [1, 1, 0, 1, 0]) (fun ex fr' m' => ∃ z', Zx e.next z0 z' ∧ St z' e m' k ∧ ex = AExit.exit 0 ∧ fr' 2 = (vI r.1) ∧ fr' 3 = (vI r.2.1) ∧ fr' 4 = (vI r.2.2) ∧ True) fr m := by
 intro n
 induction n with
 | zero => intro N z0 z e m k fr x2 x3 x4 x14 x15 x16 v14 hz st h2 h3 h4 h14 s14 h15 h16 r hr; cases (show (none : Option _) = some r from hr)
 | succ n ih =>
  intro N z0 z e m k fr x2 x3 x4 x14 x15 x16 v14 hz st h2 h3 h4 h14 s14 h15 h16 r hr
  unfold consist_Total_0 at hr
  refine W.loop1 ?_
  refine W.seq (W.region ?_)
  refine sx rfl (pLss (k := .i64) (a := x16) (b := x15) rfl h16 h15) ?_
  refine SeqW.done fun fr14 hf15 => ?_
  have h2 := (congrFun hf15 2).trans h2
  have h3 := (congrFun hf15 3).trans h3
  have h4 := (congrFun hf15 4).trans h4
  have h14 := (congrFun hf15 14).trans h14
  have h15 := (congrFun hf15 15).trans h15
  have h16 := (congrFun hf15 16).trans h16
  have h17 : fr14 17 = (vB (decide (x16 < x15))) := (congrFun hf15 17).trans rfl
  clear hf15
  refine thenQ.n (W.seq ?_)
  rcases if_some hr with ⟨hc16, hr⟩ | ⟨hc44, hr⟩
  ·refine W.condT h17 hc16 (W.skip ?_)
   refine thenQ.n (W.seq ?_)
   refine W.block ?_
   refine W.seq (W.region ?_)
   obtain ⟨y17, hy17, hr⟩ := bind_some hr
   refine SeqW.consX rfl (kIdxR (T := TWagon) (xs := x14) (n := x16) rfl Try.underlying25 Try.type48 rfl h14 h16 s14 hy17 ?_)
   intro B18 f19 cs20 hd21 hc22
   obtain rfl := hd21
   refine SeqW.consX rfl (kLoadA rfl Try.underlying48 rfl Try.type48 rfl rfl (st.loads hc22) ?_)
   refine SeqW.consX rfl (kAlloc rfl Try.type48 rfl rfl rfl [(str []), (vI 0), (vI 0), (vI 0), (vI 0), (vI 0), (vB false), (str [])] rfl st ?_)
   intro B23 m24 st X25 sm26 hap27
   refine SeqW.consX rfl (kPut (off := 0) (w := (Value.agg [(str y17.number), (vI y17.length), (vI y17.axles), (vI y17.mass), (vI y17.brake), (vI y17.goods), (vB y17.gentle), (str y17.dest)].toArray)) (new := [(str y17.number), (vI y17.length), (vI y17.axles), (vI y17.mass), (vI y17.brake), (vI y17.goods), (vB y17.gentle), (str y17.dest)]) rfl Try.type48 rfl rfl rfl rfl rfl X25 rfl [(str y17.number), (vI y17.length), (vI y17.axles), (vI y17.mass), (vI y17.brake), (vI y17.goods), (vB y17.gentle), (str y17.dest)] rfl st ?_)
   intro m29 st X25 sm30
   refine SeqW.done fun fr31 hf32 => ?_
   have h2 := (congrFun hf32 2).trans h2
   have h3 := (congrFun hf32 3).trans h3
   have h4 := (congrFun hf32 4).trans h4
   have h8 : fr31 8 = (vP B23) := (congrFun hf32 8).trans rfl
   have h14 := (congrFun hf32 14).trans h14
   have h15 := (congrFun hf32 15).trans h15
   have h16 := (congrFun hf32 16).trans h16
   clear hf32
   refine thenQ.n (W.seq (W.region ?_))
   refine sx rfl (pMove (v := (vI x2)) rfl h2) ?_
   refine SeqW.consX rfl (kField rfl Try.underlying48 rfl Try.type3 rfl h8 rfl ?_)
   refine SeqW.consX rfl (kLoad rfl Try.underlying3 rfl rfl (X25.load (v := (vI y17.length)) rfl) ?_)
   refine sx rfl (pAdd (k := .i64) (a := x2) (b := y17.length) rfl rfl rfl) ?_
   obtain ⟨y33, hy33, hr⟩ := lt_some hr
   refine sx rfl (pAssign rfl (congrArg (Value.int .i64) hy33)) ?_
   refine SeqW.done fun fr34 hf35 => ?_
   have h2 : fr34 2 = (vI y33) := (congrFun hf35 2).trans rfl
   have h3 := (congrFun hf35 3).trans h3
   have h4 := (congrFun hf35 4).trans h4
   have h8 := (congrFun hf35 8).trans h8
   have h14 := (congrFun hf35 14).trans h14
   have h15 := (congrFun hf35 15).trans h15
   have h16 := (congrFun hf35 16).trans h16
   clear hf35
   refine thenQ.n (W.seq (W.region ?_))
   refine sx rfl (pMove (v := (vI x3)) rfl h3) ?_
   refine SeqW.consX rfl (kField rfl Try.underlying48 rfl Try.type3 rfl h8 rfl ?_)
   refine SeqW.consX rfl (kLoad rfl Try.underlying3 rfl rfl (X25.load (v := (vI y17.mass)) rfl) ?_)
   refine sx rfl (pAdd (k := .i64) (a := x3) (b := y17.mass) rfl rfl rfl) ?_
   obtain ⟨y36, hy36, hr⟩ := lt_some hr
   refine sx rfl (pAssign rfl (congrArg (Value.int .i64) hy36)) ?_
   refine SeqW.done fun fr37 hf38 => ?_
   have h2 := (congrFun hf38 2).trans h2
   have h3 : fr37 3 = (vI y36) := (congrFun hf38 3).trans rfl
   have h4 := (congrFun hf38 4).trans h4
   have h8 := (congrFun hf38 8).trans h8
   have h14 := (congrFun hf38 14).trans h14
   have h15 := (congrFun hf38 15).trans h15
   have h16 := (congrFun hf38 16).trans h16
   clear hf38
   refine thenQ.n (W.region ?_)
   refine sx rfl (pMove (v := (vI x4)) rfl h4) ?_
   refine SeqW.consX rfl (kField rfl Try.underlying48 rfl Try.type3 rfl h8 rfl ?_)
   refine SeqW.consX rfl (kLoad rfl Try.underlying3 rfl rfl (X25.load (v := (vI y17.axles)) rfl) ?_)
   refine sx rfl (pAdd (k := .i64) (a := x4) (b := y17.axles) rfl rfl rfl) ?_
   obtain ⟨y39, hy39, hr⟩ := lt_some hr
   refine sx rfl (pAssign rfl (congrArg (Value.int .i64) hy39)) ?_
   refine SeqW.done fun fr40 hf41 => ?_
   have h2 := (congrFun hf41 2).trans h2
   have h3 := (congrFun hf41 3).trans h3
   have h4 : fr40 4 = (vI y39) := (congrFun hf41 4).trans rfl
   have h14 := (congrFun hf41 14).trans h14
   have h15 := (congrFun hf41 15).trans h15
   have h16 := (congrFun hf41 16).trans h16
   clear hf41
   refine blockQ.n ?_
   refine thenQ.n (W.region ?_)
   refine sx rfl (pAdd (k := .i64) (a := x16) (b := 1) rfl h16 rfl) ?_
   refine sx rfl (pMove (v := (vI (IntKind.wrap .i64 (x16 + 1)))) rfl rfl) ?_
   refine SeqW.done fun fr42 hf43 => ?_
   have h2 := (congrFun hf43 2).trans h2
   have h3 := (congrFun hf43 3).trans h3
   have h4 := (congrFun hf43 4).trans h4
   have h14 := (congrFun hf43 14).trans h14
   have h15 := (congrFun hf43 15).trans h15
   have h16 : fr42 16 = (vI (IntKind.wrap .i64 (x16 + 1))) := (congrFun hf43 16).trans rfl
   clear hf43
   refine thenQ.n ?_
   exact ih hz st h2 h3 h4 h14 s14 h15 h16 hr
  ·refine W.condF h17 hc44 ?_
   refine W.exit ?_
   refine thenQ.x ?_
   refine thenQ.x ?_
   obtain rfl := Option.some.inj hr
   exact ⟨z, hz, st, rfl, h2, h3, h4, trivial⟩

theorem u_consist_Total {N : Nat}  {z0 z : Nat → Blk} {e m : Mem} {k : Option Nat} {fr : Nat → Value} {x0 : List Wagon} {v0 : Value} (hz : Zx e.next z0 z) (st : St z e m k) (h0 : fr 0 = v0) (s0 : SlR TWagon z x0 v0) {r : Int × Int × Int × Int} (hr : consist_Total N x0 = some r) : W Try.prog (sub (bodyOf Try.f31) []) (fun ex fr' m' => ∃ z', Zx e.next z0 z' ∧ St z' e m' k ∧ (ex = .normal ∨ ex = .ret) ∧ fr' 2 = (vI r.1) ∧ fr' 3 = (vI r.2.1) ∧ fr' 4 = (vI r.2.2.1) ∧ fr' 5 = (vI r.2.2.2) ∧ True) fr m := by
 unfold consist_Total at hr
 refine W.seq (W.region ?_)
 refine sx rfl (pAssign (v := (vI 0)) rfl rfl) ?_
 refine sx rfl (pAssign (v := (vI 0)) rfl rfl) ?_
 refine sx rfl (pAssign (v := (vI 0)) rfl rfl) ?_
 refine sx rfl (pAssign (v := (vI 0)) rfl rfl) ?_
 refine SeqW.done fun fr1 hf2 => ?_
 have h0 := (congrFun hf2 0).trans h0
 have h2 : fr1 2 = (vI 0) := (congrFun hf2 2).trans rfl
 have h3 : fr1 3 = (vI 0) := (congrFun hf2 3).trans rfl
 have h4 : fr1 4 = (vI 0) := (congrFun hf2 4).trans rfl
 clear hf2
 refine thenQ.n (W.seq ?_)
 refine W.seq (W.region ?_)
 refine sx rfl (pMove (v := v0) rfl h0) ?_
 obtain ⟨y3, hy3, hr⟩ := bind_some hr
 refine SeqW.consX rfl (StepX.call (gCallee rfl rfl (args1 rfl)) ((c_consist_check (z := z) st.fz st.dead s0 hy3).mono ?_))
 rintro _ _ ⟨rfl, rfl⟩
 refine sx rfl (pAssign (v := (vI y3)) rfl rfl) ?_
 refine SeqW.done fun fr4 hf5 => ?_
 have h0 := (congrFun hf5 0).trans h0
 have h2 := (congrFun hf5 2).trans h2
 have h3 := (congrFun hf5 3).trans h3
 have h4 := (congrFun hf5 4).trans h4
 have h6 : fr4 6 = (vI y3) := (congrFun hf5 6).trans rfl
 clear hf5
 refine thenQ.n (W.seq (W.region ?_))
 refine sx rfl (pMove (v := (vI y3)) rfl h6) ?_
 refine sx rfl (pNeq (k := .i64) (a := y3) (b := 0) rfl rfl rfl) ?_
 refine SeqW.done fun fr6 hf7 => ?_
 have h0 := (congrFun hf7 0).trans h0
 have h2 := (congrFun hf7 2).trans h2
 have h3 := (congrFun hf7 3).trans h3
 have h4 := (congrFun hf7 4).trans h4
 have h6 := (congrFun hf7 6).trans h6
 have h12 : fr6 12 = (vB (y3 != 0)) := (congrFun hf7 12).trans rfl
 clear hf7
 refine thenQ.n ?_
 rcases if_some hr with ⟨hc8, hr⟩ | ⟨hc11, hr⟩
 ·refine W.condT h12 hc8 (W.seq (W.region ?_))
  refine sx rfl (pMove (v := (vI y3)) rfl h6) ?_
  refine sx rfl (pAssign (v := (vI 0)) rfl rfl) ?_
  refine sx rfl (pAssign (v := (vI 0)) rfl rfl) ?_
  refine sx rfl (pAssign (v := (vI 0)) rfl rfl) ?_
  refine sx rfl (pAssign (v := (vI y3)) rfl rfl) ?_
  refine SeqW.done fun fr9 hf10 => ?_
  have h2 : fr9 2 = (vI 0) := (congrFun hf10 2).trans rfl
  have h3 : fr9 3 = (vI 0) := (congrFun hf10 3).trans rfl
  have h4 : fr9 4 = (vI 0) := (congrFun hf10 4).trans rfl
  have h5 : fr9 5 = (vI y3) := (congrFun hf10 5).trans rfl
  clear hf10
  refine thenQ.n ?_
  refine W.ret ?_
  refine thenQ.r ?_
  obtain rfl := Option.some.inj hr
  exact ⟨z, hz, st, .inr rfl, h2, h3, h4, h5, trivial⟩
 ·refine W.condF h12 hc11 (W.skip ?_)
  refine thenQ.n (W.seq ?_)
  refine W.seq (W.region ?_)
  refine sx rfl (pMove (v := v0) rfl h0) ?_
  refine sx rfl (pLenR (xs := x0) rfl Try.underlying25 rfl s0) ?_
  refine sx rfl (pMove (v := (vI 0)) rfl rfl) ?_
  refine SeqW.done fun fr12 hf13 => ?_
  have h2 := (congrFun hf13 2).trans h2
  have h3 := (congrFun hf13 3).trans h3
  have h4 := (congrFun hf13 4).trans h4
  have h14 : fr12 14 = v0 := (congrFun hf13 14).trans rfl
  have h15 : fr12 15 = (vI (x0.length : Int)) := (congrFun hf13 15).trans rfl
  have h16 : fr12 16 = (vI 0) := (congrFun hf13 16).trans rfl
  clear hf13
  refine thenQ.n ?_
  refine W.block ?_
  obtain ⟨y45, hy45, hr⟩ := bind_some hr
  refine W.keep (u_consist_Total_0 _ (Zx.refl _) st h2 h3 h4 h14 s0 h15 h16 hy45) ?_
  rintro ex51 fr46 m47 hk49 ⟨z48, hz50, st, rfl, h2, h3, h4, -⟩
  replace hz := hz.trans hz50
  clear hk49
  refine blockQ.hit ?_
  refine thenQ.n (W.seq (W.region ?_))
  refine sx rfl (pMove (v := (vI y45.1)) rfl h2) ?_
  refine sx rfl (pMove (v := (vI y45.2.1)) rfl h3) ?_
  refine sx rfl (pMove (v := (vI y45.2.2)) rfl h4) ?_
  refine sx rfl (pAssign (v := (vI y45.1)) rfl rfl) ?_
  refine sx rfl (pAssign (v := (vI y45.2.1)) rfl rfl) ?_
  refine sx rfl (pAssign (v := (vI y45.2.2)) rfl rfl) ?_
  refine sx rfl (pAssign (v := (vI 0)) rfl rfl) ?_
  refine SeqW.done fun fr52 hf53 => ?_
  have h2 : fr52 2 = (vI y45.1) := (congrFun hf53 2).trans rfl
  have h3 : fr52 3 = (vI y45.2.1) := (congrFun hf53 3).trans rfl
  have h4 : fr52 4 = (vI y45.2.2) := (congrFun hf53 4).trans rfl
  have h5 : fr52 5 = (vI 0) := (congrFun hf53 5).trans rfl
  clear hf53
  refine thenQ.n ?_
  refine W.ret ?_
  obtain rfl := Option.some.inj hr
  exact ⟨z48, hz, st, .inr rfl, h2, h3, h4, h5, trivial⟩

theorem c_consist_Total {N : Nat} {z : Nat → Blk} {m : Mem} {x0 : List Wagon} {v0 : Value} (fz : Fz z m) (hd : ∀ b, m.next ≤ b → m.blk b = .dead) (s0 : SlR TWagon z x0 v0) {r : Int × Int × Int × Int} (hr : consist_Total N x0 = some r) : CallW Try.prog 31 #[v0] m fun v m' => v = (Value.tuple [(vI r.1), (vI r.2.1), (vI r.2.2.1), (vI r.2.2.2)].toArray) ∧ m' = m := by
 refine CallW.flat Try.func31 rfl (by kernel_rfl) (Nat.le_of_ble_eq_true rfl) rfl (z := z) (fun fr hf => ?_)
 have h0 : fr 0 = _ := hf 0 _ rfl
 refine (u_consist_Total (k := none) (Zx.refl _) (St.start fz hd) h0 s0 hr).mono ?_
 rintro ex fr' m' ⟨z', hz, st, he, h2, h3, h4, h5, -⟩
 exact ⟨he, z', st, [(vI r.1), (vI r.2.1), (vI r.2.2.1), (vI r.2.2.2)], ⟨h2.symm, h3.symm, h4.symm, h5.symm, trivial⟩, .inr (List.forall_mem_cons.2 ⟨rfl, List.forall_mem_cons.2 ⟨rfl, List.forall_mem_cons.2 ⟨rfl, List.forall_mem_cons.2 ⟨rfl, fun _ h => nomatch h⟩⟩⟩⟩), rfl⟩

/-! ### humpyard/brake.Total -/

theorem u_brake_Total_0 : ∀ (n : Nat) {N : Nat}  {z0 z : Nat → Blk} {e m : Mem} {k : Option Nat} {fr : Nat → Value} {x0 : List Wagon} {x4 : Brakes} {x32 : List Int} {x33 : Int} {x34 : Int} {v0 : Value} {b4 : Nat} {x10 : List Bool} {v10 : Value} {v32 : Value} (hz : Zx e.next z0 z) (st : St z e m k) (h0 : fr 0 = v0) (s0 : SlR TWagon z x0 v0) (h4 : fr 4 = (vP b4)) (bx4 : Bx z e m k b4 [(vI x4.length), (vI x4.axles), (vI x4.mass), (vI x4.braked), (vI x4.percent), (vI x4.required), (vI x4.missing)] 33) (h10 : fr 10 = v10) (o10 : OwF (TBool 4) z e m k x10 v10) (h32 : fr 32 = v32) (s32 : SlR (TInt 3 .i64) z x32 v32) (h33 : fr 33 = (vI x33)) (h34 : fr 34 = (vI x34)) (ao4_o10 : Ap (some b4) (blkOf v10)) {r : Sum (Brakes) (Brakes × Int)} (hr : brake_Total_0 N x0 x32 x33 n x4 x34 = some r), W Try.prog (sub (bodyOf Try.f18) [1, 1, 1, 1, 0, 1, 0]) (fun ex fr' m' => ∃ z', Zx e.next z0 z' ∧ St z' e m' k ∧ ((∃ q, r = Sum.inl q ∧ ex = AExit.exit 0 ∧ fr' 4 = (vP b4) ∧ Bx z' e m' k b4 [(vI q.length), (vI q.axles), (vI q.mass), (vI q.braked), (vI q.percent), (vI q.required), (vI q.missing)] 33 ∧ OwF (TBool 4) z' e m' k x10 v10 ∧ Ap (some b4) (blkOf v10) ∧ True) ∨ (∃ q, r = Sum.inr q ∧ ex = AExit.ret ∧ fr' 4 = (vP b4) ∧ Bx z' e m' k b4 [(vI q.1.length), (vI q.1.axles), (vI q.1.mass), (vI q.1.braked), (vI q.1.percent), (vI q.1.required), (vI q.1.missing)] 33 ∧ fr' 5 = (vI q.2) ∧ True))) fr m := by
 intro n
 induction n with
 | zero => intro N z0 z e m k fr x0 x4 x32 x33 x34 v0 b4 x10 v10 v32 hz st h0 s0 h4 bx4 h10 o10 h32 s32 h33 h34 ao4_o10 r hr; cases (show (none : Option _) = some r from hr)
 | succ n ih =>
  intro N z0 z e m k fr x0 x4 x32 x33 x34 v0 b4 x10 v10 v32 hz st h0 s0 h4 bx4 h10 o10 h32 s32 h33 h34 ao4_o10 r hr
  unfold brake_Total_0 at hr
  refine W.loop1 ?_
  refine W.seq (W.region ?_)
  refine sx rfl (pLss (k := .i64) (a := x34) (b := x33) rfl h34 h33) ?_
  refine SeqW.done fun fr32 hf33 => ?_
  have h0 := (congrFun hf33 0).trans h0
  have h4 := (congrFun hf33 4).trans h4
  have h10 := (congrFun hf33 10).trans h10
  have h32 := (congrFun hf33 32).trans h32
  have h33 := (congrFun hf33 33).trans h33
  have h34 := (congrFun hf33 34).trans h34
  have h35 : fr32 35 = (vB (decide (x34 < x33))) := (congrFun hf33 35).trans rfl
  clear hf33
  refine thenQ.n (W.seq ?_)
  rcases if_some hr with ⟨hc34, hr⟩ | ⟨hc54, hr⟩
  ·refine W.condT h35 hc34 (W.skip ?_)
   refine thenQ.n (W.seq ?_)
   refine W.block ?_
   refine W.seq (W.region ?_)
   obtain ⟨y35, hy35, hr⟩ := bind_some hr
   refine SeqW.consX rfl (kIdxR (T := (TInt 3 .i64)) (xs := x32) (n := x34) rfl Try.underlying22 Try.type3 rfl h32 h34 s32 hy35 ?_)
   intro B36 f37 cs38 hd39 hc40
   obtain rfl := hd39
   refine SeqW.consX rfl (kLoad (v := (vI y35)) rfl Try.underlying3 rfl rfl (ldz_load st.fz (hc40 0 _ rfl)) ?_)
   refine sx rfl (pAssign (v := (vI y35)) rfl rfl) ?_
   refine SeqW.done fun fr41 hf42 => ?_
   have h0 := (congrFun hf42 0).trans h0
   have h4 := (congrFun hf42 4).trans h4
   have h10 := (congrFun hf42 10).trans h10
   have h12 : fr41 12 = (vI y35) := (congrFun hf42 12).trans rfl
   have h32 := (congrFun hf42 32).trans h32
   have h33 := (congrFun hf42 33).trans h33
   have h34 := (congrFun hf42 34).trans h34
   clear hf42
   refine thenQ.n (W.seq (W.region ?_))
   refine sx rfl (pMove (v := (vI y35)) rfl h12) ?_
   refine sx rfl (pMove (v := v0) rfl h0) ?_
   refine sx rfl (pLenR (xs := x0) rfl Try.underlying25 rfl s0) ?_
   refine sx rfl (pSub (k := .i64) (a := (x0.length : Int)) (b := 1) rfl rfl rfl) ?_
   obtain ⟨y43, hy43, hr⟩ := bind_some hr
   refine SeqW.consX rfl (StepX.call (gCallee rfl rfl (args3 rfl rfl rfl)) ((c_brake_in (z := z) st.fz st.dead  hy43).mono ?_))
   rintro _ _ ⟨rfl, rfl⟩
   refine sx rfl (pNot (b := y43) rfl rfl) ?_
   refine SeqW.done fun fr44 hf45 => ?_
   have h0 := (congrFun hf45 0).trans h0
   have h4 := (congrFun hf45 4).trans h4
   have h10 := (congrFun hf45 10).trans h10
   have h32 := (congrFun hf45 32).trans h32
   have h33 := (congrFun hf45 33).trans h33
   have h34 := (congrFun hf45 34).trans h34
   have h43 : fr44 43 = (vB (!y43)) := (congrFun hf45 43).trans rfl
   clear hf45
   refine thenQ.n ?_
   rcases if_some hr with ⟨hc46, hr⟩ | ⟨hc51, hr⟩
   ·refine W.condT h43 hc46 (W.seq (W.region ?_))
    refine SeqW.consX rfl (kBuildS [] [(vI 0), (vI 0), (vI 0), (vI 0), (vI 0), (vI 0), (vI 0)] rfl Try.underlying33 Try.type33 rfl rfl (places33 Try.underlying33) rfl (rfl) rfl ?_)
    refine SeqW.consX rfl (kPut (off := 0) (w := (Value.agg [(vI 0), (vI 0), (vI 0), (vI 0), (vI 0), (vI 0), (vI 0)].toArray)) (new := [(vI 0), (vI 0), (vI 0), (vI 0), (vI 0), (vI 0), (vI 0)]) rfl Try.type33 h4 rfl rfl rfl rfl bx4 rfl [(vI 0), (vI 0), (vI 0), (vI 0), (vI 0), (vI 0), (vI 0)] rfl st ?_)
    intro m47 st bx4 sm48
    refine sx rfl (pAssign (v := (vI 2)) rfl rfl) ?_
    refine SeqW.done fun fr49 hf50 => ?_
    have h4 := (congrFun hf50 4).trans h4
    have h5 : fr49 5 = (vI 2) := (congrFun hf50 5).trans rfl
    clear hf50
    refine thenQ.n ?_
    refine W.ret ?_
    refine blockQ.r ?_
    refine thenQ.r ?_
    refine thenQ.r ?_
    obtain rfl := Option.some.inj hr
    exact ⟨z, hz, st, .inr ⟨_, rfl, rfl, h4, bx4, h5, trivial⟩⟩
   ·refine W.condF h43 hc51 (W.skip ?_)
    refine blockQ.n ?_
    refine thenQ.n (W.region ?_)
    refine sx rfl (pAdd (k := .i64) (a := x34) (b := 1) rfl h34 rfl) ?_
    refine sx rfl (pMove (v := (vI (IntKind.wrap .i64 (x34 + 1)))) rfl rfl) ?_
    refine SeqW.done fun fr52 hf53 => ?_
    have h0 := (congrFun hf53 0).trans h0
    have h4 := (congrFun hf53 4).trans h4
    have h10 := (congrFun hf53 10).trans h10
    have h32 := (congrFun hf53 32).trans h32
    have h33 := (congrFun hf53 33).trans h33
    have h34 : fr52 34 = (vI (IntKind.wrap .i64 (x34 + 1))) := (congrFun hf53 34).trans rfl
    clear hf53
    refine thenQ.n ?_
    exact ih (x4 := x4) hz st h0 s0 h4 bx4 h10 o10 h32 s32 h33 h34 ao4_o10 hr
  ·refine W.condF h35 hc54 ?_
   refine W.exit ?_
   refine thenQ.x ?_
   refine thenQ.x ?_
   obtain rfl := Option.some.inj hr
   exact ⟨z, hz, st, .inl ⟨_, rfl, rfl, h4, bx4, o10, ao4_o10, trivial⟩⟩

theorem u_brake_Total_1 : ∀ (n : Nat) {N : Nat}  {z0 z : Nat → Blk} {e m : Mem} {k : Option Nat} {fr : Nat → Value} {x4 : Brakes} {x10 : List Bool} {x46 : List Int} {x47 : Int} {x48 : Int} {b4 : Nat} {v10 : Value} {v46 : Value} (hz : Zx e.next z0 z) (st : St z e m k) (h4 : fr 4 = (vP b4)) (bx4 : Bx z e m k b4 [(vI x4.length), (vI x4.axles), (vI x4.mass), (vI x4.braked), (vI x4.percent), (vI x4.required), (vI x4.missing)] 33) (h10 : fr 10 = v10) (o10 : OwF (TBool 4) z e m k x10 v10) (h46 : fr 46 = v46) (s46 : SlR (TInt 3 .i64) z x46 v46) (h47 : fr 47 = (vI x47)) (h48 : fr 48 = (vI x48)) (ao4_o10 : Ap (some b4) (blkOf v10)) {r : Sum (Brakes × List Bool) (Brakes × Int)} (hr : brake_Total_1 N x46 x47 n x4 x10 x48 = some r), W Try.prog (sub (bodyOf Try.f18) [1, 1, 1, 1, 1, 0, 1, 0]) (fun ex fr' m' => ∃ z', Zx e.next z0 z' ∧ St z' e m' k ∧ ((∃ q, r = Sum.inl q ∧ ex = AExit.exit 2 ∧ fr' 4 = (vP b4) ∧ Bx z' e m' k b4 [(vI q.1.length), (vI q.1.axles), (vI q.1.mass), (vI q.1.braked), (vI q.1.percent), (vI q.1.required), (vI q.1.missing)] 33 ∧ fr' 10 = v10 ∧ OwF (TBool 4) z' e m' k q.2 v10 ∧ Ap (some b4) (blkOf v10) ∧ True) ∨ (∃ q, r = Sum.inr q ∧ ex = AExit.ret ∧ fr' 4 = (vP b4) ∧ Bx z' e m' k b4 [(vI q.1.length), (vI q.1.axles), (vI q.1.mass), (vI q.1.braked), (vI q.1.percent), (vI q.1.required), (vI q.1.missing)] 33 ∧ fr' 5 = (vI q.2) ∧ True))) fr m := by
 intro n
 induction n with
 | zero => intro N z0 z e m k fr x4 x10 x46 x47 x48 b4 v10 v46 hz st h4 bx4 h10 o10 h46 s46 h47 h48 ao4_o10 r hr; cases (show (none : Option _) = some r from hr)
 | succ n ih =>
  intro N z0 z e m k fr x4 x10 x46 x47 x48 b4 v10 v46 hz st h4 bx4 h10 o10 h46 s46 h47 h48 ao4_o10 r hr
  unfold brake_Total_1 at hr
  refine W.loop1 ?_
  refine W.seq (W.region ?_)
  refine sx rfl (pLss (k := .i64) (a := x48) (b := x47) rfl h48 h47) ?_
  refine SeqW.done fun fr69 hf70 => ?_
  have h4 := (congrFun hf70 4).trans h4
  have h10 := (congrFun hf70 10).trans h10
  have h46 := (congrFun hf70 46).trans h46
  have h47 := (congrFun hf70 47).trans h47
  have h48 := (congrFun hf70 48).trans h48
  have h49 : fr69 49 = (vB (decide (x48 < x47))) := (congrFun hf70 49).trans rfl
  clear hf70
  refine thenQ.n (W.seq ?_)
  rcases if_some hr with ⟨hc71, hr⟩ | ⟨hc113, hr⟩
  ·refine W.condT h49 hc71 (W.skip ?_)
   refine thenQ.n (W.seq ?_)
   refine W.block ?_
   refine W.seq (W.region ?_)
   obtain ⟨y72, hy72, hr⟩ := bind_some hr
   refine SeqW.consX rfl (kIdxR (T := (TInt 3 .i64)) (xs := x46) (n := x48) rfl Try.underlying22 Try.type3 rfl h46 h48 s46 hy72 ?_)
   intro B73 f74 cs75 hd76 hc77
   obtain rfl := hd76
   refine SeqW.consX rfl (kLoad (v := (vI y72)) rfl Try.underlying3 rfl rfl (ldz_load st.fz (hc77 0 _ rfl)) ?_)
   refine sx rfl (pAssign (v := (vI y72)) rfl rfl) ?_
   refine SeqW.done fun fr78 hf79 => ?_
   have h4 := (congrFun hf79 4).trans h4
   have h10 := (congrFun hf79 10).trans h10
   have h14 : fr78 14 = (vI y72) := (congrFun hf79 14).trans rfl
   have h46 := (congrFun hf79 46).trans h46
   have h47 := (congrFun hf79 47).trans h47
   have h48 := (congrFun hf79 48).trans h48
   clear hf79
   refine thenQ.n (W.seq ?_)
   refine W.seq (W.region ?_)
   refine sx rfl (pMove (v := v10) rfl h10) ?_
   refine sx rfl (pMove (v := (vI y72)) rfl h14) ?_
   obtain ⟨y80, hy80, hr⟩ := bind_some hr
   refine SeqW.consX rfl (kIdxO (T := (TBool 4)) (xs := x10) (n := y72) rfl Try.underlying62 Try.type4 rfl rfl rfl o10 hy80 ?_)
   intro B81 l82 c83 cs84 hv85 hd86 hg87 hc88
   have hd860 := hd86
   obtain rfl := hd860
   refine SeqW.consX rfl (kLoad (v := (vB y80)) rfl Try.underlying4 rfl rfl (hc88 0 _ rfl) ?_)
   refine SeqW.done fun fr89 hf90 => ?_
   have h4 := (congrFun hf90 4).trans h4
   have h10 := (congrFun hf90 10).trans h10
   have h14 := (congrFun hf90 14).trans h14
   have h46 := (congrFun hf90 46).trans h46
   have h47 := (congrFun hf90 47).trans h47
   have h48 := (congrFun hf90 48).trans h48
   have h55 : fr89 55 = (vB y80) := (congrFun hf90 55).trans rfl
   clear hf90
   refine thenQ.n ?_
   rcases if_some hr with ⟨hc91, hr⟩ | ⟨hc96, hr⟩
   ·refine W.condT h55 hc91 (W.seq (W.region ?_))
    refine SeqW.consX rfl (kBuildS [] [(vI 0), (vI 0), (vI 0), (vI 0), (vI 0), (vI 0), (vI 0)] rfl Try.underlying33 Try.type33 rfl rfl (places33 Try.underlying33) rfl (rfl) rfl ?_)
    refine SeqW.consX rfl (kPut (off := 0) (w := (Value.agg [(vI 0), (vI 0), (vI 0), (vI 0), (vI 0), (vI 0), (vI 0)].toArray)) (new := [(vI 0), (vI 0), (vI 0), (vI 0), (vI 0), (vI 0), (vI 0)]) rfl Try.type33 h4 rfl rfl rfl rfl bx4 rfl [(vI 0), (vI 0), (vI 0), (vI 0), (vI 0), (vI 0), (vI 0)] rfl st ?_)
    intro m92 st bx4 sm93
    refine sx rfl (pAssign (v := (vI 8)) rfl rfl) ?_
    refine SeqW.done fun fr94 hf95 => ?_
    have h4 := (congrFun hf95 4).trans h4
    have h5 : fr94 5 = (vI 8) := (congrFun hf95 5).trans rfl
    clear hf95
    refine thenQ.n ?_
    refine W.ret ?_
    refine thenQ.r ?_
    refine blockQ.r ?_
    refine thenQ.r ?_
    refine thenQ.r ?_
    obtain rfl := Option.some.inj hr
    exact ⟨z, hz, st, .inr ⟨_, rfl, rfl, h4, bx4, h5, trivial⟩⟩
   ·refine W.condF h55 hc96 (W.skip ?_)
    refine thenQ.n (W.region ?_)
    refine sx rfl (pMove (v := v10) rfl h10) ?_
    refine sx rfl (pMove (v := (vI y72)) rfl h14) ?_
    obtain ⟨y97, hy97, hr⟩ := bind_some hr
    refine SeqW.consX rfl (kIdxO (T := (TBool 4)) (xs := x10) (n := y72) rfl Try.underlying62 Try.type4 rfl rfl rfl o10 hy97 ?_)
    intro B98 l99 c100 cs101 hv102 hd103 hg104 hc105
    have hd1030 := hd103
    obtain rfl := hd1030
    refine SeqW.consX rfl (kSet (T := (TBool 4)) (off := (y72 : Int).toNat * ((TBool 4)).sz) (n := (y72 : Int).toNat) (f := 0) (w := (vB true)) (new := [(vB true)]) (ecs := [(vB y97)]) (ecs' := [(vB true)]) (a := y97) (a' := true) rfl Try.type4 rfl rfl rfl rfl rfl rfl o10 hv102 hg104 hd103 hc105 rfl rfl rfl st ?_)
    intro m106 st o10 sm107
    obtain ⟨y108, hy108, hr⟩ := lt_some hr
    rw [hy108] at o10
    replace bx4 := bx4.same sm107 ao4_o10
    refine SeqW.done fun fr109 hf110 => ?_
    have h4 := (congrFun hf110 4).trans h4
    have h10 := (congrFun hf110 10).trans h10
    have h46 := (congrFun hf110 46).trans h46
    have h47 := (congrFun hf110 47).trans h47
    have h48 := (congrFun hf110 48).trans h48
    clear hf110
    refine blockQ.n ?_
    refine thenQ.n (W.region ?_)
    refine sx rfl (pAdd (k := .i64) (a := x48) (b := 1) rfl h48 rfl) ?_
    refine sx rfl (pMove (v := (vI (IntKind.wrap .i64 (x48 + 1)))) rfl rfl) ?_
    refine SeqW.done fun fr111 hf112 => ?_
    have h4 := (congrFun hf112 4).trans h4
    have h10 := (congrFun hf112 10).trans h10
    have h46 := (congrFun hf112 46).trans h46
    have h47 := (congrFun hf112 47).trans h47
    have h48 : fr111 48 = (vI (IntKind.wrap .i64 (x48 + 1))) := (congrFun hf112 48).trans rfl
    clear hf112
    refine thenQ.n ?_
    exact ih (x4 := x4) hz st h4 bx4 h10 o10 h46 s46 h47 h48 ao4_o10 hr
  ·refine W.condF h49 hc113 ?_
   refine W.exit ?_
   refine thenQ.x ?_
   refine thenQ.x ?_
   obtain rfl := Option.some.inj hr
   exact ⟨z, hz, st, .inl ⟨_, rfl, rfl, h4, bx4, h10, o10, ao4_o10, trivial⟩⟩

theorem u_brake_Total_3 {N : Nat}  {z0 z : Nat → Blk} {e m : Mem} {k : Option Nat} {fr : Nat → Value} {x10 : List Bool} {x15 : Brakes} {x65 : List Wagon} {x67 : Int} {x4 : Brakes} {b4 : Nat} {v10 : Value} {b15 : Nat} {v65 : Value} (hz : Zx e.next z0 z) (st : St z e m k) (h4 : fr 4 = (vP b4)) (bx4 : Bx z e m k b4 [(vI x4.length), (vI x4.axles), (vI x4.mass), (vI x4.braked), (vI x4.percent), (vI x4.required), (vI x4.missing)] 33) (h10 : fr 10 = v10) (o10 : OwF (TBool 4) z e m k x10 v10) (h15 : fr 15 = (vP b15)) (bx15 : Bx z e m k b15 [(vI x15.length), (vI x15.axles), (vI x15.mass), (vI x15.braked), (vI x15.percent), (vI x15.required), (vI x15.missing)] 33) (h65 : fr 65 = v65) (s65 : SlR TWagon z x65 v65) (h67 : fr 67 = (vI x67)) (ao4_o10 : Ap (some b4) (blkOf v10)) (ao4_o15 : Ap (some b4) (some b15)) (ao10_o15 : Ap (blkOf v10) (some b15)) {r : Brakes} (hr : brake_Total_3 N x10 x15 x65 x67 = some r) : W Try.prog (sub (bodyOf Try.f18) [1, 1, 1, 1, 1, 1, 1, 0, 1, 0, 0, 1, 1, 0]) (fun ex fr' m' => ∃ z', Zx e.next z0 z' ∧ St z' e m' k ∧ ex = AExit.normal ∧ fr' 15 = (vP b15) ∧ Bx z' e m' k b15 [(vI r.length), (vI r.axles), (vI r.mass), (vI r.braked), (vI r.percent), (vI r.required), (vI r.missing)] 33 ∧ Bx z' e m' k b4 [(vI x4.length), (vI x4.axles), (vI x4.mass), (vI x4.braked), (vI x4.percent), (vI x4.required), (vI x4.missing)] 33 ∧ OwF (TBool 4) z' e m' k x10 v10 ∧ Ap (some b15) (some b4) ∧ Ap (some b15) (blkOf v10) ∧ Ap (some b4) (blkOf v10) ∧ True) fr m := by
 unfold brake_Total_3 at hr
 refine W.block ?_
 refine W.seq (W.region ?_)
 refine sx rfl (pMove (v := (vI x67)) rfl h67) ?_
 obtain ⟨y144, hy144, hr⟩ := bind_some hr
 refine SeqW.consX rfl (kIdxR (T := TWagon) (xs := x65) (n := x67) rfl Try.underlying25 Try.type48 rfl h65 h67 s65 hy144 ?_)
 intro B145 f146 cs147 hd148 hc149
 obtain rfl := hd148
 refine SeqW.consX rfl (kLoadA rfl Try.underlying48 rfl Try.type48 rfl rfl (st.loads hc149) ?_)
 refine SeqW.consX rfl (kAlloc rfl Try.type48 rfl rfl rfl [(str []), (vI 0), (vI 0), (vI 0), (vI 0), (vI 0), (vB false), (str [])] rfl st ?_)
 intro B150 m151 st X152 sm153 hap154
 have A156 := hap154 _ bx4.lt'
 have A157 := hap154 _ o10.lt
 have A158 := hap154 _ bx15.lt'
 replace bx4 := bx4.same sm153 Ap.none'
 replace o10 := o10.same sm153 Ap.none'
 replace bx15 := bx15.same sm153 Ap.none'
 refine sx rfl (pAssign (v := (vI x67)) rfl rfl) ?_
 refine SeqW.consX rfl (kPut (off := 0) (w := (Value.agg [(str y144.number), (vI y144.length), (vI y144.axles), (vI y144.mass), (vI y144.brake), (vI y144.goods), (vB y144.gentle), (str y144.dest)].toArray)) (new := [(str y144.number), (vI y144.length), (vI y144.axles), (vI y144.mass), (vI y144.brake), (vI y144.goods), (vB y144.gentle), (str y144.dest)]) rfl Try.type48 rfl rfl rfl rfl rfl X152 rfl [(str y144.number), (vI y144.length), (vI y144.axles), (vI y144.mass), (vI y144.brake), (vI y144.goods), (vB y144.gentle), (str y144.dest)] rfl st ?_)
 intro m159 st X152 sm160
 replace bx4 := bx4.same sm160 A156
 replace o10 := o10.same sm160 A157
 replace bx15 := bx15.same sm160 A158
 refine SeqW.done fun fr161 hf162 => ?_
 have h4 := (congrFun hf162 4).trans h4
 have h10 := (congrFun hf162 10).trans h10
 have h15 := (congrFun hf162 15).trans h15
 have h16 : fr161 16 = (vI x67) := (congrFun hf162 16).trans rfl
 have h17 : fr161 17 = (vP B150) := (congrFun hf162 17).trans rfl
 have h65 := (congrFun hf162 65).trans h65
 have h67 := (congrFun hf162 67).trans h67
 clear hf162
 refine thenQ.n (W.seq (W.region ?_))
 refine sx rfl (pMove (v := v10) rfl h10) ?_
 refine sx rfl (pMove (v := (vI x67)) rfl h16) ?_
 obtain ⟨y163, hy163, hr⟩ := bind_some hr
 refine SeqW.consX rfl (kIdxO (T := (TBool 4)) (xs := x10) (n := x67) rfl Try.underlying62 Try.type4 rfl rfl rfl o10 hy163 ?_)
 intro B164 l165 c166 cs167 hv168 hd169 hg170 hc171
 have hd1690 := hd169
 obtain rfl := hd1690
 refine SeqW.consX rfl (kLoad (v := (vB y163)) rfl Try.underlying4 rfl rfl (hc171 0 _ rfl) ?_)
 refine sx rfl (pNot (b := y163) rfl rfl) ?_
 refine SeqW.done fun fr172 hf173 => ?_
 have h4 := (congrFun hf173 4).trans h4
 have h10 := (congrFun hf173 10).trans h10
 have h15 := (congrFun hf173 15).trans h15
 have h17 := (congrFun hf173 17).trans h17
 have h65 := (congrFun hf173 65).trans h65
 have h67 := (congrFun hf173 67).trans h67
 have h76 : fr172 76 = (vB (!y163)) := (congrFun hf173 76).trans rfl
 clear hf173
 refine thenQ.n ?_
 rcases if_some hr with ⟨hc174, hr⟩ | ⟨hc179, hr⟩
 ·refine W.condT h76 hc174 (W.region ?_)
  refine SeqW.consX rfl (kField rfl Try.underlying33 rfl Try.type3 rfl h15 rfl ?_)
  refine SeqW.consX rfl (kLoad rfl Try.underlying3 rfl rfl (bx15.load (v := (vI x15.braked)) rfl) ?_)
  refine SeqW.consX rfl (kField rfl Try.underlying48 rfl Try.type3 rfl h17 rfl ?_)
  refine SeqW.consX rfl (kLoad rfl Try.underlying3 rfl rfl (X152.load (v := (vI y144.brake)) rfl) ?_)
  refine sx rfl (pAdd (k := .i64) (a := x15.braked) (b := y144.brake) rfl rfl rfl) ?_
  refine SeqW.consX rfl (kField rfl Try.underlying33 rfl Try.type3 rfl h15 rfl ?_)
  refine SeqW.consX rfl (kPut (off := 3) (w := (vI (IntKind.wrap .i64 (x15.braked + y144.brake)))) (new := [(vI (IntKind.wrap .i64 (x15.braked + y144.brake)))]) rfl Try.type3 rfl rfl rfl rfl rfl bx15 rfl [(vI x15.length), (vI x15.axles), (vI x15.mass), (vI (IntKind.wrap .i64 (x15.braked + y144.brake))), (vI x15.percent), (vI x15.required), (vI x15.missing)] rfl st ?_)
  intro m175 st bx15 sm176
  replace bx4 := bx4.same sm176 ao4_o15
  replace o10 := o10.same sm176 ao10_o15
  refine SeqW.done fun fr177 hf178 => ?_
  have h4 := (congrFun hf178 4).trans h4
  have h10 := (congrFun hf178 10).trans h10
  have h15 := (congrFun hf178 15).trans h15
  have h65 := (congrFun hf178 65).trans h65
  have h67 := (congrFun hf178 67).trans h67
  clear hf178
  refine blockQ.n ?_
  obtain rfl := Option.some.inj hr
  exact ⟨z, hz, st, rfl, h15, bx15, bx4, o10, (Ap.symm ao4_o15), (Ap.symm ao10_o15), ao4_o10, trivial⟩
 ·refine W.condF h76 hc179 (W.skip ?_)
  refine blockQ.n ?_
  obtain rfl := Option.some.inj hr
  exact ⟨z, hz, st, rfl, h15, bx15, bx4, o10, (Ap.symm ao4_o15), (Ap.symm ao10_o15), ao4_o10, trivial⟩

theorem u_brake_Total_2 : ∀ (n : Nat) {N : Nat}  {z0 z : Nat → Blk} {e m : Mem} {k : Option Nat} {fr : Nat → Value} {x10 : List Bool} {x15 : Brakes} {x65 : List Wagon} {x66 : Int} {x67 : Int} {x4 : Brakes} {b4 : Nat} {v10 : Value} {b15 : Nat} {v65 : Value} (hz : Zx e.next z0 z) (st : St z e m k) (h4 : fr 4 = (vP b4)) (bx4 : Bx z e m k b4 [(vI x4.length), (vI x4.axles), (vI x4.mass), (vI x4.braked), (vI x4.percent), (vI x4.required), (vI x4.missing)] 33) (h10 : fr 10 = v10) (o10 : OwF (TBool 4) z e m k x10 v10) (h15 : fr 15 = (vP b15)) (bx15 : Bx z e m k b15 [(vI x15.length), (vI x15.axles), (vI x15.mass), (vI x15.braked), (vI x15.percent), (vI x15.required), (vI x15.missing)] 33) (h65 : fr 65 = v65) (s65 : SlR TWagon z x65 v65) (h66 : fr 66 = (vI x66)) (h67 : fr 67 = (vI x67)) (ao4_o10 : Ap (some b4) (blkOf v10)) (ao4_o15 : Ap (some b4) (some b15)) (ao10_o15 : Ap (blkOf v10) (some b15)) {r : Brakes} (hr : brake_Total_2 N x10 x65 x66 n x15 x67 = some r), W Try.prog (sub (bodyOf Try.f18) [1, 1, 1, 1, 1, 1, 1, 0, 1, 0]) (fun ex fr' m' => ∃ z', Zx e.next z0 z' ∧ St z' e m' k ∧ ex = AExit.exit 4 ∧ fr' 15 = (vP b15) ∧ Bx z' e m' k b15 [(vI r.length), (vI r.axles), (vI r.mass), (vI r.braked), (vI r.percent), (vI r.required), (vI r.missing)] 33 ∧ Bx z' e m' k b4 [(vI x4.length), (vI x4.axles), (vI x4.mass), (vI x4.braked), (vI x4.percent), (vI x4.required), (vI x4.missing)] 33 ∧ Ap (some b15) (some b4) ∧ True) fr m := by
 intro n
 induction n with
 | zero => intro N z0 z e m k fr x10 x15 x65 x66 x67 x4 b4 v10 b15 v65 hz st h4 bx4 h10 o10 h15 bx15 h65 s65 h66 h67 ao4_o10 ao4_o15 ao10_o15 r hr; cases (show (none : Option _) = some r from hr)
 | succ n ih =>
  intro N z0 z e m k fr x10 x15 x65 x66 x67 x4 b4 v10 b15 v65 hz st h4 bx4 h10 o10 h15 bx15 h65 s65 h66 h67 ao4_o10 ao4_o15 ao10_o15 r hr
  unfold brake_Total_2 at hr
  refine W.loop1 ?_
  refine W.seq (W.region ?_)
  refine sx rfl (pLss (k := .i64) (a := x67) (b := x66) rfl h67 h66) ?_
  refine SeqW.done fun fr141 hf142 => ?_
  have h4 := (congrFun hf142 4).trans h4
  have h10 := (congrFun hf142 10).trans h10
  have h15 := (congrFun hf142 15).trans h15
  have h65 := (congrFun hf142 65).trans h65
  have h66 := (congrFun hf142 66).trans h66
  have h67 := (congrFun hf142 67).trans h67
  have h68 : fr141 68 = (vB (decide (x67 < x66))) := (congrFun hf142 68).trans rfl
  clear hf142
  refine thenQ.n (W.seq ?_)
  rcases if_some hr with ⟨hc143, hr⟩ | ⟨hc196, hr⟩
  ·refine W.condT h68 hc143 (W.skip ?_)
   refine thenQ.n (W.seq ?_)
   obtain ⟨y180, hy180, hr⟩ := bind_some hr
   refine W.keep (u_brake_Total_3 (x4 := x4) (x15 := x15) (Zx.refl _) st h4 bx4 h10 o10 h15 bx15 h65 s65 h67 ao4_o10 ao4_o15 ao10_o15 hy180) ?_
   rintro ex186 fr181 m182 hk184 ⟨z183, hz185, st, rfl, h15, X188, O189, O190, A191, A192, A193, -⟩
   replace s65 := s65.mono hz185.le
   have h4 := (hk184 4 rfl).trans h4
   have h10 := (hk184 10 rfl).trans h10
   have h65 := (hk184 65 rfl).trans h65
   have h66 := (hk184 66 rfl).trans h66
   have h67 := (hk184 67 rfl).trans h67
   replace hz := hz.trans hz185
   clear hk184
   refine thenQ.n (W.region ?_)
   refine sx rfl (pAdd (k := .i64) (a := x67) (b := 1) rfl h67 rfl) ?_
   refine sx rfl (pMove (v := (vI (IntKind.wrap .i64 (x67 + 1)))) rfl rfl) ?_
   refine SeqW.done fun fr194 hf195 => ?_
   have h4 := (congrFun hf195 4).trans h4
   have h10 := (congrFun hf195 10).trans h10
   have h15 := (congrFun hf195 15).trans h15
   have h65 := (congrFun hf195 65).trans h65
   have h66 := (congrFun hf195 66).trans h66
   have h67 : fr194 67 = (vI (IntKind.wrap .i64 (x67 + 1))) := (congrFun hf195 67).trans rfl
   clear hf195
   refine thenQ.n ?_
   exact ih (x4 := x4) (x15 := y180) hz st h4 O189 h10 O190 h15 X188 h65 s65 h66 h67 A193 (Ap.symm A191) (Ap.symm A192) hr
  ·refine W.condF h68 hc196 ?_
   refine W.exit ?_
   refine thenQ.x ?_
   refine thenQ.x ?_
   obtain rfl := Option.some.inj hr
   exact ⟨z, hz, st, rfl, h15, bx15, bx4, (Ap.symm ao4_o15), trivial⟩

theorem u_brake_Total_4 {N : Nat}  {z0 z : Nat → Blk} {e m : Mem} {k : Option Nat} {fr : Nat → Value} {x7 : Int} {x15 : Brakes} {x92 : Bool} {x4 : Brakes} {b4 : Nat} {b15 : Nat} (hz : Zx e.next z0 z) (st : St z e m k) (h4 : fr 4 = (vP b4)) (bx4 : Bx z e m k b4 [(vI x4.length), (vI x4.axles), (vI x4.mass), (vI x4.braked), (vI x4.percent), (vI x4.required), (vI x4.missing)] 33) (h7 : fr 7 = (vI x7)) (h15 : fr 15 = (vP b15)) (bx15 : Bx z e m k b15 [(vI x15.length), (vI x15.axles), (vI x15.mass), (vI x15.braked), (vI x15.percent), (vI x15.required), (vI x15.missing)] 33) (h92 : fr 92 = (vB x92)) (ao4_o15 : Ap (some b4) (some b15)) {r : Brakes} (hr : brake_Total_4 N x7 x15 x92 = some r) : W Try.prog (sub (bodyOf Try.f18) [1, 1, 1, 1, 1, 1, 1, 1, 1, 0, 1]) (fun ex fr' m' => ∃ z', Zx e.next z0 z' ∧ St z' e m' k ∧ ex = AExit.normal ∧ fr' 15 = (vP b15) ∧ Bx z' e m' k b15 [(vI r.length), (vI r.axles), (vI r.mass), (vI r.braked), (vI r.percent), (vI r.required), (vI r.missing)] 33 ∧ Bx z' e m' k b4 [(vI x4.length), (vI x4.axles), (vI x4.mass), (vI x4.braked), (vI x4.percent), (vI x4.required), (vI x4.missing)] 33 ∧ Ap (some b15) (some b4) ∧ True) fr m := by
 unfold brake_Total_4 at hr
 rcases if_some hr with ⟨hc221, hr⟩ | ⟨hc227, hr⟩
 ·refine W.condT h92 hc221 (W.region ?_)
  refine SeqW.consX rfl (kField rfl Try.underlying33 rfl Try.type3 rfl h15 rfl ?_)
  refine SeqW.consX rfl (kLoad rfl Try.underlying3 rfl rfl (bx15.load (v := (vI x15.braked)) rfl) ?_)
  refine sx rfl (pMul (k := .i64) (a := 100) (b := x15.braked) rfl rfl rfl) ?_
  refine sx rfl (pMove (v := (vI x7)) rfl h7) ?_
  obtain ⟨y222, hy222, hr⟩ := bind_some hr
  refine SeqW.consX rfl (kQuo (k1 := .i64) (a := (IntKind.wrap .i64 (100 * x15.braked))) (b := x7) rfl rfl rfl hy222 ?_)
  refine SeqW.consX rfl (kField rfl Try.underlying33 rfl Try.type3 rfl h15 rfl ?_)
  refine SeqW.consX rfl (kPut (off := 4) (w := (vI (IntKind.wrap .i64 (y222)))) (new := [(vI (IntKind.wrap .i64 (y222)))]) rfl Try.type3 rfl rfl rfl rfl rfl bx15 rfl [(vI x15.length), (vI x15.axles), (vI x15.mass), (vI x15.braked), (vI (IntKind.wrap .i64 (y222))), (vI x15.required), (vI x15.missing)] rfl st ?_)
  intro m223 st bx15 sm224
  replace bx4 := bx4.same sm224 ao4_o15
  refine SeqW.done fun fr225 hf226 => ?_
  have h4 := (congrFun hf226 4).trans h4
  have h15 := (congrFun hf226 15).trans h15
  clear hf226
  obtain rfl := Option.some.inj hr
  exact ⟨z, hz, st, rfl, h15, bx15, bx4, (Ap.symm ao4_o15), trivial⟩
 ·refine W.condF h92 hc227 (W.skip ?_)
  obtain rfl := Option.some.inj hr
  exact ⟨z, hz, st, rfl, h15, bx15, bx4, (Ap.symm ao4_o15), trivial⟩

theorem u_brake_Total {N : Nat}  {z0 z : Nat → Blk} {e m : Mem} {k : Option Nat} {fr : Nat → Value} {x0 : List Wagon} {x1 : List Int} {v0 : Value} {v1 : Value} (hz : Zx e.next z0 z) (st : St z e m k) (h0 : fr 0 = v0) (s0 : SlR TWagon z x0 v0) (h1 : fr 1 = v1) (s1 : SlR (TInt 3 .i64) z x1 v1) {r : Brakes × Int} (hr : brake_Total N x0 x1 = some r) : W Try.prog (sub (bodyOf Try.f18) []) (fun ex fr' m' => ∃ z', Zx e.next z0 z' ∧ St z' e m' k ∧ (ex = .normal ∨ ex = .ret) ∧ ∃ (c4 : Nat), fr' 4 = (vP c4) ∧ Bx z' e m' k c4 [(vI r.1.length), (vI r.1.axles), (vI r.1.mass), (vI r.1.braked), (vI r.1.percent), (vI r.1.required), (vI r.1.missing)] 33 ∧ (e.next ≤ c4 ∨ k = some c4) ∧ fr' 5 = (vI r.2) ∧ True) fr m := by
 unfold brake_Total at hr
 refine W.seq (W.region ?_)
 refine SeqW.consX rfl (kAlloc rfl Try.type33 rfl rfl rfl [(vI 0), (vI 0), (vI 0), (vI 0), (vI 0), (vI 0), (vI 0)] rfl st ?_)
 intro B1 m2 st X3 sm4 hap5
 refine sx rfl (pAssign (v := (vI 0)) rfl rfl) ?_
 refine SeqW.done fun fr7 hf8 => ?_
 have h0 := (congrFun hf8 0).trans h0
 have h1 := (congrFun hf8 1).trans h1
 have h4 : fr7 4 = (vP B1) := (congrFun hf8 4).trans rfl
 clear hf8
 refine thenQ.n (W.seq (W.region ?_))
 refine sx rfl (pMove (v := v0) rfl h0) ?_
 obtain ⟨y9, hy9, hr⟩ := bind_some hr
 refine SeqW.consX rfl (StepX.call (gCallee rfl rfl (args1 rfl)) ((c_consist_Total (z := z) st.fz st.dead s0 hy9).mono ?_))
 rintro _ _ ⟨rfl, rfl⟩
 refine sx rfl (pMove (v := (Value.tuple [(vI y9.1), (vI y9.2.1), (vI y9.2.2.1), (vI y9.2.2.2)].toArray)) rfl rfl) ?_
 refine sx rfl (pExtract (vs := [(vI y9.1), (vI y9.2.1), (vI y9.2.2.1), (vI y9.2.2.2)]) (v := (vI y9.1)) rfl rfl rfl) ?_
 refine sx rfl (pExtract (vs := [(vI y9.1), (vI y9.2.1), (vI y9.2.2.1), (vI y9.2.2.2)]) (v := (vI y9.2.1)) rfl rfl rfl) ?_
 refine sx rfl (pExtract (vs := [(vI y9.1), (vI y9.2.1), (vI y9.2.2.1), (vI y9.2.2.2)]) (v := (vI y9.2.2.1)) rfl rfl rfl) ?_
 refine sx rfl (pExtract (vs := [(vI y9.1), (vI y9.2.1), (vI y9.2.2.1), (vI y9.2.2.2)]) (v := (vI y9.2.2.2)) rfl rfl rfl) ?_
 refine sx rfl (pAssign (v := (vI y9.1)) rfl rfl) ?_
 refine sx rfl (pAssign (v := (vI y9.2.1)) rfl rfl) ?_
 refine sx rfl (pAssign (v := (vI y9.2.2.1)) rfl rfl) ?_
 refine sx rfl (pAssign (v := (vI y9.2.2.2)) rfl rfl) ?_
 refine SeqW.done fun fr10 hf11 => ?_
 have h0 := (congrFun hf11 0).trans h0
 have h1 := (congrFun hf11 1).trans h1
 have h4 := (congrFun hf11 4).trans h4
 have h6 : fr10 6 = (vI y9.1) := (congrFun hf11 6).trans rfl
 have h7 : fr10 7 = (vI y9.2.1) := (congrFun hf11 7).trans rfl
 have h8 : fr10 8 = (vI y9.2.2.1) := (congrFun hf11 8).trans rfl
 have h9 : fr10 9 = (vI y9.2.2.2) := (congrFun hf11 9).trans rfl
 clear hf11
 refine thenQ.n (W.seq ?_)
 refine W.seq (W.region ?_)
 refine sx rfl (pMove (v := (vI y9.2.2.2)) rfl h9) ?_
 refine sx rfl (pNeq (k := .i64) (a := y9.2.2.2) (b := 0) rfl rfl rfl) ?_
 refine SeqW.done fun fr12 hf13 => ?_
 have h0 := (congrFun hf13 0).trans h0
 have h1 := (congrFun hf13 1).trans h1
 have h4 := (congrFun hf13 4).trans h4
 have h6 := (congrFun hf13 6).trans h6
 have h7 := (congrFun hf13 7).trans h7
 have h8 := (congrFun hf13 8).trans h8
 have h9 := (congrFun hf13 9).trans h9
 have h26 : fr12 26 = (vB (y9.2.2.2 != 0)) := (congrFun hf13 26).trans rfl
 clear hf13
 refine thenQ.n ?_
 rcases if_some hr with ⟨hc14, hr⟩ | ⟨hc19, hr⟩
 ·refine W.condT h26 hc14 (W.seq (W.region ?_))
  refine SeqW.consX rfl (kBuildS [] [(vI 0), (vI 0), (vI 0), (vI 0), (vI 0), (vI 0), (vI 0)] rfl Try.underlying33 Try.type33 rfl rfl (places33 Try.underlying33) rfl (rfl) rfl ?_)
  refine sx rfl (pMove (v := (vI y9.2.2.2)) rfl h9) ?_
  refine SeqW.consX rfl (kPut (off := 0) (w := (Value.agg [(vI 0), (vI 0), (vI 0), (vI 0), (vI 0), (vI 0), (vI 0)].toArray)) (new := [(vI 0), (vI 0), (vI 0), (vI 0), (vI 0), (vI 0), (vI 0)]) rfl Try.type33 h4 rfl rfl rfl rfl X3 rfl [(vI 0), (vI 0), (vI 0), (vI 0), (vI 0), (vI 0), (vI 0)] rfl st ?_)
  intro m15 st X3 sm16
  refine sx rfl (pAssign (v := (vI y9.2.2.2)) rfl rfl) ?_
  refine SeqW.done fun fr17 hf18 => ?_
  have h4 := (congrFun hf18 4).trans h4
  have h5 : fr17 5 = (vI y9.2.2.2) := (congrFun hf18 5).trans rfl
  clear hf18
  refine thenQ.n ?_
  refine W.ret ?_
  refine thenQ.r ?_
  obtain rfl := Option.some.inj hr
  exact ⟨z, hz, st, .inr rfl, B1, h4, X3, X3.fresh, h5, trivial⟩
 ·refine W.condF h26 hc19 (W.skip ?_)
  refine thenQ.n (W.seq (W.region ?_))
  refine sx rfl (pMove (v := v0) rfl h0) ?_
  refine sx rfl (pLenR (xs := x0) rfl Try.underlying25 rfl s0) ?_
  obtain ⟨y20, hy20, hr⟩ := bind_some hr
  refine SeqW.consX rfl (kMake (T := (TBool 4)) (x0 := false) (n := (x0.length : Int)) rfl Try.underlying62 Try.type4 rfl rfl rfl rfl rfl rfl rfl rfl st hy20 ?_)
  intro V21 m22 st O23 sm24 hap25
  have A27 := hap25 _ X3.lt'
  replace X3 := X3.same sm24 Ap.none'
  refine sx rfl (pAssign (v := V21) rfl rfl) ?_
  refine SeqW.done fun fr28 hf29 => ?_
  have h0 := (congrFun hf29 0).trans h0
  have h1 := (congrFun hf29 1).trans h1
  have h4 := (congrFun hf29 4).trans h4
  have h6 := (congrFun hf29 6).trans h6
  have h7 := (congrFun hf29 7).trans h7
  have h8 := (congrFun hf29 8).trans h8
  have h10 : fr28 10 = V21 := (congrFun hf29 10).trans rfl
  clear hf29
  refine thenQ.n (W.seq ?_)
  refine W.seq (W.region ?_)
  refine sx rfl (pMove (v := v1) rfl h1) ?_
  refine sx rfl (pLenR (xs := x1) rfl Try.underlying22 rfl s1) ?_
  refine sx rfl (pMove (v := (vI 0)) rfl rfl) ?_
  refine SeqW.done fun fr30 hf31 => ?_
  have h0 := (congrFun hf31 0).trans h0
  have h1 := (congrFun hf31 1).trans h1
  have h4 := (congrFun hf31 4).trans h4
  have h6 := (congrFun hf31 6).trans h6
  have h7 := (congrFun hf31 7).trans h7
  have h8 := (congrFun hf31 8).trans h8
  have h10 := (congrFun hf31 10).trans h10
  have h32 : fr30 32 = v1 := (congrFun hf31 32).trans rfl
  have h33 : fr30 33 = (vI (x1.length : Int)) := (congrFun hf31 33).trans rfl
  have h34 : fr30 34 = (vI 0) := (congrFun hf31 34).trans rfl
  clear hf31
  refine thenQ.n ?_
  refine W.block ?_
  obtain ⟨y55, hy55, hr⟩ := bind_some hr
  refine W.keep (u_brake_Total_0 (x4 := (Brakes.mk 0 0 0 0 0 0 0)) _ (Zx.refl _) st h0 s0 h4 X3 h10 O23 h32 s1 h33 h34 A27 hy55) ?_
  rintro ex61 fr56 m57 hk59 ⟨z58, hz60, st, ⟨y62, rfl, rfl, h4, X64, O65, A66, -⟩ | ⟨y246, rfl, rfl, h4, X248, h5, -⟩⟩
  ·dsimp only at hr
   replace s0 := s0.mono hz60.le
   replace s1 := s1.mono hz60.le
   have h0 := (hk59 0 rfl).trans h0
   have h1 := (hk59 1 rfl).trans h1
   have h6 := (hk59 6 rfl).trans h6
   have h7 := (hk59 7 rfl).trans h7
   have h8 := (hk59 8 rfl).trans h8
   have h10 := (hk59 10 rfl).trans h10
   replace hz := hz.trans hz60
   clear hk59
   refine blockQ.hit ?_
   refine thenQ.n (W.seq ?_)
   refine W.seq (W.region ?_)
   refine sx rfl (pMove (v := v1) rfl h1) ?_
   refine sx rfl (pLenR (xs := x1) rfl Try.underlying22 rfl s1) ?_
   refine sx rfl (pMove (v := (vI 0)) rfl rfl) ?_
   refine SeqW.done fun fr67 hf68 => ?_
   have h0 := (congrFun hf68 0).trans h0
   have h4 := (congrFun hf68 4).trans h4
   have h6 := (congrFun hf68 6).trans h6
   have h7 := (congrFun hf68 7).trans h7
   have h8 := (congrFun hf68 8).trans h8
   have h10 := (congrFun hf68 10).trans h10
   have h46 : fr67 46 = v1 := (congrFun hf68 46).trans rfl
   have h47 : fr67 47 = (vI (x1.length : Int)) := (congrFun hf68 47).trans rfl
   have h48 : fr67 48 = (vI 0) := (congrFun hf68 48).trans rfl
   clear hf68
   refine thenQ.n ?_
   refine W.block ?_
   obtain ⟨y114, hy114, hr⟩ := bind_some hr
   refine W.keep (u_brake_Total_1 (x4 := y62) _ (Zx.refl _) st h4 X64 h10 O65 h46 s1 h47 h48 A66 hy114) ?_
   rintro ex120 fr115 m116 hk118 ⟨z117, hz119, st, ⟨y121, rfl, rfl, h4, X123, h10, O125, A126, -⟩ | ⟨y243, rfl, rfl, h4, X245, h5, -⟩⟩
   ·dsimp only at hr
    replace s0 := s0.mono hz119.le
    have h0 := (hk118 0 rfl).trans h0
    have h6 := (hk118 6 rfl).trans h6
    have h7 := (hk118 7 rfl).trans h7
    have h8 := (hk118 8 rfl).trans h8
    replace hz := hz.trans hz119
    clear hk118
    refine blockQ.hit ?_
    refine thenQ.n (W.seq (W.region ?_))
    refine sx rfl (pMove (v := (vI y9.1)) rfl h6) ?_
    refine sx rfl (pMove (v := (vI y9.2.2.1)) rfl h8) ?_
    refine sx rfl (pMove (v := (vI y9.2.1)) rfl h7) ?_
    refine SeqW.consX rfl (kBuildS [(0, (vI y9.1)), (1, (vI y9.2.2.1)), (2, (vI y9.2.1))] [(vI y9.1), (vI y9.2.2.1), (vI y9.2.1), (vI 0), (vI 0), (vI 0), (vI 0)] rfl Try.underlying33 Try.type33 rfl rfl (places33 Try.underlying33) rfl (rfl) rfl ?_)
    refine SeqW.consX rfl (kAlloc rfl Try.type33 rfl rfl rfl [(vI 0), (vI 0), (vI 0), (vI 0), (vI 0), (vI 0), (vI 0)] rfl st ?_)
    intro B127 m128 st X129 sm130 hap131
    have A133 := hap131 _ X123.lt'
    have A134 := hap131 _ O125.lt
    replace X123 := X123.same sm130 Ap.none'
    replace O125 := O125.same sm130 Ap.none'
    refine SeqW.consX rfl (kPut (off := 0) (w := (Value.agg [(vI y9.1), (vI y9.2.2.1), (vI y9.2.1), (vI 0), (vI 0), (vI 0), (vI 0)].toArray)) (new := [(vI y9.1), (vI y9.2.2.1), (vI y9.2.1), (vI 0), (vI 0), (vI 0), (vI 0)]) rfl Try.type33 rfl rfl rfl rfl rfl X129 rfl [(vI y9.1), (vI y9.2.2.1), (vI y9.2.1), (vI 0), (vI 0), (vI 0), (vI 0)] rfl st ?_)
    intro m135 st X129 sm136
    replace X123 := X123.same sm136 A133
    replace O125 := O125.same sm136 A134
    refine SeqW.done fun fr137 hf138 => ?_
    have h0 := (congrFun hf138 0).trans h0
    have h4 := (congrFun hf138 4).trans h4
    have h6 := (congrFun hf138 6).trans h6
    have h7 := (congrFun hf138 7).trans h7
    have h10 := (congrFun hf138 10).trans h10
    have h15 : fr137 15 = (vP B127) := (congrFun hf138 15).trans rfl
    clear hf138
    refine thenQ.n (W.seq ?_)
    refine W.seq (W.region ?_)
    refine sx rfl (pMove (v := v0) rfl h0) ?_
    refine sx rfl (pLenR (xs := x0) rfl Try.underlying25 rfl s0) ?_
    refine sx rfl (pMove (v := (vI 0)) rfl rfl) ?_
    refine SeqW.done fun fr139 hf140 => ?_
    have h4 := (congrFun hf140 4).trans h4
    have h6 := (congrFun hf140 6).trans h6
    have h7 := (congrFun hf140 7).trans h7
    have h10 := (congrFun hf140 10).trans h10
    have h15 := (congrFun hf140 15).trans h15
    have h65 : fr139 65 = v0 := (congrFun hf140 65).trans rfl
    have h66 : fr139 66 = (vI (x0.length : Int)) := (congrFun hf140 66).trans rfl
    have h67 : fr139 67 = (vI 0) := (congrFun hf140 67).trans rfl
    clear hf140
    refine thenQ.n ?_
    refine W.block ?_
    obtain ⟨y197, hy197, hr⟩ := bind_some hr
    refine W.keep (u_brake_Total_2 (x4 := y121.1) (x15 := (Brakes.mk y9.1 y9.2.2.1 y9.2.1 0 0 0 0)) _ (Zx.refl _) st h4 X123 h10 O125 h15 X129 h65 s0 h66 h67 A126 A133 A134 hy197) ?_
    rintro ex203 fr198 m199 hk201 ⟨z200, hz202, st, rfl, h15, X205, O206, A207, -⟩
    have h4 := (hk201 4 rfl).trans h4
    have h6 := (hk201 6 rfl).trans h6
    have h7 := (hk201 7 rfl).trans h7
    replace hz := hz.trans hz202
    clear hk201
    refine blockQ.hit ?_
    refine thenQ.n (W.seq ?_)
    refine W.draw ?_
    refine DrawW.cons rfl (kField rfl Try.underlying33 rfl Try.type3 rfl h15 rfl ?_)
    refine ⟨trivial, ?_⟩
    refine DrawW.cons rfl (kLoad rfl Try.underlying3 rfl rfl (X205.load (v := (vI y197.braked)) rfl) ?_)
    refine ⟨?_, ?_⟩
    ·exact demN
    refine DrawW.cons rfl (StepX.pure (pMove (v := (vI y9.1)) rfl h6) ?_)
    refine ⟨trivial, ?_⟩
    have sto208 := st
    have old209 := O206
    have old210 := X205
    obtain ⟨y211, hy211, hr⟩ := bind_some hr
    refine DrawW.cons rfl (StepX.call (gCallee rfl rfl (args1 rfl)) ((c_brake_Factor (z := z200) st.fz st.dead  hy211).mono ?_))
    rintro _ _ ⟨rfl, rfl⟩
    refine ⟨⟨?_, ?_⟩, ?_⟩
    ·first | refine demP (gLoad rfl Try.underlying3 rfl rfl (X205.load (v := (vI y197.braked)) rfl)) ?_ | refine demA (by decide) ?_
     exact demN
    ·exact demN
    refine DrawW.cons rfl (StepX.pure (pMul (k := .i64) (a := y197.braked) (b := y211) rfl rfl rfl) ?_)
    refine ⟨trivial, ?_⟩
    refine DrawW.cons rfl (StepX.pure (pQuo (k := .i64) (a := (IntKind.wrap .i64 (y197.braked * y211))) (b := 100) rfl rfl rfl (by decide)) ?_)
    refine ⟨trivial, ?_⟩
    refine DrawW.cons rfl (kField rfl Try.underlying33 rfl Try.type3 rfl h15 rfl ?_)
    refine ⟨trivial, ?_⟩
    have sto212 := st
    have old213 := O206
    have old214 := X205
    refine DrawW.cons rfl (kPut (off := 3) (w := (vI (IntKind.wrap .i64 (Int.tdiv (IntKind.wrap .i64 (y197.braked * y211)) 100)))) (new := [(vI (IntKind.wrap .i64 (Int.tdiv (IntKind.wrap .i64 (y197.braked * y211)) 100)))]) rfl Try.type3 rfl rfl rfl rfl rfl X205 rfl [(vI y197.length), (vI y197.axles), (vI y197.mass), (vI (IntKind.wrap .i64 (Int.tdiv (IntKind.wrap .i64 (y197.braked * y211)) 100))), (vI y197.percent), (vI y197.required), (vI y197.missing)] rfl st ?_)
    intro m215 st X205 sm216
    replace O206 := O206.same sm216 (Ap.symm A207)
    refine ⟨⟨?_, ?_⟩, ?_⟩
    ·first | refine demP (gLoad rfl Try.underlying3 rfl rfl (X205.load (v := (vI y197.braked)) rfl)) ?_ | refine demA (by decide) ?_
     exact demN
    ·exact demN
    refine DrawW.done fun fr217 hf218 => ?_
    have h4 := (congrFun hf218 4).trans h4
    have h7 := (congrFun hf218 7).trans h7
    have h15 := (congrFun hf218 15).trans h15
    clear hf218
    refine thenQ.n (W.seq ?_)
    refine W.seq (W.region ?_)
    refine sx rfl (pMove (v := (vI y9.2.1)) rfl h7) ?_
    refine sx rfl (pGtr (k := .i64) (a := y9.2.1) (b := 0) rfl rfl rfl) ?_
    refine SeqW.done fun fr219 hf220 => ?_
    have h4 := (congrFun hf220 4).trans h4
    have h7 := (congrFun hf220 7).trans h7
    have h15 := (congrFun hf220 15).trans h15
    have h92 : fr219 92 = (vB (decide (0 < y9.2.1))) := (congrFun hf220 92).trans rfl
    clear hf220
    refine thenQ.n ?_
    obtain ⟨y228, hy228, hr⟩ := bind_some hr
    refine W.keep (u_brake_Total_4 (x4 := y121.1) (x15 := (Brakes.mk y197.length y197.axles y197.mass (IntKind.wrap .i64 (Int.tdiv (IntKind.wrap .i64 (y197.braked * y211)) 100)) y197.percent y197.required y197.missing)) (Zx.refl _) st h4 O206 h7 h15 X205 h92 (Ap.symm A207) hy228) ?_
    rintro ex234 fr229 m230 hk232 ⟨z231, hz233, st, rfl, h15, X236, O237, A238, -⟩
    have h4 := (hk232 4 rfl).trans h4
    replace hz := hz.trans hz233
    clear hk232
    refine thenQ.n (W.seq (W.region ?_))
    refine SeqW.consX rfl (kLoadA rfl Try.underlying33 rfl Try.type33 rfl h15 X236.loads ?_)
    refine SeqW.consX rfl (kPut (off := 0) (w := (Value.agg [(vI y228.length), (vI y228.axles), (vI y228.mass), (vI y228.braked), (vI y228.percent), (vI y228.required), (vI y228.missing)].toArray)) (new := [(vI y228.length), (vI y228.axles), (vI y228.mass), (vI y228.braked), (vI y228.percent), (vI y228.required), (vI y228.missing)]) rfl Try.type33 h4 rfl rfl rfl rfl O237 rfl [(vI y228.length), (vI y228.axles), (vI y228.mass), (vI y228.braked), (vI y228.percent), (vI y228.required), (vI y228.missing)] rfl st ?_)
    intro m239 st O237 sm240
    refine sx rfl (pAssign (v := (vI 0)) rfl rfl) ?_
    refine SeqW.done fun fr241 hf242 => ?_
    have h4 := (congrFun hf242 4).trans h4
    have h5 : fr241 5 = (vI 0) := (congrFun hf242 5).trans rfl
    clear hf242
    refine thenQ.n ?_
    refine W.ret ?_
    obtain rfl := Option.some.inj hr
    exact ⟨z231, hz, st, .inr rfl, B1, h4, O237, O237.fresh, h5, trivial⟩
   ·dsimp only at hr
    replace hz := hz.trans hz119
    clear hk118
    refine blockQ.r ?_
    refine thenQ.r ?_
    obtain rfl := Option.some.inj hr
    exact ⟨z117, hz, st, .inr rfl, B1, h4, X245, X245.fresh, h5, trivial⟩
  ·dsimp only at hr
   replace hz := hz.trans hz60
   clear hk59
   refine blockQ.r ?_
   refine thenQ.r ?_
   obtain rfl := Option.some.inj hr
   exact ⟨z58, hz, st, .inr rfl, B1, h4, X248, X248.fresh, h5, trivial⟩

theorem c_brake_Total {N : Nat} {z : Nat → Blk} {m : Mem} {x0 : List Wagon} {x1 : List Int} {v0 : Value} {v1 : Value} (fz : Fz z m) (hd : ∀ b, m.next ≤ b → m.blk b = .dead) (s0 : SlR TWagon z x0 v0) (s1 : SlR (TInt 3 .i64) z x1 v1) {r : Brakes × Int} (hr : brake_Total N x0 x1 = some r) : CallW Try.prog 18 #[v0, v1] m fun v m' => ∃ z', Zx m.next z z' ∧ Fz z' m' ∧ Same m m' none ∧ v = (Value.tuple [(Value.agg [(vI r.1.length), (vI r.1.axles), (vI r.1.mass), (vI r.1.braked), (vI r.1.percent), (vI r.1.required), (vI r.1.missing)].toArray), (vI r.2)].toArray) ∧ True := by
 refine CallW.any Try.func18 rfl (by kernel_rfl) (Nat.le_of_ble_eq_true rfl) (fun fr hf => ?_)
 have h0 : fr 0 = _ := hf 0 _ rfl
 have h1 : fr 1 = _ := hf 1 _ rfl
 refine (u_brake_Total (k := none) (Zx.refl _) (St.start fz hd) h0 s0 h1 s1 hr).mono ?_
 rintro ex fr' m' ⟨z', hz, st, he, c4, h4, bx4, fx4, h5, -⟩
 exact ⟨he, [(Value.agg [(vI r.1.length), (vI r.1.axles), (vI r.1.mass), (vI r.1.braked), (vI r.1.percent), (vI r.1.required), (vI r.1.missing)].toArray), (vI r.2)], ⟨resCell h4 bx4 Try.underlying33 rfl Try.type33 rfl, h5.symm, trivial⟩, .inr (List.forall_mem_cons.2 ⟨rfl, List.forall_mem_cons.2 ⟨rfl, fun _ h => nomatch h⟩⟩), z', hz, st.fz, st.toSame, rfl, trivial⟩

/-! ### humpyard/brake.Sheet -/

theorem u_brake_Sheet {N : Nat}  {z0 z : Nat → Blk} {e m : Mem} {k : Option Nat} {fr : Nat → Value} {x0 : List Wagon} {x1 : List Int} {x2 : List BrakeRow} {x3 : Int} {x4 : Int} {v0 : Value} {v1 : Value} {v2 : Value} (hz : Zx e.next z0 z) (st : St z e m k) (h0 : fr 0 = v0) (s0 : SlR TWagon z x0 v0) (h1 : fr 1 = v1) (s1 : SlR (TInt 3 .i64) z x1 v1) (h2 : fr 2 = v2) (s2 : SlR TBrakeRow z x2 v2) (h3 : fr 3 = (vI x3)) (h4 : fr 4 = (vI x4)) {r : Brakes × Int} (hr : brake_Sheet N x0 x1 x2 x3 x4 = some r) : W Try.prog (sub (bodyOf Try.f13) []) (fun ex fr' m' => ∃ z', Zx e.next z0 z' ∧ St z' e m' k ∧ (ex = .normal ∨ ex = .ret) ∧ ∃ (c10 : Nat), fr' 10 = (vP c10) ∧ Bx z' e m' k c10 [(vI r.1.length), (vI r.1.axles), (vI r.1.mass), (vI r.1.braked), (vI r.1.percent), (vI r.1.required), (vI r.1.missing)] 33 ∧ (e.next ≤ c10 ∨ k = some c10) ∧ fr' 11 = (vI r.2) ∧ True) fr m := by
 unfold brake_Sheet at hr
 refine W.seq (W.region ?_)
 refine SeqW.consX rfl (kAlloc rfl Try.type33 rfl rfl rfl [(vI 0), (vI 0), (vI 0), (vI 0), (vI 0), (vI 0), (vI 0)] rfl st ?_)
 intro B1 m2 st X3 sm4 hap5
 refine sx rfl (pAssign (v := (vI 0)) rfl rfl) ?_
 refine SeqW.done fun fr7 hf8 => ?_
 have h0 := (congrFun hf8 0).trans h0
 have h1 := (congrFun hf8 1).trans h1
 have h2 := (congrFun hf8 2).trans h2
 have h3 := (congrFun hf8 3).trans h3
 have h4 := (congrFun hf8 4).trans h4
 have h10 : fr7 10 = (vP B1) := (congrFun hf8 10).trans rfl
 clear hf8
 refine thenQ.n (W.seq (W.region ?_))
 refine sx rfl (pMove (v := v0) rfl h0) ?_
 refine sx rfl (pMove (v := v1) rfl h1) ?_
 obtain ⟨y9, hy9, hr⟩ := bind_some hr
 refine SeqW.consX rfl (StepX.call (gCallee rfl rfl (args2 rfl rfl)) ((c_brake_Total (z := z) st.fz st.dead s0 s1 hy9).mono ?_))
 rintro _ m14 ⟨z10, hzx11, fz12, sm13, rfl, -⟩
 replace s0 := s0.mono hzx11.le
 replace s1 := s1.mono hzx11.le
 replace s2 := s2.mono hzx11.le
 replace X3 := X3.call hzx11 sm13 Ap.none'
 replace hz := hz.trans (Zx.here st hzx11)
 replace st := st.call hzx11 fz12 sm13 no_hq
 refine sx rfl (pMove (v := (Value.tuple [(Value.agg [(vI y9.1.length), (vI y9.1.axles), (vI y9.1.mass), (vI y9.1.braked), (vI y9.1.percent), (vI y9.1.required), (vI y9.1.missing)].toArray), (vI y9.2)].toArray)) rfl rfl) ?_
 refine sx rfl (pExtract (vs := [(Value.agg [(vI y9.1.length), (vI y9.1.axles), (vI y9.1.mass), (vI y9.1.braked), (vI y9.1.percent), (vI y9.1.required), (vI y9.1.missing)].toArray), (vI y9.2)]) (v := (Value.agg [(vI y9.1.length), (vI y9.1.axles), (vI y9.1.mass), (vI y9.1.braked), (vI y9.1.percent), (vI y9.1.required), (vI y9.1.missing)].toArray)) rfl rfl rfl) ?_
 refine sx rfl (pExtract (vs := [(Value.agg [(vI y9.1.length), (vI y9.1.axles), (vI y9.1.mass), (vI y9.1.braked), (vI y9.1.percent), (vI y9.1.required), (vI y9.1.missing)].toArray), (vI y9.2)]) (v := (vI y9.2)) rfl rfl rfl) ?_
 refine SeqW.consX rfl (kAlloc rfl Try.type33 rfl rfl rfl [(vI 0), (vI 0), (vI 0), (vI 0), (vI 0), (vI 0), (vI 0)] rfl st ?_)
 intro B15 m16 st X17 sm18 hap19
 have A21 := hap19 _ X3.lt'
 replace X3 := X3.same sm18 Ap.none'
 refine SeqW.consX rfl (kPut (off := 0) (w := (Value.agg [(vI y9.1.length), (vI y9.1.axles), (vI y9.1.mass), (vI y9.1.braked), (vI y9.1.percent), (vI y9.1.required), (vI y9.1.missing)].toArray)) (new := [(vI y9.1.length), (vI y9.1.axles), (vI y9.1.mass), (vI y9.1.braked), (vI y9.1.percent), (vI y9.1.required), (vI y9.1.missing)]) rfl Try.type33 rfl rfl rfl rfl rfl X17 rfl [(vI y9.1.length), (vI y9.1.axles), (vI y9.1.mass), (vI y9.1.braked), (vI y9.1.percent), (vI y9.1.required), (vI y9.1.missing)] rfl st ?_)
 intro m22 st X17 sm23
 replace X3 := X3.same sm23 A21
 refine sx rfl (pAssign (v := (vI y9.2)) rfl rfl) ?_
 refine SeqW.done fun fr24 hf25 => ?_
 have h2 := (congrFun hf25 2).trans h2
 have h3 := (congrFun hf25 3).trans h3
 have h4 := (congrFun hf25 4).trans h4
 have h10 := (congrFun hf25 10).trans h10
 have h12 : fr24 12 = (vP B15) := (congrFun hf25 12).trans rfl
 have h13 : fr24 13 = (vI y9.2) := (congrFun hf25 13).trans rfl
 clear hf25
 refine thenQ.n (W.seq ?_)
 refine W.seq (W.region ?_)
 refine sx rfl (pMove (v := (vI y9.2)) rfl h13) ?_
 refine sx rfl (pNeq (k := .i64) (a := y9.2) (b := 0) rfl rfl rfl) ?_
 refine SeqW.done fun fr26 hf27 => ?_
 have h2 := (congrFun hf27 2).trans h2
 have h3 := (congrFun hf27 3).trans h3
 have h4 := (congrFun hf27 4).trans h4
 have h10 := (congrFun hf27 10).trans h10
 have h12 := (congrFun hf27 12).trans h12
 have h13 := (congrFun hf27 13).trans h13
 have h22 : fr26 22 = (vB (y9.2 != 0)) := (congrFun hf27 22).trans rfl
 clear hf27
 refine thenQ.n ?_
 rcases if_some hr with ⟨hc28, hr⟩ | ⟨hc33, hr⟩
 ·refine W.condT h22 hc28 (W.seq (W.region ?_))
  refine SeqW.consX rfl (kBuildS [] [(vI 0), (vI 0), (vI 0), (vI 0), (vI 0), (vI 0), (vI 0)] rfl Try.underlying33 Try.type33 rfl rfl (places33 Try.underlying33) rfl (rfl) rfl ?_)
  refine sx rfl (pMove (v := (vI y9.2)) rfl h13) ?_
  refine SeqW.consX rfl (kPut (off := 0) (w := (Value.agg [(vI 0), (vI 0), (vI 0), (vI 0), (vI 0), (vI 0), (vI 0)].toArray)) (new := [(vI 0), (vI 0), (vI 0), (vI 0), (vI 0), (vI 0), (vI 0)]) rfl Try.type33 h10 rfl rfl rfl rfl X3 rfl [(vI 0), (vI 0), (vI 0), (vI 0), (vI 0), (vI 0), (vI 0)] rfl st ?_)
  intro m29 st X3 sm30
  refine sx rfl (pAssign (v := (vI y9.2)) rfl rfl) ?_
  refine SeqW.done fun fr31 hf32 => ?_
  have h10 := (congrFun hf32 10).trans h10
  have h11 : fr31 11 = (vI y9.2) := (congrFun hf32 11).trans rfl
  clear hf32
  refine thenQ.n ?_
  refine W.ret ?_
  refine thenQ.r ?_
  obtain rfl := Option.some.inj hr
  exact ⟨z10, hz, st, .inr rfl, B1, h10, X3, X3.fresh, h11, trivial⟩
 ·refine W.condF h22 hc33 (W.skip ?_)
  refine thenQ.n (W.seq (W.region ?_))
  refine sx rfl (pMove (v := v2) rfl h2) ?_
  refine sx rfl (pMove (v := (vI x3)) rfl h3) ?_
  refine sx rfl (pMove (v := (vI x4)) rfl h4) ?_
  obtain ⟨y34, hy34, hr⟩ := bind_some hr
  refine SeqW.consX rfl (StepX.call (gCallee rfl rfl (args3 rfl rfl rfl)) ((c_brake_Required (z := z10) st.fz st.dead s2 hy34).mono ?_))
  rintro _ _ ⟨rfl, rfl⟩
  refine sx rfl (pMove (v := (Value.tuple [(vI y34.1), (vI y34.2)].toArray)) rfl rfl) ?_
  refine sx rfl (pExtract (vs := [(vI y34.1), (vI y34.2)]) (v := (vI y34.1)) rfl rfl rfl) ?_
  refine sx rfl (pExtract (vs := [(vI y34.1), (vI y34.2)]) (v := (vI y34.2)) rfl rfl rfl) ?_
  refine sx rfl (pAssign (v := (vI y34.1)) rfl rfl) ?_
  refine sx rfl (pAssign (v := (vI y34.2)) rfl rfl) ?_
  refine SeqW.done fun fr35 hf36 => ?_
  have h10 := (congrFun hf36 10).trans h10
  have h12 := (congrFun hf36 12).trans h12
  have h13 : fr35 13 = (vI y34.2) := (congrFun hf36 13).trans rfl
  have h14 : fr35 14 = (vI y34.1) := (congrFun hf36 14).trans rfl
  clear hf36
  refine thenQ.n (W.seq ?_)
  refine W.seq (W.region ?_)
  refine sx rfl (pMove (v := (vI y34.2)) rfl h13) ?_
  refine sx rfl (pNeq (k := .i64) (a := y34.2) (b := 0) rfl rfl rfl) ?_
  refine SeqW.done fun fr37 hf38 => ?_
  have h10 := (congrFun hf38 10).trans h10
  have h12 := (congrFun hf38 12).trans h12
  have h13 := (congrFun hf38 13).trans h13
  have h14 := (congrFun hf38 14).trans h14
  have h33 : fr37 33 = (vB (y34.2 != 0)) := (congrFun hf38 33).trans rfl
  clear hf38
  refine thenQ.n ?_
  rcases if_some hr with ⟨hc39, hr⟩ | ⟨hc44, hr⟩
  ·refine W.condT h33 hc39 (W.seq (W.region ?_))
   refine SeqW.consX rfl (kBuildS [] [(vI 0), (vI 0), (vI 0), (vI 0), (vI 0), (vI 0), (vI 0)] rfl Try.underlying33 Try.type33 rfl rfl (places33 Try.underlying33) rfl (rfl) rfl ?_)
   refine sx rfl (pMove (v := (vI y34.2)) rfl h13) ?_
   refine SeqW.consX rfl (kPut (off := 0) (w := (Value.agg [(vI 0), (vI 0), (vI 0), (vI 0), (vI 0), (vI 0), (vI 0)].toArray)) (new := [(vI 0), (vI 0), (vI 0), (vI 0), (vI 0), (vI 0), (vI 0)]) rfl Try.type33 h10 rfl rfl rfl rfl X3 rfl [(vI 0), (vI 0), (vI 0), (vI 0), (vI 0), (vI 0), (vI 0)] rfl st ?_)
   intro m40 st X3 sm41
   refine sx rfl (pAssign (v := (vI y34.2)) rfl rfl) ?_
   refine SeqW.done fun fr42 hf43 => ?_
   have h10 := (congrFun hf43 10).trans h10
   have h11 : fr42 11 = (vI y34.2) := (congrFun hf43 11).trans rfl
   clear hf43
   refine thenQ.n ?_
   refine W.ret ?_
   refine thenQ.r ?_
   obtain rfl := Option.some.inj hr
   exact ⟨z10, hz, st, .inr rfl, B1, h10, X3, X3.fresh, h11, trivial⟩
  ·refine W.condF h33 hc44 (W.skip ?_)
   refine thenQ.n (W.seq (W.region ?_))
   refine sx rfl (pMove (v := (vI y34.1)) rfl h14) ?_
   refine SeqW.consX rfl (kField rfl Try.underlying33 rfl Try.type3 rfl h12 rfl ?_)
   refine SeqW.consX rfl (kPut (off := 5) (w := (vI y34.1)) (new := [(vI y34.1)]) rfl Try.type3 rfl rfl rfl rfl rfl X17 rfl [(vI y9.1.length), (vI y9.1.axles), (vI y9.1.mass), (vI y9.1.braked), (vI y9.1.percent), (vI y34.1), (vI y9.1.missing)] rfl st ?_)
   intro m45 st X17 sm46
   replace X3 := X3.same sm46 A21
   refine SeqW.done fun fr47 hf48 => ?_
   have h10 := (congrFun hf48 10).trans h10
   have h12 := (congrFun hf48 12).trans h12
   have h14 := (congrFun hf48 14).trans h14
   clear hf48
   refine thenQ.n (W.seq (W.region ?_))
   refine sx rfl (pMove (v := (vI y34.1)) rfl h14) ?_
   refine SeqW.consX rfl (kField rfl Try.underlying33 rfl Try.type3 rfl h12 rfl ?_)
   refine SeqW.consX rfl (kLoad rfl Try.underlying3 rfl rfl (X17.load (v := (vI y9.1.mass)) rfl) ?_)
   refine sx rfl (pMul (k := .i64) (a := y34.1) (b := y9.1.mass) rfl rfl rfl) ?_
   refine sx rfl (pAdd (k := .i64) (a := (IntKind.wrap .i64 (y34.1 * y9.1.mass))) (b := 99) rfl rfl rfl) ?_
   refine sx rfl (pQuo (k := .i64) (a := (IntKind.wrap .i64 ((IntKind.wrap .i64 (y34.1 * y9.1.mass)) + 99))) (b := 100) rfl rfl rfl (by decide)) ?_
   refine SeqW.consX rfl (kField rfl Try.underlying33 rfl Try.type3 rfl h12 rfl ?_)
   refine SeqW.consX rfl (kLoad rfl Try.underlying3 rfl rfl (X17.load (v := (vI y9.1.braked)) rfl) ?_)
   refine sx rfl (pSub (k := .i64) (a := (IntKind.wrap .i64 (Int.tdiv (IntKind.wrap .i64 ((IntKind.wrap .i64 (y34.1 * y9.1.mass)) + 99)) 100))) (b := y9.1.braked) rfl rfl rfl) ?_
   refine sx rfl (pMax2 (k := .i64) (a := 0) (b := (IntKind.wrap .i64 ((IntKind.wrap .i64 (Int.tdiv (IntKind.wrap .i64 ((IntKind.wrap .i64 (y34.1 * y9.1.mass)) + 99)) 100)) - y9.1.braked))) rfl rfl rfl) ?_
   refine SeqW.consX rfl (kField rfl Try.underlying33 rfl Try.type3 rfl h12 rfl ?_)
   refine SeqW.consX rfl (kPut (off := 6) (w := (vI (max 0 (IntKind.wrap .i64 ((IntKind.wrap .i64 (Int.tdiv (IntKind.wrap .i64 ((IntKind.wrap .i64 (y34.1 * y9.1.mass)) + 99)) 100)) - y9.1.braked))))) (new := [(vI (max 0 (IntKind.wrap .i64 ((IntKind.wrap .i64 (Int.tdiv (IntKind.wrap .i64 ((IntKind.wrap .i64 (y34.1 * y9.1.mass)) + 99)) 100)) - y9.1.braked))))]) rfl Try.type3 rfl rfl rfl rfl rfl X17 rfl [(vI y9.1.length), (vI y9.1.axles), (vI y9.1.mass), (vI y9.1.braked), (vI y9.1.percent), (vI y34.1), (vI (max 0 (IntKind.wrap .i64 ((IntKind.wrap .i64 (Int.tdiv (IntKind.wrap .i64 ((IntKind.wrap .i64 (y34.1 * y9.1.mass)) + 99)) 100)) - y9.1.braked))))] rfl st ?_)
   intro m49 st X17 sm50
   replace X3 := X3.same sm50 A21
   refine SeqW.done fun fr51 hf52 => ?_
   have h10 := (congrFun hf52 10).trans h10
   have h12 := (congrFun hf52 12).trans h12
   clear hf52
   refine thenQ.n (W.seq (W.region ?_))
   refine SeqW.consX rfl (kLoadA rfl Try.underlying33 rfl Try.type33 rfl h12 X17.loads ?_)
   refine SeqW.consX rfl (kPut (off := 0) (w := (Value.agg [(vI y9.1.length), (vI y9.1.axles), (vI y9.1.mass), (vI y9.1.braked), (vI y9.1.percent), (vI y34.1), (vI (max 0 (IntKind.wrap .i64 ((IntKind.wrap .i64 (Int.tdiv (IntKind.wrap .i64 ((IntKind.wrap .i64 (y34.1 * y9.1.mass)) + 99)) 100)) - y9.1.braked))))].toArray)) (new := [(vI y9.1.length), (vI y9.1.axles), (vI y9.1.mass), (vI y9.1.braked), (vI y9.1.percent), (vI y34.1), (vI (max 0 (IntKind.wrap .i64 ((IntKind.wrap .i64 (Int.tdiv (IntKind.wrap .i64 ((IntKind.wrap .i64 (y34.1 * y9.1.mass)) + 99)) 100)) - y9.1.braked))))]) rfl Try.type33 h10 rfl rfl rfl rfl X3 rfl [(vI y9.1.length), (vI y9.1.axles), (vI y9.1.mass), (vI y9.1.braked), (vI y9.1.percent), (vI y34.1), (vI (max 0 (IntKind.wrap .i64 ((IntKind.wrap .i64 (Int.tdiv (IntKind.wrap .i64 ((IntKind.wrap .i64 (y34.1 * y9.1.mass)) + 99)) 100)) - y9.1.braked))))] rfl st ?_)
   intro m53 st X3 sm54
   refine sx rfl (pAssign (v := (vI 0)) rfl rfl) ?_
   refine SeqW.done fun fr55 hf56 => ?_
   have h10 := (congrFun hf56 10).trans h10
   have h11 : fr55 11 = (vI 0) := (congrFun hf56 11).trans rfl
   clear hf56
   refine thenQ.n ?_
   refine W.ret ?_
   obtain rfl := Option.some.inj hr
   exact ⟨z10, hz, st, .inr rfl, B1, h10, X3, X3.fresh, h11, trivial⟩

theorem c_brake_Sheet {N : Nat} {z : Nat → Blk} {m : Mem} {x0 : List Wagon} {x1 : List Int} {x2 : List BrakeRow} {x3 : Int} {x4 : Int} {v0 : Value} {v1 : Value} {v2 : Value} (fz : Fz z m) (hd : ∀ b, m.next ≤ b → m.blk b = .dead) (s0 : SlR TWagon z x0 v0) (s1 : SlR (TInt 3 .i64) z x1 v1) (s2 : SlR TBrakeRow z x2 v2) {r : Brakes × Int} (hr : brake_Sheet N x0 x1 x2 x3 x4 = some r) : CallW Try.prog 13 #[v0, v1, v2, (vI x3), (vI x4)] m fun v m' => ∃ z', Zx m.next z z' ∧ Fz z' m' ∧ Same m m' none ∧ v = (Value.tuple [(Value.agg [(vI r.1.length), (vI r.1.axles), (vI r.1.mass), (vI r.1.braked), (vI r.1.percent), (vI r.1.required), (vI r.1.missing)].toArray), (vI r.2)].toArray) ∧ True := by
 refine CallW.any Try.func13 rfl (by kernel_rfl) (Nat.le_of_ble_eq_true rfl) (fun fr hf => ?_)
 have h0 : fr 0 = _ := hf 0 _ rfl
 have h1 : fr 1 = _ := hf 1 _ rfl
 have h2 : fr 2 = _ := hf 2 _ rfl
 have h3 : fr 3 = _ := hf 3 _ rfl
 have h4 : fr 4 = _ := hf 4 _ rfl
 refine (u_brake_Sheet (k := none) (Zx.refl _) (St.start fz hd) h0 s0 h1 s1 h2 s2 h3 h4 hr).mono ?_
 rintro ex fr' m' ⟨z', hz, st, he, c10, h10, bx10, fx10, h11, -⟩
 exact ⟨he, [(Value.agg [(vI r.1.length), (vI r.1.axles), (vI r.1.mass), (vI r.1.braked), (vI r.1.percent), (vI r.1.required), (vI r.1.missing)].toArray), (vI r.2)], ⟨resCell h10 bx10 Try.underlying33 rfl Try.type33 rfl, h11.symm, trivial⟩, .inr (List.forall_mem_cons.2 ⟨rfl, List.forall_mem_cons.2 ⟨rfl, fun _ h => nomatch h⟩⟩), z', hz, st.fz, st.toSame, rfl, trivial⟩

/-! ### humpyard/humpyardlaw35.sane -/

theorem u_l35_sane_0 {N : Nat}  {z0 z : Nat → Blk} {e m : Mem} {k : Option Nat} {fr : Nat → Value} {x4 : Brakes} {x5 : Int} {x6 : Brakes} {x7 : Int} {x9 : Int} {b4 : Nat} {b6 : Nat} (hz : Zx e.next z0 z) (st : St z e m k) (h4 : fr 4 = (vP b4)) (bx4 : Bx z e m k b4 [(vI x4.length), (vI x4.axles), (vI x4.mass), (vI x4.braked), (vI x4.percent), (vI x4.required), (vI x4.missing)] 33) (h5 : fr 5 = (vI x5)) (h6 : fr 6 = (vP b6)) (bx6 : Bx z e m k b6 [(vI x6.length), (vI x6.axles), (vI x6.mass), (vI x6.braked), (vI x6.percent), (vI x6.required), (vI x6.missing)] 33) (h7 : fr 7 = (vI x7)) (h9 : fr 9 = (vI x9)) (ao4_o6 : Ap (some b4) (some b6)) {r : Bool} (hr : l35_sane_0 N x4 x5 x6 x7 x9 = some r) : W Try.prog (sub (bodyOf Try.f16) [1, 1, 1, 1, 1, 1, 1, 1, 0]) (fun ex fr' m' => ∃ z', Zx e.next z0 z' ∧ St z' e m' k ∧ ex = AExit.normal ∧ fr' 0 = (vB r) ∧ True) fr m := by
 unfold l35_sane_0 at hr
 refine W.region ?_
 obtain ⟨y124, hy124, hr⟩ := bind_some hr
 refine SeqW.consX rfl (StepX.call (gCallee rfl rfl (args1 rfl)) ((c_brake_Factor (z := z) st.fz st.dead  hy124).mono ?_))
 rintro _ _ ⟨rfl, rfl⟩
 refine sx rfl (pEql (k := .i64) (a := y124) (b := 100) rfl rfl rfl) ?_
 refine sx rfl (pMove (v := (vB (y124 == 100))) rfl rfl) ?_
 rcases if_some hr with ⟨hc125, hr⟩ | ⟨hc167, hr⟩
 ·obtain ⟨y126, hy126, hr⟩ := bind_some hr
  refine SeqW.consG rfl rfl rfl hc125 (StepX.call (gCallee rfl rfl (args1 rfl)) ((c_brake_Factor (z := z) st.fz st.dead  hy126).mono ?_))
  rintro _ _ ⟨rfl, rfl⟩
  refine SeqW.consG rfl rfl rfl hc125 (StepX.pure (pEql (k := .i64) (a := y126) (b := 99) rfl rfl rfl) ?_)
  refine sx rfl (pPick (t := true) (v := (vB (y126 == 99))) rfl ((congrArg vB hc125)) rfl) ?_
  refine sx rfl (pMove (v := (vB (y126 == 99))) rfl rfl) ?_
  rcases if_some hr with ⟨hc127, hr⟩ | ⟨hc164, hr⟩
  ·obtain ⟨y128, hy128, hr⟩ := bind_some hr
   refine SeqW.consG rfl rfl rfl hc127 (StepX.call (gCallee rfl rfl (args1 rfl)) ((c_brake_Factor (z := z) st.fz st.dead  hy128).mono ?_))
   rintro _ _ ⟨rfl, rfl⟩
   refine SeqW.consG rfl rfl rfl hc127 (StepX.pure (pEql (k := .i64) (a := y128) (b := 80) rfl rfl rfl) ?_)
   refine sx rfl (pPick (t := true) (v := (vB (y128 == 80))) rfl ((congrArg vB hc127)) rfl) ?_
   refine sx rfl (pMove (v := (vB (y128 == 80))) rfl rfl) ?_
   rcases if_some hr with ⟨hc129, hr⟩ | ⟨hc161, hr⟩
   ·refine SeqW.consG rfl rfl rfl hc129 (StepX.pure (pMove (v := (vI x5)) rfl h5) ?_)
    refine SeqW.consG rfl rfl rfl hc129 (StepX.pure (pEql (k := .i64) (a := x5) (b := 0) rfl rfl rfl) ?_)
    refine sx rfl (pPick (t := true) (v := (vB (x5 == 0))) rfl ((congrArg vB hc129)) rfl) ?_
    refine sx rfl (pMove (v := (vB (x5 == 0))) rfl rfl) ?_
    rcases if_some hr with ⟨hc130, hr⟩ | ⟨hc158, hr⟩
    ·refine SeqW.consG rfl rfl rfl hc130 (kField rfl Try.underlying33 rfl Try.type3 rfl h4 rfl ?_)
     refine SeqW.consG rfl rfl rfl hc130 (kLoad rfl Try.underlying3 rfl rfl (bx4.load (v := (vI x4.percent)) rfl) ?_)
     refine SeqW.consG rfl rfl rfl hc130 (StepX.pure (pEql (k := .i64) (a := x4.percent) (b := 56) rfl rfl rfl) ?_)
     refine sx rfl (pPick (t := true) (v := (vB (x4.percent == 56))) rfl ((congrArg vB hc130)) rfl) ?_
     refine sx rfl (pMove (v := (vB (x4.percent == 56))) rfl rfl) ?_
     rcases if_some hr with ⟨hc131, hr⟩ | ⟨hc155, hr⟩
     ·refine SeqW.consG rfl rfl rfl hc131 (kField rfl Try.underlying33 rfl Try.type3 rfl h4 rfl ?_)
      refine SeqW.consG rfl rfl rfl hc131 (kLoad rfl Try.underlying3 rfl rfl (bx4.load (v := (vI x4.required)) rfl) ?_)
      refine SeqW.consG rfl rfl rfl hc131 (StepX.pure (pEql (k := .i64) (a := x4.required) (b := 65) rfl rfl rfl) ?_)
      refine sx rfl (pPick (t := true) (v := (vB (x4.required == 65))) rfl ((congrArg vB hc131)) rfl) ?_
      refine sx rfl (pMove (v := (vB (x4.required == 65))) rfl rfl) ?_
      rcases if_some hr with ⟨hc132, hr⟩ | ⟨hc152, hr⟩
      ·refine SeqW.consG rfl rfl rfl hc132 (kField rfl Try.underlying33 rfl Try.type3 rfl h4 rfl ?_)
       refine SeqW.consG rfl rfl rfl hc132 (kLoad rfl Try.underlying3 rfl rfl (bx4.load (v := (vI x4.missing)) rfl) ?_)
       refine SeqW.consG rfl rfl rfl hc132 (StepX.pure (pEql (k := .i64) (a := x4.missing) (b := 70) rfl rfl rfl) ?_)
       refine sx rfl (pPick (t := true) (v := (vB (x4.missing == 70))) rfl ((congrArg vB hc132)) rfl) ?_
       refine sx rfl (pMove (v := (vB (x4.missing == 70))) rfl rfl) ?_
       rcases if_some hr with ⟨hc133, hr⟩ | ⟨hc149, hr⟩
       ·refine SeqW.consG rfl rfl rfl hc133 (StepX.pure (pMove (v := (vI x7)) rfl h7) ?_)
        refine SeqW.consG rfl rfl rfl hc133 (StepX.pure (pEql (k := .i64) (a := x7) (b := 0) rfl rfl rfl) ?_)
        refine sx rfl (pPick (t := true) (v := (vB (x7 == 0))) rfl ((congrArg vB hc133)) rfl) ?_
        refine sx rfl (pMove (v := (vB (x7 == 0))) rfl rfl) ?_
        rcases if_some hr with ⟨hc134, hr⟩ | ⟨hc146, hr⟩
        ·refine SeqW.consG rfl rfl rfl hc134 (kField rfl Try.underlying33 rfl Try.type3 rfl h6 rfl ?_)
         refine SeqW.consG rfl rfl rfl hc134 (kLoad rfl Try.underlying3 rfl rfl (bx6.load (v := (vI x6.percent)) rfl) ?_)
         refine SeqW.consG rfl rfl rfl hc134 (StepX.pure (pEql (k := .i64) (a := x6.percent) (b := 0) rfl rfl rfl) ?_)
         refine sx rfl (pPick (t := true) (v := (vB (x6.percent == 0))) rfl ((congrArg vB hc134)) rfl) ?_
         refine sx rfl (pMove (v := (vB (x6.percent == 0))) rfl rfl) ?_
         rcases if_some hr with ⟨hc135, hr⟩ | ⟨hc143, hr⟩
         ·refine SeqW.consG rfl rfl rfl hc135 (kField rfl Try.underlying33 rfl Try.type3 rfl h6 rfl ?_)
          refine SeqW.consG rfl rfl rfl hc135 (kLoad rfl Try.underlying3 rfl rfl (bx6.load (v := (vI x6.missing)) rfl) ?_)
          refine SeqW.consG rfl rfl rfl hc135 (StepX.pure (pEql (k := .i64) (a := x6.missing) (b := 520) rfl rfl rfl) ?_)
          refine sx rfl (pPick (t := true) (v := (vB (x6.missing == 520))) rfl ((congrArg vB hc135)) rfl) ?_
          refine sx rfl (pMove (v := (vB (x6.missing == 520))) rfl rfl) ?_
          rcases if_some hr with ⟨hc136, hr⟩ | ⟨hc140, hr⟩
          ·refine SeqW.consG rfl rfl rfl hc136 (StepX.pure (pMove (v := (vI x9)) rfl h9) ?_)
           refine SeqW.consG rfl rfl rfl hc136 (StepX.pure (pEql (k := .i64) (a := x9) (b := 2) rfl rfl rfl) ?_)
           refine sx rfl (pPick (t := true) (v := (vB (x9 == 2))) rfl ((congrArg vB hc136)) rfl) ?_
           obtain ⟨y137, hy137, hr⟩ := lt_some hr
           refine sx rfl (pAssign rfl (congrArg vB hy137)) ?_
           refine SeqW.done fun fr138 hf139 => ?_
           have h0 : fr138 0 = (vB y137) := (congrFun hf139 0).trans rfl
           clear hf139
           obtain rfl := Option.some.inj hr
           exact ⟨z, hz, st, rfl, h0, trivial⟩
          ·refine kx rfl rfl rfl hc140 ?_
           refine kx rfl rfl rfl hc140 ?_
           refine sx rfl (pPick (t := false) (v := (vB false)) rfl ((congrArg vB hc140)) rfl) ?_
           refine sx rfl (pAssign (v := (vB false)) rfl rfl) ?_
           refine SeqW.done fun fr141 hf142 => ?_
           have h0 : fr141 0 = (vB false) := (congrFun hf142 0).trans rfl
           clear hf142
           obtain rfl := Option.some.inj hr
           exact ⟨z, hz, st, rfl, h0, trivial⟩
         ·refine kx rfl rfl rfl hc143 ?_
          iterate 2 refine kx rfl rfl rfl hc143 ?_
          refine sx rfl (pPick (t := false) (v := (vB false)) rfl ((congrArg vB hc143)) rfl) ?_
          refine sx rfl (pMove (v := (vB false)) rfl rfl) ?_
          iterate 2 refine kx rfl rfl rfl rfl ?_
          refine sx rfl (pPick (t := false) (v := (vB false)) rfl ((congrArg vB (rfl : false = false))) rfl) ?_
          refine sx rfl (pAssign (v := (vB false)) rfl rfl) ?_
          refine SeqW.done fun fr144 hf145 => ?_
          have h0 : fr144 0 = (vB false) := (congrFun hf145 0).trans rfl
          clear hf145
          obtain rfl := Option.some.inj hr
          exact ⟨z, hz, st, rfl, h0, trivial⟩
        ·refine kx rfl rfl rfl hc146 ?_
         iterate 2 refine kx rfl rfl rfl hc146 ?_
         refine sx rfl (pPick (t := false) (v := (vB false)) rfl ((congrArg vB hc146)) rfl) ?_
         refine sx rfl (pMove (v := (vB false)) rfl rfl) ?_
         iterate 3 refine kx rfl rfl rfl rfl ?_
         refine sx rfl (pPick (t := false) (v := (vB false)) rfl ((congrArg vB (rfl : false = false))) rfl) ?_
         refine sx rfl (pMove (v := (vB false)) rfl rfl) ?_
         iterate 2 refine kx rfl rfl rfl rfl ?_
         refine sx rfl (pPick (t := false) (v := (vB false)) rfl ((congrArg vB (rfl : false = false))) rfl) ?_
         refine sx rfl (pAssign (v := (vB false)) rfl rfl) ?_
         refine SeqW.done fun fr147 hf148 => ?_
         have h0 : fr147 0 = (vB false) := (congrFun hf148 0).trans rfl
         clear hf148
         obtain rfl := Option.some.inj hr
         exact ⟨z, hz, st, rfl, h0, trivial⟩
       ·refine kx rfl rfl rfl hc149 ?_
        refine kx rfl rfl rfl hc149 ?_
        refine sx rfl (pPick (t := false) (v := (vB false)) rfl ((congrArg vB hc149)) rfl) ?_
        refine sx rfl (pMove (v := (vB false)) rfl rfl) ?_
        iterate 3 refine kx rfl rfl rfl rfl ?_
        refine sx rfl (pPick (t := false) (v := (vB false)) rfl ((congrArg vB (rfl : false = false))) rfl) ?_
        refine sx rfl (pMove (v := (vB false)) rfl rfl) ?_
        iterate 3 refine kx rfl rfl rfl rfl ?_
        refine sx rfl (pPick (t := false) (v := (vB false)) rfl ((congrArg vB (rfl : false = false))) rfl) ?_
        refine sx rfl (pMove (v := (vB false)) rfl rfl) ?_
        iterate 2 refine kx rfl rfl rfl rfl ?_
        refine sx rfl (pPick (t := false) (v := (vB false)) rfl ((congrArg vB (rfl : false = false))) rfl) ?_
        refine sx rfl (pAssign (v := (vB false)) rfl rfl) ?_
        refine SeqW.done fun fr150 hf151 => ?_
        have h0 : fr150 0 = (vB false) := (congrFun hf151 0).trans rfl
        clear hf151
        obtain rfl := Option.some.inj hr
        exact ⟨z, hz, st, rfl, h0, trivial⟩
      ·refine kx rfl rfl rfl hc152 ?_
       iterate 2 refine kx rfl rfl rfl hc152 ?_
       refine sx rfl (pPick (t := false) (v := (vB false)) rfl ((congrArg vB hc152)) rfl) ?_
       refine sx rfl (pMove (v := (vB false)) rfl rfl) ?_
       iterate 2 refine kx rfl rfl rfl rfl ?_
       refine sx rfl (pPick (t := false) (v := (vB false)) rfl ((congrArg vB (rfl : false = false))) rfl) ?_
       refine sx rfl (pMove (v := (vB false)) rfl rfl) ?_
       iterate 3 refine kx rfl rfl rfl rfl ?_
       refine sx rfl (pPick (t := false) (v := (vB false)) rfl ((congrArg vB (rfl : false = false))) rfl) ?_
       refine sx rfl (pMove (v := (vB false)) rfl rfl) ?_
       iterate 3 refine kx rfl rfl rfl rfl ?_
       refine sx rfl (pPick (t := false) (v := (vB false)) rfl ((congrArg vB (rfl : false = false))) rfl) ?_
       refine sx rfl (pMove (v := (vB false)) rfl rfl) ?_
       iterate 2 refine kx rfl rfl rfl rfl ?_
       refine sx rfl (pPick (t := false) (v := (vB false)) rfl ((congrArg vB (rfl : false = false))) rfl) ?_
       refine sx rfl (pAssign (v := (vB false)) rfl rfl) ?_
       refine SeqW.done fun fr153 hf154 => ?_
       have h0 : fr153 0 = (vB false) := (congrFun hf154 0).trans rfl
       clear hf154
       obtain rfl := Option.some.inj hr
       exact ⟨z, hz, st, rfl, h0, trivial⟩
     ·refine kx rfl rfl rfl hc155 ?_
      iterate 2 refine kx rfl rfl rfl hc155 ?_
      refine sx rfl (pPick (t := false) (v := (vB false)) rfl ((congrArg vB hc155)) rfl) ?_
      refine sx rfl (pMove (v := (vB false)) rfl rfl) ?_
      iterate 3 refine kx rfl rfl rfl rfl ?_
      refine sx rfl (pPick (t := false) (v := (vB false)) rfl ((congrArg vB (rfl : false = false))) rfl) ?_
      refine sx rfl (pMove (v := (vB false)) rfl rfl) ?_
      iterate 2 refine kx rfl rfl rfl rfl ?_
      refine sx rfl (pPick (t := false) (v := (vB false)) rfl ((congrArg vB (rfl : false = false))) rfl) ?_
      refine sx rfl (pMove (v := (vB false)) rfl rfl) ?_
      iterate 3 refine kx rfl rfl rfl rfl ?_
      refine sx rfl (pPick (t := false) (v := (vB false)) rfl ((congrArg vB (rfl : false = false))) rfl) ?_
      refine sx rfl (pMove (v := (vB false)) rfl rfl) ?_
      iterate 3 refine kx rfl rfl rfl rfl ?_
      refine sx rfl (pPick (t := false) (v := (vB false)) rfl ((congrArg vB (rfl : false = false))) rfl) ?_
      refine sx rfl (pMove (v := (vB false)) rfl rfl) ?_
      iterate 2 refine kx rfl rfl rfl rfl ?_
      refine sx rfl (pPick (t := false) (v := (vB false)) rfl ((congrArg vB (rfl : false = false))) rfl) ?_
      refine sx rfl (pAssign (v := (vB false)) rfl rfl) ?_
      refine SeqW.done fun fr156 hf157 => ?_
      have h0 : fr156 0 = (vB false) := (congrFun hf157 0).trans rfl
      clear hf157
      obtain rfl := Option.some.inj hr
      exact ⟨z, hz, st, rfl, h0, trivial⟩
    ·refine kx rfl rfl rfl hc158 ?_
     iterate 2 refine kx rfl rfl rfl hc158 ?_
     refine sx rfl (pPick (t := false) (v := (vB false)) rfl ((congrArg vB hc158)) rfl) ?_
     refine sx rfl (pMove (v := (vB false)) rfl rfl) ?_
     iterate 3 refine kx rfl rfl rfl rfl ?_
     refine sx rfl (pPick (t := false) (v := (vB false)) rfl ((congrArg vB (rfl : false = false))) rfl) ?_
     refine sx rfl (pMove (v := (vB false)) rfl rfl) ?_
     iterate 3 refine kx rfl rfl rfl rfl ?_
     refine sx rfl (pPick (t := false) (v := (vB false)) rfl ((congrArg vB (rfl : false = false))) rfl) ?_
     refine sx rfl (pMove (v := (vB false)) rfl rfl) ?_
     iterate 2 refine kx rfl rfl rfl rfl ?_
     refine sx rfl (pPick (t := false) (v := (vB false)) rfl ((congrArg vB (rfl : false = false))) rfl) ?_
     refine sx rfl (pMove (v := (vB false)) rfl rfl) ?_
     iterate 3 refine kx rfl rfl rfl rfl ?_
     refine sx rfl (pPick (t := false) (v := (vB false)) rfl ((congrArg vB (rfl : false = false))) rfl) ?_
     refine sx rfl (pMove (v := (vB false)) rfl rfl) ?_
     iterate 3 refine kx rfl rfl rfl rfl ?_
     refine sx rfl (pPick (t := false) (v := (vB false)) rfl ((congrArg vB (rfl : false = false))) rfl) ?_
     refine sx rfl (pMove (v := (vB false)) rfl rfl) ?_
     iterate 2 refine kx rfl rfl rfl rfl ?_
     refine sx rfl (pPick (t := false) (v := (vB false)) rfl ((congrArg vB (rfl : false = false))) rfl) ?_
     refine sx rfl (pAssign (v := (vB false)) rfl rfl) ?_
     refine SeqW.done fun fr159 hf160 => ?_
     have h0 : fr159 0 = (vB false) := (congrFun hf160 0).trans rfl
     clear hf160
     obtain rfl := Option.some.inj hr
     exact ⟨z, hz, st, rfl, h0, trivial⟩
   ·refine kx rfl rfl rfl hc161 ?_
    refine kx rfl rfl rfl hc161 ?_
    refine sx rfl (pPick (t := false) (v := (vB false)) rfl ((congrArg vB hc161)) rfl) ?_
    refine sx rfl (pMove (v := (vB false)) rfl rfl) ?_
    iterate 3 refine kx rfl rfl rfl rfl ?_
    refine sx rfl (pPick (t := false) (v := (vB false)) rfl ((congrArg vB (rfl : false = false))) rfl) ?_
    refine sx rfl (pMove (v := (vB false)) rfl rfl) ?_
    iterate 3 refine kx rfl rfl rfl rfl ?_
    refine sx rfl (pPick (t := false) (v := (vB false)) rfl ((congrArg vB (rfl : false = false))) rfl) ?_
    refine sx rfl (pMove (v := (vB false)) rfl rfl) ?_
    iterate 3 refine kx rfl rfl rfl rfl ?_
    refine sx rfl (pPick (t := false) (v := (vB false)) rfl ((congrArg vB (rfl : false = false))) rfl) ?_
    refine sx rfl (pMove (v := (vB false)) rfl rfl) ?_
    iterate 2 refine kx rfl rfl rfl rfl ?_
    refine sx rfl (pPick (t := false) (v := (vB false)) rfl ((congrArg vB (rfl : false = false))) rfl) ?_
    refine sx rfl (pMove (v := (vB false)) rfl rfl) ?_
    iterate 3 refine kx rfl rfl rfl rfl ?_
    refine sx rfl (pPick (t := false) (v := (vB false)) rfl ((congrArg vB (rfl : false = false))) rfl) ?_
    refine sx rfl (pMove (v := (vB false)) rfl rfl) ?_
    iterate 3 refine kx rfl rfl rfl rfl ?_
    refine sx rfl (pPick (t := false) (v := (vB false)) rfl ((congrArg vB (rfl : false = false))) rfl) ?_
    refine sx rfl (pMove (v := (vB false)) rfl rfl) ?_
    iterate 2 refine kx rfl rfl rfl rfl ?_
    refine sx rfl (pPick (t := false) (v := (vB false)) rfl ((congrArg vB (rfl : false = false))) rfl) ?_
    refine sx rfl (pAssign (v := (vB false)) rfl rfl) ?_
    refine SeqW.done fun fr162 hf163 => ?_
    have h0 : fr162 0 = (vB false) := (congrFun hf163 0).trans rfl
    clear hf163
    obtain rfl := Option.some.inj hr
    exact ⟨z, hz, st, rfl, h0, trivial⟩
  ·refine kx rfl rfl rfl hc164 ?_
   refine kx rfl rfl rfl hc164 ?_
   refine sx rfl (pPick (t := false) (v := (vB false)) rfl ((congrArg vB hc164)) rfl) ?_
   refine sx rfl (pMove (v := (vB false)) rfl rfl) ?_
   iterate 2 refine kx rfl rfl rfl rfl ?_
   refine sx rfl (pPick (t := false) (v := (vB false)) rfl ((congrArg vB (rfl : false = false))) rfl) ?_
   refine sx rfl (pMove (v := (vB false)) rfl rfl) ?_
   iterate 3 refine kx rfl rfl rfl rfl ?_
   refine sx rfl (pPick (t := false) (v := (vB false)) rfl ((congrArg vB (rfl : false = false))) rfl) ?_
   refine sx rfl (pMove (v := (vB false)) rfl rfl) ?_
   iterate 3 refine kx rfl rfl rfl rfl ?_
   refine sx rfl (pPick (t := false) (v := (vB false)) rfl ((congrArg vB (rfl : false = false))) rfl) ?_
   refine sx rfl (pMove (v := (vB false)) rfl rfl) ?_
   iterate 3 refine kx rfl rfl rfl rfl ?_
   refine sx rfl (pPick (t := false) (v := (vB false)) rfl ((congrArg vB (rfl : false = false))) rfl) ?_
   refine sx rfl (pMove (v := (vB false)) rfl rfl) ?_
   iterate 2 refine kx rfl rfl rfl rfl ?_
   refine sx rfl (pPick (t := false) (v := (vB false)) rfl ((congrArg vB (rfl : false = false))) rfl) ?_
   refine sx rfl (pMove (v := (vB false)) rfl rfl) ?_
   iterate 3 refine kx rfl rfl rfl rfl ?_
   refine sx rfl (pPick (t := false) (v := (vB false)) rfl ((congrArg vB (rfl : false = false))) rfl) ?_
   refine sx rfl (pMove (v := (vB false)) rfl rfl) ?_
   iterate 3 refine kx rfl rfl rfl rfl ?_
   refine sx rfl (pPick (t := false) (v := (vB false)) rfl ((congrArg vB (rfl : false = false))) rfl) ?_
   refine sx rfl (pMove (v := (vB false)) rfl rfl) ?_
   iterate 2 refine kx rfl rfl rfl rfl ?_
   refine sx rfl (pPick (t := false) (v := (vB false)) rfl ((congrArg vB (rfl : false = false))) rfl) ?_
   refine sx rfl (pAssign (v := (vB false)) rfl rfl) ?_
   refine SeqW.done fun fr165 hf166 => ?_
   have h0 : fr165 0 = (vB false) := (congrFun hf166 0).trans rfl
   clear hf166
   obtain rfl := Option.some.inj hr
   exact ⟨z, hz, st, rfl, h0, trivial⟩
 ·refine kx rfl rfl rfl hc167 ?_
  refine kx rfl rfl rfl hc167 ?_
  refine sx rfl (pPick (t := false) (v := (vB false)) rfl ((congrArg vB hc167)) rfl) ?_
  refine sx rfl (pMove (v := (vB false)) rfl rfl) ?_
  iterate 2 refine kx rfl rfl rfl rfl ?_
  refine sx rfl (pPick (t := false) (v := (vB false)) rfl ((congrArg vB (rfl : false = false))) rfl) ?_
  refine sx rfl (pMove (v := (vB false)) rfl rfl) ?_
  iterate 2 refine kx rfl rfl rfl rfl ?_
  refine sx rfl (pPick (t := false) (v := (vB false)) rfl ((congrArg vB (rfl : false = false))) rfl) ?_
  refine sx rfl (pMove (v := (vB false)) rfl rfl) ?_
  iterate 3 refine kx rfl rfl rfl rfl ?_
  refine sx rfl (pPick (t := false) (v := (vB false)) rfl ((congrArg vB (rfl : false = false))) rfl) ?_
  refine sx rfl (pMove (v := (vB false)) rfl rfl) ?_
  iterate 3 refine kx rfl rfl rfl rfl ?_
  refine sx rfl (pPick (t := false) (v := (vB false)) rfl ((congrArg vB (rfl : false = false))) rfl) ?_
  refine sx rfl (pMove (v := (vB false)) rfl rfl) ?_
  iterate 3 refine kx rfl rfl rfl rfl ?_
  refine sx rfl (pPick (t := false) (v := (vB false)) rfl ((congrArg vB (rfl : false = false))) rfl) ?_
  refine sx rfl (pMove (v := (vB false)) rfl rfl) ?_
  iterate 2 refine kx rfl rfl rfl rfl ?_
  refine sx rfl (pPick (t := false) (v := (vB false)) rfl ((congrArg vB (rfl : false = false))) rfl) ?_
  refine sx rfl (pMove (v := (vB false)) rfl rfl) ?_
  iterate 3 refine kx rfl rfl rfl rfl ?_
  refine sx rfl (pPick (t := false) (v := (vB false)) rfl ((congrArg vB (rfl : false = false))) rfl) ?_
  refine sx rfl (pMove (v := (vB false)) rfl rfl) ?_
  iterate 3 refine kx rfl rfl rfl rfl ?_
  refine sx rfl (pPick (t := false) (v := (vB false)) rfl ((congrArg vB (rfl : false = false))) rfl) ?_
  refine sx rfl (pMove (v := (vB false)) rfl rfl) ?_
  iterate 2 refine kx rfl rfl rfl rfl ?_
  refine sx rfl (pPick (t := false) (v := (vB false)) rfl ((congrArg vB (rfl : false = false))) rfl) ?_
  refine sx rfl (pAssign (v := (vB false)) rfl rfl) ?_
  refine SeqW.done fun fr168 hf169 => ?_
  have h0 : fr168 0 = (vB false) := (congrFun hf169 0).trans rfl
  clear hf169
  obtain rfl := Option.some.inj hr
  exact ⟨z, hz, st, rfl, h0, trivial⟩

theorem u_l35_sane {N : Nat}  {z0 z : Nat → Blk} {e m : Mem} {k : Option Nat} {fr : Nat → Value} (hz : Zx e.next z0 z) (st : St z e m k)  {r : Bool} (hr : l35_sane N  = some r) : W Try.prog (sub (bodyOf Try.f16) []) (fun ex fr' m' => ∃ z', Zx e.next z0 z' ∧ St z' e m' k ∧ (ex = .normal ∨ ex = .ret) ∧ fr' 0 = (vB r) ∧ True) fr m := by
 unfold l35_sane at hr
 refine W.seq (W.region ?_)
 refine sx rfl (pAssign (v := (vB false)) rfl rfl) ?_
 refine SeqW.done fun fr1 hf2 => ?_
 clear hf2
 refine thenQ.n (W.seq (W.region ?_))
 refine SeqW.consX rfl (kBuild (T := (TInt 3 .i64)) rfl Try.underlying22 Try.type3 rfl rfl rfl rfl ([3] : List Int) [[(vI 3)]] rfl rfl rfl (BuildOk.mk (w := (vI 3)) rfl rfl rfl rfl trivial) st ?_)
 intro V3 m4 st O5 sm6 hap7
 obtain ⟨z9, hz10, st, Q11, hl12⟩ := O5.freeze st
 replace hz := hz.trans hz10
 obtain ⟨y13, hy13, hr⟩ := bind_some hr
 refine SeqW.consX rfl (StepX.call (gCallee rfl rfl (args1 rfl)) ((c_gen_New (z := z9) st.fz st.dead Q11 hy13).mono ?_))
 rintro _ m18 ⟨z14, B19, V22, hzx15, fz16, sm17, rfl, Q23, X20, hn25, -⟩
 replace Q11 := Q11.mono hzx15.le
 have X20 : Bx z14 e m18 k B19 _ _ := ⟨X20.blk, X20.lt, X20.dead, .inl (Nat.le_trans st.next hn25)⟩
 replace hz := hz.trans (Zx.here st hzx15)
 replace st := st.call hzx15 fz16 sm17 no_hq
 obtain ⟨y26, hy26, hr⟩ := bind_some hr
 refine SeqW.consX rfl (StepX.call (gCallee rfl rfl (args2 rfl rfl)) ((c_Maker_Wagon (x0 := y13) (z := z14) st.fz st.dead Q23 ⟨X20.blk, X20.lt, X20.dead, .inr rfl⟩ hy26).mono ?_))
 rintro _ m31 ⟨z27, V32, hzx28, fz29, sm30, rfl, Q33, X35, -⟩
 replace Q23 := Q23.mono hzx28.le
 have X20n : Bx z27 e m31 k B19 _ _ := ⟨X35.blk, X35.lt, X35.dead, X20.fresh⟩
 replace hz := hz.trans (Zx.here st hzx28)
 replace st := st.call hzx28 fz29 sm30 X20.hq
 refine SeqW.consX rfl (kAlloc rfl Try.type48 rfl rfl rfl [(str []), (vI 0), (vI 0), (vI 0), (vI 0), (vI 0), (vB false), (str [])] rfl st ?_)
 intro B36 m37 st X38 sm39 hap40
 refine SeqW.consX rfl (kPut (off := 0) (w := (Value.agg [(str y26.1.number), (vI y26.1.length), (vI y26.1.axles), (vI y26.1.mass), (vI y26.1.brake), (vI y26.1.goods), (vB y26.1.gentle), (str y26.1.dest)].toArray)) (new := [(str y26.1.number), (vI y26.1.length), (vI y26.1.axles), (vI y26.1.mass), (vI y26.1.brake), (vI y26.1.goods), (vB y26.1.gentle), (str y26.1.dest)]) rfl Try.type48 rfl rfl rfl rfl rfl X38 rfl [(str y26.1.number), (vI y26.1.length), (vI y26.1.axles), (vI y26.1.mass), (vI y26.1.brake), (vI y26.1.goods), (vB y26.1.gentle), (str y26.1.dest)] rfl st ?_)
 intro m42 st X38 sm43
 refine SeqW.done fun fr44 hf45 => ?_
 have h1 : fr44 1 = (vP B36) := (congrFun hf45 1).trans rfl
 clear hf45
 refine thenQ.n (W.seq (W.region ?_))
 refine SeqW.consX rfl (kField rfl Try.underlying48 rfl Try.type3 rfl h1 rfl ?_)
 refine SeqW.consX rfl (kPut (off := 3) (w := (vI 800)) (new := [(vI 800)]) rfl Try.type3 rfl rfl rfl rfl rfl X38 rfl [(str y26.1.number), (vI y26.1.length), (vI y26.1.axles), (vI 800), (vI y26.1.brake), (vI y26.1.goods), (vB y26.1.gentle), (str y26.1.dest)] rfl st ?_)
 intro m46 st X38 sm47
 refine SeqW.consX rfl (kField rfl Try.underlying48 rfl Try.type3 rfl h1 rfl ?_)
 refine SeqW.consX rfl (kPut (off := 4) (w := (vI 450)) (new := [(vI 450)]) rfl Try.type3 rfl rfl rfl rfl rfl X38 rfl [(str y26.1.number), (vI y26.1.length), (vI y26.1.axles), (vI 800), (vI 450), (vI y26.1.goods), (vB y26.1.gentle), (str y26.1.dest)] rfl st ?_)
 intro m48 st X38 sm49
 refine SeqW.done fun fr50 hf51 => ?_
 have h1 := (congrFun hf51 1).trans h1
 clear hf51
 refine thenQ.n (W.seq (W.region ?_))
 refine SeqW.consX rfl (kLoadA rfl Try.underlying48 rfl Try.type48 rfl h1 X38.loads ?_)
 refine SeqW.consX rfl (kBuild (T := TWagon) rfl Try.underlying25 Try.type48 rfl rfl rfl rfl ([(Wagon.mk y26.1.number y26.1.length y26.1.axles 800 450 y26.1.goods y26.1.gentle y26.1.dest)] : List Wagon) [[(str y26.1.number), (vI y26.1.length), (vI y26.1.axles), (vI 800), (vI 450), (vI y26.1.goods), (vB y26.1.gentle), (str y26.1.dest)]] rfl rfl rfl (BuildOk.mk (w := (Value.agg [(str y26.1.number), (vI y26.1.length), (vI y26.1.axles), (vI 800), (vI 450), (vI y26.1.goods), (vB y26.1.gentle), (str y26.1.dest)].toArray)) rfl rfl rfl rfl trivial) st ?_)
 intro V52 m53 st O54 sm55 hap56
 refine sx rfl (pAssign (v := V52) rfl rfl) ?_
 refine SeqW.done fun fr58 hf59 => ?_
 have h2 : fr58 2 = V52 := (congrFun hf59 2).trans rfl
 clear hf59
 refine thenQ.n (W.seq (W.region ?_))
 refine SeqW.consX rfl (kBuildS [(0, (vI 100)), (1, (vI 50)), (2, (vI 65))] [(vI 100), (vI 50), (vI 65)] rfl Try.underlying31 Try.type31 rfl rfl (places31 Try.underlying31) rfl (rfl) rfl ?_)
 refine SeqW.consX rfl (kBuildS [(0, (vI 200)), (1, (vI 500)), (2, (vI 90))] [(vI 200), (vI 500), (vI 90)] rfl Try.underlying31 Try.type31 rfl rfl (places31 Try.underlying31) rfl (rfl) rfl ?_)
 refine SeqW.consX rfl (kBuild (T := TBrakeRow) rfl Try.underlying27 Try.type31 rfl rfl rfl rfl ([(BrakeRow.mk 100 50 65), (BrakeRow.mk 200 500 90)] : List BrakeRow) [[(vI 100), (vI 50), (vI 65)], [(vI 200), (vI 500), (vI 90)]] rfl rfl rfl (BuildOk.mk (w := (Value.agg [(vI 100), (vI 50), (vI 65)].toArray)) rfl rfl rfl rfl (BuildOk.mk (w := (Value.agg [(vI 200), (vI 500), (vI 90)].toArray)) rfl rfl rfl rfl trivial)) st ?_)
 intro V60 m61 st O62 sm63 hap64
 have A66 := hap64 _ O54.lt
 replace O54 := O54.same sm63 Ap.none'
 refine sx rfl (pAssign (v := V60) rfl rfl) ?_
 refine SeqW.done fun fr67 hf68 => ?_
 have h2 := (congrFun hf68 2).trans h2
 have h3 : fr67 3 = V60 := (congrFun hf68 3).trans rfl
 clear hf68
 refine thenQ.n (W.seq (W.region ?_))
 refine sx rfl (pMove (v := V52) rfl h2) ?_
 refine sx rfl (pMove (v := V60) rfl h3) ?_
 obtain ⟨z69, hz70, st, Q71, hl72⟩ := O54.freeze st
 replace O62 := O62.zle hz70.le (hl72 _ (Ap.symm A66))
 replace hz := hz.trans hz70
 obtain ⟨z73, hz74, st, Q75, hl76⟩ := O62.freeze st
 replace Q71 := Q71.mono hz74.le
 replace hz := hz.trans hz74
 obtain ⟨y77, hy77, hr⟩ := bind_some hr
 refine SeqW.consX rfl (StepX.call (gCallee rfl rfl (args5 rfl rfl rfl rfl rfl)) ((c_brake_Sheet (z := z73) st.fz st.dead Q71 (SlR.nil (T := (TInt 3 .i64))) Q75 hy77).mono ?_))
 rintro _ m82 ⟨z78, hzx79, fz80, sm81, rfl, -⟩
 replace Q71 := Q71.mono hzx79.le
 replace Q75 := Q75.mono hzx79.le
 replace hz := hz.trans (Zx.here st hzx79)
 replace st := st.call hzx79 fz80 sm81 no_hq
 refine sx rfl (pMove (v := (Value.tuple [(Value.agg [(vI y77.1.length), (vI y77.1.axles), (vI y77.1.mass), (vI y77.1.braked), (vI y77.1.percent), (vI y77.1.required), (vI y77.1.missing)].toArray), (vI y77.2)].toArray)) rfl rfl) ?_
 refine sx rfl (pExtract (vs := [(Value.agg [(vI y77.1.length), (vI y77.1.axles), (vI y77.1.mass), (vI y77.1.braked), (vI y77.1.percent), (vI y77.1.required), (vI y77.1.missing)].toArray), (vI y77.2)]) (v := (Value.agg [(vI y77.1.length), (vI y77.1.axles), (vI y77.1.mass), (vI y77.1.braked), (vI y77.1.percent), (vI y77.1.required), (vI y77.1.missing)].toArray)) rfl rfl rfl) ?_
 refine sx rfl (pExtract (vs := [(Value.agg [(vI y77.1.length), (vI y77.1.axles), (vI y77.1.mass), (vI y77.1.braked), (vI y77.1.percent), (vI y77.1.required), (vI y77.1.missing)].toArray), (vI y77.2)]) (v := (vI y77.2)) rfl rfl rfl) ?_
 refine SeqW.consX rfl (kAlloc rfl Try.type33 rfl rfl rfl [(vI 0), (vI 0), (vI 0), (vI 0), (vI 0), (vI 0), (vI 0)] rfl st ?_)
 intro B83 m84 st X85 sm86 hap87
 refine SeqW.consX rfl (kPut (off := 0) (w := (Value.agg [(vI y77.1.length), (vI y77.1.axles), (vI y77.1.mass), (vI y77.1.braked), (vI y77.1.percent), (vI y77.1.required), (vI y77.1.missing)].toArray)) (new := [(vI y77.1.length), (vI y77.1.axles), (vI y77.1.mass), (vI y77.1.braked), (vI y77.1.percent), (vI y77.1.required), (vI y77.1.missing)]) rfl Try.type33 rfl rfl rfl rfl rfl X85 rfl [(vI y77.1.length), (vI y77.1.axles), (vI y77.1.mass), (vI y77.1.braked), (vI y77.1.percent), (vI y77.1.required), (vI y77.1.missing)] rfl st ?_)
 intro m89 st X85 sm90
 refine sx rfl (pAssign (v := (vI y77.2)) rfl rfl) ?_
 refine SeqW.done fun fr91 hf92 => ?_
 have h2 := (congrFun hf92 2).trans h2
 have h3 := (congrFun hf92 3).trans h3
 have h4 : fr91 4 = (vP B83) := (congrFun hf92 4).trans rfl
 have h5 : fr91 5 = (vI y77.2) := (congrFun hf92 5).trans rfl
 clear hf92
 refine thenQ.n (W.seq (W.region ?_))
 refine sx rfl (pMove (v := V52) rfl h2) ?_
 refine SeqW.consX rfl (kBuild (T := (TInt 3 .i64)) rfl Try.underlying22 Try.type3 rfl rfl rfl rfl ([0] : List Int) [[(vI 0)]] rfl rfl rfl (BuildOk.mk (w := (vI 0)) rfl rfl rfl rfl trivial) st ?_)
 intro V93 m94 st O95 sm96 hap97
 have A99 := hap97 _ X85.lt'
 replace X85 := X85.same sm96 Ap.none'
 refine sx rfl (pMove (v := V60) rfl h3) ?_
 obtain ⟨z100, hz101, st, Q102, hl103⟩ := O95.freeze st
 replace Q71 := Q71.mono hz101.le
 replace Q75 := Q75.mono hz101.le
 replace X85 := X85.zle (hl103 _ A99)
 replace hz := hz.trans hz101
 obtain ⟨y104, hy104, hr⟩ := bind_some hr
 refine SeqW.consX rfl (StepX.call (gCallee rfl rfl (args5 rfl rfl rfl rfl rfl)) ((c_brake_Sheet (z := z100) st.fz st.dead Q71 Q102 Q75 hy104).mono ?_))
 rintro _ m109 ⟨z105, hzx106, fz107, sm108, rfl, -⟩
 replace Q71 := Q71.mono hzx106.le
 replace Q75 := Q75.mono hzx106.le
 replace X85 := X85.call hzx106 sm108 Ap.none'
 replace Q102 := Q102.mono hzx106.le
 replace hz := hz.trans (Zx.here st hzx106)
 replace st := st.call hzx106 fz107 sm108 no_hq
 refine sx rfl (pMove (v := (Value.tuple [(Value.agg [(vI y104.1.length), (vI y104.1.axles), (vI y104.1.mass), (vI y104.1.braked), (vI y104.1.percent), (vI y104.1.required), (vI y104.1.missing)].toArray), (vI y104.2)].toArray)) rfl rfl) ?_
 refine sx rfl (pExtract (vs := [(Value.agg [(vI y104.1.length), (vI y104.1.axles), (vI y104.1.mass), (vI y104.1.braked), (vI y104.1.percent), (vI y104.1.required), (vI y104.1.missing)].toArray), (vI y104.2)]) (v := (Value.agg [(vI y104.1.length), (vI y104.1.axles), (vI y104.1.mass), (vI y104.1.braked), (vI y104.1.percent), (vI y104.1.required), (vI y104.1.missing)].toArray)) rfl rfl rfl) ?_
 refine sx rfl (pExtract (vs := [(Value.agg [(vI y104.1.length), (vI y104.1.axles), (vI y104.1.mass), (vI y104.1.braked), (vI y104.1.percent), (vI y104.1.required), (vI y104.1.missing)].toArray), (vI y104.2)]) (v := (vI y104.2)) rfl rfl rfl) ?_
 refine SeqW.consX rfl (kAlloc rfl Try.type33 rfl rfl rfl [(vI 0), (vI 0), (vI 0), (vI 0), (vI 0), (vI 0), (vI 0)] rfl st ?_)
 intro B110 m111 st X112 sm113 hap114
 have A116 := hap114 _ X85.lt'
 replace X85 := X85.same sm113 Ap.none'
 refine SeqW.consX rfl (kPut (off := 0) (w := (Value.agg [(vI y104.1.length), (vI y104.1.axles), (vI y104.1.mass), (vI y104.1.braked), (vI y104.1.percent), (vI y104.1.required), (vI y104.1.missing)].toArray)) (new := [(vI y104.1.length), (vI y104.1.axles), (vI y104.1.mass), (vI y104.1.braked), (vI y104.1.percent), (vI y104.1.required), (vI y104.1.missing)]) rfl Try.type33 rfl rfl rfl rfl rfl X112 rfl [(vI y104.1.length), (vI y104.1.axles), (vI y104.1.mass), (vI y104.1.braked), (vI y104.1.percent), (vI y104.1.required), (vI y104.1.missing)] rfl st ?_)
 intro m117 st X112 sm118
 replace X85 := X85.same sm118 A116
 refine sx rfl (pAssign (v := (vI y104.2)) rfl rfl) ?_
 refine SeqW.done fun fr119 hf120 => ?_
 have h3 := (congrFun hf120 3).trans h3
 have h4 := (congrFun hf120 4).trans h4
 have h5 := (congrFun hf120 5).trans h5
 have h6 : fr119 6 = (vP B110) := (congrFun hf120 6).trans rfl
 have h7 : fr119 7 = (vI y104.2) := (congrFun hf120 7).trans rfl
 clear hf120
 refine thenQ.n (W.seq (W.region ?_))
 refine sx rfl (pMove (v := V60) rfl h3) ?_
 obtain ⟨y121, hy121, hr⟩ := bind_some hr
 refine SeqW.consX rfl (StepX.call (gCallee rfl rfl (args3 rfl rfl rfl)) ((c_brake_Required (z := z105) st.fz st.dead Q75 hy121).mono ?_))
 rintro _ _ ⟨rfl, rfl⟩
 refine sx rfl (pMove (v := (Value.tuple [(vI y121.1), (vI y121.2)].toArray)) rfl rfl) ?_
 refine sx rfl (pExtract (vs := [(vI y121.1), (vI y121.2)]) (v := (vI y121.1)) rfl rfl rfl) ?_
 refine sx rfl (pExtract (vs := [(vI y121.1), (vI y121.2)]) (v := (vI y121.2)) rfl rfl rfl) ?_
 refine sx rfl (pAssign (v := (vI y121.1)) rfl rfl) ?_
 refine sx rfl (pAssign (v := (vI y121.2)) rfl rfl) ?_
 refine SeqW.done fun fr122 hf123 => ?_
 have h4 := (congrFun hf123 4).trans h4
 have h5 := (congrFun hf123 5).trans h5
 have h6 := (congrFun hf123 6).trans h6
 have h7 := (congrFun hf123 7).trans h7
 have h9 : fr122 9 = (vI y121.2) := (congrFun hf123 9).trans rfl
 clear hf123
 refine thenQ.n (W.seq ?_)
 obtain ⟨y170, hy170, hr⟩ := bind_some hr
 refine W.keep (u_l35_sane_0 (x4 := y77.1) (x6 := y104.1) (Zx.refl _) st h4 X85 h5 h6 X112 h7 h9 A116 hy170) ?_
 rintro ex176 fr171 m172 hk174 ⟨z173, hz175, st, rfl, h0, -⟩
 replace hz := hz.trans hz175
 clear hk174
 refine thenQ.n ?_
 refine W.ret ?_
 obtain rfl := Option.some.inj hr
 exact ⟨z173, hz, st, .inr rfl, h0, trivial⟩

theorem c_l35_sane {N : Nat} {z : Nat → Blk} {m : Mem} (fz : Fz z m) (hd : ∀ b, m.next ≤ b → m.blk b = .dead)  {r : Bool} (hr : l35_sane N  = some r) : CallW Try.prog 16 #[] m fun v m' => v = (vB r) ∧ m' = m := by
 refine CallW.flat Try.func16 rfl (by kernel_rfl) (Nat.le_of_ble_eq_true rfl) rfl (z := z) (fun fr hf => ?_)
 refine (u_l35_sane (k := none) (Zx.refl _) (St.start fz hd)  hr).mono ?_
 rintro ex fr' m' ⟨z', hz, st, he, h0, -⟩
 exact ⟨he, z', st, [(vB r)], ⟨h0.symm, trivial⟩, .inl rfl, rfl⟩

/-! ### (*humpyard/humpgen.Maker).Spoil -/

theorem u_Maker_Spoil {N : Nat}  {z0 z : Nat → Blk} {e m : Mem} {k : Option Nat} {fr : Nat → Value} {x0 : Maker} {x1 : List UInt8} {v0_0 : Value} {b0 : Nat} (hz : Zx e.next z0 z) (st : St z e m k) (h0 : fr 0 = (vP b0)) (s0_0 : SlR (TInt 3 .i64) z x0.l v0_0) (bx0 : Bx z e m k b0 [v0_0, (vI x0.n)] 54) (h1 : fr 1 = (str x1)) {r : List UInt8 × Maker} (hr : Maker_Spoil N x0 x1 = some r) : W Try.prog (sub (bodyOf Try.f32) []) (fun ex fr' m' => ∃ z', Zx e.next z0 z' ∧ St z' e m' k ∧ (ex = .normal ∨ ex = .ret) ∧ ∃ (wr_0 : Value), fr' 4 = (str r.1) ∧ SlR (TInt 3 .i64) z' r.2.l wr_0 ∧ Bx z' e m' k b0 [wr_0, (vI r.2.n)] 54 ∧ True) fr m := by
 unfold Maker_Spoil at hr
 refine W.seq (W.region ?_)
 refine sx rfl (pAssign (v := (str [])) rfl rfl) ?_
 refine SeqW.done fun fr1 hf2 => ?_
 have h0 := (congrFun hf2 0).trans h0
 have h1 := (congrFun hf2 1).trans h1
 clear hf2
 refine thenQ.n (W.seq ?_)
 refine W.seq (W.region ?_)
 refine sx rfl (pMove (v := (str x1)) rfl h1) ?_
 refine sx rfl (pEqlS (s := x1) (r := []) rfl rfl rfl) ?_
 refine SeqW.done fun fr3 hf4 => ?_
 have h0 := (congrFun hf4 0).trans h0
 have h1 := (congrFun hf4 1).trans h1
 have h7 : fr3 7 = (vB (x1 == [])) := (congrFun hf4 7).trans rfl
 clear hf4
 refine thenQ.n ?_
 rcases if_some hr with ⟨hc5, hr⟩ | ⟨hc27, hr⟩
 ·refine W.condT h7 hc5 (W.seq (W.region ?_))
  refine sx rfl (pMove (v := (vP b0)) rfl h0) ?_
  obtain ⟨y6, hy6, hr⟩ := bind_some hr
  refine SeqW.consX rfl (StepX.call (gCallee rfl rfl (args2 rfl rfl)) ((c_Maker_Next (x0 := x0) (z := z) st.fz st.dead s0_0 ⟨bx0.blk, bx0.lt, bx0.dead, .inr rfl⟩ hy6).mono ?_))
  rintro _ m11 ⟨z7, V12, hzx8, fz9, sm10, rfl, Q13, X15, -⟩
  replace s0_0 := s0_0.mono hzx8.le
  have bx0n : Bx z7 e m11 k b0 _ _ := ⟨X15.blk, X15.lt, X15.dead, bx0.fresh⟩
  replace hz := hz.trans (Zx.here st hzx8)
  replace st := st.call hzx8 fz9 sm10 bx0.hq
  refine sx rfl (pConv (k := .i64) (a := y6.1) rfl Try.underlying3 Try.underlying5 rfl) ?_
  obtain ⟨y16, hy16, hr⟩ := bind_some hr
  refine SeqW.consX rfl (kBuild (T := (TU8 5)) rfl Try.underlying68 Try.type5 rfl rfl rfl rfl ([y16] : List UInt8) [[Value.int .u8 (UInt8.toNat y16 : Int)]] rfl rfl rfl (BuildOk.mk (w := (Value.int .u8 (UInt8.toNat y16 : Int))) (by rw [← toU8_some hy16]; exact rfl) rfl rfl rfl trivial) st ?_)
  intro V17 m18 st O19 sm20 hap21
  have A23 := hap21 _ bx0n.lt'
  replace bx0n := bx0n.same sm20 Ap.none'
  refine SeqW.consX rfl (kStrO (s := ([y16] : List UInt8)) rfl Try.underlying68 Try.underlying5 Try.underlying9 rfl O19 ?_)
  obtain ⟨y24, hy24, hr⟩ := lt_some hr
  refine sx rfl (pAssign rfl (congrArg str hy24)) ?_
  refine SeqW.done fun fr25 hf26 => ?_
  have h0 := (congrFun hf26 0).trans h0
  have h4 : fr25 4 = (str y24) := (congrFun hf26 4).trans rfl
  clear hf26
  refine thenQ.n ?_
  refine W.ret ?_
  refine thenQ.r ?_
  obtain rfl := Option.some.inj hr
  exact ⟨z7, hz, st, .inr rfl, V12, h4, Q13, bx0n, trivial⟩
 ·refine W.condF h7 hc27 (W.skip ?_)
  refine thenQ.n (W.seq (W.region ?_))
  refine sx rfl (pMove (v := (vP b0)) rfl h0) ?_
  refine sx rfl (pMove (v := (str x1)) rfl h1) ?_
  refine sx rfl (pLenS (s := x1) rfl rfl Try.underlying9 rfl) ?_
  obtain ⟨y28, hy28, hr⟩ := bind_some hr
  refine SeqW.consX rfl (StepX.call (gCallee rfl rfl (args2 rfl rfl)) ((c_Maker_Next (x0 := x0) (z := z) st.fz st.dead s0_0 ⟨bx0.blk, bx0.lt, bx0.dead, .inr rfl⟩ hy28).mono ?_))
  rintro _ m33 ⟨z29, V34, hzx30, fz31, sm32, rfl, Q35, X37, -⟩
  replace s0_0 := s0_0.mono hzx30.le
  have bx0n : Bx z29 e m33 k b0 _ _ := ⟨X37.blk, X37.lt, X37.dead, bx0.fresh⟩
  replace hz := hz.trans (Zx.here st hzx30)
  replace st := st.call hzx30 fz31 sm32 bx0.hq
  refine sx rfl (pAssign (v := (vI y28.1)) rfl rfl) ?_
  refine SeqW.done fun fr38 hf39 => ?_
  have h0 := (congrFun hf39 0).trans h0
  have h1 := (congrFun hf39 1).trans h1
  have h5 : fr38 5 = (vI y28.1) := (congrFun hf39 5).trans rfl
  clear hf39
  refine thenQ.n (W.seq ?_)
  refine W.seq (W.region ?_)
  refine sx rfl (pMove (v := (vP b0)) rfl h0) ?_
  obtain ⟨y40, hy40, hr⟩ := bind_some hr
  refine SeqW.consX rfl (StepX.call (gCallee rfl rfl (args2 rfl rfl)) ((c_Maker_Next (x0 := y28.2) (z := z29) st.fz st.dead Q35 ⟨bx0n.blk, bx0n.lt, bx0n.dead, .inr rfl⟩ hy40).mono ?_))
  rintro _ m45 ⟨z41, V46, hzx42, fz43, sm44, rfl, Q47, X49, -⟩
  replace Q35 := Q35.mono hzx42.le
  have bx0nn : Bx z41 e m45 k b0 _ _ := ⟨X49.blk, X49.lt, X49.dead, bx0n.fresh⟩
  replace hz := hz.trans (Zx.here st hzx42)
  replace st := st.call hzx42 fz43 sm44 bx0n.hq
  refine SeqW.done fun fr50 hf51 => ?_
  have h0 := (congrFun hf51 0).trans h0
  have h1 := (congrFun hf51 1).trans h1
  have h5 := (congrFun hf51 5).trans h5
  have h18 : fr50 18 = (vI y40.1) := (congrFun hf51 18).trans rfl
  clear hf51
  refine thenQ.n ?_
  refine W.block ?_
  refine W.seq (W.region ?_)
  refine sx rfl (pEql (k := .i64) (a := y40.1) (b := 0) rfl h18 rfl) ?_
  obtain ⟨y52, hy52, hr⟩ := lt_some hr
  refine sx rfl (pAssign rfl (congrArg vB hy52)) ?_
  refine SeqW.done fun fr53 hf54 => ?_
  have h0 := (congrFun hf54 0).trans h0
  have h1 := (congrFun hf54 1).trans h1
  have h5 := (congrFun hf54 5).trans h5
  have h18 := (congrFun hf54 18).trans h18
  have h19 : fr53 19 = (vB y52) := (congrFun hf54 19).trans rfl
  clear hf54
  refine thenQ.n ?_
  rcases if_some hr with ⟨hc55, hr⟩ | ⟨hc61, hr⟩
  ·refine W.condT h19 hc55 (W.seq ?_)
   refine W.calm (by decide) ?_
   refine sx rfl (pMove (v := (str x1)) rfl h1) ?_
   refine sx rfl (pMove (v := (vI y28.1)) rfl h5) ?_
   obtain ⟨y56, hy56, hr⟩ := bind_some hr
   refine SeqW.consX rfl (kCutS (s := x1) (a := 0) (b := y28.1) rfl Try.underlying9 rfl rfl ⟨_, rfl⟩ hy56 ?_)
   refine sx rfl (pMove (v := (str x1)) rfl h1) ?_
   refine sx rfl (pMove (v := (vI y28.1)) rfl h5) ?_
   refine sx rfl (pAdd (k := .i64) (a := y28.1) (b := 1) rfl rfl rfl) ?_
   obtain ⟨y57, hy57, hr⟩ := bind_some hr
   refine SeqW.consX rfl (kCutS (s := x1) (a := (IntKind.wrap .i64 (y28.1 + 1))) (b := (x1.length : Int)) rfl Try.underlying9 rfl ⟨_, rfl⟩ rfl hy57 ?_)
   obtain ⟨y58, hy58, hr⟩ := bind_some hr
   refine SeqW.consX rfl (kAddS (s := y56) (r := y57) rfl rfl rfl hy58 ?_)
   refine sx rfl (pAssign (v := (str y58)) rfl rfl) ?_
   refine SeqW.done fun fr59 hf60 => ?_
   have h0 := (congrFun hf60 0).trans h0
   have h4 : fr59 4 = (str y58) := (congrFun hf60 4).trans rfl
   clear hf60
   refine thenQ.n ?_
   refine W.ret ?_
   refine blockQ.r ?_
   refine thenQ.r ?_
   obtain rfl := Option.some.inj hr
   exact ⟨z41, hz, st, .inr rfl, V46, h4, Q47, bx0nn, trivial⟩
  ·refine W.condF h19 hc61 (W.seq (W.region ?_))
   refine sx rfl (pEql (k := .i64) (a := y40.1) (b := 1) rfl h18 rfl) ?_
   obtain ⟨y62, hy62, hr⟩ := lt_some hr
   refine sx rfl (pAssign rfl (congrArg vB hy62)) ?_
   refine SeqW.done fun fr63 hf64 => ?_
   have h0 := (congrFun hf64 0).trans h0
   have h1 := (congrFun hf64 1).trans h1
   have h5 := (congrFun hf64 5).trans h5
   have h18 := (congrFun hf64 18).trans h18
   have h29 : fr63 29 = (vB y62) := (congrFun hf64 29).trans rfl
   clear hf64
   refine thenQ.n ?_
   rcases if_some hr with ⟨hc65, hr⟩ | ⟨hc92, hr⟩
   ·refine W.condT h29 hc65 (W.seq ?_)
    refine W.draw ?_
    refine DrawW.cons rfl (StepX.pure (pMove (v := (str x1)) rfl h1) ?_)
    refine ⟨trivial, ?_⟩
    refine DrawW.cons rfl (StepX.pure (pMove (v := (vI y28.1)) rfl h5) ?_)
    refine ⟨trivial, ?_⟩
    obtain ⟨y66, hy66, hr⟩ := bind_some hr
    refine DrawW.cons rfl (kCutS (s := x1) (a := 0) (b := y28.1) rfl Try.underlying9 rfl rfl ⟨_, rfl⟩ hy66 ?_)
    refine ⟨trivial, ?_⟩
    refine DrawW.cons rfl (StepX.pure (pMove (v := (vP b0)) rfl h0) ?_)
    refine ⟨trivial, ?_⟩
    have sto67 := st
    have old68 := bx0nn
    obtain ⟨y69, hy69, hr⟩ := bind_some hr
    refine DrawW.cons rfl (StepX.call (gCallee rfl rfl (args2 rfl rfl)) ((c_Maker_Next (x0 := y40.2) (z := z41) st.fz st.dead Q47 ⟨bx0nn.blk, bx0nn.lt, bx0nn.dead, .inr rfl⟩ hy69).mono ?_))
    rintro _ m74 ⟨z70, V75, hzx71, fz72, sm73, rfl, Q76, X78, -⟩
    replace Q47 := Q47.mono hzx71.le
    have bx0nnn : Bx z70 e m74 k b0 _ _ := ⟨X78.blk, X78.lt, X78.dead, bx0nn.fresh⟩
    replace hz := hz.trans (Zx.here st hzx71)
    replace st := st.call hzx71 fz72 sm73 bx0nn.hq
    refine ⟨⟨?_, ?_⟩, ?_⟩
    ·exact demN
    ·exact demN
    refine DrawW.cons rfl (StepX.pure (pConv (k := .i64) (a := y69.1) rfl Try.underlying3 Try.underlying5 rfl) ?_)
    refine ⟨trivial, ?_⟩
    obtain ⟨y79, hy79, hr⟩ := bind_some hr
    refine DrawW.cons rfl (kBuild (T := (TU8 5)) rfl Try.underlying68 Try.type5 rfl rfl rfl rfl ([y79] : List UInt8) [[Value.int .u8 (UInt8.toNat y79 : Int)]] rfl rfl rfl (BuildOk.mk (w := (Value.int .u8 (UInt8.toNat y79 : Int))) (by rw [← toU8_some hy79]; exact rfl) rfl rfl rfl trivial) st ?_)
    intro V80 m81 st O82 sm83 hap84
    have A86 := hap84 _ bx0nnn.lt'
    replace bx0nnn := bx0nnn.same sm83 Ap.none'
    refine ⟨trivial, ?_⟩
    refine DrawW.cons rfl (kStrO (s := ([y79] : List UInt8)) rfl Try.underlying68 Try.underlying5 Try.underlying9 rfl O82 ?_)
    refine ⟨?_, ?_⟩
    ·first | refine demP (rStr rfl Try.underlying68 Try.underlying5 Try.underlying9 rfl (O82.ow.src) (by obtain ⟨a, c, rfl⟩ := O82.ow.len; exact ⟨_, _, _, rfl⟩)) ?_ | refine demA (by decide) ?_
     exact demN
    obtain ⟨y87, hy87, hr⟩ := bind_some hr
    refine DrawW.cons rfl (kAddS (s := y66) (r := ([y79] : List UInt8)) rfl rfl rfl hy87 ?_)
    refine ⟨trivial, ?_⟩
    refine DrawW.cons rfl (StepX.pure (pMove (v := (str x1)) rfl h1) ?_)
    refine ⟨trivial, ?_⟩
    refine DrawW.cons rfl (StepX.pure (pMove (v := (vI y28.1)) rfl h5) ?_)
    refine ⟨trivial, ?_⟩
    obtain ⟨y88, hy88, hr⟩ := bind_some hr
    refine DrawW.cons rfl (kCutS (s := x1) (a := y28.1) (b := (x1.length : Int)) rfl Try.underlying9 rfl ⟨_, rfl⟩ rfl hy88 ?_)
    refine ⟨trivial, ?_⟩
    obtain ⟨y89, hy89, hr⟩ := bind_some hr
    refine DrawW.cons rfl (kAddS (s := y87) (r := y88) rfl rfl rfl hy89 ?_)
    refine ⟨trivial, ?_⟩
    refine DrawW.cons rfl (StepX.pure (pAssign (v := (str y89)) rfl rfl) ?_)
    refine ⟨trivial, ?_⟩
    refine DrawW.done fun fr90 hf91 => ?_
    have h0 := (congrFun hf91 0).trans h0
    have h4 : fr90 4 = (str y89) := (congrFun hf91 4).trans rfl
    clear hf91
    refine thenQ.n ?_
    refine W.ret ?_
    refine blockQ.r ?_
    refine thenQ.r ?_
    obtain rfl := Option.some.inj hr
    exact ⟨z70, hz, st, .inr rfl, V75, h4, Q76, bx0nnn, trivial⟩
   ·refine W.condF h29 hc92 (W.seq (W.region ?_))
    refine sx rfl (pEql (k := .i64) (a := y40.1) (b := 2) rfl h18 rfl) ?_
    obtain ⟨y93, hy93, hr⟩ := lt_some hr
    refine sx rfl (pAssign rfl (congrArg vB hy93)) ?_
    refine SeqW.done fun fr94 hf95 => ?_
    have h0 := (congrFun hf95 0).trans h0
    have h1 := (congrFun hf95 1).trans h1
    have h5 := (congrFun hf95 5).trans h5
    have h44 : fr94 44 = (vB y93) := (congrFun hf95 44).trans rfl
    clear hf95
    refine thenQ.n ?_
    rcases if_some hr with ⟨hc96, hr⟩ | ⟨hc123, hr⟩
    ·refine W.condT h44 hc96 (W.seq ?_)
     refine W.draw ?_
     refine DrawW.cons rfl (StepX.pure (pMove (v := (str x1)) rfl h1) ?_)
     refine ⟨trivial, ?_⟩
     refine DrawW.cons rfl (StepX.pure (pMove (v := (vI y28.1)) rfl h5) ?_)
     refine ⟨trivial, ?_⟩
     obtain ⟨y97, hy97, hr⟩ := bind_some hr
     refine DrawW.cons rfl (kCutS (s := x1) (a := 0) (b := y28.1) rfl Try.underlying9 rfl rfl ⟨_, rfl⟩ hy97 ?_)
     refine ⟨trivial, ?_⟩
     refine DrawW.cons rfl (StepX.pure (pMove (v := (vP b0)) rfl h0) ?_)
     refine ⟨trivial, ?_⟩
     have sto98 := st
     have old99 := bx0nn
     obtain ⟨y100, hy100, hr⟩ := bind_some hr
     refine DrawW.cons rfl (StepX.call (gCallee rfl rfl (args2 rfl rfl)) ((c_Maker_Next (x0 := y40.2) (z := z41) st.fz st.dead Q47 ⟨bx0nn.blk, bx0nn.lt, bx0nn.dead, .inr rfl⟩ hy100).mono ?_))
     rintro _ m105 ⟨z101, V106, hzx102, fz103, sm104, rfl, Q107, X109, -⟩
     replace Q47 := Q47.mono hzx102.le
     have bx0nnn : Bx z101 e m105 k b0 _ _ := ⟨X109.blk, X109.lt, X109.dead, bx0nn.fresh⟩
     replace hz := hz.trans (Zx.here st hzx102)
     replace st := st.call hzx102 fz103 sm104 bx0nn.hq
     refine ⟨⟨?_, ?_⟩, ?_⟩
     ·exact demN
     ·exact demN
     refine DrawW.cons rfl (StepX.pure (pAdd (k := .i64) (a := 48) (b := y100.1) rfl rfl rfl) ?_)
     refine ⟨trivial, ?_⟩
     refine DrawW.cons rfl (StepX.pure (pConv (k := .i64) (a := (IntKind.wrap .i64 (48 + y100.1))) rfl Try.underlying3 Try.underlying5 rfl) ?_)
     refine ⟨trivial, ?_⟩
     obtain ⟨y110, hy110, hr⟩ := bind_some hr
     refine DrawW.cons rfl (kBuild (T := (TU8 5)) rfl Try.underlying68 Try.type5 rfl rfl rfl rfl ([y110] : List UInt8) [[Value.int .u8 (UInt8.toNat y110 : Int)]] rfl rfl rfl (BuildOk.mk (w := (Value.int .u8 (UInt8.toNat y110 : Int))) (by rw [← toU8_some hy110]; exact rfl) rfl rfl rfl trivial) st ?_)
     intro V111 m112 st O113 sm114 hap115
     have A117 := hap115 _ bx0nnn.lt'
     replace bx0nnn := bx0nnn.same sm114 Ap.none'
     refine ⟨trivial, ?_⟩
     refine DrawW.cons rfl (kStrO (s := ([y110] : List UInt8)) rfl Try.underlying68 Try.underlying5 Try.underlying9 rfl O113 ?_)
     refine ⟨?_, ?_⟩
     ·first | refine demP (rStr rfl Try.underlying68 Try.underlying5 Try.underlying9 rfl (O113.ow.src) (by obtain ⟨a, c, rfl⟩ := O113.ow.len; exact ⟨_, _, _, rfl⟩)) ?_ | refine demA (by decide) ?_
      exact demN
     obtain ⟨y118, hy118, hr⟩ := bind_some hr
     refine DrawW.cons rfl (kAddS (s := y97) (r := ([y110] : List UInt8)) rfl rfl rfl hy118 ?_)
     refine ⟨trivial, ?_⟩
     refine DrawW.cons rfl (StepX.pure (pMove (v := (str x1)) rfl h1) ?_)
     refine ⟨trivial, ?_⟩
     refine DrawW.cons rfl (StepX.pure (pMove (v := (vI y28.1)) rfl h5) ?_)
     refine ⟨trivial, ?_⟩
     refine DrawW.cons rfl (StepX.pure (pAdd (k := .i64) (a := y28.1) (b := 1) rfl rfl rfl) ?_)
     refine ⟨trivial, ?_⟩
     obtain ⟨y119, hy119, hr⟩ := bind_some hr
     refine DrawW.cons rfl (kCutS (s := x1) (a := (IntKind.wrap .i64 (y28.1 + 1))) (b := (x1.length : Int)) rfl Try.underlying9 rfl ⟨_, rfl⟩ rfl hy119 ?_)
     refine ⟨trivial, ?_⟩
     obtain ⟨y120, hy120, hr⟩ := bind_some hr
     refine DrawW.cons rfl (kAddS (s := y118) (r := y119) rfl rfl rfl hy120 ?_)
     refine ⟨trivial, ?_⟩
     refine DrawW.cons rfl (StepX.pure (pAssign (v := (str y120)) rfl rfl) ?_)
     refine ⟨trivial, ?_⟩
     refine DrawW.done fun fr121 hf122 => ?_
     have h0 := (congrFun hf122 0).trans h0
     have h4 : fr121 4 = (str y120) := (congrFun hf122 4).trans rfl
     clear hf122
     refine thenQ.n ?_
     refine W.ret ?_
     refine blockQ.r ?_
     refine thenQ.r ?_
     obtain rfl := Option.some.inj hr
     exact ⟨z101, hz, st, .inr rfl, V106, h4, Q107, bx0nnn, trivial⟩
    ·refine W.condF h44 hc123 (W.skip ?_)
     refine blockQ.n ?_
     refine thenQ.n (W.seq ?_)
     refine W.draw ?_
     refine DrawW.cons rfl (StepX.pure (pMove (v := (str x1)) rfl h1) ?_)
     refine ⟨trivial, ?_⟩
     refine DrawW.cons rfl (StepX.pure (pMove (v := (vI y28.1)) rfl h5) ?_)
     refine ⟨trivial, ?_⟩
     obtain ⟨y124, hy124, hr⟩ := bind_some hr
     refine DrawW.cons rfl (kCutS (s := x1) (a := 0) (b := y28.1) rfl Try.underlying9 rfl rfl ⟨_, rfl⟩ hy124 ?_)
     refine ⟨trivial, ?_⟩
     refine DrawW.cons rfl (StepX.pure (pMove (v := (vP b0)) rfl h0) ?_)
     refine ⟨trivial, ?_⟩
     have sto125 := st
     have old126 := bx0nn
     obtain ⟨y127, hy127, hr⟩ := bind_some hr
     refine DrawW.cons rfl (StepX.call (gCallee rfl rfl (args2 rfl rfl)) ((c_Maker_Next (x0 := y40.2) (z := z41) st.fz st.dead Q47 ⟨bx0nn.blk, bx0nn.lt, bx0nn.dead, .inr rfl⟩ hy127).mono ?_))
     rintro _ m132 ⟨z128, V133, hzx129, fz130, sm131, rfl, Q134, X136, -⟩
     replace Q47 := Q47.mono hzx129.le
     have bx0nnn : Bx z128 e m132 k b0 _ _ := ⟨X136.blk, X136.lt, X136.dead, bx0nn.fresh⟩
     replace hz := hz.trans (Zx.here st hzx129)
     replace st := st.call hzx129 fz130 sm131 bx0nn.hq
     refine ⟨⟨?_, ?_⟩, ?_⟩
     ·exact demN
     ·exact demN
     refine DrawW.cons rfl (StepX.pure (pConv (k := .i64) (a := y127.1) rfl Try.underlying3 Try.underlying5 rfl) ?_)
     refine ⟨trivial, ?_⟩
     obtain ⟨y137, hy137, hr⟩ := bind_some hr
     refine DrawW.cons rfl (kBuild (T := (TU8 5)) rfl Try.underlying68 Try.type5 rfl rfl rfl rfl ([y137] : List UInt8) [[Value.int .u8 (UInt8.toNat y137 : Int)]] rfl rfl rfl (BuildOk.mk (w := (Value.int .u8 (UInt8.toNat y137 : Int))) (by rw [← toU8_some hy137]; exact rfl) rfl rfl rfl trivial) st ?_)
     intro V138 m139 st O140 sm141 hap142
     have A144 := hap142 _ bx0nnn.lt'
     replace bx0nnn := bx0nnn.same sm141 Ap.none'
     refine ⟨trivial, ?_⟩
     refine DrawW.cons rfl (kStrO (s := ([y137] : List UInt8)) rfl Try.underlying68 Try.underlying5 Try.underlying9 rfl O140 ?_)
     refine ⟨?_, ?_⟩
     ·first | refine demP (rStr rfl Try.underlying68 Try.underlying5 Try.underlying9 rfl (O140.ow.src) (by obtain ⟨a, c, rfl⟩ := O140.ow.len; exact ⟨_, _, _, rfl⟩)) ?_ | refine demA (by decide) ?_
      exact demN
     obtain ⟨y145, hy145, hr⟩ := bind_some hr
     refine DrawW.cons rfl (kAddS (s := y124) (r := ([y137] : List UInt8)) rfl rfl rfl hy145 ?_)
     refine ⟨trivial, ?_⟩
     refine DrawW.cons rfl (StepX.pure (pMove (v := (str x1)) rfl h1) ?_)
     refine ⟨trivial, ?_⟩
     refine DrawW.cons rfl (StepX.pure (pMove (v := (vI y28.1)) rfl h5) ?_)
     refine ⟨trivial, ?_⟩
     refine DrawW.cons rfl (StepX.pure (pAdd (k := .i64) (a := y28.1) (b := 1) rfl rfl rfl) ?_)
     refine ⟨trivial, ?_⟩
     obtain ⟨y146, hy146, hr⟩ := bind_some hr
     refine DrawW.cons rfl (kCutS (s := x1) (a := (IntKind.wrap .i64 (y28.1 + 1))) (b := (x1.length : Int)) rfl Try.underlying9 rfl ⟨_, rfl⟩ rfl hy146 ?_)
     refine ⟨trivial, ?_⟩
     obtain ⟨y147, hy147, hr⟩ := bind_some hr
     refine DrawW.cons rfl (kAddS (s := y145) (r := y146) rfl rfl rfl hy147 ?_)
     refine ⟨trivial, ?_⟩
     refine DrawW.cons rfl (StepX.pure (pAssign (v := (str y147)) rfl rfl) ?_)
     refine ⟨trivial, ?_⟩
     refine DrawW.done fun fr148 hf149 => ?_
     have h0 := (congrFun hf149 0).trans h0
     have h4 : fr148 4 = (str y147) := (congrFun hf149 4).trans rfl
     clear hf149
     refine thenQ.n ?_
     refine W.ret ?_
     obtain rfl := Option.some.inj hr
     exact ⟨z128, hz, st, .inr rfl, V133, h4, Q134, bx0nnn, trivial⟩

theorem c_Maker_Spoil {N : Nat} {z : Nat → Blk} {m : Mem} {x0 : Maker} {x1 : List UInt8} {v0_0 : Value} {b0 : Nat} (fz : Fz z m) (hd : ∀ b, m.next ≤ b → m.blk b = .dead) (s0_0 : SlR (TInt 3 .i64) z x0.l v0_0) (bx0 : Bx z m m (some b0) b0 [v0_0, (vI x0.n)] 54) {r : List UInt8 × Maker} (hr : Maker_Spoil N x0 x1 = some r) : CallW Try.prog 32 #[(vP b0), (str x1)] m fun v m' => ∃ z' wr_0, Zx m.next z z' ∧ Fz z' m' ∧ Same m m' (some b0) ∧ v = (str r.1) ∧ SlR (TInt 3 .i64) z' r.2.l wr_0 ∧ Bx z' m m' (some b0) b0 [wr_0, (vI r.2.n)] 54 ∧ True := by
 refine CallW.any Try.func32 rfl (by kernel_rfl) (Nat.le_of_ble_eq_true rfl) (fun fr hf => ?_)
 have h0 : fr 0 = _ := hf 0 _ rfl
 have h1 : fr 1 = _ := hf 1 _ rfl
 refine (u_Maker_Spoil (k := (some b0)) (Zx.refl _) (St.start fz hd) h0 s0_0 bx0 h1 hr).mono ?_
 rintro ex fr' m' ⟨z', hz, st, he, wr_0, h4, sr_0, bxr, -⟩
 exact ⟨he, [(str r.1)], ⟨h4.symm, trivial⟩, .inl rfl, z', wr_0, hz, st.fz, st.toSame, rfl, sr_0, bxr, trivial⟩

/-! ### (*humpyard/humpgen.Maker).SpoilWagon -/

theorem u_Maker_SpoilWagon_0 {N : Nat}  {z0 z : Nat → Blk} {e m : Mem} {k : Option Nat} {fr : Nat → Value} {x0 : Maker} {x3 : Wagon} {x6 : Int} {v0_0 : Value} {b0 : Nat} {b3 : Nat} {x4 : Wagon} {b4 : Nat} (hz : Zx e.next z0 z) (st : St z e m k) (h0 : fr 0 = (vP b0)) (s0_0 : SlR (TInt 3 .i64) z x0.l v0_0) (bx0 : Bx z e m k b0 [v0_0, (vI x0.n)] 54) (h3 : fr 3 = (vP b3)) (bx3 : Bx z e m k b3 [(str x3.number), (vI x3.length), (vI x3.axles), (vI x3.mass), (vI x3.brake), (vI x3.goods), (vB x3.gentle), (str x3.dest)] 48) (h4 : fr 4 = (vP b4)) (bx4 : Bx z e m k b4 [(str x4.number), (vI x4.length), (vI x4.axles), (vI x4.mass), (vI x4.brake), (vI x4.goods), (vB x4.gentle), (str x4.dest)] 48) (h6 : fr 6 = (vI x6)) (ao0_o3 : Ap (some b0) (some b3)) (ao0_o4 : Ap (some b0) (some b4)) (ao3_o4 : Ap (some b3) (some b4)) {r : Maker × Wagon} (hr : Maker_SpoilWagon_0 N x0 x3 x6 = some r) : W Try.prog (sub (bodyOf Try.f21) [1, 0, 1]) (fun ex fr' m' => ∃ z', Zx e.next z0 z' ∧ St z' e m' k ∧ ex = AExit.normal ∧ ∃ (w0_0 : Value), fr' 0 = (vP b0) ∧ SlR (TInt 3 .i64) z' r.1.l w0_0 ∧ Bx z' e m' k b0 [w0_0, (vI r.1.n)] 54 ∧ fr' 3 = (vP b3) ∧ Bx z' e m' k b3 [(str r.2.number), (vI r.2.length), (vI r.2.axles), (vI r.2.mass), (vI r.2.brake), (vI r.2.goods), (vB r.2.gentle), (str r.2.dest)] 48 ∧ Bx z' e m' k b4 [(str x4.number), (vI x4.length), (vI x4.axles), (vI x4.mass), (vI x4.brake), (vI x4.goods), (vB x4.gentle), (str x4.dest)] 48 ∧ Ap (some b0) (some b3) ∧ Ap (some b0) (some b4) ∧ Ap (some b3) (some b4) ∧ True) fr m := by
 unfold Maker_SpoilWagon_0 at hr
 refine W.block ?_
 refine W.seq (W.region ?_)
 refine sx rfl (pEql (k := .i64) (a := x6) (b := 0) rfl h6 rfl) ?_
 obtain ⟨y30, hy30, hr⟩ := lt_some hr
 refine sx rfl (pAssign rfl (congrArg vB hy30)) ?_
 refine SeqW.done fun fr31 hf32 => ?_
 have h0 := (congrFun hf32 0).trans h0
 have h3 := (congrFun hf32 3).trans h3
 have h4 := (congrFun hf32 4).trans h4
 have h6 := (congrFun hf32 6).trans h6
 have h7 : fr31 7 = (vB y30) := (congrFun hf32 7).trans rfl
 clear hf32
 refine thenQ.n ?_
 rcases if_some hr with ⟨hc33, hr⟩ | ⟨hc48, hr⟩
 ·refine W.condT h7 hc33 (W.region ?_)
  refine sx rfl (pMove (v := (vP b0)) rfl h0) ?_
  refine SeqW.consX rfl (kField rfl Try.underlying48 rfl Try.type9 rfl h3 rfl ?_)
  refine SeqW.consX rfl (kLoad rfl Try.underlying9 rfl rfl (bx3.load (v := (str x3.number)) rfl) ?_)
  obtain ⟨y34, hy34, hr⟩ := bind_some hr
  refine SeqW.consX rfl (StepX.call (gCallee rfl rfl (args2 rfl rfl)) ((c_Maker_Spoil (x0 := x0) (z := z) st.fz st.dead s0_0 ⟨bx0.blk, bx0.lt, bx0.dead, .inr rfl⟩ hy34).mono ?_))
  rintro _ m39 ⟨z35, V40, hzx36, fz37, sm38, rfl, Q41, X43, -⟩
  replace s0_0 := s0_0.mono hzx36.le
  replace bx3 := bx3.call hzx36 sm38 (Ap.symm ao0_o3)
  replace bx4 := bx4.call hzx36 sm38 (Ap.symm ao0_o4)
  have bx0n : Bx z35 e m39 k b0 _ _ := ⟨X43.blk, X43.lt, X43.dead, bx0.fresh⟩
  replace hz := hz.trans (Zx.here st hzx36)
  replace st := st.call hzx36 fz37 sm38 bx0.hq
  refine SeqW.consX rfl (kField rfl Try.underlying48 rfl Try.type9 rfl h3 rfl ?_)
  refine SeqW.consX rfl (kPut (off := 0) (w := (str y34.1)) (new := [(str y34.1)]) rfl Try.type9 rfl rfl rfl rfl rfl bx3 rfl [(str y34.1), (vI x3.length), (vI x3.axles), (vI x3.mass), (vI x3.brake), (vI x3.goods), (vB x3.gentle), (str x3.dest)] rfl st ?_)
  intro m44 st bx3 sm45
  replace bx0n := bx0n.same sm45 ao0_o3
  replace bx4 := bx4.same sm45 (Ap.symm ao3_o4)
  refine SeqW.done fun fr46 hf47 => ?_
  have h0 := (congrFun hf47 0).trans h0
  have h3 := (congrFun hf47 3).trans h3
  have h4 := (congrFun hf47 4).trans h4
  clear hf47
  refine blockQ.n ?_
  obtain rfl := Option.some.inj hr
  exact ⟨z35, hz, st, rfl, V40, h0, Q41, bx0n, h3, bx3, bx4, ao0_o3, ao0_o4, ao3_o4, trivial⟩
 ·refine W.condF h7 hc48 (W.seq (W.region ?_))
  refine sx rfl (pEql (k := .i64) (a := x6) (b := 1) rfl h6 rfl) ?_
  obtain ⟨y49, hy49, hr⟩ := lt_some hr
  refine sx rfl (pAssign rfl (congrArg vB hy49)) ?_
  refine SeqW.done fun fr50 hf51 => ?_
  have h0 := (congrFun hf51 0).trans h0
  have h3 := (congrFun hf51 3).trans h3
  have h4 := (congrFun hf51 4).trans h4
  have h6 := (congrFun hf51 6).trans h6
  have h14 : fr50 14 = (vB y49) := (congrFun hf51 14).trans rfl
  clear hf51
  refine thenQ.n ?_
  rcases if_some hr with ⟨hc52, hr⟩ | ⟨hc80, hr⟩
  ·refine W.condT h14 hc52 (W.region ?_)
   refine sx rfl (pMove (v := (vP b0)) rfl h0) ?_
   refine SeqW.consX rfl (kBuild (T := (TInt 3 .i64)) rfl Try.underlying22 Try.type3 rfl rfl rfl rfl ([0, 2, 4, 6, 8, (-1)] : List Int) [[(vI 0)], [(vI 2)], [(vI 4)], [(vI 6)], [(vI 8)], [(vI (-1))]] rfl rfl rfl (BuildOk.mk (w := (vI 0)) rfl rfl rfl rfl (BuildOk.mk (w := (vI 2)) rfl rfl rfl rfl (BuildOk.mk (w := (vI 4)) rfl rfl rfl rfl (BuildOk.mk (w := (vI 6)) rfl rfl rfl rfl (BuildOk.mk (w := (vI 8)) rfl rfl rfl rfl (BuildOk.mk (w := (vI (-1))) rfl rfl rfl rfl trivial)))))) st ?_)
   intro V53 m54 st O55 sm56 hap57
   have A59 := hap57 _ bx0.lt'
   have A60 := hap57 _ bx3.lt'
   have A61 := hap57 _ bx4.lt'
   replace bx0 := bx0.same sm56 Ap.none'
   replace bx3 := bx3.same sm56 Ap.none'
   replace bx4 := bx4.same sm56 Ap.none'
   obtain ⟨z62, hz63, st, Q64, hl65⟩ := O55.freeze st
   replace s0_0 := s0_0.mono hz63.le
   replace bx0 := bx0.zle (hl65 _ A59)
   replace bx3 := bx3.zle (hl65 _ A60)
   replace bx4 := bx4.zle (hl65 _ A61)
   replace hz := hz.trans hz63
   obtain ⟨y66, hy66, hr⟩ := bind_some hr
   refine SeqW.consX rfl (StepX.call (gCallee rfl rfl (args2 rfl rfl)) ((c_Maker_Pick (x0 := x0) (z := z62) st.fz st.dead s0_0 ⟨bx0.blk, bx0.lt, bx0.dead, .inr rfl⟩ Q64 hy66).mono ?_))
   rintro _ m71 ⟨z67, V72, hzx68, fz69, sm70, rfl, Q73, X75, -⟩
   replace s0_0 := s0_0.mono hzx68.le
   replace bx3 := bx3.call hzx68 sm70 (Ap.symm ao0_o3)
   replace bx4 := bx4.call hzx68 sm70 (Ap.symm ao0_o4)
   replace Q64 := Q64.mono hzx68.le
   have bx0n : Bx z67 e m71 k b0 _ _ := ⟨X75.blk, X75.lt, X75.dead, bx0.fresh⟩
   replace hz := hz.trans (Zx.here st hzx68)
   replace st := st.call hzx68 fz69 sm70 bx0.hq
   refine SeqW.consX rfl (kField rfl Try.underlying48 rfl Try.type3 rfl h3 rfl ?_)
   refine SeqW.consX rfl (kPut (off := 2) (w := (vI y66.1)) (new := [(vI y66.1)]) rfl Try.type3 rfl rfl rfl rfl rfl bx3 rfl [(str x3.number), (vI x3.length), (vI y66.1), (vI x3.mass), (vI x3.brake), (vI x3.goods), (vB x3.gentle), (str x3.dest)] rfl st ?_)
   intro m76 st bx3 sm77
   replace bx0n := bx0n.same sm77 ao0_o3
   replace bx4 := bx4.same sm77 (Ap.symm ao3_o4)
   refine SeqW.done fun fr78 hf79 => ?_
   have h0 := (congrFun hf79 0).trans h0
   have h3 := (congrFun hf79 3).trans h3
   have h4 := (congrFun hf79 4).trans h4
   clear hf79
   refine blockQ.n ?_
   obtain rfl := Option.some.inj hr
   exact ⟨z67, hz, st, rfl, V72, h0, Q73, bx0n, h3, bx3, bx4, ao0_o3, ao0_o4, ao3_o4, trivial⟩
  ·refine W.condF h14 hc80 (W.seq (W.region ?_))
   refine sx rfl (pEql (k := .i64) (a := x6) (b := 2) rfl h6 rfl) ?_
   obtain ⟨y81, hy81, hr⟩ := lt_some hr
   refine sx rfl (pAssign rfl (congrArg vB hy81)) ?_
   refine SeqW.done fun fr82 hf83 => ?_
   have h0 := (congrFun hf83 0).trans h0
   have h3 := (congrFun hf83 3).trans h3
   have h4 := (congrFun hf83 4).trans h4
   have h6 := (congrFun hf83 6).trans h6
   have h20 : fr82 20 = (vB y81) := (congrFun hf83 20).trans rfl
   clear hf83
   refine thenQ.n ?_
   rcases if_some hr with ⟨hc84, hr⟩ | ⟨hc112, hr⟩
   ·refine W.condT h20 hc84 (W.region ?_)
    refine sx rfl (pMove (v := (vP b0)) rfl h0) ?_
    refine SeqW.consX rfl (kBuild (T := (TInt 3 .i64)) rfl Try.underlying22 Try.type3 rfl rfl rfl rfl ([79, 80, 119, 401, 0, (-5)] : List Int) [[(vI 79)], [(vI 80)], [(vI 119)], [(vI 401)], [(vI 0)], [(vI (-5))]] rfl rfl rfl (BuildOk.mk (w := (vI 79)) rfl rfl rfl rfl (BuildOk.mk (w := (vI 80)) rfl rfl rfl rfl (BuildOk.mk (w := (vI 119)) rfl rfl rfl rfl (BuildOk.mk (w := (vI 401)) rfl rfl rfl rfl (BuildOk.mk (w := (vI 0)) rfl rfl rfl rfl (BuildOk.mk (w := (vI (-5))) rfl rfl rfl rfl trivial)))))) st ?_)
    intro V85 m86 st O87 sm88 hap89
    have A91 := hap89 _ bx0.lt'
    have A92 := hap89 _ bx3.lt'
    have A93 := hap89 _ bx4.lt'
    replace bx0 := bx0.same sm88 Ap.none'
    replace bx3 := bx3.same sm88 Ap.none'
    replace bx4 := bx4.same sm88 Ap.none'
    obtain ⟨z94, hz95, st, Q96, hl97⟩ := O87.freeze st
    replace s0_0 := s0_0.mono hz95.le
    replace bx0 := bx0.zle (hl97 _ A91)
    replace bx3 := bx3.zle (hl97 _ A92)
    replace bx4 := bx4.zle (hl97 _ A93)
    replace hz := hz.trans hz95
    obtain ⟨y98, hy98, hr⟩ := bind_some hr
    refine SeqW.consX rfl (StepX.call (gCallee rfl rfl (args2 rfl rfl)) ((c_Maker_Pick (x0 := x0) (z := z94) st.fz st.dead s0_0 ⟨bx0.blk, bx0.lt, bx0.dead, .inr rfl⟩ Q96 hy98).mono ?_))
    rintro _ m103 ⟨z99, V104, hzx100, fz101, sm102, rfl, Q105, X107, -⟩
    replace s0_0 := s0_0.mono hzx100.le
    replace bx3 := bx3.call hzx100 sm102 (Ap.symm ao0_o3)
    replace bx4 := bx4.call hzx100 sm102 (Ap.symm ao0_o4)
    replace Q96 := Q96.mono hzx100.le
    have bx0n : Bx z99 e m103 k b0 _ _ := ⟨X107.blk, X107.lt, X107.dead, bx0.fresh⟩
    replace hz := hz.trans (Zx.here st hzx100)
    replace st := st.call hzx100 fz101 sm102 bx0.hq
    refine SeqW.consX rfl (kField rfl Try.underlying48 rfl Try.type3 rfl h3 rfl ?_)
    refine SeqW.consX rfl (kPut (off := 1) (w := (vI y98.1)) (new := [(vI y98.1)]) rfl Try.type3 rfl rfl rfl rfl rfl bx3 rfl [(str x3.number), (vI y98.1), (vI x3.axles), (vI x3.mass), (vI x3.brake), (vI x3.goods), (vB x3.gentle), (str x3.dest)] rfl st ?_)
    intro m108 st bx3 sm109
    replace bx0n := bx0n.same sm109 ao0_o3
    replace bx4 := bx4.same sm109 (Ap.symm ao3_o4)
    refine SeqW.done fun fr110 hf111 => ?_
    have h0 := (congrFun hf111 0).trans h0
    have h3 := (congrFun hf111 3).trans h3
    have h4 := (congrFun hf111 4).trans h4
    clear hf111
    refine blockQ.n ?_
    obtain rfl := Option.some.inj hr
    exact ⟨z99, hz, st, rfl, V104, h0, Q105, bx0n, h3, bx3, bx4, ao0_o3, ao0_o4, ao3_o4, trivial⟩
   ·refine W.condF h20 hc112 (W.seq (W.region ?_))
    refine sx rfl (pEql (k := .i64) (a := x6) (b := 3) rfl h6 rfl) ?_
    obtain ⟨y113, hy113, hr⟩ := lt_some hr
    refine sx rfl (pAssign rfl (congrArg vB hy113)) ?_
    refine SeqW.done fun fr114 hf115 => ?_
    have h0 := (congrFun hf115 0).trans h0
    have h3 := (congrFun hf115 3).trans h3
    have h4 := (congrFun hf115 4).trans h4
    have h6 := (congrFun hf115 6).trans h6
    have h26 : fr114 26 = (vB y113) := (congrFun hf115 26).trans rfl
    clear hf115
    refine thenQ.n ?_
    rcases if_some hr with ⟨hc116, hr⟩ | ⟨hc144, hr⟩
    ·refine W.condT h26 hc116 (W.region ?_)
     refine sx rfl (pMove (v := (vP b0)) rfl h0) ?_
     refine SeqW.consX rfl (kBuild (T := (TInt 3 .i64)) rfl Try.underlying22 Try.type3 rfl rfl rfl rfl ([49, 50, 2001, (-1)] : List Int) [[(vI 49)], [(vI 50)], [(vI 2001)], [(vI (-1))]] rfl rfl rfl (BuildOk.mk (w := (vI 49)) rfl rfl rfl rfl (BuildOk.mk (w := (vI 50)) rfl rfl rfl rfl (BuildOk.mk (w := (vI 2001)) rfl rfl rfl rfl (BuildOk.mk (w := (vI (-1))) rfl rfl rfl rfl trivial)))) st ?_)
     intro V117 m118 st O119 sm120 hap121
     have A123 := hap121 _ bx0.lt'
     have A124 := hap121 _ bx3.lt'
     have A125 := hap121 _ bx4.lt'
     replace bx0 := bx0.same sm120 Ap.none'
     replace bx3 := bx3.same sm120 Ap.none'
     replace bx4 := bx4.same sm120 Ap.none'
     obtain ⟨z126, hz127, st, Q128, hl129⟩ := O119.freeze st
     replace s0_0 := s0_0.mono hz127.le
     replace bx0 := bx0.zle (hl129 _ A123)
     replace bx3 := bx3.zle (hl129 _ A124)
     replace bx4 := bx4.zle (hl129 _ A125)
     replace hz := hz.trans hz127
     obtain ⟨y130, hy130, hr⟩ := bind_some hr
     refine SeqW.consX rfl (StepX.call (gCallee rfl rfl (args2 rfl rfl)) ((c_Maker_Pick (x0 := x0) (z := z126) st.fz st.dead s0_0 ⟨bx0.blk, bx0.lt, bx0.dead, .inr rfl⟩ Q128 hy130).mono ?_))
     rintro _ m135 ⟨z131, V136, hzx132, fz133, sm134, rfl, Q137, X139, -⟩
     replace s0_0 := s0_0.mono hzx132.le
     replace bx3 := bx3.call hzx132 sm134 (Ap.symm ao0_o3)
     replace bx4 := bx4.call hzx132 sm134 (Ap.symm ao0_o4)
     replace Q128 := Q128.mono hzx132.le
     have bx0n : Bx z131 e m135 k b0 _ _ := ⟨X139.blk, X139.lt, X139.dead, bx0.fresh⟩
     replace hz := hz.trans (Zx.here st hzx132)
     replace st := st.call hzx132 fz133 sm134 bx0.hq
     refine SeqW.consX rfl (kField rfl Try.underlying48 rfl Try.type3 rfl h3 rfl ?_)
     refine SeqW.consX rfl (kPut (off := 3) (w := (vI y130.1)) (new := [(vI y130.1)]) rfl Try.type3 rfl rfl rfl rfl rfl bx3 rfl [(str x3.number), (vI x3.length), (vI x3.axles), (vI y130.1), (vI x3.brake), (vI x3.goods), (vB x3.gentle), (str x3.dest)] rfl st ?_)
     intro m140 st bx3 sm141
     replace bx0n := bx0n.same sm141 ao0_o3
     replace bx4 := bx4.same sm141 (Ap.symm ao3_o4)
     refine SeqW.done fun fr142 hf143 => ?_
     have h0 := (congrFun hf143 0).trans h0
     have h3 := (congrFun hf143 3).trans h3
     have h4 := (congrFun hf143 4).trans h4
     clear hf143
     refine blockQ.n ?_
     obtain rfl := Option.some.inj hr
     exact ⟨z131, hz, st, rfl, V136, h0, Q137, bx0n, h3, bx3, bx4, ao0_o3, ao0_o4, ao3_o4, trivial⟩
    ·refine W.condF h26 hc144 (W.seq (W.region ?_))
     refine sx rfl (pEql (k := .i64) (a := x6) (b := 4) rfl h6 rfl) ?_
     obtain ⟨y145, hy145, hr⟩ := lt_some hr
     refine sx rfl (pAssign rfl (congrArg vB hy145)) ?_
     refine SeqW.done fun fr146 hf147 => ?_
     have h0 := (congrFun hf147 0).trans h0
     have h3 := (congrFun hf147 3).trans h3
     have h4 := (congrFun hf147 4).trans h4
     have h6 := (congrFun hf147 6).trans h6
     have h32 : fr146 32 = (vB y145) := (congrFun hf147 32).trans rfl
     clear hf147
     refine thenQ.n ?_
     rcases if_some hr with ⟨hc148, hr⟩ | ⟨hc176, hr⟩
     ·refine W.condT h32 hc148 (W.region ?_)
      refine sx rfl (pMove (v := (vP b0)) rfl h0) ?_
      refine SeqW.consX rfl (kField rfl Try.underlying48 rfl Try.type3 rfl h3 rfl ?_)
      refine SeqW.consX rfl (kLoad rfl Try.underlying3 rfl rfl (bx3.load (v := (vI x3.mass)) rfl) ?_)
      refine SeqW.consX rfl (kField rfl Try.underlying48 rfl Try.type3 rfl h3 rfl ?_)
      refine SeqW.consX rfl (kLoad rfl Try.underlying3 rfl rfl (bx3.load (v := (vI x3.mass)) rfl) ?_)
      refine sx rfl (pAdd (k := .i64) (a := x3.mass) (b := 1) rfl rfl rfl) ?_
      refine SeqW.consX rfl (kBuild (T := (TInt 3 .i64)) rfl Try.underlying22 Try.type3 rfl rfl rfl rfl ([(-1), x3.mass, (IntKind.wrap .i64 (x3.mass + 1))] : List Int) [[(vI (-1))], [(vI x3.mass)], [(vI (IntKind.wrap .i64 (x3.mass + 1)))]] rfl rfl rfl (BuildOk.mk (w := (vI (-1))) rfl rfl rfl rfl (BuildOk.mk (w := (vI x3.mass)) rfl rfl rfl rfl (BuildOk.mk (w := (vI (IntKind.wrap .i64 (x3.mass + 1)))) rfl rfl rfl rfl trivial))) st ?_)
      intro V149 m150 st O151 sm152 hap153
      have A155 := hap153 _ bx0.lt'
      have A156 := hap153 _ bx3.lt'
      have A157 := hap153 _ bx4.lt'
      replace bx0 := bx0.same sm152 Ap.none'
      replace bx3 := bx3.same sm152 Ap.none'
      replace bx4 := bx4.same sm152 Ap.none'
      obtain ⟨z158, hz159, st, Q160, hl161⟩ := O151.freeze st
      replace s0_0 := s0_0.mono hz159.le
      replace bx0 := bx0.zle (hl161 _ A155)
      replace bx3 := bx3.zle (hl161 _ A156)
      replace bx4 := bx4.zle (hl161 _ A157)
      replace hz := hz.trans hz159
      obtain ⟨y162, hy162, hr⟩ := bind_some hr
      refine SeqW.consX rfl (StepX.call (gCallee rfl rfl (args2 rfl rfl)) ((c_Maker_Pick (x0 := x0) (z := z158) st.fz st.dead s0_0 ⟨bx0.blk, bx0.lt, bx0.dead, .inr rfl⟩ Q160 hy162).mono ?_))
      rintro _ m167 ⟨z163, V168, hzx164, fz165, sm166, rfl, Q169, X171, -⟩
      replace s0_0 := s0_0.mono hzx164.le
      replace bx3 := bx3.call hzx164 sm166 (Ap.symm ao0_o3)
      replace bx4 := bx4.call hzx164 sm166 (Ap.symm ao0_o4)
      replace Q160 := Q160.mono hzx164.le
      have bx0n : Bx z163 e m167 k b0 _ _ := ⟨X171.blk, X171.lt, X171.dead, bx0.fresh⟩
      replace hz := hz.trans (Zx.here st hzx164)
      replace st := st.call hzx164 fz165 sm166 bx0.hq
      refine SeqW.consX rfl (kField rfl Try.underlying48 rfl Try.type3 rfl h3 rfl ?_)
      refine SeqW.consX rfl (kPut (off := 4) (w := (vI y162.1)) (new := [(vI y162.1)]) rfl Try.type3 rfl rfl rfl rfl rfl bx3 rfl [(str x3.number), (vI x3.length), (vI x3.axles), (vI x3.mass), (vI y162.1), (vI x3.goods), (vB x3.gentle), (str x3.dest)] rfl st ?_)
      intro m172 st bx3 sm173
      replace bx0n := bx0n.same sm173 ao0_o3
      replace bx4 := bx4.same sm173 (Ap.symm ao3_o4)
      refine SeqW.done fun fr174 hf175 => ?_
      have h0 := (congrFun hf175 0).trans h0
      have h3 := (congrFun hf175 3).trans h3
      have h4 := (congrFun hf175 4).trans h4
      clear hf175
      refine blockQ.n ?_
      obtain rfl := Option.some.inj hr
      exact ⟨z163, hz, st, rfl, V168, h0, Q169, bx0n, h3, bx3, bx4, ao0_o3, ao0_o4, ao3_o4, trivial⟩
     ·refine W.condF h32 hc176 (W.seq (W.region ?_))
      refine sx rfl (pEql (k := .i64) (a := x6) (b := 5) rfl h6 rfl) ?_
      obtain ⟨y177, hy177, hr⟩ := lt_some hr
      refine sx rfl (pAssign rfl (congrArg vB hy177)) ?_
      refine SeqW.done fun fr178 hf179 => ?_
      have h0 := (congrFun hf179 0).trans h0
      have h3 := (congrFun hf179 3).trans h3
      have h4 := (congrFun hf179 4).trans h4
      have h6 := (congrFun hf179 6).trans h6
      have h43 : fr178 43 = (vB y177) := (congrFun hf179 43).trans rfl
      clear hf179
      refine thenQ.n ?_
      rcases if_some hr with ⟨hc180, hr⟩ | ⟨hc208, hr⟩
      ·refine W.condT h43 hc180 (W.region ?_)
       refine sx rfl (pMove (v := (vP b0)) rfl h0) ?_
       refine SeqW.consX rfl (kBuild (T := (TInt 3 .i64)) rfl Try.underlying22 Try.type3 rfl rfl rfl rfl ([(-1), 9, 10] : List Int) [[(vI (-1))], [(vI 9)], [(vI 10)]] rfl rfl rfl (BuildOk.mk (w := (vI (-1))) rfl rfl rfl rfl (BuildOk.mk (w := (vI 9)) rfl rfl rfl rfl (BuildOk.mk (w := (vI 10)) rfl rfl rfl rfl trivial))) st ?_)
       intro V181 m182 st O183 sm184 hap185
       have A187 := hap185 _ bx0.lt'
       have A188 := hap185 _ bx3.lt'
       have A189 := hap185 _ bx4.lt'
       replace bx0 := bx0.same sm184 Ap.none'
       replace bx3 := bx3.same sm184 Ap.none'
       replace bx4 := bx4.same sm184 Ap.none'
       obtain ⟨z190, hz191, st, Q192, hl193⟩ := O183.freeze st
       replace s0_0 := s0_0.mono hz191.le
       replace bx0 := bx0.zle (hl193 _ A187)
       replace bx3 := bx3.zle (hl193 _ A188)
       replace bx4 := bx4.zle (hl193 _ A189)
       replace hz := hz.trans hz191
       obtain ⟨y194, hy194, hr⟩ := bind_some hr
       refine SeqW.consX rfl (StepX.call (gCallee rfl rfl (args2 rfl rfl)) ((c_Maker_Pick (x0 := x0) (z := z190) st.fz st.dead s0_0 ⟨bx0.blk, bx0.lt, bx0.dead, .inr rfl⟩ Q192 hy194).mono ?_))
       rintro _ m199 ⟨z195, V200, hzx196, fz197, sm198, rfl, Q201, X203, -⟩
       replace s0_0 := s0_0.mono hzx196.le
       replace bx3 := bx3.call hzx196 sm198 (Ap.symm ao0_o3)
       replace bx4 := bx4.call hzx196 sm198 (Ap.symm ao0_o4)
       replace Q192 := Q192.mono hzx196.le
       have bx0n : Bx z195 e m199 k b0 _ _ := ⟨X203.blk, X203.lt, X203.dead, bx0.fresh⟩
       replace hz := hz.trans (Zx.here st hzx196)
       replace st := st.call hzx196 fz197 sm198 bx0.hq
       refine SeqW.consX rfl (kField rfl Try.underlying48 rfl Try.type3 rfl h3 rfl ?_)
       refine SeqW.consX rfl (kPut (off := 5) (w := (vI y194.1)) (new := [(vI y194.1)]) rfl Try.type3 rfl rfl rfl rfl rfl bx3 rfl [(str x3.number), (vI x3.length), (vI x3.axles), (vI x3.mass), (vI x3.brake), (vI y194.1), (vB x3.gentle), (str x3.dest)] rfl st ?_)
       intro m204 st bx3 sm205
       replace bx0n := bx0n.same sm205 ao0_o3
       replace bx4 := bx4.same sm205 (Ap.symm ao3_o4)
       refine SeqW.done fun fr206 hf207 => ?_
       have h0 := (congrFun hf207 0).trans h0
       have h3 := (congrFun hf207 3).trans h3
       have h4 := (congrFun hf207 4).trans h4
       clear hf207
       refine blockQ.n ?_
       obtain rfl := Option.some.inj hr
       exact ⟨z195, hz, st, rfl, V200, h0, Q201, bx0n, h3, bx3, bx4, ao0_o3, ao0_o4, ao3_o4, trivial⟩
      ·refine W.condF h43 hc208 (W.seq (W.region ?_))
       refine sx rfl (pEql (k := .i64) (a := x6) (b := 6) rfl h6 rfl) ?_
       obtain ⟨y209, hy209, hr⟩ := lt_some hr
       refine sx rfl (pAssign rfl (congrArg vB hy209)) ?_
       refine SeqW.done fun fr210 hf211 => ?_
       have h0 := (congrFun hf211 0).trans h0
       have h3 := (congrFun hf211 3).trans h3
       have h4 := (congrFun hf211 4).trans h4
       have h49 : fr210 49 = (vB y209) := (congrFun hf211 49).trans rfl
       clear hf211
       refine thenQ.n ?_
       rcases if_some hr with ⟨hc212, hr⟩ | ⟨hc245, hr⟩
       ·refine W.condT h49 hc212 (W.region ?_)
        refine SeqW.consX rfl (kBuild (T := (TStr 9)) rfl Try.underlying64 Try.type9 rfl rfl rfl rfl ([[], [65], [97, 32, 98], [97, 98, 99, 100, 101, 102, 103, 104, 105, 106, 107, 108, 109], [45]] : List (List UInt8)) [[(str [])], [(str [65])], [(str [97, 32, 98])], [(str [97, 98, 99, 100, 101, 102, 103, 104, 105, 106, 107, 108, 109])], [(str [45])]] rfl rfl rfl (BuildOk.mk (w := (str [])) rfl rfl rfl rfl (BuildOk.mk (w := (str [65])) rfl rfl rfl rfl (BuildOk.mk (w := (str [97, 32, 98])) rfl rfl rfl rfl (BuildOk.mk (w := (str [97, 98, 99, 100, 101, 102, 103, 104, 105, 106, 107, 108, 109])) rfl rfl rfl rfl (BuildOk.mk (w := (str [45])) rfl rfl rfl rfl trivial))))) st ?_)
        intro V213 m214 st O215 sm216 hap217
        have A219 := hap217 _ bx0.lt'
        have A220 := hap217 _ bx3.lt'
        have A221 := hap217 _ bx4.lt'
        replace bx0 := bx0.same sm216 Ap.none'
        replace bx3 := bx3.same sm216 Ap.none'
        replace bx4 := bx4.same sm216 Ap.none'
        refine sx rfl (pMove (v := (vP b0)) rfl h0) ?_
        obtain ⟨y222, hy222, hr⟩ := bind_some hr
        refine SeqW.consX rfl (StepX.call (gCallee rfl rfl (args2 rfl rfl)) ((c_Maker_Next (x0 := x0) (z := z) st.fz st.dead s0_0 ⟨bx0.blk, bx0.lt, bx0.dead, .inr rfl⟩ hy222).mono ?_))
        rintro _ m227 ⟨z223, V228, hzx224, fz225, sm226, rfl, Q229, X231, -⟩
        replace s0_0 := s0_0.mono hzx224.le
        replace bx3 := bx3.call hzx224 sm226 (Ap.symm ao0_o3)
        replace bx4 := bx4.call hzx224 sm226 (Ap.symm ao0_o4)
        replace O215 := O215.call hzx224 sm226 (Ap.symm A219)
        have bx0n : Bx z223 e m227 k b0 _ _ := ⟨X231.blk, X231.lt, X231.dead, bx0.fresh⟩
        replace hz := hz.trans (Zx.here st hzx224)
        replace st := st.call hzx224 fz225 sm226 bx0.hq
        obtain ⟨y232, hy232, hr⟩ := bind_some hr
        refine SeqW.consX rfl (kIdxO (T := (TStr 9)) (xs := ([[], [65], [97, 32, 98], [97, 98, 99, 100, 101, 102, 103, 104, 105, 106, 107, 108, 109], [45]] : List (List UInt8))) (n := y222.1) rfl Try.underlying64 Try.type9 rfl rfl rfl O215 hy232 ?_)
        intro B233 l234 c235 cs236 hv237 hd238 hg239 hc240
        have hd2380 := hd238
        obtain rfl := hd2380
        refine SeqW.consX rfl (kLoad (v := (str y232)) rfl Try.underlying9 rfl rfl (hc240 0 _ rfl) ?_)
        refine SeqW.consX rfl (kField rfl Try.underlying48 rfl Try.type9 rfl h3 rfl ?_)
        refine SeqW.consX rfl (kPut (off := 7) (w := (str y232)) (new := [(str y232)]) rfl Try.type9 rfl rfl rfl rfl rfl bx3 rfl [(str x3.number), (vI x3.length), (vI x3.axles), (vI x3.mass), (vI x3.brake), (vI x3.goods), (vB x3.gentle), (str y232)] rfl st ?_)
        intro m241 st bx3 sm242
        replace bx0n := bx0n.same sm242 ao0_o3
        replace bx4 := bx4.same sm242 (Ap.symm ao3_o4)
        refine SeqW.done fun fr243 hf244 => ?_
        have h0 := (congrFun hf244 0).trans h0
        have h3 := (congrFun hf244 3).trans h3
        have h4 := (congrFun hf244 4).trans h4
        clear hf244
        refine blockQ.n ?_
        obtain rfl := Option.some.inj hr
        exact ⟨z223, hz, st, rfl, V228, h0, Q229, bx0n, h3, bx3, bx4, ao0_o3, ao0_o4, ao3_o4, trivial⟩
       ·refine W.condF h49 hc245 (W.skip ?_)
        refine blockQ.n ?_
        obtain rfl := Option.some.inj hr
        exact ⟨z, hz, st, rfl, v0_0, h0, s0_0, bx0, h3, bx3, bx4, ao0_o3, ao0_o4, ao3_o4, trivial⟩

theorem u_Maker_SpoilWagon {N : Nat}  {z0 z : Nat → Blk} {e m : Mem} {k : Option Nat} {fr : Nat → Value} {x0 : Maker} {x1 : Wagon} {v0_0 : Value} {b0 : Nat} (hz : Zx e.next z0 z) (st : St z e m k) (h0 : fr 0 = (vP b0)) (s0_0 : SlR (TInt 3 .i64) z x0.l v0_0) (bx0 : Bx z e m k b0 [v0_0, (vI x0.n)] 54) (h1 : fr 1 = (Value.agg [(str x1.number), (vI x1.length), (vI x1.axles), (vI x1.mass), (vI x1.brake), (vI x1.goods), (vB x1.gentle), (str x1.dest)].toArray)) {r : Wagon × Maker} (hr : Maker_SpoilWagon N x0 x1 = some r) : W Try.prog (sub (bodyOf Try.f21) []) (fun ex fr' m' => ∃ z', Zx e.next z0 z' ∧ St z' e m' k ∧ (ex = .normal ∨ ex = .ret) ∧ ∃ (c4 : Nat) (wr_0 : Value), fr' 4 = (vP c4) ∧ Bx z' e m' k c4 [(str r.1.number), (vI r.1.length), (vI r.1.axles), (vI r.1.mass), (vI r.1.brake), (vI r.1.goods), (vB r.1.gentle), (str r.1.dest)] 48 ∧ (e.next ≤ c4 ∨ k = some c4) ∧ SlR (TInt 3 .i64) z' r.2.l wr_0 ∧ Bx z' e m' k b0 [wr_0, (vI r.2.n)] 54 ∧ True) fr m := by
 unfold Maker_SpoilWagon at hr
 refine W.seq (W.region ?_)
 refine SeqW.consX rfl (kBox (v := (Value.agg [(str x1.number), (vI x1.length), (vI x1.axles), (vI x1.mass), (vI x1.brake), (vI x1.goods), (vB x1.gentle), (str x1.dest)].toArray)) rfl Try.type48 h1 rfl [(str x1.number), (vI x1.length), (vI x1.axles), (vI x1.mass), (vI x1.brake), (vI x1.goods), (vB x1.gentle), (str x1.dest)] rfl rfl st ?_)
 intro B1 m2 st X3 sm4 hap5
 have A7 := hap5 _ bx0.lt'
 replace bx0 := bx0.same sm4 Ap.none'
 refine SeqW.consX rfl (kAlloc rfl Try.type48 rfl rfl rfl [(str []), (vI 0), (vI 0), (vI 0), (vI 0), (vI 0), (vB false), (str [])] rfl st ?_)
 intro B8 m9 st X10 sm11 hap12
 have A14 := hap12 _ bx0.lt'
 have A15 := hap12 _ X3.lt'
 replace bx0 := bx0.same sm11 Ap.none'
 replace X3 := X3.same sm11 Ap.none'
 refine SeqW.done fun fr16 hf17 => ?_
 have h0 := (congrFun hf17 0).trans h0
 have h3 : fr16 3 = (vP B1) := (congrFun hf17 3).trans rfl
 have h4 : fr16 4 = (vP B8) := (congrFun hf17 4).trans rfl
 clear hf17
 refine thenQ.n (W.seq ?_)
 refine W.seq (W.region ?_)
 refine sx rfl (pMove (v := (vP b0)) rfl h0) ?_
 obtain ⟨y18, hy18, hr⟩ := bind_some hr
 refine SeqW.consX rfl (StepX.call (gCallee rfl rfl (args2 rfl rfl)) ((c_Maker_Next (x0 := x0) (z := z) st.fz st.dead s0_0 ⟨bx0.blk, bx0.lt, bx0.dead, .inr rfl⟩ hy18).mono ?_))
 rintro _ m23 ⟨z19, V24, hzx20, fz21, sm22, rfl, Q25, X27, -⟩
 replace s0_0 := s0_0.mono hzx20.le
 replace X3 := X3.call hzx20 sm22 (Ap.symm A7)
 replace X10 := X10.call hzx20 sm22 (Ap.symm A14)
 have bx0n : Bx z19 e m23 k b0 _ _ := ⟨X27.blk, X27.lt, X27.dead, bx0.fresh⟩
 replace hz := hz.trans (Zx.here st hzx20)
 replace st := st.call hzx20 fz21 sm22 bx0.hq
 refine SeqW.done fun fr28 hf29 => ?_
 have h0 := (congrFun hf29 0).trans h0
 have h3 := (congrFun hf29 3).trans h3
 have h4 := (congrFun hf29 4).trans h4
 have h6 : fr28 6 = (vI y18.1) := (congrFun hf29 6).trans rfl
 clear hf29
 refine thenQ.n ?_
 obtain ⟨y246, hy246, hr⟩ := bind_some hr
 refine W.keep (u_Maker_SpoilWagon_0 (x0 := y18.2) (x3 := x1) (x4 := (Wagon.mk [] 0 0 0 0 0 false [])) (Zx.refl _) st h0 Q25 bx0n h3 X3 h4 X10 h6 A7 A14 A15 hy246) ?_
 rintro ex252 fr247 m248 hk250 ⟨z249, hz251, st, rfl, w253, h0, Q255, X257, h3, X259, O260, A261, A262, A263, -⟩
 have h4 := (hk250 4 rfl).trans h4
 replace hz := hz.trans hz251
 clear hk250
 refine thenQ.n (W.seq (W.region ?_))
 refine SeqW.consX rfl (kLoadA rfl Try.underlying48 rfl Try.type48 rfl h3 X259.loads ?_)
 refine SeqW.consX rfl (kPut (off := 0) (w := (Value.agg [(str y246.2.number), (vI y246.2.length), (vI y246.2.axles), (vI y246.2.mass), (vI y246.2.brake), (vI y246.2.goods), (vB y246.2.gentle), (str y246.2.dest)].toArray)) (new := [(str y246.2.number), (vI y246.2.length), (vI y246.2.axles), (vI y246.2.mass), (vI y246.2.brake), (vI y246.2.goods), (vB y246.2.gentle), (str y246.2.dest)]) rfl Try.type48 h4 rfl rfl rfl rfl O260 rfl [(str y246.2.number), (vI y246.2.length), (vI y246.2.axles), (vI y246.2.mass), (vI y246.2.brake), (vI y246.2.goods), (vB y246.2.gentle), (str y246.2.dest)] rfl st ?_)
 intro m264 st O260 sm265
 replace X257 := X257.same sm265 A262
 refine SeqW.done fun fr266 hf267 => ?_
 have h0 := (congrFun hf267 0).trans h0
 have h4 := (congrFun hf267 4).trans h4
 clear hf267
 refine thenQ.n ?_
 refine W.ret ?_
 obtain rfl := Option.some.inj hr
 exact ⟨z249, hz, st, .inr rfl, B8, w253, h4, O260, O260.fresh, Q255, X257, trivial⟩

theorem c_Maker_SpoilWagon {N : Nat} {z : Nat → Blk} {m : Mem} {x0 : Maker} {x1 : Wagon} {v0_0 : Value} {b0 : Nat} (fz : Fz z m) (hd : ∀ b, m.next ≤ b → m.blk b = .dead) (s0_0 : SlR (TInt 3 .i64) z x0.l v0_0) (bx0 : Bx z m m (some b0) b0 [v0_0, (vI x0.n)] 54) {r : Wagon × Maker} (hr : Maker_SpoilWagon N x0 x1 = some r) : CallW Try.prog 21 #[(vP b0), (Value.agg [(str x1.number), (vI x1.length), (vI x1.axles), (vI x1.mass), (vI x1.brake), (vI x1.goods), (vB x1.gentle), (str x1.dest)].toArray)] m fun v m' => ∃ z' wr_0, Zx m.next z z' ∧ Fz z' m' ∧ Same m m' (some b0) ∧ v = (Value.agg [(str r.1.number), (vI r.1.length), (vI r.1.axles), (vI r.1.mass), (vI r.1.brake), (vI r.1.goods), (vB r.1.gentle), (str r.1.dest)].toArray) ∧ SlR (TInt 3 .i64) z' r.2.l wr_0 ∧ Bx z' m m' (some b0) b0 [wr_0, (vI r.2.n)] 54 ∧ True := by
 refine CallW.any Try.func21 rfl (by kernel_rfl) (Nat.le_of_ble_eq_true rfl) (fun fr hf => ?_)
 have h0 : fr 0 = _ := hf 0 _ rfl
 have h1 : fr 1 = _ := hf 1 _ rfl
 refine (u_Maker_SpoilWagon (k := (some b0)) (Zx.refl _) (St.start fz hd) h0 s0_0 bx0 h1 hr).mono ?_
 rintro ex fr' m' ⟨z', hz, st, he, c4, wr_0, h4, bx4, fx4, sr_0, bxr, -⟩
 exact ⟨he, [(Value.agg [(str r.1.number), (vI r.1.length), (vI r.1.axles), (vI r.1.mass), (vI r.1.brake), (vI r.1.goods), (vB r.1.gentle), (str r.1.dest)].toArray)], ⟨resCell h4 bx4 Try.underlying48 rfl Try.type48 rfl, trivial⟩, .inl rfl, z', wr_0, hz, st.fz, st.toSame, rfl, sr_0, bxr, trivial⟩

/-! ### humpyard/brake.Fastest -/

theorem u_brake_Fastest_2 {N : Nat}  {z0 z : Nat → Blk} {e m : Mem} {k : Option Nat} {fr : Nat → Value} {x10 : Brakes} {x15 : Int} {x16 : Bool} {b10 : Nat} {x14 : BrakeRow} {b14 : Nat} (hz : Zx e.next z0 z) (st : St z e m k) (h10 : fr 10 = (vP b10)) (bx10 : Bx z e m k b10 [(vI x10.length), (vI x10.axles), (vI x10.mass), (vI x10.braked), (vI x10.percent), (vI x10.required), (vI x10.missing)] 33) (h14 : fr 14 = (vP b14)) (bx14 : Bx z e m k b14 [(vI x14.speed), (vI x14.grade), (vI x14.percent)] 31) (h15 : fr 15 = (vI x15)) (h16 : fr 16 = (vB x16)) (ao10_o14 : Ap (some b10) (some b14)) {r : Bool} (hr : brake_Fastest_2 N x10 x15 x16 = some r) : W Try.prog (sub (bodyOf Try.f25) [1, 1, 1, 1, 0, 1, 0, 0, 1, 1, 0, 0, 1, 1, 0]) (fun ex fr' m' => ∃ z', Zx e.next z0 z' ∧ St z' e m' k ∧ ex = AExit.normal ∧ fr' 55 = (vB r) ∧ Bx z' e m' k b10 [(vI x10.length), (vI x10.axles), (vI x10.mass), (vI x10.braked), (vI x10.percent), (vI x10.required), (vI x10.missing)] 33 ∧ Bx z' e m' k b14 [(vI x14.speed), (vI x14.grade), (vI x14.percent)] 31 ∧ Ap (some b10) (some b14) ∧ True) fr m := by
 unfold brake_Fastest_2 at hr
 refine W.region ?_
 refine sx rfl (pMove (v := (vB x16)) rfl h16) ?_
 refine sx rfl (pMove (v := (vB x16)) rfl rfl) ?_
 rcases if_some hr with ⟨hc69, hr⟩ | ⟨hc72, hr⟩
 ·refine SeqW.consG rfl rfl rfl hc69 (StepX.pure (pMove (v := (vI x15)) rfl h15) ?_)
  refine SeqW.consG rfl rfl rfl hc69 (kField rfl Try.underlying33 rfl Try.type3 rfl h10 rfl ?_)
  refine SeqW.consG rfl rfl rfl hc69 (kLoad rfl Try.underlying3 rfl rfl (bx10.load (v := (vI x10.percent)) rfl) ?_)
  refine SeqW.consG rfl rfl rfl hc69 (StepX.pure (pLeq (k := .i64) (a := x15) (b := x10.percent) rfl rfl rfl) ?_)
  refine sx rfl (pPick (t := true) (v := (vB (decide (x15 ≤ x10.percent)))) rfl ((congrArg vB hc69)) rfl) ?_
  refine SeqW.done fun fr70 hf71 => ?_
  have h10 := (congrFun hf71 10).trans h10
  have h14 := (congrFun hf71 14).trans h14
  have h55 : fr70 55 = (vB (decide (x15 ≤ x10.percent))) := (congrFun hf71 55).trans rfl
  clear hf71
  obtain rfl := Option.some.inj hr
  exact ⟨z, hz, st, rfl, h55, bx10, bx14, ao10_o14, trivial⟩
 ·refine kx rfl rfl rfl hc72 ?_
  iterate 3 refine kx rfl rfl rfl hc72 ?_
  refine sx rfl (pPick (t := false) (v := (vB false)) rfl ((congrArg vB hc72)) rfl) ?_
  refine SeqW.done fun fr73 hf74 => ?_
  have h10 := (congrFun hf74 10).trans h10
  have h14 := (congrFun hf74 14).trans h14
  have h55 : fr73 55 = (vB false) := (congrFun hf74 55).trans rfl
  clear hf74
  obtain rfl := Option.some.inj hr
  exact ⟨z, hz, st, rfl, h55, bx10, bx14, ao10_o14, trivial⟩

theorem u_brake_Fastest_1 {N : Nat}  {z0 z : Nat → Blk} {e m : Mem} {k : Option Nat} {fr : Nat → Value} {x2 : List BrakeRow} {x3 : Int} {x10 : Brakes} {x12 : Int} {x35 : List BrakeRow} {x37 : Int} {v2 : Value} {b10 : Nat} {v35 : Value} (hz : Zx e.next z0 z) (st : St z e m k) (h2 : fr 2 = v2) (s2 : SlR TBrakeRow z x2 v2) (h3 : fr 3 = (vI x3)) (h10 : fr 10 = (vP b10)) (bx10 : Bx z e m k b10 [(vI x10.length), (vI x10.axles), (vI x10.mass), (vI x10.braked), (vI x10.percent), (vI x10.required), (vI x10.missing)] 33) (h12 : fr 12 = (vI x12)) (h35 : fr 35 = v35) (s35 : SlR TBrakeRow z x35 v35) (h37 : fr 37 = (vI x37)) {r : Int} (hr : brake_Fastest_1 N x2 x3 x10 x12 x35 x37 = some r) : W Try.prog (sub (bodyOf Try.f25) [1, 1, 1, 1, 0, 1, 0, 0, 1, 1, 0]) (fun ex fr' m' => ∃ z', Zx e.next z0 z' ∧ St z' e m' k ∧ ex = AExit.normal ∧ fr' 12 = (vI r) ∧ Bx z' e m' k b10 [(vI x10.length), (vI x10.axles), (vI x10.mass), (vI x10.braked), (vI x10.percent), (vI x10.required), (vI x10.missing)] 33 ∧ True) fr m := by
 unfold brake_Fastest_1 at hr
 refine W.block ?_
 refine W.seq (W.region ?_)
 obtain ⟨y49, hy49, hr⟩ := bind_some hr
 refine SeqW.consX rfl (kIdxR (T := TBrakeRow) (xs := x35) (n := x37) rfl Try.underlying27 Try.type31 rfl h35 h37 s35 hy49 ?_)
 intro B50 f51 cs52 hd53 hc54
 obtain rfl := hd53
 refine SeqW.consX rfl (kLoadA rfl Try.underlying31 rfl Try.type31 rfl rfl (st.loads hc54) ?_)
 refine SeqW.consX rfl (kAlloc rfl Try.type31 rfl rfl rfl [(vI 0), (vI 0), (vI 0)] rfl st ?_)
 intro B55 m56 st X57 sm58 hap59
 have A61 := hap59 _ bx10.lt'
 replace bx10 := bx10.same sm58 Ap.none'
 refine SeqW.consX rfl (kPut (off := 0) (w := (Value.agg [(vI y49.speed), (vI y49.grade), (vI y49.percent)].toArray)) (new := [(vI y49.speed), (vI y49.grade), (vI y49.percent)]) rfl Try.type31 rfl rfl rfl rfl rfl X57 rfl [(vI y49.speed), (vI y49.grade), (vI y49.percent)] rfl st ?_)
 intro m62 st X57 sm63
 replace bx10 := bx10.same sm63 A61
 refine SeqW.done fun fr64 hf65 => ?_
 have h2 := (congrFun hf65 2).trans h2
 have h3 := (congrFun hf65 3).trans h3
 have h10 := (congrFun hf65 10).trans h10
 have h12 := (congrFun hf65 12).trans h12
 have h14 : fr64 14 = (vP B55) := (congrFun hf65 14).trans rfl
 have h35 := (congrFun hf65 35).trans h35
 have h37 := (congrFun hf65 37).trans h37
 clear hf65
 refine thenQ.n (W.seq (W.region ?_))
 refine sx rfl (pMove (v := v2) rfl h2) ?_
 refine SeqW.consX rfl (kField rfl Try.underlying31 rfl Try.type3 rfl h14 rfl ?_)
 refine SeqW.consX rfl (kLoad rfl Try.underlying3 rfl rfl (X57.load (v := (vI y49.speed)) rfl) ?_)
 refine sx rfl (pMove (v := (vI x3)) rfl h3) ?_
 obtain ⟨y66, hy66, hr⟩ := bind_some hr
 refine SeqW.consX rfl (StepX.call (gCallee rfl rfl (args3 rfl rfl rfl)) ((c_brake_required (z := z) st.fz st.dead s2 hy66).mono ?_))
 rintro _ _ ⟨rfl, rfl⟩
 refine sx rfl (pMove (v := (Value.tuple [(vI y66.1), (vB y66.2)].toArray)) rfl rfl) ?_
 refine sx rfl (pExtract (vs := [(vI y66.1), (vB y66.2)]) (v := (vI y66.1)) rfl rfl rfl) ?_
 refine sx rfl (pExtract (vs := [(vI y66.1), (vB y66.2)]) (v := (vB y66.2)) rfl rfl rfl) ?_
 refine sx rfl (pAssign (v := (vI y66.1)) rfl rfl) ?_
 refine sx rfl (pAssign (v := (vB y66.2)) rfl rfl) ?_
 refine SeqW.done fun fr67 hf68 => ?_
 have h2 := (congrFun hf68 2).trans h2
 have h3 := (congrFun hf68 3).trans h3
 have h10 := (congrFun hf68 10).trans h10
 have h12 := (congrFun hf68 12).trans h12
 have h14 := (congrFun hf68 14).trans h14
 have h15 : fr67 15 = (vI y66.1) := (congrFun hf68 15).trans rfl
 have h16 : fr67 16 = (vB y66.2) := (congrFun hf68 16).trans rfl
 have h35 := (congrFun hf68 35).trans h35
 have h37 := (congrFun hf68 37).trans h37
 clear hf68
 refine thenQ.n (W.seq ?_)
 obtain ⟨y75, hy75, hr⟩ := bind_some hr
 refine W.keep (u_brake_Fastest_2 (x10 := x10) (x14 := y49) (Zx.refl _) st h10 bx10 h14 X57 h15 h16 A61 hy75) ?_
 rintro ex81 fr76 m77 hk79 ⟨z78, hz80, st, rfl, h55, O82, O83, A84, -⟩
 replace s2 := s2.mono hz80.le
 replace s35 := s35.mono hz80.le
 have h2 := (hk79 2 rfl).trans h2
 have h3 := (hk79 3 rfl).trans h3
 have h10 := (hk79 10 rfl).trans h10
 have h12 := (hk79 12 rfl).trans h12
 have h14 := (hk79 14 rfl).trans h14
 have h35 := (hk79 35 rfl).trans h35
 have h37 := (hk79 37 rfl).trans h37
 replace hz := hz.trans hz80
 clear hk79
 refine thenQ.n ?_
 rcases if_some hr with ⟨hc85, hr⟩ | ⟨hc89, hr⟩
 ·refine W.condT h55 hc85 (W.region ?_)
  refine sx rfl (pMove (v := (vI x12)) rfl h12) ?_
  refine SeqW.consX rfl (kField rfl Try.underlying31 rfl Try.type3 rfl h14 rfl ?_)
  refine SeqW.consX rfl (kLoad rfl Try.underlying3 rfl rfl (O83.load (v := (vI y49.speed)) rfl) ?_)
  refine sx rfl (pMax2 (k := .i64) (a := x12) (b := y49.speed) rfl rfl rfl) ?_
  obtain ⟨y86, hy86, hr⟩ := lt_some hr
  refine sx rfl (pAssign rfl (congrArg (Value.int .i64) hy86)) ?_
  refine SeqW.done fun fr87 hf88 => ?_
  have h2 := (congrFun hf88 2).trans h2
  have h3 := (congrFun hf88 3).trans h3
  have h10 := (congrFun hf88 10).trans h10
  have h12 : fr87 12 = (vI y86) := (congrFun hf88 12).trans rfl
  have h35 := (congrFun hf88 35).trans h35
  have h37 := (congrFun hf88 37).trans h37
  clear hf88
  refine blockQ.n ?_
  obtain rfl := Option.some.inj hr
  exact ⟨z78, hz, st, rfl, h12, O82, trivial⟩
 ·refine W.condF h55 hc89 (W.skip ?_)
  refine blockQ.n ?_
  obtain rfl := Option.some.inj hr
  exact ⟨z78, hz, st, rfl, h12, O82, trivial⟩

theorem u_brake_Fastest_0 : ∀ (n : Nat) {N : Nat}  {z0 z : Nat → Blk} {e m : Mem} {k : Option Nat} {fr : Nat → Value} {x2 : List BrakeRow} {x3 : Int} {x10 : Brakes} {x12 : Int} {x35 : List BrakeRow} {x36 : Int} {x37 : Int} {v2 : Value} {b10 : Nat} {v35 : Value} (hz : Zx e.next z0 z) (st : St z e m k) (h2 : fr 2 = v2) (s2 : SlR TBrakeRow z x2 v2) (h3 : fr 3 = (vI x3)) (h10 : fr 10 = (vP b10)) (bx10 : Bx z e m k b10 [(vI x10.length), (vI x10.axles), (vI x10.mass), (vI x10.braked), (vI x10.percent), (vI x10.required), (vI x10.missing)] 33) (h12 : fr 12 = (vI x12)) (h35 : fr 35 = v35) (s35 : SlR TBrakeRow z x35 v35) (h36 : fr 36 = (vI x36)) (h37 : fr 37 = (vI x37)) {r : Int} (hr : brake_Fastest_0 N x2 x3 x10 x35 x36 n x12 x37 = some r), W Try.prog (sub (bodyOf Try.f25) [1, 1, 1, 1, 0, 1, 0]) (fun ex fr' m' => ∃ z', Zx e.next z0 z' ∧ St z' e m' k ∧ ex = AExit.exit 1 ∧ fr' 12 = (vI r) ∧ True) fr m := by
 intro n
 induction n with
 | zero => intro N z0 z e m k fr x2 x3 x10 x12 x35 x36 x37 v2 b10 v35 hz st h2 s2 h3 h10 bx10 h12 h35 s35 h36 h37 r hr; cases (show (none : Option _) = some r from hr)
 | succ n ih =>
  intro N z0 z e m k fr x2 x3 x10 x12 x35 x36 x37 v2 b10 v35 hz st h2 s2 h3 h10 bx10 h12 h35 s35 h36 h37 r hr
  unfold brake_Fastest_0 at hr
  refine W.loop1 ?_
  refine W.seq (W.region ?_)
  refine sx rfl (pLss (k := .i64) (a := x37) (b := x36) rfl h37 h36) ?_
  refine SeqW.done fun fr46 hf47 => ?_
  have h2 := (congrFun hf47 2).trans h2
  have h3 := (congrFun hf47 3).trans h3
  have h10 := (congrFun hf47 10).trans h10
  have h12 := (congrFun hf47 12).trans h12
  have h35 := (congrFun hf47 35).trans h35
  have h36 := (congrFun hf47 36).trans h36
  have h37 := (congrFun hf47 37).trans h37
  have h38 : fr46 38 = (vB (decide (x37 < x36))) := (congrFun hf47 38).trans rfl
  clear hf47
  refine thenQ.n (W.seq ?_)
  rcases if_some hr with ⟨hc48, hr⟩ | ⟨hc100, hr⟩
  ·refine W.condT h38 hc48 (W.skip ?_)
   refine thenQ.n (W.seq ?_)
   obtain ⟨y90, hy90, hr⟩ := bind_some hr
   refine W.keep (u_brake_Fastest_1 (x10 := x10) (Zx.refl _) st h2 s2 h3 h10 bx10 h12 h35 s35 h37 hy90) ?_
   rintro ex96 fr91 m92 hk94 ⟨z93, hz95, st, rfl, h12, O97, -⟩
   replace s2 := s2.mono hz95.le
   replace s35 := s35.mono hz95.le
   have h2 := (hk94 2 rfl).trans h2
   have h3 := (hk94 3 rfl).trans h3
   have h10 := (hk94 10 rfl).trans h10
   have h35 := (hk94 35 rfl).trans h35
   have h36 := (hk94 36 rfl).trans h36
   have h37 := (hk94 37 rfl).trans h37
   replace hz := hz.trans hz95
   clear hk94
   refine thenQ.n (W.region ?_)
   refine sx rfl (pAdd (k := .i64) (a := x37) (b := 1) rfl h37 rfl) ?_
   refine sx rfl (pMove (v := (vI (IntKind.wrap .i64 (x37 + 1)))) rfl rfl) ?_
   refine SeqW.done fun fr98 hf99 => ?_
   have h2 := (congrFun hf99 2).trans h2
   have h3 := (congrFun hf99 3).trans h3
   have h10 := (congrFun hf99 10).trans h10
   have h12 := (congrFun hf99 12).trans h12
   have h35 := (congrFun hf99 35).trans h35
   have h36 := (congrFun hf99 36).trans h36
   have h37 : fr98 37 = (vI (IntKind.wrap .i64 (x37 + 1))) := (congrFun hf99 37).trans rfl
   clear hf99
   refine thenQ.n ?_
   exact ih (x10 := x10) hz st h2 s2 h3 h10 O97 h12 h35 s35 h36 h37 hr
  ·refine W.condF h38 hc100 ?_
   refine W.exit ?_
   refine thenQ.x ?_
   refine thenQ.x ?_
   obtain rfl := Option.some.inj hr
   exact ⟨z, hz, st, rfl, h12, trivial⟩

theorem u_brake_Fastest {N : Nat}  {z0 z : Nat → Blk} {e m : Mem} {k : Option Nat} {fr : Nat → Value} {x0 : List Wagon} {x1 : List Int} {x2 : List BrakeRow} {x3 : Int} {v0 : Value} {v1 : Value} {v2 : Value} (hz : Zx e.next z0 z) (st : St z e m k) (h0 : fr 0 = v0) (s0 : SlR TWagon z x0 v0) (h1 : fr 1 = v1) (s1 : SlR (TInt 3 .i64) z x1 v1) (h2 : fr 2 = v2) (s2 : SlR TBrakeRow z x2 v2) (h3 : fr 3 = (vI x3)) {r : Int × Int} (hr : brake_Fastest N x0 x1 x2 x3 = some r) : W Try.prog (sub (bodyOf Try.f25) []) (fun ex fr' m' => ∃ z', Zx e.next z0 z' ∧ St z' e m' k ∧ (ex = .normal ∨ ex = .ret) ∧ fr' 8 = (vI r.1) ∧ fr' 9 = (vI r.2) ∧ True) fr m := by
 unfold brake_Fastest at hr
 refine W.seq (W.region ?_)
 refine sx rfl (pAssign (v := (vI 0)) rfl rfl) ?_
 refine sx rfl (pAssign (v := (vI 0)) rfl rfl) ?_
 refine SeqW.done fun fr1 hf2 => ?_
 have h0 := (congrFun hf2 0).trans h0
 have h1 := (congrFun hf2 1).trans h1
 have h2 := (congrFun hf2 2).trans h2
 have h3 := (congrFun hf2 3).trans h3
 clear hf2
 refine thenQ.n (W.seq (W.region ?_))
 refine sx rfl (pMove (v := v0) rfl h0) ?_
 refine sx rfl (pMove (v := v1) rfl h1) ?_
 obtain ⟨y3, hy3, hr⟩ := bind_some hr
 refine SeqW.consX rfl (StepX.call (gCallee rfl rfl (args2 rfl rfl)) ((c_brake_Total (z := z) st.fz st.dead s0 s1 hy3).mono ?_))
 rintro _ m8 ⟨z4, hzx5, fz6, sm7, rfl, -⟩
 replace s0 := s0.mono hzx5.le
 replace s1 := s1.mono hzx5.le
 replace s2 := s2.mono hzx5.le
 replace hz := hz.trans (Zx.here st hzx5)
 replace st := st.call hzx5 fz6 sm7 no_hq
 refine sx rfl (pMove (v := (Value.tuple [(Value.agg [(vI y3.1.length), (vI y3.1.axles), (vI y3.1.mass), (vI y3.1.braked), (vI y3.1.percent), (vI y3.1.required), (vI y3.1.missing)].toArray), (vI y3.2)].toArray)) rfl rfl) ?_
 refine sx rfl (pExtract (vs := [(Value.agg [(vI y3.1.length), (vI y3.1.axles), (vI y3.1.mass), (vI y3.1.braked), (vI y3.1.percent), (vI y3.1.required), (vI y3.1.missing)].toArray), (vI y3.2)]) (v := (Value.agg [(vI y3.1.length), (vI y3.1.axles), (vI y3.1.mass), (vI y3.1.braked), (vI y3.1.percent), (vI y3.1.required), (vI y3.1.missing)].toArray)) rfl rfl rfl) ?_
 refine sx rfl (pExtract (vs := [(Value.agg [(vI y3.1.length), (vI y3.1.axles), (vI y3.1.mass), (vI y3.1.braked), (vI y3.1.percent), (vI y3.1.required), (vI y3.1.missing)].toArray), (vI y3.2)]) (v := (vI y3.2)) rfl rfl rfl) ?_
 refine SeqW.consX rfl (kAlloc rfl Try.type33 rfl rfl rfl [(vI 0), (vI 0), (vI 0), (vI 0), (vI 0), (vI 0), (vI 0)] rfl st ?_)
 intro B9 m10 st X11 sm12 hap13
 refine SeqW.consX rfl (kPut (off := 0) (w := (Value.agg [(vI y3.1.length), (vI y3.1.axles), (vI y3.1.mass), (vI y3.1.braked), (vI y3.1.percent), (vI y3.1.required), (vI y3.1.missing)].toArray)) (new := [(vI y3.1.length), (vI y3.1.axles), (vI y3.1.mass), (vI y3.1.braked), (vI y3.1.percent), (vI y3.1.required), (vI y3.1.missing)]) rfl Try.type33 rfl rfl rfl rfl rfl X11 rfl [(vI y3.1.length), (vI y3.1.axles), (vI y3.1.mass), (vI y3.1.braked), (vI y3.1.percent), (vI y3.1.required), (vI y3.1.missing)] rfl st ?_)
 intro m15 st X11 sm16
 refine sx rfl (pAssign (v := (vI y3.2)) rfl rfl) ?_
 refine SeqW.done fun fr17 hf18 => ?_
 have h2 := (congrFun hf18 2).trans h2
 have h3 := (congrFun hf18 3).trans h3
 have h10 : fr17 10 = (vP B9) := (congrFun hf18 10).trans rfl
 have h11 : fr17 11 = (vI y3.2) := (congrFun hf18 11).trans rfl
 clear hf18
 refine thenQ.n (W.seq ?_)
 refine W.block ?_
 refine W.seq (W.region ?_)
 refine sx rfl (pMove (v := (vI y3.2)) rfl h11) ?_
 refine sx rfl (pNeq (k := .i64) (a := y3.2) (b := 0) rfl rfl rfl) ?_
 obtain ⟨y19, hy19, hr⟩ := lt_some hr
 refine sx rfl (pAssign rfl (congrArg vB hy19)) ?_
 refine SeqW.done fun fr20 hf21 => ?_
 have h2 := (congrFun hf21 2).trans h2
 have h3 := (congrFun hf21 3).trans h3
 have h10 := (congrFun hf21 10).trans h10
 have h11 := (congrFun hf21 11).trans h11
 have h23 : fr20 23 = (vB y19) := (congrFun hf21 23).trans rfl
 clear hf21
 refine thenQ.n ?_
 rcases if_some hr with ⟨hc22, hr⟩ | ⟨hc25, hr⟩
 ·refine W.condT h23 hc22 (W.seq (W.region ?_))
  refine sx rfl (pMove (v := (vI y3.2)) rfl h11) ?_
  refine sx rfl (pAssign (v := (vI 0)) rfl rfl) ?_
  refine sx rfl (pAssign (v := (vI y3.2)) rfl rfl) ?_
  refine SeqW.done fun fr23 hf24 => ?_
  have h8 : fr23 8 = (vI 0) := (congrFun hf24 8).trans rfl
  have h9 : fr23 9 = (vI y3.2) := (congrFun hf24 9).trans rfl
  clear hf24
  refine thenQ.n ?_
  refine W.ret ?_
  refine blockQ.r ?_
  refine thenQ.r ?_
  obtain rfl := Option.some.inj hr
  exact ⟨z4, hz, st, .inr rfl, h8, h9, trivial⟩
 ·refine W.condF h23 hc25 (W.seq (W.region ?_))
  refine sx rfl (pMove (v := v2) rfl h2) ?_
  obtain ⟨y26, hy26, hr⟩ := bind_some hr
  refine SeqW.consX rfl (StepX.call (gCallee rfl rfl (args1 rfl)) ((c_brake_ValidTable (z := z4) st.fz st.dead s2 hy26).mono ?_))
  rintro _ _ ⟨rfl, rfl⟩
  refine sx rfl (pNot (b := y26) rfl rfl) ?_
  obtain ⟨y27, hy27, hr⟩ := lt_some hr
  refine sx rfl (pAssign rfl (congrArg vB hy27)) ?_
  refine SeqW.done fun fr28 hf29 => ?_
  have h2 := (congrFun hf29 2).trans h2
  have h3 := (congrFun hf29 3).trans h3
  have h10 := (congrFun hf29 10).trans h10
  have h27 : fr28 27 = (vB y27) := (congrFun hf29 27).trans rfl
  clear hf29
  refine thenQ.n ?_
  rcases if_some hr with ⟨hc30, hr⟩ | ⟨hc33, hr⟩
  ·refine W.condT h27 hc30 (W.seq (W.region ?_))
   refine sx rfl (pAssign (v := (vI 0)) rfl rfl) ?_
   refine sx rfl (pAssign (v := (vI 1)) rfl rfl) ?_
   refine SeqW.done fun fr31 hf32 => ?_
   have h8 : fr31 8 = (vI 0) := (congrFun hf32 8).trans rfl
   have h9 : fr31 9 = (vI 1) := (congrFun hf32 9).trans rfl
   clear hf32
   refine thenQ.n ?_
   refine W.ret ?_
   refine blockQ.r ?_
   refine thenQ.r ?_
   obtain rfl := Option.some.inj hr
   exact ⟨z4, hz, st, .inr rfl, h8, h9, trivial⟩
  ·refine W.condF h27 hc33 (W.seq (W.region ?_))
   refine sx rfl (pMove (v := (vI x3)) rfl h3) ?_
   obtain ⟨y34, hy34, hr⟩ := bind_some hr
   refine SeqW.consX rfl (StepX.call (gCallee rfl rfl (args3 rfl rfl rfl)) ((c_brake_in (z := z4) st.fz st.dead  hy34).mono ?_))
   rintro _ _ ⟨rfl, rfl⟩
   refine sx rfl (pNot (b := y34) rfl rfl) ?_
   obtain ⟨y35, hy35, hr⟩ := lt_some hr
   refine sx rfl (pAssign rfl (congrArg vB hy35)) ?_
   refine SeqW.done fun fr36 hf37 => ?_
   have h2 := (congrFun hf37 2).trans h2
   have h3 := (congrFun hf37 3).trans h3
   have h10 := (congrFun hf37 10).trans h10
   have h31 : fr36 31 = (vB y35) := (congrFun hf37 31).trans rfl
   clear hf37
   refine thenQ.n ?_
   rcases if_some hr with ⟨hc38, hr⟩ | ⟨hc41, hr⟩
   ·refine W.condT h31 hc38 (W.seq (W.region ?_))
    refine sx rfl (pAssign (v := (vI 0)) rfl rfl) ?_
    refine sx rfl (pAssign (v := (vI 2)) rfl rfl) ?_
    refine SeqW.done fun fr39 hf40 => ?_
    have h8 : fr39 8 = (vI 0) := (congrFun hf40 8).trans rfl
    have h9 : fr39 9 = (vI 2) := (congrFun hf40 9).trans rfl
    clear hf40
    refine thenQ.n ?_
    refine W.ret ?_
    refine blockQ.r ?_
    refine thenQ.r ?_
    obtain rfl := Option.some.inj hr
    exact ⟨z4, hz, st, .inr rfl, h8, h9, trivial⟩
   ·refine W.condF h31 hc41 (W.skip ?_)
    refine blockQ.n ?_
    refine thenQ.n (W.seq (W.region ?_))
    refine sx rfl (pAssign (v := (vI 0)) rfl rfl) ?_
    refine SeqW.done fun fr42 hf43 => ?_
    have h2 := (congrFun hf43 2).trans h2
    have h3 := (congrFun hf43 3).trans h3
    have h10 := (congrFun hf43 10).trans h10
    have h12 : fr42 12 = (vI 0) := (congrFun hf43 12).trans rfl
    clear hf43
    refine thenQ.n (W.seq ?_)
    refine W.seq (W.region ?_)
    refine sx rfl (pMove (v := v2) rfl h2) ?_
    refine sx rfl (pLenR (xs := x2) rfl Try.underlying27 rfl s2) ?_
    refine sx rfl (pMove (v := (vI 0)) rfl rfl) ?_
    refine SeqW.done fun fr44 hf45 => ?_
    have h2 := (congrFun hf45 2).trans h2
    have h3 := (congrFun hf45 3).trans h3
    have h10 := (congrFun hf45 10).trans h10
    have h12 := (congrFun hf45 12).trans h12
    have h35 : fr44 35 = v2 := (congrFun hf45 35).trans rfl
    have h36 : fr44 36 = (vI (x2.length : Int)) := (congrFun hf45 36).trans rfl
    have h37 : fr44 37 = (vI 0) := (congrFun hf45 37).trans rfl
    clear hf45
    refine thenQ.n ?_
    refine W.block ?_
    obtain ⟨y101, hy101, hr⟩ := bind_some hr
    refine W.keep (u_brake_Fastest_0 (x10 := y3.1) _ (Zx.refl _) st h2 s2 h3 h10 X11 h12 h35 s2 h36 h37 hy101) ?_
    rintro ex107 fr102 m103 hk105 ⟨z104, hz106, st, rfl, h12, -⟩
    replace hz := hz.trans hz106
    clear hk105
    refine blockQ.hit ?_
    refine thenQ.n (W.seq ?_)
    refine W.seq (W.region ?_)
    refine sx rfl (pMove (v := (vI y101)) rfl h12) ?_
    refine sx rfl (pEql (k := .i64) (a := y101) (b := 0) rfl rfl rfl) ?_
    refine SeqW.done fun fr108 hf109 => ?_
    have h12 := (congrFun hf109 12).trans h12
    have h62 : fr108 62 = (vB (y101 == 0)) := (congrFun hf109 62).trans rfl
    clear hf109
    refine thenQ.n ?_
    rcases if_some hr with ⟨hc110, hr⟩ | ⟨hc113, hr⟩
    ·refine W.condT h62 hc110 (W.seq (W.region ?_))
     refine sx rfl (pAssign (v := (vI 0)) rfl rfl) ?_
     refine sx rfl (pAssign (v := (vI 15)) rfl rfl) ?_
     refine SeqW.done fun fr111 hf112 => ?_
     have h8 : fr111 8 = (vI 0) := (congrFun hf112 8).trans rfl
     have h9 : fr111 9 = (vI 15) := (congrFun hf112 9).trans rfl
     clear hf112
     refine thenQ.n ?_
     refine W.ret ?_
     refine thenQ.r ?_
     obtain rfl := Option.some.inj hr
     exact ⟨z104, hz, st, .inr rfl, h8, h9, trivial⟩
    ·refine W.condF h62 hc113 (W.skip ?_)
     refine thenQ.n (W.seq (W.region ?_))
     refine sx rfl (pMove (v := (vI y101)) rfl h12) ?_
     refine sx rfl (pAssign (v := (vI y101)) rfl rfl) ?_
     refine sx rfl (pAssign (v := (vI 0)) rfl rfl) ?_
     refine SeqW.done fun fr114 hf115 => ?_
     have h8 : fr114 8 = (vI y101) := (congrFun hf115 8).trans rfl
     have h9 : fr114 9 = (vI 0) := (congrFun hf115 9).trans rfl
     clear hf115
     refine thenQ.n ?_
     refine W.ret ?_
     obtain rfl := Option.some.inj hr
     exact ⟨z104, hz, st, .inr rfl, h8, h9, trivial⟩

theorem c_brake_Fastest {N : Nat} {z : Nat → Blk} {m : Mem} {x0 : List Wagon} {x1 : List Int} {x2 : List BrakeRow} {x3 : Int} {v0 : Value} {v1 : Value} {v2 : Value} (fz : Fz z m) (hd : ∀ b, m.next ≤ b → m.blk b = .dead) (s0 : SlR TWagon z x0 v0) (s1 : SlR (TInt 3 .i64) z x1 v1) (s2 : SlR TBrakeRow z x2 v2) {r : Int × Int} (hr : brake_Fastest N x0 x1 x2 x3 = some r) : CallW Try.prog 25 #[v0, v1, v2, (vI x3)] m fun v m' => v = (Value.tuple [(vI r.1), (vI r.2)].toArray) ∧ m' = m := by
 refine CallW.flat Try.func25 rfl (by kernel_rfl) (Nat.le_of_ble_eq_true rfl) rfl (z := z) (fun fr hf => ?_)
 have h0 : fr 0 = _ := hf 0 _ rfl
 have h1 : fr 1 = _ := hf 1 _ rfl
 have h2 : fr 2 = _ := hf 2 _ rfl
 have h3 : fr 3 = _ := hf 3 _ rfl
 refine (u_brake_Fastest (k := none) (Zx.refl _) (St.start fz hd) h0 s0 h1 s1 h2 s2 h3 hr).mono ?_
 rintro ex fr' m' ⟨z', hz, st, he, h8, h9, -⟩
 exact ⟨he, z', st, [(vI r.1), (vI r.2)], ⟨h8.symm, h9.symm, trivial⟩, .inr (List.forall_mem_cons.2 ⟨rfl, List.forall_mem_cons.2 ⟨rfl, fun _ h => nomatch h⟩⟩), rfl⟩

/-! ### humpyard/humpyardref35.Off -/

theorem u_r35_Off_0 : ∀ (n : Nat) {N : Nat}  {z0 z : Nat → Blk} {e m : Mem} {k : Option Nat} {fr : Nat → Value} {x0 : List Int} {x1 : Int} {x5 : Int} {v0 : Value} (hz : Zx e.next z0 z) (st : St z e m k) (h0 : fr 0 = v0) (s0 : SlR (TInt 3 .i64) z x0 v0) (h1 : fr 1 = (vI x1)) (h5 : fr 5 = (vI x5)) {r : Sum (Unit) (Bool)} (hr : r35_Off_0 N x0 x1 n x5 = some r), W Try.prog (sub (bodyOf Try.f19) [1, 0, 1, 0]) (fun ex fr' m' => ∃ z', Zx e.next z0 z' ∧ St z' e m' k ∧ ((∃ q, r = Sum.inl q ∧ ex = AExit.exit 0 ∧ True) ∨ (∃ q, r = Sum.inr q ∧ ex = AExit.ret ∧ fr' 4 = (vB q) ∧ True))) fr m := by
 intro n
 induction n with
 | zero => intro N z0 z e m k fr x0 x1 x5 v0 hz st h0 s0 h1 h5 r hr; cases (show (none : Option _) = some r from hr)
 | succ n ih =>
  intro N z0 z e m k fr x0 x1 x5 v0 hz st h0 s0 h1 h5 r hr
  unfold r35_Off_0 at hr
  refine W.loop1 ?_
  refine W.seq (W.seq (W.region ?_))
  refine sx rfl (pMove (v := (vI x5)) rfl h5) ?_
  refine sx rfl (pMove (v := v0) rfl h0) ?_
  refine sx rfl (pLenR (xs := x0) rfl Try.underlying22 rfl s0) ?_
  refine sx rfl (pLss (k := .i64) (a := x5) (b := (x0.length : Int)) rfl rfl rfl) ?_
  refine SeqW.done fun fr5 hf6 => ?_
  have h0 := (congrFun hf6 0).trans h0
  have h1 := (congrFun hf6 1).trans h1
  have h5 := (congrFun hf6 5).trans h5
  have h9 : fr5 9 = (vB (decide (x5 < (x0.length : Int)))) := (congrFun hf6 9).trans rfl
  clear hf6
  refine thenQ.n ?_
  rcases if_some hr with ⟨hc7, hr⟩ | ⟨hc23, hr⟩
  ·refine W.condT h9 hc7 (W.skip ?_)
   refine thenQ.n (W.seq ?_)
   refine W.block ?_
   refine W.seq (W.region ?_)
   refine sx rfl (pMove (v := v0) rfl h0) ?_
   refine sx rfl (pMove (v := (vI x5)) rfl h5) ?_
   obtain ⟨y8, hy8, hr⟩ := bind_some hr
   refine SeqW.consX rfl (kIdxR (T := (TInt 3 .i64)) (xs := x0) (n := x5) rfl Try.underlying22 Try.type3 rfl rfl rfl s0 hy8 ?_)
   intro B9 f10 cs11 hd12 hc13
   obtain rfl := hd12
   refine SeqW.consX rfl (kLoad (v := (vI y8)) rfl Try.underlying3 rfl rfl (ldz_load st.fz (hc13 0 _ rfl)) ?_)
   refine sx rfl (pMove (v := (vI x1)) rfl h1) ?_
   refine sx rfl (pEql (k := .i64) (a := y8) (b := x1) rfl rfl rfl) ?_
   refine SeqW.done fun fr14 hf15 => ?_
   have h0 := (congrFun hf15 0).trans h0
   have h1 := (congrFun hf15 1).trans h1
   have h5 := (congrFun hf15 5).trans h5
   have h17 : fr14 17 = (vB (y8 == x1)) := (congrFun hf15 17).trans rfl
   clear hf15
   refine thenQ.n ?_
   rcases if_some hr with ⟨hc16, hr⟩ | ⟨hc19, hr⟩
   ·refine W.condT h17 hc16 (W.seq (W.region ?_))
    refine sx rfl (pAssign (v := (vB true)) rfl rfl) ?_
    refine SeqW.done fun fr17 hf18 => ?_
    have h4 : fr17 4 = (vB true) := (congrFun hf18 4).trans rfl
    clear hf18
    refine thenQ.n ?_
    refine W.ret ?_
    refine blockQ.r ?_
    refine thenQ.r ?_
    refine thenQ.r ?_
    obtain rfl := Option.some.inj hr
    exact ⟨z, hz, st, .inr ⟨_, rfl, rfl, h4, trivial⟩⟩
   ·refine W.condF h17 hc19 (W.skip ?_)
    refine blockQ.n ?_
    refine thenQ.n (W.region ?_)
    refine sx rfl (pMove (v := (vI x5)) rfl h5) ?_
    refine sx rfl (pAdd (k := .i64) (a := x5) (b := 1) rfl rfl rfl) ?_
    obtain ⟨y20, hy20, hr⟩ := lt_some hr
    refine sx rfl (pAssign rfl (congrArg (Value.int .i64) hy20)) ?_
    refine SeqW.done fun fr21 hf22 => ?_
    have h0 := (congrFun hf22 0).trans h0
    have h1 := (congrFun hf22 1).trans h1
    have h5 : fr21 5 = (vI y20) := (congrFun hf22 5).trans rfl
    clear hf22
    refine thenQ.n ?_
    exact ih hz st h0 s0 h1 h5 hr
  ·refine W.condF h9 hc23 ?_
   refine W.exit ?_
   refine thenQ.x ?_
   refine thenQ.x ?_
   obtain rfl := Option.some.inj hr
   exact ⟨z, hz, st, .inl ⟨_, rfl, rfl, trivial⟩⟩

theorem u_r35_Off {N : Nat}  {z0 z : Nat → Blk} {e m : Mem} {k : Option Nat} {fr : Nat → Value} {x0 : List Int} {x1 : Int} {v0 : Value} (hz : Zx e.next z0 z) (st : St z e m k) (h0 : fr 0 = v0) (s0 : SlR (TInt 3 .i64) z x0 v0) (h1 : fr 1 = (vI x1)) {r : Bool} (hr : r35_Off N x0 x1 = some r) : W Try.prog (sub (bodyOf Try.f19) []) (fun ex fr' m' => ∃ z', Zx e.next z0 z' ∧ St z' e m' k ∧ (ex = .normal ∨ ex = .ret) ∧ fr' 4 = (vB r) ∧ True) fr m := by
 unfold r35_Off at hr
 refine W.seq (W.region ?_)
 refine sx rfl (pAssign (v := (vB false)) rfl rfl) ?_
 refine SeqW.done fun fr1 hf2 => ?_
 have h0 := (congrFun hf2 0).trans h0
 have h1 := (congrFun hf2 1).trans h1
 clear hf2
 refine thenQ.n (W.seq ?_)
 refine W.seq (W.region ?_)
 refine sx rfl (pAssign (v := (vI 0)) rfl rfl) ?_
 refine SeqW.done fun fr3 hf4 => ?_
 have h0 := (congrFun hf4 0).trans h0
 have h1 := (congrFun hf4 1).trans h1
 have h5 : fr3 5 = (vI 0) := (congrFun hf4 5).trans rfl
 clear hf4
 refine thenQ.n ?_
 refine W.block ?_
 obtain ⟨y24, hy24, hr⟩ := bind_some hr
 refine W.keep (u_r35_Off_0 _ (Zx.refl _) st h0 s0 h1 h5 hy24) ?_
 rintro ex30 fr25 m26 hk28 ⟨z27, hz29, st, ⟨y31, rfl, rfl, -⟩ | ⟨y34, rfl, rfl, h4, -⟩⟩
 ·dsimp only at hr
  replace hz := hz.trans hz29
  clear hk28
  refine blockQ.hit ?_
  refine thenQ.n (W.seq (W.region ?_))
  refine sx rfl (pAssign (v := (vB false)) rfl rfl) ?_
  refine SeqW.done fun fr32 hf33 => ?_
  have h4 : fr32 4 = (vB false) := (congrFun hf33 4).trans rfl
  clear hf33
  refine thenQ.n ?_
  refine W.ret ?_
  obtain rfl := Option.some.inj hr
  exact ⟨z27, hz, st, .inr rfl, h4, trivial⟩
 ·dsimp only at hr
  replace hz := hz.trans hz29
  clear hk28
  refine blockQ.r ?_
  refine thenQ.r ?_
  obtain rfl := Option.some.inj hr
  exact ⟨z27, hz, st, .inr rfl, h4, trivial⟩

theorem c_r35_Off {N : Nat} {z : Nat → Blk} {m : Mem} {x0 : List Int} {x1 : Int} {v0 : Value} (fz : Fz z m) (hd : ∀ b, m.next ≤ b → m.blk b = .dead) (s0 : SlR (TInt 3 .i64) z x0 v0) {r : Bool} (hr : r35_Off N x0 x1 = some r) : CallW Try.prog 19 #[v0, (vI x1)] m fun v m' => v = (vB r) ∧ m' = m := by
 refine CallW.flat Try.func19 rfl (by kernel_rfl) (Nat.le_of_ble_eq_true rfl) rfl (z := z) (fun fr hf => ?_)
 have h0 : fr 0 = _ := hf 0 _ rfl
 have h1 : fr 1 = _ := hf 1 _ rfl
 refine (u_r35_Off (k := none) (Zx.refl _) (St.start fz hd) h0 s0 h1 hr).mono ?_
 rintro ex fr' m' ⟨z', hz, st, he, h4, -⟩
 exact ⟨he, z', st, [(vB r)], ⟨h4.symm, trivial⟩, .inl rfl, rfl⟩

/-! ### humpyard/humpyardref35.Factor -/

theorem u_r35_Factor {N : Nat}  {z0 z : Nat → Blk} {e m : Mem} {k : Option Nat} {fr : Nat → Value} {x0 : Int} (hz : Zx e.next z0 z) (st : St z e m k) (h0 : fr 0 = (vI x0)) {r : Int} (hr : r35_Factor N x0 = some r) : W Try.prog (sub (bodyOf Try.f24) []) (fun ex fr' m' => ∃ z', Zx e.next z0 z' ∧ St z' e m' k ∧ (ex = .normal ∨ ex = .ret) ∧ fr' 2 = (vI r) ∧ True) fr m := by
 unfold r35_Factor at hr
 refine W.seq (W.region ?_)
 refine sx rfl (pAssign (v := (vI 0)) rfl rfl) ?_
 refine SeqW.done fun fr1 hf2 => ?_
 have h0 := (congrFun hf2 0).trans h0
 clear hf2
 refine thenQ.n (W.seq ?_)
 refine W.seq (W.region ?_)
 refine sx rfl (pMove (v := (vI x0)) rfl h0) ?_
 refine sx rfl (pLeq (k := .i64) (a := x0) (b := 5000) rfl rfl rfl) ?_
 refine SeqW.done fun fr3 hf4 => ?_
 have h0 := (congrFun hf4 0).trans h0
 have h4 : fr3 4 = (vB (decide (x0 ≤ 5000))) := (congrFun hf4 4).trans rfl
 clear hf4
 refine thenQ.n ?_
 rcases if_some hr with ⟨hc5, hr⟩ | ⟨hc8, hr⟩
 ·refine W.condT h4 hc5 (W.seq (W.region ?_))
  refine sx rfl (pAssign (v := (vI 100)) rfl rfl) ?_
  refine SeqW.done fun fr6 hf7 => ?_
  have h2 : fr6 2 = (vI 100) := (congrFun hf7 2).trans rfl
  clear hf7
  refine thenQ.n ?_
  refine W.ret ?_
  refine thenQ.r ?_
  obtain rfl := Option.some.inj hr
  exact ⟨z, hz, st, .inr rfl, h2, trivial⟩
 ·refine W.condF h4 hc8 (W.skip ?_)
  refine thenQ.n (W.seq ?_)
  refine W.seq (W.region ?_)
  refine sx rfl (pMove (v := (vI x0)) rfl h0) ?_
  refine sx rfl (pGtr (k := .i64) (a := x0) (b := 7000) rfl rfl rfl) ?_
  refine SeqW.done fun fr9 hf10 => ?_
  have h0 := (congrFun hf10 0).trans h0
  have h6 : fr9 6 = (vB (decide (7000 < x0))) := (congrFun hf10 6).trans rfl
  clear hf10
  refine thenQ.n ?_
  rcases if_some hr with ⟨hc11, hr⟩ | ⟨hc14, hr⟩
  ·refine W.condT h6 hc11 (W.seq (W.region ?_))
   refine sx rfl (pAssign (v := (vI 80)) rfl rfl) ?_
   refine SeqW.done fun fr12 hf13 => ?_
   have h2 : fr12 2 = (vI 80) := (congrFun hf13 2).trans rfl
   clear hf13
   refine thenQ.n ?_
   refine W.ret ?_
   refine thenQ.r ?_
   obtain rfl := Option.some.inj hr
   exact ⟨z, hz, st, .inr rfl, h2, trivial⟩
  ·refine W.condF h6 hc14 (W.skip ?_)
   refine thenQ.n (W.seq (W.region ?_))
   refine sx rfl (pMove (v := (vI x0)) rfl h0) ?_
   refine sx rfl (pSub (k := .i64) (a := x0) (b := 5000) rfl rfl rfl) ?_
   refine sx rfl (pAdd (k := .i64) (a := (IntKind.wrap .i64 (x0 - 5000))) (b := 99) rfl rfl rfl) ?_
   refine sx rfl (pQuo (k := .i64) (a := (IntKind.wrap .i64 ((IntKind.wrap .i64 (x0 - 5000)) + 99))) (b := 100) rfl rfl rfl (by decide)) ?_
   refine sx rfl (pSub (k := .i64) (a := 100) (b := (IntKind.wrap .i64 (Int.tdiv (IntKind.wrap .i64 ((IntKind.wrap .i64 (x0 - 5000)) + 99)) 100))) rfl rfl rfl) ?_
   obtain ⟨y15, hy15, hr⟩ := lt_some hr
   refine sx rfl (pAssign rfl (congrArg (Value.int .i64) hy15)) ?_
   refine SeqW.done fun fr16 hf17 => ?_
   have h2 : fr16 2 = (vI y15) := (congrFun hf17 2).trans rfl
   clear hf17
   refine thenQ.n ?_
   refine W.ret ?_
   obtain rfl := Option.some.inj hr
   exact ⟨z, hz, st, .inr rfl, h2, trivial⟩

theorem c_r35_Factor {N : Nat} {z : Nat → Blk} {m : Mem} {x0 : Int} (fz : Fz z m) (hd : ∀ b, m.next ≤ b → m.blk b = .dead)  {r : Int} (hr : r35_Factor N x0 = some r) : CallW Try.prog 24 #[(vI x0)] m fun v m' => v = (vI r) ∧ m' = m := by
 refine CallW.flat Try.func24 rfl (by kernel_rfl) (Nat.le_of_ble_eq_true rfl) rfl (z := z) (fun fr hf => ?_)
 have h0 : fr 0 = _ := hf 0 _ rfl
 refine (u_r35_Factor (k := none) (Zx.refl _) (St.start fz hd) h0 hr).mono ?_
 rintro ex fr' m' ⟨z', hz, st, he, h2, -⟩
 exact ⟨he, z', st, [(vI r)], ⟨h2.symm, trivial⟩, .inl rfl, rfl⟩

/-! ### humpyard/humpyardref02.Valid -/

theorem u_r02_Valid {N : Nat}  {z0 z : Nat → Blk} {e m : Mem} {k : Option Nat} {fr : Nat → Value} {x0 : List UInt8} (hz : Zx e.next z0 z) (st : St z e m k) (h0 : fr 0 = (str x0)) {r : Int} (hr : r02_Valid N x0 = some r) : W Try.prog (sub (bodyOf Try.f55) []) (fun ex fr' m' => ∃ z', Zx e.next z0 z' ∧ St z' e m' k ∧ (ex = .normal ∨ ex = .ret) ∧ fr' 2 = (vI r) ∧ True) fr m := by
 unfold r02_Valid at hr
 refine W.seq (W.region ?_)
 refine sx rfl (pAssign (v := (vI 0)) rfl rfl) ?_
 refine SeqW.done fun fr1 hf2 => ?_
 have h0 := (congrFun hf2 0).trans h0
 clear hf2
 refine thenQ.n (W.seq ?_)
 refine W.seq (W.region ?_)
 refine sx rfl (pMove (v := (str x0)) rfl h0) ?_
 obtain ⟨y3, hy3, hr⟩ := bind_some hr
 refine SeqW.consX rfl (StepX.call (gCallee rfl rfl (args2 rfl rfl)) ((c_r02_digits (z := z) st.fz st.dead  hy3).mono ?_))
 rintro _ _ ⟨rfl, rfl⟩
 refine sx rfl (pNot (b := y3) rfl rfl) ?_
 refine SeqW.done fun fr4 hf5 => ?_
 have h0 := (congrFun hf5 0).trans h0
 have h5 : fr4 5 = (vB (!y3)) := (congrFun hf5 5).trans rfl
 clear hf5
 refine thenQ.n ?_
 rcases if_some hr with ⟨hc6, hr⟩ | ⟨hc9, hr⟩
 ·refine W.condT h5 hc6 (W.seq (W.region ?_))
  refine sx rfl (pAssign (v := (vI 11)) rfl rfl) ?_
  refine SeqW.done fun fr7 hf8 => ?_
  have h2 : fr7 2 = (vI 11) := (congrFun hf8 2).trans rfl
  clear hf8
  refine thenQ.n ?_
  refine W.ret ?_
  refine thenQ.r ?_
  obtain rfl := Option.some.inj hr
  exact ⟨z, hz, st, .inr rfl, h2, trivial⟩
 ·refine W.condF h5 hc9 (W.skip ?_)
  refine thenQ.n (W.seq (W.seq ?_))
  refine W.draw ?_
  refine DrawW.cons rfl (StepX.pure (pMove (v := (str x0)) rfl h0) ?_)
  refine ⟨trivial, ?_⟩
  have sto10 := st
  obtain ⟨y11, hy11, hr⟩ := bind_some hr
  refine DrawW.cons rfl (StepX.call (gCallee rfl rfl (args2 rfl rfl)) ((c_r02_sum (z := z) st.fz st.dead  hy11).mono ?_))
  rintro _ _ ⟨rfl, rfl⟩
  refine ⟨⟨?_, ?_⟩, ?_⟩
  ·exact demN
  ·exact demN
  refine DrawW.cons rfl (StepX.pure (pMove (v := (str x0)) rfl h0) ?_)
  refine ⟨trivial, ?_⟩
  obtain ⟨y12, hy12, hr⟩ := bind_some hr
  refine DrawW.cons rfl (kIndexS (s := x0) (n := 11) rfl Try.underlying9 rfl rfl hy12 ?_)
  refine ⟨trivial, ?_⟩
  refine DrawW.cons rfl (StepX.pure (pSub (k := .u8) (a := (UInt8.toNat y12 : Int)) (b := 48) rfl rfl rfl) ?_)
  refine ⟨trivial, ?_⟩
  refine DrawW.cons rfl (StepX.pure (pConv (k := .u8) (a := (IntKind.wrap .u8 ((UInt8.toNat y12 : Int) - 48))) rfl Try.underlying5 Try.underlying3 rfl) ?_)
  refine ⟨trivial, ?_⟩
  refine DrawW.cons rfl (StepX.pure (pAdd (k := .i64) (a := y11) (b := (IntKind.wrap .i64 (IntKind.wrap .u8 ((UInt8.toNat y12 : Int) - 48)))) rfl rfl rfl) ?_)
  refine ⟨trivial, ?_⟩
  refine DrawW.cons rfl (StepX.pure (pRem (k := .i64) (a := (IntKind.wrap .i64 (y11 + (IntKind.wrap .i64 (IntKind.wrap .u8 ((UInt8.toNat y12 : Int) - 48)))))) (b := 10) rfl rfl rfl (by decide)) ?_)
  refine ⟨trivial, ?_⟩
  refine DrawW.cons rfl (StepX.pure (pNeq (k := .i64) (a := (Int.tmod (IntKind.wrap .i64 (y11 + (IntKind.wrap .i64 (IntKind.wrap .u8 ((UInt8.toNat y12 : Int) - 48))))) 10)) (b := 0) rfl rfl rfl) ?_)
  refine ⟨trivial, ?_⟩
  refine DrawW.done fun fr13 hf14 => ?_
  have h14 : fr13 14 = (vB ((Int.tmod (IntKind.wrap .i64 (y11 + (IntKind.wrap .i64 (IntKind.wrap .u8 ((UInt8.toNat y12 : Int) - 48))))) 10) != 0)) := (congrFun hf14 14).trans rfl
  clear hf14
  refine thenQ.n ?_
  rcases if_some hr with ⟨hc15, hr⟩ | ⟨hc18, hr⟩
  ·refine W.condT h14 hc15 (W.seq (W.region ?_))
   refine sx rfl (pAssign (v := (vI 9)) rfl rfl) ?_
   refine SeqW.done fun fr16 hf17 => ?_
   have h2 : fr16 2 = (vI 9) := (congrFun hf17 2).trans rfl
   clear hf17
   refine thenQ.n ?_
   refine W.ret ?_
   refine thenQ.r ?_
   obtain rfl := Option.some.inj hr
   exact ⟨z, hz, st, .inr rfl, h2, trivial⟩
  ·refine W.condF h14 hc18 (W.skip ?_)
   refine thenQ.n (W.seq (W.region ?_))
   refine sx rfl (pAssign (v := (vI 0)) rfl rfl) ?_
   refine SeqW.done fun fr19 hf20 => ?_
   have h2 : fr19 2 = (vI 0) := (congrFun hf20 2).trans rfl
   clear hf20
   refine thenQ.n ?_
   refine W.ret ?_
   obtain rfl := Option.some.inj hr
   exact ⟨z, hz, st, .inr rfl, h2, trivial⟩

theorem c_r02_Valid {N : Nat} {z : Nat → Blk} {m : Mem} {x0 : List UInt8} (fz : Fz z m) (hd : ∀ b, m.next ≤ b → m.blk b = .dead)  {r : Int} (hr : r02_Valid N x0 = some r) : CallW Try.prog 55 #[(str x0)] m fun v m' => v = (vI r) ∧ m' = m := by
 refine CallW.flat Try.func55 rfl (by kernel_rfl) (Nat.le_of_ble_eq_true rfl) rfl (z := z) (fun fr hf => ?_)
 have h0 : fr 0 = _ := hf 0 _ rfl
 refine (u_r02_Valid (k := none) (Zx.refl _) (St.start fz hd) h0 hr).mono ?_
 rintro ex fr' m' ⟨z', hz, st, he, h2, -⟩
 exact ⟨he, z', st, [(vI r)], ⟨h2.symm, trivial⟩, .inl rfl, rfl⟩

/-! ### humpyard/humpyardref02.Kind -/

theorem u_r02_Kind_0 {N : Nat}  {z0 z : Nat → Blk} {e m : Mem} {k : Option Nat} {fr : Nat → Value} {x11 : Int} {x12 : Bool} (hz : Zx e.next z0 z) (st : St z e m k) (h11 : fr 11 = (Value.int .u8 x11)) (h12 : fr 12 = (vB x12)) {r : Bool} (hr : r02_Kind_0 N x11 x12 = some r) : W Try.prog (sub (bodyOf Try.f52) [1, 1, 0, 1, 0, 0, 1]) (fun ex fr' m' => ∃ z', Zx e.next z0 z' ∧ St z' e m' k ∧ ex = AExit.normal ∧ fr' 12 = (vB r) ∧ True) fr m := by
 unfold r02_Kind_0 at hr
 rcases if_some hr with ⟨hc18, hr⟩ | ⟨hc19, hr⟩
 ·refine W.condT h12 hc18 (W.skip ?_)
  obtain rfl := Option.some.inj hr
  exact ⟨z, hz, st, rfl, h12, trivial⟩
 ·refine W.condF h12 hc19 (W.region ?_)
  refine sx rfl (pEql (k := .u8) (a := x11) (b := 56) rfl h11 rfl) ?_
  obtain ⟨y20, hy20, hr⟩ := lt_some hr
  refine sx rfl (pAssign rfl (congrArg vB hy20)) ?_
  refine SeqW.done fun fr21 hf22 => ?_
  have h11 := (congrFun hf22 11).trans h11
  have h12 : fr21 12 = (vB y20) := (congrFun hf22 12).trans rfl
  clear hf22
  obtain rfl := Option.some.inj hr
  exact ⟨z, hz, st, rfl, h12, trivial⟩

theorem u_r02_Kind_1 {N : Nat}  {z0 z : Nat → Blk} {e m : Mem} {k : Option Nat} {fr : Nat → Value} {x11 : Int} {x15 : Bool} (hz : Zx e.next z0 z) (st : St z e m k) (h11 : fr 11 = (Value.int .u8 x11)) (h15 : fr 15 = (vB x15)) {r : Bool} (hr : r02_Kind_1 N x11 x15 = some r) : W Try.prog (sub (bodyOf Try.f52) [1, 1, 0, 1, 0, 1, 1, 0, 1]) (fun ex fr' m' => ∃ z', Zx e.next z0 z' ∧ St z' e m' k ∧ ex = AExit.normal ∧ fr' 15 = (vB r) ∧ True) fr m := by
 unfold r02_Kind_1 at hr
 rcases if_some hr with ⟨hc37, hr⟩ | ⟨hc38, hr⟩
 ·refine W.condT h15 hc37 (W.skip ?_)
  obtain rfl := Option.some.inj hr
  exact ⟨z, hz, st, rfl, h15, trivial⟩
 ·refine W.condF h15 hc38 (W.region ?_)
  refine sx rfl (pEql (k := .u8) (a := x11) (b := 52) rfl h11 rfl) ?_
  obtain ⟨y39, hy39, hr⟩ := lt_some hr
  refine sx rfl (pAssign rfl (congrArg vB hy39)) ?_
  refine SeqW.done fun fr40 hf41 => ?_
  have h11 := (congrFun hf41 11).trans h11
  have h15 : fr40 15 = (vB y39) := (congrFun hf41 15).trans rfl
  clear hf41
  obtain rfl := Option.some.inj hr
  exact ⟨z, hz, st, rfl, h15, trivial⟩

theorem u_r02_Kind {N : Nat}  {z0 z : Nat → Blk} {e m : Mem} {k : Option Nat} {fr : Nat → Value} {x0 : List UInt8} (hz : Zx e.next z0 z) (st : St z e m k) (h0 : fr 0 = (str x0)) {r : Int × Int} (hr : r02_Kind N x0 = some r) : W Try.prog (sub (bodyOf Try.f52) []) (fun ex fr' m' => ∃ z', Zx e.next z0 z' ∧ St z' e m' k ∧ (ex = .normal ∨ ex = .ret) ∧ fr' 2 = (vI r.1) ∧ fr' 3 = (vI r.2) ∧ True) fr m := by
 unfold r02_Kind at hr
 refine W.seq (W.region ?_)
 refine sx rfl (pAssign (v := (vI 0)) rfl rfl) ?_
 refine sx rfl (pAssign (v := (vI 0)) rfl rfl) ?_
 refine SeqW.done fun fr1 hf2 => ?_
 have h0 := (congrFun hf2 0).trans h0
 clear hf2
 refine thenQ.n (W.seq ?_)
 refine W.seq (W.region ?_)
 refine sx rfl (pMove (v := (str x0)) rfl h0) ?_
 obtain ⟨y3, hy3, hr⟩ := bind_some hr
 refine SeqW.consX rfl (StepX.call (gCallee rfl rfl (args1 rfl)) ((c_r02_Valid (z := z) st.fz st.dead  hy3).mono ?_))
 rintro _ _ ⟨rfl, rfl⟩
 refine sx rfl (pAssign (v := (vI y3)) rfl rfl) ?_
 refine SeqW.done fun fr4 hf5 => ?_
 have h0 := (congrFun hf5 0).trans h0
 have h4 : fr4 4 = (vI y3) := (congrFun hf5 4).trans rfl
 clear hf5
 refine thenQ.n (W.seq (W.region ?_))
 refine sx rfl (pMove (v := (vI y3)) rfl h4) ?_
 refine sx rfl (pNeq (k := .i64) (a := y3) (b := 0) rfl rfl rfl) ?_
 refine SeqW.done fun fr6 hf7 => ?_
 have h0 := (congrFun hf7 0).trans h0
 have h4 := (congrFun hf7 4).trans h4
 have h8 : fr6 8 = (vB (y3 != 0)) := (congrFun hf7 8).trans rfl
 clear hf7
 refine thenQ.n ?_
 rcases if_some hr with ⟨hc8, hr⟩ | ⟨hc11, hr⟩
 ·refine W.condT h8 hc8 (W.seq (W.region ?_))
  refine sx rfl (pMove (v := (vI y3)) rfl h4) ?_
  refine sx rfl (pAssign (v := (vI 0)) rfl rfl) ?_
  refine sx rfl (pAssign (v := (vI y3)) rfl rfl) ?_
  refine SeqW.done fun fr9 hf10 => ?_
  have h2 : fr9 2 = (vI 0) := (congrFun hf10 2).trans rfl
  have h3 : fr9 3 = (vI y3) := (congrFun hf10 3).trans rfl
  clear hf10
  refine thenQ.n ?_
  refine W.ret ?_
  refine thenQ.r ?_
  obtain rfl := Option.some.inj hr
  exact ⟨z, hz, st, .inr rfl, h2, h3, trivial⟩
 ·refine W.condF h8 hc11 (W.skip ?_)
  refine thenQ.n (W.seq ?_)
  refine W.seq (W.region ?_)
  refine sx rfl (pMove (v := (str x0)) rfl h0) ?_
  obtain ⟨y12, hy12, hr⟩ := bind_some hr
  refine SeqW.consX rfl (kIndexS (s := x0) (n := 4) rfl Try.underlying9 rfl rfl hy12 ?_)
  refine SeqW.done fun fr13 hf14 => ?_
  have h11 : fr13 11 = (Value.int .u8 (UInt8.toNat y12 : Int)) := (congrFun hf14 11).trans rfl
  clear hf14
  refine thenQ.n ?_
  refine W.block ?_
  refine W.seq (W.seq (W.region ?_))
  refine sx rfl (pEql (k := .u8) (a := (UInt8.toNat y12 : Int)) (b := 55) rfl h11 rfl) ?_
  obtain ⟨y15, hy15, hr⟩ := lt_some hr
  refine sx rfl (pAssign rfl (congrArg vB hy15)) ?_
  refine SeqW.done fun fr16 hf17 => ?_
  have h11 := (congrFun hf17 11).trans h11
  have h12 : fr16 12 = (vB y15) := (congrFun hf17 12).trans rfl
  clear hf17
  refine thenQ.n ?_
  obtain ⟨y23, hy23, hr⟩ := bind_some hr
  refine W.keep (u_r02_Kind_0 (Zx.refl _) st h11 h12 hy23) ?_
  rintro ex29 fr24 m25 hk27 ⟨z26, hz28, st, rfl, h12, -⟩
  have h11 := (hk27 11 rfl).trans h11
  replace hz := hz.trans hz28
  clear hk27
  refine thenQ.n ?_
  rcases if_some hr with ⟨hc30, hr⟩ | ⟨hc33, hr⟩
  ·refine W.condT h12 hc30 (W.seq (W.region ?_))
   refine sx rfl (pAssign (v := (vI 1)) rfl rfl) ?_
   refine sx rfl (pAssign (v := (vI 0)) rfl rfl) ?_
   refine SeqW.done fun fr31 hf32 => ?_
   have h2 : fr31 2 = (vI 1) := (congrFun hf32 2).trans rfl
   have h3 : fr31 3 = (vI 0) := (congrFun hf32 3).trans rfl
   clear hf32
   refine thenQ.n ?_
   refine W.ret ?_
   refine blockQ.r ?_
   refine thenQ.r ?_
   obtain rfl := Option.some.inj hr
   exact ⟨z26, hz, st, .inr rfl, h2, h3, trivial⟩
  ·refine W.condF h12 hc33 (W.seq ?_)
   refine W.seq (W.region ?_)
   refine sx rfl (pEql (k := .u8) (a := (UInt8.toNat y12 : Int)) (b := 50) rfl h11 rfl) ?_
   obtain ⟨y34, hy34, hr⟩ := lt_some hr
   refine sx rfl (pAssign rfl (congrArg vB hy34)) ?_
   refine SeqW.done fun fr35 hf36 => ?_
   have h11 := (congrFun hf36 11).trans h11
   have h15 : fr35 15 = (vB y34) := (congrFun hf36 15).trans rfl
   clear hf36
   refine thenQ.n ?_
   obtain ⟨y42, hy42, hr⟩ := bind_some hr
   refine W.keep (u_r02_Kind_1 (Zx.refl _) st h11 h15 hy42) ?_
   rintro ex48 fr43 m44 hk46 ⟨z45, hz47, st, rfl, h15, -⟩
   have h11 := (hk46 11 rfl).trans h11
   replace hz := hz.trans hz47
   clear hk46
   refine thenQ.n ?_
   rcases if_some hr with ⟨hc49, hr⟩ | ⟨hc52, hr⟩
   ·refine W.condT h15 hc49 (W.seq (W.region ?_))
    refine sx rfl (pAssign (v := (vI 2)) rfl rfl) ?_
    refine sx rfl (pAssign (v := (vI 0)) rfl rfl) ?_
    refine SeqW.done fun fr50 hf51 => ?_
    have h2 : fr50 2 = (vI 2) := (congrFun hf51 2).trans rfl
    have h3 : fr50 3 = (vI 0) := (congrFun hf51 3).trans rfl
    clear hf51
    refine thenQ.n ?_
    refine W.ret ?_
    refine blockQ.r ?_
    refine thenQ.r ?_
    obtain rfl := Option.some.inj hr
    exact ⟨z45, hz, st, .inr rfl, h2, h3, trivial⟩
   ·refine W.condF h15 hc52 (W.seq (W.region ?_))
    refine sx rfl (pEql (k := .u8) (a := (UInt8.toNat y12 : Int)) (b := 57) rfl h11 rfl) ?_
    obtain ⟨y53, hy53, hr⟩ := lt_some hr
    refine sx rfl (pAssign rfl (congrArg vB hy53)) ?_
    refine SeqW.done fun fr54 hf55 => ?_
    have h18 : fr54 18 = (vB y53) := (congrFun hf55 18).trans rfl
    clear hf55
    refine thenQ.n ?_
    rcases if_some hr with ⟨hc56, hr⟩ | ⟨hc59, hr⟩
    ·refine W.condT h18 hc56 (W.seq (W.region ?_))
     refine sx rfl (pAssign (v := (vI 3)) rfl rfl) ?_
     refine sx rfl (pAssign (v := (vI 0)) rfl rfl) ?_
     refine SeqW.done fun fr57 hf58 => ?_
     have h2 : fr57 2 = (vI 3) := (congrFun hf58 2).trans rfl
     have h3 : fr57 3 = (vI 0) := (congrFun hf58 3).trans rfl
     clear hf58
     refine thenQ.n ?_
     refine W.ret ?_
     refine blockQ.r ?_
     refine thenQ.r ?_
     obtain rfl := Option.some.inj hr
     exact ⟨z45, hz, st, .inr rfl, h2, h3, trivial⟩
    ·refine W.condF h18 hc59 (W.skip ?_)
     refine blockQ.n ?_
     refine thenQ.n (W.seq (W.region ?_))
     refine sx rfl (pAssign (v := (vI 0)) rfl rfl) ?_
     refine sx rfl (pAssign (v := (vI 0)) rfl rfl) ?_
     refine SeqW.done fun fr60 hf61 => ?_
     have h2 : fr60 2 = (vI 0) := (congrFun hf61 2).trans rfl
     have h3 : fr60 3 = (vI 0) := (congrFun hf61 3).trans rfl
     clear hf61
     refine thenQ.n ?_
     refine W.ret ?_
     obtain rfl := Option.some.inj hr
     exact ⟨z45, hz, st, .inr rfl, h2, h3, trivial⟩

theorem c_r02_Kind {N : Nat} {z : Nat → Blk} {m : Mem} {x0 : List UInt8} (fz : Fz z m) (hd : ∀ b, m.next ≤ b → m.blk b = .dead)  {r : Int × Int} (hr : r02_Kind N x0 = some r) : CallW Try.prog 52 #[(str x0)] m fun v m' => v = (Value.tuple [(vI r.1), (vI r.2)].toArray) ∧ m' = m := by
 refine CallW.flat Try.func52 rfl (by kernel_rfl) (Nat.le_of_ble_eq_true rfl) rfl (z := z) (fun fr hf => ?_)
 have h0 : fr 0 = _ := hf 0 _ rfl
 refine (u_r02_Kind (k := none) (Zx.refl _) (St.start fz hd) h0 hr).mono ?_
 rintro ex fr' m' ⟨z', hz, st, he, h2, h3, -⟩
 exact ⟨he, z', st, [(vI r.1), (vI r.2)], ⟨h2.symm, h3.symm, trivial⟩, .inr (List.forall_mem_cons.2 ⟨rfl, List.forall_mem_cons.2 ⟨rfl, fun _ h => nomatch h⟩⟩), rfl⟩

/-! ### humpyard/humpyardref06.Name -/

theorem u_r06_Name_1 {N : Nat}  {z0 z : Nat → Blk} {e m : Mem} {k : Option Nat} {fr : Nat → Value} {x0 : List UInt8} {x3 : Int} (hz : Zx e.next z0 z) (st : St z e m k) (h0 : fr 0 = (str x0)) (h3 : fr 3 = (vI x3)) {r : Bool} (hr : r06_Name_1 N x0 x3 = some r) : W Try.prog (sub (bodyOf Try.f53) [1, 0, 1, 0, 0, 1, 0, 0, 0]) (fun ex fr' m' => ∃ z', Zx e.next z0 z' ∧ St z' e m' k ∧ ex = AExit.normal ∧ fr' 32 = (vB r) ∧ True) fr m := by
 unfold r06_Name_1 at hr
 refine W.region ?_
 refine sx rfl (pMove (v := (str x0)) rfl h0) ?_
 refine sx rfl (pMove (v := (vI x3)) rfl h3) ?_
 obtain ⟨y8, hy8, hr⟩ := bind_some hr
 refine SeqW.consX rfl (kIndexS (s := x0) (n := x3) rfl Try.underlying9 rfl rfl hy8 ?_)
 refine sx rfl (pGeq (k := .u8) (a := (UInt8.toNat y8 : Int)) (b := 97) rfl rfl rfl) ?_
 refine sx rfl (pMove (v := (vB (decide (97 ≤ (UInt8.toNat y8 : Int))))) rfl rfl) ?_
 rcases if_some hr with ⟨hc9, hr⟩ | ⟨hc23, hr⟩
 ·refine SeqW.consG rfl rfl rfl hc9 (StepX.pure (pMove (v := (str x0)) rfl h0) ?_)
  refine SeqW.consG rfl rfl rfl hc9 (StepX.pure (pMove (v := (vI x3)) rfl h3) ?_)
  obtain ⟨y10, hy10, hr⟩ := bind_some hr
  refine SeqW.consG rfl rfl rfl hc9 (kIndexS (s := x0) (n := x3) rfl Try.underlying9 rfl rfl hy10 ?_)
  refine SeqW.consG rfl rfl rfl hc9 (StepX.pure (pLeq (k := .u8) (a := (UInt8.toNat y10 : Int)) (b := 122) rfl rfl rfl) ?_)
  refine sx rfl (pPick (t := true) (v := (vB (decide ((UInt8.toNat y10 : Int) ≤ 122)))) rfl ((congrArg vB hc9)) rfl) ?_
  refine sx rfl (pMove (v := (vB (decide ((UInt8.toNat y10 : Int) ≤ 122)))) rfl rfl) ?_
  rcases if_some hr with ⟨hc11, hr⟩ | ⟨hc14, hr⟩
  ·refine kx rfl rfl rfl hc11 ?_
   iterate 4 refine kx rfl rfl rfl hc11 ?_
   refine SeqW.skipU rfl rfl rfl ?_
   refine SeqW.skipU rfl rfl rfl ?_
   refine SeqW.skipU rfl rfl rfl ?_
   refine SeqW.skipU rfl rfl rfl ?_
   refine kx rfl rfl rfl hc11 ?_
   refine sx rfl (pPick (t := true) (v := (vB true)) rfl ((congrArg vB hc11)) rfl) ?_
   refine sx rfl (pNot (b := true) rfl rfl) ?_
   refine SeqW.done fun fr12 hf13 => ?_
   have h0 := (congrFun hf13 0).trans h0
   have h3 := (congrFun hf13 3).trans h3
   have h32 : fr12 32 = (vB (!true)) := (congrFun hf13 32).trans rfl
   clear hf13
   obtain rfl := Option.some.inj hr
   exact ⟨z, hz, st, rfl, h32, trivial⟩
  ·refine SeqW.consG rfl rfl rfl hc14 (StepX.pure (pMove (v := (str x0)) rfl h0) ?_)
   refine SeqW.consG rfl rfl rfl hc14 (StepX.pure (pMove (v := (vI x3)) rfl h3) ?_)
   obtain ⟨y15, hy15, hr⟩ := bind_some hr
   refine SeqW.consG rfl rfl rfl hc14 (kIndexS (s := x0) (n := x3) rfl Try.underlying9 rfl rfl hy15 ?_)
   refine SeqW.consG rfl rfl rfl hc14 (StepX.pure (pGeq (k := .u8) (a := (UInt8.toNat y15 : Int)) (b := 48) rfl rfl rfl) ?_)
   refine SeqW.consG rfl rfl rfl hc14 (StepX.pure (pMove (v := (vB (decide (48 ≤ (UInt8.toNat y15 : Int))))) rfl rfl) ?_)
   rcases if_some hr with ⟨hc16, hr⟩ | ⟨hc20, hr⟩
   ·refine SeqW.consG rfl rfl rfl hc16 (StepX.pure (pMove (v := (str x0)) rfl h0) ?_)
    refine SeqW.consG rfl rfl rfl hc16 (StepX.pure (pMove (v := (vI x3)) rfl h3) ?_)
    obtain ⟨y17, hy17, hr⟩ := bind_some hr
    refine SeqW.consG rfl rfl rfl hc16 (kIndexS (s := x0) (n := x3) rfl Try.underlying9 rfl rfl hy17 ?_)
    refine SeqW.consG rfl rfl rfl hc16 (StepX.pure (pLeq (k := .u8) (a := (UInt8.toNat y17 : Int)) (b := 57) rfl rfl rfl) ?_)
    refine SeqW.consG rfl rfl rfl hc14 (StepX.pure (pPick (t := true) (v := (vB (decide ((UInt8.toNat y17 : Int) ≤ 57)))) rfl ((congrArg vB hc16)) rfl) ?_)
    refine sx rfl (pPick (t := false) (v := (vB (decide ((UInt8.toNat y17 : Int) ≤ 57)))) rfl ((congrArg vB hc14)) rfl) ?_
    refine sx rfl (pNot (b := (decide ((UInt8.toNat y17 : Int) ≤ 57))) rfl rfl) ?_
    refine SeqW.done fun fr18 hf19 => ?_
    have h0 := (congrFun hf19 0).trans h0
    have h3 := (congrFun hf19 3).trans h3
    have h32 : fr18 32 = (vB (!(decide ((UInt8.toNat y17 : Int) ≤ 57)))) := (congrFun hf19 32).trans rfl
    clear hf19
    obtain rfl := Option.some.inj hr
    exact ⟨z, hz, st, rfl, h32, trivial⟩
   ·refine kx rfl rfl rfl hc20 ?_
    iterate 3 refine kx rfl rfl rfl hc20 ?_
    refine SeqW.consG rfl rfl rfl hc14 (StepX.pure (pPick (t := false) (v := (vB false)) rfl ((congrArg vB hc20)) rfl) ?_)
    refine sx rfl (pPick (t := false) (v := (vB false)) rfl ((congrArg vB hc14)) rfl) ?_
    refine sx rfl (pNot (b := false) rfl rfl) ?_
    refine SeqW.done fun fr21 hf22 => ?_
    have h0 := (congrFun hf22 0).trans h0
    have h3 := (congrFun hf22 3).trans h3
    have h32 : fr21 32 = (vB (!false)) := (congrFun hf22 32).trans rfl
    clear hf22
    obtain rfl := Option.some.inj hr
    exact ⟨z, hz, st, rfl, h32, trivial⟩
 ·refine kx rfl rfl rfl hc23 ?_
  iterate 3 refine kx rfl rfl rfl hc23 ?_
  refine sx rfl (pPick (t := false) (v := (vB false)) rfl ((congrArg vB hc23)) rfl) ?_
  refine sx rfl (pMove (v := (vB false)) rfl rfl) ?_
  refine SeqW.consG rfl rfl rfl rfl (StepX.pure (pMove (v := (str x0)) rfl h0) ?_)
  refine SeqW.consG rfl rfl rfl rfl (StepX.pure (pMove (v := (vI x3)) rfl h3) ?_)
  obtain ⟨y24, hy24, hr⟩ := bind_some hr
  refine SeqW.consG rfl rfl rfl rfl (kIndexS (s := x0) (n := x3) rfl Try.underlying9 rfl rfl hy24 ?_)
  refine SeqW.consG rfl rfl rfl rfl (StepX.pure (pGeq (k := .u8) (a := (UInt8.toNat y24 : Int)) (b := 48) rfl rfl rfl) ?_)
  refine SeqW.consG rfl rfl rfl rfl (StepX.pure (pMove (v := (vB (decide (48 ≤ (UInt8.toNat y24 : Int))))) rfl rfl) ?_)
  rcases if_some hr with ⟨hc25, hr⟩ | ⟨hc29, hr⟩
  ·refine SeqW.consG rfl rfl rfl hc25 (StepX.pure (pMove (v := (str x0)) rfl h0) ?_)
   refine SeqW.consG rfl rfl rfl hc25 (StepX.pure (pMove (v := (vI x3)) rfl h3) ?_)
   obtain ⟨y26, hy26, hr⟩ := bind_some hr
   refine SeqW.consG rfl rfl rfl hc25 (kIndexS (s := x0) (n := x3) rfl Try.underlying9 rfl rfl hy26 ?_)
   refine SeqW.consG rfl rfl rfl hc25 (StepX.pure (pLeq (k := .u8) (a := (UInt8.toNat y26 : Int)) (b := 57) rfl rfl rfl) ?_)
   refine SeqW.consG rfl rfl rfl rfl (StepX.pure (pPick (t := true) (v := (vB (decide ((UInt8.toNat y26 : Int) ≤ 57)))) rfl ((congrArg vB hc25)) rfl) ?_)
   refine sx rfl (pPick (t := false) (v := (vB (decide ((UInt8.toNat y26 : Int) ≤ 57)))) rfl ((congrArg vB (rfl : false = false))) rfl) ?_
   refine sx rfl (pNot (b := (decide ((UInt8.toNat y26 : Int) ≤ 57))) rfl rfl) ?_
   refine SeqW.done fun fr27 hf28 => ?_
   have h0 := (congrFun hf28 0).trans h0
   have h3 := (congrFun hf28 3).trans h3
   have h32 : fr27 32 = (vB (!(decide ((UInt8.toNat y26 : Int) ≤ 57)))) := (congrFun hf28 32).trans rfl
   clear hf28
   obtain rfl := Option.some.inj hr
   exact ⟨z, hz, st, rfl, h32, trivial⟩
  ·refine kx rfl rfl rfl hc29 ?_
   iterate 3 refine kx rfl rfl rfl hc29 ?_
   refine SeqW.consG rfl rfl rfl rfl (StepX.pure (pPick (t := false) (v := (vB false)) rfl ((congrArg vB hc29)) rfl) ?_)
   refine sx rfl (pPick (t := false) (v := (vB false)) rfl ((congrArg vB (rfl : false = false))) rfl) ?_
   refine sx rfl (pNot (b := false) rfl rfl) ?_
   refine SeqW.done fun fr30 hf31 => ?_
   have h0 := (congrFun hf31 0).trans h0
   have h3 := (congrFun hf31 3).trans h3
   have h32 : fr30 32 = (vB (!false)) := (congrFun hf31 32).trans rfl
   clear hf31
   obtain rfl := Option.some.inj hr
   exact ⟨z, hz, st, rfl, h32, trivial⟩

theorem u_r06_Name_0 : ∀ (n : Nat) {N : Nat}  {z0 z : Nat → Blk} {e m : Mem} {k : Option Nat} {fr : Nat → Value} {x0 : List UInt8} {x3 : Int} (hz : Zx e.next z0 z) (st : St z e m k) (h0 : fr 0 = (str x0)) (h3 : fr 3 = (vI x3)) {r : Sum (Unit) (Bool)} (hr : r06_Name_0 N x0 n x3 = some r), W Try.prog (sub (bodyOf Try.f53) [1, 0, 1, 0]) (fun ex fr' m' => ∃ z', Zx e.next z0 z' ∧ St z' e m' k ∧ ((∃ q, r = Sum.inl q ∧ ex = AExit.exit 0 ∧ True) ∨ (∃ q, r = Sum.inr q ∧ ex = AExit.ret ∧ fr' 2 = (vB q) ∧ True))) fr m := by
 intro n
 induction n with
 | zero => intro N z0 z e m k fr x0 x3 hz st h0 h3 r hr; cases (show (none : Option _) = some r from hr)
 | succ n ih =>
  intro N z0 z e m k fr x0 x3 hz st h0 h3 r hr
  unfold r06_Name_0 at hr
  refine W.loop1 ?_
  refine W.seq (W.seq (W.region ?_))
  refine sx rfl (pMove (v := (vI x3)) rfl h3) ?_
  refine sx rfl (pMove (v := (str x0)) rfl h0) ?_
  refine sx rfl (pLenS (s := x0) rfl rfl Try.underlying9 rfl) ?_
  refine sx rfl (pLss (k := .i64) (a := x3) (b := (x0.length : Int)) rfl rfl rfl) ?_
  refine SeqW.done fun fr5 hf6 => ?_
  have h0 := (congrFun hf6 0).trans h0
  have h3 := (congrFun hf6 3).trans h3
  have h7 : fr5 7 = (vB (decide (x3 < (x0.length : Int)))) := (congrFun hf6 7).trans rfl
  clear hf6
  refine thenQ.n ?_
  rcases if_some hr with ⟨hc7, hr⟩ | ⟨hc46, hr⟩
  ·refine W.condT h7 hc7 (W.skip ?_)
   refine thenQ.n (W.seq ?_)
   refine W.block ?_
   refine W.seq ?_
   obtain ⟨y32, hy32, hr⟩ := bind_some hr
   refine W.keep (u_r06_Name_1 (Zx.refl _) st h0 h3 hy32) ?_
   rintro ex38 fr33 m34 hk36 ⟨z35, hz37, st, rfl, h32, -⟩
   have h0 := (hk36 0 rfl).trans h0
   have h3 := (hk36 3 rfl).trans h3
   replace hz := hz.trans hz37
   clear hk36
   refine thenQ.n ?_
   rcases if_some hr with ⟨hc39, hr⟩ | ⟨hc42, hr⟩
   ·refine W.condT h32 hc39 (W.seq (W.region ?_))
    refine sx rfl (pAssign (v := (vB false)) rfl rfl) ?_
    refine SeqW.done fun fr40 hf41 => ?_
    have h2 : fr40 2 = (vB false) := (congrFun hf41 2).trans rfl
    clear hf41
    refine thenQ.n ?_
    refine W.ret ?_
    refine blockQ.r ?_
    refine thenQ.r ?_
    refine thenQ.r ?_
    obtain rfl := Option.some.inj hr
    exact ⟨z35, hz, st, .inr ⟨_, rfl, rfl, h2, trivial⟩⟩
   ·refine W.condF h32 hc42 (W.skip ?_)
    refine blockQ.n ?_
    refine thenQ.n (W.region ?_)
    refine sx rfl (pMove (v := (vI x3)) rfl h3) ?_
    refine sx rfl (pAdd (k := .i64) (a := x3) (b := 1) rfl rfl rfl) ?_
    obtain ⟨y43, hy43, hr⟩ := lt_some hr
    refine sx rfl (pAssign rfl (congrArg (Value.int .i64) hy43)) ?_
    refine SeqW.done fun fr44 hf45 => ?_
    have h0 := (congrFun hf45 0).trans h0
    have h3 : fr44 3 = (vI y43) := (congrFun hf45 3).trans rfl
    clear hf45
    refine thenQ.n ?_
    exact ih hz st h0 h3 hr
  ·refine W.condF h7 hc46 ?_
   refine W.exit ?_
   refine thenQ.x ?_
   refine thenQ.x ?_
   obtain rfl := Option.some.inj hr
   exact ⟨z, hz, st, .inl ⟨_, rfl, rfl, trivial⟩⟩

theorem u_r06_Name_2 {N : Nat}  {z0 z : Nat → Blk} {e m : Mem} {k : Option Nat} {fr : Nat → Value} {x0 : List UInt8} (hz : Zx e.next z0 z) (st : St z e m k) (h0 : fr 0 = (str x0)) {r : Bool} (hr : r06_Name_2 N x0 = some r) : W Try.prog (sub (bodyOf Try.f53) [1, 1, 0]) (fun ex fr' m' => ∃ z', Zx e.next z0 z' ∧ St z' e m' k ∧ ex = AExit.normal ∧ fr' 2 = (vB r) ∧ True) fr m := by
 unfold r06_Name_2 at hr
 refine W.region ?_
 refine sx rfl (pMove (v := (str x0)) rfl h0) ?_
 refine sx rfl (pLenS (s := x0) rfl rfl Try.underlying9 rfl) ?_
 refine sx rfl (pGeq (k := .i64) (a := (x0.length : Int)) (b := 1) rfl rfl rfl) ?_
 refine sx rfl (pMove (v := (vB (decide (1 ≤ (x0.length : Int))))) rfl rfl) ?_
 rcases if_some hr with ⟨hc55, hr⟩ | ⟨hc59, hr⟩
 ·refine SeqW.consG rfl rfl rfl hc55 (StepX.pure (pMove (v := (str x0)) rfl h0) ?_)
  refine SeqW.consG rfl rfl rfl hc55 (StepX.pure (pLenS (s := x0) rfl rfl Try.underlying9 rfl) ?_)
  refine SeqW.consG rfl rfl rfl hc55 (StepX.pure (pLeq (k := .i64) (a := (x0.length : Int)) (b := 12) rfl rfl rfl) ?_)
  refine sx rfl (pPick (t := true) (v := (vB (decide ((x0.length : Int) ≤ 12)))) rfl ((congrArg vB hc55)) rfl) ?_
  obtain ⟨y56, hy56, hr⟩ := lt_some hr
  refine sx rfl (pAssign rfl (congrArg vB hy56)) ?_
  refine SeqW.done fun fr57 hf58 => ?_
  have h2 : fr57 2 = (vB y56) := (congrFun hf58 2).trans rfl
  clear hf58
  obtain rfl := Option.some.inj hr
  exact ⟨z, hz, st, rfl, h2, trivial⟩
 ·refine kx rfl rfl rfl hc59 ?_
  iterate 2 refine kx rfl rfl rfl hc59 ?_
  refine sx rfl (pPick (t := false) (v := (vB false)) rfl ((congrArg vB hc59)) rfl) ?_
  refine sx rfl (pAssign (v := (vB false)) rfl rfl) ?_
  refine SeqW.done fun fr60 hf61 => ?_
  have h2 : fr60 2 = (vB false) := (congrFun hf61 2).trans rfl
  clear hf61
  obtain rfl := Option.some.inj hr
  exact ⟨z, hz, st, rfl, h2, trivial⟩

theorem u_r06_Name {N : Nat}  {z0 z : Nat → Blk} {e m : Mem} {k : Option Nat} {fr : Nat → Value} {x0 : List UInt8} (hz : Zx e.next z0 z) (st : St z e m k) (h0 : fr 0 = (str x0)) {r : Bool} (hr : r06_Name N x0 = some r) : W Try.prog (sub (bodyOf Try.f53) []) (fun ex fr' m' => ∃ z', Zx e.next z0 z' ∧ St z' e m' k ∧ (ex = .normal ∨ ex = .ret) ∧ fr' 2 = (vB r) ∧ True) fr m := by
 unfold r06_Name at hr
 refine W.seq (W.region ?_)
 refine sx rfl (pAssign (v := (vB false)) rfl rfl) ?_
 refine SeqW.done fun fr1 hf2 => ?_
 have h0 := (congrFun hf2 0).trans h0
 clear hf2
 refine thenQ.n (W.seq ?_)
 refine W.seq (W.region ?_)
 refine sx rfl (pAssign (v := (vI 0)) rfl rfl) ?_
 refine SeqW.done fun fr3 hf4 => ?_
 have h0 := (congrFun hf4 0).trans h0
 have h3 : fr3 3 = (vI 0) := (congrFun hf4 3).trans rfl
 clear hf4
 refine thenQ.n ?_
 refine W.block ?_
 obtain ⟨y47, hy47, hr⟩ := bind_some hr
 refine W.keep (u_r06_Name_0 _ (Zx.refl _) st h0 h3 hy47) ?_
 rintro ex53 fr48 m49 hk51 ⟨z50, hz52, st, ⟨y54, rfl, rfl, -⟩ | ⟨y69, rfl, rfl, h2, -⟩⟩
 ·dsimp only at hr
  have h0 := (hk51 0 rfl).trans h0
  replace hz := hz.trans hz52
  clear hk51
  refine blockQ.hit ?_
  refine thenQ.n (W.seq ?_)
  obtain ⟨y62, hy62, hr⟩ := bind_some hr
  refine W.keep (u_r06_Name_2 (Zx.refl _) st h0 hy62) ?_
  rintro ex68 fr63 m64 hk66 ⟨z65, hz67, st, rfl, h2, -⟩
  replace hz := hz.trans hz67
  clear hk66
  refine thenQ.n ?_
  refine W.ret ?_
  obtain rfl := Option.some.inj hr
  exact ⟨z65, hz, st, .inr rfl, h2, trivial⟩
 ·dsimp only at hr
  replace hz := hz.trans hz52
  clear hk51
  refine blockQ.r ?_
  refine thenQ.r ?_
  obtain rfl := Option.some.inj hr
  exact ⟨z50, hz, st, .inr rfl, h2, trivial⟩

theorem c_r06_Name {N : Nat} {z : Nat → Blk} {m : Mem} {x0 : List UInt8} (fz : Fz z m) (hd : ∀ b, m.next ≤ b → m.blk b = .dead)  {r : Bool} (hr : r06_Name N x0 = some r) : CallW Try.prog 53 #[(str x0)] m fun v m' => v = (vB r) ∧ m' = m := by
 refine CallW.flat Try.func53 rfl (by kernel_rfl) (Nat.le_of_ble_eq_true rfl) rfl (z := z) (fun fr hf => ?_)
 have h0 : fr 0 = _ := hf 0 _ rfl
 refine (u_r06_Name (k := none) (Zx.refl _) (St.start fz hd) h0 hr).mono ?_
 rintro ex fr' m' ⟨z', hz, st, he, h2, -⟩
 exact ⟨he, z', st, [(vB r)], ⟨h2.symm, trivial⟩, .inl rfl, rfl⟩

end Go.W
