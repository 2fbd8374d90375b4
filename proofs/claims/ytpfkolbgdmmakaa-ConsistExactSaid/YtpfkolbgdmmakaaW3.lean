/- The models are what the program computes. -/
import Derived.Test.YtpfkolbgdmmakaaW2
set_option linter.unusedVariables false
set_option linter.unusedSimpArgs false
set_option maxRecDepth 100000
set_option maxHeartbeats 4000000
namespace Go.W
open Go.AM Go.Proofs


/-! ### humpyard/humpyardref06.Total -/

theorem u_r06_Total_0 : ∀ (n : Nat) {N : Nat}  {z0 z : Nat → Blk} {e m : Mem} {k : Option Nat} {fr : Nat → Value} {x0 : List Wagon} {x2 : Int} {x3 : Int} {x4 : Int} {x7 : Int} {v0 : Value} (hz : Zx e.next z0 z) (st : St z e m k) (h0 : fr 0 = v0) (s0 : SlR TWagon z x0 v0) (h2 : fr 2 = (vI x2)) (h3 : fr 3 = (vI x3)) (h4 : fr 4 = (vI x4)) (h7 : fr 7 = (vI x7)) {r : Int × Int × Int} (hr : r06_Total_0 N x0 n x2 x3 x4 x7 = some r), W Try.prog (sub (bodyOf Try.f38) [1, 1, 0, 1, 0]) (fun ex fr' m' => ∃ z', Zx e.next z0 z' ∧ St z' e m' k ∧ ex = AExit.exit 0 ∧ fr' 2 = (vI r.1) ∧ fr' 3 = (vI r.2.1) ∧ fr' 4 = (vI r.2.2) ∧ True) fr m := by
 intro n
 induction n with
 | zero => intro N z0 z e m k fr x0 x2 x3 x4 x7 v0 hz st h0 s0 h2 h3 h4 h7 r hr; cases (show (none : Option _) = some r from hr)
 | succ n ih =>
  intro N z0 z e m k fr x0 x2 x3 x4 x7 v0 hz st h0 s0 h2 h3 h4 h7 r hr
  unfold r06_Total_0 at hr
  refine W.loop1 ?_
  refine W.seq (W.seq (W.region ?_))
  refine sx rfl (pMove (v := (vI x7)) rfl h7) ?_
  refine sx rfl (pMove (v := v0) rfl h0) ?_
  refine sx rfl (pLenR (xs := x0) rfl Try.underlying24 rfl s0) ?_
  refine sx rfl (pLss (k := .i64) (a := x7) (b := (x0.length : Int)) rfl rfl rfl) ?_
  refine SeqW.done fun fr14 hf15 => ?_
  have h0 := (congrFun hf15 0).trans h0
  have h2 := (congrFun hf15 2).trans h2
  have h3 := (congrFun hf15 3).trans h3
  have h4 := (congrFun hf15 4).trans h4
  have h7 := (congrFun hf15 7).trans h7
  have h16 : fr14 16 = (vB (decide (x7 < (x0.length : Int)))) := (congrFun hf15 16).trans rfl
  clear hf15
  refine thenQ.n ?_
  rcases if_some hr with ⟨hc16, hr⟩ | ⟨hc47, hr⟩
  ·refine W.condT h16 hc16 (W.skip ?_)
   refine thenQ.n (W.seq ?_)
   refine W.block ?_
   refine W.seq (W.region ?_)
   refine sx rfl (pMove (v := (vI x2)) rfl h2) ?_
   refine sx rfl (pMove (v := v0) rfl h0) ?_
   refine sx rfl (pMove (v := (vI x7)) rfl h7) ?_
   obtain ⟨y17, hy17, hr⟩ := bind_some hr
   refine SeqW.consX rfl (kIdxR (T := TWagon) (xs := x0) (n := x7) rfl Try.underlying24 Try.type42 rfl rfl rfl s0 hy17 ?_)
   intro B18 f19 cs20 hd21 hc22
   obtain rfl := hd21
   refine SeqW.consX rfl (kField rfl Try.underlying42 rfl Try.type3 rfl rfl rfl ?_)
   refine SeqW.consX rfl (kLoad (v := (vI y17.length)) rfl Try.underlying3 rfl rfl (ldz_load st.fz (hc22 1 _ rfl)) ?_)
   refine sx rfl (pAdd (k := .i64) (a := x2) (b := y17.length) rfl rfl rfl) ?_
   obtain ⟨y23, hy23, hr⟩ := lt_some hr
   refine sx rfl (pAssign rfl (congrArg (Value.int .i64) hy23)) ?_
   refine SeqW.done fun fr24 hf25 => ?_
   have h0 := (congrFun hf25 0).trans h0
   have h2 : fr24 2 = (vI y23) := (congrFun hf25 2).trans rfl
   have h3 := (congrFun hf25 3).trans h3
   have h4 := (congrFun hf25 4).trans h4
   have h7 := (congrFun hf25 7).trans h7
   clear hf25
   refine thenQ.n (W.seq (W.region ?_))
   refine sx rfl (pMove (v := (vI x3)) rfl h3) ?_
   refine sx rfl (pMove (v := v0) rfl h0) ?_
   refine sx rfl (pMove (v := (vI x7)) rfl h7) ?_
   obtain ⟨y26, hy26, hr⟩ := bind_some hr
   refine SeqW.consX rfl (kIdxR (T := TWagon) (xs := x0) (n := x7) rfl Try.underlying24 Try.type42 rfl rfl rfl s0 hy26 ?_)
   intro B27 f28 cs29 hd30 hc31
   obtain rfl := hd30
   refine SeqW.consX rfl (kField rfl Try.underlying42 rfl Try.type3 rfl rfl rfl ?_)
   refine SeqW.consX rfl (kLoad (v := (vI y26.mass)) rfl Try.underlying3 rfl rfl (ldz_load st.fz (hc31 3 _ rfl)) ?_)
   refine sx rfl (pAdd (k := .i64) (a := x3) (b := y26.mass) rfl rfl rfl) ?_
   obtain ⟨y32, hy32, hr⟩ := lt_some hr
   refine sx rfl (pAssign rfl (congrArg (Value.int .i64) hy32)) ?_
   refine SeqW.done fun fr33 hf34 => ?_
   have h0 := (congrFun hf34 0).trans h0
   have h2 := (congrFun hf34 2).trans h2
   have h3 : fr33 3 = (vI y32) := (congrFun hf34 3).trans rfl
   have h4 := (congrFun hf34 4).trans h4
   have h7 := (congrFun hf34 7).trans h7
   clear hf34
   refine thenQ.n (W.region ?_)
   refine sx rfl (pMove (v := (vI x4)) rfl h4) ?_
   refine sx rfl (pMove (v := v0) rfl h0) ?_
   refine sx rfl (pMove (v := (vI x7)) rfl h7) ?_
   obtain ⟨y35, hy35, hr⟩ := bind_some hr
   refine SeqW.consX rfl (kIdxR (T := TWagon) (xs := x0) (n := x7) rfl Try.underlying24 Try.type42 rfl rfl rfl s0 hy35 ?_)
   intro B36 f37 cs38 hd39 hc40
   obtain rfl := hd39
   refine SeqW.consX rfl (kField rfl Try.underlying42 rfl Try.type3 rfl rfl rfl ?_)
   refine SeqW.consX rfl (kLoad (v := (vI y35.axles)) rfl Try.underlying3 rfl rfl (ldz_load st.fz (hc40 2 _ rfl)) ?_)
   refine sx rfl (pAdd (k := .i64) (a := x4) (b := y35.axles) rfl rfl rfl) ?_
   obtain ⟨y41, hy41, hr⟩ := lt_some hr
   refine sx rfl (pAssign rfl (congrArg (Value.int .i64) hy41)) ?_
   refine SeqW.done fun fr42 hf43 => ?_
   have h0 := (congrFun hf43 0).trans h0
   have h2 := (congrFun hf43 2).trans h2
   have h3 := (congrFun hf43 3).trans h3
   have h4 : fr42 4 = (vI y41) := (congrFun hf43 4).trans rfl
   have h7 := (congrFun hf43 7).trans h7
   clear hf43
   refine blockQ.n ?_
   refine thenQ.n (W.region ?_)
   refine sx rfl (pMove (v := (vI x7)) rfl h7) ?_
   refine sx rfl (pAdd (k := .i64) (a := x7) (b := 1) rfl rfl rfl) ?_
   obtain ⟨y44, hy44, hr⟩ := lt_some hr
   refine sx rfl (pAssign rfl (congrArg (Value.int .i64) hy44)) ?_
   refine SeqW.done fun fr45 hf46 => ?_
   have h0 := (congrFun hf46 0).trans h0
   have h2 := (congrFun hf46 2).trans h2
   have h3 := (congrFun hf46 3).trans h3
   have h4 := (congrFun hf46 4).trans h4
   have h7 : fr45 7 = (vI y44) := (congrFun hf46 7).trans rfl
   clear hf46
   refine thenQ.n ?_
   exact ih hz st h0 s0 h2 h3 h4 h7 hr
  ·refine W.condF h16 hc47 ?_
   refine W.exit ?_
   refine thenQ.x ?_
   refine thenQ.x ?_
   obtain rfl := Option.some.inj hr
   exact ⟨z, hz, st, rfl, h2, h3, h4, trivial⟩

theorem u_r06_Total {N : Nat}  {z0 z : Nat → Blk} {e m : Mem} {k : Option Nat} {fr : Nat → Value} {x0 : List Wagon} {v0 : Value} (hz : Zx e.next z0 z) (st : St z e m k) (h0 : fr 0 = v0) (s0 : SlR TWagon z x0 v0) {r : Int × Int × Int × Int} (hr : r06_Total N x0 = some r) : W Try.prog (sub (bodyOf Try.f38) []) (fun ex fr' m' => ∃ z', Zx e.next z0 z' ∧ St z' e m' k ∧ (ex = .normal ∨ ex = .ret) ∧ fr' 2 = (vI r.1) ∧ fr' 3 = (vI r.2.1) ∧ fr' 4 = (vI r.2.2.1) ∧ fr' 5 = (vI r.2.2.2) ∧ True) fr m := by
 unfold r06_Total at hr
 refine W.seq (W.region ?_)
 refine sx rfl (pAssign (v := (vI 0)) rfl rfl) ?_
 refine sx rfl (pAssign (v := (vI 0)) rfl rfl) ?_
 refine sx rfl (pAssign (v := (vI 0)) rfl rfl) ?_
 refine sx rfl (pAssign (v := (vI 0)) rfl rfl) ?_
 refine SeqW.done fun fr1 hf2 => ?_
 have h0 := (congrFun hf2 0).trans h0
 have h2 : fr1 2 = (vI 0) := (congrFun hf2 2).trans rfl
 have h3 : fr1 3 = (vI 0) := (congrFun hf2 3).trans rfl
 have h4 : fr1 4 = (vI 0) := (congrFun hf2 4).trans rfl
 clear hf2
 refine thenQ.n (W.seq ?_)
 refine W.seq (W.region ?_)
 refine sx rfl (pMove (v := v0) rfl h0) ?_
 obtain ⟨y3, hy3, hr⟩ := bind_some hr
 refine SeqW.consX rfl (StepX.call (gCallee rfl rfl (args1 rfl)) ((c_r06_ValidList (z := z) st.fz st.dead s0 hy3).mono ?_))
 rintro _ _ ⟨rfl, rfl⟩
 refine sx rfl (pAssign (v := (vI y3)) rfl rfl) ?_
 refine SeqW.done fun fr4 hf5 => ?_
 have h0 := (congrFun hf5 0).trans h0
 have h2 := (congrFun hf5 2).trans h2
 have h3 := (congrFun hf5 3).trans h3
 have h4 := (congrFun hf5 4).trans h4
 have h6 : fr4 6 = (vI y3) := (congrFun hf5 6).trans rfl
 clear hf5
 refine thenQ.n (W.seq (W.region ?_))
 refine sx rfl (pMove (v := (vI y3)) rfl h6) ?_
 refine sx rfl (pNeq (k := .i64) (a := y3) (b := 0) rfl rfl rfl) ?_
 refine SeqW.done fun fr6 hf7 => ?_
 have h0 := (congrFun hf7 0).trans h0
 have h2 := (congrFun hf7 2).trans h2
 have h3 := (congrFun hf7 3).trans h3
 have h4 := (congrFun hf7 4).trans h4
 have h6 := (congrFun hf7 6).trans h6
 have h11 : fr6 11 = (vB (y3 != 0)) := (congrFun hf7 11).trans rfl
 clear hf7
 refine thenQ.n ?_
 rcases if_some hr with ⟨hc8, hr⟩ | ⟨hc11, hr⟩
 ·refine W.condT h11 hc8 (W.seq (W.region ?_))
  refine sx rfl (pMove (v := (vI y3)) rfl h6) ?_
  refine sx rfl (pAssign (v := (vI 0)) rfl rfl) ?_
  refine sx rfl (pAssign (v := (vI 0)) rfl rfl) ?_
  refine sx rfl (pAssign (v := (vI 0)) rfl rfl) ?_
  refine sx rfl (pAssign (v := (vI y3)) rfl rfl) ?_
  refine SeqW.done fun fr9 hf10 => ?_
  have h2 : fr9 2 = (vI 0) := (congrFun hf10 2).trans rfl
  have h3 : fr9 3 = (vI 0) := (congrFun hf10 3).trans rfl
  have h4 : fr9 4 = (vI 0) := (congrFun hf10 4).trans rfl
  have h5 : fr9 5 = (vI y3) := (congrFun hf10 5).trans rfl
  clear hf10
  refine thenQ.n ?_
  refine W.ret ?_
  refine thenQ.r ?_
  obtain rfl := Option.some.inj hr
  exact ⟨z, hz, st, .inr rfl, h2, h3, h4, h5, trivial⟩
 ·refine W.condF h11 hc11 (W.skip ?_)
  refine thenQ.n (W.seq ?_)
  refine W.seq (W.region ?_)
  refine sx rfl (pAssign (v := (vI 0)) rfl rfl) ?_
  refine SeqW.done fun fr12 hf13 => ?_
  have h0 := (congrFun hf13 0).trans h0
  have h2 := (congrFun hf13 2).trans h2
  have h3 := (congrFun hf13 3).trans h3
  have h4 := (congrFun hf13 4).trans h4
  have h7 : fr12 7 = (vI 0) := (congrFun hf13 7).trans rfl
  clear hf13
  refine thenQ.n ?_
  refine W.block ?_
  obtain ⟨y48, hy48, hr⟩ := bind_some hr
  refine W.keep (u_r06_Total_0 _ (Zx.refl _) st h0 s0 h2 h3 h4 h7 hy48) ?_
  rintro ex54 fr49 m50 hk52 ⟨z51, hz53, st, rfl, h2, h3, h4, -⟩
  replace hz := hz.trans hz53
  clear hk52
  refine blockQ.hit ?_
  refine thenQ.n (W.seq (W.region ?_))
  refine sx rfl (pMove (v := (vI y48.1)) rfl h2) ?_
  refine sx rfl (pMove (v := (vI y48.2.1)) rfl h3) ?_
  refine sx rfl (pMove (v := (vI y48.2.2)) rfl h4) ?_
  refine sx rfl (pAssign (v := (vI y48.1)) rfl rfl) ?_
  refine sx rfl (pAssign (v := (vI y48.2.1)) rfl rfl) ?_
  refine sx rfl (pAssign (v := (vI y48.2.2)) rfl rfl) ?_
  refine sx rfl (pAssign (v := (vI 0)) rfl rfl) ?_
  refine SeqW.done fun fr55 hf56 => ?_
  have h2 : fr55 2 = (vI y48.1) := (congrFun hf56 2).trans rfl
  have h3 : fr55 3 = (vI y48.2.1) := (congrFun hf56 3).trans rfl
  have h4 : fr55 4 = (vI y48.2.2) := (congrFun hf56 4).trans rfl
  have h5 : fr55 5 = (vI 0) := (congrFun hf56 5).trans rfl
  clear hf56
  refine thenQ.n ?_
  refine W.ret ?_
  obtain rfl := Option.some.inj hr
  exact ⟨z51, hz, st, .inr rfl, h2, h3, h4, h5, trivial⟩

theorem c_r06_Total {N : Nat} {z : Nat → Blk} {m : Mem} {x0 : List Wagon} {v0 : Value} (fz : Fz z m) (hd : ∀ b, m.next ≤ b → m.blk b = .dead) (s0 : SlR TWagon z x0 v0) {r : Int × Int × Int × Int} (hr : r06_Total N x0 = some r) : CallW Try.prog 38 #[v0] m fun v m' => v = (Value.tuple [(vI r.1), (vI r.2.1), (vI r.2.2.1), (vI r.2.2.2)].toArray) ∧ m' = m := by
 refine CallW.flat Try.func38 rfl (by kernel_rfl) (Nat.le_of_ble_eq_true rfl) rfl (z := z) (fun fr hf => ?_)
 have h0 : fr 0 = _ := hf 0 _ rfl
 refine (u_r06_Total (k := none) (Zx.refl _) (St.start fz hd) h0 s0 hr).mono ?_
 rintro ex fr' m' ⟨z', hz, st, he, h2, h3, h4, h5, -⟩
 exact ⟨he, z', st, [(vI r.1), (vI r.2.1), (vI r.2.2.1), (vI r.2.2.2)], ⟨h2.symm, h3.symm, h4.symm, h5.symm, trivial⟩, .inr (List.forall_mem_cons.2 ⟨rfl, List.forall_mem_cons.2 ⟨rfl, List.forall_mem_cons.2 ⟨rfl, List.forall_mem_cons.2 ⟨rfl, fun _ h => nomatch h⟩⟩⟩⟩), rfl⟩

/-! ### humpyard/humpyardlaw06.writes -/

theorem u_l06_writes_0 : ∀ (n : Nat) {N : Nat}  {z0 z : Nat → Blk} {e m : Mem} {k : Option Nat} {fr : Nat → Value} {x0 : List Wagon} {x15 : Int} {v0 : Value} (hz : Zx e.next z0 z) (st : St z e m k) (h0 : fr 0 = v0) (s0 : SlR TWagon z x0 v0) (h15 : fr 15 = (vI x15)) {r : Sum (Unit) (Bool)} (hr : l06_writes_0 N x0 n x15 = some r), W Try.prog (sub (bodyOf Try.f22) [1, 1, 1, 1, 1, 0, 1, 0]) (fun ex fr' m' => ∃ z', Zx e.next z0 z' ∧ St z' e m' k ∧ ((∃ q, r = Sum.inl q ∧ ex = AExit.exit 0 ∧ True) ∨ (∃ q, r = Sum.inr q ∧ ex = AExit.ret ∧ fr' 2 = (vB q) ∧ True))) fr m := by
 intro n
 induction n with
 | zero => intro N z0 z e m k fr x0 x15 v0 hz st h0 s0 h15 r hr; cases (show (none : Option _) = some r from hr)
 | succ n ih =>
  intro N z0 z e m k fr x0 x15 v0 hz st h0 s0 h15 r hr
  unfold l06_writes_0 at hr
  refine W.loop1 ?_
  refine W.seq (W.seq (W.region ?_))
  refine sx rfl (pMove (v := (vI x15)) rfl h15) ?_
  refine sx rfl (pMove (v := v0) rfl h0) ?_
  refine sx rfl (pLenR (xs := x0) rfl Try.underlying24 rfl s0) ?_
  refine sx rfl (pLss (k := .i64) (a := x15) (b := (x0.length : Int)) rfl rfl rfl) ?_
  refine SeqW.done fun fr33 hf34 => ?_
  have h0 := (congrFun hf34 0).trans h0
  have h15 := (congrFun hf34 15).trans h15
  have h43 : fr33 43 = (vB (decide (x15 < (x0.length : Int)))) := (congrFun hf34 43).trans rfl
  clear hf34
  refine thenQ.n ?_
  rcases if_some hr with ⟨hc35, hr⟩ | ⟨hc61, hr⟩
  ·refine W.condT h43 hc35 (W.skip ?_)
   refine thenQ.n (W.seq ?_)
   refine W.block ?_
   refine W.seq ?_
   refine W.draw ?_
   refine DrawW.cons rfl (StepX.pure (pMove (v := v0) rfl h0) ?_)
   refine ⟨trivial, ?_⟩
   refine DrawW.cons rfl (StepX.pure (pMove (v := (vI x15)) rfl h15) ?_)
   refine ⟨trivial, ?_⟩
   obtain ⟨y36, hy36, hr⟩ := bind_some hr
   refine DrawW.cons rfl (kIdxR (T := TWagon) (xs := x0) (n := x15) rfl Try.underlying24 Try.type42 rfl rfl rfl s0 hy36 ?_)
   intro B37 f38 cs39 hd40 hc41
   obtain rfl := hd40
   refine ⟨trivial, ?_⟩
   refine DrawW.cons rfl (kLoadA rfl Try.underlying42 rfl Try.type42 rfl rfl (st.loads hc41) ?_)
   refine ⟨?_, ?_⟩
   ·exact demN
   have sto42 := st
   obtain ⟨y43, hy43, hr⟩ := bind_some hr
   refine DrawW.cons rfl (StepX.call (gCallee rfl rfl (args1 rfl)) ((c_consist_Valid (x0 := y36) (z := z) st.fz st.dead  hy43).mono ?_))
   rintro _ _ ⟨rfl, rfl⟩
   refine ⟨⟨?_, ?_⟩, ?_⟩
   ·first | refine demP (gLoadA rfl Try.underlying42 rfl Try.type42 rfl rfl (st.loads hc41)) ?_ | refine demA (by decide) ?_
    exact demN
   ·exact demN
   refine DrawW.cons rfl (StepX.pure (pMove (v := v0) rfl h0) ?_)
   refine ⟨trivial, ?_⟩
   refine DrawW.cons rfl (StepX.pure (pMove (v := (vI x15)) rfl h15) ?_)
   refine ⟨trivial, ?_⟩
   obtain ⟨y44, hy44, hr⟩ := bind_some hr
   refine DrawW.cons rfl (kIdxR (T := TWagon) (xs := x0) (n := x15) rfl Try.underlying24 Try.type42 rfl rfl rfl s0 hy44 ?_)
   intro B45 f46 cs47 hd48 hc49
   obtain rfl := hd48
   refine ⟨trivial, ?_⟩
   refine DrawW.cons rfl (kLoadA rfl Try.underlying42 rfl Try.type42 rfl rfl (st.loads hc49) ?_)
   refine ⟨?_, ?_⟩
   ·first | refine demP (gLoadA rfl Try.underlying42 rfl Try.type42 rfl rfl (sto42.loads hc49)) ?_ | refine demA (by decide) ?_
    exact demN
   have sto50 := st
   obtain ⟨y51, hy51, hr⟩ := bind_some hr
   refine DrawW.cons rfl (StepX.call (gCallee rfl rfl (args1 rfl)) ((c_r06_Valid (x0 := y44) (z := z) st.fz st.dead  hy51).mono ?_))
   rintro _ _ ⟨rfl, rfl⟩
   refine ⟨⟨?_, ?_⟩, ?_⟩
   ·first | refine demP (gLoadA rfl Try.underlying42 rfl Try.type42 rfl rfl (st.loads hc49)) ?_ | refine demA (by decide) ?_
    first | refine demP (gLoadA rfl Try.underlying42 rfl Try.type42 rfl rfl (st.loads hc41)) ?_ | refine demA (by decide) ?_
    exact demN
   ·exact demN
   refine DrawW.cons rfl (StepX.pure (pNeq (k := .i64) (a := y43) (b := y51) rfl rfl rfl) ?_)
   refine ⟨trivial, ?_⟩
   refine DrawW.done fun fr52 hf53 => ?_
   have h0 := (congrFun hf53 0).trans h0
   have h15 := (congrFun hf53 15).trans h15
   have h56 : fr52 56 = (vB (y43 != y51)) := (congrFun hf53 56).trans rfl
   clear hf53
   refine thenQ.n ?_
   rcases if_some hr with ⟨hc54, hr⟩ | ⟨hc57, hr⟩
   ·refine W.condT h56 hc54 (W.seq (W.region ?_))
    refine sx rfl (pAssign (v := (vB false)) rfl rfl) ?_
    refine SeqW.done fun fr55 hf56 => ?_
    have h2 : fr55 2 = (vB false) := (congrFun hf56 2).trans rfl
    clear hf56
    refine thenQ.n ?_
    refine W.ret ?_
    refine blockQ.r ?_
    refine thenQ.r ?_
    refine thenQ.r ?_
    obtain rfl := Option.some.inj hr
    exact ⟨z, hz, st, .inr ⟨_, rfl, rfl, h2, trivial⟩⟩
   ·refine W.condF h56 hc57 (W.skip ?_)
    refine blockQ.n ?_
    refine thenQ.n (W.region ?_)
    refine sx rfl (pMove (v := (vI x15)) rfl h15) ?_
    refine sx rfl (pAdd (k := .i64) (a := x15) (b := 1) rfl rfl rfl) ?_
    obtain ⟨y58, hy58, hr⟩ := lt_some hr
    refine sx rfl (pAssign rfl (congrArg (Value.int .i64) hy58)) ?_
    refine SeqW.done fun fr59 hf60 => ?_
    have h0 := (congrFun hf60 0).trans h0
    have h15 : fr59 15 = (vI y58) := (congrFun hf60 15).trans rfl
    clear hf60
    refine thenQ.n ?_
    exact ih hz st h0 s0 h15 hr
  ·refine W.condF h43 hc61 ?_
   refine W.exit ?_
   refine thenQ.x ?_
   refine thenQ.x ?_
   obtain rfl := Option.some.inj hr
   exact ⟨z, hz, st, .inl ⟨_, rfl, rfl, trivial⟩⟩

theorem u_l06_writes_1 {N : Nat}  {z0 z : Nat → Blk} {e m : Mem} {k : Option Nat} {fr : Nat → Value} {x3 : List UInt8} {x4 : Int} {x5 : List UInt8} {x6 : Int} {x7 : Int} {x8 : Int} {x9 : Int} {x10 : Int} {x11 : Int} {x12 : Int} {x13 : Int} {x14 : Int} {v3 : Value} {v5 : Value} (hz : Zx e.next z0 z) (st : St z e m k) (h3 : fr 3 = v3) (s3 : SlR (TU8 5) z x3 v3) (h4 : fr 4 = (vI x4)) (h5 : fr 5 = v5) (s5 : SlR (TU8 5) z x5 v5) (h6 : fr 6 = (vI x6)) (h7 : fr 7 = (vI x7)) (h8 : fr 8 = (vI x8)) (h9 : fr 9 = (vI x9)) (h10 : fr 10 = (vI x10)) (h11 : fr 11 = (vI x11)) (h12 : fr 12 = (vI x12)) (h13 : fr 13 = (vI x13)) (h14 : fr 14 = (vI x14)) {r : Bool} (hr : l06_writes_1 N x3 x4 x5 x6 x7 x8 x9 x10 x11 x12 x13 x14 = some r) : W Try.prog (sub (bodyOf Try.f22) [1, 1, 1, 1, 1, 1, 0]) (fun ex fr' m' => ∃ z', Zx e.next z0 z' ∧ St z' e m' k ∧ ex = AExit.normal ∧ fr' 2 = (vB r) ∧ True) fr m := by
 unfold l06_writes_1 at hr
 refine W.region ?_
 refine sx rfl (pMove (v := v3) rfl h3) ?_
 refine sx rfl (pMove (v := v5) rfl h5) ?_
 obtain ⟨y70, hy70, hr⟩ := bind_some hr
 refine SeqW.consX rfl (StepX.call (gCallee rfl rfl (args2 rfl rfl)) ((c_gen_Bytes (z := z) st.fz st.dead s3 s5 hy70).mono ?_))
 rintro _ _ ⟨rfl, rfl⟩
 refine sx rfl (pMove (v := (vB y70)) rfl rfl) ?_
 rcases if_some hr with ⟨hc71, hr⟩ | ⟨hc91, hr⟩
 ·refine SeqW.consG rfl rfl rfl hc71 (StepX.pure (pMove (v := (vI x4)) rfl h4) ?_)
  refine SeqW.consG rfl rfl rfl hc71 (StepX.pure (pMove (v := (vI x6)) rfl h6) ?_)
  refine SeqW.consG rfl rfl rfl hc71 (StepX.pure (pEql (k := .i64) (a := x4) (b := x6) rfl rfl rfl) ?_)
  refine sx rfl (pPick (t := true) (v := (vB (x4 == x6))) rfl ((congrArg vB hc71)) rfl) ?_
  refine sx rfl (pMove (v := (vB (x4 == x6))) rfl rfl) ?_
  rcases if_some hr with ⟨hc72, hr⟩ | ⟨hc88, hr⟩
  ·refine SeqW.consG rfl rfl rfl hc72 (StepX.pure (pMove (v := (vI x7)) rfl h7) ?_)
   refine SeqW.consG rfl rfl rfl hc72 (StepX.pure (pMove (v := (vI x11)) rfl h11) ?_)
   refine SeqW.consG rfl rfl rfl hc72 (StepX.pure (pEql (k := .i64) (a := x7) (b := x11) rfl rfl rfl) ?_)
   refine sx rfl (pPick (t := true) (v := (vB (x7 == x11))) rfl ((congrArg vB hc72)) rfl) ?_
   refine sx rfl (pMove (v := (vB (x7 == x11))) rfl rfl) ?_
   rcases if_some hr with ⟨hc73, hr⟩ | ⟨hc85, hr⟩
   ·refine SeqW.consG rfl rfl rfl hc73 (StepX.pure (pMove (v := (vI x8)) rfl h8) ?_)
    refine SeqW.consG rfl rfl rfl hc73 (StepX.pure (pMove (v := (vI x12)) rfl h12) ?_)
    refine SeqW.consG rfl rfl rfl hc73 (StepX.pure (pEql (k := .i64) (a := x8) (b := x12) rfl rfl rfl) ?_)
    refine sx rfl (pPick (t := true) (v := (vB (x8 == x12))) rfl ((congrArg vB hc73)) rfl) ?_
    refine sx rfl (pMove (v := (vB (x8 == x12))) rfl rfl) ?_
    rcases if_some hr with ⟨hc74, hr⟩ | ⟨hc82, hr⟩
    ·refine SeqW.consG rfl rfl rfl hc74 (StepX.pure (pMove (v := (vI x9)) rfl h9) ?_)
     refine SeqW.consG rfl rfl rfl hc74 (StepX.pure (pMove (v := (vI x13)) rfl h13) ?_)
     refine SeqW.consG rfl rfl rfl hc74 (StepX.pure (pEql (k := .i64) (a := x9) (b := x13) rfl rfl rfl) ?_)
     refine sx rfl (pPick (t := true) (v := (vB (x9 == x13))) rfl ((congrArg vB hc74)) rfl) ?_
     refine sx rfl (pMove (v := (vB (x9 == x13))) rfl rfl) ?_
     rcases if_some hr with ⟨hc75, hr⟩ | ⟨hc79, hr⟩
     ·refine SeqW.consG rfl rfl rfl hc75 (StepX.pure (pMove (v := (vI x10)) rfl h10) ?_)
      refine SeqW.consG rfl rfl rfl hc75 (StepX.pure (pMove (v := (vI x14)) rfl h14) ?_)
      refine SeqW.consG rfl rfl rfl hc75 (StepX.pure (pEql (k := .i64) (a := x10) (b := x14) rfl rfl rfl) ?_)
      refine sx rfl (pPick (t := true) (v := (vB (x10 == x14))) rfl ((congrArg vB hc75)) rfl) ?_
      obtain ⟨y76, hy76, hr⟩ := lt_some hr
      refine sx rfl (pAssign rfl (congrArg vB hy76)) ?_
      refine SeqW.done fun fr77 hf78 => ?_
      have h2 : fr77 2 = (vB y76) := (congrFun hf78 2).trans rfl
      clear hf78
      obtain rfl := Option.some.inj hr
      exact ⟨z, hz, st, rfl, h2, trivial⟩
     ·refine kx rfl rfl rfl hc79 ?_
      iterate 2 refine kx rfl rfl rfl hc79 ?_
      refine sx rfl (pPick (t := false) (v := (vB false)) rfl ((congrArg vB hc79)) rfl) ?_
      refine sx rfl (pAssign (v := (vB false)) rfl rfl) ?_
      refine SeqW.done fun fr80 hf81 => ?_
      have h2 : fr80 2 = (vB false) := (congrFun hf81 2).trans rfl
      clear hf81
      obtain rfl := Option.some.inj hr
      exact ⟨z, hz, st, rfl, h2, trivial⟩
    ·refine kx rfl rfl rfl hc82 ?_
     iterate 2 refine kx rfl rfl rfl hc82 ?_
     refine sx rfl (pPick (t := false) (v := (vB false)) rfl ((congrArg vB hc82)) rfl) ?_
     refine sx rfl (pMove (v := (vB false)) rfl rfl) ?_
     iterate 3 refine kx rfl rfl rfl rfl ?_
     refine sx rfl (pPick (t := false) (v := (vB false)) rfl ((congrArg vB (rfl : false = false))) rfl) ?_
     refine sx rfl (pAssign (v := (vB false)) rfl rfl) ?_
     refine SeqW.done fun fr83 hf84 => ?_
     have h2 : fr83 2 = (vB false) := (congrFun hf84 2).trans rfl
     clear hf84
     obtain rfl := Option.some.inj hr
     exact ⟨z, hz, st, rfl, h2, trivial⟩
   ·refine kx rfl rfl rfl hc85 ?_
    iterate 2 refine kx rfl rfl rfl hc85 ?_
    refine sx rfl (pPick (t := false) (v := (vB false)) rfl ((congrArg vB hc85)) rfl) ?_
    refine sx rfl (pMove (v := (vB false)) rfl rfl) ?_
    iterate 3 refine kx rfl rfl rfl rfl ?_
    refine sx rfl (pPick (t := false) (v := (vB false)) rfl ((congrArg vB (rfl : false = false))) rfl) ?_
    refine sx rfl (pMove (v := (vB false)) rfl rfl) ?_
    iterate 3 refine kx rfl rfl rfl rfl ?_
    refine sx rfl (pPick (t := false) (v := (vB false)) rfl ((congrArg vB (rfl : false = false))) rfl) ?_
    refine sx rfl (pAssign (v := (vB false)) rfl rfl) ?_
    refine SeqW.done fun fr86 hf87 => ?_
    have h2 : fr86 2 = (vB false) := (congrFun hf87 2).trans rfl
    clear hf87
    obtain rfl := Option.some.inj hr
    exact ⟨z, hz, st, rfl, h2, trivial⟩
  ·refine kx rfl rfl rfl hc88 ?_
   iterate 2 refine kx rfl rfl rfl hc88 ?_
   refine sx rfl (pPick (t := false) (v := (vB false)) rfl ((congrArg vB hc88)) rfl) ?_
   refine sx rfl (pMove (v := (vB false)) rfl rfl) ?_
   iterate 3 refine kx rfl rfl rfl rfl ?_
   refine sx rfl (pPick (t := false) (v := (vB false)) rfl ((congrArg vB (rfl : false = false))) rfl) ?_
   refine sx rfl (pMove (v := (vB false)) rfl rfl) ?_
   iterate 3 refine kx rfl rfl rfl rfl ?_
   refine sx rfl (pPick (t := false) (v := (vB false)) rfl ((congrArg vB (rfl : false = false))) rfl) ?_
   refine sx rfl (pMove (v := (vB false)) rfl rfl) ?_
   iterate 3 refine kx rfl rfl rfl rfl ?_
   refine sx rfl (pPick (t := false) (v := (vB false)) rfl ((congrArg vB (rfl : false = false))) rfl) ?_
   refine sx rfl (pAssign (v := (vB false)) rfl rfl) ?_
   refine SeqW.done fun fr89 hf90 => ?_
   have h2 : fr89 2 = (vB false) := (congrFun hf90 2).trans rfl
   clear hf90
   obtain rfl := Option.some.inj hr
   exact ⟨z, hz, st, rfl, h2, trivial⟩
 ·refine kx rfl rfl rfl hc91 ?_
  iterate 2 refine kx rfl rfl rfl hc91 ?_
  refine sx rfl (pPick (t := false) (v := (vB false)) rfl ((congrArg vB hc91)) rfl) ?_
  refine sx rfl (pMove (v := (vB false)) rfl rfl) ?_
  iterate 3 refine kx rfl rfl rfl rfl ?_
  refine sx rfl (pPick (t := false) (v := (vB false)) rfl ((congrArg vB (rfl : false = false))) rfl) ?_
  refine sx rfl (pMove (v := (vB false)) rfl rfl) ?_
  iterate 3 refine kx rfl rfl rfl rfl ?_
  refine sx rfl (pPick (t := false) (v := (vB false)) rfl ((congrArg vB (rfl : false = false))) rfl) ?_
  refine sx rfl (pMove (v := (vB false)) rfl rfl) ?_
  iterate 3 refine kx rfl rfl rfl rfl ?_
  refine sx rfl (pPick (t := false) (v := (vB false)) rfl ((congrArg vB (rfl : false = false))) rfl) ?_
  refine sx rfl (pMove (v := (vB false)) rfl rfl) ?_
  iterate 3 refine kx rfl rfl rfl rfl ?_
  refine sx rfl (pPick (t := false) (v := (vB false)) rfl ((congrArg vB (rfl : false = false))) rfl) ?_
  refine sx rfl (pAssign (v := (vB false)) rfl rfl) ?_
  refine SeqW.done fun fr92 hf93 => ?_
  have h2 : fr92 2 = (vB false) := (congrFun hf93 2).trans rfl
  clear hf93
  obtain rfl := Option.some.inj hr
  exact ⟨z, hz, st, rfl, h2, trivial⟩

theorem u_l06_writes {N : Nat}  {z0 z : Nat → Blk} {e m : Mem} {k : Option Nat} {fr : Nat → Value} {x0 : List Wagon} {v0 : Value} (hz : Zx e.next z0 z) (st : St z e m k) (h0 : fr 0 = v0) (s0 : SlR TWagon z x0 v0) {r : Bool} (hr : l06_writes N x0 = some r) : W Try.prog (sub (bodyOf Try.f22) []) (fun ex fr' m' => ∃ z', Zx e.next z0 z' ∧ St z' e m' k ∧ (ex = .normal ∨ ex = .ret) ∧ fr' 2 = (vB r) ∧ True) fr m := by
 unfold l06_writes at hr
 refine W.seq (W.region ?_)
 refine sx rfl (pAssign (v := (vB false)) rfl rfl) ?_
 refine SeqW.done fun fr1 hf2 => ?_
 have h0 := (congrFun hf2 0).trans h0
 clear hf2
 refine thenQ.n (W.seq (W.region ?_))
 refine sx rfl (pMove (v := v0) rfl h0) ?_
 obtain ⟨y3, hy3, hr⟩ := bind_some hr
 refine SeqW.consX rfl (StepX.call (gCallee rfl rfl (args1 rfl)) ((c_consist_Encode (z := z) st.fz st.dead s0 hy3).mono ?_))
 rintro _ m8 ⟨z4, V9, hzx5, fz6, sm7, rfl, Q10, -⟩
 replace s0 := s0.mono hzx5.le
 replace hz := hz.trans (Zx.here st hzx5)
 replace st := st.call hzx5 fz6 sm7 no_hq
 refine sx rfl (pMove (v := (Value.tuple [V9, (vI y3.2)].toArray)) rfl rfl) ?_
 refine sx rfl (pExtract (vs := [V9, (vI y3.2)]) (v := V9) rfl rfl rfl) ?_
 refine sx rfl (pExtract (vs := [V9, (vI y3.2)]) (v := (vI y3.2)) rfl rfl rfl) ?_
 refine sx rfl (pAssign (v := V9) rfl rfl) ?_
 refine sx rfl (pAssign (v := (vI y3.2)) rfl rfl) ?_
 refine SeqW.done fun fr12 hf13 => ?_
 have h0 := (congrFun hf13 0).trans h0
 have h3 : fr12 3 = V9 := (congrFun hf13 3).trans rfl
 have h4 : fr12 4 = (vI y3.2) := (congrFun hf13 4).trans rfl
 clear hf13
 refine thenQ.n (W.seq (W.region ?_))
 refine sx rfl (pMove (v := v0) rfl h0) ?_
 obtain ⟨y14, hy14, hr⟩ := bind_some hr
 refine SeqW.consX rfl (StepX.call (gCallee rfl rfl (args1 rfl)) ((c_r06_Encode (z := z4) st.fz st.dead s0 hy14).mono ?_))
 rintro _ m19 ⟨z15, V20, hzx16, fz17, sm18, rfl, Q21, -⟩
 replace s0 := s0.mono hzx16.le
 replace Q10 := Q10.mono hzx16.le
 replace hz := hz.trans (Zx.here st hzx16)
 replace st := st.call hzx16 fz17 sm18 no_hq
 refine sx rfl (pMove (v := (Value.tuple [V20, (vI y14.2)].toArray)) rfl rfl) ?_
 refine sx rfl (pExtract (vs := [V20, (vI y14.2)]) (v := V20) rfl rfl rfl) ?_
 refine sx rfl (pExtract (vs := [V20, (vI y14.2)]) (v := (vI y14.2)) rfl rfl rfl) ?_
 refine sx rfl (pAssign (v := V20) rfl rfl) ?_
 refine sx rfl (pAssign (v := (vI y14.2)) rfl rfl) ?_
 refine SeqW.done fun fr23 hf24 => ?_
 have h0 := (congrFun hf24 0).trans h0
 have h3 := (congrFun hf24 3).trans h3
 have h4 := (congrFun hf24 4).trans h4
 have h5 : fr23 5 = V20 := (congrFun hf24 5).trans rfl
 have h6 : fr23 6 = (vI y14.2) := (congrFun hf24 6).trans rfl
 clear hf24
 refine thenQ.n (W.seq (W.region ?_))
 refine sx rfl (pMove (v := v0) rfl h0) ?_
 obtain ⟨y25, hy25, hr⟩ := bind_some hr
 refine SeqW.consX rfl (StepX.call (gCallee rfl rfl (args1 rfl)) ((c_consist_Total (z := z15) st.fz st.dead s0 hy25).mono ?_))
 rintro _ _ ⟨rfl, rfl⟩
 refine sx rfl (pMove (v := (Value.tuple [(vI y25.1), (vI y25.2.1), (vI y25.2.2.1), (vI y25.2.2.2)].toArray)) rfl rfl) ?_
 refine sx rfl (pExtract (vs := [(vI y25.1), (vI y25.2.1), (vI y25.2.2.1), (vI y25.2.2.2)]) (v := (vI y25.1)) rfl rfl rfl) ?_
 refine sx rfl (pExtract (vs := [(vI y25.1), (vI y25.2.1), (vI y25.2.2.1), (vI y25.2.2.2)]) (v := (vI y25.2.1)) rfl rfl rfl) ?_
 refine sx rfl (pExtract (vs := [(vI y25.1), (vI y25.2.1), (vI y25.2.2.1), (vI y25.2.2.2)]) (v := (vI y25.2.2.1)) rfl rfl rfl) ?_
 refine sx rfl (pExtract (vs := [(vI y25.1), (vI y25.2.1), (vI y25.2.2.1), (vI y25.2.2.2)]) (v := (vI y25.2.2.2)) rfl rfl rfl) ?_
 refine sx rfl (pAssign (v := (vI y25.1)) rfl rfl) ?_
 refine sx rfl (pAssign (v := (vI y25.2.1)) rfl rfl) ?_
 refine sx rfl (pAssign (v := (vI y25.2.2.1)) rfl rfl) ?_
 refine sx rfl (pAssign (v := (vI y25.2.2.2)) rfl rfl) ?_
 refine SeqW.done fun fr26 hf27 => ?_
 have h0 := (congrFun hf27 0).trans h0
 have h3 := (congrFun hf27 3).trans h3
 have h4 := (congrFun hf27 4).trans h4
 have h5 := (congrFun hf27 5).trans h5
 have h6 := (congrFun hf27 6).trans h6
 have h7 : fr26 7 = (vI y25.1) := (congrFun hf27 7).trans rfl
 have h8 : fr26 8 = (vI y25.2.1) := (congrFun hf27 8).trans rfl
 have h9 : fr26 9 = (vI y25.2.2.1) := (congrFun hf27 9).trans rfl
 have h10 : fr26 10 = (vI y25.2.2.2) := (congrFun hf27 10).trans rfl
 clear hf27
 refine thenQ.n (W.seq (W.region ?_))
 refine sx rfl (pMove (v := v0) rfl h0) ?_
 obtain ⟨y28, hy28, hr⟩ := bind_some hr
 refine SeqW.consX rfl (StepX.call (gCallee rfl rfl (args1 rfl)) ((c_r06_Total (z := z15) st.fz st.dead s0 hy28).mono ?_))
 rintro _ _ ⟨rfl, rfl⟩
 refine sx rfl (pMove (v := (Value.tuple [(vI y28.1), (vI y28.2.1), (vI y28.2.2.1), (vI y28.2.2.2)].toArray)) rfl rfl) ?_
 refine sx rfl (pExtract (vs := [(vI y28.1), (vI y28.2.1), (vI y28.2.2.1), (vI y28.2.2.2)]) (v := (vI y28.1)) rfl rfl rfl) ?_
 refine sx rfl (pExtract (vs := [(vI y28.1), (vI y28.2.1), (vI y28.2.2.1), (vI y28.2.2.2)]) (v := (vI y28.2.1)) rfl rfl rfl) ?_
 refine sx rfl (pExtract (vs := [(vI y28.1), (vI y28.2.1), (vI y28.2.2.1), (vI y28.2.2.2)]) (v := (vI y28.2.2.1)) rfl rfl rfl) ?_
 refine sx rfl (pExtract (vs := [(vI y28.1), (vI y28.2.1), (vI y28.2.2.1), (vI y28.2.2.2)]) (v := (vI y28.2.2.2)) rfl rfl rfl) ?_
 refine sx rfl (pAssign (v := (vI y28.1)) rfl rfl) ?_
 refine sx rfl (pAssign (v := (vI y28.2.1)) rfl rfl) ?_
 refine sx rfl (pAssign (v := (vI y28.2.2.1)) rfl rfl) ?_
 refine sx rfl (pAssign (v := (vI y28.2.2.2)) rfl rfl) ?_
 refine SeqW.done fun fr29 hf30 => ?_
 have h0 := (congrFun hf30 0).trans h0
 have h3 := (congrFun hf30 3).trans h3
 have h4 := (congrFun hf30 4).trans h4
 have h5 := (congrFun hf30 5).trans h5
 have h6 := (congrFun hf30 6).trans h6
 have h7 := (congrFun hf30 7).trans h7
 have h8 := (congrFun hf30 8).trans h8
 have h9 := (congrFun hf30 9).trans h9
 have h10 := (congrFun hf30 10).trans h10
 have h11 : fr29 11 = (vI y28.1) := (congrFun hf30 11).trans rfl
 have h12 : fr29 12 = (vI y28.2.1) := (congrFun hf30 12).trans rfl
 have h13 : fr29 13 = (vI y28.2.2.1) := (congrFun hf30 13).trans rfl
 have h14 : fr29 14 = (vI y28.2.2.2) := (congrFun hf30 14).trans rfl
 clear hf30
 refine thenQ.n (W.seq ?_)
 refine W.seq (W.region ?_)
 refine sx rfl (pAssign (v := (vI 0)) rfl rfl) ?_
 refine SeqW.done fun fr31 hf32 => ?_
 have h0 := (congrFun hf32 0).trans h0
 have h3 := (congrFun hf32 3).trans h3
 have h4 := (congrFun hf32 4).trans h4
 have h5 := (congrFun hf32 5).trans h5
 have h6 := (congrFun hf32 6).trans h6
 have h7 := (congrFun hf32 7).trans h7
 have h8 := (congrFun hf32 8).trans h8
 have h9 := (congrFun hf32 9).trans h9
 have h10 := (congrFun hf32 10).trans h10
 have h11 := (congrFun hf32 11).trans h11
 have h12 := (congrFun hf32 12).trans h12
 have h13 := (congrFun hf32 13).trans h13
 have h14 := (congrFun hf32 14).trans h14
 have h15 : fr31 15 = (vI 0) := (congrFun hf32 15).trans rfl
 clear hf32
 refine thenQ.n ?_
 refine W.block ?_
 obtain ⟨y62, hy62, hr⟩ := bind_some hr
 refine W.keep (u_l06_writes_0 _ (Zx.refl _) st h0 s0 h15 hy62) ?_
 rintro ex68 fr63 m64 hk66 ⟨z65, hz67, st, ⟨y69, rfl, rfl, -⟩ | ⟨y101, rfl, rfl, h2, -⟩⟩
 ·dsimp only at hr
  replace Q10 := Q10.mono hz67.le
  replace Q21 := Q21.mono hz67.le
  have h3 := (hk66 3 rfl).trans h3
  have h4 := (hk66 4 rfl).trans h4
  have h5 := (hk66 5 rfl).trans h5
  have h6 := (hk66 6 rfl).trans h6
  have h7 := (hk66 7 rfl).trans h7
  have h8 := (hk66 8 rfl).trans h8
  have h9 := (hk66 9 rfl).trans h9
  have h10 := (hk66 10 rfl).trans h10
  have h11 := (hk66 11 rfl).trans h11
  have h12 := (hk66 12 rfl).trans h12
  have h13 := (hk66 13 rfl).trans h13
  have h14 := (hk66 14 rfl).trans h14
  replace hz := hz.trans hz67
  clear hk66
  refine blockQ.hit ?_
  refine thenQ.n (W.seq ?_)
  obtain ⟨y94, hy94, hr⟩ := bind_some hr
  refine W.keep (u_l06_writes_1 (Zx.refl _) st h3 Q10 h4 h5 Q21 h6 h7 h8 h9 h10 h11 h12 h13 h14 hy94) ?_
  rintro ex100 fr95 m96 hk98 ⟨z97, hz99, st, rfl, h2, -⟩
  replace hz := hz.trans hz99
  clear hk98
  refine thenQ.n ?_
  refine W.ret ?_
  obtain rfl := Option.some.inj hr
  exact ⟨z97, hz, st, .inr rfl, h2, trivial⟩
 ·dsimp only at hr
  replace hz := hz.trans hz67
  clear hk66
  refine blockQ.r ?_
  refine thenQ.r ?_
  obtain rfl := Option.some.inj hr
  exact ⟨z65, hz, st, .inr rfl, h2, trivial⟩

theorem c_l06_writes {N : Nat} {z : Nat → Blk} {m : Mem} {x0 : List Wagon} {v0 : Value} (fz : Fz z m) (hd : ∀ b, m.next ≤ b → m.blk b = .dead) (s0 : SlR TWagon z x0 v0) {r : Bool} (hr : l06_writes N x0 = some r) : CallW Try.prog 22 #[v0] m fun v m' => v = (vB r) ∧ m' = m := by
 refine CallW.flat Try.func22 rfl (by kernel_rfl) (Nat.le_of_ble_eq_true rfl) rfl (z := z) (fun fr hf => ?_)
 have h0 : fr 0 = _ := hf 0 _ rfl
 refine (u_l06_writes (k := none) (Zx.refl _) (St.start fz hd) h0 s0 hr).mono ?_
 rintro ex fr' m' ⟨z', hz, st, he, h2, -⟩
 exact ⟨he, z', st, [(vB r)], ⟨h2.symm, trivial⟩, .inl rfl, rfl⟩

/-! ### humpyard/humpgen.Wagons -/

theorem u_gen_Wagons_0 : ∀ (n : Nat) {N : Nat}  {z0 z : Nat → Blk} {e m : Mem} {k : Option Nat} {fr : Nat → Value} {x0 : List Wagon} {x1 : List Wagon} {x5 : Int} {v0 : Value} {v1 : Value} (hz : Zx e.next z0 z) (st : St z e m k) (h0 : fr 0 = v0) (s0 : SlR TWagon z x0 v0) (h1 : fr 1 = v1) (s1 : SlR TWagon z x1 v1) (h5 : fr 5 = (vI x5)) {r : Sum (Unit) (Bool)} (hr : gen_Wagons_0 N x0 x1 n x5 = some r), W Try.prog (sub (bodyOf Try.f13) [1, 1, 0, 1, 0]) (fun ex fr' m' => ∃ z', Zx e.next z0 z' ∧ St z' e m' k ∧ ((∃ q, r = Sum.inl q ∧ ex = AExit.exit 0 ∧ True) ∨ (∃ q, r = Sum.inr q ∧ ex = AExit.ret ∧ fr' 4 = (vB q) ∧ True))) fr m := by
 intro n
 induction n with
 | zero => intro N z0 z e m k fr x0 x1 x5 v0 v1 hz st h0 s0 h1 s1 h5 r hr; cases (show (none : Option _) = some r from hr)
 | succ n ih =>
  intro N z0 z e m k fr x0 x1 x5 v0 v1 hz st h0 s0 h1 s1 h5 r hr
  unfold gen_Wagons_0 at hr
  refine W.loop1 ?_
  refine W.seq (W.seq (W.region ?_))
  refine sx rfl (pMove (v := (vI x5)) rfl h5) ?_
  refine sx rfl (pMove (v := v0) rfl h0) ?_
  refine sx rfl (pLenR (xs := x0) rfl Try.underlying24 rfl s0) ?_
  refine sx rfl (pLss (k := .i64) (a := x5) (b := (x0.length : Int)) rfl rfl rfl) ?_
  refine SeqW.done fun fr11 hf12 => ?_
  have h0 := (congrFun hf12 0).trans h0
  have h1 := (congrFun hf12 1).trans h1
  have h5 := (congrFun hf12 5).trans h5
  have h14 : fr11 14 = (vB (decide (x5 < (x0.length : Int)))) := (congrFun hf12 14).trans rfl
  clear hf12
  refine thenQ.n ?_
  rcases if_some hr with ⟨hc13, hr⟩ | ⟨hc35, hr⟩
  ·refine W.condT h14 hc13 (W.skip ?_)
   refine thenQ.n (W.seq ?_)
   refine W.block ?_
   refine W.seq ?_
   refine W.calm (by decide) ?_
   refine sx rfl (pMove (v := v0) rfl h0) ?_
   refine sx rfl (pMove (v := (vI x5)) rfl h5) ?_
   obtain ⟨y14, hy14, hr⟩ := bind_some hr
   refine SeqW.consX rfl (kIdxR (T := TWagon) (xs := x0) (n := x5) rfl Try.underlying24 Try.type42 rfl rfl rfl s0 hy14 ?_)
   intro B15 f16 cs17 hd18 hc19
   obtain rfl := hd18
   refine SeqW.consX rfl (kLoadA rfl Try.underlying42 rfl Try.type42 rfl rfl (st.loads hc19) ?_)
   refine sx rfl (pMove (v := v1) rfl h1) ?_
   refine sx rfl (pMove (v := (vI x5)) rfl h5) ?_
   obtain ⟨y20, hy20, hr⟩ := bind_some hr
   refine SeqW.consX rfl (kIdxR (T := TWagon) (xs := x1) (n := x5) rfl Try.underlying24 Try.type42 rfl rfl rfl s1 hy20 ?_)
   intro B21 f22 cs23 hd24 hc25
   obtain rfl := hd24
   refine SeqW.consX rfl (kLoadA rfl Try.underlying42 rfl Try.type42 rfl rfl (st.loads hc25) ?_)
   refine sx rfl (pEqA (xs := [(str y14.number), (vI y14.length), (vI y14.axles), (vI y14.mass), (vI y14.brake), (vI y14.goods), (vB y14.gentle), (str y14.dest)]) (ys := [(str y20.number), (vI y20.length), (vI y20.axles), (vI y20.mass), (vI y20.brake), (vI y20.goods), (vB y20.gentle), (str y20.dest)]) (r := decide (y14 = y20)) true rfl Try.underlying42 stood_Wagon guard_Wagon (scal_Wagon Try.underlying42 y14 y20) rfl rfl (eqc_Wagon y14 y20)) ?_
   refine SeqW.done fun fr26 hf27 => ?_
   have h0 := (congrFun hf27 0).trans h0
   have h1 := (congrFun hf27 1).trans h1
   have h5 := (congrFun hf27 5).trans h5
   have h25 : fr26 25 = (vB (!(decide (y14 = y20)))) := (congrFun hf27 25).trans rfl
   clear hf27
   refine thenQ.n ?_
   rcases if_some hr with ⟨hc28, hr⟩ | ⟨hc31, hr⟩
   ·refine W.condT h25 hc28 (W.seq (W.region ?_))
    refine sx rfl (pAssign (v := (vB false)) rfl rfl) ?_
    refine SeqW.done fun fr29 hf30 => ?_
    have h4 : fr29 4 = (vB false) := (congrFun hf30 4).trans rfl
    clear hf30
    refine thenQ.n ?_
    refine W.ret ?_
    refine blockQ.r ?_
    refine thenQ.r ?_
    refine thenQ.r ?_
    obtain rfl := Option.some.inj hr
    exact ⟨z, hz, st, .inr ⟨_, rfl, rfl, h4, trivial⟩⟩
   ·refine W.condF h25 hc31 (W.skip ?_)
    refine blockQ.n ?_
    refine thenQ.n (W.region ?_)
    refine sx rfl (pMove (v := (vI x5)) rfl h5) ?_
    refine sx rfl (pAdd (k := .i64) (a := x5) (b := 1) rfl rfl rfl) ?_
    obtain ⟨y32, hy32, hr⟩ := lt_some hr
    refine sx rfl (pAssign rfl (congrArg (Value.int .i64) hy32)) ?_
    refine SeqW.done fun fr33 hf34 => ?_
    have h0 := (congrFun hf34 0).trans h0
    have h1 := (congrFun hf34 1).trans h1
    have h5 : fr33 5 = (vI y32) := (congrFun hf34 5).trans rfl
    clear hf34
    refine thenQ.n ?_
    exact ih hz st h0 s0 h1 s1 h5 hr
  ·refine W.condF h14 hc35 ?_
   refine W.exit ?_
   refine thenQ.x ?_
   refine thenQ.x ?_
   obtain rfl := Option.some.inj hr
   exact ⟨z, hz, st, .inl ⟨_, rfl, rfl, trivial⟩⟩

theorem u_gen_Wagons {N : Nat}  {z0 z : Nat → Blk} {e m : Mem} {k : Option Nat} {fr : Nat → Value} {x0 : List Wagon} {x1 : List Wagon} {v0 : Value} {v1 : Value} (hz : Zx e.next z0 z) (st : St z e m k) (h0 : fr 0 = v0) (s0 : SlR TWagon z x0 v0) (h1 : fr 1 = v1) (s1 : SlR TWagon z x1 v1) {r : Bool} (hr : gen_Wagons N x0 x1 = some r) : W Try.prog (sub (bodyOf Try.f13) []) (fun ex fr' m' => ∃ z', Zx e.next z0 z' ∧ St z' e m' k ∧ (ex = .normal ∨ ex = .ret) ∧ fr' 4 = (vB r) ∧ True) fr m := by
 unfold gen_Wagons at hr
 refine W.seq (W.region ?_)
 refine sx rfl (pAssign (v := (vB false)) rfl rfl) ?_
 refine SeqW.done fun fr1 hf2 => ?_
 have h0 := (congrFun hf2 0).trans h0
 have h1 := (congrFun hf2 1).trans h1
 clear hf2
 refine thenQ.n (W.seq ?_)
 refine W.seq (W.region ?_)
 refine sx rfl (pMove (v := v0) rfl h0) ?_
 refine sx rfl (pLenR (xs := x0) rfl Try.underlying24 rfl s0) ?_
 refine sx rfl (pMove (v := v1) rfl h1) ?_
 refine sx rfl (pLenR (xs := x1) rfl Try.underlying24 rfl s1) ?_
 refine sx rfl (pNeq (k := .i64) (a := (x0.length : Int)) (b := (x1.length : Int)) rfl rfl rfl) ?_
 refine SeqW.done fun fr3 hf4 => ?_
 have h0 := (congrFun hf4 0).trans h0
 have h1 := (congrFun hf4 1).trans h1
 have h10 : fr3 10 = (vB ((x0.length : Int) != (x1.length : Int))) := (congrFun hf4 10).trans rfl
 clear hf4
 refine thenQ.n ?_
 rcases if_some hr with ⟨hc5, hr⟩ | ⟨hc8, hr⟩
 ·refine W.condT h10 hc5 (W.seq (W.region ?_))
  refine sx rfl (pAssign (v := (vB false)) rfl rfl) ?_
  refine SeqW.done fun fr6 hf7 => ?_
  have h4 : fr6 4 = (vB false) := (congrFun hf7 4).trans rfl
  clear hf7
  refine thenQ.n ?_
  refine W.ret ?_
  refine thenQ.r ?_
  obtain rfl := Option.some.inj hr
  exact ⟨z, hz, st, .inr rfl, h4, trivial⟩
 ·refine W.condF h10 hc8 (W.skip ?_)
  refine thenQ.n (W.seq ?_)
  refine W.seq (W.region ?_)
  refine sx rfl (pAssign (v := (vI 0)) rfl rfl) ?_
  refine SeqW.done fun fr9 hf10 => ?_
  have h0 := (congrFun hf10 0).trans h0
  have h1 := (congrFun hf10 1).trans h1
  have h5 : fr9 5 = (vI 0) := (congrFun hf10 5).trans rfl
  clear hf10
  refine thenQ.n ?_
  refine W.block ?_
  obtain ⟨y36, hy36, hr⟩ := bind_some hr
  refine W.keep (u_gen_Wagons_0 _ (Zx.refl _) st h0 s0 h1 s1 h5 hy36) ?_
  rintro ex42 fr37 m38 hk40 ⟨z39, hz41, st, ⟨y43, rfl, rfl, -⟩ | ⟨y46, rfl, rfl, h4, -⟩⟩
  ·dsimp only at hr
   replace hz := hz.trans hz41
   clear hk40
   refine blockQ.hit ?_
   refine thenQ.n (W.seq (W.region ?_))
   refine sx rfl (pAssign (v := (vB true)) rfl rfl) ?_
   refine SeqW.done fun fr44 hf45 => ?_
   have h4 : fr44 4 = (vB true) := (congrFun hf45 4).trans rfl
   clear hf45
   refine thenQ.n ?_
   refine W.ret ?_
   obtain rfl := Option.some.inj hr
   exact ⟨z39, hz, st, .inr rfl, h4, trivial⟩
  ·dsimp only at hr
   replace hz := hz.trans hz41
   clear hk40
   refine blockQ.r ?_
   refine thenQ.r ?_
   obtain rfl := Option.some.inj hr
   exact ⟨z39, hz, st, .inr rfl, h4, trivial⟩

theorem c_gen_Wagons {N : Nat} {z : Nat → Blk} {m : Mem} {x0 : List Wagon} {x1 : List Wagon} {v0 : Value} {v1 : Value} (fz : Fz z m) (hd : ∀ b, m.next ≤ b → m.blk b = .dead) (s0 : SlR TWagon z x0 v0) (s1 : SlR TWagon z x1 v1) {r : Bool} (hr : gen_Wagons N x0 x1 = some r) : CallW Try.prog 13 #[v0, v1] m fun v m' => v = (vB r) ∧ m' = m := by
 refine CallW.flat Try.func13 rfl (by kernel_rfl) (Nat.le_of_ble_eq_true rfl) rfl (z := z) (fun fr hf => ?_)
 have h0 : fr 0 = _ := hf 0 _ rfl
 have h1 : fr 1 = _ := hf 1 _ rfl
 refine (u_gen_Wagons (k := none) (Zx.refl _) (St.start fz hd) h0 s0 h1 s1 hr).mono ?_
 rintro ex fr' m' ⟨z', hz, st, he, h4, -⟩
 exact ⟨he, z', st, [(vB r)], ⟨h4.symm, trivial⟩, .inl rfl, rfl⟩

/-! ### humpyard/humpyardref06.End -/

theorem u_r06_End_0 : ∀ (n : Nat) {N : Nat}  {z0 z : Nat → Blk} {e m : Mem} {k : Option Nat} {fr : Nat → Value} {x0 : List UInt8} {x3 : Int} {x4 : Int} {v0 : Value} (hz : Zx e.next z0 z) (st : St z e m k) (h0 : fr 0 = v0) (s0 : SlR (TU8 5) z x0 v0) (h3 : fr 3 = (vI x3)) (h4 : fr 4 = (vI x4)) {r : Sum (Int) (Int)} (hr : r06_End_0 N x0 n x3 x4 = some r), W Try.prog (sub (bodyOf Try.f17) [1, 1, 1, 0, 1, 0]) (fun ex fr' m' => ∃ z', Zx e.next z0 z' ∧ St z' e m' k ∧ ((∃ q, r = Sum.inl q ∧ ex = AExit.exit 0 ∧ fr' 3 = (vI q) ∧ True) ∨ (∃ q, r = Sum.inr q ∧ ex = AExit.ret ∧ fr' 2 = (vI q) ∧ True))) fr m := by
 intro n
 induction n with
 | zero => intro N z0 z e m k fr x0 x3 x4 v0 hz st h0 s0 h3 h4 r hr; cases (show (none : Option _) = some r from hr)
 | succ n ih =>
  intro N z0 z e m k fr x0 x3 x4 v0 hz st h0 s0 h3 h4 r hr
  unfold r06_End_0 at hr
  refine W.loop1 ?_
  refine W.seq (W.seq (W.region ?_))
  refine sx rfl (pMove (v := (vI x4)) rfl h4) ?_
  refine sx rfl (pMove (v := v0) rfl h0) ?_
  obtain ⟨y13, hy13, hr⟩ := bind_some hr
  refine SeqW.consX rfl (kIdxR (T := (TU8 5)) (xs := x0) (n := 0) rfl Try.underlying23 Try.type5 rfl rfl rfl s0 hy13 ?_)
  intro B14 f15 cs16 hd17 hc18
  obtain rfl := hd17
  refine SeqW.consX rfl (kLoad (v := (Value.int .u8 (UInt8.toNat y13 : Int))) rfl Try.underlying5 rfl rfl (ldz_load st.fz (hc18 0 _ rfl)) ?_)
  refine sx rfl (pConv (k := .u8) (a := (UInt8.toNat y13 : Int)) rfl Try.underlying5 Try.underlying3 rfl) ?_
  refine sx rfl (pLss (k := .i64) (a := x4) (b := (IntKind.wrap .i64 (UInt8.toNat y13 : Int))) rfl rfl rfl) ?_
  refine SeqW.done fun fr19 hf20 => ?_
  have h0 := (congrFun hf20 0).trans h0
  have h3 := (congrFun hf20 3).trans h3
  have h4 := (congrFun hf20 4).trans h4
  have h13 : fr19 13 = (vB (decide (x4 < (IntKind.wrap .i64 (UInt8.toNat y13 : Int))))) := (congrFun hf20 13).trans rfl
  clear hf20
  refine thenQ.n ?_
  rcases if_some hr with ⟨hc21, hr⟩ | ⟨hc46, hr⟩
  ·refine W.condT h13 hc21 (W.skip ?_)
   refine thenQ.n (W.seq ?_)
   refine W.block ?_
   refine W.seq (W.seq (W.region ?_))
   refine sx rfl (pMove (v := (vI x3)) rfl h3) ?_
   refine sx rfl (pAdd (k := .i64) (a := x3) (b := 15) rfl rfl rfl) ?_
   refine sx rfl (pMove (v := v0) rfl h0) ?_
   refine sx rfl (pLenR (xs := x0) rfl Try.underlying23 rfl s0) ?_
   refine sx rfl (pGtr (k := .i64) (a := (IntKind.wrap .i64 (x3 + 15))) (b := (x0.length : Int)) rfl rfl rfl) ?_
   refine SeqW.done fun fr22 hf23 => ?_
   have h0 := (congrFun hf23 0).trans h0
   have h3 := (congrFun hf23 3).trans h3
   have h4 := (congrFun hf23 4).trans h4
   have h20 : fr22 20 = (vB (decide ((x0.length : Int) < (IntKind.wrap .i64 (x3 + 15))))) := (congrFun hf23 20).trans rfl
   clear hf23
   refine thenQ.n ?_
   rcases if_some hr with ⟨hc24, hr⟩ | ⟨hc27, hr⟩
   ·refine W.condT h20 hc24 (W.seq (W.region ?_))
    refine sx rfl (pAssign (v := (vI (-1))) rfl rfl) ?_
    refine SeqW.done fun fr25 hf26 => ?_
    have h2 : fr25 2 = (vI (-1)) := (congrFun hf26 2).trans rfl
    clear hf26
    refine thenQ.n ?_
    refine W.ret ?_
    refine thenQ.r ?_
    refine blockQ.r ?_
    refine thenQ.r ?_
    refine thenQ.r ?_
    obtain rfl := Option.some.inj hr
    exact ⟨z, hz, st, .inr ⟨_, rfl, rfl, h2, trivial⟩⟩
   ·refine W.condF h20 hc27 (W.skip ?_)
    refine thenQ.n (W.seq (W.region ?_))
    refine sx rfl (pMove (v := (vI x3)) rfl h3) ?_
    refine sx rfl (pMove (v := v0) rfl h0) ?_
    refine sx rfl (pMove (v := (vI x3)) rfl h3) ?_
    refine sx rfl (pAdd (k := .i64) (a := x3) (b := 14) rfl rfl rfl) ?_
    obtain ⟨y28, hy28, hr⟩ := bind_some hr
    refine SeqW.consX rfl (kIdxR (T := (TU8 5)) (xs := x0) (n := (IntKind.wrap .i64 (x3 + 14))) rfl Try.underlying23 Try.type5 rfl rfl rfl s0 hy28 ?_)
    intro B29 f30 cs31 hd32 hc33
    obtain rfl := hd32
    refine SeqW.consX rfl (kLoad (v := (Value.int .u8 (UInt8.toNat y28 : Int))) rfl Try.underlying5 rfl rfl (ldz_load st.fz (hc33 0 _ rfl)) ?_)
    refine sx rfl (pConv (k := .u8) (a := (UInt8.toNat y28 : Int)) rfl Try.underlying5 Try.underlying3 rfl) ?_
    refine sx rfl (pAdd (k := .i64) (a := 15) (b := (IntKind.wrap .i64 (UInt8.toNat y28 : Int))) rfl rfl rfl) ?_
    refine sx rfl (pAdd (k := .i64) (a := x3) (b := (IntKind.wrap .i64 (15 + (IntKind.wrap .i64 (UInt8.toNat y28 : Int))))) rfl rfl rfl) ?_
    obtain ⟨y34, hy34, hr⟩ := lt_some hr
    refine sx rfl (pAssign rfl (congrArg (Value.int .i64) hy34)) ?_
    refine SeqW.done fun fr35 hf36 => ?_
    have h0 := (congrFun hf36 0).trans h0
    have h3 : fr35 3 = (vI y34) := (congrFun hf36 3).trans rfl
    have h4 := (congrFun hf36 4).trans h4
    clear hf36
    refine thenQ.n (W.seq (W.region ?_))
    refine sx rfl (pMove (v := (vI y34)) rfl h3) ?_
    refine sx rfl (pMove (v := v0) rfl h0) ?_
    refine sx rfl (pLenR (xs := x0) rfl Try.underlying23 rfl s0) ?_
    refine sx rfl (pGtr (k := .i64) (a := y34) (b := (x0.length : Int)) rfl rfl rfl) ?_
    refine SeqW.done fun fr37 hf38 => ?_
    have h0 := (congrFun hf38 0).trans h0
    have h3 := (congrFun hf38 3).trans h3
    have h4 := (congrFun hf38 4).trans h4
    have h33 : fr37 33 = (vB (decide ((x0.length : Int) < y34))) := (congrFun hf38 33).trans rfl
    clear hf38
    refine thenQ.n ?_
    rcases if_some hr with ⟨hc39, hr⟩ | ⟨hc42, hr⟩
    ·refine W.condT h33 hc39 (W.seq (W.region ?_))
     refine sx rfl (pAssign (v := (vI (-1))) rfl rfl) ?_
     refine SeqW.done fun fr40 hf41 => ?_
     have h2 : fr40 2 = (vI (-1)) := (congrFun hf41 2).trans rfl
     clear hf41
     refine thenQ.n ?_
     refine W.ret ?_
     refine blockQ.r ?_
     refine thenQ.r ?_
     refine thenQ.r ?_
     obtain rfl := Option.some.inj hr
     exact ⟨z, hz, st, .inr ⟨_, rfl, rfl, h2, trivial⟩⟩
    ·refine W.condF h33 hc42 (W.skip ?_)
     refine blockQ.n ?_
     refine thenQ.n (W.region ?_)
     refine sx rfl (pMove (v := (vI x4)) rfl h4) ?_
     refine sx rfl (pAdd (k := .i64) (a := x4) (b := 1) rfl rfl rfl) ?_
     obtain ⟨y43, hy43, hr⟩ := lt_some hr
     refine sx rfl (pAssign rfl (congrArg (Value.int .i64) hy43)) ?_
     refine SeqW.done fun fr44 hf45 => ?_
     have h0 := (congrFun hf45 0).trans h0
     have h3 := (congrFun hf45 3).trans h3
     have h4 : fr44 4 = (vI y43) := (congrFun hf45 4).trans rfl
     clear hf45
     refine thenQ.n ?_
     exact ih hz st h0 s0 h3 h4 hr
  ·refine W.condF h13 hc46 ?_
   refine W.exit ?_
   refine thenQ.x ?_
   refine thenQ.x ?_
   obtain rfl := Option.some.inj hr
   exact ⟨z, hz, st, .inl ⟨_, rfl, rfl, h3, trivial⟩⟩

theorem u_r06_End {N : Nat}  {z0 z : Nat → Blk} {e m : Mem} {k : Option Nat} {fr : Nat → Value} {x0 : List UInt8} {v0 : Value} (hz : Zx e.next z0 z) (st : St z e m k) (h0 : fr 0 = v0) (s0 : SlR (TU8 5) z x0 v0) {r : Int} (hr : r06_End N x0 = some r) : W Try.prog (sub (bodyOf Try.f17) []) (fun ex fr' m' => ∃ z', Zx e.next z0 z' ∧ St z' e m' k ∧ (ex = .normal ∨ ex = .ret) ∧ fr' 2 = (vI r) ∧ True) fr m := by
 unfold r06_End at hr
 refine W.seq (W.region ?_)
 refine sx rfl (pAssign (v := (vI 0)) rfl rfl) ?_
 refine SeqW.done fun fr1 hf2 => ?_
 have h0 := (congrFun hf2 0).trans h0
 clear hf2
 refine thenQ.n (W.seq ?_)
 refine W.seq (W.region ?_)
 refine sx rfl (pMove (v := v0) rfl h0) ?_
 refine sx rfl (pLenR (xs := x0) rfl Try.underlying23 rfl s0) ?_
 refine sx rfl (pEql (k := .i64) (a := (x0.length : Int)) (b := 0) rfl rfl rfl) ?_
 refine SeqW.done fun fr3 hf4 => ?_
 have h0 := (congrFun hf4 0).trans h0
 have h7 : fr3 7 = (vB ((x0.length : Int) == 0)) := (congrFun hf4 7).trans rfl
 clear hf4
 refine thenQ.n ?_
 rcases if_some hr with ⟨hc5, hr⟩ | ⟨hc8, hr⟩
 ·refine W.condT h7 hc5 (W.seq (W.region ?_))
  refine sx rfl (pAssign (v := (vI (-1))) rfl rfl) ?_
  refine SeqW.done fun fr6 hf7 => ?_
  have h2 : fr6 2 = (vI (-1)) := (congrFun hf7 2).trans rfl
  clear hf7
  refine thenQ.n ?_
  refine W.ret ?_
  refine thenQ.r ?_
  obtain rfl := Option.some.inj hr
  exact ⟨z, hz, st, .inr rfl, h2, trivial⟩
 ·refine W.condF h7 hc8 (W.skip ?_)
  refine thenQ.n (W.seq (W.region ?_))
  refine sx rfl (pAssign (v := (vI 1)) rfl rfl) ?_
  refine SeqW.done fun fr9 hf10 => ?_
  have h0 := (congrFun hf10 0).trans h0
  have h3 : fr9 3 = (vI 1) := (congrFun hf10 3).trans rfl
  clear hf10
  refine thenQ.n (W.seq ?_)
  refine W.seq (W.region ?_)
  refine sx rfl (pAssign (v := (vI 0)) rfl rfl) ?_
  refine SeqW.done fun fr11 hf12 => ?_
  have h0 := (congrFun hf12 0).trans h0
  have h3 := (congrFun hf12 3).trans h3
  have h4 : fr11 4 = (vI 0) := (congrFun hf12 4).trans rfl
  clear hf12
  refine thenQ.n ?_
  refine W.block ?_
  obtain ⟨y47, hy47, hr⟩ := bind_some hr
  refine W.keep (u_r06_End_0 _ (Zx.refl _) st h0 s0 h3 h4 hy47) ?_
  rintro ex53 fr48 m49 hk51 ⟨z50, hz52, st, ⟨y54, rfl, rfl, h3, -⟩ | ⟨y64, rfl, rfl, h2, -⟩⟩
  ·dsimp only at hr
   replace s0 := s0.mono hz52.le
   have h0 := (hk51 0 rfl).trans h0
   replace hz := hz.trans hz52
   clear hk51
   refine blockQ.hit ?_
   refine thenQ.n (W.seq ?_)
   refine W.seq (W.region ?_)
   refine sx rfl (pMove (v := (vI y54)) rfl h3) ?_
   refine sx rfl (pAdd (k := .i64) (a := y54) (b := 2) rfl rfl rfl) ?_
   refine sx rfl (pMove (v := v0) rfl h0) ?_
   refine sx rfl (pLenR (xs := x0) rfl Try.underlying23 rfl s0) ?_
   refine sx rfl (pGtr (k := .i64) (a := (IntKind.wrap .i64 (y54 + 2))) (b := (x0.length : Int)) rfl rfl rfl) ?_
   refine SeqW.done fun fr55 hf56 => ?_
   have h3 := (congrFun hf56 3).trans h3
   have h38 : fr55 38 = (vB (decide ((x0.length : Int) < (IntKind.wrap .i64 (y54 + 2))))) := (congrFun hf56 38).trans rfl
   clear hf56
   refine thenQ.n ?_
   rcases if_some hr with ⟨hc57, hr⟩ | ⟨hc60, hr⟩
   ·refine W.condT h38 hc57 (W.seq (W.region ?_))
    refine sx rfl (pAssign (v := (vI (-1))) rfl rfl) ?_
    refine SeqW.done fun fr58 hf59 => ?_
    have h2 : fr58 2 = (vI (-1)) := (congrFun hf59 2).trans rfl
    clear hf59
    refine thenQ.n ?_
    refine W.ret ?_
    refine thenQ.r ?_
    obtain rfl := Option.some.inj hr
    exact ⟨z50, hz, st, .inr rfl, h2, trivial⟩
   ·refine W.condF h38 hc60 (W.skip ?_)
    refine thenQ.n (W.seq (W.region ?_))
    refine sx rfl (pMove (v := (vI y54)) rfl h3) ?_
    refine sx rfl (pAdd (k := .i64) (a := y54) (b := 2) rfl rfl rfl) ?_
    obtain ⟨y61, hy61, hr⟩ := lt_some hr
    refine sx rfl (pAssign rfl (congrArg (Value.int .i64) hy61)) ?_
    refine SeqW.done fun fr62 hf63 => ?_
    have h2 : fr62 2 = (vI y61) := (congrFun hf63 2).trans rfl
    clear hf63
    refine thenQ.n ?_
    refine W.ret ?_
    obtain rfl := Option.some.inj hr
    exact ⟨z50, hz, st, .inr rfl, h2, trivial⟩
  ·dsimp only at hr
   replace hz := hz.trans hz52
   clear hk51
   refine blockQ.r ?_
   refine thenQ.r ?_
   obtain rfl := Option.some.inj hr
   exact ⟨z50, hz, st, .inr rfl, h2, trivial⟩

theorem c_r06_End {N : Nat} {z : Nat → Blk} {m : Mem} {x0 : List UInt8} {v0 : Value} (fz : Fz z m) (hd : ∀ b, m.next ≤ b → m.blk b = .dead) (s0 : SlR (TU8 5) z x0 v0) {r : Int} (hr : r06_End N x0 = some r) : CallW Try.prog 17 #[v0] m fun v m' => v = (vI r) ∧ m' = m := by
 refine CallW.flat Try.func17 rfl (by kernel_rfl) (Nat.le_of_ble_eq_true rfl) rfl (z := z) (fun fr hf => ?_)
 have h0 : fr 0 = _ := hf 0 _ rfl
 refine (u_r06_End (k := none) (Zx.refl _) (St.start fz hd) h0 s0 hr).mono ?_
 rintro ex fr' m' ⟨z', hz, st, he, h2, -⟩
 exact ⟨he, z', st, [(vI r)], ⟨h2.symm, trivial⟩, .inl rfl, rfl⟩

/-! ### humpyard/humpyardref06.two -/

theorem u_r06_two {N : Nat}  {z0 z : Nat → Blk} {e m : Mem} {k : Option Nat} {fr : Nat → Value} {x0 : List UInt8} {v0 : Value} (hz : Zx e.next z0 z) (st : St z e m k) (h0 : fr 0 = v0) (s0 : SlR (TU8 5) z x0 v0) {r : Int} (hr : r06_two N x0 = some r) : W Try.prog (sub (bodyOf Try.f50) []) (fun ex fr' m' => ∃ z', Zx e.next z0 z' ∧ St z' e m' k ∧ (ex = .normal ∨ ex = .ret) ∧ fr' 2 = (vI r) ∧ True) fr m := by
 unfold r06_two at hr
 refine W.seq (W.region ?_)
 refine sx rfl (pAssign (v := (vI 0)) rfl rfl) ?_
 refine SeqW.done fun fr1 hf2 => ?_
 have h0 := (congrFun hf2 0).trans h0
 clear hf2
 refine thenQ.n (W.seq ?_)
 refine W.calm (by decide) ?_
 refine sx rfl (pMove (v := v0) rfl h0) ?_
 obtain ⟨y3, hy3, hr⟩ := bind_some hr
 refine SeqW.consX rfl (kIdxR (T := (TU8 5)) (xs := x0) (n := 0) rfl Try.underlying23 Try.type5 rfl rfl rfl s0 hy3 ?_)
 intro B4 f5 cs6 hd7 hc8
 obtain rfl := hd7
 refine SeqW.consX rfl (kLoad (v := (Value.int .u8 (UInt8.toNat y3 : Int))) rfl Try.underlying5 rfl rfl (ldz_load st.fz (hc8 0 _ rfl)) ?_)
 refine sx rfl (pConv (k := .u8) (a := (UInt8.toNat y3 : Int)) rfl Try.underlying5 Try.underlying3 rfl) ?_
 refine sx rfl (pMul (k := .i64) (a := (IntKind.wrap .i64 (UInt8.toNat y3 : Int))) (b := 256) rfl rfl rfl) ?_
 refine sx rfl (pMove (v := v0) rfl h0) ?_
 obtain ⟨y9, hy9, hr⟩ := bind_some hr
 refine SeqW.consX rfl (kIdxR (T := (TU8 5)) (xs := x0) (n := 1) rfl Try.underlying23 Try.type5 rfl rfl rfl s0 hy9 ?_)
 intro B10 f11 cs12 hd13 hc14
 obtain rfl := hd13
 refine SeqW.consX rfl (kLoad (v := (Value.int .u8 (UInt8.toNat y9 : Int))) rfl Try.underlying5 rfl rfl (ldz_load st.fz (hc14 0 _ rfl)) ?_)
 refine sx rfl (pConv (k := .u8) (a := (UInt8.toNat y9 : Int)) rfl Try.underlying5 Try.underlying3 rfl) ?_
 refine sx rfl (pAdd (k := .i64) (a := (IntKind.wrap .i64 ((IntKind.wrap .i64 (UInt8.toNat y3 : Int)) * 256))) (b := (IntKind.wrap .i64 (UInt8.toNat y9 : Int))) rfl rfl rfl) ?_
 obtain ⟨y15, hy15, hr⟩ := lt_some hr
 refine sx rfl (pAssign rfl (congrArg (Value.int .i64) hy15)) ?_
 refine SeqW.done fun fr16 hf17 => ?_
 have h2 : fr16 2 = (vI y15) := (congrFun hf17 2).trans rfl
 clear hf17
 refine thenQ.n ?_
 refine W.ret ?_
 obtain rfl := Option.some.inj hr
 exact ⟨z, hz, st, .inr rfl, h2, trivial⟩

theorem c_r06_two {N : Nat} {z : Nat → Blk} {m : Mem} {x0 : List UInt8} {v0 : Value} (fz : Fz z m) (hd : ∀ b, m.next ≤ b → m.blk b = .dead) (s0 : SlR (TU8 5) z x0 v0) {r : Int} (hr : r06_two N x0 = some r) : CallW Try.prog 50 #[v0] m fun v m' => v = (vI r) ∧ m' = m := by
 refine CallW.flat Try.func50 rfl (by kernel_rfl) (Nat.le_of_ble_eq_true rfl) rfl (z := z) (fun fr hf => ?_)
 have h0 : fr 0 = _ := hf 0 _ rfl
 refine (u_r06_two (k := none) (Zx.refl _) (St.start fz hd) h0 s0 hr).mono ?_
 rintro ex fr' m' ⟨z', hz, st, he, h2, -⟩
 exact ⟨he, z', st, [(vI r)], ⟨h2.symm, trivial⟩, .inl rfl, rfl⟩

/-! ### humpyard/humpyardref06.Decode -/

theorem u_r06_Decode_2 {N : Nat}  {z0 z : Nat → Blk} {e m : Mem} {k : Option Nat} {fr : Nat → Value} {x8 : List UInt8} {x10 : Int} {x5 : List Wagon} {v5 : Value} {v8 : Value} (hz : Zx e.next z0 z) (st : St z e m k) (h5 : fr 5 = v5) (o5 : OwF TWagon z e m k x5 v5) (h8 : fr 8 = v8) (s8 : SlR (TU8 5) z x8 v8) (h10 : fr 10 = (vI x10)) {r : Bool} (hr : r06_Decode_2 N x8 x10 = some r) : W Try.prog (sub (bodyOf Try.f41) [1, 1, 1, 1, 1, 0, 1, 0, 0, 1, 0, 0, 1, 1, 0, 1, 0, 0, 1, 0, 0, 0, 0]) (fun ex fr' m' => ∃ z', Zx e.next z0 z' ∧ St z' e m' k ∧ ex = AExit.normal ∧ fr' 63 = (vB r) ∧ OwF TWagon z' e m' k x5 v5 ∧ True) fr m := by
 unfold r06_Decode_2 at hr
 refine W.region ?_
 refine sx rfl (pMove (v := v8) rfl h8) ?_
 refine sx rfl (pMove (v := (vI x10)) rfl h10) ?_
 obtain ⟨y70, hy70, hr⟩ := bind_some hr
 refine SeqW.consX rfl (kIdxR (T := (TU8 5)) (xs := x8) (n := x10) rfl Try.underlying23 Try.type5 rfl rfl rfl s8 hy70 ?_)
 intro B71 f72 cs73 hd74 hc75
 obtain rfl := hd74
 refine SeqW.consX rfl (kLoad (v := (Value.int .u8 (UInt8.toNat y70 : Int))) rfl Try.underlying5 rfl rfl (ldz_load st.fz (hc75 0 _ rfl)) ?_)
 refine sx rfl (pQuo (k := .u8) (a := (UInt8.toNat y70 : Int)) (b := 16) rfl rfl rfl (by decide)) ?_
 refine sx rfl (pGtr (k := .u8) (a := (IntKind.wrap .u8 (Int.tdiv (UInt8.toNat y70 : Int) 16))) (b := 9) rfl rfl rfl) ?_
 refine sx rfl (pMove (v := (vB (decide (9 < (IntKind.wrap .u8 (Int.tdiv (UInt8.toNat y70 : Int) 16)))))) rfl rfl) ?_
 rcases if_some hr with ⟨hc76, hr⟩ | ⟨hc79, hr⟩
 ·refine kx rfl rfl rfl hc76 ?_
  iterate 5 refine kx rfl rfl rfl hc76 ?_
  refine sx rfl (pPick (t := true) (v := (vB true)) rfl ((congrArg vB hc76)) rfl) ?_
  refine SeqW.done fun fr77 hf78 => ?_
  have h5 := (congrFun hf78 5).trans h5
  have h8 := (congrFun hf78 8).trans h8
  have h10 := (congrFun hf78 10).trans h10
  have h63 : fr77 63 = (vB true) := (congrFun hf78 63).trans rfl
  clear hf78
  obtain rfl := Option.some.inj hr
  exact ⟨z, hz, st, rfl, h63, o5, trivial⟩
 ·refine SeqW.consG rfl rfl rfl hc79 (StepX.pure (pMove (v := v8) rfl h8) ?_)
  refine SeqW.consG rfl rfl rfl hc79 (StepX.pure (pMove (v := (vI x10)) rfl h10) ?_)
  obtain ⟨y80, hy80, hr⟩ := bind_some hr
  refine SeqW.consG rfl rfl rfl hc79 (kIdxR (T := (TU8 5)) (xs := x8) (n := x10) rfl Try.underlying23 Try.type5 rfl rfl rfl s8 hy80 ?_)
  intro B81 f82 cs83 hd84 hc85
  obtain rfl := hd84
  refine SeqW.consG rfl rfl rfl hc79 (kLoad (v := (Value.int .u8 (UInt8.toNat y80 : Int))) rfl Try.underlying5 rfl rfl (ldz_load st.fz (hc85 0 _ rfl)) ?_)
  refine SeqW.consG rfl rfl rfl hc79 (StepX.pure (pRem (k := .u8) (a := (UInt8.toNat y80 : Int)) (b := 16) rfl rfl rfl (by decide)) ?_)
  refine SeqW.consG rfl rfl rfl hc79 (StepX.pure (pGtr (k := .u8) (a := (Int.tmod (UInt8.toNat y80 : Int) 16)) (b := 9) rfl rfl rfl) ?_)
  refine sx rfl (pPick (t := false) (v := (vB (decide (9 < (Int.tmod (UInt8.toNat y80 : Int) 16))))) rfl ((congrArg vB hc79)) rfl) ?_
  refine SeqW.done fun fr86 hf87 => ?_
  have h5 := (congrFun hf87 5).trans h5
  have h8 := (congrFun hf87 8).trans h8
  have h10 := (congrFun hf87 10).trans h10
  have h63 : fr86 63 = (vB (decide (9 < (Int.tmod (UInt8.toNat y80 : Int) 16)))) := (congrFun hf87 63).trans rfl
  clear hf87
  obtain rfl := Option.some.inj hr
  exact ⟨z, hz, st, rfl, h63, o5, trivial⟩

theorem u_r06_Decode_1 : ∀ (n : Nat) {N : Nat}  {z0 z : Nat → Blk} {e m : Mem} {k : Option Nat} {fr : Nat → Value} {x8 : List UInt8} {x9 : List UInt8} {x10 : Int} {x5 : List Wagon} {v5 : Value} {v8 : Value} (hz : Zx e.next z0 z) (st : St z e m k) (h5 : fr 5 = v5) (o5 : OwF TWagon z e m k x5 v5) (h8 : fr 8 = v8) (s8 : SlR (TU8 5) z x8 v8) (h9 : fr 9 = (str x9)) (h10 : fr 10 = (vI x10)) {r : Sum (List UInt8) (Int)} (hr : r06_Decode_1 N x8 n x9 x10 = some r), W Try.prog (sub (bodyOf Try.f41) [1, 1, 1, 1, 1, 0, 1, 0, 0, 1, 0, 0, 1, 1, 0, 1, 0]) (fun ex fr' m' => ∃ z', Zx e.next z0 z' ∧ St z' e m' k ∧ ((∃ q, r = Sum.inl q ∧ ex = AExit.exit 3 ∧ fr' 9 = (str q) ∧ OwF TWagon z' e m' k x5 v5 ∧ True) ∨ (∃ q, r = Sum.inr q ∧ ex = AExit.ret ∧ fr' 2 = (Value.slice none 0 0) ∧ fr' 3 = (vI q) ∧ True))) fr m := by
 intro n
 induction n with
 | zero => intro N z0 z e m k fr x8 x9 x10 x5 v5 v8 hz st h5 o5 h8 s8 h9 h10 r hr; cases (show (none : Option _) = some r from hr)
 | succ n ih =>
  intro N z0 z e m k fr x8 x9 x10 x5 v5 v8 hz st h5 o5 h8 s8 h9 h10 r hr
  unfold r06_Decode_1 at hr
  refine W.loop1 ?_
  refine W.seq (W.seq (W.region ?_))
  refine sx rfl (pMove (v := (vI x10)) rfl h10) ?_
  refine sx rfl (pLss (k := .i64) (a := x10) (b := 6) rfl rfl rfl) ?_
  refine SeqW.done fun fr67 hf68 => ?_
  have h5 := (congrFun hf68 5).trans h5
  have h8 := (congrFun hf68 8).trans h8
  have h9 := (congrFun hf68 9).trans h9
  have h10 := (congrFun hf68 10).trans h10
  have h47 : fr67 47 = (vB (decide (x10 < 6))) := (congrFun hf68 47).trans rfl
  clear hf68
  refine thenQ.n ?_
  rcases if_some hr with ⟨hc69, hr⟩ | ⟨hc127, hr⟩
  ·refine W.condT h47 hc69 (W.skip ?_)
   refine thenQ.n (W.seq ?_)
   refine W.block ?_
   refine W.seq (W.seq ?_)
   obtain ⟨y88, hy88, hr⟩ := bind_some hr
   refine W.keep (u_r06_Decode_2 (Zx.refl _) st h5 o5 h8 s8 h10 hy88) ?_
   rintro ex94 fr89 m90 hk92 ⟨z91, hz93, st, rfl, h63, O95, -⟩
   replace s8 := s8.mono hz93.le
   have h5 := (hk92 5 rfl).trans h5
   have h8 := (hk92 8 rfl).trans h8
   have h9 := (hk92 9 rfl).trans h9
   have h10 := (hk92 10 rfl).trans h10
   replace hz := hz.trans hz93
   clear hk92
   refine thenQ.n ?_
   rcases if_some hr with ⟨hc96, hr⟩ | ⟨hc99, hr⟩
   ·refine W.condT h63 hc96 (W.seq (W.region ?_))
    refine sx rfl (pAssign (v := (Value.slice none 0 0)) rfl rfl) ?_
    refine sx rfl (pAssign (v := (vI 11)) rfl rfl) ?_
    refine SeqW.done fun fr97 hf98 => ?_
    have h2 : fr97 2 = (Value.slice none 0 0) := (congrFun hf98 2).trans rfl
    have h3 : fr97 3 = (vI 11) := (congrFun hf98 3).trans rfl
    clear hf98
    refine thenQ.n ?_
    refine W.ret ?_
    refine thenQ.r ?_
    refine blockQ.r ?_
    refine thenQ.r ?_
    refine thenQ.r ?_
    obtain rfl := Option.some.inj hr
    exact ⟨z91, hz, st, .inr ⟨_, rfl, rfl, h2, h3, trivial⟩⟩
   ·refine W.condF h63 hc99 (W.skip (thenQ.n ?_))
    refine W.calm (by decide) ?_
    refine sx rfl (pMove (v := (str x9)) rfl h9) ?_
    refine sx rfl (pMove (v := v8) rfl h8) ?_
    refine sx rfl (pMove (v := (vI x10)) rfl h10) ?_
    obtain ⟨y100, hy100, hr⟩ := bind_some hr
    refine SeqW.consX rfl (kIdxR (T := (TU8 5)) (xs := x8) (n := x10) rfl Try.underlying23 Try.type5 rfl rfl rfl s8 hy100 ?_)
    intro B101 f102 cs103 hd104 hc105
    obtain rfl := hd104
    refine SeqW.consX rfl (kLoad (v := (Value.int .u8 (UInt8.toNat y100 : Int))) rfl Try.underlying5 rfl rfl (ldz_load st.fz (hc105 0 _ rfl)) ?_)
    refine sx rfl (pQuo (k := .u8) (a := (UInt8.toNat y100 : Int)) (b := 16) rfl rfl rfl (by decide)) ?_
    refine sx rfl (pAdd (k := .u8) (a := 48) (b := (IntKind.wrap .u8 (Int.tdiv (UInt8.toNat y100 : Int) 16))) rfl rfl rfl) ?_
    refine sx rfl (pMove (v := v8) rfl h8) ?_
    refine sx rfl (pMove (v := (vI x10)) rfl h10) ?_
    obtain ⟨y106, hy106, hr⟩ := bind_some hr
    refine SeqW.consX rfl (kIdxR (T := (TU8 5)) (xs := x8) (n := x10) rfl Try.underlying23 Try.type5 rfl rfl rfl s8 hy106 ?_)
    intro B107 f108 cs109 hd110 hc111
    obtain rfl := hd110
    refine SeqW.consX rfl (kLoad (v := (Value.int .u8 (UInt8.toNat y106 : Int))) rfl Try.underlying5 rfl rfl (ldz_load st.fz (hc111 0 _ rfl)) ?_)
    refine sx rfl (pRem (k := .u8) (a := (UInt8.toNat y106 : Int)) (b := 16) rfl rfl rfl (by decide)) ?_
    refine sx rfl (pAdd (k := .u8) (a := 48) (b := (Int.tmod (UInt8.toNat y106 : Int) 16)) rfl rfl rfl) ?_
    obtain ⟨y112, hy112, hr⟩ := bind_some hr
    obtain ⟨y113, hy113, hr⟩ := bind_some hr
    refine SeqW.consX rfl (kBuild (T := (TU8 5)) rfl Try.underlying23 Try.type5 rfl rfl rfl rfl ([y112, y113] : List UInt8) [[Value.int .u8 (UInt8.toNat y112 : Int)], [Value.int .u8 (UInt8.toNat y113 : Int)]] rfl rfl rfl (BuildOk.mk (w := (Value.int .u8 (UInt8.toNat y112 : Int))) (by rw [← toU8_some hy112]; exact rfl) rfl rfl rfl (BuildOk.mk (w := (Value.int .u8 (UInt8.toNat y113 : Int))) (by rw [← toU8_some hy113]; exact rfl) rfl rfl rfl trivial)) st ?_)
    intro V114 m115 st O116 sm117 hap118
    have A120 := hap118 _ O95.lt
    replace O95 := O95.same sm117 Ap.none'
    refine SeqW.consX rfl (kStrO (s := ([y112, y113] : List UInt8)) rfl Try.underlying23 Try.underlying5 Try.underlying9 rfl O116 ?_)
    obtain ⟨y121, hy121, hr⟩ := bind_some hr
    refine SeqW.consX rfl (kAddS (s := x9) (r := ([y112, y113] : List UInt8)) rfl rfl rfl hy121 ?_)
    refine sx rfl (pAssign (v := (str y121)) rfl rfl) ?_
    refine SeqW.done fun fr122 hf123 => ?_
    have h5 := (congrFun hf123 5).trans h5
    have h8 := (congrFun hf123 8).trans h8
    have h9 : fr122 9 = (str y121) := (congrFun hf123 9).trans rfl
    have h10 := (congrFun hf123 10).trans h10
    clear hf123
    refine blockQ.n ?_
    refine thenQ.n (W.region ?_)
    refine sx rfl (pMove (v := (vI x10)) rfl h10) ?_
    refine sx rfl (pAdd (k := .i64) (a := x10) (b := 1) rfl rfl rfl) ?_
    obtain ⟨y124, hy124, hr⟩ := lt_some hr
    refine sx rfl (pAssign rfl (congrArg (Value.int .i64) hy124)) ?_
    refine SeqW.done fun fr125 hf126 => ?_
    have h5 := (congrFun hf126 5).trans h5
    have h8 := (congrFun hf126 8).trans h8
    have h9 := (congrFun hf126 9).trans h9
    have h10 : fr125 10 = (vI y124) := (congrFun hf126 10).trans rfl
    clear hf126
    refine thenQ.n ?_
    exact ih hz st h5 O95 h8 s8 h9 h10 hr
  ·refine W.condF h47 hc127 ?_
   refine W.exit ?_
   refine thenQ.x ?_
   refine thenQ.x ?_
   obtain rfl := Option.some.inj hr
   exact ⟨z, hz, st, .inl ⟨_, rfl, rfl, h9, o5, trivial⟩⟩

theorem u_r06_Decode_3 {N : Nat}  {z0 z : Nat → Blk} {e m : Mem} {k : Option Nat} {fr : Nat → Value} {x8 : List UInt8} {x5 : List Wagon} {v5 : Value} {v8 : Value} (hz : Zx e.next z0 z) (st : St z e m k) (h5 : fr 5 = v5) (o5 : OwF TWagon z e m k x5 v5) (h8 : fr 8 = v8) (s8 : SlR (TU8 5) z x8 v8) {r : Bool} (hr : r06_Decode_3 N x8 = some r) : W Try.prog (sub (bodyOf Try.f41) [1, 1, 1, 1, 1, 0, 1, 0, 0, 1, 0, 0, 1, 1, 1, 0, 0]) (fun ex fr' m' => ∃ z', Zx e.next z0 z' ∧ St z' e m' k ∧ ex = AExit.normal ∧ fr' 95 = (vB r) ∧ OwF TWagon z' e m' k x5 v5 ∧ True) fr m := by
 unfold r06_Decode_3 at hr
 refine W.region ?_
 refine sx rfl (pMove (v := v8) rfl h8) ?_
 obtain ⟨y137, hy137, hr⟩ := bind_some hr
 refine SeqW.consX rfl (kIdxR (T := (TU8 5)) (xs := x8) (n := 13) rfl Try.underlying23 Try.type5 rfl rfl rfl s8 hy137 ?_)
 intro B138 f139 cs140 hd141 hc142
 obtain rfl := hd141
 refine SeqW.consX rfl (kLoad (v := (Value.int .u8 (UInt8.toNat y137 : Int))) rfl Try.underlying5 rfl rfl (ldz_load st.fz (hc142 0 _ rfl)) ?_)
 refine sx rfl (pGtr (k := .u8) (a := (UInt8.toNat y137 : Int)) (b := 25) rfl rfl rfl) ?_
 refine sx rfl (pMove (v := (vB (decide (25 < (UInt8.toNat y137 : Int))))) rfl rfl) ?_
 rcases if_some hr with ⟨hc143, hr⟩ | ⟨hc146, hr⟩
 ·refine kx rfl rfl rfl hc143 ?_
  iterate 4 refine kx rfl rfl rfl hc143 ?_
  refine SeqW.skipU rfl rfl rfl ?_
  refine SeqW.skipU rfl rfl rfl ?_
  refine SeqW.skipU rfl rfl rfl ?_
  refine SeqW.skipU rfl rfl rfl ?_
  refine kx rfl rfl rfl hc143 ?_
  refine sx rfl (pPick (t := true) (v := (vB true)) rfl ((congrArg vB hc143)) rfl) ?_
  refine SeqW.done fun fr144 hf145 => ?_
  have h5 := (congrFun hf145 5).trans h5
  have h8 := (congrFun hf145 8).trans h8
  have h95 : fr144 95 = (vB true) := (congrFun hf145 95).trans rfl
  clear hf145
  obtain rfl := Option.some.inj hr
  exact ⟨z, hz, st, rfl, h95, o5, trivial⟩
 ·refine SeqW.consG rfl rfl rfl hc146 (StepX.pure (pMove (v := v8) rfl h8) ?_)
  obtain ⟨y147, hy147, hr⟩ := bind_some hr
  refine SeqW.consG rfl rfl rfl hc146 (kIdxR (T := (TU8 5)) (xs := x8) (n := 13) rfl Try.underlying23 Try.type5 rfl rfl rfl s8 hy147 ?_)
  intro B148 f149 cs150 hd151 hc152
  obtain rfl := hd151
  refine SeqW.consG rfl rfl rfl hc146 (kLoad (v := (Value.int .u8 (UInt8.toNat y147 : Int))) rfl Try.underlying5 rfl rfl (ldz_load st.fz (hc152 0 _ rfl)) ?_)
  refine SeqW.consG rfl rfl rfl hc146 (StepX.pure (pGeq (k := .u8) (a := (UInt8.toNat y147 : Int)) (b := 10) rfl rfl rfl) ?_)
  refine SeqW.consG rfl rfl rfl hc146 (StepX.pure (pMove (v := (vB (decide (10 ≤ (UInt8.toNat y147 : Int))))) rfl rfl) ?_)
  rcases if_some hr with ⟨hc153, hr⟩ | ⟨hc162, hr⟩
  ·refine SeqW.consG rfl rfl rfl hc153 (StepX.pure (pMove (v := v8) rfl h8) ?_)
   obtain ⟨y154, hy154, hr⟩ := bind_some hr
   refine SeqW.consG rfl rfl rfl hc153 (kIdxR (T := (TU8 5)) (xs := x8) (n := 13) rfl Try.underlying23 Try.type5 rfl rfl rfl s8 hy154 ?_)
   intro B155 f156 cs157 hd158 hc159
   obtain rfl := hd158
   refine SeqW.consG rfl rfl rfl hc153 (kLoad (v := (Value.int .u8 (UInt8.toNat y154 : Int))) rfl Try.underlying5 rfl rfl (ldz_load st.fz (hc159 0 _ rfl)) ?_)
   refine SeqW.consG rfl rfl rfl hc153 (StepX.pure (pLeq (k := .u8) (a := (UInt8.toNat y154 : Int)) (b := 15) rfl rfl rfl) ?_)
   refine SeqW.consG rfl rfl rfl hc146 (StepX.pure (pPick (t := true) (v := (vB (decide ((UInt8.toNat y154 : Int) ≤ 15)))) rfl ((congrArg vB hc153)) rfl) ?_)
   refine sx rfl (pPick (t := false) (v := (vB (decide ((UInt8.toNat y154 : Int) ≤ 15)))) rfl ((congrArg vB hc146)) rfl) ?_
   refine SeqW.done fun fr160 hf161 => ?_
   have h5 := (congrFun hf161 5).trans h5
   have h8 := (congrFun hf161 8).trans h8
   have h95 : fr160 95 = (vB (decide ((UInt8.toNat y154 : Int) ≤ 15))) := (congrFun hf161 95).trans rfl
   clear hf161
   obtain rfl := Option.some.inj hr
   exact ⟨z, hz, st, rfl, h95, o5, trivial⟩
  ·refine kx rfl rfl rfl hc162 ?_
   iterate 3 refine kx rfl rfl rfl hc162 ?_
   refine SeqW.consG rfl rfl rfl hc146 (StepX.pure (pPick (t := false) (v := (vB false)) rfl ((congrArg vB hc162)) rfl) ?_)
   refine sx rfl (pPick (t := false) (v := (vB false)) rfl ((congrArg vB hc146)) rfl) ?_
   refine SeqW.done fun fr163 hf164 => ?_
   have h5 := (congrFun hf164 5).trans h5
   have h8 := (congrFun hf164 8).trans h8
   have h95 : fr163 95 = (vB false) := (congrFun hf164 95).trans rfl
   clear hf164
   obtain rfl := Option.some.inj hr
   exact ⟨z, hz, st, rfl, h95, o5, trivial⟩

theorem u_r06_Decode_0 : ∀ (n : Nat) {N : Nat}  {z0 z : Nat → Blk} {e m : Mem} {k : Option Nat} {fr : Nat → Value} {x0 : List UInt8} {x5 : List Wagon} {x6 : Int} {x7 : Int} {v0 : Value} {v5 : Value} (hz : Zx e.next z0 z) (st : St z e m k) (h0 : fr 0 = v0) (s0 : SlR (TU8 5) z x0 v0) (h5 : fr 5 = v5) (o5 : OwF TWagon z e m k x5 v5) (h6 : fr 6 = (vI x6)) (h7 : fr 7 = (vI x7)) {r : Sum (List Wagon) (Int)} (hr : r06_Decode_0 N x0 n x5 x6 x7 = some r), W Try.prog (sub (bodyOf Try.f41) [1, 1, 1, 1, 1, 0, 1, 0]) (fun ex fr' m' => ∃ z', Zx e.next z0 z' ∧ St z' e m' k ∧ ((∃ q, r = Sum.inl q ∧ ex = AExit.exit 1 ∧ ∃ (w5 : Value), fr' 5 = w5 ∧ OwF TWagon z' e m' k q w5 ∧ True) ∨ (∃ q, r = Sum.inr q ∧ ex = AExit.ret ∧ fr' 2 = (Value.slice none 0 0) ∧ fr' 3 = (vI q) ∧ True))) fr m := by
 intro n
 induction n with
 | zero => intro N z0 z e m k fr x0 x5 x6 x7 v0 v5 hz st h0 s0 h5 o5 h6 h7 r hr; cases (show (none : Option _) = some r from hr)
 | succ n ih =>
  intro N z0 z e m k fr x0 x5 x6 x7 v0 v5 hz st h0 s0 h5 o5 h6 h7 r hr
  unfold r06_Decode_0 at hr
  refine W.loop1 ?_
  refine W.seq (W.seq (W.region ?_))
  refine sx rfl (pMove (v := (vI x7)) rfl h7) ?_
  refine sx rfl (pMove (v := v0) rfl h0) ?_
  obtain ⟨y47, hy47, hr⟩ := bind_some hr
  refine SeqW.consX rfl (kIdxR (T := (TU8 5)) (xs := x0) (n := 0) rfl Try.underlying23 Try.type5 rfl rfl rfl s0 hy47 ?_)
  intro B48 f49 cs50 hd51 hc52
  obtain rfl := hd51
  refine SeqW.consX rfl (kLoad (v := (Value.int .u8 (UInt8.toNat y47 : Int))) rfl Try.underlying5 rfl rfl (ldz_load st.fz (hc52 0 _ rfl)) ?_)
  refine sx rfl (pConv (k := .u8) (a := (UInt8.toNat y47 : Int)) rfl Try.underlying5 Try.underlying3 rfl) ?_
  refine sx rfl (pLss (k := .i64) (a := x7) (b := (IntKind.wrap .i64 (UInt8.toNat y47 : Int))) rfl rfl rfl) ?_
  refine SeqW.done fun fr53 hf54 => ?_
  have h0 := (congrFun hf54 0).trans h0
  have h5 := (congrFun hf54 5).trans h5
  have h6 := (congrFun hf54 6).trans h6
  have h7 := (congrFun hf54 7).trans h7
  have h40 : fr53 40 = (vB (decide (x7 < (IntKind.wrap .i64 (UInt8.toNat y47 : Int))))) := (congrFun hf54 40).trans rfl
  clear hf54
  refine thenQ.n ?_
  rcases if_some hr with ⟨hc55, hr⟩ | ⟨hc260, hr⟩
  ·refine W.condT h40 hc55 (W.skip ?_)
   refine thenQ.n (W.seq ?_)
   refine W.block ?_
   refine W.seq (W.region ?_)
   refine sx rfl (pMove (v := v0) rfl h0) ?_
   refine sx rfl (pMove (v := (vI x6)) rfl h6) ?_
   obtain ⟨y56, hy56, hr⟩ := bind_some hr
   refine SeqW.consX rfl (kCut (T := (TU8 5)) (xs := x0) (a := x6) (b := (x0.length : Int)) rfl Try.underlying23 Try.type5 rfl rfl ⟨_, rfl⟩ rfl s0 st hy56 ?_)
   intro V57 _ hI59 Q58
   refine sx rfl (pAssign (v := V57) rfl rfl) ?_
   refine SeqW.done fun fr61 hf62 => ?_
   have h0 := (congrFun hf62 0).trans h0
   have h5 := (congrFun hf62 5).trans h5
   have h6 := (congrFun hf62 6).trans h6
   have h7 := (congrFun hf62 7).trans h7
   have h8 : fr61 8 = V57 := (congrFun hf62 8).trans rfl
   clear hf62
   refine thenQ.n (W.seq (W.region ?_))
   refine sx rfl (pAssign (v := (str [])) rfl rfl) ?_
   refine SeqW.done fun fr63 hf64 => ?_
   have h0 := (congrFun hf64 0).trans h0
   have h5 := (congrFun hf64 5).trans h5
   have h6 := (congrFun hf64 6).trans h6
   have h7 := (congrFun hf64 7).trans h7
   have h8 := (congrFun hf64 8).trans h8
   have h9 : fr63 9 = (str []) := (congrFun hf64 9).trans rfl
   clear hf64
   refine thenQ.n (W.seq ?_)
   refine W.seq (W.region ?_)
   refine sx rfl (pAssign (v := (vI 0)) rfl rfl) ?_
   refine SeqW.done fun fr65 hf66 => ?_
   have h0 := (congrFun hf66 0).trans h0
   have h5 := (congrFun hf66 5).trans h5
   have h6 := (congrFun hf66 6).trans h6
   have h7 := (congrFun hf66 7).trans h7
   have h8 := (congrFun hf66 8).trans h8
   have h9 := (congrFun hf66 9).trans h9
   have h10 : fr65 10 = (vI 0) := (congrFun hf66 10).trans rfl
   clear hf66
   refine thenQ.n ?_
   refine W.block ?_
   obtain ⟨y128, hy128, hr⟩ := bind_some hr
   refine W.keep (u_r06_Decode_1 _ (Zx.refl _) st h5 o5 h8 Q58 h9 h10 hy128) ?_
   rintro ex134 fr129 m130 hk132 ⟨z131, hz133, st, ⟨y135, rfl, rfl, h9, O136, -⟩ | ⟨y259, rfl, rfl, h2, h3, -⟩⟩
   ·dsimp only at hr
    replace s0 := s0.mono hz133.le
    replace Q58 := Q58.mono hz133.le
    have h0 := (hk132 0 rfl).trans h0
    have h5 := (hk132 5 rfl).trans h5
    have h6 := (hk132 6 rfl).trans h6
    have h7 := (hk132 7 rfl).trans h7
    have h8 := (hk132 8 rfl).trans h8
    replace hz := hz.trans hz133
    clear hk132
    refine blockQ.hit ?_
    refine thenQ.n (W.seq (W.seq ?_))
    obtain ⟨y165, hy165, hr⟩ := bind_some hr
    refine W.keep (u_r06_Decode_3 (Zx.refl _) st h5 O136 h8 Q58 hy165) ?_
    rintro ex171 fr166 m167 hk169 ⟨z168, hz170, st, rfl, h95, O172, -⟩
    replace s0 := s0.mono hz170.le
    replace Q58 := Q58.mono hz170.le
    have h0 := (hk169 0 rfl).trans h0
    have h5 := (hk169 5 rfl).trans h5
    have h6 := (hk169 6 rfl).trans h6
    have h7 := (hk169 7 rfl).trans h7
    have h8 := (hk169 8 rfl).trans h8
    have h9 := (hk169 9 rfl).trans h9
    replace hz := hz.trans hz170
    clear hk169
    refine thenQ.n ?_
    rcases if_some hr with ⟨hc173, hr⟩ | ⟨hc176, hr⟩
    ·refine W.condT h95 hc173 (W.seq (W.region ?_))
     refine sx rfl (pAssign (v := (Value.slice none 0 0)) rfl rfl) ?_
     refine sx rfl (pAssign (v := (vI 11)) rfl rfl) ?_
     refine SeqW.done fun fr174 hf175 => ?_
     have h2 : fr174 2 = (Value.slice none 0 0) := (congrFun hf175 2).trans rfl
     have h3 : fr174 3 = (vI 11) := (congrFun hf175 3).trans rfl
     clear hf175
     refine thenQ.n ?_
     refine W.ret ?_
     refine thenQ.r ?_
     refine blockQ.r ?_
     refine thenQ.r ?_
     refine thenQ.r ?_
     obtain rfl := Option.some.inj hr
     exact ⟨z168, hz, st, .inr ⟨_, rfl, rfl, h2, h3, trivial⟩⟩
    ·refine W.condF h95 hc176 (W.skip ?_)
     refine thenQ.n (W.seq (W.region ?_))
     refine sx rfl (pMove (v := V57) rfl h8) ?_
     obtain ⟨y177, hy177, hr⟩ := bind_some hr
     refine SeqW.consX rfl (kIdxR (T := (TU8 5)) (xs := y56) (n := 14) rfl Try.underlying23 Try.type5 rfl rfl rfl Q58 hy177 ?_)
     intro B178 f179 cs180 hd181 hc182
     obtain rfl := hd181
     refine SeqW.consX rfl (kLoad (v := (Value.int .u8 (UInt8.toNat y177 : Int))) rfl Try.underlying5 rfl rfl (ldz_load st.fz (hc182 0 _ rfl)) ?_)
     refine sx rfl (pConv (k := .u8) (a := (UInt8.toNat y177 : Int)) rfl Try.underlying5 Try.underlying3 rfl) ?_
     obtain ⟨y183, hy183, hr⟩ := lt_some hr
     refine sx rfl (pAssign rfl (congrArg (Value.int .i64) hy183)) ?_
     refine SeqW.done fun fr184 hf185 => ?_
     have h0 := (congrFun hf185 0).trans h0
     have h5 := (congrFun hf185 5).trans h5
     have h6 := (congrFun hf185 6).trans h6
     have h7 := (congrFun hf185 7).trans h7
     have h8 := (congrFun hf185 8).trans h8
     have h9 := (congrFun hf185 9).trans h9
     have h11 : fr184 11 = (vI y183) := (congrFun hf185 11).trans rfl
     clear hf185
     refine thenQ.n (W.seq ?_)
     refine W.draw ?_
     refine DrawW.cons rfl (StepX.pure (pMove (v := v5) rfl h5) ?_)
     refine ⟨trivial, ?_⟩
     refine DrawW.cons rfl (StepX.pure (pMove (v := (str y135)) rfl h9) ?_)
     refine ⟨trivial, ?_⟩
     refine DrawW.cons rfl (StepX.pure (pMove (v := V57) rfl h8) ?_)
     refine ⟨trivial, ?_⟩
     obtain ⟨y186, hy186, hr⟩ := bind_some hr
     refine DrawW.cons rfl (kCut (T := (TU8 5)) (xs := y56) (a := 6) (b := (y56.length : Int)) rfl Try.underlying23 Try.type5 rfl rfl ⟨_, rfl⟩ rfl Q58 st hy186 ?_)
     intro V187 _ hI189 Q188
     refine ⟨?_, ?_⟩
     ·exact demN
     have sto191 := st
     have old192 := O172
     obtain ⟨y193, hy193, hr⟩ := bind_some hr
     refine DrawW.cons rfl (StepX.call (gCallee rfl rfl (args1 rfl)) ((c_r06_two (z := z168) st.fz st.dead Q188 hy193).mono ?_))
     rintro _ _ ⟨rfl, rfl⟩
     refine ⟨⟨?_, ?_⟩, ?_⟩
     ·first | refine demP (hI189 _ st.fz) ?_ | refine demA (by decide) ?_
      exact demN
     ·exact demN
     refine DrawW.cons rfl (StepX.pure (pMove (v := V57) rfl h8) ?_)
     refine ⟨trivial, ?_⟩
     obtain ⟨y194, hy194, hr⟩ := bind_some hr
     refine DrawW.cons rfl (kIdxR (T := (TU8 5)) (xs := y56) (n := 8) rfl Try.underlying23 Try.type5 rfl rfl rfl Q58 hy194 ?_)
     intro B195 f196 cs197 hd198 hc199
     obtain rfl := hd198
     refine ⟨trivial, ?_⟩
     refine DrawW.cons rfl (kLoad (v := (Value.int .u8 (UInt8.toNat y194 : Int))) rfl Try.underlying5 rfl rfl (ldz_load st.fz (hc199 0 _ rfl)) ?_)
     refine ⟨?_, ?_⟩
     ·first | refine demP (gLoad (v := (Value.int .u8 (UInt8.toNat y194 : Int))) rfl Try.underlying5 rfl rfl (ldz_load sto191.fz (hc199 0 _ rfl))) ?_ | refine demA (by decide) ?_
      exact demN
     refine DrawW.cons rfl (StepX.pure (pConv (k := .u8) (a := (UInt8.toNat y194 : Int)) rfl Try.underlying5 Try.underlying3 rfl) ?_)
     refine ⟨trivial, ?_⟩
     refine DrawW.cons rfl (StepX.pure (pMove (v := V57) rfl h8) ?_)
     refine ⟨trivial, ?_⟩
     obtain ⟨y200, hy200, hr⟩ := bind_some hr
     refine DrawW.cons rfl (kCut (T := (TU8 5)) (xs := y56) (a := 9) (b := (y56.length : Int)) rfl Try.underlying23 Try.type5 rfl rfl ⟨_, rfl⟩ rfl Q58 st hy200 ?_)
     intro V201 _ hI203 Q202
     refine ⟨?_, ?_⟩
     ·first | refine demP (hI203 _ sto191.fz) ?_ | refine demA (by decide) ?_
      exact demN
     have sto205 := st
     have old206 := O172
     obtain ⟨y207, hy207, hr⟩ := bind_some hr
     refine DrawW.cons rfl (StepX.call (gCallee rfl rfl (args1 rfl)) ((c_r06_two (z := z168) st.fz st.dead Q202 hy207).mono ?_))
     rintro _ _ ⟨rfl, rfl⟩
     refine ⟨⟨?_, ?_⟩, ?_⟩
     ·first | refine demP (hI203 _ st.fz) ?_ | refine demA (by decide) ?_
      first | refine demP (gLoad (v := (Value.int .u8 (UInt8.toNat y194 : Int))) rfl Try.underlying5 rfl rfl (ldz_load st.fz (hc199 0 _ rfl))) ?_ | refine demA (by decide) ?_
      first | refine demP (hI189 _ st.fz) ?_ | refine demA (by decide) ?_
      exact demN
     ·exact demN
     refine DrawW.cons rfl (StepX.pure (pMove (v := V57) rfl h8) ?_)
     refine ⟨trivial, ?_⟩
     obtain ⟨y208, hy208, hr⟩ := bind_some hr
     refine DrawW.cons rfl (kCut (T := (TU8 5)) (xs := y56) (a := 11) (b := (y56.length : Int)) rfl Try.underlying23 Try.type5 rfl rfl ⟨_, rfl⟩ rfl Q58 st hy208 ?_)
     intro V209 _ hI211 Q210
     refine ⟨?_, ?_⟩
     ·first | refine demP (hI211 _ sto205.fz) ?_ | refine demA (by decide) ?_
      first | refine demP (hI211 _ sto191.fz) ?_ | refine demA (by decide) ?_
      exact demN
     have sto213 := st
     have old214 := O172
     obtain ⟨y215, hy215, hr⟩ := bind_some hr
     refine DrawW.cons rfl (StepX.call (gCallee rfl rfl (args1 rfl)) ((c_r06_two (z := z168) st.fz st.dead Q210 hy215).mono ?_))
     rintro _ _ ⟨rfl, rfl⟩
     refine ⟨⟨?_, ?_⟩, ?_⟩
     ·first | refine demP (hI211 _ st.fz) ?_ | refine demA (by decide) ?_
      first | refine demP (hI203 _ st.fz) ?_ | refine demA (by decide) ?_
      first | refine demP (gLoad (v := (Value.int .u8 (UInt8.toNat y194 : Int))) rfl Try.underlying5 rfl rfl (ldz_load st.fz (hc199 0 _ rfl))) ?_ | refine demA (by decide) ?_
      first | refine demP (hI189 _ st.fz) ?_ | refine demA (by decide) ?_
      exact demN
     ·exact demN
     refine DrawW.cons rfl (StepX.pure (pMove (v := V57) rfl h8) ?_)
     refine ⟨trivial, ?_⟩
     obtain ⟨y216, hy216, hr⟩ := bind_some hr
     refine DrawW.cons rfl (kIdxR (T := (TU8 5)) (xs := y56) (n := 13) rfl Try.underlying23 Try.type5 rfl rfl rfl Q58 hy216 ?_)
     intro B217 f218 cs219 hd220 hc221
     obtain rfl := hd220
     refine ⟨trivial, ?_⟩
     refine DrawW.cons rfl (kLoad (v := (Value.int .u8 (UInt8.toNat y216 : Int))) rfl Try.underlying5 rfl rfl (ldz_load st.fz (hc221 0 _ rfl)) ?_)
     refine ⟨?_, ?_⟩
     ·first | refine demP (gLoad (v := (Value.int .u8 (UInt8.toNat y216 : Int))) rfl Try.underlying5 rfl rfl (ldz_load sto213.fz (hc221 0 _ rfl))) ?_ | refine demA (by decide) ?_
      first | refine demP (gLoad (v := (Value.int .u8 (UInt8.toNat y216 : Int))) rfl Try.underlying5 rfl rfl (ldz_load sto205.fz (hc221 0 _ rfl))) ?_ | refine demA (by decide) ?_
      first | refine demP (gLoad (v := (Value.int .u8 (UInt8.toNat y216 : Int))) rfl Try.underlying5 rfl rfl (ldz_load sto191.fz (hc221 0 _ rfl))) ?_ | refine demA (by decide) ?_
      exact demN
     refine DrawW.cons rfl (StepX.pure (pRem (k := .u8) (a := (UInt8.toNat y216 : Int)) (b := 16) rfl rfl rfl (by decide)) ?_)
     refine ⟨trivial, ?_⟩
     refine DrawW.cons rfl (StepX.pure (pConv (k := .u8) (a := (Int.tmod (UInt8.toNat y216 : Int) 16)) rfl Try.underlying5 Try.underlying3 rfl) ?_)
     refine ⟨trivial, ?_⟩
     refine DrawW.cons rfl (StepX.pure (pMove (v := V57) rfl h8) ?_)
     refine ⟨trivial, ?_⟩
     obtain ⟨y222, hy222, hr⟩ := bind_some hr
     refine DrawW.cons rfl (kIdxR (T := (TU8 5)) (xs := y56) (n := 13) rfl Try.underlying23 Try.type5 rfl rfl rfl Q58 hy222 ?_)
     intro B223 f224 cs225 hd226 hc227
     obtain rfl := hd226
     refine ⟨trivial, ?_⟩
     refine DrawW.cons rfl (kLoad (v := (Value.int .u8 (UInt8.toNat y222 : Int))) rfl Try.underlying5 rfl rfl (ldz_load st.fz (hc227 0 _ rfl)) ?_)
     refine ⟨?_, ?_⟩
     ·first | refine demP (gLoad (v := (Value.int .u8 (UInt8.toNat y222 : Int))) rfl Try.underlying5 rfl rfl (ldz_load sto213.fz (hc227 0 _ rfl))) ?_ | refine demA (by decide) ?_
      first | refine demP (gLoad (v := (Value.int .u8 (UInt8.toNat y222 : Int))) rfl Try.underlying5 rfl rfl (ldz_load sto205.fz (hc227 0 _ rfl))) ?_ | refine demA (by decide) ?_
      first | refine demP (gLoad (v := (Value.int .u8 (UInt8.toNat y222 : Int))) rfl Try.underlying5 rfl rfl (ldz_load sto191.fz (hc227 0 _ rfl))) ?_ | refine demA (by decide) ?_
      exact demN
     refine DrawW.cons rfl (StepX.pure (pGeq (k := .u8) (a := (UInt8.toNat y222 : Int)) (b := 16) rfl rfl rfl) ?_)
     refine ⟨trivial, ?_⟩
     refine DrawW.cons rfl (StepX.pure (pMove (v := V57) rfl h8) ?_)
     refine ⟨trivial, ?_⟩
     refine DrawW.cons rfl (StepX.pure (pMove (v := (vI y183)) rfl h11) ?_)
     refine ⟨trivial, ?_⟩
     refine DrawW.cons rfl (StepX.pure (pAdd (k := .i64) (a := 15) (b := y183) rfl rfl rfl) ?_)
     refine ⟨trivial, ?_⟩
     obtain ⟨y228, hy228, hr⟩ := bind_some hr
     refine DrawW.cons rfl (kCut (T := (TU8 5)) (xs := y56) (a := 15) (b := (IntKind.wrap .i64 (15 + y183))) rfl Try.underlying23 Try.type5 rfl rfl ⟨_, rfl⟩ ⟨_, rfl⟩ Q58 st hy228 ?_)
     intro V229 _ hI231 Q230
     refine ⟨?_, ?_⟩
     ·first | refine demP (hI231 _ sto213.fz) ?_ | refine demA (by decide) ?_
      first | refine demP (hI231 _ sto205.fz) ?_ | refine demA (by decide) ?_
      first | refine demP (hI231 _ sto191.fz) ?_ | refine demA (by decide) ?_
      exact demN
     refine DrawW.cons rfl (kStrR (s := y228) rfl Try.underlying23 Try.underlying5 Try.underlying9 rfl Q230 st ?_)
     refine ⟨?_, ?_⟩
     ·first | refine demP (rStr rfl Try.underlying23 Try.underlying5 Try.underlying9 rfl (Q230.src sto213.fz) (by obtain ⟨a, c, rfl⟩ := Q230.len; exact ⟨_, _, _, rfl⟩)) ?_ | refine demA (by decide) ?_
      first | refine demP (rStr rfl Try.underlying23 Try.underlying5 Try.underlying9 rfl (Q230.src sto205.fz) (by obtain ⟨a, c, rfl⟩ := Q230.len; exact ⟨_, _, _, rfl⟩)) ?_ | refine demA (by decide) ?_
      first | refine demP (rStr rfl Try.underlying23 Try.underlying5 Try.underlying9 rfl (Q230.src sto191.fz) (by obtain ⟨a, c, rfl⟩ := Q230.len; exact ⟨_, _, _, rfl⟩)) ?_ | refine demA (by decide) ?_
      exact demN
     refine DrawW.cons rfl (kBuildS [(0, (str y135)), (1, (vI y193)), (2, (vI (IntKind.wrap .i64 (UInt8.toNat y194 : Int)))), (3, (vI y207)), (4, (vI y215)), (5, (vI (IntKind.wrap .i64 (Int.tmod (UInt8.toNat y216 : Int) 16)))), (6, (vB (decide (16 ≤ (UInt8.toNat y222 : Int))))), (7, (str y228))] [(str y135), (vI y193), (vI (IntKind.wrap .i64 (UInt8.toNat y194 : Int))), (vI y207), (vI y215), (vI (IntKind.wrap .i64 (Int.tmod (UInt8.toNat y216 : Int) 16))), (vB (decide (16 ≤ (UInt8.toNat y222 : Int)))), (str y228)] rfl Try.underlying42 Try.type42 rfl rfl (places42 Try.underlying42) rfl (rfl) rfl ?_)
     refine ⟨trivial, ?_⟩
     refine DrawW.cons rfl (kBuild (T := TWagon) rfl Try.underlying24 Try.type42 rfl rfl rfl rfl ([(Wagon.mk y135 y193 (IntKind.wrap .i64 (UInt8.toNat y194 : Int)) y207 y215 (IntKind.wrap .i64 (Int.tmod (UInt8.toNat y216 : Int) 16)) (decide (16 ≤ (UInt8.toNat y222 : Int))) y228)] : List Wagon) [[(str y135), (vI y193), (vI (IntKind.wrap .i64 (UInt8.toNat y194 : Int))), (vI y207), (vI y215), (vI (IntKind.wrap .i64 (Int.tmod (UInt8.toNat y216 : Int) 16))), (vB (decide (16 ≤ (UInt8.toNat y222 : Int)))), (str y228)]] rfl rfl rfl (BuildOk.mk (w := (Value.agg [(str y135), (vI y193), (vI (IntKind.wrap .i64 (UInt8.toNat y194 : Int))), (vI y207), (vI y215), (vI (IntKind.wrap .i64 (Int.tmod (UInt8.toNat y216 : Int) 16))), (vB (decide (16 ≤ (UInt8.toNat y222 : Int)))), (str y228)].toArray)) rfl rfl rfl rfl trivial) st ?_)
     intro V233 m234 st O235 sm236 hap237
     have A239 := hap237 _ O172.lt
     replace O172 := O172.same sm236 Ap.none'
     refine ⟨trivial, ?_⟩
     have sto240 := st
     have old241 := O172
     have old242 := O235
     obtain ⟨y243, hy243, hr⟩ := bind_some hr
     refine DrawW.cons rfl (kAppend (T := TWagon) (xs := x5) (ys := ([(Wagon.mk y135 y193 (IntKind.wrap .i64 (UInt8.toNat y194 : Int)) y207 y215 (IntKind.wrap .i64 (Int.tmod (UInt8.toNat y216 : Int) 16)) (decide (16 ≤ (UInt8.toNat y222 : Int))) y228)] : List Wagon)) rfl Try.underlying24 Try.type42 rfl rfl rfl rfl rfl rfl (.inl ⟨_, Try.underlying24⟩) rfl O172 rfl O235.ow.src st hy243 ?_)
     intro V244 m245 st O246 sm247 hap248
     have A250 := hap248 _ O235.lt (Ap.symm A239)
     replace O235 := O235.same sm247 (Ap.symm A239)
     refine ⟨⟨?_, ?_⟩, ?_⟩
     ·first | refine demP (rStr rfl Try.underlying23 Try.underlying5 Try.underlying9 rfl (Q230.src st.fz) (by obtain ⟨a, c, rfl⟩ := Q230.len; exact ⟨_, _, _, rfl⟩)) ?_ | refine demA (by decide) ?_
      first | refine demP (hI231 _ st.fz) ?_ | refine demA (by decide) ?_
      first | refine demP (gLoad (v := (Value.int .u8 (UInt8.toNat y222 : Int))) rfl Try.underlying5 rfl rfl (ldz_load st.fz (hc227 0 _ rfl))) ?_ | refine demA (by decide) ?_
      first | refine demP (gLoad (v := (Value.int .u8 (UInt8.toNat y216 : Int))) rfl Try.underlying5 rfl rfl (ldz_load st.fz (hc221 0 _ rfl))) ?_ | refine demA (by decide) ?_
      first | refine demP (hI211 _ st.fz) ?_ | refine demA (by decide) ?_
      first | refine demP (hI203 _ st.fz) ?_ | refine demA (by decide) ?_
      first | refine demP (gLoad (v := (Value.int .u8 (UInt8.toNat y194 : Int))) rfl Try.underlying5 rfl rfl (ldz_load st.fz (hc199 0 _ rfl))) ?_ | refine demA (by decide) ?_
      first | refine demP (hI189 _ st.fz) ?_ | refine demA (by decide) ?_
      exact demN
     ·first | refine demP (rfl) ?_ | refine demA (by decide) ?_
      exact demN
     refine DrawW.cons rfl (StepX.pure (pAssign (v := V244) rfl rfl) ?_)
     refine ⟨trivial, ?_⟩
     refine DrawW.done fun fr251 hf252 => ?_
     have h0 := (congrFun hf252 0).trans h0
     have h5 : fr251 5 = V244 := (congrFun hf252 5).trans rfl
     have h6 := (congrFun hf252 6).trans h6
     have h7 := (congrFun hf252 7).trans h7
     have h11 := (congrFun hf252 11).trans h11
     clear hf252
     refine thenQ.n (W.region ?_)
     refine sx rfl (pMove (v := (vI x6)) rfl h6) ?_
     refine sx rfl (pMove (v := (vI y183)) rfl h11) ?_
     refine sx rfl (pAdd (k := .i64) (a := 15) (b := y183) rfl rfl rfl) ?_
     refine sx rfl (pAdd (k := .i64) (a := x6) (b := (IntKind.wrap .i64 (15 + y183))) rfl rfl rfl) ?_
     obtain ⟨y253, hy253, hr⟩ := lt_some hr
     refine sx rfl (pAssign rfl (congrArg (Value.int .i64) hy253)) ?_
     refine SeqW.done fun fr254 hf255 => ?_
     have h0 := (congrFun hf255 0).trans h0
     have h5 := (congrFun hf255 5).trans h5
     have h6 : fr254 6 = (vI y253) := (congrFun hf255 6).trans rfl
     have h7 := (congrFun hf255 7).trans h7
     clear hf255
     refine blockQ.n ?_
     refine thenQ.n (W.region ?_)
     refine sx rfl (pMove (v := (vI x7)) rfl h7) ?_
     refine sx rfl (pAdd (k := .i64) (a := x7) (b := 1) rfl rfl rfl) ?_
     obtain ⟨y256, hy256, hr⟩ := lt_some hr
     refine sx rfl (pAssign rfl (congrArg (Value.int .i64) hy256)) ?_
     refine SeqW.done fun fr257 hf258 => ?_
     have h0 := (congrFun hf258 0).trans h0
     have h5 := (congrFun hf258 5).trans h5
     have h6 := (congrFun hf258 6).trans h6
     have h7 : fr257 7 = (vI y256) := (congrFun hf258 7).trans rfl
     clear hf258
     refine thenQ.n ?_
     exact ih hz st h0 s0 h5 O246 h6 h7 hr
   ·dsimp only at hr
    replace hz := hz.trans hz133
    clear hk132
    refine blockQ.r ?_
    refine thenQ.r ?_
    refine blockQ.r ?_
    refine thenQ.r ?_
    refine thenQ.r ?_
    obtain rfl := Option.some.inj hr
    exact ⟨z131, hz, st, .inr ⟨_, rfl, rfl, h2, h3, trivial⟩⟩
  ·refine W.condF h40 hc260 ?_
   refine W.exit ?_
   refine thenQ.x ?_
   refine thenQ.x ?_
   obtain rfl := Option.some.inj hr
   exact ⟨z, hz, st, .inl ⟨_, rfl, rfl, v5, h5, o5, trivial⟩⟩

theorem u_r06_Decode {N : Nat}  {z0 z : Nat → Blk} {e m : Mem} {k : Option Nat} {fr : Nat → Value} {x0 : List UInt8} {v0 : Value} (hz : Zx e.next z0 z) (st : St z e m k) (h0 : fr 0 = v0) (s0 : SlR (TU8 5) z x0 v0) {r : List Wagon × Int} (hr : r06_Decode N x0 = some r) : W Try.prog (sub (bodyOf Try.f41) []) (fun ex fr' m' => ∃ z', Zx e.next z0 z' ∧ St z' e m' k ∧ (ex = .normal ∨ ex = .ret) ∧ ∃ (w2 : Value), fr' 2 = w2 ∧ SlR TWagon z' r.1 w2 ∧ fr' 3 = (vI r.2) ∧ True) fr m := by
 unfold r06_Decode at hr
 refine W.seq (W.region ?_)
 refine sx rfl (pAssign (v := (Value.slice none 0 0)) rfl rfl) ?_
 refine sx rfl (pAssign (v := (vI 0)) rfl rfl) ?_
 refine SeqW.done fun fr1 hf2 => ?_
 have h0 := (congrFun hf2 0).trans h0
 clear hf2
 refine thenQ.n (W.seq (W.region ?_))
 refine sx rfl (pMove (v := v0) rfl h0) ?_
 obtain ⟨y3, hy3, hr⟩ := bind_some hr
 refine SeqW.consX rfl (StepX.call (gCallee rfl rfl (args1 rfl)) ((c_r06_End (z := z) st.fz st.dead s0 hy3).mono ?_))
 rintro _ _ ⟨rfl, rfl⟩
 refine sx rfl (pAssign (v := (vI y3)) rfl rfl) ?_
 refine SeqW.done fun fr4 hf5 => ?_
 have h0 := (congrFun hf5 0).trans h0
 have h4 : fr4 4 = (vI y3) := (congrFun hf5 4).trans rfl
 clear hf5
 refine thenQ.n (W.seq ?_)
 refine W.block ?_
 refine W.seq (W.region ?_)
 refine sx rfl (pMove (v := (vI y3)) rfl h4) ?_
 refine sx rfl (pLss (k := .i64) (a := y3) (b := 0) rfl rfl rfl) ?_
 obtain ⟨y6, hy6, hr⟩ := lt_some hr
 refine sx rfl (pAssign rfl (congrArg vB hy6)) ?_
 refine SeqW.done fun fr7 hf8 => ?_
 have h0 := (congrFun hf8 0).trans h0
 have h4 := (congrFun hf8 4).trans h4
 have h15 : fr7 15 = (vB y6) := (congrFun hf8 15).trans rfl
 clear hf8
 refine thenQ.n ?_
 rcases if_some hr with ⟨hc9, hr⟩ | ⟨hc12, hr⟩
 ·refine W.condT h15 hc9 (W.seq (W.region ?_))
  refine sx rfl (pAssign (v := (Value.slice none 0 0)) rfl rfl) ?_
  refine sx rfl (pAssign (v := (vI 10)) rfl rfl) ?_
  refine SeqW.done fun fr10 hf11 => ?_
  have h2 : fr10 2 = (Value.slice none 0 0) := (congrFun hf11 2).trans rfl
  have h3 : fr10 3 = (vI 10) := (congrFun hf11 3).trans rfl
  clear hf11
  refine thenQ.n ?_
  refine W.ret ?_
  refine blockQ.r ?_
  refine thenQ.r ?_
  obtain rfl := Option.some.inj hr
  exact ⟨z, hz, st, .inr rfl, (Value.slice none 0 0), h2, SlR.nil, h3, trivial⟩
 ·refine W.condF h15 hc12 (W.seq (W.region ?_))
  refine sx rfl (pMove (v := (vI y3)) rfl h4) ?_
  refine sx rfl (pMove (v := v0) rfl h0) ?_
  refine sx rfl (pLenR (xs := x0) rfl Try.underlying23 rfl s0) ?_
  refine sx rfl (pLss (k := .i64) (a := y3) (b := (x0.length : Int)) rfl rfl rfl) ?_
  obtain ⟨y13, hy13, hr⟩ := lt_some hr
  refine sx rfl (pAssign rfl (congrArg vB hy13)) ?_
  refine SeqW.done fun fr14 hf15 => ?_
  have h0 := (congrFun hf15 0).trans h0
  have h4 := (congrFun hf15 4).trans h4
  have h18 : fr14 18 = (vB y13) := (congrFun hf15 18).trans rfl
  clear hf15
  refine thenQ.n ?_
  rcases if_some hr with ⟨hc16, hr⟩ | ⟨hc19, hr⟩
  ·refine W.condT h18 hc16 (W.seq (W.region ?_))
   refine sx rfl (pAssign (v := (Value.slice none 0 0)) rfl rfl) ?_
   refine sx rfl (pAssign (v := (vI 11)) rfl rfl) ?_
   refine SeqW.done fun fr17 hf18 => ?_
   have h2 : fr17 2 = (Value.slice none 0 0) := (congrFun hf18 2).trans rfl
   have h3 : fr17 3 = (vI 11) := (congrFun hf18 3).trans rfl
   clear hf18
   refine thenQ.n ?_
   refine W.ret ?_
   refine blockQ.r ?_
   refine thenQ.r ?_
   obtain rfl := Option.some.inj hr
   exact ⟨z, hz, st, .inr rfl, (Value.slice none 0 0), h2, SlR.nil, h3, trivial⟩
  ·refine W.condF h18 hc19 (W.seq ?_)
   refine W.draw ?_
   refine DrawW.cons rfl (StepX.pure (pMove (v := v0) rfl h0) ?_)
   refine ⟨trivial, ?_⟩
   refine DrawW.cons rfl (StepX.pure (pMove (v := (vI y3)) rfl h4) ?_)
   refine ⟨trivial, ?_⟩
   refine DrawW.cons rfl (StepX.pure (pSub (k := .i64) (a := y3) (b := 2) rfl rfl rfl) ?_)
   refine ⟨trivial, ?_⟩
   obtain ⟨y20, hy20, hr⟩ := bind_some hr
   refine DrawW.cons rfl (kCut (T := (TU8 5)) (xs := x0) (a := (IntKind.wrap .i64 (y3 - 2))) (b := (x0.length : Int)) rfl Try.underlying23 Try.type5 rfl rfl ⟨_, rfl⟩ rfl s0 st hy20 ?_)
   intro V21 _ hI23 Q22
   refine ⟨?_, ?_⟩
   ·exact demN
   have sto25 := st
   obtain ⟨y26, hy26, hr⟩ := bind_some hr
   refine DrawW.cons rfl (StepX.call (gCallee rfl rfl (args1 rfl)) ((c_r06_two (z := z) st.fz st.dead Q22 hy26).mono ?_))
   rintro _ _ ⟨rfl, rfl⟩
   refine ⟨⟨?_, ?_⟩, ?_⟩
   ·first | refine demP (hI23 _ st.fz) ?_ | refine demA (by decide) ?_
    exact demN
   ·exact demN
   refine DrawW.cons rfl (StepX.pure (pMove (v := v0) rfl h0) ?_)
   refine ⟨trivial, ?_⟩
   refine DrawW.cons rfl (StepX.pure (pMove (v := (vI y3)) rfl h4) ?_)
   refine ⟨trivial, ?_⟩
   refine DrawW.cons rfl (StepX.pure (pSub (k := .i64) (a := y3) (b := 2) rfl rfl rfl) ?_)
   refine ⟨trivial, ?_⟩
   obtain ⟨y27, hy27, hr⟩ := bind_some hr
   refine DrawW.cons rfl (kCut (T := (TU8 5)) (xs := x0) (a := 0) (b := (IntKind.wrap .i64 (y3 - 2))) rfl Try.underlying23 Try.type5 rfl rfl rfl ⟨_, rfl⟩ s0 st hy27 ?_)
   intro V28 _ hI30 Q29
   refine ⟨?_, ?_⟩
   ·first | refine demP (hI30 _ sto25.fz) ?_ | refine demA (by decide) ?_
    exact demN
   have sto32 := st
   obtain ⟨y33, hy33, hr⟩ := bind_some hr
   refine DrawW.cons rfl (StepX.call (gCallee rfl rfl (args1 rfl)) ((c_r06_Check (z := z) st.fz st.dead Q29 hy33).mono ?_))
   rintro _ _ ⟨rfl, rfl⟩
   refine ⟨⟨?_, ?_⟩, ?_⟩
   ·first | refine demP (hI30 _ st.fz) ?_ | refine demA (by decide) ?_
    first | refine demP (hI23 _ st.fz) ?_ | refine demA (by decide) ?_
    exact demN
   ·exact demN
   refine DrawW.cons rfl (StepX.pure (pNeq (k := .i64) (a := y26) (b := y33) rfl rfl rfl) ?_)
   refine ⟨trivial, ?_⟩
   obtain ⟨y34, hy34, hr⟩ := lt_some hr
   refine DrawW.cons rfl (StepX.pure (pAssign rfl (congrArg vB hy34)) ?_)
   refine ⟨trivial, ?_⟩
   refine DrawW.done fun fr35 hf36 => ?_
   have h0 := (congrFun hf36 0).trans h0
   have h23 : fr35 23 = (vB y34) := (congrFun hf36 23).trans rfl
   clear hf36
   refine thenQ.n ?_
   rcases if_some hr with ⟨hc37, hr⟩ | ⟨hc40, hr⟩
   ·refine W.condT h23 hc37 (W.seq (W.region ?_))
    refine sx rfl (pAssign (v := (Value.slice none 0 0)) rfl rfl) ?_
    refine sx rfl (pAssign (v := (vI 9)) rfl rfl) ?_
    refine SeqW.done fun fr38 hf39 => ?_
    have h2 : fr38 2 = (Value.slice none 0 0) := (congrFun hf39 2).trans rfl
    have h3 : fr38 3 = (vI 9) := (congrFun hf39 3).trans rfl
    clear hf39
    refine thenQ.n ?_
    refine W.ret ?_
    refine blockQ.r ?_
    refine thenQ.r ?_
    obtain rfl := Option.some.inj hr
    exact ⟨z, hz, st, .inr rfl, (Value.slice none 0 0), h2, SlR.nil, h3, trivial⟩
   ·refine W.condF h23 hc40 (W.skip ?_)
    refine blockQ.n ?_
    refine thenQ.n (W.seq (W.region ?_))
    refine sx rfl (pAssign (v := (Value.slice none 0 0)) rfl rfl) ?_
    refine SeqW.done fun fr41 hf42 => ?_
    have h0 := (congrFun hf42 0).trans h0
    have h5 : fr41 5 = (Value.slice none 0 0) := (congrFun hf42 5).trans rfl
    clear hf42
    refine thenQ.n (W.seq (W.region ?_))
    refine sx rfl (pAssign (v := (vI 1)) rfl rfl) ?_
    refine SeqW.done fun fr43 hf44 => ?_
    have h0 := (congrFun hf44 0).trans h0
    have h5 := (congrFun hf44 5).trans h5
    have h6 : fr43 6 = (vI 1) := (congrFun hf44 6).trans rfl
    clear hf44
    refine thenQ.n (W.seq ?_)
    refine W.seq (W.region ?_)
    refine sx rfl (pAssign (v := (vI 0)) rfl rfl) ?_
    refine SeqW.done fun fr45 hf46 => ?_
    have h0 := (congrFun hf46 0).trans h0
    have h5 := (congrFun hf46 5).trans h5
    have h6 := (congrFun hf46 6).trans h6
    have h7 : fr45 7 = (vI 0) := (congrFun hf46 7).trans rfl
    clear hf46
    refine thenQ.n ?_
    refine W.block ?_
    obtain ⟨y261, hy261, hr⟩ := bind_some hr
    refine W.keep (u_r06_Decode_0 _ (Zx.refl _) st h0 s0 h5 OwF.nil h6 h7 hy261) ?_
    rintro ex267 fr262 m263 hk265 ⟨z264, hz266, st, ⟨y268, rfl, rfl, w269, h5, O271, -⟩ | ⟨y292, rfl, rfl, h2, h3, -⟩⟩
    ·dsimp only at hr
     replace hz := hz.trans hz266
     clear hk265
     refine blockQ.hit ?_
     refine thenQ.n (W.seq ?_)
     refine W.seq (W.region ?_)
     refine sx rfl (pMove (v := w269) rfl h5) ?_
     obtain ⟨z272, hz273, st276, Q274, hl275⟩ := O271.freeze st
     obtain ⟨y277, hy277, hr⟩ := bind_some hr
     refine SeqW.consX rfl (StepX.call (gCallee rfl rfl (args1 rfl)) ((c_r06_ValidList (z := z272) st276.fz st.dead Q274 hy277).mono ?_))
     rintro _ _ ⟨rfl, rfl⟩
     refine sx rfl (pAssign (v := (vI y277)) rfl rfl) ?_
     refine SeqW.done fun fr278 hf279 => ?_
     have h5 := (congrFun hf279 5).trans h5
     have h12 : fr278 12 = (vI y277) := (congrFun hf279 12).trans rfl
     clear hf279
     refine thenQ.n (W.seq (W.region ?_))
     refine sx rfl (pMove (v := (vI y277)) rfl h12) ?_
     refine sx rfl (pNeq (k := .i64) (a := y277) (b := 0) rfl rfl rfl) ?_
     refine SeqW.done fun fr280 hf281 => ?_
     have h5 := (congrFun hf281 5).trans h5
     have h12 := (congrFun hf281 12).trans h12
     have h139 : fr280 139 = (vB (y277 != 0)) := (congrFun hf281 139).trans rfl
     clear hf281
     refine thenQ.n ?_
     rcases if_some hr with ⟨hc282, hr⟩ | ⟨hc285, hr⟩
     ·refine W.condT h139 hc282 (W.seq (W.region ?_))
      refine sx rfl (pMove (v := (vI y277)) rfl h12) ?_
      refine sx rfl (pAssign (v := (Value.slice none 0 0)) rfl rfl) ?_
      refine sx rfl (pAssign (v := (vI y277)) rfl rfl) ?_
      refine SeqW.done fun fr283 hf284 => ?_
      have h2 : fr283 2 = (Value.slice none 0 0) := (congrFun hf284 2).trans rfl
      have h3 : fr283 3 = (vI y277) := (congrFun hf284 3).trans rfl
      clear hf284
      refine thenQ.n ?_
      refine W.ret ?_
      refine thenQ.r ?_
      obtain rfl := Option.some.inj hr
      exact ⟨z264, hz, st, .inr rfl, (Value.slice none 0 0), h2, SlR.nil, h3, trivial⟩
     ·refine W.condF h139 hc285 (W.skip ?_)
      refine thenQ.n (W.seq (W.region ?_))
      refine sx rfl (pMove (v := w269) rfl h5) ?_
      refine sx rfl (pAssign (v := w269) rfl rfl) ?_
      refine sx rfl (pAssign (v := (vI 0)) rfl rfl) ?_
      refine SeqW.done fun fr286 hf287 => ?_
      have h2 : fr286 2 = w269 := (congrFun hf287 2).trans rfl
      have h3 : fr286 3 = (vI 0) := (congrFun hf287 3).trans rfl
      clear hf287
      refine thenQ.n ?_
      refine W.ret ?_
      obtain ⟨z288, hz289, st, Q290, hl291⟩ := O271.freeze st
      replace hz := hz.trans hz289
      obtain rfl := Option.some.inj hr
      exact ⟨z288, hz, st, .inr rfl, w269, h2, Q290, h3, trivial⟩
    ·dsimp only at hr
     replace hz := hz.trans hz266
     clear hk265
     refine blockQ.r ?_
     refine thenQ.r ?_
     obtain rfl := Option.some.inj hr
     exact ⟨z264, hz, st, .inr rfl, (Value.slice none 0 0), h2, SlR.nil, h3, trivial⟩

theorem c_r06_Decode {N : Nat} {z : Nat → Blk} {m : Mem} {x0 : List UInt8} {v0 : Value} (fz : Fz z m) (hd : ∀ b, m.next ≤ b → m.blk b = .dead) (s0 : SlR (TU8 5) z x0 v0) {r : List Wagon × Int} (hr : r06_Decode N x0 = some r) : CallW Try.prog 41 #[v0] m fun v m' => ∃ z' w2, Zx m.next z z' ∧ Fz z' m' ∧ Same m m' none ∧ v = (Value.tuple [w2, (vI r.2)].toArray) ∧ SlR TWagon z' r.1 w2 ∧ True := by
 refine CallW.any Try.func41 rfl (by kernel_rfl) (Nat.le_of_ble_eq_true rfl) (fun fr hf => ?_)
 have h0 : fr 0 = _ := hf 0 _ rfl
 refine (u_r06_Decode (k := none) (Zx.refl _) (St.start fz hd) h0 s0 hr).mono ?_
 rintro ex fr' m' ⟨z', hz, st, he, w2, h2, s2, h3, -⟩
 exact ⟨he, [w2, (vI r.2)], ⟨h2.symm, h3.symm, trivial⟩, .inr (List.forall_mem_cons.2 ⟨s2.stor.1, List.forall_mem_cons.2 ⟨rfl, fun _ h => nomatch h⟩⟩), z', w2, hz, st.fz, st.toSame, rfl, s2, trivial⟩

/-! ### humpyard/humpyardlaw06.reads -/

theorem u_l06_reads_0 {N : Nat}  {z0 z : Nat → Blk} {e m : Mem} {k : Option Nat} {fr : Nat → Value} {x0 : List UInt8} {x3 : List Wagon} {x4 : Int} {x5 : List Wagon} {x6 : Int} {v0 : Value} {v3 : Value} {v5 : Value} (hz : Zx e.next z0 z) (st : St z e m k) (h0 : fr 0 = v0) (s0 : SlR (TU8 5) z x0 v0) (h3 : fr 3 = v3) (s3 : SlR TWagon z x3 v3) (h4 : fr 4 = (vI x4)) (h5 : fr 5 = v5) (s5 : SlR TWagon z x5 v5) (h6 : fr 6 = (vI x6)) {r : Bool} (hr : l06_reads_0 N x0 x3 x4 x5 x6 = some r) : W Try.prog (sub (bodyOf Try.f23) [1, 1, 1, 0]) (fun ex fr' m' => ∃ z', Zx e.next z0 z' ∧ St z' e m' k ∧ ex = AExit.normal ∧ fr' 2 = (vB r) ∧ True) fr m := by
 unfold l06_reads_0 at hr
 refine W.region ?_
 refine sx rfl (pMove (v := v3) rfl h3) ?_
 refine sx rfl (pMove (v := v5) rfl h5) ?_
 obtain ⟨y25, hy25, hr⟩ := bind_some hr
 refine SeqW.consX rfl (StepX.call (gCallee rfl rfl (args2 rfl rfl)) ((c_gen_Wagons (z := z) st.fz st.dead s3 s5 hy25).mono ?_))
 rintro _ _ ⟨rfl, rfl⟩
 refine sx rfl (pMove (v := (vB y25)) rfl rfl) ?_
 rcases if_some hr with ⟨hc26, hr⟩ | ⟨hc36, hr⟩
 ·refine SeqW.consG rfl rfl rfl hc26 (StepX.pure (pMove (v := (vI x4)) rfl h4) ?_)
  refine SeqW.consG rfl rfl rfl hc26 (StepX.pure (pMove (v := (vI x6)) rfl h6) ?_)
  refine SeqW.consG rfl rfl rfl hc26 (StepX.pure (pEql (k := .i64) (a := x4) (b := x6) rfl rfl rfl) ?_)
  refine sx rfl (pPick (t := true) (v := (vB (x4 == x6))) rfl ((congrArg vB hc26)) rfl) ?_
  refine sx rfl (pMove (v := (vB (x4 == x6))) rfl rfl) ?_
  rcases if_some hr with ⟨hc27, hr⟩ | ⟨hc33, hr⟩
  ·refine SeqW.consG rfl rfl rfl hc27 (StepX.pure (pMove (v := v0) rfl h0) ?_)
   obtain ⟨y28, hy28, hr⟩ := bind_some hr
   refine SeqW.consG rfl rfl rfl hc27 (StepX.call (gCallee rfl rfl (args1 rfl)) ((c_consist_Check (z := z) st.fz st.dead s0 hy28).mono ?_))
   rintro _ _ ⟨rfl, rfl⟩
   refine SeqW.consG rfl rfl rfl hc27 (StepX.pure (pMove (v := v0) rfl h0) ?_)
   obtain ⟨y29, hy29, hr⟩ := bind_some hr
   refine SeqW.consG rfl rfl rfl hc27 (StepX.call (gCallee rfl rfl (args1 rfl)) ((c_r06_Check (z := z) st.fz st.dead s0 hy29).mono ?_))
   rintro _ _ ⟨rfl, rfl⟩
   refine SeqW.consG rfl rfl rfl hc27 (StepX.pure (pEql (k := .i64) (a := y28) (b := y29) rfl rfl rfl) ?_)
   refine sx rfl (pPick (t := true) (v := (vB (y28 == y29))) rfl ((congrArg vB hc27)) rfl) ?_
   obtain ⟨y30, hy30, hr⟩ := lt_some hr
   refine sx rfl (pAssign rfl (congrArg vB hy30)) ?_
   refine SeqW.done fun fr31 hf32 => ?_
   have h2 : fr31 2 = (vB y30) := (congrFun hf32 2).trans rfl
   clear hf32
   obtain rfl := Option.some.inj hr
   exact ⟨z, hz, st, rfl, h2, trivial⟩
  ·refine kx rfl rfl rfl hc33 ?_
   iterate 4 refine kx rfl rfl rfl hc33 ?_
   refine sx rfl (pPick (t := false) (v := (vB false)) rfl ((congrArg vB hc33)) rfl) ?_
   refine sx rfl (pAssign (v := (vB false)) rfl rfl) ?_
   refine SeqW.done fun fr34 hf35 => ?_
   have h2 : fr34 2 = (vB false) := (congrFun hf35 2).trans rfl
   clear hf35
   obtain rfl := Option.some.inj hr
   exact ⟨z, hz, st, rfl, h2, trivial⟩
 ·refine kx rfl rfl rfl hc36 ?_
  iterate 2 refine kx rfl rfl rfl hc36 ?_
  refine sx rfl (pPick (t := false) (v := (vB false)) rfl ((congrArg vB hc36)) rfl) ?_
  refine sx rfl (pMove (v := (vB false)) rfl rfl) ?_
  iterate 5 refine kx rfl rfl rfl rfl ?_
  refine sx rfl (pPick (t := false) (v := (vB false)) rfl ((congrArg vB (rfl : false = false))) rfl) ?_
  refine sx rfl (pAssign (v := (vB false)) rfl rfl) ?_
  refine SeqW.done fun fr37 hf38 => ?_
  have h2 : fr37 2 = (vB false) := (congrFun hf38 2).trans rfl
  clear hf38
  obtain rfl := Option.some.inj hr
  exact ⟨z, hz, st, rfl, h2, trivial⟩

theorem u_l06_reads {N : Nat}  {z0 z : Nat → Blk} {e m : Mem} {k : Option Nat} {fr : Nat → Value} {x0 : List UInt8} {v0 : Value} (hz : Zx e.next z0 z) (st : St z e m k) (h0 : fr 0 = v0) (s0 : SlR (TU8 5) z x0 v0) {r : Bool} (hr : l06_reads N x0 = some r) : W Try.prog (sub (bodyOf Try.f23) []) (fun ex fr' m' => ∃ z', Zx e.next z0 z' ∧ St z' e m' k ∧ (ex = .normal ∨ ex = .ret) ∧ fr' 2 = (vB r) ∧ True) fr m := by
 unfold l06_reads at hr
 refine W.seq (W.region ?_)
 refine sx rfl (pAssign (v := (vB false)) rfl rfl) ?_
 refine SeqW.done fun fr1 hf2 => ?_
 have h0 := (congrFun hf2 0).trans h0
 clear hf2
 refine thenQ.n (W.seq (W.region ?_))
 refine sx rfl (pMove (v := v0) rfl h0) ?_
 obtain ⟨y3, hy3, hr⟩ := bind_some hr
 refine SeqW.consX rfl (StepX.call (gCallee rfl rfl (args1 rfl)) ((c_consist_Decode (z := z) st.fz st.dead s0 hy3).mono ?_))
 rintro _ m8 ⟨z4, V9, hzx5, fz6, sm7, rfl, Q10, -⟩
 replace s0 := s0.mono hzx5.le
 replace hz := hz.trans (Zx.here st hzx5)
 replace st := st.call hzx5 fz6 sm7 no_hq
 refine sx rfl (pMove (v := (Value.tuple [V9, (vI y3.2)].toArray)) rfl rfl) ?_
 refine sx rfl (pExtract (vs := [V9, (vI y3.2)]) (v := V9) rfl rfl rfl) ?_
 refine sx rfl (pExtract (vs := [V9, (vI y3.2)]) (v := (vI y3.2)) rfl rfl rfl) ?_
 refine sx rfl (pAssign (v := V9) rfl rfl) ?_
 refine sx rfl (pAssign (v := (vI y3.2)) rfl rfl) ?_
 refine SeqW.done fun fr12 hf13 => ?_
 have h0 := (congrFun hf13 0).trans h0
 have h3 : fr12 3 = V9 := (congrFun hf13 3).trans rfl
 have h4 : fr12 4 = (vI y3.2) := (congrFun hf13 4).trans rfl
 clear hf13
 refine thenQ.n (W.seq (W.region ?_))
 refine sx rfl (pMove (v := v0) rfl h0) ?_
 obtain ⟨y14, hy14, hr⟩ := bind_some hr
 refine SeqW.consX rfl (StepX.call (gCallee rfl rfl (args1 rfl)) ((c_r06_Decode (z := z4) st.fz st.dead s0 hy14).mono ?_))
 rintro _ m19 ⟨z15, V20, hzx16, fz17, sm18, rfl, Q21, -⟩
 replace s0 := s0.mono hzx16.le
 replace Q10 := Q10.mono hzx16.le
 replace hz := hz.trans (Zx.here st hzx16)
 replace st := st.call hzx16 fz17 sm18 no_hq
 refine sx rfl (pMove (v := (Value.tuple [V20, (vI y14.2)].toArray)) rfl rfl) ?_
 refine sx rfl (pExtract (vs := [V20, (vI y14.2)]) (v := V20) rfl rfl rfl) ?_
 refine sx rfl (pExtract (vs := [V20, (vI y14.2)]) (v := (vI y14.2)) rfl rfl rfl) ?_
 refine sx rfl (pAssign (v := V20) rfl rfl) ?_
 refine sx rfl (pAssign (v := (vI y14.2)) rfl rfl) ?_
 refine SeqW.done fun fr23 hf24 => ?_
 have h0 := (congrFun hf24 0).trans h0
 have h3 := (congrFun hf24 3).trans h3
 have h4 := (congrFun hf24 4).trans h4
 have h5 : fr23 5 = V20 := (congrFun hf24 5).trans rfl
 have h6 : fr23 6 = (vI y14.2) := (congrFun hf24 6).trans rfl
 clear hf24
 refine thenQ.n (W.seq ?_)
 obtain ⟨y39, hy39, hr⟩ := bind_some hr
 refine W.keep (u_l06_reads_0 (Zx.refl _) st h0 s0 h3 Q10 h4 h5 Q21 h6 hy39) ?_
 rintro ex45 fr40 m41 hk43 ⟨z42, hz44, st, rfl, h2, -⟩
 replace hz := hz.trans hz44
 clear hk43
 refine thenQ.n ?_
 refine W.ret ?_
 obtain rfl := Option.some.inj hr
 exact ⟨z42, hz, st, .inr rfl, h2, trivial⟩

theorem c_l06_reads {N : Nat} {z : Nat → Blk} {m : Mem} {x0 : List UInt8} {v0 : Value} (fz : Fz z m) (hd : ∀ b, m.next ≤ b → m.blk b = .dead) (s0 : SlR (TU8 5) z x0 v0) {r : Bool} (hr : l06_reads N x0 = some r) : CallW Try.prog 23 #[v0] m fun v m' => v = (vB r) ∧ m' = m := by
 refine CallW.flat Try.func23 rfl (by kernel_rfl) (Nat.le_of_ble_eq_true rfl) rfl (z := z) (fun fr hf => ?_)
 have h0 : fr 0 = _ := hf 0 _ rfl
 refine (u_l06_reads (k := none) (Zx.refl _) (St.start fz hd) h0 s0 hr).mono ?_
 rintro ex fr' m' ⟨z', hz, st, he, h2, -⟩
 exact ⟨he, z', st, [(vB r)], ⟨h2.symm, trivial⟩, .inl rfl, rfl⟩

/-! ### (*humpyard/humpgen.Maker).SpoilBytes -/

theorem u_Maker_SpoilBytes {N : Nat}  {z0 z : Nat → Blk} {e m : Mem} {k : Option Nat} {fr : Nat → Value} {x0 : Maker} {x1 : List UInt8} {v0_0 : Value} {b0 : Nat} {v1 : Value} (hz : Zx e.next z0 z) (st : St z e m k) (h0 : fr 0 = (vP b0)) (s0_0 : SlR (TInt 3 .i64) z x0.l v0_0) (bx0 : Bx z e m k b0 [v0_0, (vI x0.n)] 53) (h1 : fr 1 = v1) (s1 : SlR (TU8 5) z x1 v1) {r : List UInt8 × Maker} (hr : Maker_SpoilBytes N x0 x1 = some r) : W Try.prog (sub (bodyOf Try.f24) []) (fun ex fr' m' => ∃ z', Zx e.next z0 z' ∧ St z' e m' k ∧ (ex = .normal ∨ ex = .ret) ∧ ∃ (w4 : Value) (wr_0 : Value), fr' 4 = w4 ∧ SlR (TU8 5) z' r.1 w4 ∧ SlR (TInt 3 .i64) z' r.2.l wr_0 ∧ Bx z' e m' k b0 [wr_0, (vI r.2.n)] 53 ∧ True) fr m := by
 unfold Maker_SpoilBytes at hr
 refine W.seq (W.region ?_)
 refine sx rfl (pAssign (v := (Value.slice none 0 0)) rfl rfl) ?_
 refine SeqW.done fun fr1 hf2 => ?_
 have h0 := (congrFun hf2 0).trans h0
 have h1 := (congrFun hf2 1).trans h1
 clear hf2
 refine thenQ.n (W.seq (W.region ?_))
 refine sx rfl (pMove (v := (vP b0)) rfl h0) ?_
 refine sx rfl (pMove (v := v1) rfl h1) ?_
 refine SeqW.consX rfl (kStrR (s := x1) rfl Try.underlying23 Try.underlying5 Try.underlying9 rfl s1 st ?_)
 obtain ⟨y3, hy3, hr⟩ := bind_some hr
 refine SeqW.consX rfl (StepX.call (gCallee rfl rfl (args2 rfl rfl)) ((c_Maker_Spoil (x0 := x0) (z := z) st.fz st.dead s0_0 ⟨bx0.blk, bx0.lt, bx0.dead, .inr rfl⟩ hy3).mono ?_))
 rintro _ m8 ⟨z4, V9, hzx5, fz6, sm7, rfl, Q10, X12, -⟩
 replace s0_0 := s0_0.mono hzx5.le
 have bx0n : Bx z4 e m8 k b0 _ _ := ⟨X12.blk, X12.lt, X12.dead, bx0.fresh⟩
 replace hz := hz.trans (Zx.here st hzx5)
 replace st := st.call hzx5 fz6 sm7 bx0.hq
 obtain ⟨y13, hy13, hr⟩ := bind_some hr
 refine SeqW.consX rfl (kBytes (s := y3.1) rfl Try.underlying9 Try.underlying23 Try.underlying5 Try.type5 rfl rfl hy13 st ?_)
 intro V14 m15 st O16 sm17 hap18
 have A20 := hap18 _ bx0n.lt'
 replace bx0n := bx0n.same sm17 Ap.none'
 refine sx rfl (pAssign (v := V14) rfl rfl) ?_
 refine SeqW.done fun fr21 hf22 => ?_
 have h0 := (congrFun hf22 0).trans h0
 have h4 : fr21 4 = V14 := (congrFun hf22 4).trans rfl
 clear hf22
 refine thenQ.n ?_
 refine W.ret ?_
 obtain ⟨z23, hz24, st, Q25, hl26⟩ := O16.freeze st
 replace bx0n := bx0n.zle (hl26 _ A20)
 replace Q10 := Q10.mono hz24.le
 replace hz := hz.trans hz24
 obtain rfl := Option.some.inj hr
 exact ⟨z23, hz, st, .inr rfl, V14, V9, h4, Q25, Q10, bx0n, trivial⟩

theorem c_Maker_SpoilBytes {N : Nat} {z : Nat → Blk} {m : Mem} {x0 : Maker} {x1 : List UInt8} {v0_0 : Value} {b0 : Nat} {v1 : Value} (fz : Fz z m) (hd : ∀ b, m.next ≤ b → m.blk b = .dead) (s0_0 : SlR (TInt 3 .i64) z x0.l v0_0) (bx0 : Bx z m m (some b0) b0 [v0_0, (vI x0.n)] 53) (s1 : SlR (TU8 5) z x1 v1) {r : List UInt8 × Maker} (hr : Maker_SpoilBytes N x0 x1 = some r) : CallW Try.prog 24 #[(vP b0), v1] m fun v m' => ∃ z' w4 wr_0, Zx m.next z z' ∧ Fz z' m' ∧ Same m m' (some b0) ∧ v = w4 ∧ SlR (TU8 5) z' r.1 w4 ∧ SlR (TInt 3 .i64) z' r.2.l wr_0 ∧ Bx z' m m' (some b0) b0 [wr_0, (vI r.2.n)] 53 ∧ True := by
 refine CallW.any Try.func24 rfl (by kernel_rfl) (Nat.le_of_ble_eq_true rfl) (fun fr hf => ?_)
 have h0 : fr 0 = _ := hf 0 _ rfl
 have h1 : fr 1 = _ := hf 1 _ rfl
 refine (u_Maker_SpoilBytes (k := (some b0)) (Zx.refl _) (St.start fz hd) h0 s0_0 bx0 h1 s1 hr).mono ?_
 rintro ex fr' m' ⟨z', hz, st, he, w4, wr_0, h4, s4, sr_0, bxr, -⟩
 exact ⟨he, [w4], ⟨h4.symm, trivial⟩, .inl rfl, z', w4, wr_0, hz, st.fz, st.toSame, rfl, s4, sr_0, bxr, trivial⟩

/-! ### humpyard/humpyardlaw06.ConsistExact -/

theorem u_l06_ConsistExact_1 {N : Nat}  {z0 z : Nat → Blk} {e m : Mem} {k : Option Nat} {fr : Nat → Value} {x8 : Int} {x9 : List Wagon} {x7 : Maker} {v7_0 : Value} {b7 : Nat} {v9 : Value} (hz : Zx e.next z0 z) (st : St z e m k) (h7 : fr 7 = (vP b7)) (s7_0 : SlR (TInt 3 .i64) z x7.l v7_0) (bx7 : Bx z e m k b7 [v7_0, (vI x7.n)] 53) (h8 : fr 8 = (vI x8)) (h9 : fr 9 = v9) (o9 : OwF TWagon z e m k x9 v9) (ao7_o9 : Ap (some b7) (blkOf v9)) {r : Bool} (hr : l06_ConsistExact_1 N x8 x9 = some r) : W Try.prog (sub (bodyOf Try.f7) [1, 1, 0, 1, 0, 0, 1, 0, 0, 1, 0, 0]) (fun ex fr' m' => ∃ z', Zx e.next z0 z' ∧ St z' e m' k ∧ ex = AExit.normal ∧ fr' 27 = (vB r) ∧ Bx z' e m' k b7 [v7_0, (vI x7.n)] 53 ∧ OwF TWagon z' e m' k x9 v9 ∧ Ap (some b7) (blkOf v9) ∧ True) fr m := by
 unfold l06_ConsistExact_1 at hr
 refine W.region ?_
 refine sx rfl (pMove (v := (vI x8)) rfl h8) ?_
 refine sx rfl (pGtr (k := .i64) (a := x8) (b := 1) rfl rfl rfl) ?_
 refine sx rfl (pMove (v := (vB (decide (1 < x8)))) rfl rfl) ?_
 rcases if_some hr with ⟨hc39, hr⟩ | ⟨hc42, hr⟩
 ·refine SeqW.consG rfl rfl rfl hc39 (StepX.pure (pMove (v := v9) rfl h9) ?_)
  refine SeqW.consG rfl rfl rfl hc39 (StepX.pure (pLenO (xs := x9) rfl Try.underlying24 rfl o9.ow) ?_)
  refine SeqW.consG rfl rfl rfl hc39 (StepX.pure (pGtr (k := .i64) (a := (x9.length : Int)) (b := 0) rfl rfl rfl) ?_)
  refine sx rfl (pPick (t := true) (v := (vB (decide (0 < (x9.length : Int))))) rfl ((congrArg vB hc39)) rfl) ?_
  refine SeqW.done fun fr40 hf41 => ?_
  have h7 := (congrFun hf41 7).trans h7
  have h8 := (congrFun hf41 8).trans h8
  have h9 := (congrFun hf41 9).trans h9
  have h27 : fr40 27 = (vB (decide (0 < (x9.length : Int)))) := (congrFun hf41 27).trans rfl
  clear hf41
  obtain rfl := Option.some.inj hr
  exact ⟨z, hz, st, rfl, h27, bx7, o9, ao7_o9, trivial⟩
 ·refine kx rfl rfl rfl hc42 ?_
  iterate 2 refine kx rfl rfl rfl hc42 ?_
  refine sx rfl (pPick (t := false) (v := (vB false)) rfl ((congrArg vB hc42)) rfl) ?_
  refine SeqW.done fun fr43 hf44 => ?_
  have h7 := (congrFun hf44 7).trans h7
  have h8 := (congrFun hf44 8).trans h8
  have h9 := (congrFun hf44 9).trans h9
  have h27 : fr43 27 = (vB false) := (congrFun hf44 27).trans rfl
  clear hf44
  obtain rfl := Option.some.inj hr
  exact ⟨z, hz, st, rfl, h27, bx7, o9, ao7_o9, trivial⟩

theorem u_l06_ConsistExact_2 {N : Nat}  {z0 z : Nat → Blk} {e m : Mem} {k : Option Nat} {fr : Nat → Value} {x7 : Maker} {x9 : List Wagon} {x27 : Bool} {v7_0 : Value} {b7 : Nat} {v9 : Value} (hz : Zx e.next z0 z) (st : St z e m k) (h7 : fr 7 = (vP b7)) (s7_0 : SlR (TInt 3 .i64) z x7.l v7_0) (bx7 : Bx z e m k b7 [v7_0, (vI x7.n)] 53) (h9 : fr 9 = v9) (o9 : OwF TWagon z e m k x9 v9) (h27 : fr 27 = (vB x27)) (ao7_o9 : Ap (some b7) (blkOf v9)) {r : Maker × List Wagon} (hr : l06_ConsistExact_2 N x7 x9 x27 = some r) : W Try.prog (sub (bodyOf Try.f7) [1, 1, 0, 1, 0, 0, 1, 0, 0, 1, 0, 1]) (fun ex fr' m' => ∃ z', Zx e.next z0 z' ∧ St z' e m' k ∧ ex = AExit.normal ∧ ∃ (w7_0 : Value), fr' 7 = (vP b7) ∧ SlR (TInt 3 .i64) z' r.1.l w7_0 ∧ Bx z' e m' k b7 [w7_0, (vI r.1.n)] 53 ∧ fr' 9 = v9 ∧ OwF TWagon z' e m' k r.2 v9 ∧ Ap (some b7) (blkOf v9) ∧ True) fr m := by
 unfold l06_ConsistExact_2 at hr
 rcases if_some hr with ⟨hc55, hr⟩ | ⟨hc101, hr⟩
 ·refine W.condT h27 hc55 (W.seq (W.region ?_))
  refine sx rfl (pMove (v := (vP b7)) rfl h7) ?_
  refine sx rfl (pMove (v := v9) rfl h9) ?_
  refine sx rfl (pLenO (xs := x9) rfl Try.underlying24 rfl o9.ow) ?_
  obtain ⟨y56, hy56, hr⟩ := bind_some hr
  refine SeqW.consX rfl (StepX.call (gCallee rfl rfl (args2 rfl rfl)) ((c_Maker_Next (x0 := x7) (z := z) st.fz st.dead s7_0 ⟨bx7.blk, bx7.lt, bx7.dead, .inr rfl⟩ hy56).mono ?_))
  rintro _ m61 ⟨z57, V62, hzx58, fz59, sm60, rfl, Q63, X65, -⟩
  replace s7_0 := s7_0.mono hzx58.le
  replace o9 := o9.call hzx58 sm60 (Ap.symm ao7_o9)
  have bx7n : Bx z57 e m61 k b7 _ _ := ⟨X65.blk, X65.lt, X65.dead, bx7.fresh⟩
  replace hz := hz.trans (Zx.here st hzx58)
  replace st := st.call hzx58 fz59 sm60 bx7.hq
  refine sx rfl (pAssign (v := (vI y56.1)) rfl rfl) ?_
  refine SeqW.done fun fr66 hf67 => ?_
  have h7 := (congrFun hf67 7).trans h7
  have h9 := (congrFun hf67 9).trans h9
  have h10 : fr66 10 = (vI y56.1) := (congrFun hf67 10).trans rfl
  clear hf67
  refine thenQ.n (W.region ?_)
  refine sx rfl (pMove (v := v9) rfl h9) ?_
  refine sx rfl (pMove (v := (vI y56.1)) rfl h10) ?_
  refine sx rfl (pMove (v := (vP b7)) rfl h7) ?_
  refine sx rfl (pMove (v := v9) rfl h9) ?_
  refine sx rfl (pMove (v := (vI y56.1)) rfl h10) ?_
  obtain ⟨y68, hy68, hr⟩ := bind_some hr
  refine SeqW.consX rfl (kIdxO (T := TWagon) (xs := x9) (n := y56.1) rfl Try.underlying24 Try.type42 rfl rfl rfl o9 hy68 ?_)
  intro B69 l70 c71 cs72 hv73 hd74 hg75 hc76
  have hd740 := hd74
  obtain rfl := hd740
  refine SeqW.consX rfl (kLoadA rfl Try.underlying42 rfl Try.type42 rfl rfl hc76 ?_)
  obtain ⟨y77, hy77, hr⟩ := bind_some hr
  refine SeqW.consX rfl (StepX.call (gCallee rfl rfl (args2 rfl rfl)) ((c_Maker_SpoilWagon (x0 := y56.2) (x1 := y68) (z := z57) st.fz st.dead Q63 ⟨bx7n.blk, bx7n.lt, bx7n.dead, .inr rfl⟩ hy77).mono ?_))
  rintro _ m82 ⟨z78, V83, hzx79, fz80, sm81, rfl, Q84, X86, -⟩
  replace o9 := o9.call hzx79 sm81 (Ap.symm ao7_o9)
  replace Q63 := Q63.mono hzx79.le
  have bx7nn : Bx z78 e m82 k b7 _ _ := ⟨X86.blk, X86.lt, X86.dead, bx7n.fresh⟩
  replace hz := hz.trans (Zx.here st hzx79)
  replace st := st.call hzx79 fz80 sm81 bx7n.hq
  obtain ⟨y87, hy87, hr⟩ := bind_some hr
  refine SeqW.consX rfl (kIdxO (T := TWagon) (xs := x9) (n := y56.1) rfl Try.underlying24 Try.type42 rfl rfl rfl o9 hy87 ?_)
  intro B88 l89 c90 cs91 hv92 hd93 hg94 hc95
  have hd930 := hd93
  obtain rfl := hd930
  refine SeqW.consX rfl (kSet (T := TWagon) (off := (y56.1 : Int).toNat * (TWagon).sz) (n := (y56.1 : Int).toNat) (f := 0) (w := (Value.agg [(str y77.1.number), (vI y77.1.length), (vI y77.1.axles), (vI y77.1.mass), (vI y77.1.brake), (vI y77.1.goods), (vB y77.1.gentle), (str y77.1.dest)].toArray)) (new := [(str y77.1.number), (vI y77.1.length), (vI y77.1.axles), (vI y77.1.mass), (vI y77.1.brake), (vI y77.1.goods), (vB y77.1.gentle), (str y77.1.dest)]) (ecs := [(str y87.number), (vI y87.length), (vI y87.axles), (vI y87.mass), (vI y87.brake), (vI y87.goods), (vB y87.gentle), (str y87.dest)]) (ecs' := [(str y77.1.number), (vI y77.1.length), (vI y77.1.axles), (vI y77.1.mass), (vI y77.1.brake), (vI y77.1.goods), (vB y77.1.gentle), (str y77.1.dest)]) (a := y87) (a' := y77.1) rfl Try.type42 rfl rfl rfl rfl rfl rfl o9 hv92 hg94 hd93 hc95 rfl rfl rfl st ?_)
  intro m96 st o9 sm97
  obtain ⟨y98, hy98, hr⟩ := lt_some hr
  rw [hy98] at o9
  replace bx7nn := bx7nn.same sm97 ao7_o9
  refine SeqW.done fun fr99 hf100 => ?_
  have h7 := (congrFun hf100 7).trans h7
  have h9 := (congrFun hf100 9).trans h9
  clear hf100
  obtain rfl := Option.some.inj hr
  exact ⟨z78, hz, st, rfl, V83, h7, Q84, bx7nn, h9, o9, ao7_o9, trivial⟩
 ·refine W.condF h27 hc101 (W.skip ?_)
  obtain rfl := Option.some.inj hr
  exact ⟨z, hz, st, rfl, v7_0, h7, s7_0, bx7, h9, o9, ao7_o9, trivial⟩

theorem u_l06_ConsistExact_3 {N : Nat}  {z0 z : Nat → Blk} {e m : Mem} {k : Option Nat} {fr : Nat → Value} {x8 : Int} {x9 : List Wagon} {x7 : Maker} {v7_0 : Value} {b7 : Nat} {v9 : Value} (hz : Zx e.next z0 z) (st : St z e m k) (h7 : fr 7 = (vP b7)) (s7_0 : SlR (TInt 3 .i64) z x7.l v7_0) (bx7 : Bx z e m k b7 [v7_0, (vI x7.n)] 53) (h8 : fr 8 = (vI x8)) (h9 : fr 9 = v9) (o9 : OwF TWagon z e m k x9 v9) (ao7_o9 : Ap (some b7) (blkOf v9)) {r : Bool} (hr : l06_ConsistExact_3 N x8 x9 = some r) : W Try.prog (sub (bodyOf Try.f7) [1, 1, 0, 1, 0, 0, 1, 0, 0, 1, 1, 0, 0]) (fun ex fr' m' => ∃ z', Zx e.next z0 z' ∧ St z' e m' k ∧ ex = AExit.normal ∧ fr' 47 = (vB r) ∧ Bx z' e m' k b7 [v7_0, (vI x7.n)] 53 ∧ OwF TWagon z' e m' k x9 v9 ∧ Ap (some b7) (blkOf v9) ∧ True) fr m := by
 unfold l06_ConsistExact_3 at hr
 refine W.region ?_
 refine sx rfl (pMove (v := (vI x8)) rfl h8) ?_
 refine sx rfl (pEql (k := .i64) (a := x8) (b := 4) rfl rfl rfl) ?_
 refine sx rfl (pMove (v := (vB (x8 == 4))) rfl rfl) ?_
 rcases if_some hr with ⟨hc117, hr⟩ | ⟨hc120, hr⟩
 ·refine SeqW.consG rfl rfl rfl hc117 (StepX.pure (pMove (v := v9) rfl h9) ?_)
  refine SeqW.consG rfl rfl rfl hc117 (StepX.pure (pLenO (xs := x9) rfl Try.underlying24 rfl o9.ow) ?_)
  refine SeqW.consG rfl rfl rfl hc117 (StepX.pure (pGtr (k := .i64) (a := (x9.length : Int)) (b := 0) rfl rfl rfl) ?_)
  refine sx rfl (pPick (t := true) (v := (vB (decide (0 < (x9.length : Int))))) rfl ((congrArg vB hc117)) rfl) ?_
  refine SeqW.done fun fr118 hf119 => ?_
  have h7 := (congrFun hf119 7).trans h7
  have h8 := (congrFun hf119 8).trans h8
  have h9 := (congrFun hf119 9).trans h9
  have h47 : fr118 47 = (vB (decide (0 < (x9.length : Int)))) := (congrFun hf119 47).trans rfl
  clear hf119
  obtain rfl := Option.some.inj hr
  exact ⟨z, hz, st, rfl, h47, bx7, o9, ao7_o9, trivial⟩
 ·refine kx rfl rfl rfl hc120 ?_
  iterate 2 refine kx rfl rfl rfl hc120 ?_
  refine sx rfl (pPick (t := false) (v := (vB false)) rfl ((congrArg vB hc120)) rfl) ?_
  refine SeqW.done fun fr121 hf122 => ?_
  have h7 := (congrFun hf122 7).trans h7
  have h8 := (congrFun hf122 8).trans h8
  have h9 := (congrFun hf122 9).trans h9
  have h47 : fr121 47 = (vB false) := (congrFun hf122 47).trans rfl
  clear hf122
  obtain rfl := Option.some.inj hr
  exact ⟨z, hz, st, rfl, h47, bx7, o9, ao7_o9, trivial⟩

theorem u_l06_ConsistExact_4 {N : Nat}  {z0 z : Nat → Blk} {e m : Mem} {k : Option Nat} {fr : Nat → Value} {x7 : Maker} {x9 : List Wagon} {x47 : Bool} {v7_0 : Value} {b7 : Nat} {v9 : Value} (hz : Zx e.next z0 z) (st : St z e m k) (h7 : fr 7 = (vP b7)) (s7_0 : SlR (TInt 3 .i64) z x7.l v7_0) (bx7 : Bx z e m k b7 [v7_0, (vI x7.n)] 53) (h9 : fr 9 = v9) (o9 : OwF TWagon z e m k x9 v9) (h47 : fr 47 = (vB x47)) (ao7_o9 : Ap (some b7) (blkOf v9)) {r : Maker × List Wagon} (hr : l06_ConsistExact_4 N x7 x9 x47 = some r) : W Try.prog (sub (bodyOf Try.f7) [1, 1, 0, 1, 0, 0, 1, 0, 0, 1, 1, 0, 1]) (fun ex fr' m' => ∃ z', Zx e.next z0 z' ∧ St z' e m' k ∧ ex = AExit.normal ∧ ∃ (w7_0 : Value) (w9 : Value), fr' 7 = (vP b7) ∧ SlR (TInt 3 .i64) z' r.1.l w7_0 ∧ Bx z' e m' k b7 [w7_0, (vI r.1.n)] 53 ∧ fr' 9 = w9 ∧ OwF TWagon z' e m' k r.2 w9 ∧ Ap (some b7) (blkOf w9) ∧ True) fr m := by
 unfold l06_ConsistExact_4 at hr
 rcases if_some hr with ⟨hc133, hr⟩ | ⟨hc172, hr⟩
 ·refine W.condT h47 hc133 (W.region ?_)
  refine sx rfl (pMove (v := v9) rfl h9) ?_
  refine sx rfl (pMove (v := v9) rfl h9) ?_
  refine sx rfl (pMove (v := (vP b7)) rfl h7) ?_
  refine sx rfl (pMove (v := v9) rfl h9) ?_
  refine sx rfl (pLenO (xs := x9) rfl Try.underlying24 rfl o9.ow) ?_
  obtain ⟨y134, hy134, hr⟩ := bind_some hr
  refine SeqW.consX rfl (StepX.call (gCallee rfl rfl (args2 rfl rfl)) ((c_Maker_Next (x0 := x7) (z := z) st.fz st.dead s7_0 ⟨bx7.blk, bx7.lt, bx7.dead, .inr rfl⟩ hy134).mono ?_))
  rintro _ m139 ⟨z135, V140, hzx136, fz137, sm138, rfl, Q141, X143, -⟩
  replace s7_0 := s7_0.mono hzx136.le
  replace o9 := o9.call hzx136 sm138 (Ap.symm ao7_o9)
  have bx7n : Bx z135 e m139 k b7 _ _ := ⟨X143.blk, X143.lt, X143.dead, bx7.fresh⟩
  replace hz := hz.trans (Zx.here st hzx136)
  replace st := st.call hzx136 fz137 sm138 bx7.hq
  obtain ⟨y144, hy144, hr⟩ := bind_some hr
  refine SeqW.consX rfl (kIdxO (T := TWagon) (xs := x9) (n := y134.1) rfl Try.underlying24 Try.type42 rfl rfl rfl o9 hy144 ?_)
  intro B145 l146 c147 cs148 hv149 hd150 hg151 hc152
  have hd1500 := hd150
  obtain rfl := hd1500
  refine SeqW.consX rfl (kLoadA rfl Try.underlying42 rfl Try.type42 rfl rfl hc152 ?_)
  refine SeqW.consX rfl (kBuild (T := TWagon) rfl Try.underlying24 Try.type42 rfl rfl rfl rfl ([y144] : List Wagon) [[(str y144.number), (vI y144.length), (vI y144.axles), (vI y144.mass), (vI y144.brake), (vI y144.goods), (vB y144.gentle), (str y144.dest)]] rfl rfl rfl (BuildOk.mk (w := (Value.agg [(str y144.number), (vI y144.length), (vI y144.axles), (vI y144.mass), (vI y144.brake), (vI y144.goods), (vB y144.gentle), (str y144.dest)].toArray)) rfl rfl rfl rfl trivial) st ?_)
  intro V153 m154 st O155 sm156 hap157
  have A159 := hap157 _ bx7n.lt'
  have A160 := hap157 _ o9.lt
  replace bx7n := bx7n.same sm156 Ap.none'
  replace o9 := o9.same sm156 Ap.none'
  obtain ⟨y161, hy161, hr⟩ := bind_some hr
  refine SeqW.consX rfl (kAppend (T := TWagon) (xs := x9) (ys := ([y144] : List Wagon)) rfl Try.underlying24 Try.type42 rfl rfl rfl rfl rfl rfl (.inl ⟨_, Try.underlying24⟩) rfl o9 rfl O155.ow.src st hy161 ?_)
  intro V162 m163 st O164 sm165 hap166
  have A168 := hap166 _ bx7n.lt' ao7_o9
  have A169 := hap166 _ O155.lt (Ap.symm A160)
  replace bx7n := bx7n.same sm165 ao7_o9
  replace O155 := O155.same sm165 (Ap.symm A160)
  refine sx rfl (pAssign (v := V162) rfl rfl) ?_
  refine SeqW.done fun fr170 hf171 => ?_
  have h7 := (congrFun hf171 7).trans h7
  have h9 : fr170 9 = V162 := (congrFun hf171 9).trans rfl
  clear hf171
  obtain rfl := Option.some.inj hr
  exact ⟨z135, hz, st, rfl, V140, V162, h7, Q141, bx7n, h9, O164, A168, trivial⟩
 ·refine W.condF h47 hc172 (W.skip ?_)
  obtain rfl := Option.some.inj hr
  exact ⟨z, hz, st, rfl, v7_0, v9, h7, s7_0, bx7, h9, o9, ao7_o9, trivial⟩

theorem u_l06_ConsistExact_5 {N : Nat}  {z0 z : Nat → Blk} {e m : Mem} {k : Option Nat} {fr : Nat → Value} {x7 : Maker} {x9 : List Wagon} {x11 : List UInt8} {v7_0 : Value} {b7 : Nat} {v9 : Value} {v11 : Value} (hz : Zx e.next z0 z) (st : St z e m k) (h7 : fr 7 = (vP b7)) (s7_0 : SlR (TInt 3 .i64) z x7.l v7_0) (bx7 : Bx z e m k b7 [v7_0, (vI x7.n)] 53) (h9 : fr 9 = v9) (s9 : SlR TWagon z x9 v9) (h11 : fr 11 = v11) (s11 : SlR (TU8 5) z x11 v11) {r : Maker × Bool} (hr : l06_ConsistExact_5 N x7 x9 x11 = some r) : W Try.prog (sub (bodyOf Try.f7) [1, 1, 0, 1, 0, 0, 1, 0, 0, 1, 1, 1, 1, 0]) (fun ex fr' m' => ∃ z', Zx e.next z0 z' ∧ St z' e m' k ∧ ex = AExit.normal ∧ ∃ (w7_0 : Value), fr' 7 = (vP b7) ∧ SlR (TInt 3 .i64) z' r.1.l w7_0 ∧ Bx z' e m' k b7 [w7_0, (vI r.1.n)] 53 ∧ fr' 96 = (vB r.2) ∧ True) fr m := by
 unfold l06_ConsistExact_5 at hr
 refine W.region ?_
 refine sx rfl (pMove (v := v9) rfl h9) ?_
 obtain ⟨y204, hy204, hr⟩ := bind_some hr
 refine SeqW.consX rfl (StepX.call (gCallee rfl rfl (args1 rfl)) ((c_l06_writes (z := z) st.fz st.dead s9 hy204).mono ?_))
 rintro _ _ ⟨rfl, rfl⟩
 refine sx rfl (pNot (b := y204) rfl rfl) ?_
 refine sx rfl (pMove (v := (vB (!y204))) rfl rfl) ?_
 rcases if_some hr with ⟨hc205, hr⟩ | ⟨hc208, hr⟩
 ·refine kx rfl rfl rfl hc205 ?_
  iterate 2 refine kx rfl rfl rfl hc205 ?_
  refine sx rfl (pPick (t := true) (v := (vB true)) rfl ((congrArg vB hc205)) rfl) ?_
  refine sx rfl (pMove (v := (vB true)) rfl rfl) ?_
  iterate 5 refine kx rfl rfl rfl rfl ?_
  refine sx rfl (pPick (t := true) (v := (vB true)) rfl ((congrArg vB (rfl : true = true))) rfl) ?_
  refine sx rfl (pMove (v := (vB true)) rfl rfl) ?_
  iterate 6 refine kx rfl rfl rfl rfl ?_
  refine sx rfl (pPick (t := true) (v := (vB true)) rfl ((congrArg vB (rfl : true = true))) rfl) ?_
  refine sx rfl (pMove (v := (vB true)) rfl rfl) ?_
  iterate 9 refine kx rfl rfl rfl rfl ?_
  refine sx rfl (pPick (t := true) (v := (vB true)) rfl ((congrArg vB (rfl : true = true))) rfl) ?_
  refine SeqW.done fun fr206 hf207 => ?_
  have h7 := (congrFun hf207 7).trans h7
  have h96 : fr206 96 = (vB true) := (congrFun hf207 96).trans rfl
  clear hf207
  obtain rfl := Option.some.inj hr
  exact ⟨z, hz, st, rfl, v7_0, h7, s7_0, bx7, h96, trivial⟩
 ·refine SeqW.consG rfl rfl rfl hc208 (StepX.pure (pMove (v := v11) rfl h11) ?_)
  obtain ⟨y209, hy209, hr⟩ := bind_some hr
  refine SeqW.consG rfl rfl rfl hc208 (StepX.call (gCallee rfl rfl (args1 rfl)) ((c_l06_reads (z := z) st.fz st.dead s11 hy209).mono ?_))
  rintro _ _ ⟨rfl, rfl⟩
  refine SeqW.consG rfl rfl rfl hc208 (StepX.pure (pNot (b := y209) rfl rfl) ?_)
  refine sx rfl (pPick (t := false) (v := (vB (!y209))) rfl ((congrArg vB hc208)) rfl) ?_
  refine sx rfl (pMove (v := (vB (!y209))) rfl rfl) ?_
  rcases if_some hr with ⟨hc210, hr⟩ | ⟨hc213, hr⟩
  ·refine kx rfl rfl rfl hc210 ?_
   iterate 4 refine kx rfl rfl rfl hc210 ?_
   refine sx rfl (pPick (t := true) (v := (vB true)) rfl ((congrArg vB hc210)) rfl) ?_
   refine sx rfl (pMove (v := (vB true)) rfl rfl) ?_
   iterate 6 refine kx rfl rfl rfl rfl ?_
   refine sx rfl (pPick (t := true) (v := (vB true)) rfl ((congrArg vB (rfl : true = true))) rfl) ?_
   refine sx rfl (pMove (v := (vB true)) rfl rfl) ?_
   iterate 9 refine kx rfl rfl rfl rfl ?_
   refine sx rfl (pPick (t := true) (v := (vB true)) rfl ((congrArg vB (rfl : true = true))) rfl) ?_
   refine SeqW.done fun fr211 hf212 => ?_
   have h7 := (congrFun hf212 7).trans h7
   have h96 : fr211 96 = (vB true) := (congrFun hf212 96).trans rfl
   clear hf212
   obtain rfl := Option.some.inj hr
   exact ⟨z, hz, st, rfl, v7_0, h7, s7_0, bx7, h96, trivial⟩
  ·refine SeqW.consG rfl rfl rfl hc213 (StepX.pure (pMove (v := (vP b7)) rfl h7) ?_)
   refine SeqW.consG rfl rfl rfl hc213 (StepX.pure (pMove (v := v11) rfl h11) ?_)
   obtain ⟨y214, hy214, hr⟩ := bind_some hr
   refine SeqW.consG rfl rfl rfl hc213 (StepX.call (gCallee rfl rfl (args2 rfl rfl)) ((c_Maker_SpoilBytes (x0 := x7) (z := z) st.fz st.dead s7_0 ⟨bx7.blk, bx7.lt, bx7.dead, .inr rfl⟩ s11 hy214).mono ?_))
   rintro V220 m219 ⟨z215, _, V223, hzx216, fz217, sm218, rfl, Q221, Q224, X226, -⟩
   replace s7_0 := s7_0.mono hzx216.le
   replace s11 := s11.mono hzx216.le
   have bx7n : Bx z215 e m219 k b7 _ _ := ⟨X226.blk, X226.lt, X226.dead, bx7.fresh⟩
   replace hz := hz.trans (Zx.here st hzx216)
   replace st := st.call hzx216 fz217 sm218 bx7.hq
   obtain ⟨y227, hy227, hr⟩ := bind_some hr
   refine SeqW.consG rfl rfl rfl hc213 (StepX.call (gCallee rfl rfl (args1 rfl)) ((c_l06_reads (z := z215) st.fz st.dead Q221 hy227).mono ?_))
   rintro _ _ ⟨rfl, rfl⟩
   refine SeqW.consG rfl rfl rfl hc213 (StepX.pure (pNot (b := y227) rfl rfl) ?_)
   refine sx rfl (pPick (t := false) (v := (vB (!y227))) rfl ((congrArg vB hc213)) rfl) ?_
   refine sx rfl (pMove (v := (vB (!y227))) rfl rfl) ?_
   rcases if_some hr with ⟨hc228, hr⟩ | ⟨hc231, hr⟩
   ·refine kx rfl rfl rfl hc228 ?_
    iterate 5 refine kx rfl rfl rfl hc228 ?_
    refine sx rfl (pPick (t := true) (v := (vB true)) rfl ((congrArg vB hc228)) rfl) ?_
    refine sx rfl (pMove (v := (vB true)) rfl rfl) ?_
    iterate 9 refine kx rfl rfl rfl rfl ?_
    refine sx rfl (pPick (t := true) (v := (vB true)) rfl ((congrArg vB (rfl : true = true))) rfl) ?_
    refine SeqW.done fun fr229 hf230 => ?_
    have h7 := (congrFun hf230 7).trans h7
    have h96 : fr229 96 = (vB true) := (congrFun hf230 96).trans rfl
    clear hf230
    obtain rfl := Option.some.inj hr
    exact ⟨z215, hz, st, rfl, V223, h7, Q224, bx7n, h96, trivial⟩
   ·refine SeqW.consG rfl rfl rfl hc231 (StepX.pure (pMove (v := (vP b7)) rfl h7) ?_)
    refine SeqW.consG rfl rfl rfl hc231 (StepX.pure (pMove (v := v11) rfl h11) ?_)
    obtain ⟨y232, hy232, hr⟩ := bind_some hr
    refine SeqW.consG rfl rfl rfl hc231 (StepX.call (gCallee rfl rfl (args2 rfl rfl)) ((c_Maker_SpoilBytes (x0 := y214.2) (z := z215) st.fz st.dead Q224 ⟨bx7n.blk, bx7n.lt, bx7n.dead, .inr rfl⟩ s11 hy232).mono ?_))
    rintro V238 m237 ⟨z233, _, V241, hzx234, fz235, sm236, rfl, Q239, Q242, X244, -⟩
    replace s11 := s11.mono hzx234.le
    replace Q224 := Q224.mono hzx234.le
    have bx7nn : Bx z233 e m237 k b7 _ _ := ⟨X244.blk, X244.lt, X244.dead, bx7n.fresh⟩
    replace hz := hz.trans (Zx.here st hzx234)
    replace st := st.call hzx234 fz235 sm236 bx7n.hq
    obtain ⟨y245, hy245, hr⟩ := bind_some hr
    refine SeqW.consG rfl rfl rfl hc231 (StepX.call (gCallee rfl rfl (args1 rfl)) ((c_l06_fixed (z := z233) st.fz st.dead Q239 hy245).mono ?_))
    rintro V251 m250 ⟨z246, _, hzx247, fz248, sm249, rfl, Q252, -⟩
    replace bx7nn := bx7nn.call hzx247 sm249 Ap.none'
    replace s11 := s11.mono hzx247.le
    replace Q239 := Q239.mono hzx247.le
    replace Q242 := Q242.mono hzx247.le
    replace hz := hz.trans (Zx.here st hzx247)
    replace st := st.call hzx247 fz248 sm249 no_hq
    obtain ⟨y254, hy254, hr⟩ := bind_some hr
    refine SeqW.consG rfl rfl rfl hc231 (StepX.call (gCallee rfl rfl (args1 rfl)) ((c_l06_reads (z := z246) st.fz st.dead Q252 hy254).mono ?_))
    rintro _ _ ⟨rfl, rfl⟩
    refine SeqW.consG rfl rfl rfl hc231 (StepX.pure (pNot (b := y254) rfl rfl) ?_)
    refine sx rfl (pPick (t := false) (v := (vB (!y254))) rfl ((congrArg vB hc231)) rfl) ?_
    refine sx rfl (pMove (v := (vB (!y254))) rfl rfl) ?_
    rcases if_some hr with ⟨hc255, hr⟩ | ⟨hc258, hr⟩
    ·refine kx rfl rfl rfl hc255 ?_
     iterate 8 refine kx rfl rfl rfl hc255 ?_
     refine sx rfl (pPick (t := true) (v := (vB true)) rfl ((congrArg vB hc255)) rfl) ?_
     refine SeqW.done fun fr256 hf257 => ?_
     have h7 := (congrFun hf257 7).trans h7
     have h96 : fr256 96 = (vB true) := (congrFun hf257 96).trans rfl
     clear hf257
     obtain rfl := Option.some.inj hr
     exact ⟨z246, hz, st, rfl, V241, h7, Q242, bx7nn, h96, trivial⟩
    ·refine SeqW.consG rfl rfl rfl hc258 (StepX.pure (pMove (v := v11) rfl h11) ?_)
     refine SeqW.consG rfl rfl rfl hc258 (StepX.pure (pMove (v := (vP b7)) rfl h7) ?_)
     refine SeqW.consG rfl rfl rfl hc258 (StepX.pure (pMove (v := v11) rfl h11) ?_)
     refine SeqW.consG rfl rfl rfl hc258 (StepX.pure (pLenR (xs := x11) rfl Try.underlying23 rfl s11) ?_)
     refine SeqW.consG rfl rfl rfl hc258 (StepX.pure (pAdd (k := .i64) (a := (x11.length : Int)) (b := 1) rfl rfl rfl) ?_)
     obtain ⟨y259, hy259, hr⟩ := bind_some hr
     refine SeqW.consG rfl rfl rfl hc258 (StepX.call (gCallee rfl rfl (args2 rfl rfl)) ((c_Maker_Next (x0 := y232.2) (z := z246) st.fz st.dead Q242 ⟨bx7nn.blk, bx7nn.lt, bx7nn.dead, .inr rfl⟩ hy259).mono ?_))
     rintro _ m264 ⟨z260, V265, hzx261, fz262, sm263, rfl, Q266, X268, -⟩
     replace s11 := s11.mono hzx261.le
     replace Q242 := Q242.mono hzx261.le
     have bx7nnn : Bx z260 e m264 k b7 _ _ := ⟨X268.blk, X268.lt, X268.dead, bx7nn.fresh⟩
     replace hz := hz.trans (Zx.here st hzx261)
     replace st := st.call hzx261 fz262 sm263 bx7nn.hq
     obtain ⟨y269, hy269, hr⟩ := bind_some hr
     refine SeqW.consG rfl rfl rfl hc258 (kCut (T := (TU8 5)) (xs := x11) (a := 0) (b := y259.1) rfl Try.underlying23 Try.type5 rfl rfl rfl ⟨_, rfl⟩ s11 st hy269 ?_)
     intro V270 _ hI272 Q271
     obtain ⟨y274, hy274, hr⟩ := bind_some hr
     refine SeqW.consG rfl rfl rfl hc258 (StepX.call (gCallee rfl rfl (args1 rfl)) ((c_l06_reads (z := z260) st.fz st.dead Q271 hy274).mono ?_))
     rintro _ _ ⟨rfl, rfl⟩
     refine SeqW.consG rfl rfl rfl hc258 (StepX.pure (pNot (b := y274) rfl rfl) ?_)
     refine sx rfl (pPick (t := false) (v := (vB (!y274))) rfl ((congrArg vB hc258)) rfl) ?_
     refine SeqW.done fun fr275 hf276 => ?_
     have h7 := (congrFun hf276 7).trans h7
     have h96 : fr275 96 = (vB (!y274)) := (congrFun hf276 96).trans rfl
     clear hf276
     obtain rfl := Option.some.inj hr
     exact ⟨z260, hz, st, rfl, V265, h7, Q266, bx7nnn, h96, trivial⟩

theorem u_l06_ConsistExact_0 : ∀ (n : Nat) {N : Nat}  {z0 z : Nat → Blk} {e m : Mem} {k : Option Nat} {fr : Nat → Value} {x7 : Maker} {x8 : Int} {v7_0 : Value} {b7 : Nat} (hz : Zx e.next z0 z) (st : St z e m k) (h7 : fr 7 = (vP b7)) (s7_0 : SlR (TInt 3 .i64) z x7.l v7_0) (bx7 : Bx z e m k b7 [v7_0, (vI x7.n)] 53) (h8 : fr 8 = (vI x8)) {r : Sum (Unit) (Bool)} (hr : l06_ConsistExact_0 N n x7 x8 = some r), W Try.prog (sub (bodyOf Try.f7) [1, 1, 0, 1, 0]) (fun ex fr' m' => ∃ z', Zx e.next z0 z' ∧ St z' e m' k ∧ ((∃ q, r = Sum.inl q ∧ ex = AExit.exit 0 ∧ True) ∨ (∃ q, r = Sum.inr q ∧ ex = AExit.ret ∧ fr' 6 = (vB q) ∧ True))) fr m := by
 intro n
 induction n with
 | zero => intro N z0 z e m k fr x7 x8 v7_0 b7 hz st h7 s7_0 bx7 h8 r hr; cases (show (none : Option _) = some r from hr)
 | succ n ih =>
  intro N z0 z e m k fr x7 x8 v7_0 b7 hz st h7 s7_0 bx7 h8 r hr
  unfold l06_ConsistExact_0 at hr
  refine W.loop1 ?_
  refine W.seq (W.seq (W.region ?_))
  refine sx rfl (pMove (v := (vI x8)) rfl h8) ?_
  refine sx rfl (pLss (k := .i64) (a := x8) (b := 5) rfl rfl rfl) ?_
  refine SeqW.done fun fr20 hf21 => ?_
  have h7 := (congrFun hf21 7).trans h7
  have h8 := (congrFun hf21 8).trans h8
  have h16 : fr20 16 = (vB (decide (x8 < 5))) := (congrFun hf21 16).trans rfl
  clear hf21
  refine thenQ.n ?_
  rcases if_some hr with ⟨hc22, hr⟩ | ⟨hc296, hr⟩
  ·refine W.condT h16 hc22 (W.skip ?_)
   refine thenQ.n (W.seq ?_)
   refine W.block ?_
   refine W.seq (W.region ?_)
   refine sx rfl (pMove (v := (vP b7)) rfl h7) ?_
   obtain ⟨y23, hy23, hr⟩ := bind_some hr
   refine SeqW.consX rfl (StepX.call (gCallee rfl rfl (args2 rfl rfl)) ((c_Maker_Wagons (x0 := x7) (z := z) st.fz st.dead s7_0 ⟨bx7.blk, bx7.lt, bx7.dead, .inr rfl⟩ hy23).mono ?_))
   rintro V29 m28 ⟨z24, _, V32, hzx25, fz26, sm27, rfl, Q30, Q33, X35, -⟩
   have A36 := Ap.own bx7.lt' Q30.fresh
   replace s7_0 := s7_0.mono hzx25.le
   have bx7n : Bx z24 e m28 k b7 _ _ := ⟨X35.blk, X35.lt, X35.dead, bx7.fresh⟩
   have Q30 : OwF TWagon z24 e m28 k y23.1 V29 := Q30.up st.next
   replace hz := hz.trans (Zx.here st hzx25)
   replace st := st.call hzx25 fz26 sm27 bx7.hq
   refine sx rfl (pAssign (v := V29) rfl rfl) ?_
   refine SeqW.done fun fr37 hf38 => ?_
   have h7 := (congrFun hf38 7).trans h7
   have h8 := (congrFun hf38 8).trans h8
   have h9 : fr37 9 = V29 := (congrFun hf38 9).trans rfl
   clear hf38
   refine thenQ.n (W.seq (W.seq ?_))
   obtain ⟨y45, hy45, hr⟩ := bind_some hr
   refine W.keep (u_l06_ConsistExact_1 (x7 := y23.2) (Zx.refl _) st h7 Q33 bx7n h8 h9 Q30 A36 hy45) ?_
   rintro ex51 fr46 m47 hk49 ⟨z48, hz50, st, rfl, h27, O52, O53, A54, -⟩
   replace Q33 := Q33.mono hz50.le
   have h7 := (hk49 7 rfl).trans h7
   have h8 := (hk49 8 rfl).trans h8
   have h9 := (hk49 9 rfl).trans h9
   replace hz := hz.trans hz50
   clear hk49
   refine thenQ.n ?_
   obtain ⟨y102, hy102, hr⟩ := bind_some hr
   refine W.keep (u_l06_ConsistExact_2 (x7 := y23.2) (Zx.refl _) st h7 Q33 O52 h9 O53 h27 A54 hy102) ?_
   rintro ex108 fr103 m104 hk106 ⟨z105, hz107, st, rfl, w109, h7, Q111, X113, h9, O115, A116, -⟩
   have h8 := (hk106 8 rfl).trans h8
   replace hz := hz.trans hz107
   clear hk106
   refine thenQ.n (W.seq (W.seq ?_))
   obtain ⟨y123, hy123, hr⟩ := bind_some hr
   refine W.keep (u_l06_ConsistExact_3 (x7 := y102.1) (Zx.refl _) st h7 Q111 X113 h8 h9 O115 A116 hy123) ?_
   rintro ex129 fr124 m125 hk127 ⟨z126, hz128, st, rfl, h47, O130, O131, A132, -⟩
   replace Q111 := Q111.mono hz128.le
   have h7 := (hk127 7 rfl).trans h7
   have h8 := (hk127 8 rfl).trans h8
   have h9 := (hk127 9 rfl).trans h9
   replace hz := hz.trans hz128
   clear hk127
   refine thenQ.n ?_
   obtain ⟨y173, hy173, hr⟩ := bind_some hr
   refine W.keep (u_l06_ConsistExact_4 (x7 := y102.1) (Zx.refl _) st h7 Q111 O130 h9 O131 h47 A132 hy173) ?_
   rintro ex179 fr174 m175 hk177 ⟨z176, hz178, st, rfl, w180, w181, h7, Q183, X185, h9, O187, A188, -⟩
   have h8 := (hk177 8 rfl).trans h8
   replace hz := hz.trans hz178
   clear hk177
   refine thenQ.n (W.seq (W.region ?_))
   refine sx rfl (pMove (v := w181) rfl h9) ?_
   obtain ⟨z189, hz190, st, Q191, hl192⟩ := O187.freeze st
   replace Q183 := Q183.mono hz190.le
   replace X185 := X185.zle (hl192 _ A188)
   replace hz := hz.trans hz190
   obtain ⟨y193, hy193, hr⟩ := bind_some hr
   refine SeqW.consX rfl (StepX.call (gCallee rfl rfl (args1 rfl)) ((c_r06_Encode (z := z189) st.fz st.dead Q191 hy193).mono ?_))
   rintro _ m198 ⟨z194, V199, hzx195, fz196, sm197, rfl, Q200, -⟩
   replace Q183 := Q183.mono hzx195.le
   replace X185 := X185.call hzx195 sm197 Ap.none'
   replace Q191 := Q191.mono hzx195.le
   replace hz := hz.trans (Zx.here st hzx195)
   replace st := st.call hzx195 fz196 sm197 no_hq
   refine sx rfl (pMove (v := (Value.tuple [V199, (vI y193.2)].toArray)) rfl rfl) ?_
   refine sx rfl (pExtract (vs := [V199, (vI y193.2)]) (v := V199) rfl rfl rfl) ?_
   refine sx rfl (pExtract (vs := [V199, (vI y193.2)]) (v := (vI y193.2)) rfl rfl rfl) ?_
   refine sx rfl (pAssign (v := V199) rfl rfl) ?_
   refine sx rfl (pAssign (v := (vI y193.2)) rfl rfl) ?_
   refine SeqW.done fun fr202 hf203 => ?_
   have h7 := (congrFun hf203 7).trans h7
   have h8 := (congrFun hf203 8).trans h8
   have h9 := (congrFun hf203 9).trans h9
   have h11 : fr202 11 = V199 := (congrFun hf203 11).trans rfl
   clear hf203
   refine thenQ.n (W.seq ?_)
   obtain ⟨y277, hy277, hr⟩ := bind_some hr
   refine W.keep (u_l06_ConsistExact_5 (x7 := y173.1) (Zx.refl _) st h7 Q183 X185 h9 Q191 h11 Q200 hy277) ?_
   rintro ex283 fr278 m279 hk281 ⟨z280, hz282, st, rfl, w284, h7, Q286, X288, h96, -⟩
   have h8 := (hk281 8 rfl).trans h8
   replace hz := hz.trans hz282
   clear hk281
   refine thenQ.n ?_
   rcases if_some hr with ⟨hc289, hr⟩ | ⟨hc292, hr⟩
   ·refine W.condT h96 hc289 (W.seq (W.region ?_))
    refine sx rfl (pAssign (v := (vB false)) rfl rfl) ?_
    refine SeqW.done fun fr290 hf291 => ?_
    have h6 : fr290 6 = (vB false) := (congrFun hf291 6).trans rfl
    clear hf291
    refine thenQ.n ?_
    refine W.ret ?_
    refine blockQ.r ?_
    refine thenQ.r ?_
    refine thenQ.r ?_
    obtain rfl := Option.some.inj hr
    exact ⟨z280, hz, st, .inr ⟨_, rfl, rfl, h6, trivial⟩⟩
   ·refine W.condF h96 hc292 (W.skip ?_)
    refine blockQ.n ?_
    refine thenQ.n (W.region ?_)
    refine sx rfl (pMove (v := (vI x8)) rfl h8) ?_
    refine sx rfl (pAdd (k := .i64) (a := x8) (b := 1) rfl rfl rfl) ?_
    obtain ⟨y293, hy293, hr⟩ := lt_some hr
    refine sx rfl (pAssign rfl (congrArg (Value.int .i64) hy293)) ?_
    refine SeqW.done fun fr294 hf295 => ?_
    have h7 := (congrFun hf295 7).trans h7
    have h8 : fr294 8 = (vI y293) := (congrFun hf295 8).trans rfl
    clear hf295
    refine thenQ.n ?_
    exact ih (x7 := y277.1) hz st h7 Q286 X288 h8 hr
  ·refine W.condF h16 hc296 ?_
   refine W.exit ?_
   refine thenQ.x ?_
   refine thenQ.x ?_
   obtain rfl := Option.some.inj hr
   exact ⟨z, hz, st, .inl ⟨_, rfl, rfl, trivial⟩⟩

theorem u_l06_ConsistExact_6 {N : Nat}  {z0 z : Nat → Blk} {e m : Mem} {k : Option Nat} {fr : Nat → Value} {x1 : List Wagon} {x2 : List UInt8} {v1 : Value} {v2 : Value} (hz : Zx e.next z0 z) (st : St z e m k) (h1 : fr 1 = v1) (s1 : SlR TWagon z x1 v1) (h2 : fr 2 = v2) (s2 : SlR (TU8 5) z x2 v2) {r : Bool} (hr : l06_ConsistExact_6 N x1 x2 = some r) : W Try.prog (sub (bodyOf Try.f7) [1, 1, 1, 0]) (fun ex fr' m' => ∃ z', Zx e.next z0 z' ∧ St z' e m' k ∧ ex = AExit.normal ∧ fr' 6 = (vB r) ∧ True) fr m := by
 unfold l06_ConsistExact_6 at hr
 refine W.region ?_
 refine sx rfl (pMove (v := v1) rfl h1) ?_
 refine sx rfl (pLenR (xs := x1) rfl Try.underlying24 rfl s1) ?_
 refine sx rfl (pGtr (k := .i64) (a := (x1.length : Int)) (b := 20) rfl rfl rfl) ?_
 refine sx rfl (pMove (v := (vB (decide (20 < (x1.length : Int))))) rfl rfl) ?_
 rcases if_some hr with ⟨hc305, hr⟩ | ⟨hc308, hr⟩
 ·refine kx rfl rfl rfl hc305 ?_
  iterate 2 refine kx rfl rfl rfl hc305 ?_
  refine sx rfl (pPick (t := true) (v := (vB true)) rfl ((congrArg vB hc305)) rfl) ?_
  refine sx rfl (pMove (v := (vB true)) rfl rfl) ?_
  iterate 3 refine kx rfl rfl rfl rfl ?_
  refine SeqW.skipU rfl rfl rfl ?_
  refine SeqW.skipU rfl rfl rfl ?_
  iterate 2 refine kx rfl rfl rfl rfl ?_
  refine SeqW.skipU rfl rfl rfl ?_
  refine SeqW.skipU rfl rfl rfl ?_
  refine SeqW.skipU rfl rfl rfl ?_
  iterate 2 refine kx rfl rfl rfl rfl ?_
  refine SeqW.skipU rfl rfl rfl ?_
  refine kx rfl rfl rfl rfl ?_
  refine sx rfl (pPick (t := true) (v := (vB true)) rfl ((congrArg vB (rfl : true = true))) rfl) ?_
  refine sx rfl (pAssign (v := (vB true)) rfl rfl) ?_
  refine SeqW.done fun fr306 hf307 => ?_
  have h6 : fr306 6 = (vB true) := (congrFun hf307 6).trans rfl
  clear hf307
  obtain rfl := Option.some.inj hr
  exact ⟨z, hz, st, rfl, h6, trivial⟩
 ·refine SeqW.consG rfl rfl rfl hc308 (StepX.pure (pMove (v := v2) rfl h2) ?_)
  refine SeqW.consG rfl rfl rfl hc308 (StepX.pure (pLenR (xs := x2) rfl Try.underlying23 rfl s2) ?_)
  refine SeqW.consG rfl rfl rfl hc308 (StepX.pure (pGtr (k := .i64) (a := (x2.length : Int)) (b := 300) rfl rfl rfl) ?_)
  refine sx rfl (pPick (t := false) (v := (vB (decide (300 < (x2.length : Int))))) rfl ((congrArg vB hc308)) rfl) ?_
  refine sx rfl (pMove (v := (vB (decide (300 < (x2.length : Int))))) rfl rfl) ?_
  rcases if_some hr with ⟨hc309, hr⟩ | ⟨hc312, hr⟩
  ·refine kx rfl rfl rfl hc309 ?_
   iterate 2 refine kx rfl rfl rfl hc309 ?_
   refine SeqW.skipU rfl rfl rfl ?_
   refine SeqW.skipU rfl rfl rfl ?_
   iterate 2 refine kx rfl rfl rfl hc309 ?_
   refine SeqW.skipU rfl rfl rfl ?_
   refine SeqW.skipU rfl rfl rfl ?_
   refine SeqW.skipU rfl rfl rfl ?_
   iterate 2 refine kx rfl rfl rfl hc309 ?_
   refine SeqW.skipU rfl rfl rfl ?_
   refine kx rfl rfl rfl hc309 ?_
   refine sx rfl (pPick (t := true) (v := (vB true)) rfl ((congrArg vB hc309)) rfl) ?_
   refine sx rfl (pAssign (v := (vB true)) rfl rfl) ?_
   refine SeqW.done fun fr310 hf311 => ?_
   have h6 : fr310 6 = (vB true) := (congrFun hf311 6).trans rfl
   clear hf311
   obtain rfl := Option.some.inj hr
   exact ⟨z, hz, st, rfl, h6, trivial⟩
  ·refine SeqW.consG rfl rfl rfl hc312 (StepX.pure (pMove (v := v1) rfl h1) ?_)
   obtain ⟨y313, hy313, hr⟩ := bind_some hr
   refine SeqW.consG rfl rfl rfl hc312 (StepX.call (gCallee rfl rfl (args1 rfl)) ((c_l06_writes (z := z) st.fz st.dead s1 hy313).mono ?_))
   rintro _ _ ⟨rfl, rfl⟩
   refine SeqW.consG rfl rfl rfl hc312 (StepX.pure (pMove (v := (vB y313)) rfl rfl) ?_)
   rcases if_some hr with ⟨hc314, hr⟩ | ⟨hc337, hr⟩
   ·refine SeqW.consG rfl rfl rfl hc314 (StepX.pure (pMove (v := v2) rfl h2) ?_)
    obtain ⟨y315, hy315, hr⟩ := bind_some hr
    refine SeqW.consG rfl rfl rfl hc314 (StepX.call (gCallee rfl rfl (args1 rfl)) ((c_l06_reads (z := z) st.fz st.dead s2 hy315).mono ?_))
    rintro _ _ ⟨rfl, rfl⟩
    refine SeqW.consG rfl rfl rfl hc312 (StepX.pure (pPick (t := true) (v := (vB y315)) rfl ((congrArg vB hc314)) rfl) ?_)
    refine SeqW.consG rfl rfl rfl hc312 (StepX.pure (pMove (v := (vB y315)) rfl rfl) ?_)
    rcases if_some hr with ⟨hc316, hr⟩ | ⟨hc334, hr⟩
    ·refine SeqW.consG rfl rfl rfl hc316 (StepX.pure (pMove (v := v2) rfl h2) ?_)
     obtain ⟨y317, hy317, hr⟩ := bind_some hr
     refine SeqW.consG rfl rfl rfl hc316 (StepX.call (gCallee rfl rfl (args1 rfl)) ((c_l06_fixed (z := z) st.fz st.dead s2 hy317).mono ?_))
     rintro V323 m322 ⟨z318, _, hzx319, fz320, sm321, rfl, Q324, -⟩
     replace s2 := s2.mono hzx319.le
     replace hz := hz.trans (Zx.here st hzx319)
     replace st := st.call hzx319 fz320 sm321 no_hq
     obtain ⟨y326, hy326, hr⟩ := bind_some hr
     refine SeqW.consG rfl rfl rfl hc316 (StepX.call (gCallee rfl rfl (args1 rfl)) ((c_l06_reads (z := z318) st.fz st.dead Q324 hy326).mono ?_))
     rintro _ _ ⟨rfl, rfl⟩
     refine SeqW.consG rfl rfl rfl hc312 (StepX.pure (pPick (t := true) (v := (vB y326)) rfl ((congrArg vB hc316)) rfl) ?_)
     refine SeqW.consG rfl rfl rfl hc312 (StepX.pure (pMove (v := (vB y326)) rfl rfl) ?_)
     rcases if_some hr with ⟨hc327, hr⟩ | ⟨hc331, hr⟩
     ·obtain ⟨y328, hy328, hr⟩ := bind_some hr
      refine SeqW.consG rfl rfl rfl hc327 (StepX.call (gCallee rfl rfl args0) ((c_l06_sane (z := z318) st.fz st.dead  hy328).mono ?_))
      rintro _ _ ⟨rfl, rfl⟩
      refine SeqW.consG rfl rfl rfl hc312 (StepX.pure (pPick (t := true) (v := (vB y328)) rfl ((congrArg vB hc327)) rfl) ?_)
      refine sx rfl (pPick (t := false) (v := (vB y328)) rfl ((congrArg vB hc312)) rfl) ?_
      refine sx rfl (pAssign (v := (vB y328)) rfl rfl) ?_
      refine SeqW.done fun fr329 hf330 => ?_
      have h6 : fr329 6 = (vB y328) := (congrFun hf330 6).trans rfl
      clear hf330
      obtain rfl := Option.some.inj hr
      exact ⟨z318, hz, st, rfl, h6, trivial⟩
     ·refine kx rfl rfl rfl hc331 ?_
      refine SeqW.consG rfl rfl rfl hc312 (StepX.pure (pPick (t := false) (v := (vB false)) rfl ((congrArg vB hc331)) rfl) ?_)
      refine sx rfl (pPick (t := false) (v := (vB false)) rfl ((congrArg vB hc312)) rfl) ?_
      refine sx rfl (pAssign (v := (vB false)) rfl rfl) ?_
      refine SeqW.done fun fr332 hf333 => ?_
      have h6 : fr332 6 = (vB false) := (congrFun hf333 6).trans rfl
      clear hf333
      obtain rfl := Option.some.inj hr
      exact ⟨z318, hz, st, rfl, h6, trivial⟩
    ·refine kx rfl rfl rfl hc334 ?_
     iterate 2 refine kx rfl rfl rfl hc334 ?_
     refine SeqW.consG rfl rfl rfl hc312 (StepX.pure (pPick (t := false) (v := (vB false)) rfl ((congrArg vB hc334)) rfl) ?_)
     refine SeqW.consG rfl rfl rfl hc312 (StepX.pure (pMove (v := (vB false)) rfl rfl) ?_)
     refine kx rfl rfl rfl rfl ?_
     refine SeqW.consG rfl rfl rfl hc312 (StepX.pure (pPick (t := false) (v := (vB false)) rfl ((congrArg vB (rfl : false = false))) rfl) ?_)
     refine sx rfl (pPick (t := false) (v := (vB false)) rfl ((congrArg vB hc312)) rfl) ?_
     refine sx rfl (pAssign (v := (vB false)) rfl rfl) ?_
     refine SeqW.done fun fr335 hf336 => ?_
     have h6 : fr335 6 = (vB false) := (congrFun hf336 6).trans rfl
     clear hf336
     obtain rfl := Option.some.inj hr
     exact ⟨z, hz, st, rfl, h6, trivial⟩
   ·refine kx rfl rfl rfl hc337 ?_
    refine kx rfl rfl rfl hc337 ?_
    refine SeqW.consG rfl rfl rfl hc312 (StepX.pure (pPick (t := false) (v := (vB false)) rfl ((congrArg vB hc337)) rfl) ?_)
    refine SeqW.consG rfl rfl rfl hc312 (StepX.pure (pMove (v := (vB false)) rfl rfl) ?_)
    iterate 3 refine kx rfl rfl rfl rfl ?_
    refine SeqW.consG rfl rfl rfl hc312 (StepX.pure (pPick (t := false) (v := (vB false)) rfl ((congrArg vB (rfl : false = false))) rfl) ?_)
    refine SeqW.consG rfl rfl rfl hc312 (StepX.pure (pMove (v := (vB false)) rfl rfl) ?_)
    refine kx rfl rfl rfl rfl ?_
    refine SeqW.consG rfl rfl rfl hc312 (StepX.pure (pPick (t := false) (v := (vB false)) rfl ((congrArg vB (rfl : false = false))) rfl) ?_)
    refine sx rfl (pPick (t := false) (v := (vB false)) rfl ((congrArg vB hc312)) rfl) ?_
    refine sx rfl (pAssign (v := (vB false)) rfl rfl) ?_
    refine SeqW.done fun fr338 hf339 => ?_
    have h6 : fr338 6 = (vB false) := (congrFun hf339 6).trans rfl
    clear hf339
    obtain rfl := Option.some.inj hr
    exact ⟨z, hz, st, rfl, h6, trivial⟩

theorem u_l06_ConsistExact {N : Nat}  {z0 z : Nat → Blk} {e m : Mem} {k : Option Nat} {fr : Nat → Value} {x0 : List Int} {x1 : List Wagon} {x2 : List UInt8} {v0 : Value} {v1 : Value} {v2 : Value} (hz : Zx e.next z0 z) (st : St z e m k) (h0 : fr 0 = v0) (s0 : SlR (TInt 3 .i64) z x0 v0) (h1 : fr 1 = v1) (s1 : SlR TWagon z x1 v1) (h2 : fr 2 = v2) (s2 : SlR (TU8 5) z x2 v2) {r : Bool} (hr : l06_ConsistExact N x0 x1 x2 = some r) : W Try.prog (sub (bodyOf Try.f7) []) (fun ex fr' m' => ∃ z', Zx e.next z0 z' ∧ St z' e m' k ∧ (ex = .normal ∨ ex = .ret) ∧ fr' 6 = (vB r) ∧ True) fr m := by
 unfold l06_ConsistExact at hr
 refine W.seq (W.region ?_)
 refine sx rfl (pAssign (v := (vB false)) rfl rfl) ?_
 refine SeqW.done fun fr1 hf2 => ?_
 have h0 := (congrFun hf2 0).trans h0
 have h1 := (congrFun hf2 1).trans h1
 have h2 := (congrFun hf2 2).trans h2
 clear hf2
 refine thenQ.n (W.seq (W.region ?_))
 refine sx rfl (pMove (v := v0) rfl h0) ?_
 obtain ⟨y3, hy3, hr⟩ := bind_some hr
 refine SeqW.consX rfl (StepX.call (gCallee rfl rfl (args1 rfl)) ((c_gen_New (z := z) st.fz st.dead s0 hy3).mono ?_))
 rintro _ m8 ⟨z4, B9, V12, hzx5, fz6, sm7, rfl, Q13, X10, hn15, -⟩
 replace s0 := s0.mono hzx5.le
 replace s1 := s1.mono hzx5.le
 replace s2 := s2.mono hzx5.le
 have X10 : Bx z4 e m8 k B9 _ _ := ⟨X10.blk, X10.lt, X10.dead, .inl (Nat.le_trans st.next hn15)⟩
 replace hz := hz.trans (Zx.here st hzx5)
 replace st := st.call hzx5 fz6 sm7 no_hq
 refine sx rfl (pAssign (v := (vP B9)) rfl rfl) ?_
 refine SeqW.done fun fr16 hf17 => ?_
 have h1 := (congrFun hf17 1).trans h1
 have h2 := (congrFun hf17 2).trans h2
 have h7 : fr16 7 = (vP B9) := (congrFun hf17 7).trans rfl
 clear hf17
 refine thenQ.n (W.seq ?_)
 refine W.seq (W.region ?_)
 refine sx rfl (pAssign (v := (vI 0)) rfl rfl) ?_
 refine SeqW.done fun fr18 hf19 => ?_
 have h1 := (congrFun hf19 1).trans h1
 have h2 := (congrFun hf19 2).trans h2
 have h7 := (congrFun hf19 7).trans h7
 have h8 : fr18 8 = (vI 0) := (congrFun hf19 8).trans rfl
 clear hf19
 refine thenQ.n ?_
 refine W.block ?_
 obtain ⟨y297, hy297, hr⟩ := bind_some hr
 refine W.keep (u_l06_ConsistExact_0 (x7 := y3) _ (Zx.refl _) st h7 Q13 X10 h8 hy297) ?_
 rintro ex303 fr298 m299 hk301 ⟨z300, hz302, st, ⟨y304, rfl, rfl, -⟩ | ⟨y347, rfl, rfl, h6, -⟩⟩
 ·dsimp only at hr
  replace s1 := s1.mono hz302.le
  replace s2 := s2.mono hz302.le
  have h1 := (hk301 1 rfl).trans h1
  have h2 := (hk301 2 rfl).trans h2
  replace hz := hz.trans hz302
  clear hk301
  refine blockQ.hit ?_
  refine thenQ.n (W.seq ?_)
  obtain ⟨y340, hy340, hr⟩ := bind_some hr
  refine W.keep (u_l06_ConsistExact_6 (Zx.refl _) st h1 s1 h2 s2 hy340) ?_
  rintro ex346 fr341 m342 hk344 ⟨z343, hz345, st, rfl, h6, -⟩
  replace hz := hz.trans hz345
  clear hk344
  refine thenQ.n ?_
  refine W.ret ?_
  obtain rfl := Option.some.inj hr
  exact ⟨z343, hz, st, .inr rfl, h6, trivial⟩
 ·dsimp only at hr
  replace hz := hz.trans hz302
  clear hk301
  refine blockQ.r ?_
  refine thenQ.r ?_
  obtain rfl := Option.some.inj hr
  exact ⟨z300, hz, st, .inr rfl, h6, trivial⟩

theorem c_l06_ConsistExact {N : Nat} {z : Nat → Blk} {m : Mem} {x0 : List Int} {x1 : List Wagon} {x2 : List UInt8} {v0 : Value} {v1 : Value} {v2 : Value} (fz : Fz z m) (hd : ∀ b, m.next ≤ b → m.blk b = .dead) (s0 : SlR (TInt 3 .i64) z x0 v0) (s1 : SlR TWagon z x1 v1) (s2 : SlR (TU8 5) z x2 v2) {r : Bool} (hr : l06_ConsistExact N x0 x1 x2 = some r) : CallW Try.prog 7 #[v0, v1, v2] m fun v m' => v = (vB r) ∧ m' = m := by
 refine CallW.flat Try.func7 rfl (by kernel_rfl) (Nat.le_of_ble_eq_true rfl) rfl (z := z) (fun fr hf => ?_)
 have h0 : fr 0 = _ := hf 0 _ rfl
 have h1 : fr 1 = _ := hf 1 _ rfl
 have h2 : fr 2 = _ := hf 2 _ rfl
 refine (u_l06_ConsistExact (k := none) (Zx.refl _) (St.start fz hd) h0 s0 h1 s1 h2 s2 hr).mono ?_
 rintro ex fr' m' ⟨z', hz, st, he, h6, -⟩
 exact ⟨he, z', st, [(vB r)], ⟨h6.symm, trivial⟩, .inl rfl, rfl⟩

end Go.W
