/- The models are what the program computes. -/
import Derived.Test.YtaoioacomnnhdaaW2
set_option linter.unusedVariables false
set_option linter.unusedSimpArgs false
set_option maxRecDepth 100000
set_option maxHeartbeats 4000000
namespace Go.W
open Go.AM Go.Proofs


/-! ### (humpyard/rulebook.train).place$7 -/

theorem u_rulebook_train_place_7_0 {N : Nat}  {z0 z : Nat → Blk} {e m : Mem} {k : Option Nat} {fr : Nat → Value} {x0 : Int} {x2 : Rule} {x3 : Train} {x5 : Wagon} {b2 : Nat} {f2 : Nat} {b3 : Nat} {f3 : Nat} {v3_0 : Value} {v3_1 : Value} {b5 : Nat} (hz : Zx e.next z0 z) (st : St z e m k) (h0 : fr 0 = (vI x0)) (h2 : fr 2 = (Value.pointer (some ⟨b2, f2, none⟩))) (c2 : cellsAt z b2 f2 [(vI x2.number), (vI x2.kind), (vI x2.a), (vI x2.b), (vI x2.c)]) (h3 : fr 3 = (Value.pointer (some ⟨b3, f3, none⟩))) (s3_0 : SlR TWagon z x3.l v3_0) (s3_1 : SlR (TInt 3 .i64) z x3.off v3_1) (c3 : cellsAt z b3 f3 [v3_0, v3_1, (vI x3.total.length), (vI x3.total.axles), (vI x3.total.mass), (vI x3.total.braked), (vI x3.total.percent), (vI x3.total.required), (vI x3.total.missing)]) (h5 : fr 5 = (vP b5)) (bx5 : Bx z e m k b5 [(str x5.number), (vI x5.length), (vI x5.axles), (vI x5.mass), (vI x5.brake), (vI x5.goods), (vB x5.gentle), (str x5.dest)] 36) {r : Bool} (hr : rulebook_train_place_7_0 N x0 x2 x3 x5 = some r) : W Try.prog (sub (bodyOf Try.f53) [1, 0]) (fun ex fr' m' => ∃ z', Zx e.next z0 z' ∧ St z' e m' k ∧ ex = AExit.normal ∧ fr' 6 = (vB r) ∧ True) fr m := by
 unfold rulebook_train_place_7_0 at hr
 refine W.draw ?_
 refine DrawW.cons rfl (kField rfl Try.underlying36 rfl Try.type3 rfl h5 rfl ?_)
 refine ⟨trivial, ?_⟩
 refine DrawW.cons rfl (kLoad rfl Try.underlying3 rfl rfl (bx5.load (v := (vI x5.mass)) rfl) ?_)
 refine ⟨?_, ?_⟩
 ·exact demN
 refine DrawW.cons rfl (kField rfl Try.underlying32 rfl Try.type3 rfl h2 rfl ?_)
 refine ⟨trivial, ?_⟩
 refine DrawW.cons rfl (kLoad (v := (vI x2.a)) rfl Try.underlying3 rfl rfl (ldz_load st.fz (c2 2 _ rfl)) ?_)
 refine ⟨?_, ?_⟩
 ·exact demN
 refine DrawW.cons rfl (StepX.pure (pLeq (k := .i64) (a := x5.mass) (b := x2.a) rfl rfl rfl) ?_)
 refine ⟨trivial, ?_⟩
 refine DrawW.cons rfl (StepX.pure (pMove (v := (vB (decide (x5.mass ≤ x2.a)))) rfl rfl) ?_)
 refine ⟨trivial, ?_⟩
 rcases if_some hr with ⟨hc9, hr⟩ | ⟨hc15, hr⟩
 ·refine DrawW.consG rfl rfl rfl hc9 (kLoadA rfl Try.underlying63 rfl Try.type63 rfl h3 (st.loads c3) ?_)
  refine ⟨?_, ?_⟩
  ·exact demN
  refine DrawW.consG rfl rfl rfl hc9 (StepX.pure (pMove (v := (vI x0)) rfl h0) ?_)
  refine ⟨trivial, ?_⟩
  have sto10 := st
  obtain ⟨y11, hy11, hr⟩ := bind_some hr
  refine DrawW.consG rfl rfl rfl hc9 (StepX.call (gCallee rfl rfl (args2 rfl rfl)) ((c_train_behind (x0 := x3) (z := z) st.fz st.dead s3_0 s3_1 hy11).mono ?_))
  rintro _ _ ⟨rfl, rfl⟩
  refine ⟨⟨?_, ?_⟩, ?_⟩
  ·first | refine demP (gLoadA rfl Try.underlying63 rfl Try.type63 rfl h3 (st.loads c3)) ?_ | refine demA (by decide +kernel) ?_
   first | refine demP (gLoad (v := (vI x2.a)) rfl Try.underlying3 rfl rfl (ldz_load st.fz (c2 2 _ rfl))) ?_ | refine demA (by decide +kernel) ?_
   first | refine demP (gLoad rfl Try.underlying3 rfl rfl (bx5.load (v := (vI x5.mass)) rfl)) ?_ | refine demA (by decide +kernel) ?_
   exact demN
  ·exact demN
  refine DrawW.consG rfl rfl rfl hc9 (kField rfl Try.underlying32 rfl Try.type3 rfl h2 rfl ?_)
  refine ⟨trivial, ?_⟩
  refine DrawW.consG rfl rfl rfl hc9 (kLoad (v := (vI x2.b)) rfl Try.underlying3 rfl rfl (ldz_load st.fz (c2 3 _ rfl)) ?_)
  refine ⟨?_, ?_⟩
  ·first | refine demP (gLoad (v := (vI x2.b)) rfl Try.underlying3 rfl rfl (ldz_load sto10.fz (c2 3 _ rfl))) ?_ | refine demA (by decide +kernel) ?_
   exact demN
  refine DrawW.consG rfl rfl rfl hc9 (StepX.pure (pGtr (k := .i64) (a := y11) (b := x2.b) rfl rfl rfl) ?_)
  refine ⟨trivial, ?_⟩
  refine DrawW.cons rfl (StepX.pure (pPick (t := true) (v := (vB (decide (x2.b < y11)))) rfl ((congrArg vB hc9)) rfl) ?_)
  refine ⟨trivial, ?_⟩
  obtain ⟨y12, hy12, hr⟩ := lt_some hr
  refine DrawW.cons rfl (StepX.pure (pAssign rfl (congrArg vB hy12)) ?_)
  refine ⟨trivial, ?_⟩
  refine DrawW.done fun fr13 hf14 => ?_
  have h6 : fr13 6 = (vB y12) := (congrFun hf14 6).trans rfl
  clear hf14
  obtain rfl := Option.some.inj hr
  exact ⟨z, hz, st, rfl, h6, trivial⟩
 ·refine DrawW.skipG rfl rfl rfl hc15 ?_
  refine DrawW.skipG rfl rfl rfl hc15 ?_
  refine DrawW.skipG rfl rfl rfl hc15 ?_
  refine DrawW.skipG rfl rfl rfl hc15 ?_
  refine DrawW.skipG rfl rfl rfl hc15 ?_
  refine DrawW.skipG rfl rfl rfl hc15 ?_
  refine DrawW.cons rfl (StepX.pure (pPick (t := false) (v := (vB false)) rfl ((congrArg vB hc15)) rfl) ?_)
  refine ⟨trivial, ?_⟩
  refine DrawW.cons rfl (StepX.pure (pAssign (v := (vB false)) rfl rfl) ?_)
  refine ⟨trivial, ?_⟩
  refine DrawW.done fun fr16 hf17 => ?_
  have h6 : fr16 6 = (vB false) := (congrFun hf17 6).trans rfl
  clear hf17
  obtain rfl := Option.some.inj hr
  exact ⟨z, hz, st, rfl, h6, trivial⟩

theorem u_rulebook_train_place_7 {N : Nat}  {z0 z : Nat → Blk} {e m : Mem} {k : Option Nat} {fr : Nat → Value} {x0 : Int} {x1 : Wagon} {x2 : Rule} {x3 : Train} {b2 : Nat} {f2 : Nat} {b3 : Nat} {f3 : Nat} {v3_0 : Value} {v3_1 : Value} (hz : Zx e.next z0 z) (st : St z e m k) (h0 : fr 0 = (vI x0)) (h1 : fr 1 = (Value.agg [(str x1.number), (vI x1.length), (vI x1.axles), (vI x1.mass), (vI x1.brake), (vI x1.goods), (vB x1.gentle), (str x1.dest)].toArray)) (h2 : fr 2 = (Value.pointer (some ⟨b2, f2, none⟩))) (c2 : cellsAt z b2 f2 [(vI x2.number), (vI x2.kind), (vI x2.a), (vI x2.b), (vI x2.c)]) (h3 : fr 3 = (Value.pointer (some ⟨b3, f3, none⟩))) (s3_0 : SlR TWagon z x3.l v3_0) (s3_1 : SlR (TInt 3 .i64) z x3.off v3_1) (c3 : cellsAt z b3 f3 [v3_0, v3_1, (vI x3.total.length), (vI x3.total.axles), (vI x3.total.mass), (vI x3.total.braked), (vI x3.total.percent), (vI x3.total.required), (vI x3.total.missing)]) {r : Bool} (hr : rulebook_train_place_7 N x0 x1 x2 x3 = some r) : W Try.prog (sub (bodyOf Try.f53) []) (fun ex fr' m' => ∃ z', Zx e.next z0 z' ∧ St z' e m' k ∧ (ex = .normal ∨ ex = .ret) ∧ fr' 6 = (vB r) ∧ True) fr m := by
 unfold rulebook_train_place_7 at hr
 refine W.seq (W.region ?_)
 refine SeqW.consX rfl (kBox (v := (Value.agg [(str x1.number), (vI x1.length), (vI x1.axles), (vI x1.mass), (vI x1.brake), (vI x1.goods), (vB x1.gentle), (str x1.dest)].toArray)) rfl Try.type36 h1 rfl [(str x1.number), (vI x1.length), (vI x1.axles), (vI x1.mass), (vI x1.brake), (vI x1.goods), (vB x1.gentle), (str x1.dest)] rfl rfl st ?_)
 intro B1 m2  st X3 sm4 hap5
 refine sx rfl (pAssign (v := (vB false)) rfl rfl) ?_
 refine SeqW.done fun fr7 hf8 => ?_
 have h0 := (congrFun hf8 0).trans h0
 have h2 := (congrFun hf8 2).trans h2
 have h3 := (congrFun hf8 3).trans h3
 have h5 : fr7 5 = (vP B1) := (congrFun hf8 5).trans rfl
 clear hf8
 refine thenQ.n (W.seq ?_)
 obtain ⟨y18, hy18, hr⟩ := bind_some hr
 refine W.keep (u_rulebook_train_place_7_0 (x2 := x2) (x3 := x3) (x5 := x1) (Zx.refl _) st h0 h2 c2 h3 s3_0 s3_1 c3 h5 X3 hy18) ?_
 rintro ex24 fr19 m20 hk22 ⟨z21, hz23, st, rfl, h6, -⟩
 replace hz := hz.trans hz23
 clear hk22
 refine thenQ.n ?_
 refine W.ret ?_
 obtain rfl := Option.some.inj hr
 exact ⟨z21, hz, st, .inr rfl, h6, trivial⟩

theorem c_rulebook_train_place_7 {N : Nat} {z : Nat → Blk} {m : Mem} {x0 : Int} {x1 : Wagon} {x2 : Rule} {x3 : Train} {b2 : Nat} {f2 : Nat} {b3 : Nat} {f3 : Nat} {v3_0 : Value} {v3_1 : Value} (fz : Fz z m) (hd : ∀ b, m.next ≤ b → m.blk b = .dead) (c2 : cellsAt z b2 f2 [(vI x2.number), (vI x2.kind), (vI x2.a), (vI x2.b), (vI x2.c)]) (s3_0 : SlR TWagon z x3.l v3_0) (s3_1 : SlR (TInt 3 .i64) z x3.off v3_1) (c3 : cellsAt z b3 f3 [v3_0, v3_1, (vI x3.total.length), (vI x3.total.axles), (vI x3.total.mass), (vI x3.total.braked), (vI x3.total.percent), (vI x3.total.required), (vI x3.total.missing)]) {r : Bool} (hr : rulebook_train_place_7 N x0 x1 x2 x3 = some r) : CallW Try.prog 53 #[(vI x0), (Value.agg [(str x1.number), (vI x1.length), (vI x1.axles), (vI x1.mass), (vI x1.brake), (vI x1.goods), (vB x1.gentle), (str x1.dest)].toArray), (Value.pointer (some ⟨b2, f2, none⟩)), (Value.pointer (some ⟨b3, f3, none⟩))] m fun v m' => v = (vB r) ∧ m' = m := by
 refine CallW.flat Try.func53 rfl (by kernel_rfl) (Nat.le_of_ble_eq_true rfl) rfl (z := z) (fun fr hf => ?_)
 have h0 : fr 0 = _ := hf 0 _ rfl
 have h1 : fr 1 = _ := hf 1 _ rfl
 have h2 : fr 2 = _ := hf 2 _ rfl
 have h3 : fr 3 = _ := hf 3 _ rfl
 refine (u_rulebook_train_place_7 (k := none) (Zx.refl _) (St.start fz hd) h0 h1 h2 c2 h3 s3_0 s3_1 c3 hr).mono ?_
 rintro ex fr' m' ⟨z', hz, st, he, h6, -⟩
 exact ⟨he, z', st, [(vB r)], ⟨h6.symm, trivial⟩, .inl rfl, rfl⟩

/-! ### (humpyard/rulebook.train).first -/

theorem u_train_first__rulebook_train_place_7_0 : ∀ (n : Nat) {N : Nat}  {z0 z : Nat → Blk} {e m : Mem} {k : Option Nat} {fr : Nat → Value} {x1 : Rule × Train} {x8 : List Wagon} {x9 : Int} {x10 : Int} {b1_0 : Nat} {f1_0 : Nat} {b1_1 : Nat} {f1_1 : Nat} {v1_1_0 : Value} {v1_1_1 : Value} {v8 : Value} (hz : Zx e.next z0 z) (st : St z e m k) (h1 : fr 1 = (Value.func (.func 53) #[] #[(Value.pointer (some ⟨b1_0, f1_0, none⟩)), (Value.pointer (some ⟨b1_1, f1_1, none⟩))])) (c1_0 : cellsAt z b1_0 f1_0 [(vI x1.1.number), (vI x1.1.kind), (vI x1.1.a), (vI x1.1.b), (vI x1.1.c)]) (s1_1_0 : SlR TWagon z x1.2.l v1_1_0) (s1_1_1 : SlR (TInt 3 .i64) z x1.2.off v1_1_1) (c1_1 : cellsAt z b1_1 f1_1 [v1_1_0, v1_1_1, (vI x1.2.total.length), (vI x1.2.total.axles), (vI x1.2.total.mass), (vI x1.2.total.braked), (vI x1.2.total.percent), (vI x1.2.total.required), (vI x1.2.total.missing)]) (h8 : fr 8 = v8) (s8 : SlR TWagon z x8 v8) (h9 : fr 9 = (vI x9)) (h10 : fr 10 = (vI x10)) {r : Sum (Unit) (Int)} (hr : train_first__rulebook_train_place_7_0 N x1 x8 x9 n x10 = some r), W Try.prog (sub (bodyOf Try.f47) [1, 0, 1, 0]) (fun ex fr' m' => ∃ z', Zx e.next z0 z' ∧ St z' e m' k ∧ ((∃ q, r = Sum.inl q ∧ ex = AExit.exit 0 ∧ True) ∨ (∃ q, r = Sum.inr q ∧ ex = AExit.ret ∧ fr' 4 = (vI q) ∧ True))) fr m := by
 intro n
 induction n with
 | zero => intro N z0 z e m k fr x1 x8 x9 x10 b1_0 f1_0 b1_1 f1_1 v1_1_0 v1_1_1 v8 hz st h1 c1_0 s1_1_0 s1_1_1 c1_1 h8 s8 h9 h10 r hr; cases (show (none : Option _) = some r from hr)
 | succ n ih =>
  intro N z0 z e m k fr x1 x8 x9 x10 b1_0 f1_0 b1_1 f1_1 v1_1_0 v1_1_1 v8 hz st h1 c1_0 s1_1_0 s1_1_1 c1_1 h8 s8 h9 h10 r hr
  unfold train_first__rulebook_train_place_7_0 at hr
  refine W.loop1 ?_
  refine W.seq (W.region ?_)
  refine sx rfl (pLss (k := .i64) (a := x10) (b := x9) rfl h10 h9) ?_
  refine SeqW.done fun fr11 hf12 => ?_
  have h1 := (congrFun hf12 1).trans h1
  have h8 := (congrFun hf12 8).trans h8
  have h9 := (congrFun hf12 9).trans h9
  have h10 := (congrFun hf12 10).trans h10
  have h11 : fr11 11 = (vB (decide (x10 < x9))) := (congrFun hf12 11).trans rfl
  clear hf12
  refine thenQ.n (W.seq ?_)
  rcases if_some hr with ⟨hc13, hr⟩ | ⟨hc40, hr⟩
  ·refine W.condT h11 hc13 (W.skip ?_)
   refine thenQ.n (W.seq ?_)
   refine W.block ?_
   refine W.seq (W.region ?_)
   refine sx rfl (pMove (v := (vI x10)) rfl h10) ?_
   obtain ⟨y14, hy14, hr⟩ := bind_some hr
   refine SeqW.consX rfl (kIdxR (T := TWagon) (xs := x8) (n := x10) rfl Try.underlying24 Try.type36 rfl h8 h10 s8 hy14 ?_)
   intro B15 f16 cs17 hd18 hc19
   obtain rfl := hd18
   refine SeqW.consX rfl (kLoadA rfl Try.underlying36 rfl Try.type36 rfl rfl (st.loads hc19) ?_)
   refine SeqW.consX rfl (kAlloc rfl Try.type36 rfl rfl rfl [(str []), (vI 0), (vI 0), (vI 0), (vI 0), (vI 0), (vB false), (str [])] rfl st ?_)
   intro B21 m22  st X23 sm24 hap25
   refine sx rfl (pAssign (v := (vI x10)) rfl rfl) ?_
   refine SeqW.consX rfl (kPut (off := 0) (w := (Value.agg [(str y14.number), (vI y14.length), (vI y14.axles), (vI y14.mass), (vI y14.brake), (vI y14.goods), (vB y14.gentle), (str y14.dest)].toArray)) (new := [(str y14.number), (vI y14.length), (vI y14.axles), (vI y14.mass), (vI y14.brake), (vI y14.goods), (vB y14.gentle), (str y14.dest)]) rfl Try.type36 rfl rfl rfl rfl rfl X23 rfl [(str y14.number), (vI y14.length), (vI y14.axles), (vI y14.mass), (vI y14.brake), (vI y14.goods), (vB y14.gentle), (str y14.dest)] rfl st ?_)
   intro m27 st X23 sm28
   refine SeqW.done fun fr29 hf30 => ?_
   have h1 := (congrFun hf30 1).trans h1
   have h5 : fr29 5 = (vI x10) := (congrFun hf30 5).trans rfl
   have h6 : fr29 6 = (vP B21) := (congrFun hf30 6).trans rfl
   have h8 := (congrFun hf30 8).trans h8
   have h9 := (congrFun hf30 9).trans h9
   have h10 := (congrFun hf30 10).trans h10
   clear hf30
   refine thenQ.n (W.seq (W.region ?_))
   refine sx rfl (pMove (v := (Value.func (.func 53) #[] #[(Value.pointer (some ⟨b1_0, f1_0, none⟩)), (Value.pointer (some ⟨b1_1, f1_1, none⟩))])) rfl h1) ?_
   refine sx rfl (pMove (v := (vI x10)) rfl h5) ?_
   refine SeqW.consX rfl (kLoadA rfl Try.underlying36 rfl Try.type36 rfl h6 X23.loads ?_)
   obtain ⟨y31, hy31, hr⟩ := bind_some hr
   refine SeqW.consX rfl (StepX.call (gCalleeV (args := #[(vI x10), (Value.agg [(str y14.number), (vI y14.length), (vI y14.axles), (vI y14.mass), (vI y14.brake), (vI y14.goods), (vB y14.gentle), (str y14.dest)].toArray)]) (caps := #[(Value.pointer (some ⟨b1_0, f1_0, none⟩)), (Value.pointer (some ⟨b1_1, f1_1, none⟩))]) rfl rfl (args2 rfl rfl) rfl) ((c_rulebook_train_place_7 (x1 := y14) (x2 := x1.1) (x3 := x1.2) (z := z) st.fz st.dead c1_0 s1_1_0 s1_1_1 c1_1 hy31).mono ?_))
   rintro _ _ ⟨rfl, rfl⟩
   refine SeqW.done fun fr32 hf33 => ?_
   have h1 := (congrFun hf33 1).trans h1
   have h5 := (congrFun hf33 5).trans h5
   have h8 := (congrFun hf33 8).trans h8
   have h9 := (congrFun hf33 9).trans h9
   have h10 := (congrFun hf33 10).trans h10
   have h18 : fr32 18 = (vB y31) := (congrFun hf33 18).trans rfl
   clear hf33
   refine thenQ.n ?_
   rcases if_some hr with ⟨hc34, hr⟩ | ⟨hc37, hr⟩
   ·refine W.condT h18 hc34 (W.seq (W.region ?_))
    refine sx rfl (pMove (v := (vI x10)) rfl h5) ?_
    refine sx rfl (pAssign (v := (vI x10)) rfl rfl) ?_
    refine SeqW.done fun fr35 hf36 => ?_
    have h4 : fr35 4 = (vI x10) := (congrFun hf36 4).trans rfl
    clear hf36
    refine thenQ.n ?_
    refine W.ret ?_
    refine blockQ.r ?_
    refine thenQ.r ?_
    refine thenQ.r ?_
    obtain rfl := Option.some.inj hr
    exact ⟨z, hz, st, .inr ⟨_, rfl, rfl, h4, trivial⟩⟩
   ·refine W.condF h18 hc37 (W.skip ?_)
    refine blockQ.n ?_
    refine thenQ.n (W.region ?_)
    refine sx rfl (pAdd (k := .i64) (a := x10) (b := 1) rfl h10 rfl) ?_
    refine sx rfl (pMove (v := (vI (IntKind.wrap .i64 (x10 + 1)))) rfl rfl) ?_
    refine SeqW.done fun fr38 hf39 => ?_
    have h1 := (congrFun hf39 1).trans h1
    have h8 := (congrFun hf39 8).trans h8
    have h9 := (congrFun hf39 9).trans h9
    have h10 : fr38 10 = (vI (IntKind.wrap .i64 (x10 + 1))) := (congrFun hf39 10).trans rfl
    clear hf39
    refine thenQ.n ?_
    exact ih (x1 := x1) hz st h1 c1_0 s1_1_0 s1_1_1 c1_1 h8 s8 h9 h10 hr
  ·refine W.condF h11 hc40 ?_
   refine W.exit ?_
   refine thenQ.x ?_
   refine thenQ.x ?_
   obtain rfl := Option.some.inj hr
   exact ⟨z, hz, st, .inl ⟨_, rfl, rfl, trivial⟩⟩

theorem u_train_first__rulebook_train_place_7 {N : Nat}  {z0 z : Nat → Blk} {e m : Mem} {k : Option Nat} {fr : Nat → Value} {x0 : Train} {x1 : Rule × Train} {v0_0 : Value} {v0_1 : Value} {b1_0 : Nat} {f1_0 : Nat} {b1_1 : Nat} {f1_1 : Nat} {v1_1_0 : Value} {v1_1_1 : Value} (hz : Zx e.next z0 z) (st : St z e m k) (h0 : fr 0 = (Value.agg [v0_0, v0_1, (vI x0.total.length), (vI x0.total.axles), (vI x0.total.mass), (vI x0.total.braked), (vI x0.total.percent), (vI x0.total.required), (vI x0.total.missing)].toArray)) (s0_0 : SlR TWagon z x0.l v0_0) (s0_1 : SlR (TInt 3 .i64) z x0.off v0_1) (h1 : fr 1 = (Value.func (.func 53) #[] #[(Value.pointer (some ⟨b1_0, f1_0, none⟩)), (Value.pointer (some ⟨b1_1, f1_1, none⟩))])) (c1_0 : cellsAt z b1_0 f1_0 [(vI x1.1.number), (vI x1.1.kind), (vI x1.1.a), (vI x1.1.b), (vI x1.1.c)]) (s1_1_0 : SlR TWagon z x1.2.l v1_1_0) (s1_1_1 : SlR (TInt 3 .i64) z x1.2.off v1_1_1) (c1_1 : cellsAt z b1_1 f1_1 [v1_1_0, v1_1_1, (vI x1.2.total.length), (vI x1.2.total.axles), (vI x1.2.total.mass), (vI x1.2.total.braked), (vI x1.2.total.percent), (vI x1.2.total.required), (vI x1.2.total.missing)]) {r : Int} (hr : train_first__rulebook_train_place_7 N x0 x1 = some r) : W Try.prog (sub (bodyOf Try.f47) []) (fun ex fr' m' => ∃ z', Zx e.next z0 z' ∧ St z' e m' k ∧ (ex = .normal ∨ ex = .ret) ∧ fr' 4 = (vI r) ∧ True) fr m := by
 unfold train_first__rulebook_train_place_7 at hr
 refine W.seq (W.region ?_)
 refine SeqW.consX rfl (kBox (v := (Value.agg [v0_0, v0_1, (vI x0.total.length), (vI x0.total.axles), (vI x0.total.mass), (vI x0.total.braked), (vI x0.total.percent), (vI x0.total.required), (vI x0.total.missing)].toArray)) rfl Try.type63 h0 rfl [v0_0, v0_1, (vI x0.total.length), (vI x0.total.axles), (vI x0.total.mass), (vI x0.total.braked), (vI x0.total.percent), (vI x0.total.required), (vI x0.total.missing)] rfl rfl st ?_)
 intro B1 m2  st X3 sm4 hap5
 refine sx rfl (pAssign (v := (vI 0)) rfl rfl) ?_
 refine SeqW.done fun fr7 hf8 => ?_
 have h1 := (congrFun hf8 1).trans h1
 have h2 : fr7 2 = (vP B1) := (congrFun hf8 2).trans rfl
 clear hf8
 refine thenQ.n (W.seq ?_)
 refine W.seq (W.region ?_)
 refine SeqW.consX rfl (kField rfl Try.underlying63 rfl Try.type24 rfl h2 rfl ?_)
 refine SeqW.consX rfl (kLoad rfl Try.underlying24 rfl rfl (X3.load (v := v0_0) rfl) ?_)
 refine sx rfl (pLenR (xs := x0.l) rfl Try.underlying24 rfl s0_0) ?_
 refine sx rfl (pMove (v := (vI 0)) rfl rfl) ?_
 refine SeqW.done fun fr9 hf10 => ?_
 have h1 := (congrFun hf10 1).trans h1
 have h8 : fr9 8 = v0_0 := (congrFun hf10 8).trans rfl
 have h9 : fr9 9 = (vI (x0.l.length : Int)) := (congrFun hf10 9).trans rfl
 have h10 : fr9 10 = (vI 0) := (congrFun hf10 10).trans rfl
 clear hf10
 refine thenQ.n ?_
 refine W.block ?_
 obtain ⟨y41, hy41, hr⟩ := bind_some hr
 refine W.keep (u_train_first__rulebook_train_place_7_0 (x1 := x1) _ (Zx.refl _) st h1 c1_0 s1_1_0 s1_1_1 c1_1 h8 s0_0 h9 h10 hy41) ?_
 rintro ex47 fr42 m43 hk45 ⟨z44, hz46, st, ⟨y48, rfl, rfl, -⟩ | ⟨y51, rfl, rfl, h4, -⟩⟩
 ·dsimp only at hr
  replace hz := hz.trans hz46
  clear hk45
  refine blockQ.hit ?_
  refine thenQ.n (W.seq (W.region ?_))
  refine sx rfl (pAssign (v := (vI (-1))) rfl rfl) ?_
  refine SeqW.done fun fr49 hf50 => ?_
  have h4 : fr49 4 = (vI (-1)) := (congrFun hf50 4).trans rfl
  clear hf50
  refine thenQ.n ?_
  refine W.ret ?_
  obtain rfl := Option.some.inj hr
  exact ⟨z44, hz, st, .inr rfl, h4, trivial⟩
 ·dsimp only at hr
  replace hz := hz.trans hz46
  clear hk45
  refine blockQ.r ?_
  refine thenQ.r ?_
  obtain rfl := Option.some.inj hr
  exact ⟨z44, hz, st, .inr rfl, h4, trivial⟩

theorem c_train_first__rulebook_train_place_7 {N : Nat} {z : Nat → Blk} {m : Mem} {x0 : Train} {x1 : Rule × Train} {v0_0 : Value} {v0_1 : Value} {b1_0 : Nat} {f1_0 : Nat} {b1_1 : Nat} {f1_1 : Nat} {v1_1_0 : Value} {v1_1_1 : Value} (fz : Fz z m) (hd : ∀ b, m.next ≤ b → m.blk b = .dead) (s0_0 : SlR TWagon z x0.l v0_0) (s0_1 : SlR (TInt 3 .i64) z x0.off v0_1) (c1_0 : cellsAt z b1_0 f1_0 [(vI x1.1.number), (vI x1.1.kind), (vI x1.1.a), (vI x1.1.b), (vI x1.1.c)]) (s1_1_0 : SlR TWagon z x1.2.l v1_1_0) (s1_1_1 : SlR (TInt 3 .i64) z x1.2.off v1_1_1) (c1_1 : cellsAt z b1_1 f1_1 [v1_1_0, v1_1_1, (vI x1.2.total.length), (vI x1.2.total.axles), (vI x1.2.total.mass), (vI x1.2.total.braked), (vI x1.2.total.percent), (vI x1.2.total.required), (vI x1.2.total.missing)]) {r : Int} (hr : train_first__rulebook_train_place_7 N x0 x1 = some r) : CallW Try.prog 47 #[(Value.agg [v0_0, v0_1, (vI x0.total.length), (vI x0.total.axles), (vI x0.total.mass), (vI x0.total.braked), (vI x0.total.percent), (vI x0.total.required), (vI x0.total.missing)].toArray), (Value.func (.func 53) #[] #[(Value.pointer (some ⟨b1_0, f1_0, none⟩)), (Value.pointer (some ⟨b1_1, f1_1, none⟩))])] m fun v m' => v = (vI r) ∧ m' = m := by
 refine CallW.flat Try.func47 rfl (by kernel_rfl) (Nat.le_of_ble_eq_true rfl) rfl (z := z) (fun fr hf => ?_)
 have h0 : fr 0 = _ := hf 0 _ rfl
 have h1 : fr 1 = _ := hf 1 _ rfl
 refine (u_train_first__rulebook_train_place_7 (k := none) (Zx.refl _) (St.start fz hd) h0 s0_0 s0_1 h1 c1_0 s1_1_0 s1_1_1 c1_1 hr).mono ?_
 rintro ex fr' m' ⟨z', hz, st, he, h4, -⟩
 exact ⟨he, z', st, [(vI r)], ⟨h4.symm, trivial⟩, .inl rfl, rfl⟩

/-! ### (humpyard/rulebook.train).place -/

theorem u_train_place_0 {N : Nat}  {z0 z : Nat → Blk} {e m : Mem} {k : Option Nat} {fr : Nat → Value} {x2 : Train} {x3 : Rule} {v2_0 : Value} {v2_1 : Value} {b2 : Nat} {b3 : Nat} (hz : Zx e.next z0 z) (st : St z e m k) (h2 : fr 2 = (vP b2)) (s2_0 : SlR TWagon z x2.l v2_0) (s2_1 : SlR (TInt 3 .i64) z x2.off v2_1) (bx2 : Bx z e m k b2 [v2_0, v2_1, (vI x2.total.length), (vI x2.total.axles), (vI x2.total.mass), (vI x2.total.braked), (vI x2.total.percent), (vI x2.total.required), (vI x2.total.missing)] 63) (h3 : fr 3 = (vP b3)) (bx3 : Bx z e m k b3 [(vI x3.number), (vI x3.kind), (vI x3.a), (vI x3.b), (vI x3.c)] 32) (ao2_o3 : Ap (some b2) (some b3)) {r : Int} (hr : train_place_0 N x2 x3 = some r) : W Try.prog (sub (bodyOf Try.f30) [1, 0, 1, 0, 1, 1, 1, 1, 1, 1, 1, 0, 0]) (fun ex fr' m' => ∃ z', Zx e.next z0 z' ∧ St z' e m' k ∧ ex = AExit.normal ∧ fr' 4 = (vI r) ∧ True) fr m := by
 unfold train_place_0 at hr
 refine W.region ?_
 refine SeqW.consX rfl (kLoadA rfl Try.underlying63 rfl Try.type63 rfl h2 bx2.loads ?_)
 refine SeqW.consX rfl (kField rfl Try.underlying63 rfl Try.type24 rfl h2 rfl ?_)
 refine SeqW.consX rfl (kLoad rfl Try.underlying24 rfl rfl (bx2.load (v := v2_0) rfl) ?_)
 refine sx rfl (pLenR (xs := x2.l) rfl Try.underlying24 rfl s2_0) ?_
 refine sx rfl (pGtr (k := .i64) (a := (x2.l.length : Int)) (b := 0) rfl rfl rfl) ?_
 refine sx rfl (pMove (v := (vB (decide (0 < (x2.l.length : Int))))) rfl rfl) ?_
 rcases if_some hr with ⟨hc48, hr⟩ | ⟨hc52, hr⟩
 ·refine SeqW.consG rfl rfl rfl hc48 (kField rfl Try.underlying63 rfl Try.type59 rfl h2 rfl ?_)
  refine SeqW.consG rfl rfl rfl hc48 (kField rfl Try.underlying59 rfl Try.type3 rfl rfl rfl ?_)
  refine SeqW.consG rfl rfl rfl hc48 (kLoad rfl Try.underlying3 rfl rfl (bx2.load (v := (vI x2.total.percent)) rfl) ?_)
  refine SeqW.consG rfl rfl rfl hc48 (kField rfl Try.underlying32 rfl Try.type3 rfl h3 rfl ?_)
  refine SeqW.consG rfl rfl rfl hc48 (kLoad rfl Try.underlying3 rfl rfl (bx3.load (v := (vI x3.a)) rfl) ?_)
  refine SeqW.consG rfl rfl rfl hc48 (StepX.pure (pLss (k := .i64) (a := x2.total.percent) (b := x3.a) rfl rfl rfl) ?_)
  refine sx rfl (pPick (t := true) (v := (vB (decide (x2.total.percent < x3.a)))) rfl ((congrArg vB hc48)) rfl) ?_
  obtain ⟨y49, hy49, hr⟩ := bind_some hr
  refine SeqW.consX rfl (StepX.call (gCallee rfl rfl (args2 rfl rfl)) ((c_train_end (x0 := x2) (z := z) st.fz st.dead s2_0 s2_1 hy49).mono ?_))
  rintro _ _ ⟨rfl, rfl⟩
  refine sx rfl (pAssign (v := (vI y49)) rfl rfl) ?_
  refine SeqW.done fun fr50 hf51 => ?_
  have h4 : fr50 4 = (vI y49) := (congrFun hf51 4).trans rfl
  clear hf51
  obtain rfl := Option.some.inj hr
  exact ⟨z, hz, st, rfl, h4, trivial⟩
 ·refine kx rfl rfl rfl hc52 ?_
  iterate 5 refine kx rfl rfl rfl hc52 ?_
  refine sx rfl (pPick (t := false) (v := (vB false)) rfl ((congrArg vB hc52)) rfl) ?_
  obtain ⟨y53, hy53, hr⟩ := bind_some hr
  refine SeqW.consX rfl (StepX.call (gCallee rfl rfl (args2 rfl rfl)) ((c_train_end (x0 := x2) (z := z) st.fz st.dead s2_0 s2_1 hy53).mono ?_))
  rintro _ _ ⟨rfl, rfl⟩
  refine sx rfl (pAssign (v := (vI y53)) rfl rfl) ?_
  refine SeqW.done fun fr54 hf55 => ?_
  have h4 : fr54 4 = (vI y53) := (congrFun hf55 4).trans rfl
  clear hf55
  obtain rfl := Option.some.inj hr
  exact ⟨z, hz, st, rfl, h4, trivial⟩

theorem u_train_place {N : Nat}  {z0 z : Nat → Blk} {e m : Mem} {k : Option Nat} {fr : Nat → Value} {x0 : Train} {x1 : Rule} {v0_0 : Value} {v0_1 : Value} (hz : Zx e.next z0 z) (st : St z e m k) (h0 : fr 0 = (Value.agg [v0_0, v0_1, (vI x0.total.length), (vI x0.total.axles), (vI x0.total.mass), (vI x0.total.braked), (vI x0.total.percent), (vI x0.total.required), (vI x0.total.missing)].toArray)) (s0_0 : SlR TWagon z x0.l v0_0) (s0_1 : SlR (TInt 3 .i64) z x0.off v0_1) (h1 : fr 1 = (Value.agg [(vI x1.number), (vI x1.kind), (vI x1.a), (vI x1.b), (vI x1.c)].toArray)) {r : Int} (hr : train_place N x0 x1 = some r) : W Try.prog (sub (bodyOf Try.f30) []) (fun ex fr' m' => ∃ z', Zx e.next z0 z' ∧ St z' e m' k ∧ (ex = .normal ∨ ex = .ret) ∧ fr' 4 = (vI r) ∧ True) fr m := by
 unfold train_place at hr
 refine W.seq (W.region ?_)
 refine SeqW.consX rfl (kBoxN (v := (Value.agg [v0_0, v0_1, (vI x0.total.length), (vI x0.total.axles), (vI x0.total.mass), (vI x0.total.braked), (vI x0.total.percent), (vI x0.total.required), (vI x0.total.missing)].toArray)) rfl Try.type63 h0 rfl [v0_0, v0_1, (vI x0.total.length), (vI x0.total.axles), (vI x0.total.mass), (vI x0.total.braked), (vI x0.total.percent), (vI x0.total.required), (vI x0.total.missing)] rfl rfl st ?_)
 intro B1 m2 hn6 st X3 sm4 hap5
 refine SeqW.consX rfl (kBoxN (v := (Value.agg [(vI x1.number), (vI x1.kind), (vI x1.a), (vI x1.b), (vI x1.c)].toArray)) rfl Try.type32 h1 rfl [(vI x1.number), (vI x1.kind), (vI x1.a), (vI x1.b), (vI x1.c)] rfl rfl st ?_)
 intro B8 m9 hn13 st X10 sm11 hap12
 have A15 := hap12 _ X3.lt'
 replace X3 := X3.same sm11 Ap.none'
 refine sx rfl (pAssign (v := (vI 0)) rfl rfl) ?_
 refine SeqW.done fun fr16 hf17 => ?_
 have h2 : fr16 2 = (vP B1) := (congrFun hf17 2).trans rfl
 have h3 : fr16 3 = (vP B8) := (congrFun hf17 3).trans rfl
 clear hf17
 refine thenQ.n (W.seq ?_)
 refine W.seq (W.region ?_)
 refine SeqW.consX rfl (kField rfl Try.underlying32 rfl Try.type3 rfl h3 rfl ?_)
 refine SeqW.consX rfl (kLoad rfl Try.underlying3 rfl rfl (X10.load (v := (vI x1.kind)) rfl) ?_)
 refine SeqW.done fun fr18 hf19 => ?_
 have h2 := (congrFun hf19 2).trans h2
 have h3 := (congrFun hf19 3).trans h3
 have h6 : fr18 6 = (vI x1.kind) := (congrFun hf19 6).trans rfl
 clear hf19
 refine thenQ.n ?_
 refine W.block ?_
 refine W.seq (W.region ?_)
 refine sx rfl (pEql (k := .i64) (a := x1.kind) (b := 1) rfl h6 rfl) ?_
 obtain ⟨y20, hy20, hr⟩ := lt_some hr
 refine sx rfl (pAssign rfl (congrArg vB hy20)) ?_
 refine SeqW.done fun fr21 hf22 => ?_
 have h2 := (congrFun hf22 2).trans h2
 have h3 := (congrFun hf22 3).trans h3
 have h6 := (congrFun hf22 6).trans h6
 have h7 : fr21 7 = (vB y20) := (congrFun hf22 7).trans rfl
 clear hf22
 refine thenQ.n ?_
 rcases if_some hr with ⟨hc23, hr⟩ | ⟨hc27, hr⟩
 ·refine W.condT h7 hc23 (W.seq (W.region ?_))
  refine SeqW.consX rfl (kLoadA rfl Try.underlying63 rfl Try.type63 rfl h2 X3.loads ?_)
  refine SeqW.consX rfl (kField rfl Try.underlying32 rfl Try.type3 rfl h3 rfl ?_)
  refine SeqW.consX rfl (kLoad rfl Try.underlying3 rfl rfl (X10.load (v := (vI x1.a)) rfl) ?_)
  obtain ⟨y24, hy24, hr⟩ := bind_some hr
  refine SeqW.consX rfl (StepX.call (gCallee rfl rfl (args3 rfl rfl rfl)) ((c_train_beyond__rulebook_train_place_1 (x0 := x0) (z := z) st.fz st.dead s0_0 s0_1 hy24).mono ?_))
  rintro _ _ ⟨rfl, rfl⟩
  refine sx rfl (pAssign (v := (vI y24)) rfl rfl) ?_
  refine SeqW.done fun fr25 hf26 => ?_
  have h4 : fr25 4 = (vI y24) := (congrFun hf26 4).trans rfl
  clear hf26
  refine thenQ.n ?_
  refine W.ret ?_
  refine blockQ.r ?_
  refine thenQ.r ?_
  obtain rfl := Option.some.inj hr
  exact ⟨z, hz, st, .inr rfl, h4, trivial⟩
 ·refine W.condF h7 hc27 (W.seq (W.region ?_))
  refine sx rfl (pEql (k := .i64) (a := x1.kind) (b := 2) rfl h6 rfl) ?_
  obtain ⟨y28, hy28, hr⟩ := lt_some hr
  refine sx rfl (pAssign rfl (congrArg vB hy28)) ?_
  refine SeqW.done fun fr29 hf30 => ?_
  have h2 := (congrFun hf30 2).trans h2
  have h3 := (congrFun hf30 3).trans h3
  have h6 := (congrFun hf30 6).trans h6
  have h13 : fr29 13 = (vB y28) := (congrFun hf30 13).trans rfl
  clear hf30
  refine thenQ.n ?_
  rcases if_some hr with ⟨hc31, hr⟩ | ⟨hc35, hr⟩
  ·refine W.condT h13 hc31 (W.seq (W.region ?_))
   refine SeqW.consX rfl (kLoadA rfl Try.underlying63 rfl Try.type63 rfl h2 X3.loads ?_)
   refine SeqW.consX rfl (kField rfl Try.underlying32 rfl Try.type3 rfl h3 rfl ?_)
   refine SeqW.consX rfl (kLoad rfl Try.underlying3 rfl rfl (X10.load (v := (vI x1.a)) rfl) ?_)
   obtain ⟨y32, hy32, hr⟩ := bind_some hr
   refine SeqW.consX rfl (StepX.call (gCallee rfl rfl (args3 rfl rfl rfl)) ((c_train_beyond__rulebook_train_place_2 (x0 := x0) (z := z) st.fz st.dead s0_0 s0_1 hy32).mono ?_))
   rintro _ _ ⟨rfl, rfl⟩
   refine sx rfl (pAssign (v := (vI y32)) rfl rfl) ?_
   refine SeqW.done fun fr33 hf34 => ?_
   have h4 : fr33 4 = (vI y32) := (congrFun hf34 4).trans rfl
   clear hf34
   refine thenQ.n ?_
   refine W.ret ?_
   refine blockQ.r ?_
   refine thenQ.r ?_
   obtain rfl := Option.some.inj hr
   exact ⟨z, hz, st, .inr rfl, h4, trivial⟩
  ·refine W.condF h13 hc35 (W.seq (W.region ?_))
   refine sx rfl (pEql (k := .i64) (a := x1.kind) (b := 3) rfl h6 rfl) ?_
   obtain ⟨y36, hy36, hr⟩ := lt_some hr
   refine sx rfl (pAssign rfl (congrArg vB hy36)) ?_
   refine SeqW.done fun fr37 hf38 => ?_
   have h2 := (congrFun hf38 2).trans h2
   have h3 := (congrFun hf38 3).trans h3
   have h6 := (congrFun hf38 6).trans h6
   have h19 : fr37 19 = (vB y36) := (congrFun hf38 19).trans rfl
   clear hf38
   refine thenQ.n ?_
   rcases if_some hr with ⟨hc39, hr⟩ | ⟨hc43, hr⟩
   ·refine W.condT h19 hc39 (W.seq (W.region ?_))
    refine SeqW.consX rfl (kLoadA rfl Try.underlying63 rfl Try.type63 rfl h2 X3.loads ?_)
    refine SeqW.consX rfl (kField rfl Try.underlying32 rfl Try.type3 rfl h3 rfl ?_)
    refine SeqW.consX rfl (kLoad rfl Try.underlying3 rfl rfl (X10.load (v := (vI x1.a)) rfl) ?_)
    obtain ⟨y40, hy40, hr⟩ := bind_some hr
    refine SeqW.consX rfl (StepX.call (gCallee rfl rfl (args3 rfl rfl rfl)) ((c_train_beyond__rulebook_train_place_3 (x0 := x0) (z := z) st.fz st.dead s0_0 s0_1 hy40).mono ?_))
    rintro _ _ ⟨rfl, rfl⟩
    refine sx rfl (pAssign (v := (vI y40)) rfl rfl) ?_
    refine SeqW.done fun fr41 hf42 => ?_
    have h4 : fr41 4 = (vI y40) := (congrFun hf42 4).trans rfl
    clear hf42
    refine thenQ.n ?_
    refine W.ret ?_
    refine blockQ.r ?_
    refine thenQ.r ?_
    obtain rfl := Option.some.inj hr
    exact ⟨z, hz, st, .inr rfl, h4, trivial⟩
   ·refine W.condF h19 hc43 (W.seq (W.region ?_))
    refine sx rfl (pEql (k := .i64) (a := x1.kind) (b := 4) rfl h6 rfl) ?_
    obtain ⟨y44, hy44, hr⟩ := lt_some hr
    refine sx rfl (pAssign rfl (congrArg vB hy44)) ?_
    refine SeqW.done fun fr45 hf46 => ?_
    have h2 := (congrFun hf46 2).trans h2
    have h3 := (congrFun hf46 3).trans h3
    have h6 := (congrFun hf46 6).trans h6
    have h25 : fr45 25 = (vB y44) := (congrFun hf46 25).trans rfl
    clear hf46
    refine thenQ.n ?_
    rcases if_some hr with ⟨hc47, hr⟩ | ⟨hc63, hr⟩
    ·refine W.condT h25 hc47 (W.seq ?_)
     obtain ⟨y56, hy56, hr⟩ := bind_some hr
     refine W.keep (u_train_place_0 (x2 := x0) (x3 := x1) (Zx.refl _) st h2 s0_0 s0_1 X3 h3 X10 A15 hy56) ?_
     rintro ex62 fr57 m58 hk60 ⟨z59, hz61, st, rfl, h4, -⟩
     replace hz := hz.trans hz61
     clear hk60
     refine thenQ.n ?_
     refine W.ret ?_
     refine blockQ.r ?_
     refine thenQ.r ?_
     obtain rfl := Option.some.inj hr
     exact ⟨z59, hz, st, .inr rfl, h4, trivial⟩
    ·refine W.condF h25 hc63 (W.seq (W.region ?_))
     refine sx rfl (pEql (k := .i64) (a := x1.kind) (b := 5) rfl h6 rfl) ?_
     obtain ⟨y64, hy64, hr⟩ := lt_some hr
     refine sx rfl (pAssign rfl (congrArg vB hy64)) ?_
     refine SeqW.done fun fr65 hf66 => ?_
     have h2 := (congrFun hf66 2).trans h2
     have h3 := (congrFun hf66 3).trans h3
     have h6 := (congrFun hf66 6).trans h6
     have h41 : fr65 41 = (vB y64) := (congrFun hf66 41).trans rfl
     clear hf66
     refine thenQ.n ?_
     rcases if_some hr with ⟨hc67, hr⟩ | ⟨hc79, hr⟩
     ·refine W.condT h41 hc67 (W.seq (W.region ?_))
      refine SeqW.consX rfl (kLoadA rfl Try.underlying63 rfl Try.type63 rfl h2 X3.loads ?_)
      obtain ⟨z68, hz69, st, Q70, hl71⟩ := X3.freeze hn6 st
      replace s0_0 := s0_0.mono hz69.le
      replace s0_1 := s0_1.mono hz69.le
      replace X10 := X10.zle (hl71 _ (Ap.symm A15))
      replace hz := hz.trans hz69
      obtain ⟨z72, hz73, st, Q74, hl75⟩ := X10.freeze hn13 st
      replace s0_0 := s0_0.mono hz73.le
      replace s0_1 := s0_1.mono hz73.le
      replace Q70 := Q70.mono hz73.le
      replace hz := hz.trans hz73
      refine sx rfl (pFunc (caps := #[(vP B1), (vP B8)]) rfl (args2 h2 h3) rfl) ?_
      obtain ⟨y76, hy76, hr⟩ := bind_some hr
      refine SeqW.consX rfl (StepX.call (gCallee rfl rfl (args2 rfl rfl)) ((c_train_first__rulebook_train_place_4 (x0 := x0) (x1 := (x0, x1)) (z := z72) st.fz st.dead s0_0 s0_1 s0_0 s0_1 Q70 Q74 hy76).mono ?_))
      rintro _ _ ⟨rfl, rfl⟩
      refine sx rfl (pAssign (v := (vI y76)) rfl rfl) ?_
      refine SeqW.done fun fr77 hf78 => ?_
      have h4 : fr77 4 = (vI y76) := (congrFun hf78 4).trans rfl
      clear hf78
      refine thenQ.n ?_
      refine W.ret ?_
      refine blockQ.r ?_
      refine thenQ.r ?_
      obtain rfl := Option.some.inj hr
      exact ⟨z72, hz, st, .inr rfl, h4, trivial⟩
     ·refine W.condF h41 hc79 (W.seq (W.region ?_))
      refine sx rfl (pEql (k := .i64) (a := x1.kind) (b := 6) rfl h6 rfl) ?_
      obtain ⟨y80, hy80, hr⟩ := lt_some hr
      refine sx rfl (pAssign rfl (congrArg vB hy80)) ?_
      refine SeqW.done fun fr81 hf82 => ?_
      have h2 := (congrFun hf82 2).trans h2
      have h3 := (congrFun hf82 3).trans h3
      have h6 := (congrFun hf82 6).trans h6
      have h46 : fr81 46 = (vB y80) := (congrFun hf82 46).trans rfl
      clear hf82
      refine thenQ.n ?_
      rcases if_some hr with ⟨hc83, hr⟩ | ⟨hc91, hr⟩
      ·refine W.condT h46 hc83 (W.seq (W.region ?_))
       refine SeqW.consX rfl (kLoadA rfl Try.underlying63 rfl Try.type63 rfl h2 X3.loads ?_)
       obtain ⟨z84, hz85, st, Q86, hl87⟩ := X10.freeze hn13 st
       replace s0_0 := s0_0.mono hz85.le
       replace s0_1 := s0_1.mono hz85.le
       replace hz := hz.trans hz85
       refine sx rfl (pFunc (caps := #[(vP B8)]) rfl (args1 h3) rfl) ?_
       obtain ⟨y88, hy88, hr⟩ := bind_some hr
       refine SeqW.consX rfl (StepX.call (gCallee rfl rfl (args2 rfl rfl)) ((c_train_first__rulebook_train_place_5 (x0 := x0) (x1 := x1) (z := z84) st.fz st.dead s0_0 s0_1 Q86 hy88).mono ?_))
       rintro _ _ ⟨rfl, rfl⟩
       refine sx rfl (pAssign (v := (vI y88)) rfl rfl) ?_
       refine SeqW.done fun fr89 hf90 => ?_
       have h4 : fr89 4 = (vI y88) := (congrFun hf90 4).trans rfl
       clear hf90
       refine thenQ.n ?_
       refine W.ret ?_
       refine blockQ.r ?_
       refine thenQ.r ?_
       obtain rfl := Option.some.inj hr
       exact ⟨z84, hz, st, .inr rfl, h4, trivial⟩
      ·refine W.condF h46 hc91 (W.seq (W.region ?_))
       refine sx rfl (pEql (k := .i64) (a := x1.kind) (b := 7) rfl h6 rfl) ?_
       obtain ⟨y92, hy92, hr⟩ := lt_some hr
       refine sx rfl (pAssign rfl (congrArg vB hy92)) ?_
       refine SeqW.done fun fr93 hf94 => ?_
       have h2 := (congrFun hf94 2).trans h2
       have h3 := (congrFun hf94 3).trans h3
       have h6 := (congrFun hf94 6).trans h6
       have h51 : fr93 51 = (vB y92) := (congrFun hf94 51).trans rfl
       clear hf94
       refine thenQ.n ?_
       rcases if_some hr with ⟨hc95, hr⟩ | ⟨hc102, hr⟩
       ·refine W.condT h51 hc95 (W.seq ?_)
        refine W.draw ?_
        refine DrawW.cons rfl (kLoadA rfl Try.underlying63 rfl Try.type63 rfl h2 X3.loads ?_)
        refine ⟨?_, ?_⟩
        ·exact demN
        refine DrawW.cons rfl (kLoadA rfl Try.underlying63 rfl Try.type63 rfl h2 X3.loads ?_)
        refine ⟨?_, ?_⟩
        ·exact demN
        refine DrawW.cons rfl (kLoadA rfl Try.underlying32 rfl Try.type32 rfl h3 X10.loads ?_)
        refine ⟨?_, ?_⟩
        ·exact demN
        have sto96 := st
        obtain ⟨y97, hy97, hr⟩ := bind_some hr
        refine DrawW.cons rfl (StepX.call (gCallee rfl rfl (args2 rfl rfl)) ((c_train_tail (x0 := x0) (x1 := x1) (z := z) st.fz st.dead s0_0 s0_1 hy97).mono ?_))
        rintro _ _ ⟨rfl, rfl⟩
        refine ⟨⟨?_, ?_⟩, ?_⟩
        ·first | refine demP (gLoadA rfl Try.underlying32 rfl Try.type32 rfl h3 X10.loads) ?_ | refine demA (by decide +kernel) ?_
         first | refine demP (gLoadA rfl Try.underlying63 rfl Try.type63 rfl h2 X3.loads) ?_ | refine demA (by decide +kernel) ?_
         first | refine demP (gLoadA rfl Try.underlying63 rfl Try.type63 rfl h2 X3.loads) ?_ | refine demA (by decide +kernel) ?_
         exact demN
        ·exact demN
        have sto98 := st
        obtain ⟨y99, hy99, hr⟩ := bind_some hr
        refine DrawW.cons rfl (StepX.call (gCallee rfl rfl (args2 rfl rfl)) ((c_train_end (x0 := x0) (z := z) st.fz st.dead s0_0 s0_1 hy99).mono ?_))
        rintro _ _ ⟨rfl, rfl⟩
        refine ⟨⟨?_, ?_⟩, ?_⟩
        ·first | refine demP (gLoadA rfl Try.underlying32 rfl Try.type32 rfl h3 X10.loads) ?_ | refine demA (by decide +kernel) ?_
         first | refine demP (gLoadA rfl Try.underlying63 rfl Try.type63 rfl h2 X3.loads) ?_ | refine demA (by decide +kernel) ?_
         first | refine demP (gLoadA rfl Try.underlying63 rfl Try.type63 rfl h2 X3.loads) ?_ | refine demA (by decide +kernel) ?_
         exact demN
        ·exact demN
        refine DrawW.cons rfl (StepX.pure (pAssign (v := (vI y99)) rfl rfl) ?_)
        refine ⟨trivial, ?_⟩
        refine DrawW.done fun fr100 hf101 => ?_
        have h4 : fr100 4 = (vI y99) := (congrFun hf101 4).trans rfl
        clear hf101
        refine thenQ.n ?_
        refine W.ret ?_
        refine blockQ.r ?_
        refine thenQ.r ?_
        obtain rfl := Option.some.inj hr
        exact ⟨z, hz, st, .inr rfl, h4, trivial⟩
       ·refine W.condF h51 hc102 (W.seq (W.region ?_))
        refine sx rfl (pEql (k := .i64) (a := x1.kind) (b := 8) rfl h6 rfl) ?_
        obtain ⟨y103, hy103, hr⟩ := lt_some hr
        refine sx rfl (pAssign rfl (congrArg vB hy103)) ?_
        refine SeqW.done fun fr104 hf105 => ?_
        have h2 := (congrFun hf105 2).trans h2
        have h3 := (congrFun hf105 3).trans h3
        have h58 : fr104 58 = (vB y103) := (congrFun hf105 58).trans rfl
        clear hf105
        refine thenQ.n ?_
        rcases if_some hr with ⟨hc106, hr⟩ | ⟨hc114, hr⟩
        ·refine W.condT h58 hc106 (W.seq (W.region ?_))
         refine SeqW.consX rfl (kLoadA rfl Try.underlying63 rfl Try.type63 rfl h2 X3.loads ?_)
         obtain ⟨z107, hz108, st, Q109, hl110⟩ := X10.freeze hn13 st
         replace s0_0 := s0_0.mono hz108.le
         replace s0_1 := s0_1.mono hz108.le
         replace hz := hz.trans hz108
         refine sx rfl (pFunc (caps := #[(vP B8)]) rfl (args1 h3) rfl) ?_
         obtain ⟨y111, hy111, hr⟩ := bind_some hr
         refine SeqW.consX rfl (StepX.call (gCallee rfl rfl (args2 rfl rfl)) ((c_train_first__rulebook_train_place_6 (x0 := x0) (x1 := x1) (z := z107) st.fz st.dead s0_0 s0_1 Q109 hy111).mono ?_))
         rintro _ _ ⟨rfl, rfl⟩
         refine sx rfl (pAssign (v := (vI y111)) rfl rfl) ?_
         refine SeqW.done fun fr112 hf113 => ?_
         have h4 : fr112 4 = (vI y111) := (congrFun hf113 4).trans rfl
         clear hf113
         refine thenQ.n ?_
         refine W.ret ?_
         refine blockQ.r ?_
         refine thenQ.r ?_
         obtain rfl := Option.some.inj hr
         exact ⟨z107, hz, st, .inr rfl, h4, trivial⟩
        ·refine W.condF h58 hc114 (W.skip ?_)
         refine blockQ.n ?_
         refine thenQ.n (W.seq (W.region ?_))
         refine SeqW.consX rfl (kLoadA rfl Try.underlying63 rfl Try.type63 rfl h2 X3.loads ?_)
         obtain ⟨z115, hz116, st, Q117, hl118⟩ := X10.freeze hn13 st
         replace s0_0 := s0_0.mono hz116.le
         replace s0_1 := s0_1.mono hz116.le
         replace X3 := X3.zle (hl118 _ A15)
         replace hz := hz.trans hz116
         obtain ⟨z119, hz120, st, Q121, hl122⟩ := X3.freeze hn6 st
         replace s0_0 := s0_0.mono hz120.le
         replace s0_1 := s0_1.mono hz120.le
         replace Q117 := Q117.mono hz120.le
         replace hz := hz.trans hz120
         refine sx rfl (pFunc (caps := #[(vP B8), (vP B1)]) rfl (args2 h3 h2) rfl) ?_
         obtain ⟨y123, hy123, hr⟩ := bind_some hr
         refine SeqW.consX rfl (StepX.call (gCallee rfl rfl (args2 rfl rfl)) ((c_train_first__rulebook_train_place_7 (x0 := x0) (x1 := (x1, x0)) (z := z119) st.fz st.dead s0_0 s0_1 Q117 s0_0 s0_1 Q121 hy123).mono ?_))
         rintro _ _ ⟨rfl, rfl⟩
         refine sx rfl (pAssign (v := (vI y123)) rfl rfl) ?_
         refine SeqW.done fun fr124 hf125 => ?_
         have h4 : fr124 4 = (vI y123) := (congrFun hf125 4).trans rfl
         clear hf125
         refine thenQ.n ?_
         refine W.ret ?_
         obtain rfl := Option.some.inj hr
         exact ⟨z119, hz, st, .inr rfl, h4, trivial⟩

theorem c_train_place {N : Nat} {z : Nat → Blk} {m : Mem} {x0 : Train} {x1 : Rule} {v0_0 : Value} {v0_1 : Value} (fz : Fz z m) (hd : ∀ b, m.next ≤ b → m.blk b = .dead) (s0_0 : SlR TWagon z x0.l v0_0) (s0_1 : SlR (TInt 3 .i64) z x0.off v0_1) {r : Int} (hr : train_place N x0 x1 = some r) : CallW Try.prog 30 #[(Value.agg [v0_0, v0_1, (vI x0.total.length), (vI x0.total.axles), (vI x0.total.mass), (vI x0.total.braked), (vI x0.total.percent), (vI x0.total.required), (vI x0.total.missing)].toArray), (Value.agg [(vI x1.number), (vI x1.kind), (vI x1.a), (vI x1.b), (vI x1.c)].toArray)] m fun v m' => v = (vI r) ∧ m' = m := by
 refine CallW.flat Try.func30 rfl (by kernel_rfl) (Nat.le_of_ble_eq_true rfl) rfl (z := z) (fun fr hf => ?_)
 have h0 : fr 0 = _ := hf 0 _ rfl
 have h1 : fr 1 = _ := hf 1 _ rfl
 refine (u_train_place (k := none) (Zx.refl _) (St.start fz hd) h0 s0_0 s0_1 h1 hr).mono ?_
 rintro ex fr' m' ⟨z', hz, st, he, h4, -⟩
 exact ⟨he, z', st, [(vI r)], ⟨h4.symm, trivial⟩, .inl rfl, rfl⟩

/-! ### humpyard/rulebook.Check -/

theorem u_rulebook_Check_0 : ∀ (n : Nat) {N : Nat}  {z0 z : Nat → Blk} {e m : Mem} {k : Option Nat} {fr : Nat → Value} {x10 : Train} {x31 : List Rule} {x32 : Int} {x33 : Int} {v10_0 : Value} {v10_1 : Value} {b10 : Nat} {v31 : Value} (hz : Zx e.next z0 z) (st : St z e m k) (h10 : fr 10 = (vP b10)) (s10_0 : SlR TWagon z x10.l v10_0) (s10_1 : SlR (TInt 3 .i64) z x10.off v10_1) (bx10 : Bx z e m k b10 [v10_0, v10_1, (vI x10.total.length), (vI x10.total.axles), (vI x10.total.mass), (vI x10.total.braked), (vI x10.total.percent), (vI x10.total.required), (vI x10.total.missing)] 63) (h31 : fr 31 = v31) (s31 : SlR TRule z x31 v31) (h32 : fr 32 = (vI x32)) (h33 : fr 33 = (vI x33)) {r : Sum (Unit) (Int × Int × Int)} (hr : rulebook_Check_0 N x10 x31 x32 n x33 = some r), W Try.prog (sub (bodyOf Try.f18) [1, 1, 1, 1, 1, 0, 1, 0]) (fun ex fr' m' => ∃ z', Zx e.next z0 z' ∧ St z' e m' k ∧ ((∃ q, r = Sum.inl q ∧ ex = AExit.exit 0 ∧ True) ∨ (∃ q, r = Sum.inr q ∧ ex = AExit.ret ∧ fr' 6 = (vI q.1) ∧ fr' 7 = (vI q.2.1) ∧ fr' 8 = (vI q.2.2) ∧ True))) fr m := by
 intro n
 induction n with
 | zero => intro N z0 z e m k fr x10 x31 x32 x33 v10_0 v10_1 b10 v31 hz st h10 s10_0 s10_1 bx10 h31 s31 h32 h33 r hr; cases (show (none : Option _) = some r from hr)
 | succ n ih =>
  intro N z0 z e m k fr x10 x31 x32 x33 v10_0 v10_1 b10 v31 hz st h10 s10_0 s10_1 bx10 h31 s31 h32 h33 r hr
  unfold rulebook_Check_0 at hr
  refine W.loop1 ?_
  refine W.seq (W.region ?_)
  refine sx rfl (pLss (k := .i64) (a := x33) (b := x32) rfl h33 h32) ?_
  refine SeqW.done fun fr50 hf51 => ?_
  have h10 := (congrFun hf51 10).trans h10
  have h31 := (congrFun hf51 31).trans h31
  have h32 := (congrFun hf51 32).trans h32
  have h33 := (congrFun hf51 33).trans h33
  have h34 : fr50 34 = (vB (decide (x33 < x32))) := (congrFun hf51 34).trans rfl
  clear hf51
  refine thenQ.n (W.seq ?_)
  rcases if_some hr with ⟨hc52, hr⟩ | ⟨hc82, hr⟩
  ·refine W.condT h34 hc52 (W.skip ?_)
   refine thenQ.n (W.seq ?_)
   refine W.block ?_
   refine W.seq (W.region ?_)
   obtain ⟨y53, hy53, hr⟩ := bind_some hr
   refine SeqW.consX rfl (kIdxR (T := TRule) (xs := x31) (n := x33) rfl Try.underlying23 Try.type32 rfl h31 h33 s31 hy53 ?_)
   intro B54 f55 cs56 hd57 hc58
   obtain rfl := hd57
   refine SeqW.consX rfl (kLoadA rfl Try.underlying32 rfl Try.type32 rfl rfl (st.loads hc58) ?_)
   refine SeqW.consX rfl (kAlloc rfl Try.type32 rfl rfl rfl [(vI 0), (vI 0), (vI 0), (vI 0), (vI 0)] rfl st ?_)
   intro B60 m61  st X62 sm63 hap64
   have A66 := hap64 _ bx10.lt'
   replace bx10 := bx10.same sm63 Ap.none'
   refine SeqW.consX rfl (kPut (off := 0) (w := (Value.agg [(vI y53.number), (vI y53.kind), (vI y53.a), (vI y53.b), (vI y53.c)].toArray)) (new := [(vI y53.number), (vI y53.kind), (vI y53.a), (vI y53.b), (vI y53.c)]) rfl Try.type32 rfl rfl rfl rfl rfl X62 rfl [(vI y53.number), (vI y53.kind), (vI y53.a), (vI y53.b), (vI y53.c)] rfl st ?_)
   intro m67 st X62 sm68
   replace bx10 := bx10.same sm68 A66
   refine SeqW.done fun fr69 hf70 => ?_
   have h10 := (congrFun hf70 10).trans h10
   have h12 : fr69 12 = (vP B60) := (congrFun hf70 12).trans rfl
   have h31 := (congrFun hf70 31).trans h31
   have h32 := (congrFun hf70 32).trans h32
   have h33 := (congrFun hf70 33).trans h33
   clear hf70
   refine thenQ.n (W.seq (W.region ?_))
   refine SeqW.consX rfl (kLoadA rfl Try.underlying63 rfl Try.type63 rfl h10 bx10.loads ?_)
   refine SeqW.consX rfl (kLoadA rfl Try.underlying32 rfl Try.type32 rfl h12 X62.loads ?_)
   obtain ⟨y71, hy71, hr⟩ := bind_some hr
   refine SeqW.consX rfl (StepX.call (gCallee rfl rfl (args2 rfl rfl)) ((c_train_place (x0 := x10) (x1 := y53) (z := z) st.fz st.dead s10_0 s10_1 hy71).mono ?_))
   rintro _ _ ⟨rfl, rfl⟩
   refine sx rfl (pAssign (v := (vI y71)) rfl rfl) ?_
   refine SeqW.done fun fr72 hf73 => ?_
   have h7 : fr72 7 = (vI y71) := (congrFun hf73 7).trans rfl
   have h10 := (congrFun hf73 10).trans h10
   have h12 := (congrFun hf73 12).trans h12
   have h31 := (congrFun hf73 31).trans h31
   have h32 := (congrFun hf73 32).trans h32
   have h33 := (congrFun hf73 33).trans h33
   clear hf73
   refine thenQ.n (W.seq (W.region ?_))
   refine sx rfl (pMove (v := (vI y71)) rfl h7) ?_
   refine sx rfl (pGeq (k := .i64) (a := y71) (b := 0) rfl rfl rfl) ?_
   refine SeqW.done fun fr74 hf75 => ?_
   have h7 := (congrFun hf75 7).trans h7
   have h10 := (congrFun hf75 10).trans h10
   have h12 := (congrFun hf75 12).trans h12
   have h31 := (congrFun hf75 31).trans h31
   have h32 := (congrFun hf75 32).trans h32
   have h33 := (congrFun hf75 33).trans h33
   have h41 : fr74 41 = (vB (decide (0 ≤ y71))) := (congrFun hf75 41).trans rfl
   clear hf75
   refine thenQ.n ?_
   rcases if_some hr with ⟨hc76, hr⟩ | ⟨hc79, hr⟩
   ·refine W.condT h41 hc76 (W.seq (W.region ?_))
    refine SeqW.consX rfl (kField rfl Try.underlying32 rfl Try.type3 rfl h12 rfl ?_)
    refine SeqW.consX rfl (kLoad rfl Try.underlying3 rfl rfl (X62.load (v := (vI y53.number)) rfl) ?_)
    refine sx rfl (pMove (v := (vI y71)) rfl h7) ?_
    refine sx rfl (pAssign (v := (vI y53.number)) rfl rfl) ?_
    refine sx rfl (pAssign (v := (vI y71)) rfl rfl) ?_
    refine sx rfl (pAssign (v := (vI 0)) rfl rfl) ?_
    refine SeqW.done fun fr77 hf78 => ?_
    have h6 : fr77 6 = (vI y53.number) := (congrFun hf78 6).trans rfl
    have h7 : fr77 7 = (vI y71) := (congrFun hf78 7).trans rfl
    have h8 : fr77 8 = (vI 0) := (congrFun hf78 8).trans rfl
    clear hf78
    refine thenQ.n ?_
    refine W.ret ?_
    refine blockQ.r ?_
    refine thenQ.r ?_
    refine thenQ.r ?_
    obtain rfl := Option.some.inj hr
    exact ⟨z, hz, st, .inr ⟨_, rfl, rfl, h6, h7, h8, trivial⟩⟩
   ·refine W.condF h41 hc79 (W.skip ?_)
    refine blockQ.n ?_
    refine thenQ.n (W.region ?_)
    refine sx rfl (pAdd (k := .i64) (a := x33) (b := 1) rfl h33 rfl) ?_
    refine sx rfl (pMove (v := (vI (IntKind.wrap .i64 (x33 + 1)))) rfl rfl) ?_
    refine SeqW.done fun fr80 hf81 => ?_
    have h10 := (congrFun hf81 10).trans h10
    have h31 := (congrFun hf81 31).trans h31
    have h32 := (congrFun hf81 32).trans h32
    have h33 : fr80 33 = (vI (IntKind.wrap .i64 (x33 + 1))) := (congrFun hf81 33).trans rfl
    clear hf81
    refine thenQ.n ?_
    exact ih (x10 := x10) hz st h10 s10_0 s10_1 bx10 h31 s31 h32 h33 hr
  ·refine W.condF h34 hc82 ?_
   refine W.exit ?_
   refine thenQ.x ?_
   refine thenQ.x ?_
   obtain rfl := Option.some.inj hr
   exact ⟨z, hz, st, .inl ⟨_, rfl, rfl, trivial⟩⟩

theorem u_rulebook_Check {N : Nat}  {z0 z : Nat → Blk} {e m : Mem} {k : Option Nat} {fr : Nat → Value} {x0 : List Rule} {x1 : List Wagon} {x2 : List Int} {v0 : Value} {v1 : Value} {v2 : Value} (hz : Zx e.next z0 z) (st : St z e m k) (h0 : fr 0 = v0) (s0 : SlR TRule z x0 v0) (h1 : fr 1 = v1) (s1 : SlR TWagon z x1 v1) (h2 : fr 2 = v2) (s2 : SlR (TInt 3 .i64) z x2 v2) {r : Int × Int × Int} (hr : rulebook_Check N x0 x1 x2 = some r) : W Try.prog (sub (bodyOf Try.f18) []) (fun ex fr' m' => ∃ z', Zx e.next z0 z' ∧ St z' e m' k ∧ (ex = .normal ∨ ex = .ret) ∧ fr' 6 = (vI r.1) ∧ fr' 7 = (vI r.2.1) ∧ fr' 8 = (vI r.2.2) ∧ True) fr m := by
 unfold rulebook_Check at hr
 refine W.seq (W.region ?_)
 refine sx rfl (pAssign (v := (vI 0)) rfl rfl) ?_
 refine sx rfl (pAssign (v := (vI 0)) rfl rfl) ?_
 refine sx rfl (pAssign (v := (vI 0)) rfl rfl) ?_
 refine SeqW.done fun fr1 hf2 => ?_
 have h0 := (congrFun hf2 0).trans h0
 have h1 := (congrFun hf2 1).trans h1
 have h2 := (congrFun hf2 2).trans h2
 clear hf2
 refine thenQ.n (W.seq ?_)
 refine W.seq (W.region ?_)
 refine sx rfl (pMove (v := v0) rfl h0) ?_
 obtain ⟨y3, hy3, hr⟩ := bind_some hr
 refine SeqW.consX rfl (StepX.call (gCallee rfl rfl (args1 rfl)) ((c_rulebook_Valid (z := z) st.fz st.dead s0 hy3).mono ?_))
 rintro _ _ ⟨rfl, rfl⟩
 refine sx rfl (pAssign (v := (vI y3)) rfl rfl) ?_
 refine SeqW.done fun fr4 hf5 => ?_
 have h0 := (congrFun hf5 0).trans h0
 have h1 := (congrFun hf5 1).trans h1
 have h2 := (congrFun hf5 2).trans h2
 have h8 : fr4 8 = (vI y3) := (congrFun hf5 8).trans rfl
 clear hf5
 refine thenQ.n (W.seq (W.region ?_))
 refine sx rfl (pMove (v := (vI y3)) rfl h8) ?_
 refine sx rfl (pNeq (k := .i64) (a := y3) (b := 0) rfl rfl rfl) ?_
 refine SeqW.done fun fr6 hf7 => ?_
 have h0 := (congrFun hf7 0).trans h0
 have h1 := (congrFun hf7 1).trans h1
 have h2 := (congrFun hf7 2).trans h2
 have h8 := (congrFun hf7 8).trans h8
 have h16 : fr6 16 = (vB (y3 != 0)) := (congrFun hf7 16).trans rfl
 clear hf7
 refine thenQ.n ?_
 rcases if_some hr with ⟨hc8, hr⟩ | ⟨hc11, hr⟩
 ·refine W.condT h16 hc8 (W.seq (W.region ?_))
  refine sx rfl (pMove (v := (vI y3)) rfl h8) ?_
  refine sx rfl (pAssign (v := (vI 0)) rfl rfl) ?_
  refine sx rfl (pAssign (v := (vI 0)) rfl rfl) ?_
  refine sx rfl (pAssign (v := (vI y3)) rfl rfl) ?_
  refine SeqW.done fun fr9 hf10 => ?_
  have h6 : fr9 6 = (vI 0) := (congrFun hf10 6).trans rfl
  have h7 : fr9 7 = (vI 0) := (congrFun hf10 7).trans rfl
  have h8 : fr9 8 = (vI y3) := (congrFun hf10 8).trans rfl
  clear hf10
  refine thenQ.n ?_
  refine W.ret ?_
  refine thenQ.r ?_
  obtain rfl := Option.some.inj hr
  exact ⟨z, hz, st, .inr rfl, h6, h7, h8, trivial⟩
 ·refine W.condF h16 hc11 (W.skip ?_)
  refine thenQ.n (W.seq (W.region ?_))
  refine sx rfl (pMove (v := v1) rfl h1) ?_
  refine sx rfl (pMove (v := v2) rfl h2) ?_
  obtain ⟨y12, hy12, hr⟩ := bind_some hr
  refine SeqW.consX rfl (StepX.call (gCallee rfl rfl (args2 rfl rfl)) ((c_brake_Total (z := z) st.fz st.dead s1 s2 hy12).mono ?_))
  rintro _ m17 ⟨z13, hzx14, fz15, sm16, rfl, -⟩
  replace s0 := s0.mono hzx14.le
  replace s1 := s1.mono hzx14.le
  replace s2 := s2.mono hzx14.le
  replace hz := hz.trans (Zx.here st hzx14)
  replace st := st.call hzx14 fz15 sm16 no_hq
  refine sx rfl (pMove (v := (Value.tuple [(Value.agg [(vI y12.1.length), (vI y12.1.axles), (vI y12.1.mass), (vI y12.1.braked), (vI y12.1.percent), (vI y12.1.required), (vI y12.1.missing)].toArray), (vI y12.2)].toArray)) rfl rfl) ?_
  refine sx rfl (pExtract (vs := [(Value.agg [(vI y12.1.length), (vI y12.1.axles), (vI y12.1.mass), (vI y12.1.braked), (vI y12.1.percent), (vI y12.1.required), (vI y12.1.missing)].toArray), (vI y12.2)]) (v := (Value.agg [(vI y12.1.length), (vI y12.1.axles), (vI y12.1.mass), (vI y12.1.braked), (vI y12.1.percent), (vI y12.1.required), (vI y12.1.missing)].toArray)) rfl rfl rfl) ?_
  refine sx rfl (pExtract (vs := [(Value.agg [(vI y12.1.length), (vI y12.1.axles), (vI y12.1.mass), (vI y12.1.braked), (vI y12.1.percent), (vI y12.1.required), (vI y12.1.missing)].toArray), (vI y12.2)]) (v := (vI y12.2)) rfl rfl rfl) ?_
  refine SeqW.consX rfl (kAlloc rfl Try.type59 rfl rfl rfl [(vI 0), (vI 0), (vI 0), (vI 0), (vI 0), (vI 0), (vI 0)] rfl st ?_)
  intro B18 m19  st X20 sm21 hap22
  refine SeqW.consX rfl (kPut (off := 0) (w := (Value.agg [(vI y12.1.length), (vI y12.1.axles), (vI y12.1.mass), (vI y12.1.braked), (vI y12.1.percent), (vI y12.1.required), (vI y12.1.missing)].toArray)) (new := [(vI y12.1.length), (vI y12.1.axles), (vI y12.1.mass), (vI y12.1.braked), (vI y12.1.percent), (vI y12.1.required), (vI y12.1.missing)]) rfl Try.type59 rfl rfl rfl rfl rfl X20 rfl [(vI y12.1.length), (vI y12.1.axles), (vI y12.1.mass), (vI y12.1.braked), (vI y12.1.percent), (vI y12.1.required), (vI y12.1.missing)] rfl st ?_)
  intro m24 st X20 sm25
  refine sx rfl (pAssign (v := (vI y12.2)) rfl rfl) ?_
  refine SeqW.done fun fr26 hf27 => ?_
  have h0 := (congrFun hf27 0).trans h0
  have h1 := (congrFun hf27 1).trans h1
  have h2 := (congrFun hf27 2).trans h2
  have h8 : fr26 8 = (vI y12.2) := (congrFun hf27 8).trans rfl
  have h9 : fr26 9 = (vP B18) := (congrFun hf27 9).trans rfl
  clear hf27
  refine thenQ.n (W.seq ?_)
  refine W.seq (W.region ?_)
  refine sx rfl (pMove (v := (vI y12.2)) rfl h8) ?_
  refine sx rfl (pNeq (k := .i64) (a := y12.2) (b := 0) rfl rfl rfl) ?_
  refine SeqW.done fun fr28 hf29 => ?_
  have h0 := (congrFun hf29 0).trans h0
  have h1 := (congrFun hf29 1).trans h1
  have h2 := (congrFun hf29 2).trans h2
  have h8 := (congrFun hf29 8).trans h8
  have h9 := (congrFun hf29 9).trans h9
  have h25 : fr28 25 = (vB (y12.2 != 0)) := (congrFun hf29 25).trans rfl
  clear hf29
  refine thenQ.n ?_
  rcases if_some hr with ⟨hc30, hr⟩ | ⟨hc33, hr⟩
  ·refine W.condT h25 hc30 (W.seq (W.region ?_))
   refine sx rfl (pMove (v := (vI y12.2)) rfl h8) ?_
   refine sx rfl (pAssign (v := (vI 0)) rfl rfl) ?_
   refine sx rfl (pAssign (v := (vI 0)) rfl rfl) ?_
   refine sx rfl (pAssign (v := (vI y12.2)) rfl rfl) ?_
   refine SeqW.done fun fr31 hf32 => ?_
   have h6 : fr31 6 = (vI 0) := (congrFun hf32 6).trans rfl
   have h7 : fr31 7 = (vI 0) := (congrFun hf32 7).trans rfl
   have h8 : fr31 8 = (vI y12.2) := (congrFun hf32 8).trans rfl
   clear hf32
   refine thenQ.n ?_
   refine W.ret ?_
   refine thenQ.r ?_
   obtain rfl := Option.some.inj hr
   exact ⟨z13, hz, st, .inr rfl, h6, h7, h8, trivial⟩
  ·refine W.condF h25 hc33 (W.skip ?_)
   refine thenQ.n (W.seq (W.region ?_))
   refine sx rfl (pMove (v := v1) rfl h1) ?_
   refine sx rfl (pMove (v := v2) rfl h2) ?_
   refine SeqW.consX rfl (kLoadA rfl Try.underlying59 rfl Try.type59 rfl h9 X20.loads ?_)
   obtain ⟨A34, c35, eA34⟩ := s1.len
   subst eA34
   obtain ⟨A36, c37, eA36⟩ := s2.len
   subst eA36
   refine SeqW.consX rfl (kBuildS [(0, (Value.slice A34 (x1).length c35)), (1, (Value.slice A36 (x2).length c37)), (2, (Value.agg [(vI y12.1.length), (vI y12.1.axles), (vI y12.1.mass), (vI y12.1.braked), (vI y12.1.percent), (vI y12.1.required), (vI y12.1.missing)].toArray))] [(Value.slice A34 (x1).length c35), (Value.slice A36 (x2).length c37), (vI y12.1.length), (vI y12.1.axles), (vI y12.1.mass), (vI y12.1.braked), (vI y12.1.percent), (vI y12.1.required), (vI y12.1.missing)] rfl Try.underlying63 Try.type63 rfl rfl (places63 Try.underlying63) rfl (rfl) rfl ?_)
   refine SeqW.consX rfl (kAlloc rfl Try.type63 rfl rfl rfl [(Value.slice none 0 0), (Value.slice none 0 0), (vI 0), (vI 0), (vI 0), (vI 0), (vI 0), (vI 0), (vI 0)] rfl st ?_)
   intro B38 m39  st X40 sm41 hap42
   refine SeqW.consX rfl (kPut (off := 0) (w := (Value.agg [(Value.slice A34 (x1).length c35), (Value.slice A36 (x2).length c37), (vI y12.1.length), (vI y12.1.axles), (vI y12.1.mass), (vI y12.1.braked), (vI y12.1.percent), (vI y12.1.required), (vI y12.1.missing)].toArray)) (new := [(Value.slice A34 (x1).length c35), (Value.slice A36 (x2).length c37), (vI y12.1.length), (vI y12.1.axles), (vI y12.1.mass), (vI y12.1.braked), (vI y12.1.percent), (vI y12.1.required), (vI y12.1.missing)]) rfl Try.type63 rfl rfl rfl rfl rfl X40 rfl [(Value.slice A34 (x1).length c35), (Value.slice A36 (x2).length c37), (vI y12.1.length), (vI y12.1.axles), (vI y12.1.mass), (vI y12.1.braked), (vI y12.1.percent), (vI y12.1.required), (vI y12.1.missing)] rfl st ?_)
   intro m44 st X40 sm45
   refine SeqW.done fun fr46 hf47 => ?_
   have h0 := (congrFun hf47 0).trans h0
   have h10 : fr46 10 = (vP B38) := (congrFun hf47 10).trans rfl
   clear hf47
   refine thenQ.n (W.seq ?_)
   refine W.seq (W.region ?_)
   refine sx rfl (pMove (v := v0) rfl h0) ?_
   refine sx rfl (pLenR (xs := x0) rfl Try.underlying23 rfl s0) ?_
   refine sx rfl (pMove (v := (vI 0)) rfl rfl) ?_
   refine SeqW.done fun fr48 hf49 => ?_
   have h10 := (congrFun hf49 10).trans h10
   have h31 : fr48 31 = v0 := (congrFun hf49 31).trans rfl
   have h32 : fr48 32 = (vI (x0.length : Int)) := (congrFun hf49 32).trans rfl
   have h33 : fr48 33 = (vI 0) := (congrFun hf49 33).trans rfl
   clear hf49
   refine thenQ.n ?_
   refine W.block ?_
   obtain ⟨y83, hy83, hr⟩ := bind_some hr
   refine W.keep (u_rulebook_Check_0 (x10 := (Train.mk x1 x2 (Brakes.mk y12.1.length y12.1.axles y12.1.mass y12.1.braked y12.1.percent y12.1.required y12.1.missing))) _ (Zx.refl _) st h10 s1 s2 X40 h31 s0 h32 h33 hy83) ?_
   rintro ex89 fr84 m85 hk87 ⟨z86, hz88, st, ⟨y90, rfl, rfl, -⟩ | ⟨y93, rfl, rfl, h6, h7, h8, -⟩⟩
   ·dsimp only at hr
    replace hz := hz.trans hz88
    clear hk87
    refine blockQ.hit ?_
    refine thenQ.n (W.seq (W.region ?_))
    refine sx rfl (pAssign (v := (vI 0)) rfl rfl) ?_
    refine sx rfl (pAssign (v := (vI (-1))) rfl rfl) ?_
    refine sx rfl (pAssign (v := (vI 0)) rfl rfl) ?_
    refine SeqW.done fun fr91 hf92 => ?_
    have h6 : fr91 6 = (vI 0) := (congrFun hf92 6).trans rfl
    have h7 : fr91 7 = (vI (-1)) := (congrFun hf92 7).trans rfl
    have h8 : fr91 8 = (vI 0) := (congrFun hf92 8).trans rfl
    clear hf92
    refine thenQ.n ?_
    refine W.ret ?_
    obtain rfl := Option.some.inj hr
    exact ⟨z86, hz, st, .inr rfl, h6, h7, h8, trivial⟩
   ·dsimp only at hr
    replace hz := hz.trans hz88
    clear hk87
    refine blockQ.r ?_
    refine thenQ.r ?_
    obtain rfl := Option.some.inj hr
    exact ⟨z86, hz, st, .inr rfl, h6, h7, h8, trivial⟩

theorem c_rulebook_Check {N : Nat} {z : Nat → Blk} {m : Mem} {x0 : List Rule} {x1 : List Wagon} {x2 : List Int} {v0 : Value} {v1 : Value} {v2 : Value} (fz : Fz z m) (hd : ∀ b, m.next ≤ b → m.blk b = .dead) (s0 : SlR TRule z x0 v0) (s1 : SlR TWagon z x1 v1) (s2 : SlR (TInt 3 .i64) z x2 v2) {r : Int × Int × Int} (hr : rulebook_Check N x0 x1 x2 = some r) : CallW Try.prog 18 #[v0, v1, v2] m fun v m' => v = (Value.tuple [(vI r.1), (vI r.2.1), (vI r.2.2)].toArray) ∧ m' = m := by
 refine CallW.flat Try.func18 rfl (by kernel_rfl) (Nat.le_of_ble_eq_true rfl) rfl (z := z) (fun fr hf => ?_)
 have h0 : fr 0 = _ := hf 0 _ rfl
 have h1 : fr 1 = _ := hf 1 _ rfl
 have h2 : fr 2 = _ := hf 2 _ rfl
 refine (u_rulebook_Check (k := none) (Zx.refl _) (St.start fz hd) h0 s0 h1 s1 h2 s2 hr).mono ?_
 rintro ex fr' m' ⟨z', hz, st, he, h6, h7, h8, -⟩
 exact ⟨he, z', st, [(vI r.1), (vI r.2.1), (vI r.2.2)], ⟨h6.symm, h7.symm, h8.symm, trivial⟩, .inr (List.forall_mem_cons.2 ⟨rfl, List.forall_mem_cons.2 ⟨rfl, List.forall_mem_cons.2 ⟨rfl, fun _ h => nomatch h⟩⟩⟩), rfl⟩

/-! ### humpyard/rulebook.Place -/

theorem u_rulebook_Place {N : Nat}  {z0 z : Nat → Blk} {e m : Mem} {k : Option Nat} {fr : Nat → Value} {x0 : Rule} {x1 : List Wagon} {x2 : List Int} {v1 : Value} {v2 : Value} (hz : Zx e.next z0 z) (st : St z e m k) (h0 : fr 0 = (Value.agg [(vI x0.number), (vI x0.kind), (vI x0.a), (vI x0.b), (vI x0.c)].toArray)) (h1 : fr 1 = v1) (s1 : SlR TWagon z x1 v1) (h2 : fr 2 = v2) (s2 : SlR (TInt 3 .i64) z x2 v2) {r : Int × Int} (hr : rulebook_Place N x0 x1 x2 = some r) : W Try.prog (sub (bodyOf Try.f19) []) (fun ex fr' m' => ∃ z', Zx e.next z0 z' ∧ St z' e m' k ∧ (ex = .normal ∨ ex = .ret) ∧ fr' 6 = (vI r.1) ∧ fr' 7 = (vI r.2) ∧ True) fr m := by
 unfold rulebook_Place at hr
 refine W.seq (W.region ?_)
 refine SeqW.consX rfl (kBox (v := (Value.agg [(vI x0.number), (vI x0.kind), (vI x0.a), (vI x0.b), (vI x0.c)].toArray)) rfl Try.type32 h0 rfl [(vI x0.number), (vI x0.kind), (vI x0.a), (vI x0.b), (vI x0.c)] rfl rfl st ?_)
 intro B1 m2  st X3 sm4 hap5
 refine sx rfl (pAssign (v := (vI 0)) rfl rfl) ?_
 refine sx rfl (pAssign (v := (vI 0)) rfl rfl) ?_
 refine SeqW.done fun fr7 hf8 => ?_
 have h1 := (congrFun hf8 1).trans h1
 have h2 := (congrFun hf8 2).trans h2
 have h3 : fr7 3 = (vP B1) := (congrFun hf8 3).trans rfl
 clear hf8
 refine thenQ.n (W.seq ?_)
 refine W.seq (W.region ?_)
 refine SeqW.consX rfl (kLoadA rfl Try.underlying32 rfl Try.type32 rfl h3 X3.loads ?_)
 obtain ⟨y9, hy9, hr⟩ := bind_some hr
 refine SeqW.consX rfl (StepX.call (gCallee rfl rfl (args1 rfl)) ((c_rulebook_valid (x0 := x0) (z := z) st.fz st.dead  hy9).mono ?_))
 rintro _ _ ⟨rfl, rfl⟩
 refine sx rfl (pNot (b := y9) rfl rfl) ?_
 refine SeqW.done fun fr10 hf11 => ?_
 have h1 := (congrFun hf11 1).trans h1
 have h2 := (congrFun hf11 2).trans h2
 have h3 := (congrFun hf11 3).trans h3
 have h12 : fr10 12 = (vB (!y9)) := (congrFun hf11 12).trans rfl
 clear hf11
 refine thenQ.n ?_
 rcases if_some hr with ⟨hc12, hr⟩ | ⟨hc15, hr⟩
 ·refine W.condT h12 hc12 (W.seq (W.region ?_))
  refine sx rfl (pAssign (v := (vI 0)) rfl rfl) ?_
  refine sx rfl (pAssign (v := (vI 1)) rfl rfl) ?_
  refine SeqW.done fun fr13 hf14 => ?_
  have h6 : fr13 6 = (vI 0) := (congrFun hf14 6).trans rfl
  have h7 : fr13 7 = (vI 1) := (congrFun hf14 7).trans rfl
  clear hf14
  refine thenQ.n ?_
  refine W.ret ?_
  refine thenQ.r ?_
  obtain rfl := Option.some.inj hr
  exact ⟨z, hz, st, .inr rfl, h6, h7, trivial⟩
 ·refine W.condF h12 hc15 (W.skip ?_)
  refine thenQ.n (W.seq (W.region ?_))
  refine sx rfl (pMove (v := v1) rfl h1) ?_
  refine sx rfl (pMove (v := v2) rfl h2) ?_
  obtain ⟨y16, hy16, hr⟩ := bind_some hr
  refine SeqW.consX rfl (StepX.call (gCallee rfl rfl (args2 rfl rfl)) ((c_brake_Total (z := z) st.fz st.dead s1 s2 hy16).mono ?_))
  rintro _ m21 ⟨z17, hzx18, fz19, sm20, rfl, -⟩
  replace s1 := s1.mono hzx18.le
  replace s2 := s2.mono hzx18.le
  replace X3 := X3.call hzx18 sm20 Ap.none'
  replace hz := hz.trans (Zx.here st hzx18)
  replace st := st.call hzx18 fz19 sm20 no_hq
  refine sx rfl (pMove (v := (Value.tuple [(Value.agg [(vI y16.1.length), (vI y16.1.axles), (vI y16.1.mass), (vI y16.1.braked), (vI y16.1.percent), (vI y16.1.required), (vI y16.1.missing)].toArray), (vI y16.2)].toArray)) rfl rfl) ?_
  refine sx rfl (pExtract (vs := [(Value.agg [(vI y16.1.length), (vI y16.1.axles), (vI y16.1.mass), (vI y16.1.braked), (vI y16.1.percent), (vI y16.1.required), (vI y16.1.missing)].toArray), (vI y16.2)]) (v := (Value.agg [(vI y16.1.length), (vI y16.1.axles), (vI y16.1.mass), (vI y16.1.braked), (vI y16.1.percent), (vI y16.1.required), (vI y16.1.missing)].toArray)) rfl rfl rfl) ?_
  refine sx rfl (pExtract (vs := [(Value.agg [(vI y16.1.length), (vI y16.1.axles), (vI y16.1.mass), (vI y16.1.braked), (vI y16.1.percent), (vI y16.1.required), (vI y16.1.missing)].toArray), (vI y16.2)]) (v := (vI y16.2)) rfl rfl rfl) ?_
  refine SeqW.consX rfl (kAlloc rfl Try.type59 rfl rfl rfl [(vI 0), (vI 0), (vI 0), (vI 0), (vI 0), (vI 0), (vI 0)] rfl st ?_)
  intro B22 m23  st X24 sm25 hap26
  have A28 := hap26 _ X3.lt'
  replace X3 := X3.same sm25 Ap.none'
  refine SeqW.consX rfl (kPut (off := 0) (w := (Value.agg [(vI y16.1.length), (vI y16.1.axles), (vI y16.1.mass), (vI y16.1.braked), (vI y16.1.percent), (vI y16.1.required), (vI y16.1.missing)].toArray)) (new := [(vI y16.1.length), (vI y16.1.axles), (vI y16.1.mass), (vI y16.1.braked), (vI y16.1.percent), (vI y16.1.required), (vI y16.1.missing)]) rfl Try.type59 rfl rfl rfl rfl rfl X24 rfl [(vI y16.1.length), (vI y16.1.axles), (vI y16.1.mass), (vI y16.1.braked), (vI y16.1.percent), (vI y16.1.required), (vI y16.1.missing)] rfl st ?_)
  intro m29 st X24 sm30
  replace X3 := X3.same sm30 A28
  refine sx rfl (pAssign (v := (vI y16.2)) rfl rfl) ?_
  refine SeqW.done fun fr31 hf32 => ?_
  have h1 := (congrFun hf32 1).trans h1
  have h2 := (congrFun hf32 2).trans h2
  have h3 := (congrFun hf32 3).trans h3
  have h8 : fr31 8 = (vP B22) := (congrFun hf32 8).trans rfl
  have h9 : fr31 9 = (vI y16.2) := (congrFun hf32 9).trans rfl
  clear hf32
  refine thenQ.n (W.seq ?_)
  refine W.seq (W.region ?_)
  refine sx rfl (pMove (v := (vI y16.2)) rfl h9) ?_
  refine sx rfl (pNeq (k := .i64) (a := y16.2) (b := 0) rfl rfl rfl) ?_
  refine SeqW.done fun fr33 hf34 => ?_
  have h1 := (congrFun hf34 1).trans h1
  have h2 := (congrFun hf34 2).trans h2
  have h3 := (congrFun hf34 3).trans h3
  have h8 := (congrFun hf34 8).trans h8
  have h9 := (congrFun hf34 9).trans h9
  have h20 : fr33 20 = (vB (y16.2 != 0)) := (congrFun hf34 20).trans rfl
  clear hf34
  refine thenQ.n ?_
  rcases if_some hr with ⟨hc35, hr⟩ | ⟨hc38, hr⟩
  ·refine W.condT h20 hc35 (W.seq (W.region ?_))
   refine sx rfl (pMove (v := (vI y16.2)) rfl h9) ?_
   refine sx rfl (pAssign (v := (vI 0)) rfl rfl) ?_
   refine sx rfl (pAssign (v := (vI y16.2)) rfl rfl) ?_
   refine SeqW.done fun fr36 hf37 => ?_
   have h6 : fr36 6 = (vI 0) := (congrFun hf37 6).trans rfl
   have h7 : fr36 7 = (vI y16.2) := (congrFun hf37 7).trans rfl
   clear hf37
   refine thenQ.n ?_
   refine W.ret ?_
   refine thenQ.r ?_
   obtain rfl := Option.some.inj hr
   exact ⟨z17, hz, st, .inr rfl, h6, h7, trivial⟩
  ·refine W.condF h20 hc38 (W.skip ?_)
   refine thenQ.n (W.seq (W.region ?_))
   refine sx rfl (pMove (v := v1) rfl h1) ?_
   refine sx rfl (pMove (v := v2) rfl h2) ?_
   refine SeqW.consX rfl (kLoadA rfl Try.underlying59 rfl Try.type59 rfl h8 X24.loads ?_)
   obtain ⟨A39, c40, eA39⟩ := s1.len
   subst eA39
   obtain ⟨A41, c42, eA41⟩ := s2.len
   subst eA41
   refine SeqW.consX rfl (kBuildS [(0, (Value.slice A39 (x1).length c40)), (1, (Value.slice A41 (x2).length c42)), (2, (Value.agg [(vI y16.1.length), (vI y16.1.axles), (vI y16.1.mass), (vI y16.1.braked), (vI y16.1.percent), (vI y16.1.required), (vI y16.1.missing)].toArray))] [(Value.slice A39 (x1).length c40), (Value.slice A41 (x2).length c42), (vI y16.1.length), (vI y16.1.axles), (vI y16.1.mass), (vI y16.1.braked), (vI y16.1.percent), (vI y16.1.required), (vI y16.1.missing)] rfl Try.underlying63 Try.type63 rfl rfl (places63 Try.underlying63) rfl (rfl) rfl ?_)
   refine SeqW.consX rfl (kLoadA rfl Try.underlying32 rfl Try.type32 rfl h3 X3.loads ?_)
   obtain ⟨y43, hy43, hr⟩ := bind_some hr
   refine SeqW.consX rfl (StepX.call (gCallee rfl rfl (args2 rfl rfl)) ((c_train_place (x0 := (Train.mk x1 x2 (Brakes.mk y16.1.length y16.1.axles y16.1.mass y16.1.braked y16.1.percent y16.1.required y16.1.missing))) (x1 := x0) (z := z17) st.fz st.dead s1 s2 hy43).mono ?_))
   rintro _ _ ⟨rfl, rfl⟩
   refine sx rfl (pAssign (v := (vI y43)) rfl rfl) ?_
   refine sx rfl (pAssign (v := (vI 0)) rfl rfl) ?_
   refine SeqW.done fun fr44 hf45 => ?_
   have h6 : fr44 6 = (vI y43) := (congrFun hf45 6).trans rfl
   have h7 : fr44 7 = (vI 0) := (congrFun hf45 7).trans rfl
   clear hf45
   refine thenQ.n ?_
   refine W.ret ?_
   obtain rfl := Option.some.inj hr
   exact ⟨z17, hz, st, .inr rfl, h6, h7, trivial⟩

theorem c_rulebook_Place {N : Nat} {z : Nat → Blk} {m : Mem} {x0 : Rule} {x1 : List Wagon} {x2 : List Int} {v1 : Value} {v2 : Value} (fz : Fz z m) (hd : ∀ b, m.next ≤ b → m.blk b = .dead) (s1 : SlR TWagon z x1 v1) (s2 : SlR (TInt 3 .i64) z x2 v2) {r : Int × Int} (hr : rulebook_Place N x0 x1 x2 = some r) : CallW Try.prog 19 #[(Value.agg [(vI x0.number), (vI x0.kind), (vI x0.a), (vI x0.b), (vI x0.c)].toArray), v1, v2] m fun v m' => v = (Value.tuple [(vI r.1), (vI r.2)].toArray) ∧ m' = m := by
 refine CallW.flat Try.func19 rfl (by kernel_rfl) (Nat.le_of_ble_eq_true rfl) rfl (z := z) (fun fr hf => ?_)
 have h0 : fr 0 = _ := hf 0 _ rfl
 have h1 : fr 1 = _ := hf 1 _ rfl
 have h2 : fr 2 = _ := hf 2 _ rfl
 refine (u_rulebook_Place (k := none) (Zx.refl _) (St.start fz hd) h0 h1 s1 h2 s2 hr).mono ?_
 rintro ex fr' m' ⟨z', hz, st, he, h6, h7, -⟩
 exact ⟨he, z', st, [(vI r.1), (vI r.2)], ⟨h6.symm, h7.symm, trivial⟩, .inr (List.forall_mem_cons.2 ⟨rfl, List.forall_mem_cons.2 ⟨rfl, fun _ h => nomatch h⟩⟩), rfl⟩

/-! ### humpyard/humpyardlaw36.wagon -/

theorem u_l36_wagon {N : Nat}  {z0 z : Nat → Blk} {e m : Mem} {k : Option Nat} {fr : Nat → Value} {x0 : Int} {x1 : Int} (hz : Zx e.next z0 z) (st : St z e m k) (h0 : fr 0 = (vI x0)) (h1 : fr 1 = (vI x1)) {r : Wagon} (hr : l36_wagon N x0 x1 = some r) : W Try.prog (sub (bodyOf Try.f28) []) (fun ex fr' m' => ∃ z', Zx e.next z0 z' ∧ St z' e m' k ∧ (ex = .normal ∨ ex = .ret) ∧ ∃ (c4 : Nat), fr' 4 = (vP c4) ∧ Bx z' e m' k c4 [(str r.number), (vI r.length), (vI r.axles), (vI r.mass), (vI r.brake), (vI r.goods), (vB r.gentle), (str r.dest)] 36 ∧ (e.next ≤ c4 ∨ k = some c4) ∧ True) fr m := by
 unfold l36_wagon at hr
 refine W.seq (W.region ?_)
 refine SeqW.consX rfl (kAlloc rfl Try.type36 rfl rfl rfl [(str []), (vI 0), (vI 0), (vI 0), (vI 0), (vI 0), (vB false), (str [])] rfl st ?_)
 intro B1 m2  st X3 sm4 hap5
 refine SeqW.done fun fr7 hf8 => ?_
 have h0 := (congrFun hf8 0).trans h0
 have h1 := (congrFun hf8 1).trans h1
 have h4 : fr7 4 = (vP B1) := (congrFun hf8 4).trans rfl
 clear hf8
 refine thenQ.n (W.seq (W.region ?_))
 refine SeqW.consX rfl (kBuild (T := (TInt 3 .i64)) rfl Try.underlying22 Try.type3 rfl rfl rfl rfl ([7] : List Int) [[(vI 7)]] rfl rfl rfl (BuildOk.mk (w := (vI 7)) rfl rfl rfl rfl trivial) st ?_)
 intro V9 m10 st O11 sm12 hap13
 have A15 := hap13 _ X3.lt'
 replace X3 := X3.same sm12 Ap.none'
 obtain ⟨z16, hz17, st, Q18, hl19⟩ := O11.freeze st
 replace X3 := X3.zle (hl19 _ A15)
 replace hz := hz.trans hz17
 obtain ⟨y20, hy20, hr⟩ := bind_some hr
 refine SeqW.consX rfl (StepX.call (gCallee rfl rfl (args1 rfl)) ((c_gen_New (z := z16) st.fz st.dead Q18 hy20).mono ?_))
 rintro _ m25 ⟨z21, B26, V29, hzx22, fz23, sm24, rfl, Q30, X27, hn32, -⟩
 have A33 := Ap.fresh X3.lt' hn32
 replace X3 := X3.call hzx22 sm24 Ap.none'
 replace Q18 := Q18.mono hzx22.le
 have X27 : Bx z21 e m25 k B26 _ _ := ⟨X27.blk, X27.lt, X27.dead, .inl (Nat.le_trans st.next hn32)⟩
 replace hz := hz.trans (Zx.here st hzx22)
 replace st := st.call hzx22 fz23 sm24 no_hq
 refine sx rfl (pMove (v := (vI x0)) rfl h0) ?_
 obtain ⟨y34, hy34, hr⟩ := bind_some hr
 refine SeqW.consX rfl (StepX.call (gCallee rfl rfl (args2 rfl rfl)) ((c_Maker_Wagon (x0 := y20) (z := z21) st.fz st.dead Q30 ⟨X27.blk, X27.lt, X27.dead, .inr rfl⟩ hy34).mono ?_))
 rintro _ m39 ⟨z35, V40, hzx36, fz37, sm38, rfl, Q41, X43, -⟩
 replace X3 := X3.call hzx36 sm38 A33
 replace Q30 := Q30.mono hzx36.le
 have X27n : Bx z35 e m39 k B26 _ _ := ⟨X43.blk, X43.lt, X43.dead, X27.fresh⟩
 replace hz := hz.trans (Zx.here st hzx36)
 replace st := st.call hzx36 fz37 sm38 X27.hq
 refine SeqW.consX rfl (kAlloc rfl Try.type36 rfl rfl rfl [(str []), (vI 0), (vI 0), (vI 0), (vI 0), (vI 0), (vB false), (str [])] rfl st ?_)
 intro B44 m45  st X46 sm47 hap48
 have A50 := hap48 _ X3.lt'
 replace X3 := X3.same sm47 Ap.none'
 refine SeqW.consX rfl (kPut (off := 0) (w := (Value.agg [(str y34.1.number), (vI y34.1.length), (vI y34.1.axles), (vI y34.1.mass), (vI y34.1.brake), (vI y34.1.goods), (vB y34.1.gentle), (str y34.1.dest)].toArray)) (new := [(str y34.1.number), (vI y34.1.length), (vI y34.1.axles), (vI y34.1.mass), (vI y34.1.brake), (vI y34.1.goods), (vB y34.1.gentle), (str y34.1.dest)]) rfl Try.type36 rfl rfl rfl rfl rfl X46 rfl [(str y34.1.number), (vI y34.1.length), (vI y34.1.axles), (vI y34.1.mass), (vI y34.1.brake), (vI y34.1.goods), (vB y34.1.gentle), (str y34.1.dest)] rfl st ?_)
 intro m51 st X46 sm52
 replace X3 := X3.same sm52 A50
 refine SeqW.done fun fr53 hf54 => ?_
 have h1 := (congrFun hf54 1).trans h1
 have h4 := (congrFun hf54 4).trans h4
 have h5 : fr53 5 = (vP B44) := (congrFun hf54 5).trans rfl
 clear hf54
 refine thenQ.n (W.seq (W.region ?_))
 refine sx rfl (pMove (v := (vI x1)) rfl h1) ?_
 refine SeqW.consX rfl (kField rfl Try.underlying36 rfl Try.type3 rfl h5 rfl ?_)
 refine SeqW.consX rfl (kPut (off := 5) (w := (vI x1)) (new := [(vI x1)]) rfl Try.type3 rfl rfl rfl rfl rfl X46 rfl [(str y34.1.number), (vI y34.1.length), (vI y34.1.axles), (vI y34.1.mass), (vI y34.1.brake), (vI x1), (vB y34.1.gentle), (str y34.1.dest)] rfl st ?_)
 intro m55 st X46 sm56
 replace X3 := X3.same sm56 A50
 refine SeqW.done fun fr57 hf58 => ?_
 have h4 := (congrFun hf58 4).trans h4
 have h5 := (congrFun hf58 5).trans h5
 clear hf58
 refine thenQ.n (W.seq (W.region ?_))
 refine SeqW.consX rfl (kLoadA rfl Try.underlying36 rfl Try.type36 rfl h5 X46.loads ?_)
 refine SeqW.consX rfl (kPut (off := 0) (w := (Value.agg [(str y34.1.number), (vI y34.1.length), (vI y34.1.axles), (vI y34.1.mass), (vI y34.1.brake), (vI x1), (vB y34.1.gentle), (str y34.1.dest)].toArray)) (new := [(str y34.1.number), (vI y34.1.length), (vI y34.1.axles), (vI y34.1.mass), (vI y34.1.brake), (vI x1), (vB y34.1.gentle), (str y34.1.dest)]) rfl Try.type36 h4 rfl rfl rfl rfl X3 rfl [(str y34.1.number), (vI y34.1.length), (vI y34.1.axles), (vI y34.1.mass), (vI y34.1.brake), (vI x1), (vB y34.1.gentle), (str y34.1.dest)] rfl st ?_)
 intro m59 st X3 sm60
 refine SeqW.done fun fr61 hf62 => ?_
 have h4 := (congrFun hf62 4).trans h4
 clear hf62
 refine thenQ.n ?_
 refine W.ret ?_
 obtain rfl := Option.some.inj hr
 exact ⟨z35, hz, st, .inr rfl, B1, h4, X3, X3.fresh, trivial⟩

theorem c_l36_wagon {N : Nat} {z : Nat → Blk} {m : Mem} {x0 : Int} {x1 : Int} (fz : Fz z m) (hd : ∀ b, m.next ≤ b → m.blk b = .dead)  {r : Wagon} (hr : l36_wagon N x0 x1 = some r) : CallW Try.prog 28 #[(vI x0), (vI x1)] m fun v m' => ∃ z', Zx m.next z z' ∧ Fz z' m' ∧ Same m m' none ∧ v = (Value.agg [(str r.number), (vI r.length), (vI r.axles), (vI r.mass), (vI r.brake), (vI r.goods), (vB r.gentle), (str r.dest)].toArray) ∧ True := by
 refine CallW.any Try.func28 rfl (by kernel_rfl) (Nat.le_of_ble_eq_true rfl) (fun fr hf => ?_)
 have h0 : fr 0 = _ := hf 0 _ rfl
 have h1 : fr 1 = _ := hf 1 _ rfl
 refine (u_l36_wagon (k := none) (Zx.refl _) (St.start fz hd) h0 h1 hr).mono ?_
 rintro ex fr' m' ⟨z', hz, st, he, c4, h4, bx4, fx4, -⟩
 exact ⟨he, [(Value.agg [(str r.number), (vI r.length), (vI r.axles), (vI r.mass), (vI r.brake), (vI r.goods), (vB r.gentle), (str r.dest)].toArray)], ⟨resCell h4 bx4 Try.underlying36 rfl Try.type36 rfl, trivial⟩, .inl rfl, z', hz, st.fz, st.toSame, rfl, trivial⟩

/-! ### humpyard/humpyardlaw36.sane -/

theorem u_l36_sane_0 {N : Nat}  {z0 z : Nat → Blk} {e m : Mem} {k : Option Nat} {fr : Nat → Value} {x2 : List Rule} {x3 : Int} {x4 : Int} {x5 : Int} {x6 : Int} {x7 : Int} {x8 : Int} {x9 : Int} {x10 : Int} {v2 : Value} (hz : Zx e.next z0 z) (st : St z e m k) (h2 : fr 2 = v2) (o2 : OwF TRule z e m k x2 v2) (h3 : fr 3 = (vI x3)) (h4 : fr 4 = (vI x4)) (h5 : fr 5 = (vI x5)) (h6 : fr 6 = (vI x6)) (h7 : fr 7 = (vI x7)) (h8 : fr 8 = (vI x8)) (h9 : fr 9 = (vI x9)) (h10 : fr 10 = (vI x10)) {r : Bool} (hr : l36_sane_0 N x2 x3 x4 x5 x6 x7 x8 x9 x10 = some r) : W Try.prog (sub (bodyOf Try.f17) [1, 1, 1, 1, 1, 1, 0]) (fun ex fr' m' => ∃ z', Zx e.next z0 z' ∧ St z' e m' k ∧ ex = AExit.normal ∧ fr' 0 = (vB r) ∧ True) fr m := by
 unfold l36_sane_0 at hr
 refine W.region ?_
 refine sx rfl (pMove (v := (vI x5)) rfl h5) ?_
 refine sx rfl (pEql (k := .i64) (a := x5) (b := 0) rfl rfl rfl) ?_
 refine sx rfl (pMove (v := (vB (x5 == 0))) rfl rfl) ?_
 rcases if_some hr with ⟨hc100, hr⟩ | ⟨hc162, hr⟩
 ·refine SeqW.consG rfl rfl rfl hc100 (StepX.pure (pMove (v := (vI x3)) rfl h3) ?_)
  refine SeqW.consG rfl rfl rfl hc100 (StepX.pure (pEql (k := .i64) (a := x3) (b := 9) rfl rfl rfl) ?_)
  refine sx rfl (pPick (t := true) (v := (vB (x3 == 9))) rfl ((congrArg vB hc100)) rfl) ?_
  refine sx rfl (pMove (v := (vB (x3 == 9))) rfl rfl) ?_
  rcases if_some hr with ⟨hc101, hr⟩ | ⟨hc159, hr⟩
  ·refine SeqW.consG rfl rfl rfl hc101 (StepX.pure (pMove (v := (vI x4)) rfl h4) ?_)
   refine SeqW.consG rfl rfl rfl hc101 (StepX.pure (pEql (k := .i64) (a := x4) (b := 3) rfl rfl rfl) ?_)
   refine sx rfl (pPick (t := true) (v := (vB (x4 == 3))) rfl ((congrArg vB hc101)) rfl) ?_
   refine sx rfl (pMove (v := (vB (x4 == 3))) rfl rfl) ?_
   rcases if_some hr with ⟨hc102, hr⟩ | ⟨hc156, hr⟩
   ·refine SeqW.consG rfl rfl rfl hc102 (StepX.pure (pMove (v := (vI x8)) rfl h8) ?_)
    refine SeqW.consG rfl rfl rfl hc102 (StepX.pure (pEql (k := .i64) (a := x8) (b := 0) rfl rfl rfl) ?_)
    refine sx rfl (pPick (t := true) (v := (vB (x8 == 0))) rfl ((congrArg vB hc102)) rfl) ?_
    refine sx rfl (pMove (v := (vB (x8 == 0))) rfl rfl) ?_
    rcases if_some hr with ⟨hc103, hr⟩ | ⟨hc153, hr⟩
    ·refine SeqW.consG rfl rfl rfl hc103 (StepX.pure (pMove (v := (vI x6)) rfl h6) ?_)
     refine SeqW.consG rfl rfl rfl hc103 (StepX.pure (pEql (k := .i64) (a := x6) (b := 0) rfl rfl rfl) ?_)
     refine sx rfl (pPick (t := true) (v := (vB (x6 == 0))) rfl ((congrArg vB hc103)) rfl) ?_
     refine sx rfl (pMove (v := (vB (x6 == 0))) rfl rfl) ?_
     rcases if_some hr with ⟨hc104, hr⟩ | ⟨hc150, hr⟩
     ·refine SeqW.consG rfl rfl rfl hc104 (StepX.pure (pMove (v := (vI x7)) rfl h7) ?_)
      refine SeqW.consG rfl rfl rfl hc104 (StepX.pure (pEql (k := .i64) (a := x7) (b := (-1)) rfl rfl rfl) ?_)
      refine sx rfl (pPick (t := true) (v := (vB (x7 == (-1)))) rfl ((congrArg vB hc104)) rfl) ?_
      refine sx rfl (pMove (v := (vB (x7 == (-1)))) rfl rfl) ?_
      rcases if_some hr with ⟨hc105, hr⟩ | ⟨hc147, hr⟩
      ·refine SeqW.consG rfl rfl rfl hc105 (StepX.pure (pMove (v := (vI x10)) rfl h10) ?_)
       refine SeqW.consG rfl rfl rfl hc105 (StepX.pure (pEql (k := .i64) (a := x10) (b := 0) rfl rfl rfl) ?_)
       refine sx rfl (pPick (t := true) (v := (vB (x10 == 0))) rfl ((congrArg vB hc105)) rfl) ?_
       refine sx rfl (pMove (v := (vB (x10 == 0))) rfl rfl) ?_
       rcases if_some hr with ⟨hc106, hr⟩ | ⟨hc144, hr⟩
       ·refine SeqW.consG rfl rfl rfl hc106 (StepX.pure (pMove (v := (vI x9)) rfl h9) ?_)
        refine SeqW.consG rfl rfl rfl hc106 (StepX.pure (pEql (k := .i64) (a := x9) (b := 1) rfl rfl rfl) ?_)
        refine sx rfl (pPick (t := true) (v := (vB (x9 == 1))) rfl ((congrArg vB hc106)) rfl) ?_
        refine sx rfl (pMove (v := (vB (x9 == 1))) rfl rfl) ?_
        rcases if_some hr with ⟨hc107, hr⟩ | ⟨hc141, hr⟩
        ·refine SeqW.consG rfl rfl rfl hc107 (StepX.pure (pMove (v := v2) rfl h2) ?_)
         refine SeqW.consG rfl rfl rfl hc107 (StepX.pure (pMove (v := v2) rfl h2) ?_)
         obtain ⟨y108, hy108, hr⟩ := bind_some hr
         refine SeqW.consG rfl rfl rfl hc107 (kIdxO (T := TRule) (xs := x2) (n := 0) rfl Try.underlying23 Try.type32 rfl rfl rfl o2 hy108 ?_)
         intro B109 l110 c111 cs112 hv113 hd114 hg115 hc116
         have hd1140 := hd114
         obtain rfl := hd1140
         refine SeqW.consG rfl rfl rfl hc107 (kLoadA rfl Try.underlying32 rfl Try.type32 rfl rfl hc116 ?_)
         refine SeqW.consG rfl rfl rfl hc107 (kBuild (T := TRule) rfl Try.underlying23 Try.type32 rfl rfl rfl rfl ([y108] : List Rule) [[(vI y108.number), (vI y108.kind), (vI y108.a), (vI y108.b), (vI y108.c)]] rfl rfl rfl (BuildOk.mk (w := (Value.agg [(vI y108.number), (vI y108.kind), (vI y108.a), (vI y108.b), (vI y108.c)].toArray)) rfl rfl rfl rfl trivial) st ?_)
         intro V117 m118 st O119 sm120 hap121
         have A123 := hap121 _ o2.lt
         replace o2 := o2.same sm120 Ap.none'
         obtain ⟨y124, hy124, hr⟩ := bind_some hr
         refine SeqW.consG rfl rfl rfl hc107 (kAppend (T := TRule) (xs := x2) (ys := ([y108] : List Rule)) rfl Try.underlying23 Try.type32 rfl rfl rfl rfl rfl rfl (.inl ⟨_, Try.underlying23⟩) rfl o2 rfl O119.ow.src st hy124 ?_)
         intro V125 m126 st O127 sm128 hap129
         have A131 := hap129 _ O119.lt (Ap.symm A123)
         replace O119 := O119.same sm128 (Ap.symm A123)
         obtain ⟨z132, hz133, st136, Q134, hl135⟩ := O127.freeze st
         obtain ⟨y137, hy137, hr⟩ := bind_some hr
         refine SeqW.consG rfl rfl rfl hc107 (StepX.call (gCallee rfl rfl (args1 rfl)) ((c_rulebook_Valid (z := z132) st136.fz st.dead Q134 hy137).mono ?_))
         rintro _ _ ⟨rfl, rfl⟩
         refine SeqW.consG rfl rfl rfl hc107 (StepX.pure (pEql (k := .i64) (a := y137) (b := 8) rfl rfl rfl) ?_)
         refine sx rfl (pPick (t := true) (v := (vB (y137 == 8))) rfl ((congrArg vB hc107)) rfl) ?_
         obtain ⟨y138, hy138, hr⟩ := lt_some hr
         refine sx rfl (pAssign rfl (congrArg vB hy138)) ?_
         refine SeqW.done fun fr139 hf140 => ?_
         have h0 : fr139 0 = (vB y138) := (congrFun hf140 0).trans rfl
         clear hf140
         obtain rfl := Option.some.inj hr
         exact ⟨z, hz, st, rfl, h0, trivial⟩
        ·refine kx rfl rfl rfl hc141 ?_
         iterate 7 refine kx rfl rfl rfl hc141 ?_
         refine sx rfl (pPick (t := false) (v := (vB false)) rfl ((congrArg vB hc141)) rfl) ?_
         refine sx rfl (pAssign (v := (vB false)) rfl rfl) ?_
         refine SeqW.done fun fr142 hf143 => ?_
         have h0 : fr142 0 = (vB false) := (congrFun hf143 0).trans rfl
         clear hf143
         obtain rfl := Option.some.inj hr
         exact ⟨z, hz, st, rfl, h0, trivial⟩
       ·refine kx rfl rfl rfl hc144 ?_
        refine kx rfl rfl rfl hc144 ?_
        refine sx rfl (pPick (t := false) (v := (vB false)) rfl ((congrArg vB hc144)) rfl) ?_
        refine sx rfl (pMove (v := (vB false)) rfl rfl) ?_
        iterate 8 refine kx rfl rfl rfl rfl ?_
        refine sx rfl (pPick (t := false) (v := (vB false)) rfl ((congrArg vB (rfl : false = false))) rfl) ?_
        refine sx rfl (pAssign (v := (vB false)) rfl rfl) ?_
        refine SeqW.done fun fr145 hf146 => ?_
        have h0 : fr145 0 = (vB false) := (congrFun hf146 0).trans rfl
        clear hf146
        obtain rfl := Option.some.inj hr
        exact ⟨z, hz, st, rfl, h0, trivial⟩
      ·refine kx rfl rfl rfl hc147 ?_
       refine kx rfl rfl rfl hc147 ?_
       refine sx rfl (pPick (t := false) (v := (vB false)) rfl ((congrArg vB hc147)) rfl) ?_
       refine sx rfl (pMove (v := (vB false)) rfl rfl) ?_
       iterate 2 refine kx rfl rfl rfl rfl ?_
       refine sx rfl (pPick (t := false) (v := (vB false)) rfl ((congrArg vB (rfl : false = false))) rfl) ?_
       refine sx rfl (pMove (v := (vB false)) rfl rfl) ?_
       iterate 8 refine kx rfl rfl rfl rfl ?_
       refine sx rfl (pPick (t := false) (v := (vB false)) rfl ((congrArg vB (rfl : false = false))) rfl) ?_
       refine sx rfl (pAssign (v := (vB false)) rfl rfl) ?_
       refine SeqW.done fun fr148 hf149 => ?_
       have h0 : fr148 0 = (vB false) := (congrFun hf149 0).trans rfl
       clear hf149
       obtain rfl := Option.some.inj hr
       exact ⟨z, hz, st, rfl, h0, trivial⟩
     ·refine kx rfl rfl rfl hc150 ?_
      refine kx rfl rfl rfl hc150 ?_
      refine sx rfl (pPick (t := false) (v := (vB false)) rfl ((congrArg vB hc150)) rfl) ?_
      refine sx rfl (pMove (v := (vB false)) rfl rfl) ?_
      iterate 2 refine kx rfl rfl rfl rfl ?_
      refine sx rfl (pPick (t := false) (v := (vB false)) rfl ((congrArg vB (rfl : false = false))) rfl) ?_
      refine sx rfl (pMove (v := (vB false)) rfl rfl) ?_
      iterate 2 refine kx rfl rfl rfl rfl ?_
      refine sx rfl (pPick (t := false) (v := (vB false)) rfl ((congrArg vB (rfl : false = false))) rfl) ?_
      refine sx rfl (pMove (v := (vB false)) rfl rfl) ?_
      iterate 8 refine kx rfl rfl rfl rfl ?_
      refine sx rfl (pPick (t := false) (v := (vB false)) rfl ((congrArg vB (rfl : false = false))) rfl) ?_
      refine sx rfl (pAssign (v := (vB false)) rfl rfl) ?_
      refine SeqW.done fun fr151 hf152 => ?_
      have h0 : fr151 0 = (vB false) := (congrFun hf152 0).trans rfl
      clear hf152
      obtain rfl := Option.some.inj hr
      exact ⟨z, hz, st, rfl, h0, trivial⟩
    ·refine kx rfl rfl rfl hc153 ?_
     refine kx rfl rfl rfl hc153 ?_
     refine sx rfl (pPick (t := false) (v := (vB false)) rfl ((congrArg vB hc153)) rfl) ?_
     refine sx rfl (pMove (v := (vB false)) rfl rfl) ?_
     iterate 2 refine kx rfl rfl rfl rfl ?_
     refine sx rfl (pPick (t := false) (v := (vB false)) rfl ((congrArg vB (rfl : false = false))) rfl) ?_
     refine sx rfl (pMove (v := (vB false)) rfl rfl) ?_
     iterate 2 refine kx rfl rfl rfl rfl ?_
     refine sx rfl (pPick (t := false) (v := (vB false)) rfl ((congrArg vB (rfl : false = false))) rfl) ?_
     refine sx rfl (pMove (v := (vB false)) rfl rfl) ?_
     iterate 2 refine kx rfl rfl rfl rfl ?_
     refine sx rfl (pPick (t := false) (v := (vB false)) rfl ((congrArg vB (rfl : false = false))) rfl) ?_
     refine sx rfl (pMove (v := (vB false)) rfl rfl) ?_
     iterate 8 refine kx rfl rfl rfl rfl ?_
     refine sx rfl (pPick (t := false) (v := (vB false)) rfl ((congrArg vB (rfl : false = false))) rfl) ?_
     refine sx rfl (pAssign (v := (vB false)) rfl rfl) ?_
     refine SeqW.done fun fr154 hf155 => ?_
     have h0 : fr154 0 = (vB false) := (congrFun hf155 0).trans rfl
     clear hf155
     obtain rfl := Option.some.inj hr
     exact ⟨z, hz, st, rfl, h0, trivial⟩
   ·refine kx rfl rfl rfl hc156 ?_
    refine kx rfl rfl rfl hc156 ?_
    refine sx rfl (pPick (t := false) (v := (vB false)) rfl ((congrArg vB hc156)) rfl) ?_
    refine sx rfl (pMove (v := (vB false)) rfl rfl) ?_
    iterate 2 refine kx rfl rfl rfl rfl ?_
    refine sx rfl (pPick (t := false) (v := (vB false)) rfl ((congrArg vB (rfl : false = false))) rfl) ?_
    refine sx rfl (pMove (v := (vB false)) rfl rfl) ?_
    iterate 2 refine kx rfl rfl rfl rfl ?_
    refine sx rfl (pPick (t := false) (v := (vB false)) rfl ((congrArg vB (rfl : false = false))) rfl) ?_
    refine sx rfl (pMove (v := (vB false)) rfl rfl) ?_
    iterate 2 refine kx rfl rfl rfl rfl ?_
    refine sx rfl (pPick (t := false) (v := (vB false)) rfl ((congrArg vB (rfl : false = false))) rfl) ?_
    refine sx rfl (pMove (v := (vB false)) rfl rfl) ?_
    iterate 2 refine kx rfl rfl rfl rfl ?_
    refine sx rfl (pPick (t := false) (v := (vB false)) rfl ((congrArg vB (rfl : false = false))) rfl) ?_
    refine sx rfl (pMove (v := (vB false)) rfl rfl) ?_
    iterate 8 refine kx rfl rfl rfl rfl ?_
    refine sx rfl (pPick (t := false) (v := (vB false)) rfl ((congrArg vB (rfl : false = false))) rfl) ?_
    refine sx rfl (pAssign (v := (vB false)) rfl rfl) ?_
    refine SeqW.done fun fr157 hf158 => ?_
    have h0 : fr157 0 = (vB false) := (congrFun hf158 0).trans rfl
    clear hf158
    obtain rfl := Option.some.inj hr
    exact ⟨z, hz, st, rfl, h0, trivial⟩
  ·refine kx rfl rfl rfl hc159 ?_
   refine kx rfl rfl rfl hc159 ?_
   refine sx rfl (pPick (t := false) (v := (vB false)) rfl ((congrArg vB hc159)) rfl) ?_
   refine sx rfl (pMove (v := (vB false)) rfl rfl) ?_
   iterate 2 refine kx rfl rfl rfl rfl ?_
   refine sx rfl (pPick (t := false) (v := (vB false)) rfl ((congrArg vB (rfl : false = false))) rfl) ?_
   refine sx rfl (pMove (v := (vB false)) rfl rfl) ?_
   iterate 2 refine kx rfl rfl rfl rfl ?_
   refine sx rfl (pPick (t := false) (v := (vB false)) rfl ((congrArg vB (rfl : false = false))) rfl) ?_
   refine sx rfl (pMove (v := (vB false)) rfl rfl) ?_
   iterate 2 refine kx rfl rfl rfl rfl ?_
   refine sx rfl (pPick (t := false) (v := (vB false)) rfl ((congrArg vB (rfl : false = false))) rfl) ?_
   refine sx rfl (pMove (v := (vB false)) rfl rfl) ?_
   iterate 2 refine kx rfl rfl rfl rfl ?_
   refine sx rfl (pPick (t := false) (v := (vB false)) rfl ((congrArg vB (rfl : false = false))) rfl) ?_
   refine sx rfl (pMove (v := (vB false)) rfl rfl) ?_
   iterate 2 refine kx rfl rfl rfl rfl ?_
   refine sx rfl (pPick (t := false) (v := (vB false)) rfl ((congrArg vB (rfl : false = false))) rfl) ?_
   refine sx rfl (pMove (v := (vB false)) rfl rfl) ?_
   iterate 8 refine kx rfl rfl rfl rfl ?_
   refine sx rfl (pPick (t := false) (v := (vB false)) rfl ((congrArg vB (rfl : false = false))) rfl) ?_
   refine sx rfl (pAssign (v := (vB false)) rfl rfl) ?_
   refine SeqW.done fun fr160 hf161 => ?_
   have h0 : fr160 0 = (vB false) := (congrFun hf161 0).trans rfl
   clear hf161
   obtain rfl := Option.some.inj hr
   exact ⟨z, hz, st, rfl, h0, trivial⟩
 ·refine kx rfl rfl rfl hc162 ?_
  refine kx rfl rfl rfl hc162 ?_
  refine sx rfl (pPick (t := false) (v := (vB false)) rfl ((congrArg vB hc162)) rfl) ?_
  refine sx rfl (pMove (v := (vB false)) rfl rfl) ?_
  iterate 2 refine kx rfl rfl rfl rfl ?_
  refine sx rfl (pPick (t := false) (v := (vB false)) rfl ((congrArg vB (rfl : false = false))) rfl) ?_
  refine sx rfl (pMove (v := (vB false)) rfl rfl) ?_
  iterate 2 refine kx rfl rfl rfl rfl ?_
  refine sx rfl (pPick (t := false) (v := (vB false)) rfl ((congrArg vB (rfl : false = false))) rfl) ?_
  refine sx rfl (pMove (v := (vB false)) rfl rfl) ?_
  iterate 2 refine kx rfl rfl rfl rfl ?_
  refine sx rfl (pPick (t := false) (v := (vB false)) rfl ((congrArg vB (rfl : false = false))) rfl) ?_
  refine sx rfl (pMove (v := (vB false)) rfl rfl) ?_
  iterate 2 refine kx rfl rfl rfl rfl ?_
  refine sx rfl (pPick (t := false) (v := (vB false)) rfl ((congrArg vB (rfl : false = false))) rfl) ?_
  refine sx rfl (pMove (v := (vB false)) rfl rfl) ?_
  iterate 2 refine kx rfl rfl rfl rfl ?_
  refine sx rfl (pPick (t := false) (v := (vB false)) rfl ((congrArg vB (rfl : false = false))) rfl) ?_
  refine sx rfl (pMove (v := (vB false)) rfl rfl) ?_
  iterate 2 refine kx rfl rfl rfl rfl ?_
  refine sx rfl (pPick (t := false) (v := (vB false)) rfl ((congrArg vB (rfl : false = false))) rfl) ?_
  refine sx rfl (pMove (v := (vB false)) rfl rfl) ?_
  iterate 8 refine kx rfl rfl rfl rfl ?_
  refine sx rfl (pPick (t := false) (v := (vB false)) rfl ((congrArg vB (rfl : false = false))) rfl) ?_
  refine sx rfl (pAssign (v := (vB false)) rfl rfl) ?_
  refine SeqW.done fun fr163 hf164 => ?_
  have h0 : fr163 0 = (vB false) := (congrFun hf164 0).trans rfl
  clear hf164
  obtain rfl := Option.some.inj hr
  exact ⟨z, hz, st, rfl, h0, trivial⟩

theorem u_l36_sane {N : Nat}  {z0 z : Nat → Blk} {e m : Mem} {k : Option Nat} {fr : Nat → Value} (hz : Zx e.next z0 z) (st : St z e m k)  {r : Bool} (hr : l36_sane N  = some r) : W Try.prog (sub (bodyOf Try.f17) []) (fun ex fr' m' => ∃ z', Zx e.next z0 z' ∧ St z' e m' k ∧ (ex = .normal ∨ ex = .ret) ∧ fr' 0 = (vB r) ∧ True) fr m := by
 unfold l36_sane at hr
 refine W.seq (W.region ?_)
 refine sx rfl (pAssign (v := (vB false)) rfl rfl) ?_
 refine SeqW.done fun fr1 hf2 => ?_
 clear hf2
 refine thenQ.n (W.seq (W.region ?_))
 obtain ⟨y3, hy3, hr⟩ := bind_some hr
 refine SeqW.consX rfl (StepX.call (gCallee rfl rfl (args2 rfl rfl)) ((c_l36_wagon (z := z) st.fz st.dead  hy3).mono ?_))
 rintro _ m8 ⟨z4, hzx5, fz6, sm7, rfl, -⟩
 replace hz := hz.trans (Zx.here st hzx5)
 replace st := st.call hzx5 fz6 sm7 no_hq
 obtain ⟨y9, hy9, hr⟩ := bind_some hr
 refine SeqW.consX rfl (StepX.call (gCallee rfl rfl (args2 rfl rfl)) ((c_l36_wagon (z := z4) st.fz st.dead  hy9).mono ?_))
 rintro _ m14 ⟨z10, hzx11, fz12, sm13, rfl, -⟩
 replace hz := hz.trans (Zx.here st hzx11)
 replace st := st.call hzx11 fz12 sm13 no_hq
 obtain ⟨y15, hy15, hr⟩ := bind_some hr
 refine SeqW.consX rfl (StepX.call (gCallee rfl rfl (args2 rfl rfl)) ((c_l36_wagon (z := z10) st.fz st.dead  hy15).mono ?_))
 rintro _ m20 ⟨z16, hzx17, fz18, sm19, rfl, -⟩
 replace hz := hz.trans (Zx.here st hzx17)
 replace st := st.call hzx17 fz18 sm19 no_hq
 obtain ⟨y21, hy21, hr⟩ := bind_some hr
 refine SeqW.consX rfl (StepX.call (gCallee rfl rfl (args2 rfl rfl)) ((c_l36_wagon (z := z16) st.fz st.dead  hy21).mono ?_))
 rintro _ m26 ⟨z22, hzx23, fz24, sm25, rfl, -⟩
 replace hz := hz.trans (Zx.here st hzx23)
 replace st := st.call hzx23 fz24 sm25 no_hq
 refine SeqW.consX rfl (kBuild (T := TWagon) rfl Try.underlying24 Try.type36 rfl rfl rfl rfl ([y3, y9, y15, y21] : List Wagon) [[(str y3.number), (vI y3.length), (vI y3.axles), (vI y3.mass), (vI y3.brake), (vI y3.goods), (vB y3.gentle), (str y3.dest)], [(str y9.number), (vI y9.length), (vI y9.axles), (vI y9.mass), (vI y9.brake), (vI y9.goods), (vB y9.gentle), (str y9.dest)], [(str y15.number), (vI y15.length), (vI y15.axles), (vI y15.mass), (vI y15.brake), (vI y15.goods), (vB y15.gentle), (str y15.dest)], [(str y21.number), (vI y21.length), (vI y21.axles), (vI y21.mass), (vI y21.brake), (vI y21.goods), (vB y21.gentle), (str y21.dest)]] rfl rfl rfl (BuildOk.mk (w := (Value.agg [(str y3.number), (vI y3.length), (vI y3.axles), (vI y3.mass), (vI y3.brake), (vI y3.goods), (vB y3.gentle), (str y3.dest)].toArray)) rfl rfl rfl rfl (BuildOk.mk (w := (Value.agg [(str y9.number), (vI y9.length), (vI y9.axles), (vI y9.mass), (vI y9.brake), (vI y9.goods), (vB y9.gentle), (str y9.dest)].toArray)) rfl rfl rfl rfl (BuildOk.mk (w := (Value.agg [(str y15.number), (vI y15.length), (vI y15.axles), (vI y15.mass), (vI y15.brake), (vI y15.goods), (vB y15.gentle), (str y15.dest)].toArray)) rfl rfl rfl rfl (BuildOk.mk (w := (Value.agg [(str y21.number), (vI y21.length), (vI y21.axles), (vI y21.mass), (vI y21.brake), (vI y21.goods), (vB y21.gentle), (str y21.dest)].toArray)) rfl rfl rfl rfl trivial)))) st ?_)
 intro V27 m28 st O29 sm30 hap31
 refine sx rfl (pAssign (v := V27) rfl rfl) ?_
 refine SeqW.done fun fr33 hf34 => ?_
 have h1 : fr33 1 = V27 := (congrFun hf34 1).trans rfl
 clear hf34
 refine thenQ.n (W.seq (W.region ?_))
 refine SeqW.consX rfl (kBuildS [(0, (vI 5)), (1, (vI 5)), (2, (vI 1)), (3, (vI 3)), (4, (vI 1))] [(vI 5), (vI 5), (vI 1), (vI 3), (vI 1)] rfl Try.underlying32 Try.type32 rfl rfl (places32 Try.underlying32) rfl (rfl) rfl ?_)
 refine SeqW.consX rfl (kBuildS [(0, (vI 9)), (1, (vI 5)), (2, (vI 1)), (3, (vI 3)), (4, (vI 2))] [(vI 9), (vI 5), (vI 1), (vI 3), (vI 2)] rfl Try.underlying32 Try.type32 rfl rfl (places32 Try.underlying32) rfl (rfl) rfl ?_)
 refine SeqW.consX rfl (kBuild (T := TRule) rfl Try.underlying23 Try.type32 rfl rfl rfl rfl ([(Rule.mk 5 5 1 3 1), (Rule.mk 9 5 1 3 2)] : List Rule) [[(vI 5), (vI 5), (vI 1), (vI 3), (vI 1)], [(vI 9), (vI 5), (vI 1), (vI 3), (vI 2)]] rfl rfl rfl (BuildOk.mk (w := (Value.agg [(vI 5), (vI 5), (vI 1), (vI 3), (vI 1)].toArray)) rfl rfl rfl rfl (BuildOk.mk (w := (Value.agg [(vI 9), (vI 5), (vI 1), (vI 3), (vI 2)].toArray)) rfl rfl rfl rfl trivial)) st ?_)
 intro V35 m36 st O37 sm38 hap39
 have A41 := hap39 _ O29.lt
 replace O29 := O29.same sm38 Ap.none'
 refine sx rfl (pAssign (v := V35) rfl rfl) ?_
 refine SeqW.done fun fr42 hf43 => ?_
 have h1 := (congrFun hf43 1).trans h1
 have h2 : fr42 2 = V35 := (congrFun hf43 2).trans rfl
 clear hf43
 refine thenQ.n (W.seq (W.region ?_))
 refine sx rfl (pMove (v := V35) rfl h2) ?_
 refine sx rfl (pMove (v := V27) rfl h1) ?_
 obtain ⟨z44, hz45, st48, Q46, hl47⟩ := O37.freeze st
 have O49 := O29.zle hz45.le (hl47 _ A41)
 obtain ⟨z50, hz51, st54, Q52, hl53⟩ := O49.freeze st48
 have Q55 := Q46.mono hz51.le
 obtain ⟨y56, hy56, hr⟩ := bind_some hr
 refine SeqW.consX rfl (StepX.call (gCallee rfl rfl (args3 rfl rfl rfl)) ((c_rulebook_Check (z := z50) st54.fz st.dead Q55 Q52 (SlR.nil (T := (TInt 3 .i64))) hy56).mono ?_))
 rintro _ _ ⟨rfl, rfl⟩
 refine sx rfl (pMove (v := (Value.tuple [(vI y56.1), (vI y56.2.1), (vI y56.2.2)].toArray)) rfl rfl) ?_
 refine sx rfl (pExtract (vs := [(vI y56.1), (vI y56.2.1), (vI y56.2.2)]) (v := (vI y56.1)) rfl rfl rfl) ?_
 refine sx rfl (pExtract (vs := [(vI y56.1), (vI y56.2.1), (vI y56.2.2)]) (v := (vI y56.2.1)) rfl rfl rfl) ?_
 refine sx rfl (pExtract (vs := [(vI y56.1), (vI y56.2.1), (vI y56.2.2)]) (v := (vI y56.2.2)) rfl rfl rfl) ?_
 refine sx rfl (pAssign (v := (vI y56.1)) rfl rfl) ?_
 refine sx rfl (pAssign (v := (vI y56.2.1)) rfl rfl) ?_
 refine sx rfl (pAssign (v := (vI y56.2.2)) rfl rfl) ?_
 refine SeqW.done fun fr57 hf58 => ?_
 have h1 := (congrFun hf58 1).trans h1
 have h2 := (congrFun hf58 2).trans h2
 have h3 : fr57 3 = (vI y56.1) := (congrFun hf58 3).trans rfl
 have h4 : fr57 4 = (vI y56.2.1) := (congrFun hf58 4).trans rfl
 have h5 : fr57 5 = (vI y56.2.2) := (congrFun hf58 5).trans rfl
 clear hf58
 refine thenQ.n (W.seq (W.region ?_))
 refine sx rfl (pMove (v := V35) rfl h2) ?_
 obtain ⟨y59, hy59, hr⟩ := bind_some hr
 refine SeqW.consX rfl (kCutV (T := TRule) (xs := ([(Rule.mk 5 5 1 3 1), (Rule.mk 9 5 1 3 2)] : List Rule)) (a := 0) (b := 1) rfl Try.underlying23 Try.type32 rfl rfl rfl ⟨_, rfl⟩ O37.ow.vw hy59 ?_)
 intro V60 _ hI62 Q61
 refine sx rfl (pMove (v := V27) rfl h1) ?_
 obtain ⟨z64, hz65, st68, Q66, hl67, hw69⟩ := O37.freezeV st
 have O70 := O29.zle hz65.le (hl67 _ A41)
 have Q71 := hw69 Q61
 obtain ⟨z72, hz73, st76, Q74, hl75⟩ := O70.freeze st68
 have Q77 := Q66.mono hz73.le
 have Q78 := Q71.mono hz73.le
 obtain ⟨y79, hy79, hr⟩ := bind_some hr
 refine SeqW.consX rfl (StepX.call (gCallee rfl rfl (args3 rfl rfl rfl)) ((c_rulebook_Check (z := z72) st76.fz st.dead Q78 Q74 (SlR.nil (T := (TInt 3 .i64))) hy79).mono ?_))
 rintro _ _ ⟨rfl, rfl⟩
 refine sx rfl (pMove (v := (Value.tuple [(vI y79.1), (vI y79.2.1), (vI y79.2.2)].toArray)) rfl rfl) ?_
 refine sx rfl (pExtract (vs := [(vI y79.1), (vI y79.2.1), (vI y79.2.2)]) (v := (vI y79.1)) rfl rfl rfl) ?_
 refine sx rfl (pExtract (vs := [(vI y79.1), (vI y79.2.1), (vI y79.2.2)]) (v := (vI y79.2.1)) rfl rfl rfl) ?_
 refine sx rfl (pExtract (vs := [(vI y79.1), (vI y79.2.1), (vI y79.2.2)]) (v := (vI y79.2.2)) rfl rfl rfl) ?_
 refine sx rfl (pAssign (v := (vI y79.1)) rfl rfl) ?_
 refine sx rfl (pAssign (v := (vI y79.2.1)) rfl rfl) ?_
 refine sx rfl (pAssign (v := (vI y79.2.2)) rfl rfl) ?_
 refine SeqW.done fun fr80 hf81 => ?_
 have h1 := (congrFun hf81 1).trans h1
 have h2 := (congrFun hf81 2).trans h2
 have h3 := (congrFun hf81 3).trans h3
 have h4 := (congrFun hf81 4).trans h4
 have h5 := (congrFun hf81 5).trans h5
 have h6 : fr80 6 = (vI y79.1) := (congrFun hf81 6).trans rfl
 have h7 : fr80 7 = (vI y79.2.1) := (congrFun hf81 7).trans rfl
 have h8 : fr80 8 = (vI y79.2.2) := (congrFun hf81 8).trans rfl
 clear hf81
 refine thenQ.n (W.seq (W.region ?_))
 refine sx rfl (pMove (v := V27) rfl h1) ?_
 obtain ⟨y82, hy82, hr⟩ := bind_some hr
 refine SeqW.consX rfl (kIdxO (T := TWagon) (xs := ([y3, y9, y15, y21] : List Wagon)) (n := 0) rfl Try.underlying24 Try.type36 rfl rfl rfl O29 hy82 ?_)
 intro B83 l84 c85 cs86 hv87 hd88 hg89 hc90
 have hd880 := hd88
 obtain rfl := hd880
 refine SeqW.consX rfl (kField rfl Try.underlying36 rfl Try.type3 rfl rfl rfl ?_)
 refine SeqW.consX rfl (kLoad (v := (vI y82.axles)) rfl Try.underlying3 rfl rfl (hc90 2 _ rfl) ?_)
 refine SeqW.consX rfl (kBuildS [(0, (vI 1)), (1, (vI 2)), (2, (vI y82.axles))] [(vI 1), (vI 2), (vI y82.axles), (vI 0), (vI 0)] rfl Try.underlying32 Try.type32 rfl rfl (places32 Try.underlying32) rfl (rfl) rfl ?_)
 refine sx rfl (pMove (v := V27) rfl h1) ?_
 obtain ⟨z91, hz92, st95, Q93, hl94⟩ := O29.freeze st
 have O96 := O37.zle hz92.le (hl94 _ (Ap.symm A41))
 obtain ⟨y97, hy97, hr⟩ := bind_some hr
 refine SeqW.consX rfl (StepX.call (gCallee rfl rfl (args3 rfl rfl rfl)) ((c_rulebook_Place (x0 := (Rule.mk 1 2 y82.axles 0 0)) (z := z91) st95.fz st.dead Q93 (SlR.nil (T := (TInt 3 .i64))) hy97).mono ?_))
 rintro _ _ ⟨rfl, rfl⟩
 refine sx rfl (pMove (v := (Value.tuple [(vI y97.1), (vI y97.2)].toArray)) rfl rfl) ?_
 refine sx rfl (pExtract (vs := [(vI y97.1), (vI y97.2)]) (v := (vI y97.1)) rfl rfl rfl) ?_
 refine sx rfl (pExtract (vs := [(vI y97.1), (vI y97.2)]) (v := (vI y97.2)) rfl rfl rfl) ?_
 refine sx rfl (pAssign (v := (vI y97.1)) rfl rfl) ?_
 refine sx rfl (pAssign (v := (vI y97.2)) rfl rfl) ?_
 refine SeqW.done fun fr98 hf99 => ?_
 have h2 := (congrFun hf99 2).trans h2
 have h3 := (congrFun hf99 3).trans h3
 have h4 := (congrFun hf99 4).trans h4
 have h5 := (congrFun hf99 5).trans h5
 have h6 := (congrFun hf99 6).trans h6
 have h7 := (congrFun hf99 7).trans h7
 have h8 := (congrFun hf99 8).trans h8
 have h9 : fr98 9 = (vI y97.1) := (congrFun hf99 9).trans rfl
 have h10 : fr98 10 = (vI y97.2) := (congrFun hf99 10).trans rfl
 clear hf99
 refine thenQ.n (W.seq ?_)
 obtain ⟨y165, hy165, hr⟩ := bind_some hr
 refine W.keep (u_l36_sane_0 (Zx.refl _) st h2 O37 h3 h4 h5 h6 h7 h8 h9 h10 hy165) ?_
 rintro ex171 fr166 m167 hk169 ⟨z168, hz170, st, rfl, h0, -⟩
 replace hz := hz.trans hz170
 clear hk169
 refine thenQ.n ?_
 refine W.ret ?_
 obtain rfl := Option.some.inj hr
 exact ⟨z168, hz, st, .inr rfl, h0, trivial⟩

theorem c_l36_sane {N : Nat} {z : Nat → Blk} {m : Mem} (fz : Fz z m) (hd : ∀ b, m.next ≤ b → m.blk b = .dead)  {r : Bool} (hr : l36_sane N  = some r) : CallW Try.prog 17 #[] m fun v m' => v = (vB r) ∧ m' = m := by
 refine CallW.flat Try.func17 rfl (by kernel_rfl) (Nat.le_of_ble_eq_true rfl) rfl (z := z) (fun fr hf => ?_)
 refine (u_l36_sane (k := none) (Zx.refl _) (St.start fz hd)  hr).mono ?_
 rintro ex fr' m' ⟨z', hz, st, he, h0, -⟩
 exact ⟨he, z', st, [(vB r)], ⟨h0.symm, trivial⟩, .inl rfl, rfl⟩

/-! ### humpyard/humpyardlaw36.RulebookFirst -/

theorem u_l36_RulebookFirst_1 {N : Nat}  {z0 z : Nat → Blk} {e m : Mem} {k : Option Nat} {fr : Nat → Value} {x5 : List Wagon} {x8 : Int} {x11 : Int} {v5 : Value} (hz : Zx e.next z0 z) (st : St z e m k) (h5 : fr 5 = v5) (o5 : OwF TWagon z e m k x5 v5) (h8 : fr 8 = (vI x8)) (h11 : fr 11 = (vI x11)) {r : Bool} (hr : l36_RulebookFirst_1 N x5 x8 x11 = some r) : W Try.prog (sub (bodyOf Try.f4) [1, 1, 1, 1, 1, 1, 0, 1, 0, 0, 1, 0, 0, 1, 1, 0, 1, 0, 0]) (fun ex fr' m' => ∃ z', Zx e.next z0 z' ∧ St z' e m' k ∧ ex = AExit.normal ∧ fr' 2 = (vB r) ∧ True) fr m := by
 unfold l36_RulebookFirst_1 at hr
 refine W.region ?_
 refine sx rfl (pMove (v := (vI x11)) rfl h11) ?_
 refine sx rfl (pMove (v := (vI x8)) rfl h8) ?_
 refine sx rfl (pEql (k := .i64) (a := x11) (b := x8) rfl rfl rfl) ?_
 refine sx rfl (pMove (v := (vB (x11 == x8))) rfl rfl) ?_
 rcases if_some hr with ⟨hc146, hr⟩ | ⟨hc158, hr⟩
 ·refine SeqW.consG rfl rfl rfl hc146 (StepX.pure (pMove (v := (vI x11)) rfl h11) ?_)
  refine SeqW.consG rfl rfl rfl hc146 (StepX.pure (pGeq (k := .i64) (a := x11) (b := 0) rfl rfl rfl) ?_)
  refine sx rfl (pPick (t := true) (v := (vB (decide (0 ≤ x11)))) rfl ((congrArg vB hc146)) rfl) ?_
  refine sx rfl (pMove (v := (vB (decide (0 ≤ x11)))) rfl rfl) ?_
  rcases if_some hr with ⟨hc147, hr⟩ | ⟨hc155, hr⟩
  ·refine SeqW.consG rfl rfl rfl hc147 (StepX.pure (pMove (v := (vI x11)) rfl h11) ?_)
   refine SeqW.consG rfl rfl rfl hc147 (StepX.pure (pMove (v := v5) rfl h5) ?_)
   refine SeqW.consG rfl rfl rfl hc147 (StepX.pure (pLenO (xs := x5) rfl Try.underlying24 rfl o5.ow) ?_)
   refine SeqW.consG rfl rfl rfl hc147 (StepX.pure (pLeq (k := .i64) (a := x11) (b := (x5.length : Int)) rfl rfl rfl) ?_)
   refine sx rfl (pPick (t := true) (v := (vB (decide (x11 ≤ (x5.length : Int))))) rfl ((congrArg vB hc147)) rfl) ?_
   refine sx rfl (pMove (v := (vB (decide (x11 ≤ (x5.length : Int))))) rfl rfl) ?_
   rcases if_some hr with ⟨hc148, hr⟩ | ⟨hc152, hr⟩
   ·obtain ⟨y149, hy149, hr⟩ := bind_some hr
    refine SeqW.consG rfl rfl rfl hc148 (StepX.call (gCallee rfl rfl args0) ((c_l36_sane (z := z) st.fz st.dead  hy149).mono ?_))
    rintro _ _ ⟨rfl, rfl⟩
    refine sx rfl (pPick (t := true) (v := (vB y149)) rfl ((congrArg vB hc148)) rfl) ?_
    refine sx rfl (pAssign (v := (vB y149)) rfl rfl) ?_
    refine SeqW.done fun fr150 hf151 => ?_
    have h2 : fr150 2 = (vB y149) := (congrFun hf151 2).trans rfl
    clear hf151
    obtain rfl := Option.some.inj hr
    exact ⟨z, hz, st, rfl, h2, trivial⟩
   ·refine kx rfl rfl rfl hc152 ?_
    refine sx rfl (pPick (t := false) (v := (vB false)) rfl ((congrArg vB hc152)) rfl) ?_
    refine sx rfl (pAssign (v := (vB false)) rfl rfl) ?_
    refine SeqW.done fun fr153 hf154 => ?_
    have h2 : fr153 2 = (vB false) := (congrFun hf154 2).trans rfl
    clear hf154
    obtain rfl := Option.some.inj hr
    exact ⟨z, hz, st, rfl, h2, trivial⟩
  ·refine kx rfl rfl rfl hc155 ?_
   iterate 3 refine kx rfl rfl rfl hc155 ?_
   refine sx rfl (pPick (t := false) (v := (vB false)) rfl ((congrArg vB hc155)) rfl) ?_
   refine sx rfl (pMove (v := (vB false)) rfl rfl) ?_
   refine kx rfl rfl rfl rfl ?_
   refine sx rfl (pPick (t := false) (v := (vB false)) rfl ((congrArg vB (rfl : false = false))) rfl) ?_
   refine sx rfl (pAssign (v := (vB false)) rfl rfl) ?_
   refine SeqW.done fun fr156 hf157 => ?_
   have h2 : fr156 2 = (vB false) := (congrFun hf157 2).trans rfl
   clear hf157
   obtain rfl := Option.some.inj hr
   exact ⟨z, hz, st, rfl, h2, trivial⟩
 ·refine kx rfl rfl rfl hc158 ?_
  refine kx rfl rfl rfl hc158 ?_
  refine sx rfl (pPick (t := false) (v := (vB false)) rfl ((congrArg vB hc158)) rfl) ?_
  refine sx rfl (pMove (v := (vB false)) rfl rfl) ?_
  iterate 4 refine kx rfl rfl rfl rfl ?_
  refine sx rfl (pPick (t := false) (v := (vB false)) rfl ((congrArg vB (rfl : false = false))) rfl) ?_
  refine sx rfl (pMove (v := (vB false)) rfl rfl) ?_
  refine kx rfl rfl rfl rfl ?_
  refine sx rfl (pPick (t := false) (v := (vB false)) rfl ((congrArg vB (rfl : false = false))) rfl) ?_
  refine sx rfl (pAssign (v := (vB false)) rfl rfl) ?_
  refine SeqW.done fun fr159 hf160 => ?_
  have h2 : fr159 2 = (vB false) := (congrFun hf160 2).trans rfl
  clear hf160
  obtain rfl := Option.some.inj hr
  exact ⟨z, hz, st, rfl, h2, trivial⟩

theorem u_l36_RulebookFirst_0 : ∀ (n : Nat) {N : Nat}  {z0 z : Nat → Blk} {e m : Mem} {k : Option Nat} {fr : Nat → Value} {x4 : List Rule} {x5 : List Wagon} {x6 : List Int} {x7 : Int} {x8 : Int} {x10 : Int} {v4 : Value} {v5 : Value} {v6 : Value} (hz : Zx e.next z0 z) (st : St z e m k) (h4 : fr 4 = v4) (o4 : OwF TRule z e m k x4 v4) (h5 : fr 5 = v5) (o5 : OwF TWagon z e m k x5 v5) (h6 : fr 6 = v6) (o6 : OwF (TInt 3 .i64) z e m k x6 v6) (h7 : fr 7 = (vI x7)) (h8 : fr 8 = (vI x8)) (h10 : fr 10 = (vI x10)) (ao4_o5 : Ap (blkOf v4) (blkOf v5)) (ao4_o6 : Ap (blkOf v4) (blkOf v6)) (ao5_o6 : Ap (blkOf v5) (blkOf v6)) {r : Sum (Unit) (Bool)} (hr : l36_RulebookFirst_0 N x4 x5 x6 x7 x8 n x10 = some r), W Try.prog (sub (bodyOf Try.f4) [1, 1, 1, 1, 1, 1, 0, 1, 0]) (fun ex fr' m' => ∃ z', Zx e.next z0 z' ∧ St z' e m' k ∧ ((∃ q, r = Sum.inl q ∧ ex = AExit.exit 0 ∧ True) ∨ (∃ q, r = Sum.inr q ∧ ex = AExit.ret ∧ fr' 2 = (vB q) ∧ True))) fr m := by
 intro n
 induction n with
 | zero => intro N z0 z e m k fr x4 x5 x6 x7 x8 x10 v4 v5 v6 hz st h4 o4 h5 o5 h6 o6 h7 h8 h10 ao4_o5 ao4_o6 ao5_o6 r hr; cases (show (none : Option _) = some r from hr)
 | succ n ih =>
  intro N z0 z e m k fr x4 x5 x6 x7 x8 x10 v4 v5 v6 hz st h4 o4 h5 o5 h6 o6 h7 h8 h10 ao4_o5 ao4_o6 ao5_o6 r hr
  unfold l36_RulebookFirst_0 at hr
  refine W.loop1 ?_
  refine W.seq (W.seq (W.region ?_))
  refine sx rfl (pMove (v := (vI x10)) rfl h10) ?_
  refine sx rfl (pMove (v := v4) rfl h4) ?_
  refine sx rfl (pLenO (xs := x4) rfl Try.underlying23 rfl o4.ow) ?_
  refine sx rfl (pLss (k := .i64) (a := x10) (b := (x4.length : Int)) rfl rfl rfl) ?_
  refine SeqW.done fun fr99 hf100 => ?_
  have h4 := (congrFun hf100 4).trans h4
  have h5 := (congrFun hf100 5).trans h5
  have h6 := (congrFun hf100 6).trans h6
  have h7 := (congrFun hf100 7).trans h7
  have h8 := (congrFun hf100 8).trans h8
  have h10 := (congrFun hf100 10).trans h10
  have h36 : fr99 36 = (vB (decide (x10 < (x4.length : Int)))) := (congrFun hf100 36).trans rfl
  clear hf100
  refine thenQ.n ?_
  rcases if_some hr with ⟨hc101, hr⟩ | ⟨hc178, hr⟩
  ·refine W.condT h36 hc101 (W.skip ?_)
   refine thenQ.n (W.seq ?_)
   refine W.block ?_
   refine W.seq (W.region ?_)
   refine sx rfl (pMove (v := v4) rfl h4) ?_
   refine sx rfl (pMove (v := (vI x10)) rfl h10) ?_
   obtain ⟨y102, hy102, hr⟩ := bind_some hr
   refine SeqW.consX rfl (kIdxO (T := TRule) (xs := x4) (n := x10) rfl Try.underlying23 Try.type32 rfl rfl rfl o4 hy102 ?_)
   intro B103 l104 c105 cs106 hv107 hd108 hg109 hc110
   have hd1080 := hd108
   obtain rfl := hd1080
   refine SeqW.consX rfl (kLoadA rfl Try.underlying32 rfl Try.type32 rfl rfl hc110 ?_)
   refine sx rfl (pMove (v := v5) rfl h5) ?_
   refine sx rfl (pMove (v := v6) rfl h6) ?_
   obtain ⟨z111, hz112, st115, Q113, hl114⟩ := o5.freeze st
   have O116 := o4.zle hz112.le (hl114 _ ao4_o5)
   have O117 := o6.zle hz112.le (hl114 _ (Ap.symm ao5_o6))
   obtain ⟨z118, hz119, st122, Q120, hl121⟩ := O117.freeze st115
   have O123 := O116.zle hz119.le (hl121 _ ao4_o6)
   have Q124 := Q113.mono hz119.le
   obtain ⟨y125, hy125, hr⟩ := bind_some hr
   refine SeqW.consX rfl (StepX.call (gCallee rfl rfl (args3 rfl rfl rfl)) ((c_rulebook_Place (x0 := y102) (z := z118) st122.fz st.dead Q124 Q120 hy125).mono ?_))
   rintro _ _ ⟨rfl, rfl⟩
   refine sx rfl (pMove (v := (Value.tuple [(vI y125.1), (vI y125.2)].toArray)) rfl rfl) ?_
   refine sx rfl (pExtract (vs := [(vI y125.1), (vI y125.2)]) (v := (vI y125.1)) rfl rfl rfl) ?_
   refine sx rfl (pExtract (vs := [(vI y125.1), (vI y125.2)]) (v := (vI y125.2)) rfl rfl rfl) ?_
   refine sx rfl (pAssign (v := (vI y125.1)) rfl rfl) ?_
   refine sx rfl (pAssign (v := (vI y125.2)) rfl rfl) ?_
   refine SeqW.done fun fr126 hf127 => ?_
   have h4 := (congrFun hf127 4).trans h4
   have h5 := (congrFun hf127 5).trans h5
   have h6 := (congrFun hf127 6).trans h6
   have h7 := (congrFun hf127 7).trans h7
   have h8 := (congrFun hf127 8).trans h8
   have h10 := (congrFun hf127 10).trans h10
   have h11 : fr126 11 = (vI y125.1) := (congrFun hf127 11).trans rfl
   have h12 : fr126 12 = (vI y125.2) := (congrFun hf127 12).trans rfl
   clear hf127
   refine thenQ.n (W.seq ?_)
   refine W.seq (W.region ?_)
   refine sx rfl (pMove (v := (vI y125.2)) rfl h12) ?_
   refine sx rfl (pNeq (k := .i64) (a := y125.2) (b := 0) rfl rfl rfl) ?_
   refine SeqW.done fun fr128 hf129 => ?_
   have h4 := (congrFun hf129 4).trans h4
   have h5 := (congrFun hf129 5).trans h5
   have h6 := (congrFun hf129 6).trans h6
   have h7 := (congrFun hf129 7).trans h7
   have h8 := (congrFun hf129 8).trans h8
   have h10 := (congrFun hf129 10).trans h10
   have h11 := (congrFun hf129 11).trans h11
   have h50 : fr128 50 = (vB (y125.2 != 0)) := (congrFun hf129 50).trans rfl
   clear hf129
   refine thenQ.n ?_
   rcases if_some hr with ⟨hc130, hr⟩ | ⟨hc133, hr⟩
   ·refine W.condT h50 hc130 (W.seq (W.region ?_))
    refine sx rfl (pAssign (v := (vB false)) rfl rfl) ?_
    refine SeqW.done fun fr131 hf132 => ?_
    have h2 : fr131 2 = (vB false) := (congrFun hf132 2).trans rfl
    clear hf132
    refine thenQ.n ?_
    refine W.ret ?_
    refine thenQ.r ?_
    refine blockQ.r ?_
    refine thenQ.r ?_
    refine thenQ.r ?_
    obtain rfl := Option.some.inj hr
    exact ⟨z, hz, st, .inr ⟨_, rfl, rfl, h2, trivial⟩⟩
   ·refine W.condF h50 hc133 (W.skip ?_)
    refine thenQ.n (W.seq ?_)
    refine W.seq (W.region ?_)
    refine sx rfl (pMove (v := v4) rfl h4) ?_
    refine sx rfl (pMove (v := (vI x10)) rfl h10) ?_
    obtain ⟨y134, hy134, hr⟩ := bind_some hr
    refine SeqW.consX rfl (kIdxO (T := TRule) (xs := x4) (n := x10) rfl Try.underlying23 Try.type32 rfl rfl rfl o4 hy134 ?_)
    intro B135 l136 c137 cs138 hv139 hd140 hg141 hc142
    have hd1400 := hd140
    obtain rfl := hd1400
    refine SeqW.consX rfl (kField rfl Try.underlying32 rfl Try.type3 rfl rfl rfl ?_)
    refine SeqW.consX rfl (kLoad (v := (vI y134.number)) rfl Try.underlying3 rfl rfl (hc142 0 _ rfl) ?_)
    refine sx rfl (pMove (v := (vI x7)) rfl h7) ?_
    refine sx rfl (pEql (k := .i64) (a := y134.number) (b := x7) rfl rfl rfl) ?_
    refine SeqW.done fun fr143 hf144 => ?_
    have h4 := (congrFun hf144 4).trans h4
    have h5 := (congrFun hf144 5).trans h5
    have h6 := (congrFun hf144 6).trans h6
    have h7 := (congrFun hf144 7).trans h7
    have h8 := (congrFun hf144 8).trans h8
    have h10 := (congrFun hf144 10).trans h10
    have h11 := (congrFun hf144 11).trans h11
    have h57 : fr143 57 = (vB (y134.number == x7)) := (congrFun hf144 57).trans rfl
    clear hf144
    refine thenQ.n ?_
    rcases if_some hr with ⟨hc145, hr⟩ | ⟨hc168, hr⟩
    ·refine W.condT h57 hc145 (W.seq ?_)
     obtain ⟨y161, hy161, hr⟩ := bind_some hr
     refine W.keep (u_l36_RulebookFirst_1 (Zx.refl _) st h5 o5 h8 h11 hy161) ?_
     rintro ex167 fr162 m163 hk165 ⟨z164, hz166, st, rfl, h2, -⟩
     replace hz := hz.trans hz166
     clear hk165
     refine thenQ.n ?_
     refine W.ret ?_
     refine thenQ.r ?_
     refine blockQ.r ?_
     refine thenQ.r ?_
     refine thenQ.r ?_
     obtain rfl := Option.some.inj hr
     exact ⟨z164, hz, st, .inr ⟨_, rfl, rfl, h2, trivial⟩⟩
    ·refine W.condF h57 hc168 (W.skip ?_)
     refine thenQ.n (W.seq (W.region ?_))
     refine sx rfl (pMove (v := (vI y125.1)) rfl h11) ?_
     refine sx rfl (pNeq (k := .i64) (a := y125.1) (b := (-1)) rfl rfl rfl) ?_
     refine SeqW.done fun fr169 hf170 => ?_
     have h4 := (congrFun hf170 4).trans h4
     have h5 := (congrFun hf170 5).trans h5
     have h6 := (congrFun hf170 6).trans h6
     have h7 := (congrFun hf170 7).trans h7
     have h8 := (congrFun hf170 8).trans h8
     have h10 := (congrFun hf170 10).trans h10
     have h75 : fr169 75 = (vB (y125.1 != (-1))) := (congrFun hf170 75).trans rfl
     clear hf170
     refine thenQ.n ?_
     rcases if_some hr with ⟨hc171, hr⟩ | ⟨hc174, hr⟩
     ·refine W.condT h75 hc171 (W.seq (W.region ?_))
      refine sx rfl (pAssign (v := (vB false)) rfl rfl) ?_
      refine SeqW.done fun fr172 hf173 => ?_
      have h2 : fr172 2 = (vB false) := (congrFun hf173 2).trans rfl
      clear hf173
      refine thenQ.n ?_
      refine W.ret ?_
      refine blockQ.r ?_
      refine thenQ.r ?_
      refine thenQ.r ?_
      obtain rfl := Option.some.inj hr
      exact ⟨z, hz, st, .inr ⟨_, rfl, rfl, h2, trivial⟩⟩
     ·refine W.condF h75 hc174 (W.skip ?_)
      refine blockQ.n ?_
      refine thenQ.n (W.region ?_)
      refine sx rfl (pMove (v := (vI x10)) rfl h10) ?_
      refine sx rfl (pAdd (k := .i64) (a := x10) (b := 1) rfl rfl rfl) ?_
      obtain ⟨y175, hy175, hr⟩ := lt_some hr
      refine sx rfl (pAssign rfl (congrArg (Value.int .i64) hy175)) ?_
      refine SeqW.done fun fr176 hf177 => ?_
      have h4 := (congrFun hf177 4).trans h4
      have h5 := (congrFun hf177 5).trans h5
      have h6 := (congrFun hf177 6).trans h6
      have h7 := (congrFun hf177 7).trans h7
      have h8 := (congrFun hf177 8).trans h8
      have h10 : fr176 10 = (vI y175) := (congrFun hf177 10).trans rfl
      clear hf177
      refine thenQ.n ?_
      exact ih hz st h4 o4 h5 o5 h6 o6 h7 h8 h10 ao4_o5 ao4_o6 ao5_o6 hr
  ·refine W.condF h36 hc178 ?_
   refine W.exit ?_
   refine thenQ.x ?_
   refine thenQ.x ?_
   obtain rfl := Option.some.inj hr
   exact ⟨z, hz, st, .inl ⟨_, rfl, rfl, trivial⟩⟩

theorem u_l36_RulebookFirst_2 {N : Nat}  {z0 z : Nat → Blk} {e m : Mem} {k : Option Nat} {fr : Nat → Value} {x7 : Int} {x8 : Int} (hz : Zx e.next z0 z) (st : St z e m k) (h7 : fr 7 = (vI x7)) (h8 : fr 8 = (vI x8)) {r : Bool} (hr : l36_RulebookFirst_2 N x7 x8 = some r) : W Try.prog (sub (bodyOf Try.f4) [1, 1, 1, 1, 1, 1, 1, 0]) (fun ex fr' m' => ∃ z', Zx e.next z0 z' ∧ St z' e m' k ∧ ex = AExit.normal ∧ fr' 2 = (vB r) ∧ True) fr m := by
 unfold l36_RulebookFirst_2 at hr
 refine W.region ?_
 refine sx rfl (pMove (v := (vI x7)) rfl h7) ?_
 refine sx rfl (pEql (k := .i64) (a := x7) (b := 0) rfl rfl rfl) ?_
 refine sx rfl (pMove (v := (vB (x7 == 0))) rfl rfl) ?_
 rcases if_some hr with ⟨hc187, hr⟩ | ⟨hc195, hr⟩
 ·refine SeqW.consG rfl rfl rfl hc187 (StepX.pure (pMove (v := (vI x8)) rfl h8) ?_)
  refine SeqW.consG rfl rfl rfl hc187 (StepX.pure (pEql (k := .i64) (a := x8) (b := (-1)) rfl rfl rfl) ?_)
  refine sx rfl (pPick (t := true) (v := (vB (x8 == (-1)))) rfl ((congrArg vB hc187)) rfl) ?_
  refine sx rfl (pMove (v := (vB (x8 == (-1)))) rfl rfl) ?_
  rcases if_some hr with ⟨hc188, hr⟩ | ⟨hc192, hr⟩
  ·obtain ⟨y189, hy189, hr⟩ := bind_some hr
   refine SeqW.consG rfl rfl rfl hc188 (StepX.call (gCallee rfl rfl args0) ((c_l36_sane (z := z) st.fz st.dead  hy189).mono ?_))
   rintro _ _ ⟨rfl, rfl⟩
   refine sx rfl (pPick (t := true) (v := (vB y189)) rfl ((congrArg vB hc188)) rfl) ?_
   refine sx rfl (pAssign (v := (vB y189)) rfl rfl) ?_
   refine SeqW.done fun fr190 hf191 => ?_
   have h2 : fr190 2 = (vB y189) := (congrFun hf191 2).trans rfl
   clear hf191
   obtain rfl := Option.some.inj hr
   exact ⟨z, hz, st, rfl, h2, trivial⟩
  ·refine kx rfl rfl rfl hc192 ?_
   refine sx rfl (pPick (t := false) (v := (vB false)) rfl ((congrArg vB hc192)) rfl) ?_
   refine sx rfl (pAssign (v := (vB false)) rfl rfl) ?_
   refine SeqW.done fun fr193 hf194 => ?_
   have h2 : fr193 2 = (vB false) := (congrFun hf194 2).trans rfl
   clear hf194
   obtain rfl := Option.some.inj hr
   exact ⟨z, hz, st, rfl, h2, trivial⟩
 ·refine kx rfl rfl rfl hc195 ?_
  refine kx rfl rfl rfl hc195 ?_
  refine sx rfl (pPick (t := false) (v := (vB false)) rfl ((congrArg vB hc195)) rfl) ?_
  refine sx rfl (pMove (v := (vB false)) rfl rfl) ?_
  refine kx rfl rfl rfl rfl ?_
  refine sx rfl (pPick (t := false) (v := (vB false)) rfl ((congrArg vB (rfl : false = false))) rfl) ?_
  refine sx rfl (pAssign (v := (vB false)) rfl rfl) ?_
  refine SeqW.done fun fr196 hf197 => ?_
  have h2 : fr196 2 = (vB false) := (congrFun hf197 2).trans rfl
  clear hf197
  obtain rfl := Option.some.inj hr
  exact ⟨z, hz, st, rfl, h2, trivial⟩

theorem u_l36_RulebookFirst {N : Nat}  {z0 z : Nat → Blk} {e m : Mem} {k : Option Nat} {fr : Nat → Value} {x0 : List Int} {v0 : Value} (hz : Zx e.next z0 z) (st : St z e m k) (h0 : fr 0 = v0) (s0 : SlR (TInt 3 .i64) z x0 v0) {r : Bool} (hr : l36_RulebookFirst N x0 = some r) : W Try.prog (sub (bodyOf Try.f4) []) (fun ex fr' m' => ∃ z', Zx e.next z0 z' ∧ St z' e m' k ∧ (ex = .normal ∨ ex = .ret) ∧ fr' 2 = (vB r) ∧ True) fr m := by
 unfold l36_RulebookFirst at hr
 refine W.seq (W.region ?_)
 refine sx rfl (pAssign (v := (vB false)) rfl rfl) ?_
 refine SeqW.done fun fr1 hf2 => ?_
 have h0 := (congrFun hf2 0).trans h0
 clear hf2
 refine thenQ.n (W.seq (W.region ?_))
 refine sx rfl (pMove (v := v0) rfl h0) ?_
 obtain ⟨y3, hy3, hr⟩ := bind_some hr
 refine SeqW.consX rfl (StepX.call (gCallee rfl rfl (args1 rfl)) ((c_gen_New (z := z) st.fz st.dead s0 hy3).mono ?_))
 rintro _ m8 ⟨z4, B9, V12, hzx5, fz6, sm7, rfl, Q13, X10, hn15, -⟩
 replace s0 := s0.mono hzx5.le
 have X10 : Bx z4 e m8 k B9 _ _ := ⟨X10.blk, X10.lt, X10.dead, .inl (Nat.le_trans st.next hn15)⟩
 replace hz := hz.trans (Zx.here st hzx5)
 replace st := st.call hzx5 fz6 sm7 no_hq
 refine sx rfl (pAssign (v := (vP B9)) rfl rfl) ?_
 refine SeqW.done fun fr16 hf17 => ?_
 have h3 : fr16 3 = (vP B9) := (congrFun hf17 3).trans rfl
 clear hf17
 refine thenQ.n (W.seq (W.region ?_))
 refine sx rfl (pMove (v := (vP B9)) rfl h3) ?_
 obtain ⟨y18, hy18, hr⟩ := bind_some hr
 refine SeqW.consX rfl (StepX.call (gCallee rfl rfl (args2 rfl rfl)) ((c_yardgen_Rules (x0 := y3) (z := z4) st.fz st.dead Q13 ⟨X10.blk, X10.lt, X10.dead, .inr rfl⟩ hy18).mono ?_))
 rintro V24 m23 ⟨z19, _, V27, hzx20, fz21, sm22, rfl, Q25, Q28, X30, -⟩
 have A31 := Ap.own X10.lt' Q25.fresh
 replace Q13 := Q13.mono hzx20.le
 have X10n : Bx z19 e m23 k B9 _ _ := ⟨X30.blk, X30.lt, X30.dead, X10.fresh⟩
 have Q25 : OwF TRule z19 e m23 k y18.1 V24 := Q25.up st.next
 replace hz := hz.trans (Zx.here st hzx20)
 replace st := st.call hzx20 fz21 sm22 X10.hq
 refine sx rfl (pMove (v := (vP B9)) rfl h3) ?_
 obtain ⟨y32, hy32, hr⟩ := bind_some hr
 refine SeqW.consX rfl (StepX.call (gCallee rfl rfl (args2 rfl rfl)) ((c_Maker_Wagons (x0 := y18.2) (z := z19) st.fz st.dead Q28 ⟨X10n.blk, X10n.lt, X10n.dead, .inr rfl⟩ hy32).mono ?_))
 rintro V38 m37 ⟨z33, _, V41, hzx34, fz35, sm36, rfl, Q39, Q42, X44, -⟩
 have A45 := Ap.own X10n.lt' Q39.fresh
 have A46 := Ap.own Q25.lt Q39.fresh
 replace Q25 := Q25.call hzx34 sm36 (Ap.symm A31)
 replace Q28 := Q28.mono hzx34.le
 have X10nn : Bx z33 e m37 k B9 _ _ := ⟨X44.blk, X44.lt, X44.dead, X10n.fresh⟩
 have Q39 : OwF TWagon z33 e m37 k y32.1 V38 := Q39.up st.next
 replace hz := hz.trans (Zx.here st hzx34)
 replace st := st.call hzx34 fz35 sm36 X10n.hq
 refine sx rfl (pAssign (v := V24) rfl rfl) ?_
 refine sx rfl (pAssign (v := V38) rfl rfl) ?_
 refine SeqW.done fun fr47 hf48 => ?_
 have h3 := (congrFun hf48 3).trans h3
 have h4 : fr47 4 = V24 := (congrFun hf48 4).trans rfl
 have h5 : fr47 5 = V38 := (congrFun hf48 5).trans rfl
 clear hf48
 refine thenQ.n (W.seq (W.region ?_))
 refine sx rfl (pMove (v := (vP B9)) rfl h3) ?_
 refine sx rfl (pMove (v := V38) rfl h5) ?_
 refine sx rfl (pLenO (xs := y32.1) rfl Try.underlying24 rfl Q39.ow) ?_
 obtain ⟨y49, hy49, hr⟩ := bind_some hr
 refine SeqW.consX rfl (StepX.call (gCallee rfl rfl (args2 rfl rfl)) ((c_yardgen_Off (x0 := y32.2) (z := z33) st.fz st.dead Q42 ⟨X10nn.blk, X10nn.lt, X10nn.dead, .inr rfl⟩ hy49).mono ?_))
 rintro V55 m54 ⟨z50, _, V58, hzx51, fz52, sm53, rfl, Q56, Q59, X61, -⟩
 have A62 := Ap.own X10nn.lt' Q56.fresh
 have A63 := Ap.own Q25.lt Q56.fresh
 have A64 := Ap.own Q39.lt Q56.fresh
 replace Q25 := Q25.call hzx51 sm53 (Ap.symm A31)
 replace Q39 := Q39.call hzx51 sm53 (Ap.symm A45)
 replace Q42 := Q42.mono hzx51.le
 have X10nnn : Bx z50 e m54 k B9 _ _ := ⟨X61.blk, X61.lt, X61.dead, X10nn.fresh⟩
 have Q56 : OwF (TInt 3 .i64) z50 e m54 k y49.1 V55 := Q56.up st.next
 replace hz := hz.trans (Zx.here st hzx51)
 replace st := st.call hzx51 fz52 sm53 X10nn.hq
 refine sx rfl (pAssign (v := V55) rfl rfl) ?_
 refine SeqW.done fun fr65 hf66 => ?_
 have h4 := (congrFun hf66 4).trans h4
 have h5 := (congrFun hf66 5).trans h5
 have h6 : fr65 6 = V55 := (congrFun hf66 6).trans rfl
 clear hf66
 refine thenQ.n (W.seq (W.region ?_))
 refine sx rfl (pMove (v := V24) rfl h4) ?_
 refine sx rfl (pMove (v := V38) rfl h5) ?_
 refine sx rfl (pMove (v := V55) rfl h6) ?_
 obtain ⟨z67, hz68, st71, Q69, hl70⟩ := Q25.freeze st
 have O72 := Q39.zle hz68.le (hl70 _ (Ap.symm A46))
 have O73 := Q56.zle hz68.le (hl70 _ (Ap.symm A63))
 obtain ⟨z74, hz75, st78, Q76, hl77⟩ := O72.freeze st71
 have Q79 := Q69.mono hz75.le
 have O80 := O73.zle hz75.le (hl77 _ (Ap.symm A64))
 obtain ⟨z81, hz82, st85, Q83, hl84⟩ := O80.freeze st78
 have Q86 := Q79.mono hz82.le
 have Q87 := Q76.mono hz82.le
 obtain ⟨y88, hy88, hr⟩ := bind_some hr
 refine SeqW.consX rfl (StepX.call (gCallee rfl rfl (args3 rfl rfl rfl)) ((c_rulebook_Check (z := z81) st85.fz st.dead Q86 Q87 Q83 hy88).mono ?_))
 rintro _ _ ⟨rfl, rfl⟩
 refine sx rfl (pMove (v := (Value.tuple [(vI y88.1), (vI y88.2.1), (vI y88.2.2)].toArray)) rfl rfl) ?_
 refine sx rfl (pExtract (vs := [(vI y88.1), (vI y88.2.1), (vI y88.2.2)]) (v := (vI y88.1)) rfl rfl rfl) ?_
 refine sx rfl (pExtract (vs := [(vI y88.1), (vI y88.2.1), (vI y88.2.2)]) (v := (vI y88.2.1)) rfl rfl rfl) ?_
 refine sx rfl (pExtract (vs := [(vI y88.1), (vI y88.2.1), (vI y88.2.2)]) (v := (vI y88.2.2)) rfl rfl rfl) ?_
 refine sx rfl (pAssign (v := (vI y88.1)) rfl rfl) ?_
 refine sx rfl (pAssign (v := (vI y88.2.1)) rfl rfl) ?_
 refine sx rfl (pAssign (v := (vI y88.2.2)) rfl rfl) ?_
 refine SeqW.done fun fr89 hf90 => ?_
 have h4 := (congrFun hf90 4).trans h4
 have h5 := (congrFun hf90 5).trans h5
 have h6 := (congrFun hf90 6).trans h6
 have h7 : fr89 7 = (vI y88.1) := (congrFun hf90 7).trans rfl
 have h8 : fr89 8 = (vI y88.2.1) := (congrFun hf90 8).trans rfl
 have h9 : fr89 9 = (vI y88.2.2) := (congrFun hf90 9).trans rfl
 clear hf90
 refine thenQ.n (W.seq ?_)
 refine W.seq (W.region ?_)
 refine sx rfl (pMove (v := (vI y88.2.2)) rfl h9) ?_
 refine sx rfl (pNeq (k := .i64) (a := y88.2.2) (b := 0) rfl rfl rfl) ?_
 refine SeqW.done fun fr91 hf92 => ?_
 have h4 := (congrFun hf92 4).trans h4
 have h5 := (congrFun hf92 5).trans h5
 have h6 := (congrFun hf92 6).trans h6
 have h7 := (congrFun hf92 7).trans h7
 have h8 := (congrFun hf92 8).trans h8
 have h32 : fr91 32 = (vB (y88.2.2 != 0)) := (congrFun hf92 32).trans rfl
 clear hf92
 refine thenQ.n ?_
 rcases if_some hr with ⟨hc93, hr⟩ | ⟨hc96, hr⟩
 ·refine W.condT h32 hc93 (W.seq (W.region ?_))
  refine sx rfl (pAssign (v := (vB false)) rfl rfl) ?_
  refine SeqW.done fun fr94 hf95 => ?_
  have h2 : fr94 2 = (vB false) := (congrFun hf95 2).trans rfl
  clear hf95
  refine thenQ.n ?_
  refine W.ret ?_
  refine thenQ.r ?_
  obtain rfl := Option.some.inj hr
  exact ⟨z50, hz, st, .inr rfl, h2, trivial⟩
 ·refine W.condF h32 hc96 (W.skip ?_)
  refine thenQ.n (W.seq ?_)
  refine W.seq (W.region ?_)
  refine sx rfl (pAssign (v := (vI 0)) rfl rfl) ?_
  refine SeqW.done fun fr97 hf98 => ?_
  have h4 := (congrFun hf98 4).trans h4
  have h5 := (congrFun hf98 5).trans h5
  have h6 := (congrFun hf98 6).trans h6
  have h7 := (congrFun hf98 7).trans h7
  have h8 := (congrFun hf98 8).trans h8
  have h10 : fr97 10 = (vI 0) := (congrFun hf98 10).trans rfl
  clear hf98
  refine thenQ.n ?_
  refine W.block ?_
  obtain ⟨y179, hy179, hr⟩ := bind_some hr
  refine W.keep (u_l36_RulebookFirst_0 _ (Zx.refl _) st h4 Q25 h5 Q39 h6 Q56 h7 h8 h10 A46 A63 A64 hy179) ?_
  rintro ex185 fr180 m181 hk183 ⟨z182, hz184, st, ⟨y186, rfl, rfl, -⟩ | ⟨y205, rfl, rfl, h2, -⟩⟩
  ·dsimp only at hr
   have h7 := (hk183 7 rfl).trans h7
   have h8 := (hk183 8 rfl).trans h8
   replace hz := hz.trans hz184
   clear hk183
   refine blockQ.hit ?_
   refine thenQ.n (W.seq ?_)
   obtain ⟨y198, hy198, hr⟩ := bind_some hr
   refine W.keep (u_l36_RulebookFirst_2 (Zx.refl _) st h7 h8 hy198) ?_
   rintro ex204 fr199 m200 hk202 ⟨z201, hz203, st, rfl, h2, -⟩
   replace hz := hz.trans hz203
   clear hk202
   refine thenQ.n ?_
   refine W.ret ?_
   obtain rfl := Option.some.inj hr
   exact ⟨z201, hz, st, .inr rfl, h2, trivial⟩
  ·dsimp only at hr
   replace hz := hz.trans hz184
   clear hk183
   refine blockQ.r ?_
   refine thenQ.r ?_
   obtain rfl := Option.some.inj hr
   exact ⟨z182, hz, st, .inr rfl, h2, trivial⟩

theorem c_l36_RulebookFirst {N : Nat} {z : Nat → Blk} {m : Mem} {x0 : List Int} {v0 : Value} (fz : Fz z m) (hd : ∀ b, m.next ≤ b → m.blk b = .dead) (s0 : SlR (TInt 3 .i64) z x0 v0) {r : Bool} (hr : l36_RulebookFirst N x0 = some r) : CallW Try.prog 4 #[v0] m fun v m' => v = (vB r) ∧ m' = m := by
 refine CallW.flat Try.func4 rfl (by kernel_rfl) (Nat.le_of_ble_eq_true rfl) rfl (z := z) (fun fr hf => ?_)
 have h0 : fr 0 = _ := hf 0 _ rfl
 refine (u_l36_RulebookFirst (k := none) (Zx.refl _) (St.start fz hd) h0 s0 hr).mono ?_
 rintro ex fr' m' ⟨z', hz, st, he, h2, -⟩
 exact ⟨he, z', st, [(vB r)], ⟨h2.symm, trivial⟩, .inl rfl, rfl⟩

end Go.W
