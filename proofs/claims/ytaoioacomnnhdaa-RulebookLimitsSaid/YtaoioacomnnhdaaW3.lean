/- The models are what the program computes. -/
import Derived.Test.YtaoioacomnnhdaaW2
set_option linter.unusedVariables false
set_option linter.unusedSimpArgs false
set_option maxRecDepth 100000
set_option maxHeartbeats 4000000
namespace Go.W
open Go.AM Go.Proofs


/-! ### humpyard/rulebook.Place -/

theorem u_rulebook_Place {N : Nat}  {z0 z : Nat → Blk} {e m : Mem} {k : Option Nat} {fr : Nat → Value} {x0 : Rule} {x1 : List Wagon} {x2 : List Int} {v1 : Value} {v2 : Value} (hz : Zx e.next z0 z) (st : St z e m k) (h0 : fr 0 = (Value.agg [(vI x0.number), (vI x0.kind), (vI x0.a), (vI x0.b), (vI x0.c)].toArray)) (h1 : fr 1 = v1) (s1 : SlR TWagon z x1 v1) (h2 : fr 2 = v2) (s2 : SlR (TInt 3 .i64) z x2 v2) {r : Int × Int} (hr : rulebook_Place N x0 x1 x2 = some r) : W Try.prog (sub (bodyOf Try.f19) []) (fun ex fr' m' => ∃ z', Zx e.next z0 z' ∧ St z' e m' k ∧ (ex = .normal ∨ ex = .ret) ∧ fr' 6 = (vI r.1) ∧ fr' 7 = (vI r.2) ∧ True) fr m := by
 unfold rulebook_Place at hr
 refine W.seq (W.region ?_)
 refine SeqW.consX rfl (kBox (v := (Value.agg [(vI x0.number), (vI x0.kind), (vI x0.a), (vI x0.b), (vI x0.c)].toArray)) rfl Try.type32 h0 rfl [(vI x0.number), (vI x0.kind), (vI x0.a), (vI x0.b), (vI x0.c)] rfl rfl st ?_)
 intro B1 m2  st X3 sm4 hap5
 refine sx rfl (pAssign (v := (vI 0)) rfl rfl) ?_
 refine sx rfl (pAssign (v := (vI 0)) rfl rfl) ?_
 refine SeqW.done fun fr7 hf8 => ?_
 have h1 := (congrFun hf8 1).trans h1
 have h2 := (congrFun hf8 2).trans h2
 have h3 : fr7 3 = (vP B1) := (congrFun hf8 3).trans rfl
 clear hf8
 refine thenQ.n (W.seq ?_)
 refine W.seq (W.region ?_)
 refine SeqW.consX rfl (kLoadA rfl Try.underlying32 rfl Try.type32 rfl h3 X3.loads ?_)
 obtain ⟨y9, hy9, hr⟩ := bind_some hr
 refine SeqW.consX rfl (StepX.call (gCallee rfl rfl (args1 rfl)) ((c_rulebook_valid (x0 := x0) (z := z) st.fz st.dead  hy9).mono ?_))
 rintro _ _ ⟨rfl, rfl⟩
 refine sx rfl (pNot (b := y9) rfl rfl) ?_
 refine SeqW.done fun fr10 hf11 => ?_
 have h1 := (congrFun hf11 1).trans h1
 have h2 := (congrFun hf11 2).trans h2
 have h3 := (congrFun hf11 3).trans h3
 have h12 : fr10 12 = (vB (!y9)) := (congrFun hf11 12).trans rfl
 clear hf11
 refine thenQ.n ?_
 rcases if_some hr with ⟨hc12, hr⟩ | ⟨hc15, hr⟩
 ·refine W.condT h12 hc12 (W.seq (W.region ?_))
  refine sx rfl (pAssign (v := (vI 0)) rfl rfl) ?_
  refine sx rfl (pAssign (v := (vI 1)) rfl rfl) ?_
  refine SeqW.done fun fr13 hf14 => ?_
  have h6 : fr13 6 = (vI 0) := (congrFun hf14 6).trans rfl
  have h7 : fr13 7 = (vI 1) := (congrFun hf14 7).trans rfl
  clear hf14
  refine thenQ.n ?_
  refine W.ret ?_
  refine thenQ.r ?_
  obtain rfl := Option.some.inj hr
  exact ⟨z, hz, st, .inr rfl, h6, h7, trivial⟩
 ·refine W.condF h12 hc15 (W.skip ?_)
  refine thenQ.n (W.seq (W.region ?_))
  refine sx rfl (pMove (v := v1) rfl h1) ?_
  refine sx rfl (pMove (v := v2) rfl h2) ?_
  obtain ⟨y16, hy16, hr⟩ := bind_some hr
  refine SeqW.consX rfl (StepX.call (gCallee rfl rfl (args2 rfl rfl)) ((c_brake_Total (z := z) st.fz st.dead s1 s2 hy16).mono ?_))
  rintro _ m21 ⟨z17, hzx18, fz19, sm20, rfl, -⟩
  replace s1 := s1.mono hzx18.le
  replace s2 := s2.mono hzx18.le
  replace X3 := X3.call hzx18 sm20 Ap.none'
  replace hz := hz.trans (Zx.here st hzx18)
  replace st := st.call hzx18 fz19 sm20 no_hq
  refine sx rfl (pMove (v := (Value.tuple [(Value.agg [(vI y16.1.length), (vI y16.1.axles), (vI y16.1.mass), (vI y16.1.braked), (vI y16.1.percent), (vI y16.1.required), (vI y16.1.missing)].toArray), (vI y16.2)].toArray)) rfl rfl) ?_
  refine sx rfl (pExtract (vs := [(Value.agg [(vI y16.1.length), (vI y16.1.axles), (vI y16.1.mass), (vI y16.1.braked), (vI y16.1.percent), (vI y16.1.required), (vI y16.1.missing)].toArray), (vI y16.2)]) (v := (Value.agg [(vI y16.1.length), (vI y16.1.axles), (vI y16.1.mass), (vI y16.1.braked), (vI y16.1.percent), (vI y16.1.required), (vI y16.1.missing)].toArray)) rfl rfl rfl) ?_
  refine sx rfl (pExtract (vs := [(Value.agg [(vI y16.1.length), (vI y16.1.axles), (vI y16.1.mass), (vI y16.1.braked), (vI y16.1.percent), (vI y16.1.required), (vI y16.1.missing)].toArray), (vI y16.2)]) (v := (vI y16.2)) rfl rfl rfl) ?_
  refine SeqW.consX rfl (kAlloc rfl Try.type59 rfl rfl rfl [(vI 0), (vI 0), (vI 0), (vI 0), (vI 0), (vI 0), (vI 0)] rfl st ?_)
  intro B22 m23  st X24 sm25 hap26
  have A28 := hap26 _ X3.lt'
  replace X3 := X3.same sm25 Ap.none'
  refine SeqW.consX rfl (kPut (off := 0) (w := (Value.agg [(vI y16.1.length), (vI y16.1.axles), (vI y16.1.mass), (vI y16.1.braked), (vI y16.1.percent), (vI y16.1.required), (vI y16.1.missing)].toArray)) (new := [(vI y16.1.length), (vI y16.1.axles), (vI y16.1.mass), (vI y16.1.braked), (vI y16.1.percent), (vI y16.1.required), (vI y16.1.missing)]) rfl Try.type59 rfl rfl rfl rfl rfl X24 rfl [(vI y16.1.length), (vI y16.1.axles), (vI y16.1.mass), (vI y16.1.braked), (vI y16.1.percent), (vI y16.1.required), (vI y16.1.missing)] rfl st ?_)
  intro m29 st X24 sm30
  replace X3 := X3.same sm30 A28
  refine sx rfl (pAssign (v := (vI y16.2)) rfl rfl) ?_
  refine SeqW.done fun fr31 hf32 => ?_
  have h1 := (congrFun hf32 1).trans h1
  have h2 := (congrFun hf32 2).trans h2
  have h3 := (congrFun hf32 3).trans h3
  have h8 : fr31 8 = (vP B22) := (congrFun hf32 8).trans rfl
  have h9 : fr31 9 = (vI y16.2) := (congrFun hf32 9).trans rfl
  clear hf32
  refine thenQ.n (W.seq ?_)
  refine W.seq (W.region ?_)
  refine sx rfl (pMove (v := (vI y16.2)) rfl h9) ?_
  refine sx rfl (pNeq (k := .i64) (a := y16.2) (b := 0) rfl rfl rfl) ?_
  refine SeqW.done fun fr33 hf34 => ?_
  have h1 := (congrFun hf34 1).trans h1
  have h2 := (congrFun hf34 2).trans h2
  have h3 := (congrFun hf34 3).trans h3
  have h8 := (congrFun hf34 8).trans h8
  have h9 := (congrFun hf34 9).trans h9
  have h20 : fr33 20 = (vB (y16.2 != 0)) := (congrFun hf34 20).trans rfl
  clear hf34
  refine thenQ.n ?_
  rcases if_some hr with ⟨hc35, hr⟩ | ⟨hc38, hr⟩
  ·refine W.condT h20 hc35 (W.seq (W.region ?_))
   refine sx rfl (pMove (v := (vI y16.2)) rfl h9) ?_
   refine sx rfl (pAssign (v := (vI 0)) rfl rfl) ?_
   refine sx rfl (pAssign (v := (vI y16.2)) rfl rfl) ?_
   refine SeqW.done fun fr36 hf37 => ?_
   have h6 : fr36 6 = (vI 0) := (congrFun hf37 6).trans rfl
   have h7 : fr36 7 = (vI y16.2) := (congrFun hf37 7).trans rfl
   clear hf37
   refine thenQ.n ?_
   refine W.ret ?_
   refine thenQ.r ?_
   obtain rfl := Option.some.inj hr
   exact ⟨z17, hz, st, .inr rfl, h6, h7, trivial⟩
  ·refine W.condF h20 hc38 (W.skip ?_)
   refine thenQ.n (W.seq (W.region ?_))
   refine sx rfl (pMove (v := v1) rfl h1) ?_
   refine sx rfl (pMove (v := v2) rfl h2) ?_
   refine SeqW.consX rfl (kLoadA rfl Try.underlying59 rfl Try.type59 rfl h8 X24.loads ?_)
   obtain ⟨A39, c40, eA39⟩ := s1.len
   subst eA39
   obtain ⟨A41, c42, eA41⟩ := s2.len
   subst eA41
   refine SeqW.consX rfl (kBuildS [(0, (Value.slice A39 (x1).length c40)), (1, (Value.slice A41 (x2).length c42)), (2, (Value.agg [(vI y16.1.length), (vI y16.1.axles), (vI y16.1.mass), (vI y16.1.braked), (vI y16.1.percent), (vI y16.1.required), (vI y16.1.missing)].toArray))] [(Value.slice A39 (x1).length c40), (Value.slice A41 (x2).length c42), (vI y16.1.length), (vI y16.1.axles), (vI y16.1.mass), (vI y16.1.braked), (vI y16.1.percent), (vI y16.1.required), (vI y16.1.missing)] rfl Try.underlying63 Try.type63 rfl rfl (places63 Try.underlying63) rfl (rfl) rfl ?_)
   refine SeqW.consX rfl (kLoadA rfl Try.underlying32 rfl Try.type32 rfl h3 X3.loads ?_)
   obtain ⟨y43, hy43, hr⟩ := bind_some hr
   refine SeqW.consX rfl (StepX.call (gCallee rfl rfl (args2 rfl rfl)) ((c_train_place (x0 := (Train.mk x1 x2 (Brakes.mk y16.1.length y16.1.axles y16.1.mass y16.1.braked y16.1.percent y16.1.required y16.1.missing))) (x1 := x0) (z := z17) st.fz st.dead s1 s2 hy43).mono ?_))
   rintro _ _ ⟨rfl, rfl⟩
   refine sx rfl (pAssign (v := (vI y43)) rfl rfl) ?_
   refine sx rfl (pAssign (v := (vI 0)) rfl rfl) ?_
   refine SeqW.done fun fr44 hf45 => ?_
   have h6 : fr44 6 = (vI y43) := (congrFun hf45 6).trans rfl
   have h7 : fr44 7 = (vI 0) := (congrFun hf45 7).trans rfl
   clear hf45
   refine thenQ.n ?_
   refine W.ret ?_
   obtain rfl := Option.some.inj hr
   exact ⟨z17, hz, st, .inr rfl, h6, h7, trivial⟩

theorem c_rulebook_Place {N : Nat} {z : Nat → Blk} {m : Mem} {x0 : Rule} {x1 : List Wagon} {x2 : List Int} {v1 : Value} {v2 : Value} (fz : Fz z m) (hd : ∀ b, m.next ≤ b → m.blk b = .dead) (s1 : SlR TWagon z x1 v1) (s2 : SlR (TInt 3 .i64) z x2 v2) {r : Int × Int} (hr : rulebook_Place N x0 x1 x2 = some r) : CallW Try.prog 19 #[(Value.agg [(vI x0.number), (vI x0.kind), (vI x0.a), (vI x0.b), (vI x0.c)].toArray), v1, v2] m fun v m' => v = (Value.tuple [(vI r.1), (vI r.2)].toArray) ∧ m' = m := by
 refine CallW.flat Try.func19 rfl (by kernel_rfl) (Nat.le_of_ble_eq_true rfl) rfl (z := z) (fun fr hf => ?_)
 have h0 : fr 0 = _ := hf 0 _ rfl
 have h1 : fr 1 = _ := hf 1 _ rfl
 have h2 : fr 2 = _ := hf 2 _ rfl
 refine (u_rulebook_Place (k := none) (Zx.refl _) (St.start fz hd) h0 h1 s1 h2 s2 hr).mono ?_
 rintro ex fr' m' ⟨z', hz, st, he, h6, h7, -⟩
 exact ⟨he, z', st, [(vI r.1), (vI r.2)], ⟨h6.symm, h7.symm, trivial⟩, .inr (List.forall_mem_cons.2 ⟨rfl, List.forall_mem_cons.2 ⟨rfl, fun _ h => nomatch h⟩⟩), rfl⟩

/-! ### humpyard/humpyardlaw36.wagon -/

theorem u_l36_wagon {N : Nat}  {z0 z : Nat → Blk} {e m : Mem} {k : Option Nat} {fr : Nat → Value} {x0 : Int} {x1 : Int} (hz : Zx e.next z0 z) (st : St z e m k) (h0 : fr 0 = (vI x0)) (h1 : fr 1 = (vI x1)) {r : Wagon} (hr : l36_wagon N x0 x1 = some r) : W Try.prog (sub (bodyOf Try.f28) []) (fun ex fr' m' => ∃ z', Zx e.next z0 z' ∧ St z' e m' k ∧ (ex = .normal ∨ ex = .ret) ∧ ∃ (c4 : Nat), fr' 4 = (vP c4) ∧ Bx z' e m' k c4 [(str r.number), (vI r.length), (vI r.axles), (vI r.mass), (vI r.brake), (vI r.goods), (vB r.gentle), (str r.dest)] 36 ∧ (e.next ≤ c4 ∨ k = some c4) ∧ True) fr m := by
 unfold l36_wagon at hr
 refine W.seq (W.region ?_)
 refine SeqW.consX rfl (kAlloc rfl Try.type36 rfl rfl rfl [(str []), (vI 0), (vI 0), (vI 0), (vI 0), (vI 0), (vB false), (str [])] rfl st ?_)
 intro B1 m2  st X3 sm4 hap5
 refine SeqW.done fun fr7 hf8 => ?_
 have h0 := (congrFun hf8 0).trans h0
 have h1 := (congrFun hf8 1).trans h1
 have h4 : fr7 4 = (vP B1) := (congrFun hf8 4).trans rfl
 clear hf8
 refine thenQ.n (W.seq (W.region ?_))
 refine SeqW.consX rfl (kBuild (T := (TInt 3 .i64)) rfl Try.underlying22 Try.type3 rfl rfl rfl rfl ([7] : List Int) [[(vI 7)]] rfl rfl rfl (BuildOk.mk (w := (vI 7)) rfl rfl rfl rfl trivial) st ?_)
 intro V9 m10 st O11 sm12 hap13
 have A15 := hap13 _ X3.lt'
 replace X3 := X3.same sm12 Ap.none'
 obtain ⟨z16, hz17, st, Q18, hl19⟩ := O11.freeze st
 replace X3 := X3.zle (hl19 _ A15)
 replace hz := hz.trans hz17
 obtain ⟨y20, hy20, hr⟩ := bind_some hr
 refine SeqW.consX rfl (StepX.call (gCallee rfl rfl (args1 rfl)) ((c_gen_New (z := z16) st.fz st.dead Q18 hy20).mono ?_))
 rintro _ m25 ⟨z21, B26, V29, hzx22, fz23, sm24, rfl, Q30, X27, hn32, -⟩
 have A33 := Ap.fresh X3.lt' hn32
 replace X3 := X3.call hzx22 sm24 Ap.none'
 replace Q18 := Q18.mono hzx22.le
 have X27 : Bx z21 e m25 k B26 _ _ := ⟨X27.blk, X27.lt, X27.dead, .inl (Nat.le_trans st.next hn32)⟩
 replace hz := hz.trans (Zx.here st hzx22)
 replace st := st.call hzx22 fz23 sm24 no_hq
 refine sx rfl (pMove (v := (vI x0)) rfl h0) ?_
 obtain ⟨y34, hy34, hr⟩ := bind_some hr
 refine SeqW.consX rfl (StepX.call (gCallee rfl rfl (args2 rfl rfl)) ((c_Maker_Wagon (x0 := y20) (z := z21) st.fz st.dead Q30 ⟨X27.blk, X27.lt, X27.dead, .inr rfl⟩ hy34).mono ?_))
 rintro _ m39 ⟨z35, V40, hzx36, fz37, sm38, rfl, Q41, X43, -⟩
 replace X3 := X3.call hzx36 sm38 A33
 replace Q30 := Q30.mono hzx36.le
 have X27n : Bx z35 e m39 k B26 _ _ := ⟨X43.blk, X43.lt, X43.dead, X27.fresh⟩
 replace hz := hz.trans (Zx.here st hzx36)
 replace st := st.call hzx36 fz37 sm38 X27.hq
 refine SeqW.consX rfl (kAlloc rfl Try.type36 rfl rfl rfl [(str []), (vI 0), (vI 0), (vI 0), (vI 0), (vI 0), (vB false), (str [])] rfl st ?_)
 intro B44 m45  st X46 sm47 hap48
 have A50 := hap48 _ X3.lt'
 replace X3 := X3.same sm47 Ap.none'
 refine SeqW.consX rfl (kPut (off := 0) (w := (Value.agg [(str y34.1.number), (vI y34.1.length), (vI y34.1.axles), (vI y34.1.mass), (vI y34.1.brake), (vI y34.1.goods), (vB y34.1.gentle), (str y34.1.dest)].toArray)) (new := [(str y34.1.number), (vI y34.1.length), (vI y34.1.axles), (vI y34.1.mass), (vI y34.1.brake), (vI y34.1.goods), (vB y34.1.gentle), (str y34.1.dest)]) rfl Try.type36 rfl rfl rfl rfl rfl X46 rfl [(str y34.1.number), (vI y34.1.length), (vI y34.1.axles), (vI y34.1.mass), (vI y34.1.brake), (vI y34.1.goods), (vB y34.1.gentle), (str y34.1.dest)] rfl st ?_)
 intro m51 st X46 sm52
 replace X3 := X3.same sm52 A50
 refine SeqW.done fun fr53 hf54 => ?_
 have h1 := (congrFun hf54 1).trans h1
 have h4 := (congrFun hf54 4).trans h4
 have h5 : fr53 5 = (vP B44) := (congrFun hf54 5).trans rfl
 clear hf54
 refine thenQ.n (W.seq (W.region ?_))
 refine sx rfl (pMove (v := (vI x1)) rfl h1) ?_
 refine SeqW.consX rfl (kField rfl Try.underlying36 rfl Try.type3 rfl h5 rfl ?_)
 refine SeqW.consX rfl (kPut (off := 5) (w := (vI x1)) (new := [(vI x1)]) rfl Try.type3 rfl rfl rfl rfl rfl X46 rfl [(str y34.1.number), (vI y34.1.length), (vI y34.1.axles), (vI y34.1.mass), (vI y34.1.brake), (vI x1), (vB y34.1.gentle), (str y34.1.dest)] rfl st ?_)
 intro m55 st X46 sm56
 replace X3 := X3.same sm56 A50
 refine SeqW.done fun fr57 hf58 => ?_
 have h4 := (congrFun hf58 4).trans h4
 have h5 := (congrFun hf58 5).trans h5
 clear hf58
 refine thenQ.n (W.seq (W.region ?_))
 refine SeqW.consX rfl (kLoadA rfl Try.underlying36 rfl Try.type36 rfl h5 X46.loads ?_)
 refine SeqW.consX rfl (kPut (off := 0) (w := (Value.agg [(str y34.1.number), (vI y34.1.length), (vI y34.1.axles), (vI y34.1.mass), (vI y34.1.brake), (vI x1), (vB y34.1.gentle), (str y34.1.dest)].toArray)) (new := [(str y34.1.number), (vI y34.1.length), (vI y34.1.axles), (vI y34.1.mass), (vI y34.1.brake), (vI x1), (vB y34.1.gentle), (str y34.1.dest)]) rfl Try.type36 h4 rfl rfl rfl rfl X3 rfl [(str y34.1.number), (vI y34.1.length), (vI y34.1.axles), (vI y34.1.mass), (vI y34.1.brake), (vI x1), (vB y34.1.gentle), (str y34.1.dest)] rfl st ?_)
 intro m59 st X3 sm60
 refine SeqW.done fun fr61 hf62 => ?_
 have h4 := (congrFun hf62 4).trans h4
 clear hf62
 refine thenQ.n ?_
 refine W.ret ?_
 obtain rfl := Option.some.inj hr
 exact ⟨z35, hz, st, .inr rfl, B1, h4, X3, X3.fresh, trivial⟩

theorem c_l36_wagon {N : Nat} {z : Nat → Blk} {m : Mem} {x0 : Int} {x1 : Int} (fz : Fz z m) (hd : ∀ b, m.next ≤ b → m.blk b = .dead)  {r : Wagon} (hr : l36_wagon N x0 x1 = some r) : CallW Try.prog 28 #[(vI x0), (vI x1)] m fun v m' => ∃ z', Zx m.next z z' ∧ Fz z' m' ∧ Same m m' none ∧ v = (Value.agg [(str r.number), (vI r.length), (vI r.axles), (vI r.mass), (vI r.brake), (vI r.goods), (vB r.gentle), (str r.dest)].toArray) ∧ True := by
 refine CallW.any Try.func28 rfl (by kernel_rfl) (Nat.le_of_ble_eq_true rfl) (fun fr hf => ?_)
 have h0 : fr 0 = _ := hf 0 _ rfl
 have h1 : fr 1 = _ := hf 1 _ rfl
 refine (u_l36_wagon (k := none) (Zx.refl _) (St.start fz hd) h0 h1 hr).mono ?_
 rintro ex fr' m' ⟨z', hz, st, he, c4, h4, bx4, fx4, -⟩
 exact ⟨he, [(Value.agg [(str r.number), (vI r.length), (vI r.axles), (vI r.mass), (vI r.brake), (vI r.goods), (vB r.gentle), (str r.dest)].toArray)], ⟨resCell h4 bx4 Try.underlying36 rfl Try.type36 rfl, trivial⟩, .inl rfl, z', hz, st.fz, st.toSame, rfl, trivial⟩

/-! ### humpyard/humpyardlaw36.sane -/

theorem u_l36_sane_0 {N : Nat}  {z0 z : Nat → Blk} {e m : Mem} {k : Option Nat} {fr : Nat → Value} {x2 : List Rule} {x3 : Int} {x4 : Int} {x5 : Int} {x6 : Int} {x7 : Int} {x8 : Int} {x9 : Int} {x10 : Int} {v2 : Value} (hz : Zx e.next z0 z) (st : St z e m k) (h2 : fr 2 = v2) (o2 : OwF TRule z e m k x2 v2) (h3 : fr 3 = (vI x3)) (h4 : fr 4 = (vI x4)) (h5 : fr 5 = (vI x5)) (h6 : fr 6 = (vI x6)) (h7 : fr 7 = (vI x7)) (h8 : fr 8 = (vI x8)) (h9 : fr 9 = (vI x9)) (h10 : fr 10 = (vI x10)) {r : Bool} (hr : l36_sane_0 N x2 x3 x4 x5 x6 x7 x8 x9 x10 = some r) : W Try.prog (sub (bodyOf Try.f17) [1, 1, 1, 1, 1, 1, 0]) (fun ex fr' m' => ∃ z', Zx e.next z0 z' ∧ St z' e m' k ∧ ex = AExit.normal ∧ fr' 0 = (vB r) ∧ True) fr m := by
 unfold l36_sane_0 at hr
 refine W.region ?_
 refine sx rfl (pMove (v := (vI x5)) rfl h5) ?_
 refine sx rfl (pEql (k := .i64) (a := x5) (b := 0) rfl rfl rfl) ?_
 refine sx rfl (pMove (v := (vB (x5 == 0))) rfl rfl) ?_
 rcases if_some hr with ⟨hc100, hr⟩ | ⟨hc162, hr⟩
 ·refine SeqW.consG rfl rfl rfl hc100 (StepX.pure (pMove (v := (vI x3)) rfl h3) ?_)
  refine SeqW.consG rfl rfl rfl hc100 (StepX.pure (pEql (k := .i64) (a := x3) (b := 9) rfl rfl rfl) ?_)
  refine sx rfl (pPick (t := true) (v := (vB (x3 == 9))) rfl ((congrArg vB hc100)) rfl) ?_
  refine sx rfl (pMove (v := (vB (x3 == 9))) rfl rfl) ?_
  rcases if_some hr with ⟨hc101, hr⟩ | ⟨hc159, hr⟩
  ·refine SeqW.consG rfl rfl rfl hc101 (StepX.pure (pMove (v := (vI x4)) rfl h4) ?_)
   refine SeqW.consG rfl rfl rfl hc101 (StepX.pure (pEql (k := .i64) (a := x4) (b := 3) rfl rfl rfl) ?_)
   refine sx rfl (pPick (t := true) (v := (vB (x4 == 3))) rfl ((congrArg vB hc101)) rfl) ?_
   refine sx rfl (pMove (v := (vB (x4 == 3))) rfl rfl) ?_
   rcases if_some hr with ⟨hc102, hr⟩ | ⟨hc156, hr⟩
   ·refine SeqW.consG rfl rfl rfl hc102 (StepX.pure (pMove (v := (vI x8)) rfl h8) ?_)
    refine SeqW.consG rfl rfl rfl hc102 (StepX.pure (pEql (k := .i64) (a := x8) (b := 0) rfl rfl rfl) ?_)
    refine sx rfl (pPick (t := true) (v := (vB (x8 == 0))) rfl ((congrArg vB hc102)) rfl) ?_
    refine sx rfl (pMove (v := (vB (x8 == 0))) rfl rfl) ?_
    rcases if_some hr with ⟨hc103, hr⟩ | ⟨hc153, hr⟩
    ·refine SeqW.consG rfl rfl rfl hc103 (StepX.pure (pMove (v := (vI x6)) rfl h6) ?_)
     refine SeqW.consG rfl rfl rfl hc103 (StepX.pure (pEql (k := .i64) (a := x6) (b := 0) rfl rfl rfl) ?_)
     refine sx rfl (pPick (t := true) (v := (vB (x6 == 0))) rfl ((congrArg vB hc103)) rfl) ?_
     refine sx rfl (pMove (v := (vB (x6 == 0))) rfl rfl) ?_
     rcases if_some hr with ⟨hc104, hr⟩ | ⟨hc150, hr⟩
     ·refine SeqW.consG rfl rfl rfl hc104 (StepX.pure (pMove (v := (vI x7)) rfl h7) ?_)
      refine SeqW.consG rfl rfl rfl hc104 (StepX.pure (pEql (k := .i64) (a := x7) (b := (-1)) rfl rfl rfl) ?_)
      refine sx rfl (pPick (t := true) (v := (vB (x7 == (-1)))) rfl ((congrArg vB hc104)) rfl) ?_
      refine sx rfl (pMove (v := (vB (x7 == (-1)))) rfl rfl) ?_
      rcases if_some hr with ⟨hc105, hr⟩ | ⟨hc147, hr⟩
      ·refine SeqW.consG rfl rfl rfl hc105 (StepX.pure (pMove (v := (vI x10)) rfl h10) ?_)
       refine SeqW.consG rfl rfl rfl hc105 (StepX.pure (pEql (k := .i64) (a := x10) (b := 0) rfl rfl rfl) ?_)
       refine sx rfl (pPick (t := true) (v := (vB (x10 == 0))) rfl ((congrArg vB hc105)) rfl) ?_
       refine sx rfl (pMove (v := (vB (x10 == 0))) rfl rfl) ?_
       rcases if_some hr with ⟨hc106, hr⟩ | ⟨hc144, hr⟩
       ·refine SeqW.consG rfl rfl rfl hc106 (StepX.pure (pMove (v := (vI x9)) rfl h9) ?_)
        refine SeqW.consG rfl rfl rfl hc106 (StepX.pure (pEql (k := .i64) (a := x9) (b := 1) rfl rfl rfl) ?_)
        refine sx rfl (pPick (t := true) (v := (vB (x9 == 1))) rfl ((congrArg vB hc106)) rfl) ?_
        refine sx rfl (pMove (v := (vB (x9 == 1))) rfl rfl) ?_
        rcases if_some hr with ⟨hc107, hr⟩ | ⟨hc141, hr⟩
        ·refine SeqW.consG rfl rfl rfl hc107 (StepX.pure (pMove (v := v2) rfl h2) ?_)
         refine SeqW.consG rfl rfl rfl hc107 (StepX.pure (pMove (v := v2) rfl h2) ?_)
         obtain ⟨y108, hy108, hr⟩ := bind_some hr
         refine SeqW.consG rfl rfl rfl hc107 (kIdxO (T := TRule) (xs := x2) (n := 0) rfl Try.underlying23 Try.type32 rfl rfl rfl o2 hy108 ?_)
         intro B109 l110 c111 cs112 hv113 hd114 hg115 hc116
         have hd1140 := hd114
         obtain rfl := hd1140
         refine SeqW.consG rfl rfl rfl hc107 (kLoadA rfl Try.underlying32 rfl Try.type32 rfl rfl hc116 ?_)
         refine SeqW.consG rfl rfl rfl hc107 (kBuild (T := TRule) rfl Try.underlying23 Try.type32 rfl rfl rfl rfl ([y108] : List Rule) [[(vI y108.number), (vI y108.kind), (vI y108.a), (vI y108.b), (vI y108.c)]] rfl rfl rfl (BuildOk.mk (w := (Value.agg [(vI y108.number), (vI y108.kind), (vI y108.a), (vI y108.b), (vI y108.c)].toArray)) rfl rfl rfl rfl trivial) st ?_)
         intro V117 m118 st O119 sm120 hap121
         have A123 := hap121 _ o2.lt
         replace o2 := o2.same sm120 Ap.none'
         obtain ⟨y124, hy124, hr⟩ := bind_some hr
         refine SeqW.consG rfl rfl rfl hc107 (kAppend (T := TRule) (xs := x2) (ys := ([y108] : List Rule)) rfl Try.underlying23 Try.type32 rfl rfl rfl rfl rfl rfl (.inl ⟨_, Try.underlying23⟩) rfl o2 rfl O119.ow.src st hy124 ?_)
         intro V125 m126 st O127 sm128 hap129
         have A131 := hap129 _ O119.lt (Ap.symm A123)
         replace O119 := O119.same sm128 (Ap.symm A123)
         obtain ⟨z132, hz133, st136, Q134, hl135⟩ := O127.freeze st
         obtain ⟨y137, hy137, hr⟩ := bind_some hr
         refine SeqW.consG rfl rfl rfl hc107 (StepX.call (gCallee rfl rfl (args1 rfl)) ((c_rulebook_Valid (z := z132) st136.fz st.dead Q134 hy137).mono ?_))
         rintro _ _ ⟨rfl, rfl⟩
         refine SeqW.consG rfl rfl rfl hc107 (StepX.pure (pEql (k := .i64) (a := y137) (b := 8) rfl rfl rfl) ?_)
         refine sx rfl (pPick (t := true) (v := (vB (y137 == 8))) rfl ((congrArg vB hc107)) rfl) ?_
         obtain ⟨y138, hy138, hr⟩ := lt_some hr
         refine sx rfl (pAssign rfl (congrArg vB hy138)) ?_
         refine SeqW.done fun fr139 hf140 => ?_
         have h0 : fr139 0 = (vB y138) := (congrFun hf140 0).trans rfl
         clear hf140
         obtain rfl := Option.some.inj hr
         exact ⟨z, hz, st, rfl, h0, trivial⟩
        ·refine kx rfl rfl rfl hc141 ?_
         iterate 7 refine kx rfl rfl rfl hc141 ?_
         refine sx rfl (pPick (t := false) (v := (vB false)) rfl ((congrArg vB hc141)) rfl) ?_
         refine sx rfl (pAssign (v := (vB false)) rfl rfl) ?_
         refine SeqW.done fun fr142 hf143 => ?_
         have h0 : fr142 0 = (vB false) := (congrFun hf143 0).trans rfl
         clear hf143
         obtain rfl := Option.some.inj hr
         exact ⟨z, hz, st, rfl, h0, trivial⟩
       ·refine kx rfl rfl rfl hc144 ?_
        refine kx rfl rfl rfl hc144 ?_
        refine sx rfl (pPick (t := false) (v := (vB false)) rfl ((congrArg vB hc144)) rfl) ?_
        refine sx rfl (pMove (v := (vB false)) rfl rfl) ?_
        iterate 8 refine kx rfl rfl rfl rfl ?_
        refine sx rfl (pPick (t := false) (v := (vB false)) rfl ((congrArg vB (rfl : false = false))) rfl) ?_
        refine sx rfl (pAssign (v := (vB false)) rfl rfl) ?_
        refine SeqW.done fun fr145 hf146 => ?_
        have h0 : fr145 0 = (vB false) := (congrFun hf146 0).trans rfl
        clear hf146
        obtain rfl := Option.some.inj hr
        exact ⟨z, hz, st, rfl, h0, trivial⟩
      ·refine kx rfl rfl rfl hc147 ?_
       refine kx rfl rfl rfl hc147 ?_
       refine sx rfl (pPick (t := false) (v := (vB false)) rfl ((congrArg vB hc147)) rfl) ?_
       refine sx rfl (pMove (v := (vB false)) rfl rfl) ?_
       iterate 2 refine kx rfl rfl rfl rfl ?_
       refine sx rfl (pPick (t := false) (v := (vB false)) rfl ((congrArg vB (rfl : false = false))) rfl) ?_
       refine sx rfl (pMove (v := (vB false)) rfl rfl) ?_
       iterate 8 refine kx rfl rfl rfl rfl ?_
       refine sx rfl (pPick (t := false) (v := (vB false)) rfl ((congrArg vB (rfl : false = false))) rfl) ?_
       refine sx rfl (pAssign (v := (vB false)) rfl rfl) ?_
       refine SeqW.done fun fr148 hf149 => ?_
       have h0 : fr148 0 = (vB false) := (congrFun hf149 0).trans rfl
       clear hf149
       obtain rfl := Option.some.inj hr
       exact ⟨z, hz, st, rfl, h0, trivial⟩
     ·refine kx rfl rfl rfl hc150 ?_
      refine kx rfl rfl rfl hc150 ?_
      refine sx rfl (pPick (t := false) (v := (vB false)) rfl ((congrArg vB hc150)) rfl) ?_
      refine sx rfl (pMove (v := (vB false)) rfl rfl) ?_
      iterate 2 refine kx rfl rfl rfl rfl ?_
      refine sx rfl (pPick (t := false) (v := (vB false)) rfl ((congrArg vB (rfl : false = false))) rfl) ?_
      refine sx rfl (pMove (v := (vB false)) rfl rfl) ?_
      iterate 2 refine kx rfl rfl rfl rfl ?_
      refine sx rfl (pPick (t := false) (v := (vB false)) rfl ((congrArg vB (rfl : false = false))) rfl) ?_
      refine sx rfl (pMove (v := (vB false)) rfl rfl) ?_
      iterate 8 refine kx rfl rfl rfl rfl ?_
      refine sx rfl (pPick (t := false) (v := (vB false)) rfl ((congrArg vB (rfl : false = false))) rfl) ?_
      refine sx rfl (pAssign (v := (vB false)) rfl rfl) ?_
      refine SeqW.done fun fr151 hf152 => ?_
      have h0 : fr151 0 = (vB false) := (congrFun hf152 0).trans rfl
      clear hf152
      obtain rfl := Option.some.inj hr
      exact ⟨z, hz, st, rfl, h0, trivial⟩
    ·refine kx rfl rfl rfl hc153 ?_
     refine kx rfl rfl rfl hc153 ?_
     refine sx rfl (pPick (t := false) (v := (vB false)) rfl ((congrArg vB hc153)) rfl) ?_
     refine sx rfl (pMove (v := (vB false)) rfl rfl) ?_
     iterate 2 refine kx rfl rfl rfl rfl ?_
     refine sx rfl (pPick (t := false) (v := (vB false)) rfl ((congrArg vB (rfl : false = false))) rfl) ?_
     refine sx rfl (pMove (v := (vB false)) rfl rfl) ?_
     iterate 2 refine kx rfl rfl rfl rfl ?_
     refine sx rfl (pPick (t := false) (v := (vB false)) rfl ((congrArg vB (rfl : false = false))) rfl) ?_
     refine sx rfl (pMove (v := (vB false)) rfl rfl) ?_
     iterate 2 refine kx rfl rfl rfl rfl ?_
     refine sx rfl (pPick (t := false) (v := (vB false)) rfl ((congrArg vB (rfl : false = false))) rfl) ?_
     refine sx rfl (pMove (v := (vB false)) rfl rfl) ?_
     iterate 8 refine kx rfl rfl rfl rfl ?_
     refine sx rfl (pPick (t := false) (v := (vB false)) rfl ((congrArg vB (rfl : false = false))) rfl) ?_
     refine sx rfl (pAssign (v := (vB false)) rfl rfl) ?_
     refine SeqW.done fun fr154 hf155 => ?_
     have h0 : fr154 0 = (vB false) := (congrFun hf155 0).trans rfl
     clear hf155
     obtain rfl := Option.some.inj hr
     exact ⟨z, hz, st, rfl, h0, trivial⟩
   ·refine kx rfl rfl rfl hc156 ?_
    refine kx rfl rfl rfl hc156 ?_
    refine sx rfl (pPick (t := false) (v := (vB false)) rfl ((congrArg vB hc156)) rfl) ?_
    refine sx rfl (pMove (v := (vB false)) rfl rfl) ?_
    iterate 2 refine kx rfl rfl rfl rfl ?_
    refine sx rfl (pPick (t := false) (v := (vB false)) rfl ((congrArg vB (rfl : false = false))) rfl) ?_
    refine sx rfl (pMove (v := (vB false)) rfl rfl) ?_
    iterate 2 refine kx rfl rfl rfl rfl ?_
    refine sx rfl (pPick (t := false) (v := (vB false)) rfl ((congrArg vB (rfl : false = false))) rfl) ?_
    refine sx rfl (pMove (v := (vB false)) rfl rfl) ?_
    iterate 2 refine kx rfl rfl rfl rfl ?_
    refine sx rfl (pPick (t := false) (v := (vB false)) rfl ((congrArg vB (rfl : false = false))) rfl) ?_
    refine sx rfl (pMove (v := (vB false)) rfl rfl) ?_
    iterate 2 refine kx rfl rfl rfl rfl ?_
    refine sx rfl (pPick (t := false) (v := (vB false)) rfl ((congrArg vB (rfl : false = false))) rfl) ?_
    refine sx rfl (pMove (v := (vB false)) rfl rfl) ?_
    iterate 8 refine kx rfl rfl rfl rfl ?_
    refine sx rfl (pPick (t := false) (v := (vB false)) rfl ((congrArg vB (rfl : false = false))) rfl) ?_
    refine sx rfl (pAssign (v := (vB false)) rfl rfl) ?_
    refine SeqW.done fun fr157 hf158 => ?_
    have h0 : fr157 0 = (vB false) := (congrFun hf158 0).trans rfl
    clear hf158
    obtain rfl := Option.some.inj hr
    exact ⟨z, hz, st, rfl, h0, trivial⟩
  ·refine kx rfl rfl rfl hc159 ?_
   refine kx rfl rfl rfl hc159 ?_
   refine sx rfl (pPick (t := false) (v := (vB false)) rfl ((congrArg vB hc159)) rfl) ?_
   refine sx rfl (pMove (v := (vB false)) rfl rfl) ?_
   iterate 2 refine kx rfl rfl rfl rfl ?_
   refine sx rfl (pPick (t := false) (v := (vB false)) rfl ((congrArg vB (rfl : false = false))) rfl) ?_
   refine sx rfl (pMove (v := (vB false)) rfl rfl) ?_
   iterate 2 refine kx rfl rfl rfl rfl ?_
   refine sx rfl (pPick (t := false) (v := (vB false)) rfl ((congrArg vB (rfl : false = false))) rfl) ?_
   refine sx rfl (pMove (v := (vB false)) rfl rfl) ?_
   iterate 2 refine kx rfl rfl rfl rfl ?_
   refine sx rfl (pPick (t := false) (v := (vB false)) rfl ((congrArg vB (rfl : false = false))) rfl) ?_
   refine sx rfl (pMove (v := (vB false)) rfl rfl) ?_
   iterate 2 refine kx rfl rfl rfl rfl ?_
   refine sx rfl (pPick (t := false) (v := (vB false)) rfl ((congrArg vB (rfl : false = false))) rfl) ?_
   refine sx rfl (pMove (v := (vB false)) rfl rfl) ?_
   iterate 2 refine kx rfl rfl rfl rfl ?_
   refine sx rfl (pPick (t := false) (v := (vB false)) rfl ((congrArg vB (rfl : false = false))) rfl) ?_
   refine sx rfl (pMove (v := (vB false)) rfl rfl) ?_
   iterate 8 refine kx rfl rfl rfl rfl ?_
   refine sx rfl (pPick (t := false) (v := (vB false)) rfl ((congrArg vB (rfl : false = false))) rfl) ?_
   refine sx rfl (pAssign (v := (vB false)) rfl rfl) ?_
   refine SeqW.done fun fr160 hf161 => ?_
   have h0 : fr160 0 = (vB false) := (congrFun hf161 0).trans rfl
   clear hf161
   obtain rfl := Option.some.inj hr
   exact ⟨z, hz, st, rfl, h0, trivial⟩
 ·refine kx rfl rfl rfl hc162 ?_
  refine kx rfl rfl rfl hc162 ?_
  refine sx rfl (pPick (t := false) (v := (vB false)) rfl ((congrArg vB hc162)) rfl) ?_
  refine sx rfl (pMove (v := (vB false)) rfl rfl) ?_
  iterate 2 refine kx rfl rfl rfl rfl ?_
  refine sx rfl (pPick (t := false) (v := (vB false)) rfl ((congrArg vB (rfl : false = false))) rfl) ?_
  refine sx rfl (pMove (v := (vB false)) rfl rfl) ?_
  iterate 2 refine kx rfl rfl rfl rfl ?_
  refine sx rfl (pPick (t := false) (v := (vB false)) rfl ((congrArg vB (rfl : false = false))) rfl) ?_
  refine sx rfl (pMove (v := (vB false)) rfl rfl) ?_
  iterate 2 refine kx rfl rfl rfl rfl ?_
  refine sx rfl (pPick (t := false) (v := (vB false)) rfl ((congrArg vB (rfl : false = false))) rfl) ?_
  refine sx rfl (pMove (v := (vB false)) rfl rfl) ?_
  iterate 2 refine kx rfl rfl rfl rfl ?_
  refine sx rfl (pPick (t := false) (v := (vB false)) rfl ((congrArg vB (rfl : false = false))) rfl) ?_
  refine sx rfl (pMove (v := (vB false)) rfl rfl) ?_
  iterate 2 refine kx rfl rfl rfl rfl ?_
  refine sx rfl (pPick (t := false) (v := (vB false)) rfl ((congrArg vB (rfl : false = false))) rfl) ?_
  refine sx rfl (pMove (v := (vB false)) rfl rfl) ?_
  iterate 2 refine kx rfl rfl rfl rfl ?_
  refine sx rfl (pPick (t := false) (v := (vB false)) rfl ((congrArg vB (rfl : false = false))) rfl) ?_
  refine sx rfl (pMove (v := (vB false)) rfl rfl) ?_
  iterate 8 refine kx rfl rfl rfl rfl ?_
  refine sx rfl (pPick (t := false) (v := (vB false)) rfl ((congrArg vB (rfl : false = false))) rfl) ?_
  refine sx rfl (pAssign (v := (vB false)) rfl rfl) ?_
  refine SeqW.done fun fr163 hf164 => ?_
  have h0 : fr163 0 = (vB false) := (congrFun hf164 0).trans rfl
  clear hf164
  obtain rfl := Option.some.inj hr
  exact ⟨z, hz, st, rfl, h0, trivial⟩

theorem u_l36_sane {N : Nat}  {z0 z : Nat → Blk} {e m : Mem} {k : Option Nat} {fr : Nat → Value} (hz : Zx e.next z0 z) (st : St z e m k)  {r : Bool} (hr : l36_sane N  = some r) : W Try.prog (sub (bodyOf Try.f17) []) (fun ex fr' m' => ∃ z', Zx e.next z0 z' ∧ St z' e m' k ∧ (ex = .normal ∨ ex = .ret) ∧ fr' 0 = (vB r) ∧ True) fr m := by
 unfold l36_sane at hr
 refine W.seq (W.region ?_)
 refine sx rfl (pAssign (v := (vB false)) rfl rfl) ?_
 refine SeqW.done fun fr1 hf2 => ?_
 clear hf2
 refine thenQ.n (W.seq (W.region ?_))
 obtain ⟨y3, hy3, hr⟩ := bind_some hr
 refine SeqW.consX rfl (StepX.call (gCallee rfl rfl (args2 rfl rfl)) ((c_l36_wagon (z := z) st.fz st.dead  hy3).mono ?_))
 rintro _ m8 ⟨z4, hzx5, fz6, sm7, rfl, -⟩
 replace hz := hz.trans (Zx.here st hzx5)
 replace st := st.call hzx5 fz6 sm7 no_hq
 obtain ⟨y9, hy9, hr⟩ := bind_some hr
 refine SeqW.consX rfl (StepX.call (gCallee rfl rfl (args2 rfl rfl)) ((c_l36_wagon (z := z4) st.fz st.dead  hy9).mono ?_))
 rintro _ m14 ⟨z10, hzx11, fz12, sm13, rfl, -⟩
 replace hz := hz.trans (Zx.here st hzx11)
 replace st := st.call hzx11 fz12 sm13 no_hq
 obtain ⟨y15, hy15, hr⟩ := bind_some hr
 refine SeqW.consX rfl (StepX.call (gCallee rfl rfl (args2 rfl rfl)) ((c_l36_wagon (z := z10) st.fz st.dead  hy15).mono ?_))
 rintro _ m20 ⟨z16, hzx17, fz18, sm19, rfl, -⟩
 replace hz := hz.trans (Zx.here st hzx17)
 replace st := st.call hzx17 fz18 sm19 no_hq
 obtain ⟨y21, hy21, hr⟩ := bind_some hr
 refine SeqW.consX rfl (StepX.call (gCallee rfl rfl (args2 rfl rfl)) ((c_l36_wagon (z := z16) st.fz st.dead  hy21).mono ?_))
 rintro _ m26 ⟨z22, hzx23, fz24, sm25, rfl, -⟩
 replace hz := hz.trans (Zx.here st hzx23)
 replace st := st.call hzx23 fz24 sm25 no_hq
 refine SeqW.consX rfl (kBuild (T := TWagon) rfl Try.underlying24 Try.type36 rfl rfl rfl rfl ([y3, y9, y15, y21] : List Wagon) [[(str y3.number), (vI y3.length), (vI y3.axles), (vI y3.mass), (vI y3.brake), (vI y3.goods), (vB y3.gentle), (str y3.dest)], [(str y9.number), (vI y9.length), (vI y9.axles), (vI y9.mass), (vI y9.brake), (vI y9.goods), (vB y9.gentle), (str y9.dest)], [(str y15.number), (vI y15.length), (vI y15.axles), (vI y15.mass), (vI y15.brake), (vI y15.goods), (vB y15.gentle), (str y15.dest)], [(str y21.number), (vI y21.length), (vI y21.axles), (vI y21.mass), (vI y21.brake), (vI y21.goods), (vB y21.gentle), (str y21.dest)]] rfl rfl rfl (BuildOk.mk (w := (Value.agg [(str y3.number), (vI y3.length), (vI y3.axles), (vI y3.mass), (vI y3.brake), (vI y3.goods), (vB y3.gentle), (str y3.dest)].toArray)) rfl rfl rfl rfl (BuildOk.mk (w := (Value.agg [(str y9.number), (vI y9.length), (vI y9.axles), (vI y9.mass), (vI y9.brake), (vI y9.goods), (vB y9.gentle), (str y9.dest)].toArray)) rfl rfl rfl rfl (BuildOk.mk (w := (Value.agg [(str y15.number), (vI y15.length), (vI y15.axles), (vI y15.mass), (vI y15.brake), (vI y15.goods), (vB y15.gentle), (str y15.dest)].toArray)) rfl rfl rfl rfl (BuildOk.mk (w := (Value.agg [(str y21.number), (vI y21.length), (vI y21.axles), (vI y21.mass), (vI y21.brake), (vI y21.goods), (vB y21.gentle), (str y21.dest)].toArray)) rfl rfl rfl rfl trivial)))) st ?_)
 intro V27 m28 st O29 sm30 hap31
 refine sx rfl (pAssign (v := V27) rfl rfl) ?_
 refine SeqW.done fun fr33 hf34 => ?_
 have h1 : fr33 1 = V27 := (congrFun hf34 1).trans rfl
 clear hf34
 refine thenQ.n (W.seq (W.region ?_))
 refine SeqW.consX rfl (kBuildS [(0, (vI 5)), (1, (vI 5)), (2, (vI 1)), (3, (vI 3)), (4, (vI 1))] [(vI 5), (vI 5), (vI 1), (vI 3), (vI 1)] rfl Try.underlying32 Try.type32 rfl rfl (places32 Try.underlying32) rfl (rfl) rfl ?_)
 refine SeqW.consX rfl (kBuildS [(0, (vI 9)), (1, (vI 5)), (2, (vI 1)), (3, (vI 3)), (4, (vI 2))] [(vI 9), (vI 5), (vI 1), (vI 3), (vI 2)] rfl Try.underlying32 Try.type32 rfl rfl (places32 Try.underlying32) rfl (rfl) rfl ?_)
 refine SeqW.consX rfl (kBuild (T := TRule) rfl Try.underlying23 Try.type32 rfl rfl rfl rfl ([(Rule.mk 5 5 1 3 1), (Rule.mk 9 5 1 3 2)] : List Rule) [[(vI 5), (vI 5), (vI 1), (vI 3), (vI 1)], [(vI 9), (vI 5), (vI 1), (vI 3), (vI 2)]] rfl rfl rfl (BuildOk.mk (w := (Value.agg [(vI 5), (vI 5), (vI 1), (vI 3), (vI 1)].toArray)) rfl rfl rfl rfl (BuildOk.mk (w := (Value.agg [(vI 9), (vI 5), (vI 1), (vI 3), (vI 2)].toArray)) rfl rfl rfl rfl trivial)) st ?_)
 intro V35 m36 st O37 sm38 hap39
 have A41 := hap39 _ O29.lt
 replace O29 := O29.same sm38 Ap.none'
 refine sx rfl (pAssign (v := V35) rfl rfl) ?_
 refine SeqW.done fun fr42 hf43 => ?_
 have h1 := (congrFun hf43 1).trans h1
 have h2 : fr42 2 = V35 := (congrFun hf43 2).trans rfl
 clear hf43
 refine thenQ.n (W.seq (W.region ?_))
 refine sx rfl (pMove (v := V35) rfl h2) ?_
 refine sx rfl (pMove (v := V27) rfl h1) ?_
 obtain ⟨z44, hz45, st48, Q46, hl47⟩ := O37.freeze st
 have O49 := O29.zle hz45.le (hl47 _ A41)
 obtain ⟨z50, hz51, st54, Q52, hl53⟩ := O49.freeze st48
 have Q55 := Q46.mono hz51.le
 obtain ⟨y56, hy56, hr⟩ := bind_some hr
 refine SeqW.consX rfl (StepX.call (gCallee rfl rfl (args3 rfl rfl rfl)) ((c_rulebook_Check (z := z50) st54.fz st.dead Q55 Q52 (SlR.nil (T := (TInt 3 .i64))) hy56).mono ?_))
 rintro _ _ ⟨rfl, rfl⟩
 refine sx rfl (pMove (v := (Value.tuple [(vI y56.1), (vI y56.2.1), (vI y56.2.2)].toArray)) rfl rfl) ?_
 refine sx rfl (pExtract (vs := [(vI y56.1), (vI y56.2.1), (vI y56.2.2)]) (v := (vI y56.1)) rfl rfl rfl) ?_
 refine sx rfl (pExtract (vs := [(vI y56.1), (vI y56.2.1), (vI y56.2.2)]) (v := (vI y56.2.1)) rfl rfl rfl) ?_
 refine sx rfl (pExtract (vs := [(vI y56.1), (vI y56.2.1), (vI y56.2.2)]) (v := (vI y56.2.2)) rfl rfl rfl) ?_
 refine sx rfl (pAssign (v := (vI y56.1)) rfl rfl) ?_
 refine sx rfl (pAssign (v := (vI y56.2.1)) rfl rfl) ?_
 refine sx rfl (pAssign (v := (vI y56.2.2)) rfl rfl) ?_
 refine SeqW.done fun fr57 hf58 => ?_
 have h1 := (congrFun hf58 1).trans h1
 have h2 := (congrFun hf58 2).trans h2
 have h3 : fr57 3 = (vI y56.1) := (congrFun hf58 3).trans rfl
 have h4 : fr57 4 = (vI y56.2.1) := (congrFun hf58 4).trans rfl
 have h5 : fr57 5 = (vI y56.2.2) := (congrFun hf58 5).trans rfl
 clear hf58
 refine thenQ.n (W.seq (W.region ?_))
 refine sx rfl (pMove (v := V35) rfl h2) ?_
 obtain ⟨y59, hy59, hr⟩ := bind_some hr
 refine SeqW.consX rfl (kCutV (T := TRule) (xs := ([(Rule.mk 5 5 1 3 1), (Rule.mk 9 5 1 3 2)] : List Rule)) (a := 0) (b := 1) rfl Try.underlying23 Try.type32 rfl rfl rfl ⟨_, rfl⟩ O37.ow.vw hy59 ?_)
 intro V60 _ hI62 Q61
 refine sx rfl (pMove (v := V27) rfl h1) ?_
 obtain ⟨z64, hz65, st68, Q66, hl67, hw69⟩ := O37.freezeV st
 have O70 := O29.zle hz65.le (hl67 _ A41)
 have Q71 := hw69 Q61
 obtain ⟨z72, hz73, st76, Q74, hl75⟩ := O70.freeze st68
 have Q77 := Q66.mono hz73.le
 have Q78 := Q71.mono hz73.le
 obtain ⟨y79, hy79, hr⟩ := bind_some hr
 refine SeqW.consX rfl (StepX.call (gCallee rfl rfl (args3 rfl rfl rfl)) ((c_rulebook_Check (z := z72) st76.fz st.dead Q78 Q74 (SlR.nil (T := (TInt 3 .i64))) hy79).mono ?_))
 rintro _ _ ⟨rfl, rfl⟩
 refine sx rfl (pMove (v := (Value.tuple [(vI y79.1), (vI y79.2.1), (vI y79.2.2)].toArray)) rfl rfl) ?_
 refine sx rfl (pExtract (vs := [(vI y79.1), (vI y79.2.1), (vI y79.2.2)]) (v := (vI y79.1)) rfl rfl rfl) ?_
 refine sx rfl (pExtract (vs := [(vI y79.1), (vI y79.2.1), (vI y79.2.2)]) (v := (vI y79.2.1)) rfl rfl rfl) ?_
 refine sx rfl (pExtract (vs := [(vI y79.1), (vI y79.2.1), (vI y79.2.2)]) (v := (vI y79.2.2)) rfl rfl rfl) ?_
 refine sx rfl (pAssign (v := (vI y79.1)) rfl rfl) ?_
 refine sx rfl (pAssign (v := (vI y79.2.1)) rfl rfl) ?_
 refine sx rfl (pAssign (v := (vI y79.2.2)) rfl rfl) ?_
 refine SeqW.done fun fr80 hf81 => ?_
 have h1 := (congrFun hf81 1).trans h1
 have h2 := (congrFun hf81 2).trans h2
 have h3 := (congrFun hf81 3).trans h3
 have h4 := (congrFun hf81 4).trans h4
 have h5 := (congrFun hf81 5).trans h5
 have h6 : fr80 6 = (vI y79.1) := (congrFun hf81 6).trans rfl
 have h7 : fr80 7 = (vI y79.2.1) := (congrFun hf81 7).trans rfl
 have h8 : fr80 8 = (vI y79.2.2) := (congrFun hf81 8).trans rfl
 clear hf81
 refine thenQ.n (W.seq (W.region ?_))
 refine sx rfl (pMove (v := V27) rfl h1) ?_
 obtain ⟨y82, hy82, hr⟩ := bind_some hr
 refine SeqW.consX rfl (kIdxO (T := TWagon) (xs := ([y3, y9, y15, y21] : List Wagon)) (n := 0) rfl Try.underlying24 Try.type36 rfl rfl rfl O29 hy82 ?_)
 intro B83 l84 c85 cs86 hv87 hd88 hg89 hc90
 have hd880 := hd88
 obtain rfl := hd880
 refine SeqW.consX rfl (kField rfl Try.underlying36 rfl Try.type3 rfl rfl rfl ?_)
 refine SeqW.consX rfl (kLoad (v := (vI y82.axles)) rfl Try.underlying3 rfl rfl (hc90 2 _ rfl) ?_)
 refine SeqW.consX rfl (kBuildS [(0, (vI 1)), (1, (vI 2)), (2, (vI y82.axles))] [(vI 1), (vI 2), (vI y82.axles), (vI 0), (vI 0)] rfl Try.underlying32 Try.type32 rfl rfl (places32 Try.underlying32) rfl (rfl) rfl ?_)
 refine sx rfl (pMove (v := V27) rfl h1) ?_
 obtain ⟨z91, hz92, st95, Q93, hl94⟩ := O29.freeze st
 have O96 := O37.zle hz92.le (hl94 _ (Ap.symm A41))
 obtain ⟨y97, hy97, hr⟩ := bind_some hr
 refine SeqW.consX rfl (StepX.call (gCallee rfl rfl (args3 rfl rfl rfl)) ((c_rulebook_Place (x0 := (Rule.mk 1 2 y82.axles 0 0)) (z := z91) st95.fz st.dead Q93 (SlR.nil (T := (TInt 3 .i64))) hy97).mono ?_))
 rintro _ _ ⟨rfl, rfl⟩
 refine sx rfl (pMove (v := (Value.tuple [(vI y97.1), (vI y97.2)].toArray)) rfl rfl) ?_
 refine sx rfl (pExtract (vs := [(vI y97.1), (vI y97.2)]) (v := (vI y97.1)) rfl rfl rfl) ?_
 refine sx rfl (pExtract (vs := [(vI y97.1), (vI y97.2)]) (v := (vI y97.2)) rfl rfl rfl) ?_
 refine sx rfl (pAssign (v := (vI y97.1)) rfl rfl) ?_
 refine sx rfl (pAssign (v := (vI y97.2)) rfl rfl) ?_
 refine SeqW.done fun fr98 hf99 => ?_
 have h2 := (congrFun hf99 2).trans h2
 have h3 := (congrFun hf99 3).trans h3
 have h4 := (congrFun hf99 4).trans h4
 have h5 := (congrFun hf99 5).trans h5
 have h6 := (congrFun hf99 6).trans h6
 have h7 := (congrFun hf99 7).trans h7
 have h8 := (congrFun hf99 8).trans h8
 have h9 : fr98 9 = (vI y97.1) := (congrFun hf99 9).trans rfl
 have h10 : fr98 10 = (vI y97.2) := (congrFun hf99 10).trans rfl
 clear hf99
 refine thenQ.n (W.seq ?_)
 obtain ⟨y165, hy165, hr⟩ := bind_some hr
 refine W.keep (u_l36_sane_0 (Zx.refl _) st h2 O37 h3 h4 h5 h6 h7 h8 h9 h10 hy165) ?_
 rintro ex171 fr166 m167 hk169 ⟨z168, hz170, st, rfl, h0, -⟩
 replace hz := hz.trans hz170
 clear hk169
 refine thenQ.n ?_
 refine W.ret ?_
 obtain rfl := Option.some.inj hr
 exact ⟨z168, hz, st, .inr rfl, h0, trivial⟩

theorem c_l36_sane {N : Nat} {z : Nat → Blk} {m : Mem} (fz : Fz z m) (hd : ∀ b, m.next ≤ b → m.blk b = .dead)  {r : Bool} (hr : l36_sane N  = some r) : CallW Try.prog 17 #[] m fun v m' => v = (vB r) ∧ m' = m := by
 refine CallW.flat Try.func17 rfl (by kernel_rfl) (Nat.le_of_ble_eq_true rfl) rfl (z := z) (fun fr hf => ?_)
 refine (u_l36_sane (k := none) (Zx.refl _) (St.start fz hd)  hr).mono ?_
 rintro ex fr' m' ⟨z', hz, st, he, h0, -⟩
 exact ⟨he, z', st, [(vB r)], ⟨h0.symm, trivial⟩, .inl rfl, rfl⟩

/-! ### humpyard/humpyardlaw36.RulebookLimits -/

theorem u_l36_RulebookLimits_0 : ∀ (n : Nat) {N : Nat}  {z0 z : Nat → Blk} {e m : Mem} {k : Option Nat} {fr : Nat → Value} {x4 : List Wagon} {x5 : List Int} {x6 : Int} {v4 : Value} {b5 : Nat} (hz : Zx e.next z0 z) (st : St z e m k) (h4 : fr 4 = v4) (o4 : OwF TWagon z e m k x4 v4) (h5 : fr 5 = (vP b5)) (o5 : OwF (Ty.as (TInt 3 .i64) 50) z e m k x5 (Value.slice (some ⟨b5, 0, none⟩) 4 4)) (h6 : fr 6 = (vI x6)) (ao4_o5 : Ap (blkOf v4) (blkOf (Value.slice (some ⟨b5, 0, none⟩) 4 4))) {r : List Int} (hr : l36_RulebookLimits_0 N x4 n x5 x6 = some r), W Try.prog (sub (bodyOf Try.f7) [1, 1, 1, 1, 0, 1, 0]) (fun ex fr' m' => ∃ z', Zx e.next z0 z' ∧ St z' e m' k ∧ ex = AExit.exit 0 ∧ fr' 5 = (vP b5) ∧ OwF (Ty.as (TInt 3 .i64) 50) z' e m' k r (Value.slice (some ⟨b5, 0, none⟩) 4 4) ∧ OwF TWagon z' e m' k x4 v4 ∧ Ap (blkOf (Value.slice (some ⟨b5, 0, none⟩) 4 4)) (blkOf v4) ∧ True) fr m := by
 intro n
 induction n with
 | zero => intro N z0 z e m k fr x4 x5 x6 v4 b5 hz st h4 o4 h5 o5 h6 ao4_o5 r hr; cases (show (none : Option _) = some r from hr)
 | succ n ih =>
  intro N z0 z e m k fr x4 x5 x6 v4 b5 hz st h4 o4 h5 o5 h6 ao4_o5 r hr
  unfold l36_RulebookLimits_0 at hr
  refine W.loop1 ?_
  refine W.seq (W.seq (W.region ?_))
  refine sx rfl (pMove (v := (vI x6)) rfl h6) ?_
  refine sx rfl (pMove (v := v4) rfl h4) ?_
  refine sx rfl (pLenO (xs := x4) rfl Try.underlying24 rfl o4.ow) ?_
  refine sx rfl (pLss (k := .i64) (a := x6) (b := (x4.length : Int)) rfl rfl rfl) ?_
  refine SeqW.done fun fr45 hf46 => ?_
  have h4 := (congrFun hf46 4).trans h4
  have h5 := (congrFun hf46 5).trans h5
  have h6 := (congrFun hf46 6).trans h6
  have h19 : fr45 19 = (vB (decide (x6 < (x4.length : Int)))) := (congrFun hf46 19).trans rfl
  clear hf46
  refine thenQ.n ?_
  rcases if_some hr with ⟨hc47, hr⟩ | ⟨hc132, hr⟩
  ·refine W.condT h19 hc47 (W.skip ?_)
   refine thenQ.n (W.seq ?_)
   refine W.block ?_
   refine W.seq ?_
   refine W.draw ?_
   obtain ⟨y48, hy48, hr⟩ := bind_some hr
   refine DrawW.cons rfl (kIdxA (T := (Ty.as (TInt 3 .i64) 50)) (xs := x5) (n := 1) rfl Try.underlying50 Try.type3 rfl h5 rfl o5 hy48 ?_)
   intro cs49 hd50 hg51 hc52
   have hd500 := hd50
   obtain rfl := hd500
   refine ⟨trivial, ?_⟩
   refine DrawW.cons rfl (kLoad (v := (vI y48)) rfl Try.underlying3 rfl rfl (hc52 0 _ rfl) ?_)
   refine ⟨?_, ?_⟩
   ·exact demN
   refine DrawW.cons rfl (StepX.pure (pMove (v := v4) rfl h4) ?_)
   refine ⟨trivial, ?_⟩
   refine DrawW.cons rfl (StepX.pure (pMove (v := (vI x6)) rfl h6) ?_)
   refine ⟨trivial, ?_⟩
   obtain ⟨y53, hy53, hr⟩ := bind_some hr
   refine DrawW.cons rfl (kIdxO (T := TWagon) (xs := x4) (n := x6) rfl Try.underlying24 Try.type36 rfl rfl rfl o4 hy53 ?_)
   intro B54 l55 c56 cs57 hv58 hd59 hg60 hc61
   have hd590 := hd59
   obtain rfl := hd590
   refine ⟨trivial, ?_⟩
   refine DrawW.cons rfl (kField rfl Try.underlying36 rfl Try.type3 rfl rfl rfl ?_)
   refine ⟨trivial, ?_⟩
   refine DrawW.cons rfl (kLoad (v := (vI y53.length)) rfl Try.underlying3 rfl rfl (hc61 1 _ rfl) ?_)
   refine ⟨?_, ?_⟩
   ·exact demN
   refine DrawW.cons rfl (StepX.pure (pAdd (k := .i64) (a := y48) (b := y53.length) rfl rfl rfl) ?_)
   refine ⟨trivial, ?_⟩
   obtain ⟨y62, hy62, hr⟩ := bind_some hr
   refine DrawW.cons rfl (kIdxA (T := (Ty.as (TInt 3 .i64) 50)) (xs := x5) (n := 1) rfl Try.underlying50 Try.type3 rfl h5 rfl o5 hy62 ?_)
   intro cs63 hd64 hg65 hc66
   have hd640 := hd64
   obtain rfl := hd640
   refine ⟨trivial, ?_⟩
   have sto67 := st
   have old68 := o4
   have old69 := o5
   refine DrawW.cons rfl (kSet (T := (Ty.as (TInt 3 .i64) 50)) (off := (1 : Int).toNat * ((TInt 3 .i64)).sz) (n := (1 : Int).toNat) (f := 0) (w := (vI (IntKind.wrap .i64 (y48 + y53.length)))) (new := [(vI (IntKind.wrap .i64 (y48 + y53.length)))]) (ecs := [(vI y62)]) (ecs' := [(vI (IntKind.wrap .i64 (y48 + y53.length)))]) (a := y62) (a' := (IntKind.wrap .i64 (y48 + y53.length))) rfl Try.type3 rfl rfl rfl rfl rfl rfl o5 rfl hg65 hd64 hc66 rfl rfl rfl st ?_)
   intro m70 st o5 sm71
   obtain ⟨y72, hy72, hr⟩ := lt_some hr
   rw [hy72] at o5
   replace o4 := o4.same sm71 ao4_o5
   refine ⟨⟨?_, ?_⟩, ?_⟩
   ·first | refine demP (gLoad (v := (vI y53.length)) rfl Try.underlying3 rfl rfl (by rw [Same.ld sm71 old68 ao4_o5 hv58]; exact (hc61 1 _ rfl))) ?_ | refine demA (by decide +kernel) ?_
    refine demA (by decide +kernel) ?_
    exact demN
   ·exact demN
   refine DrawW.done fun fr73 hf74 => ?_
   have h4 := (congrFun hf74 4).trans h4
   have h5 := (congrFun hf74 5).trans h5
   have h6 := (congrFun hf74 6).trans h6
   clear hf74
   refine thenQ.n (W.seq ?_)
   refine W.draw ?_
   obtain ⟨y75, hy75, hr⟩ := bind_some hr
   refine DrawW.cons rfl (kIdxA (T := (Ty.as (TInt 3 .i64) 50)) (xs := y72) (n := 2) rfl Try.underlying50 Try.type3 rfl h5 rfl o5 hy75 ?_)
   intro cs76 hd77 hg78 hc79
   have hd770 := hd77
   obtain rfl := hd770
   refine ⟨trivial, ?_⟩
   refine DrawW.cons rfl (kLoad (v := (vI y75)) rfl Try.underlying3 rfl rfl (hc79 0 _ rfl) ?_)
   refine ⟨?_, ?_⟩
   ·exact demN
   refine DrawW.cons rfl (StepX.pure (pMove (v := v4) rfl h4) ?_)
   refine ⟨trivial, ?_⟩
   refine DrawW.cons rfl (StepX.pure (pMove (v := (vI x6)) rfl h6) ?_)
   refine ⟨trivial, ?_⟩
   obtain ⟨y80, hy80, hr⟩ := bind_some hr
   refine DrawW.cons rfl (kIdxO (T := TWagon) (xs := x4) (n := x6) rfl Try.underlying24 Try.type36 rfl rfl rfl o4 hy80 ?_)
   intro B81 l82 c83 cs84 hv85 hd86 hg87 hc88
   have hd860 := hd86
   obtain rfl := hd860
   refine ⟨trivial, ?_⟩
   refine DrawW.cons rfl (kField rfl Try.underlying36 rfl Try.type3 rfl rfl rfl ?_)
   refine ⟨trivial, ?_⟩
   refine DrawW.cons rfl (kLoad (v := (vI y80.axles)) rfl Try.underlying3 rfl rfl (hc88 2 _ rfl) ?_)
   refine ⟨?_, ?_⟩
   ·exact demN
   refine DrawW.cons rfl (StepX.pure (pAdd (k := .i64) (a := y75) (b := y80.axles) rfl rfl rfl) ?_)
   refine ⟨trivial, ?_⟩
   obtain ⟨y89, hy89, hr⟩ := bind_some hr
   refine DrawW.cons rfl (kIdxA (T := (Ty.as (TInt 3 .i64) 50)) (xs := y72) (n := 2) rfl Try.underlying50 Try.type3 rfl h5 rfl o5 hy89 ?_)
   intro cs90 hd91 hg92 hc93
   have hd910 := hd91
   obtain rfl := hd910
   refine ⟨trivial, ?_⟩
   have sto94 := st
   have old95 := o4
   have old96 := o5
   refine DrawW.cons rfl (kSet (T := (Ty.as (TInt 3 .i64) 50)) (off := (2 : Int).toNat * ((TInt 3 .i64)).sz) (n := (2 : Int).toNat) (f := 0) (w := (vI (IntKind.wrap .i64 (y75 + y80.axles)))) (new := [(vI (IntKind.wrap .i64 (y75 + y80.axles)))]) (ecs := [(vI y89)]) (ecs' := [(vI (IntKind.wrap .i64 (y75 + y80.axles)))]) (a := y89) (a' := (IntKind.wrap .i64 (y75 + y80.axles))) rfl Try.type3 rfl rfl rfl rfl rfl rfl o5 rfl hg92 hd91 hc93 rfl rfl rfl st ?_)
   intro m97 st o5 sm98
   obtain ⟨y99, hy99, hr⟩ := lt_some hr
   rw [hy99] at o5
   replace o4 := o4.same sm98 ao4_o5
   refine ⟨⟨?_, ?_⟩, ?_⟩
   ·first | refine demP (gLoad (v := (vI y80.axles)) rfl Try.underlying3 rfl rfl (by rw [Same.ld sm98 old95 ao4_o5 hv85]; exact (hc88 2 _ rfl))) ?_ | refine demA (by decide +kernel) ?_
    refine demA (by decide +kernel) ?_
    exact demN
   ·exact demN
   refine DrawW.done fun fr100 hf101 => ?_
   have h4 := (congrFun hf101 4).trans h4
   have h5 := (congrFun hf101 5).trans h5
   have h6 := (congrFun hf101 6).trans h6
   clear hf101
   refine thenQ.n ?_
   refine W.draw ?_
   obtain ⟨y102, hy102, hr⟩ := bind_some hr
   refine DrawW.cons rfl (kIdxA (T := (Ty.as (TInt 3 .i64) 50)) (xs := y99) (n := 3) rfl Try.underlying50 Try.type3 rfl h5 rfl o5 hy102 ?_)
   intro cs103 hd104 hg105 hc106
   have hd1040 := hd104
   obtain rfl := hd1040
   refine ⟨trivial, ?_⟩
   refine DrawW.cons rfl (kLoad (v := (vI y102)) rfl Try.underlying3 rfl rfl (hc106 0 _ rfl) ?_)
   refine ⟨?_, ?_⟩
   ·exact demN
   refine DrawW.cons rfl (StepX.pure (pMove (v := v4) rfl h4) ?_)
   refine ⟨trivial, ?_⟩
   refine DrawW.cons rfl (StepX.pure (pMove (v := (vI x6)) rfl h6) ?_)
   refine ⟨trivial, ?_⟩
   obtain ⟨y107, hy107, hr⟩ := bind_some hr
   refine DrawW.cons rfl (kIdxO (T := TWagon) (xs := x4) (n := x6) rfl Try.underlying24 Try.type36 rfl rfl rfl o4 hy107 ?_)
   intro B108 l109 c110 cs111 hv112 hd113 hg114 hc115
   have hd1130 := hd113
   obtain rfl := hd1130
   refine ⟨trivial, ?_⟩
   refine DrawW.cons rfl (kField rfl Try.underlying36 rfl Try.type3 rfl rfl rfl ?_)
   refine ⟨trivial, ?_⟩
   refine DrawW.cons rfl (kLoad (v := (vI y107.mass)) rfl Try.underlying3 rfl rfl (hc115 3 _ rfl) ?_)
   refine ⟨?_, ?_⟩
   ·exact demN
   refine DrawW.cons rfl (StepX.pure (pAdd (k := .i64) (a := y102) (b := y107.mass) rfl rfl rfl) ?_)
   refine ⟨trivial, ?_⟩
   obtain ⟨y116, hy116, hr⟩ := bind_some hr
   refine DrawW.cons rfl (kIdxA (T := (Ty.as (TInt 3 .i64) 50)) (xs := y99) (n := 3) rfl Try.underlying50 Try.type3 rfl h5 rfl o5 hy116 ?_)
   intro cs117 hd118 hg119 hc120
   have hd1180 := hd118
   obtain rfl := hd1180
   refine ⟨trivial, ?_⟩
   have sto121 := st
   have old122 := o4
   have old123 := o5
   refine DrawW.cons rfl (kSet (T := (Ty.as (TInt 3 .i64) 50)) (off := (3 : Int).toNat * ((TInt 3 .i64)).sz) (n := (3 : Int).toNat) (f := 0) (w := (vI (IntKind.wrap .i64 (y102 + y107.mass)))) (new := [(vI (IntKind.wrap .i64 (y102 + y107.mass)))]) (ecs := [(vI y116)]) (ecs' := [(vI (IntKind.wrap .i64 (y102 + y107.mass)))]) (a := y116) (a' := (IntKind.wrap .i64 (y102 + y107.mass))) rfl Try.type3 rfl rfl rfl rfl rfl rfl o5 rfl hg119 hd118 hc120 rfl rfl rfl st ?_)
   intro m124 st o5 sm125
   obtain ⟨y126, hy126, hr⟩ := lt_some hr
   rw [hy126] at o5
   replace o4 := o4.same sm125 ao4_o5
   refine ⟨⟨?_, ?_⟩, ?_⟩
   ·first | refine demP (gLoad (v := (vI y107.mass)) rfl Try.underlying3 rfl rfl (by rw [Same.ld sm125 old122 ao4_o5 hv112]; exact (hc115 3 _ rfl))) ?_ | refine demA (by decide +kernel) ?_
    refine demA (by decide +kernel) ?_
    exact demN
   ·exact demN
   refine DrawW.done fun fr127 hf128 => ?_
   have h4 := (congrFun hf128 4).trans h4
   have h5 := (congrFun hf128 5).trans h5
   have h6 := (congrFun hf128 6).trans h6
   clear hf128
   refine blockQ.n ?_
   refine thenQ.n (W.region ?_)
   refine sx rfl (pMove (v := (vI x6)) rfl h6) ?_
   refine sx rfl (pAdd (k := .i64) (a := x6) (b := 1) rfl rfl rfl) ?_
   obtain ⟨y129, hy129, hr⟩ := lt_some hr
   refine sx rfl (pAssign rfl (congrArg (Value.int .i64) hy129)) ?_
   refine SeqW.done fun fr130 hf131 => ?_
   have h4 := (congrFun hf131 4).trans h4
   have h5 := (congrFun hf131 5).trans h5
   have h6 : fr130 6 = (vI y129) := (congrFun hf131 6).trans rfl
   clear hf131
   refine thenQ.n ?_
   exact ih hz st h4 o4 h5 o5 h6 ao4_o5 hr
  ·refine W.condF h19 hc132 ?_
   refine W.exit ?_
   refine thenQ.x ?_
   refine thenQ.x ?_
   obtain rfl := Option.some.inj hr
   exact ⟨z, hz, st, rfl, h5, o5, o4, (Ap.symm ao4_o5), trivial⟩

theorem u_l36_RulebookLimits_3 {N : Nat}  {z0 z : Nat → Blk} {e m : Mem} {k : Option Nat} {fr : Nat → Value} {x8 : Int} {x9 : Int} {x4 : List Wagon} {v4 : Value} {x5 : List Int} {b5 : Nat} (hz : Zx e.next z0 z) (st : St z e m k) (h4 : fr 4 = v4) (o4 : OwF TWagon z e m k x4 v4) (h5 : fr 5 = (vP b5)) (o5 : OwF (Ty.as (TInt 3 .i64) 50) z e m k x5 (Value.slice (some ⟨b5, 0, none⟩) 4 4)) (h8 : fr 8 = (vI x8)) (h9 : fr 9 = (vI x9)) (ao4_o5 : Ap (blkOf v4) (blkOf (Value.slice (some ⟨b5, 0, none⟩) 4 4))) {r : Bool} (hr : l36_RulebookLimits_3 N x8 x9 = some r) : W Try.prog (sub (bodyOf Try.f7) [1, 1, 1, 1, 1, 0, 1, 0, 0, 1, 0, 0, 1, 0, 0]) (fun ex fr' m' => ∃ z', Zx e.next z0 z' ∧ St z' e m' k ∧ ex = AExit.normal ∧ fr' 68 = (vB r) ∧ OwF TWagon z' e m' k x4 v4 ∧ OwF (Ty.as (TInt 3 .i64) 50) z' e m' k x5 (Value.slice (some ⟨b5, 0, none⟩) 4 4) ∧ Ap (blkOf v4) (blkOf (Value.slice (some ⟨b5, 0, none⟩) 4 4)) ∧ True) fr m := by
 unfold l36_RulebookLimits_3 at hr
 refine W.region ?_
 refine sx rfl (pMove (v := (vI x9)) rfl h9) ?_
 refine sx rfl (pNeq (k := .i64) (a := x9) (b := 0) rfl rfl rfl) ?_
 refine sx rfl (pMove (v := (vB (x9 != 0))) rfl rfl) ?_
 rcases if_some hr with ⟨hc163, hr⟩ | ⟨hc166, hr⟩
 ·refine kx rfl rfl rfl hc163 ?_
  refine kx rfl rfl rfl hc163 ?_
  refine sx rfl (pPick (t := true) (v := (vB true)) rfl ((congrArg vB hc163)) rfl) ?_
  refine SeqW.done fun fr164 hf165 => ?_
  have h4 := (congrFun hf165 4).trans h4
  have h5 := (congrFun hf165 5).trans h5
  have h68 : fr164 68 = (vB true) := (congrFun hf165 68).trans rfl
  clear hf165
  obtain rfl := Option.some.inj hr
  exact ⟨z, hz, st, rfl, h68, o4, o5, ao4_o5, trivial⟩
 ·refine SeqW.consG rfl rfl rfl hc166 (StepX.pure (pMove (v := (vI x8)) rfl h8) ?_)
  refine SeqW.consG rfl rfl rfl hc166 (StepX.pure (pNeq (k := .i64) (a := x8) (b := (-1)) rfl rfl rfl) ?_)
  refine sx rfl (pPick (t := false) (v := (vB (x8 != (-1)))) rfl ((congrArg vB hc166)) rfl) ?_
  refine SeqW.done fun fr167 hf168 => ?_
  have h4 := (congrFun hf168 4).trans h4
  have h5 := (congrFun hf168 5).trans h5
  have h68 : fr167 68 = (vB (x8 != (-1))) := (congrFun hf168 68).trans rfl
  clear hf168
  obtain rfl := Option.some.inj hr
  exact ⟨z, hz, st, rfl, h68, o4, o5, ao4_o5, trivial⟩

theorem u_l36_RulebookLimits_4 {N : Nat}  {z0 z : Nat → Blk} {e m : Mem} {k : Option Nat} {fr : Nat → Value} {x4 : List Wagon} {x10 : Int} {x11 : Int} {v4 : Value} {x5 : List Int} {b5 : Nat} (hz : Zx e.next z0 z) (st : St z e m k) (h4 : fr 4 = v4) (o4 : OwF TWagon z e m k x4 v4) (h5 : fr 5 = (vP b5)) (o5 : OwF (Ty.as (TInt 3 .i64) 50) z e m k x5 (Value.slice (some ⟨b5, 0, none⟩) 4 4)) (h10 : fr 10 = (vI x10)) (h11 : fr 11 = (vI x11)) (ao4_o5 : Ap (blkOf v4) (blkOf (Value.slice (some ⟨b5, 0, none⟩) 4 4))) {r : Bool} (hr : l36_RulebookLimits_4 N x4 x10 x11 = some r) : W Try.prog (sub (bodyOf Try.f7) [1, 1, 1, 1, 1, 0, 1, 0, 0, 1, 0, 0, 1, 1, 1, 1, 0]) (fun ex fr' m' => ∃ z', Zx e.next z0 z' ∧ St z' e m' k ∧ ex = AExit.normal ∧ fr' 91 = (vB r) ∧ OwF TWagon z' e m' k x4 v4 ∧ OwF (Ty.as (TInt 3 .i64) 50) z' e m' k x5 (Value.slice (some ⟨b5, 0, none⟩) 4 4) ∧ Ap (blkOf v4) (blkOf (Value.slice (some ⟨b5, 0, none⟩) 4 4)) ∧ True) fr m := by
 unfold l36_RulebookLimits_4 at hr
 refine W.region ?_
 refine sx rfl (pMove (v := (vI x11)) rfl h11) ?_
 refine sx rfl (pNeq (k := .i64) (a := x11) (b := 0) rfl rfl rfl) ?_
 refine sx rfl (pMove (v := (vB (x11 != 0))) rfl rfl) ?_
 rcases if_some hr with ⟨hc201, hr⟩ | ⟨hc204, hr⟩
 ·refine kx rfl rfl rfl hc201 ?_
  iterate 4 refine kx rfl rfl rfl hc201 ?_
  refine sx rfl (pPick (t := true) (v := (vB true)) rfl ((congrArg vB hc201)) rfl) ?_
  refine SeqW.done fun fr202 hf203 => ?_
  have h4 := (congrFun hf203 4).trans h4
  have h5 := (congrFun hf203 5).trans h5
  have h91 : fr202 91 = (vB true) := (congrFun hf203 91).trans rfl
  clear hf203
  obtain rfl := Option.some.inj hr
  exact ⟨z, hz, st, rfl, h91, o4, o5, ao4_o5, trivial⟩
 ·refine SeqW.consG rfl rfl rfl hc204 (StepX.pure (pMove (v := (vI x10)) rfl h10) ?_)
  refine SeqW.consG rfl rfl rfl hc204 (StepX.pure (pMove (v := v4) rfl h4) ?_)
  refine SeqW.consG rfl rfl rfl hc204 (StepX.pure (pLenO (xs := x4) rfl Try.underlying24 rfl o4.ow) ?_)
  refine SeqW.consG rfl rfl rfl hc204 (StepX.pure (pSub (k := .i64) (a := (x4.length : Int)) (b := 1) rfl rfl rfl) ?_)
  refine SeqW.consG rfl rfl rfl hc204 (StepX.pure (pNeq (k := .i64) (a := x10) (b := (IntKind.wrap .i64 ((x4.length : Int) - 1))) rfl rfl rfl) ?_)
  refine sx rfl (pPick (t := false) (v := (vB (x10 != (IntKind.wrap .i64 ((x4.length : Int) - 1))))) rfl ((congrArg vB hc204)) rfl) ?_
  refine SeqW.done fun fr205 hf206 => ?_
  have h4 := (congrFun hf206 4).trans h4
  have h5 := (congrFun hf206 5).trans h5
  have h91 : fr205 91 = (vB (x10 != (IntKind.wrap .i64 ((x4.length : Int) - 1)))) := (congrFun hf206 91).trans rfl
  clear hf206
  obtain rfl := Option.some.inj hr
  exact ⟨z, hz, st, rfl, h91, o4, o5, ao4_o5, trivial⟩

theorem u_l36_RulebookLimits_2 {N : Nat}  {z0 z : Nat → Blk} {e m : Mem} {k : Option Nat} {fr : Nat → Value} {x4 : List Wagon} {x5 : List Int} {x7 : Int} {v4 : Value} {b5 : Nat} (hz : Zx e.next z0 z) (st : St z e m k) (h4 : fr 4 = v4) (o4 : OwF TWagon z e m k x4 v4) (h5 : fr 5 = (vP b5)) (o5 : OwF (Ty.as (TInt 3 .i64) 50) z e m k x5 (Value.slice (some ⟨b5, 0, none⟩) 4 4)) (h7 : fr 7 = (vI x7)) (ao4_o5 : Ap (blkOf v4) (blkOf (Value.slice (some ⟨b5, 0, none⟩) 4 4))) {r : Sum (Unit) (Bool)} (hr : l36_RulebookLimits_2 N x4 x5 x7 = some r) : W Try.prog (sub (bodyOf Try.f7) [1, 1, 1, 1, 1, 0, 1, 0, 0, 1, 0]) (fun ex fr' m' => ∃ z', Zx e.next z0 z' ∧ St z' e m' k ∧ ((∃ q, r = Sum.inl q ∧ ex = AExit.normal ∧ OwF TWagon z' e m' k x4 v4 ∧ OwF (Ty.as (TInt 3 .i64) 50) z' e m' k x5 (Value.slice (some ⟨b5, 0, none⟩) 4 4) ∧ Ap (blkOf v4) (blkOf (Value.slice (some ⟨b5, 0, none⟩) 4 4)) ∧ True) ∨ (∃ q, r = Sum.inr q ∧ ex = AExit.ret ∧ fr' 2 = (vB q) ∧ True))) fr m := by
 unfold l36_RulebookLimits_2 at hr
 refine W.block ?_
 refine W.seq (W.region ?_)
 refine sx rfl (pMove (v := (vI x7)) rfl h7) ?_
 refine sx rfl (pMove (v := (vI x7)) rfl h7) ?_
 obtain ⟨y149, hy149, hr⟩ := bind_some hr
 refine SeqW.consX rfl (kIdxA (T := (Ty.as (TInt 3 .i64) 50)) (xs := x5) (n := x7) rfl Try.underlying50 Try.type3 rfl h5 rfl o5 hy149 ?_)
 intro cs150 hd151 hg152 hc153
 have hd1510 := hd151
 obtain rfl := hd1510
 refine SeqW.consX rfl (kLoad (v := (vI y149)) rfl Try.underlying3 rfl rfl (hc153 0 _ rfl) ?_)
 refine SeqW.consX rfl (kBuildS [(0, (vI 1)), (1, (vI x7)), (2, (vI y149))] [(vI 1), (vI x7), (vI y149), (vI 0), (vI 0)] rfl Try.underlying32 Try.type32 rfl rfl (places32 Try.underlying32) rfl (rfl) rfl ?_)
 refine sx rfl (pMove (v := v4) rfl h4) ?_
 obtain ⟨z154, hz155, st158, Q156, hl157⟩ := o4.freeze st
 have O159 := o5.zle hz155.le (hl157 _ (Ap.symm ao4_o5))
 obtain ⟨y160, hy160, hr⟩ := bind_some hr
 refine SeqW.consX rfl (StepX.call (gCallee rfl rfl (args3 rfl rfl rfl)) ((c_rulebook_Place (x0 := (Rule.mk 1 x7 y149 0 0)) (z := z154) st158.fz st.dead Q156 (SlR.nil (T := (TInt 3 .i64))) hy160).mono ?_))
 rintro _ _ ⟨rfl, rfl⟩
 refine sx rfl (pMove (v := (Value.tuple [(vI y160.1), (vI y160.2)].toArray)) rfl rfl) ?_
 refine sx rfl (pExtract (vs := [(vI y160.1), (vI y160.2)]) (v := (vI y160.1)) rfl rfl rfl) ?_
 refine sx rfl (pExtract (vs := [(vI y160.1), (vI y160.2)]) (v := (vI y160.2)) rfl rfl rfl) ?_
 refine sx rfl (pAssign (v := (vI y160.1)) rfl rfl) ?_
 refine sx rfl (pAssign (v := (vI y160.2)) rfl rfl) ?_
 refine SeqW.done fun fr161 hf162 => ?_
 have h4 := (congrFun hf162 4).trans h4
 have h5 := (congrFun hf162 5).trans h5
 have h7 := (congrFun hf162 7).trans h7
 have h8 : fr161 8 = (vI y160.1) := (congrFun hf162 8).trans rfl
 have h9 : fr161 9 = (vI y160.2) := (congrFun hf162 9).trans rfl
 clear hf162
 refine thenQ.n (W.seq (W.seq ?_))
 obtain ⟨y169, hy169, hr⟩ := bind_some hr
 refine W.keep (u_l36_RulebookLimits_3 (Zx.refl _) st h4 o4 h5 o5 h8 h9 ao4_o5 hy169) ?_
 rintro ex175 fr170 m171 hk173 ⟨z172, hz174, st, rfl, h68, O176, O177, A178, -⟩
 have h4 := (hk173 4 rfl).trans h4
 have h5 := (hk173 5 rfl).trans h5
 have h7 := (hk173 7 rfl).trans h7
 replace hz := hz.trans hz174
 clear hk173
 refine thenQ.n ?_
 rcases if_some hr with ⟨hc179, hr⟩ | ⟨hc182, hr⟩
 ·refine W.condT h68 hc179 (W.seq (W.region ?_))
  refine sx rfl (pAssign (v := (vB false)) rfl rfl) ?_
  refine SeqW.done fun fr180 hf181 => ?_
  have h2 : fr180 2 = (vB false) := (congrFun hf181 2).trans rfl
  clear hf181
  refine thenQ.n ?_
  refine W.ret ?_
  refine thenQ.r ?_
  refine blockQ.r ?_
  obtain rfl := Option.some.inj hr
  exact ⟨z172, hz, st, .inr ⟨_, rfl, rfl, h2, trivial⟩⟩
 ·refine W.condF h68 hc182 (W.skip ?_)
  refine thenQ.n (W.seq ?_)
  refine W.seq (W.region ?_)
  refine sx rfl (pMove (v := v4) rfl h4) ?_
  refine sx rfl (pLenO (xs := x4) rfl Try.underlying24 rfl O176.ow) ?_
  refine sx rfl (pEql (k := .i64) (a := (x4.length : Int)) (b := 0) rfl rfl rfl) ?_
  refine SeqW.done fun fr183 hf184 => ?_
  have h4 := (congrFun hf184 4).trans h4
  have h5 := (congrFun hf184 5).trans h5
  have h7 := (congrFun hf184 7).trans h7
  have h71 : fr183 71 = (vB ((x4.length : Int) == 0)) := (congrFun hf184 71).trans rfl
  clear hf184
  refine thenQ.n ?_
  rcases if_some hr with ⟨hc185, hr⟩ | ⟨hc186, hr⟩
  ·refine W.condT h71 hc185 ?_
   refine W.exit ?_
   refine thenQ.x ?_
   refine blockQ.hit ?_
   obtain rfl := Option.some.inj hr
   exact ⟨z172, hz, st, .inl ⟨_, rfl, rfl, O176, O177, A178, trivial⟩⟩
  ·refine W.condF h71 hc186 (W.skip ?_)
   refine thenQ.n (W.seq (W.region ?_))
   refine sx rfl (pMove (v := (vI x7)) rfl h7) ?_
   refine sx rfl (pMove (v := (vI x7)) rfl h7) ?_
   obtain ⟨y187, hy187, hr⟩ := bind_some hr
   refine SeqW.consX rfl (kIdxA (T := (Ty.as (TInt 3 .i64) 50)) (xs := x5) (n := x7) rfl Try.underlying50 Try.type3 rfl h5 rfl O177 hy187 ?_)
   intro cs188 hd189 hg190 hc191
   have hd1890 := hd189
   obtain rfl := hd1890
   refine SeqW.consX rfl (kLoad (v := (vI y187)) rfl Try.underlying3 rfl rfl (hc191 0 _ rfl) ?_)
   refine sx rfl (pSub (k := .i64) (a := y187) (b := 1) rfl rfl rfl) ?_
   refine SeqW.consX rfl (kBuildS [(0, (vI 1)), (1, (vI x7)), (2, (vI (IntKind.wrap .i64 (y187 - 1))))] [(vI 1), (vI x7), (vI (IntKind.wrap .i64 (y187 - 1))), (vI 0), (vI 0)] rfl Try.underlying32 Try.type32 rfl rfl (places32 Try.underlying32) rfl (rfl) rfl ?_)
   refine sx rfl (pMove (v := v4) rfl h4) ?_
   obtain ⟨z192, hz193, st196, Q194, hl195⟩ := O176.freeze st
   have O197 := O177.zle hz193.le (hl195 _ (Ap.symm A178))
   obtain ⟨y198, hy198, hr⟩ := bind_some hr
   refine SeqW.consX rfl (StepX.call (gCallee rfl rfl (args3 rfl rfl rfl)) ((c_rulebook_Place (x0 := (Rule.mk 1 x7 (IntKind.wrap .i64 (y187 - 1)) 0 0)) (z := z192) st196.fz st.dead Q194 (SlR.nil (T := (TInt 3 .i64))) hy198).mono ?_))
   rintro _ _ ⟨rfl, rfl⟩
   refine sx rfl (pMove (v := (Value.tuple [(vI y198.1), (vI y198.2)].toArray)) rfl rfl) ?_
   refine sx rfl (pExtract (vs := [(vI y198.1), (vI y198.2)]) (v := (vI y198.1)) rfl rfl rfl) ?_
   refine sx rfl (pExtract (vs := [(vI y198.1), (vI y198.2)]) (v := (vI y198.2)) rfl rfl rfl) ?_
   refine sx rfl (pAssign (v := (vI y198.1)) rfl rfl) ?_
   refine sx rfl (pAssign (v := (vI y198.2)) rfl rfl) ?_
   refine SeqW.done fun fr199 hf200 => ?_
   have h4 := (congrFun hf200 4).trans h4
   have h5 := (congrFun hf200 5).trans h5
   have h7 := (congrFun hf200 7).trans h7
   have h10 : fr199 10 = (vI y198.1) := (congrFun hf200 10).trans rfl
   have h11 : fr199 11 = (vI y198.2) := (congrFun hf200 11).trans rfl
   clear hf200
   refine thenQ.n (W.seq ?_)
   obtain ⟨y207, hy207, hr⟩ := bind_some hr
   refine W.keep (u_l36_RulebookLimits_4 (Zx.refl _) st h4 O176 h5 O177 h10 h11 A178 hy207) ?_
   rintro ex213 fr208 m209 hk211 ⟨z210, hz212, st, rfl, h91, O214, O215, A216, -⟩
   have h4 := (hk211 4 rfl).trans h4
   have h5 := (hk211 5 rfl).trans h5
   have h7 := (hk211 7 rfl).trans h7
   replace hz := hz.trans hz212
   clear hk211
   refine thenQ.n ?_
   rcases if_some hr with ⟨hc217, hr⟩ | ⟨hc220, hr⟩
   ·refine W.condT h91 hc217 (W.seq (W.region ?_))
    refine sx rfl (pAssign (v := (vB false)) rfl rfl) ?_
    refine SeqW.done fun fr218 hf219 => ?_
    have h2 : fr218 2 = (vB false) := (congrFun hf219 2).trans rfl
    clear hf219
    refine thenQ.n ?_
    refine W.ret ?_
    refine blockQ.r ?_
    obtain rfl := Option.some.inj hr
    exact ⟨z210, hz, st, .inr ⟨_, rfl, rfl, h2, trivial⟩⟩
   ·refine W.condF h91 hc220 (W.skip ?_)
    refine blockQ.n ?_
    obtain rfl := Option.some.inj hr
    exact ⟨z210, hz, st, .inl ⟨_, rfl, rfl, O214, O215, A216, trivial⟩⟩

theorem u_l36_RulebookLimits_1 : ∀ (n : Nat) {N : Nat}  {z0 z : Nat → Blk} {e m : Mem} {k : Option Nat} {fr : Nat → Value} {x4 : List Wagon} {x5 : List Int} {x7 : Int} {v4 : Value} {b5 : Nat} (hz : Zx e.next z0 z) (st : St z e m k) (h4 : fr 4 = v4) (o4 : OwF TWagon z e m k x4 v4) (h5 : fr 5 = (vP b5)) (o5 : OwF (Ty.as (TInt 3 .i64) 50) z e m k x5 (Value.slice (some ⟨b5, 0, none⟩) 4 4)) (h7 : fr 7 = (vI x7)) (ao4_o5 : Ap (blkOf v4) (blkOf (Value.slice (some ⟨b5, 0, none⟩) 4 4))) {r : Sum (Unit) (Bool)} (hr : l36_RulebookLimits_1 N x4 x5 n x7 = some r), W Try.prog (sub (bodyOf Try.f7) [1, 1, 1, 1, 1, 0, 1, 0]) (fun ex fr' m' => ∃ z', Zx e.next z0 z' ∧ St z' e m' k ∧ ((∃ q, r = Sum.inl q ∧ ex = AExit.exit 2 ∧ True) ∨ (∃ q, r = Sum.inr q ∧ ex = AExit.ret ∧ fr' 2 = (vB q) ∧ True))) fr m := by
 intro n
 induction n with
 | zero => intro N z0 z e m k fr x4 x5 x7 v4 b5 hz st h4 o4 h5 o5 h7 ao4_o5 r hr; cases (show (none : Option _) = some r from hr)
 | succ n ih =>
  intro N z0 z e m k fr x4 x5 x7 v4 b5 hz st h4 o4 h5 o5 h7 ao4_o5 r hr
  unfold l36_RulebookLimits_1 at hr
  refine W.loop1 ?_
  refine W.seq (W.seq (W.region ?_))
  refine sx rfl (pMove (v := (vI x7)) rfl h7) ?_
  refine sx rfl (pLeq (k := .i64) (a := x7) (b := 3) rfl rfl rfl) ?_
  refine SeqW.done fun fr146 hf147 => ?_
  have h4 := (congrFun hf147 4).trans h4
  have h5 := (congrFun hf147 5).trans h5
  have h7 := (congrFun hf147 7).trans h7
  have h50 : fr146 50 = (vB (decide (x7 ≤ 3))) := (congrFun hf147 50).trans rfl
  clear hf147
  refine thenQ.n ?_
  rcases if_some hr with ⟨hc148, hr⟩ | ⟨hc236, hr⟩
  ·refine W.condT h50 hc148 (W.skip ?_)
   refine thenQ.n (W.seq ?_)
   obtain ⟨y221, hy221, hr⟩ := bind_some hr
   refine W.keep (u_l36_RulebookLimits_2 (Zx.refl _) st h4 o4 h5 o5 h7 ao4_o5 hy221) ?_
   rintro ex227 fr222 m223 hk225 ⟨z224, hz226, st, ⟨y228, rfl, rfl, O229, O230, A231, -⟩ | ⟨y235, rfl, rfl, h2, -⟩⟩
   ·dsimp only at hr
    have h4 := (hk225 4 rfl).trans h4
    have h5 := (hk225 5 rfl).trans h5
    have h7 := (hk225 7 rfl).trans h7
    replace hz := hz.trans hz226
    clear hk225
    refine thenQ.n (W.region ?_)
    refine sx rfl (pMove (v := (vI x7)) rfl h7) ?_
    refine sx rfl (pAdd (k := .i64) (a := x7) (b := 1) rfl rfl rfl) ?_
    obtain ⟨y232, hy232, hr⟩ := lt_some hr
    refine sx rfl (pAssign rfl (congrArg (Value.int .i64) hy232)) ?_
    refine SeqW.done fun fr233 hf234 => ?_
    have h4 := (congrFun hf234 4).trans h4
    have h5 := (congrFun hf234 5).trans h5
    have h7 : fr233 7 = (vI y232) := (congrFun hf234 7).trans rfl
    clear hf234
    refine thenQ.n ?_
    exact ih hz st h4 O229 h5 O230 h7 A231 hr
   ·dsimp only at hr
    replace hz := hz.trans hz226
    clear hk225
    refine thenQ.r ?_
    refine thenQ.r ?_
    obtain rfl := Option.some.inj hr
    exact ⟨z224, hz, st, .inr ⟨_, rfl, rfl, h2, trivial⟩⟩
  ·refine W.condF h50 hc236 ?_
   refine W.exit ?_
   refine thenQ.x ?_
   refine thenQ.x ?_
   obtain rfl := Option.some.inj hr
   exact ⟨z, hz, st, .inl ⟨_, rfl, rfl, trivial⟩⟩

theorem u_l36_RulebookLimits {N : Nat}  {z0 z : Nat → Blk} {e m : Mem} {k : Option Nat} {fr : Nat → Value} {x0 : List Int} {v0 : Value} (hz : Zx e.next z0 z) (st : St z e m k) (h0 : fr 0 = v0) (s0 : SlR (TInt 3 .i64) z x0 v0) {r : Bool} (hr : l36_RulebookLimits N x0 = some r) : W Try.prog (sub (bodyOf Try.f7) []) (fun ex fr' m' => ∃ z', Zx e.next z0 z' ∧ St z' e m' k ∧ (ex = .normal ∨ ex = .ret) ∧ fr' 2 = (vB r) ∧ True) fr m := by
 unfold l36_RulebookLimits at hr
 refine W.seq (W.region ?_)
 refine sx rfl (pAssign (v := (vB false)) rfl rfl) ?_
 refine SeqW.done fun fr1 hf2 => ?_
 have h0 := (congrFun hf2 0).trans h0
 clear hf2
 refine thenQ.n (W.seq (W.region ?_))
 refine sx rfl (pMove (v := v0) rfl h0) ?_
 obtain ⟨y3, hy3, hr⟩ := bind_some hr
 refine SeqW.consX rfl (StepX.call (gCallee rfl rfl (args1 rfl)) ((c_gen_New (z := z) st.fz st.dead s0 hy3).mono ?_))
 rintro _ m8 ⟨z4, B9, V12, hzx5, fz6, sm7, rfl, Q13, X10, hn15, -⟩
 replace s0 := s0.mono hzx5.le
 have X10 : Bx z4 e m8 k B9 _ _ := ⟨X10.blk, X10.lt, X10.dead, .inl (Nat.le_trans st.next hn15)⟩
 replace hz := hz.trans (Zx.here st hzx5)
 replace st := st.call hzx5 fz6 sm7 no_hq
 refine sx rfl (pAssign (v := (vP B9)) rfl rfl) ?_
 refine SeqW.done fun fr16 hf17 => ?_
 have h3 : fr16 3 = (vP B9) := (congrFun hf17 3).trans rfl
 clear hf17
 refine thenQ.n (W.seq (W.region ?_))
 refine sx rfl (pMove (v := (vP B9)) rfl h3) ?_
 obtain ⟨y18, hy18, hr⟩ := bind_some hr
 refine SeqW.consX rfl (StepX.call (gCallee rfl rfl (args2 rfl rfl)) ((c_Maker_Wagons (x0 := y3) (z := z4) st.fz st.dead Q13 ⟨X10.blk, X10.lt, X10.dead, .inr rfl⟩ hy18).mono ?_))
 rintro V24 m23 ⟨z19, _, V27, hzx20, fz21, sm22, rfl, Q25, Q28, X30, -⟩
 have A31 := Ap.own X10.lt' Q25.fresh
 replace Q13 := Q13.mono hzx20.le
 have X10n : Bx z19 e m23 k B9 _ _ := ⟨X30.blk, X30.lt, X30.dead, X10.fresh⟩
 have Q25 : OwF TWagon z19 e m23 k y18.1 V24 := Q25.up st.next
 replace hz := hz.trans (Zx.here st hzx20)
 replace st := st.call hzx20 fz21 sm22 X10.hq
 refine sx rfl (pAssign (v := V24) rfl rfl) ?_
 refine SeqW.done fun fr32 hf33 => ?_
 have h4 : fr32 4 = V24 := (congrFun hf33 4).trans rfl
 clear hf33
 refine thenQ.n (W.seq (W.region ?_))
 refine SeqW.consX rfl (kAllocA (T := (TInt 3 .i64)) (x0 := 0) (n := 4) (c := [(vI 0)]) rfl Try.type50 rfl rfl rfl rfl rfl rfl st ?_)
 intro B34 m35 st X36 sm37 hap38
 have A40 := hap38 _ Q25.lt
 replace Q25 := Q25.same sm37 Ap.none'
 refine SeqW.done fun fr41 hf42 => ?_
 have h4 := (congrFun hf42 4).trans h4
 have h5 : fr41 5 = (vP B34) := (congrFun hf42 5).trans rfl
 clear hf42
 refine thenQ.n (W.seq ?_)
 refine W.seq (W.region ?_)
 refine sx rfl (pAssign (v := (vI 0)) rfl rfl) ?_
 refine SeqW.done fun fr43 hf44 => ?_
 have h4 := (congrFun hf44 4).trans h4
 have h5 := (congrFun hf44 5).trans h5
 have h6 : fr43 6 = (vI 0) := (congrFun hf44 6).trans rfl
 clear hf44
 refine thenQ.n ?_
 refine W.block ?_
 obtain ⟨y133, hy133, hr⟩ := bind_some hr
 refine W.keep (u_l36_RulebookLimits_0 _ (Zx.refl _) st h4 Q25 h5 X36 h6 A40 hy133) ?_
 rintro ex139 fr134 m135 hk137 ⟨z136, hz138, st, rfl, h5, O141, O142, A143, -⟩
 have h4 := (hk137 4 rfl).trans h4
 replace hz := hz.trans hz138
 clear hk137
 refine blockQ.hit ?_
 refine thenQ.n (W.seq ?_)
 refine W.seq (W.region ?_)
 refine sx rfl (pAssign (v := (vI 1)) rfl rfl) ?_
 refine SeqW.done fun fr144 hf145 => ?_
 have h4 := (congrFun hf145 4).trans h4
 have h5 := (congrFun hf145 5).trans h5
 have h7 : fr144 7 = (vI 1) := (congrFun hf145 7).trans rfl
 clear hf145
 refine thenQ.n ?_
 refine W.block ?_
 obtain ⟨y237, hy237, hr⟩ := bind_some hr
 refine W.keep (u_l36_RulebookLimits_1 _ (Zx.refl _) st h4 O142 h5 O141 h7 (Ap.symm A143) hy237) ?_
 rintro ex243 fr238 m239 hk241 ⟨z240, hz242, st, ⟨y244, rfl, rfl, -⟩ | ⟨y248, rfl, rfl, h2, -⟩⟩
 ·dsimp only at hr
  replace hz := hz.trans hz242
  clear hk241
  refine blockQ.hit ?_
  refine thenQ.n (W.seq (W.region ?_))
  obtain ⟨y245, hy245, hr⟩ := bind_some hr
  refine SeqW.consX rfl (StepX.call (gCallee rfl rfl args0) ((c_l36_sane (z := z240) st.fz st.dead  hy245).mono ?_))
  rintro _ _ ⟨rfl, rfl⟩
  refine sx rfl (pAssign (v := (vB y245)) rfl rfl) ?_
  refine SeqW.done fun fr246 hf247 => ?_
  have h2 : fr246 2 = (vB y245) := (congrFun hf247 2).trans rfl
  clear hf247
  refine thenQ.n ?_
  refine W.ret ?_
  obtain rfl := Option.some.inj hr
  exact ⟨z240, hz, st, .inr rfl, h2, trivial⟩
 ·dsimp only at hr
  replace hz := hz.trans hz242
  clear hk241
  refine blockQ.r ?_
  refine thenQ.r ?_
  obtain rfl := Option.some.inj hr
  exact ⟨z240, hz, st, .inr rfl, h2, trivial⟩

theorem c_l36_RulebookLimits {N : Nat} {z : Nat → Blk} {m : Mem} {x0 : List Int} {v0 : Value} (fz : Fz z m) (hd : ∀ b, m.next ≤ b → m.blk b = .dead) (s0 : SlR (TInt 3 .i64) z x0 v0) {r : Bool} (hr : l36_RulebookLimits N x0 = some r) : CallW Try.prog 7 #[v0] m fun v m' => v = (vB r) ∧ m' = m := by
 refine CallW.flat Try.func7 rfl (by kernel_rfl) (Nat.le_of_ble_eq_true rfl) rfl (z := z) (fun fr hf => ?_)
 have h0 : fr 0 = _ := hf 0 _ rfl
 refine (u_l36_RulebookLimits (k := none) (Zx.refl _) (St.start fz hd) h0 s0 hr).mono ?_
 rintro ex fr' m' ⟨z', hz, st, he, h2, -⟩
 exact ⟨he, z', st, [(vB r)], ⟨h2.symm, trivial⟩, .inl rfl, rfl⟩

end Go.W
