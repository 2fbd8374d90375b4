/- The models are what the program computes. -/
import Derived.Test.YtaoioacomnnhdaaW2
set_option linter.unusedVariables false
set_option linter.unusedSimpArgs false
set_option maxRecDepth 100000
set_option maxHeartbeats 4000000
namespace Go.W
open Go.AM Go.Proofs


/-! ### humpyard/rulebook.Place -/

theorem u_rulebook_Place {N : Nat}  {z0 z : Nat → Blk} {e m : Mem} {k : Option Nat} {fr : Nat → Value} {x0 : Rule} {x1 : List Wagon} {x2 : List Int} {v1 : Value} {v2 : Value} (hz : Zx e.next z0 z) (st : St z e m k) (h0 : fr 0 = (Value.agg [(vI x0.number), (vI x0.kind), (vI x0.a), (vI x0.b), (vI x0.c)].toArray)) (h1 : fr 1 = v1) (s1 : SlR TWagon z x1 v1) (h2 : fr 2 = v2) (s2 : SlR (TInt 3 .i64) z x2 v2) {r : Int × Int} (hr : rulebook_Place N x0 x1 x2 = some r) : W Try.prog (sub (bodyOf Try.f19) []) (fun ex fr' m' => ∃ z', Zx e.next z0 z' ∧ St z' e m' k ∧ (ex = .normal ∨ ex = .ret) ∧ fr' 6 = (vI r.1) ∧ fr' 7 = (vI r.2) ∧ True) fr m := by
 unfold rulebook_Place at hr
 refine W.seq (W.region ?_)
 refine SeqW.consX rfl (kBox (v := (Value.agg [(vI x0.number), (vI x0.kind), (vI x0.a), (vI x0.b), (vI x0.c)].toArray)) rfl Try.type32 h0 rfl [(vI x0.number), (vI x0.kind), (vI x0.a), (vI x0.b), (vI x0.c)] rfl rfl st ?_)
 intro B1 m2  st X3 sm4 hap5
 refine sx rfl (pAssign (v := (vI 0)) rfl rfl) ?_
 refine sx rfl (pAssign (v := (vI 0)) rfl rfl) ?_
 refine SeqW.done fun fr7 hf8 => ?_
 have h1 := (congrFun hf8 1).trans h1
 have h2 := (congrFun hf8 2).trans h2
 have h3 : fr7 3 = (vP B1) := (congrFun hf8 3).trans rfl
 clear hf8
 refine thenQ.n (W.seq ?_)
 refine W.seq (W.region ?_)
 refine SeqW.consX rfl (kLoadA rfl Try.underlying32 rfl Try.type32 rfl h3 X3.loads ?_)
 obtain ⟨y9, hy9, hr⟩ := bind_some hr
 refine SeqW.consX rfl (StepX.call (gCallee rfl rfl (args1 rfl)) ((c_rulebook_valid (x0 := x0) (z := z) st.fz st.dead  hy9).mono ?_))
 rintro _ _ ⟨rfl, rfl⟩
 refine sx rfl (pNot (b := y9) rfl rfl) ?_
 refine SeqW.done fun fr10 hf11 => ?_
 have h1 := (congrFun hf11 1).trans h1
 have h2 := (congrFun hf11 2).trans h2
 have h3 := (congrFun hf11 3).trans h3
 have h12 : fr10 12 = (vB (!y9)) := (congrFun hf11 12).trans rfl
 clear hf11
 refine thenQ.n ?_
 rcases if_some hr with ⟨hc12, hr⟩ | ⟨hc15, hr⟩
 ·refine W.condT h12 hc12 (W.seq (W.region ?_))
  refine sx rfl (pAssign (v := (vI 0)) rfl rfl) ?_
  refine sx rfl (pAssign (v := (vI 1)) rfl rfl) ?_
  refine SeqW.done fun fr13 hf14 => ?_
  have h6 : fr13 6 = (vI 0) := (congrFun hf14 6).trans rfl
  have h7 : fr13 7 = (vI 1) := (congrFun hf14 7).trans rfl
  clear hf14
  refine thenQ.n ?_
  refine W.ret ?_
  refine thenQ.r ?_
  obtain rfl := Option.some.inj hr
  exact ⟨z, hz, st, .inr rfl, h6, h7, trivial⟩
 ·refine W.condF h12 hc15 (W.skip ?_)
  refine thenQ.n (W.seq (W.region ?_))
  refine sx rfl (pMove (v := v1) rfl h1) ?_
  refine sx rfl (pMove (v := v2) rfl h2) ?_
  obtain ⟨y16, hy16, hr⟩ := bind_some hr
  refine SeqW.consX rfl (StepX.call (gCallee rfl rfl (args2 rfl rfl)) ((c_brake_Total (z := z) st.fz st.dead s1 s2 hy16).mono ?_))
  rintro _ m21 ⟨z17, hzx18, fz19, sm20, rfl, -⟩
  replace s1 := s1.mono hzx18.le
  replace s2 := s2.mono hzx18.le
  replace X3 := X3.call hzx18 sm20 Ap.none'
  replace hz := hz.trans (Zx.here st hzx18)
  replace st := st.call hzx18 fz19 sm20 no_hq
  refine sx rfl (pMove (v := (Value.tuple [(Value.agg [(vI y16.1.length), (vI y16.1.axles), (vI y16.1.mass), (vI y16.1.braked), (vI y16.1.percent), (vI y16.1.required), (vI y16.1.missing)].toArray), (vI y16.2)].toArray)) rfl rfl) ?_
  refine sx rfl (pExtract (vs := [(Value.agg [(vI y16.1.length), (vI y16.1.axles), (vI y16.1.mass), (vI y16.1.braked), (vI y16.1.percent), (vI y16.1.required), (vI y16.1.missing)].toArray), (vI y16.2)]) (v := (Value.agg [(vI y16.1.length), (vI y16.1.axles), (vI y16.1.mass), (vI y16.1.braked), (vI y16.1.percent), (vI y16.1.required), (vI y16.1.missing)].toArray)) rfl rfl rfl) ?_
  refine sx rfl (pExtract (vs := [(Value.agg [(vI y16.1.length), (vI y16.1.axles), (vI y16.1.mass), (vI y16.1.braked), (vI y16.1.percent), (vI y16.1.required), (vI y16.1.missing)].toArray), (vI y16.2)]) (v := (vI y16.2)) rfl rfl rfl) ?_
  refine SeqW.consX rfl (kAlloc rfl Try.type59 rfl rfl rfl [(vI 0), (vI 0), (vI 0), (vI 0), (vI 0), (vI 0), (vI 0)] rfl st ?_)
  intro B22 m23  st X24 sm25 hap26
  have A28 := hap26 _ X3.lt'
  replace X3 := X3.same sm25 Ap.none'
  refine SeqW.consX rfl (kPut (off := 0) (w := (Value.agg [(vI y16.1.length), (vI y16.1.axles), (vI y16.1.mass), (vI y16.1.braked), (vI y16.1.percent), (vI y16.1.required), (vI y16.1.missing)].toArray)) (new := [(vI y16.1.length), (vI y16.1.axles), (vI y16.1.mass), (vI y16.1.braked), (vI y16.1.percent), (vI y16.1.required), (vI y16.1.missing)]) rfl Try.type59 rfl rfl rfl rfl rfl X24 rfl [(vI y16.1.length), (vI y16.1.axles), (vI y16.1.mass), (vI y16.1.braked), (vI y16.1.percent), (vI y16.1.required), (vI y16.1.missing)] rfl st ?_)
  intro m29 st X24 sm30
  replace X3 := X3.same sm30 A28
  refine sx rfl (pAssign (v := (vI y16.2)) rfl rfl) ?_
  refine SeqW.done fun fr31 hf32 => ?_
  have h1 := (congrFun hf32 1).trans h1
  have h2 := (congrFun hf32 2).trans h2
  have h3 := (congrFun hf32 3).trans h3
  have h8 : fr31 8 = (vP B22) := (congrFun hf32 8).trans rfl
  have h9 : fr31 9 = (vI y16.2) := (congrFun hf32 9).trans rfl
  clear hf32
  refine thenQ.n (W.seq ?_)
  refine W.seq (W.region ?_)
  refine sx rfl (pMove (v := (vI y16.2)) rfl h9) ?_
  refine sx rfl (pNeq (k := .i64) (a := y16.2) (b := 0) rfl rfl rfl) ?_
  refine SeqW.done fun fr33 hf34 => ?_
  have h1 := (congrFun hf34 1).trans h1
  have h2 := (congrFun hf34 2).trans h2
  have h3 := (congrFun hf34 3).trans h3
  have h8 := (congrFun hf34 8).trans h8
  have h9 := (congrFun hf34 9).trans h9
  have h20 : fr33 20 = (vB (y16.2 != 0)) := (congrFun hf34 20).trans rfl
  clear hf34
  refine thenQ.n ?_
  rcases if_some hr with ⟨hc35, hr⟩ | ⟨hc38, hr⟩
  ·refine W.condT h20 hc35 (W.seq (W.region ?_))
   refine sx rfl (pMove (v := (vI y16.2)) rfl h9) ?_
   refine sx rfl (pAssign (v := (vI 0)) rfl rfl) ?_
   refine sx rfl (pAssign (v := (vI y16.2)) rfl rfl) ?_
   refine SeqW.done fun fr36 hf37 => ?_
   have h6 : fr36 6 = (vI 0) := (congrFun hf37 6).trans rfl
   have h7 : fr36 7 = (vI y16.2) := (congrFun hf37 7).trans rfl
   clear hf37
   refine thenQ.n ?_
   refine W.ret ?_
   refine thenQ.r ?_
   obtain rfl := Option.some.inj hr
   exact ⟨z17, hz, st, .inr rfl, h6, h7, trivial⟩
  ·refine W.condF h20 hc38 (W.skip ?_)
   refine thenQ.n (W.seq (W.region ?_))
   refine sx rfl (pMove (v := v1) rfl h1) ?_
   refine sx rfl (pMove (v := v2) rfl h2) ?_
   refine SeqW.consX rfl (kLoadA rfl Try.underlying59 rfl Try.type59 rfl h8 X24.loads ?_)
   obtain ⟨A39, c40, eA39⟩ := s1.len
   subst eA39
   obtain ⟨A41, c42, eA41⟩ := s2.len
   subst eA41
   refine SeqW.consX rfl (kBuildS [(0, (Value.slice A39 (x1).length c40)), (1, (Value.slice A41 (x2).length c42)), (2, (Value.agg [(vI y16.1.length), (vI y16.1.axles), (vI y16.1.mass), (vI y16.1.braked), (vI y16.1.percent), (vI y16.1.required), (vI y16.1.missing)].toArray))] [(Value.slice A39 (x1).length c40), (Value.slice A41 (x2).length c42), (vI y16.1.length), (vI y16.1.axles), (vI y16.1.mass), (vI y16.1.braked), (vI y16.1.percent), (vI y16.1.required), (vI y16.1.missing)] rfl Try.underlying63 Try.type63 rfl rfl (places63 Try.underlying63) rfl (rfl) rfl ?_)
   refine SeqW.consX rfl (kLoadA rfl Try.underlying32 rfl Try.type32 rfl h3 X3.loads ?_)
   obtain ⟨y43, hy43, hr⟩ := bind_some hr
   refine SeqW.consX rfl (StepX.call (gCallee rfl rfl (args2 rfl rfl)) ((c_train_place (x0 := (Train.mk x1 x2 (Brakes.mk y16.1.length y16.1.axles y16.1.mass y16.1.braked y16.1.percent y16.1.required y16.1.missing))) (x1 := x0) (z := z17) st.fz st.dead s1 s2 hy43).mono ?_))
   rintro _ _ ⟨rfl, rfl⟩
   refine sx rfl (pAssign (v := (vI y43)) rfl rfl) ?_
   refine sx rfl (pAssign (v := (vI 0)) rfl rfl) ?_
   refine SeqW.done fun fr44 hf45 => ?_
   have h6 : fr44 6 = (vI y43) := (congrFun hf45 6).trans rfl
   have h7 : fr44 7 = (vI 0) := (congrFun hf45 7).trans rfl
   clear hf45
   refine thenQ.n ?_
   refine W.ret ?_
   obtain rfl := Option.some.inj hr
   exact ⟨z17, hz, st, .inr rfl, h6, h7, trivial⟩

theorem c_rulebook_Place {N : Nat} {z : Nat → Blk} {m : Mem} {x0 : Rule} {x1 : List Wagon} {x2 : List Int} {v1 : Value} {v2 : Value} (fz : Fz z m) (hd : ∀ b, m.next ≤ b → m.blk b = .dead) (s1 : SlR TWagon z x1 v1) (s2 : SlR (TInt 3 .i64) z x2 v2) {r : Int × Int} (hr : rulebook_Place N x0 x1 x2 = some r) : CallW Try.prog 19 #[(Value.agg [(vI x0.number), (vI x0.kind), (vI x0.a), (vI x0.b), (vI x0.c)].toArray), v1, v2] m fun v m' => v = (Value.tuple [(vI r.1), (vI r.2)].toArray) ∧ m' = m := by
 refine CallW.flat Try.func19 rfl (by kernel_rfl) (Nat.le_of_ble_eq_true rfl) rfl (z := z) (fun fr hf => ?_)
 have h0 : fr 0 = _ := hf 0 _ rfl
 have h1 : fr 1 = _ := hf 1 _ rfl
 have h2 : fr 2 = _ := hf 2 _ rfl
 refine (u_rulebook_Place (k := none) (Zx.refl _) (St.start fz hd) h0 h1 s1 h2 s2 hr).mono ?_
 rintro ex fr' m' ⟨z', hz, st, he, h6, h7, -⟩
 exact ⟨he, z', st, [(vI r.1), (vI r.2)], ⟨h6.symm, h7.symm, trivial⟩, .inr (List.forall_mem_cons.2 ⟨rfl, List.forall_mem_cons.2 ⟨rfl, fun _ h => nomatch h⟩⟩), rfl⟩

/-! ### humpyard/humpyardlaw36.wagon -/

theorem u_l36_wagon {N : Nat}  {z0 z : Nat → Blk} {e m : Mem} {k : Option Nat} {fr : Nat → Value} {x0 : Int} {x1 : Int} (hz : Zx e.next z0 z) (st : St z e m k) (h0 : fr 0 = (vI x0)) (h1 : fr 1 = (vI x1)) {r : Wagon} (hr : l36_wagon N x0 x1 = some r) : W Try.prog (sub (bodyOf Try.f28) []) (fun ex fr' m' => ∃ z', Zx e.next z0 z' ∧ St z' e m' k ∧ (ex = .normal ∨ ex = .ret) ∧ ∃ (c4 : Nat), fr' 4 = (vP c4) ∧ Bx z' e m' k c4 [(str r.number), (vI r.length), (vI r.axles), (vI r.mass), (vI r.brake), (vI r.goods), (vB r.gentle), (str r.dest)] 36 ∧ (e.next ≤ c4 ∨ k = some c4) ∧ True) fr m := by
 unfold l36_wagon at hr
 refine W.seq (W.region ?_)
 refine SeqW.consX rfl (kAlloc rfl Try.type36 rfl rfl rfl [(str []), (vI 0), (vI 0), (vI 0), (vI 0), (vI 0), (vB false), (str [])] rfl st ?_)
 intro B1 m2  st X3 sm4 hap5
 refine SeqW.done fun fr7 hf8 => ?_
 have h0 := (congrFun hf8 0).trans h0
 have h1 := (congrFun hf8 1).trans h1
 have h4 : fr7 4 = (vP B1) := (congrFun hf8 4).trans rfl
 clear hf8
 refine thenQ.n (W.seq (W.region ?_))
 refine SeqW.consX rfl (kBuild (T := (TInt 3 .i64)) rfl Try.underlying22 Try.type3 rfl rfl rfl rfl ([7] : List Int) [[(vI 7)]] rfl rfl rfl (BuildOk.mk (w := (vI 7)) rfl rfl rfl rfl trivial) st ?_)
 intro V9 m10 st O11 sm12 hap13
 have A15 := hap13 _ X3.lt'
 replace X3 := X3.same sm12 Ap.none'
 obtain ⟨z16, hz17, st, Q18, hl19⟩ := O11.freeze st
 replace X3 := X3.zle (hl19 _ A15)
 replace hz := hz.trans hz17
 obtain ⟨y20, hy20, hr⟩ := bind_some hr
 refine SeqW.consX rfl (StepX.call (gCallee rfl rfl (args1 rfl)) ((c_gen_New (z := z16) st.fz st.dead Q18 hy20).mono ?_))
 rintro _ m25 ⟨z21, B26, V29, hzx22, fz23, sm24, rfl, Q30, X27, hn32, -⟩
 have A33 := Ap.fresh X3.lt' hn32
 replace X3 := X3.call hzx22 sm24 Ap.none'
 replace Q18 := Q18.mono hzx22.le
 have X27 : Bx z21 e m25 k B26 _ _ := ⟨X27.blk, X27.lt, X27.dead, .inl (Nat.le_trans st.next hn32)⟩
 replace hz := hz.trans (Zx.here st hzx22)
 replace st := st.call hzx22 fz23 sm24 no_hq
 refine sx rfl (pMove (v := (vI x0)) rfl h0) ?_
 obtain ⟨y34, hy34, hr⟩ := bind_some hr
 refine SeqW.consX rfl (StepX.call (gCallee rfl rfl (args2 rfl rfl)) ((c_Maker_Wagon (x0 := y20) (z := z21) st.fz st.dead Q30 ⟨X27.blk, X27.lt, X27.dead, .inr rfl⟩ hy34).mono ?_))
 rintro _ m39 ⟨z35, V40, hzx36, fz37, sm38, rfl, Q41, X43, -⟩
 replace X3 := X3.call hzx36 sm38 A33
 replace Q30 := Q30.mono hzx36.le
 have X27n : Bx z35 e m39 k B26 _ _ := ⟨X43.blk, X43.lt, X43.dead, X27.fresh⟩
 replace hz := hz.trans (Zx.here st hzx36)
 replace st := st.call hzx36 fz37 sm38 X27.hq
 refine SeqW.consX rfl (kAlloc rfl Try.type36 rfl rfl rfl [(str []), (vI 0), (vI 0), (vI 0), (vI 0), (vI 0), (vB false), (str [])] rfl st ?_)
 intro B44 m45  st X46 sm47 hap48
 have A50 := hap48 _ X3.lt'
 replace X3 := X3.same sm47 Ap.none'
 refine SeqW.consX rfl (kPut (off := 0) (w := (Value.agg [(str y34.1.number), (vI y34.1.length), (vI y34.1.axles), (vI y34.1.mass), (vI y34.1.brake), (vI y34.1.goods), (vB y34.1.gentle), (str y34.1.dest)].toArray)) (new := [(str y34.1.number), (vI y34.1.length), (vI y34.1.axles), (vI y34.1.mass), (vI y34.1.brake), (vI y34.1.goods), (vB y34.1.gentle), (str y34.1.dest)]) rfl Try.type36 rfl rfl rfl rfl rfl X46 rfl [(str y34.1.number), (vI y34.1.length), (vI y34.1.axles), (vI y34.1.mass), (vI y34.1.brake), (vI y34.1.goods), (vB y34.1.gentle), (str y34.1.dest)] rfl st ?_)
 intro m51 st X46 sm52
 replace X3 := X3.same sm52 A50
 refine SeqW.done fun fr53 hf54 => ?_
 have h1 := (congrFun hf54 1).trans h1
 have h4 := (congrFun hf54 4).trans h4
 have h5 : fr53 5 = (vP B44) := (congrFun hf54 5).trans rfl
 clear hf54
 refine thenQ.n (W.seq (W.region ?_))
 refine sx rfl (pMove (v := (vI x1)) rfl h1) ?_
 refine SeqW.consX rfl (kField rfl Try.underlying36 rfl Try.type3 rfl h5 rfl ?_)
 refine SeqW.consX rfl (kPut (off := 5) (w := (vI x1)) (new := [(vI x1)]) rfl Try.type3 rfl rfl rfl rfl rfl X46 rfl [(str y34.1.number), (vI y34.1.length), (vI y34.1.axles), (vI y34.1.mass), (vI y34.1.brake), (vI x1), (vB y34.1.gentle), (str y34.1.dest)] rfl st ?_)
 intro m55 st X46 sm56
 replace X3 := X3.same sm56 A50
 refine SeqW.done fun fr57 hf58 => ?_
 have h4 := (congrFun hf58 4).trans h4
 have h5 := (congrFun hf58 5).trans h5
 clear hf58
 refine thenQ.n (W.seq (W.region ?_))
 refine SeqW.consX rfl (kLoadA rfl Try.underlying36 rfl Try.type36 rfl h5 X46.loads ?_)
 refine SeqW.consX rfl (kPut (off := 0) (w := (Value.agg [(str y34.1.number), (vI y34.1.length), (vI y34.1.axles), (vI y34.1.mass), (vI y34.1.brake), (vI x1), (vB y34.1.gentle), (str y34.1.dest)].toArray)) (new := [(str y34.1.number), (vI y34.1.length), (vI y34.1.axles), (vI y34.1.mass), (vI y34.1.brake), (vI x1), (vB y34.1.gentle), (str y34.1.dest)]) rfl Try.type36 h4 rfl rfl rfl rfl X3 rfl [(str y34.1.number), (vI y34.1.length), (vI y34.1.axles), (vI y34.1.mass), (vI y34.1.brake), (vI x1), (vB y34.1.gentle), (str y34.1.dest)] rfl st ?_)
 intro m59 st X3 sm60
 refine SeqW.done fun fr61 hf62 => ?_
 have h4 := (congrFun hf62 4).trans h4
 clear hf62
 refine thenQ.n ?_
 refine W.ret ?_
 obtain rfl := Option.some.inj hr
 exact ⟨z35, hz, st, .inr rfl, B1, h4, X3, X3.fresh, trivial⟩

theorem c_l36_wagon {N : Nat} {z : Nat → Blk} {m : Mem} {x0 : Int} {x1 : Int} (fz : Fz z m) (hd : ∀ b, m.next ≤ b → m.blk b = .dead)  {r : Wagon} (hr : l36_wagon N x0 x1 = some r) : CallW Try.prog 28 #[(vI x0), (vI x1)] m fun v m' => ∃ z', Zx m.next z z' ∧ Fz z' m' ∧ Same m m' none ∧ v = (Value.agg [(str r.number), (vI r.length), (vI r.axles), (vI r.mass), (vI r.brake), (vI r.goods), (vB r.gentle), (str r.dest)].toArray) ∧ True := by
 refine CallW.any Try.func28 rfl (by kernel_rfl) (Nat.le_of_ble_eq_true rfl) (fun fr hf => ?_)
 have h0 : fr 0 = _ := hf 0 _ rfl
 have h1 : fr 1 = _ := hf 1 _ rfl
 refine (u_l36_wagon (k := none) (Zx.refl _) (St.start fz hd) h0 h1 hr).mono ?_
 rintro ex fr' m' ⟨z', hz, st, he, c4, h4, bx4, fx4, -⟩
 exact ⟨he, [(Value.agg [(str r.number), (vI r.length), (vI r.axles), (vI r.mass), (vI r.brake), (vI r.goods), (vB r.gentle), (str r.dest)].toArray)], ⟨resCell h4 bx4 Try.underlying36 rfl Try.type36 rfl, trivial⟩, .inl rfl, z', hz, st.fz, st.toSame, rfl, trivial⟩

/-! ### humpyard/humpyardlaw36.sane -/

theorem u_l36_sane_0 {N : Nat}  {z0 z : Nat → Blk} {e m : Mem} {k : Option Nat} {fr : Nat → Value} {x2 : List Rule} {x3 : Int} {x4 : Int} {x5 : Int} {x6 : Int} {x7 : Int} {x8 : Int} {x9 : Int} {x10 : Int} {v2 : Value} (hz : Zx e.next z0 z) (st : St z e m k) (h2 : fr 2 = v2) (o2 : OwF TRule z e m k x2 v2) (h3 : fr 3 = (vI x3)) (h4 : fr 4 = (vI x4)) (h5 : fr 5 = (vI x5)) (h6 : fr 6 = (vI x6)) (h7 : fr 7 = (vI x7)) (h8 : fr 8 = (vI x8)) (h9 : fr 9 = (vI x9)) (h10 : fr 10 = (vI x10)) {r : Bool} (hr : l36_sane_0 N x2 x3 x4 x5 x6 x7 x8 x9 x10 = some r) : W Try.prog (sub (bodyOf Try.f17) [1, 1, 1, 1, 1, 1, 0]) (fun ex fr' m' => ∃ z', Zx e.next z0 z' ∧ St z' e m' k ∧ ex = AExit.normal ∧ fr' 0 = (vB r) ∧ True) fr m := by
 unfold l36_sane_0 at hr
 refine W.region ?_
 refine sx rfl (pMove (v := (vI x5)) rfl h5) ?_
 refine sx rfl (pEql (k := .i64) (a := x5) (b := 0) rfl rfl rfl) ?_
 refine sx rfl (pMove (v := (vB (x5 == 0))) rfl rfl) ?_
 rcases if_some hr with ⟨hc100, hr⟩ | ⟨hc162, hr⟩
 ·refine SeqW.consG rfl rfl rfl hc100 (StepX.pure (pMove (v := (vI x3)) rfl h3) ?_)
  refine SeqW.consG rfl rfl rfl hc100 (StepX.pure (pEql (k := .i64) (a := x3) (b := 9) rfl rfl rfl) ?_)
  refine sx rfl (pPick (t := true) (v := (vB (x3 == 9))) rfl ((congrArg vB hc100)) rfl) ?_
  refine sx rfl (pMove (v := (vB (x3 == 9))) rfl rfl) ?_
  rcases if_some hr with ⟨hc101, hr⟩ | ⟨hc159, hr⟩
  ·refine SeqW.consG rfl rfl rfl hc101 (StepX.pure (pMove (v := (vI x4)) rfl h4) ?_)
   refine SeqW.consG rfl rfl rfl hc101 (StepX.pure (pEql (k := .i64) (a := x4) (b := 3) rfl rfl rfl) ?_)
   refine sx rfl (pPick (t := true) (v := (vB (x4 == 3))) rfl ((congrArg vB hc101)) rfl) ?_
   refine sx rfl (pMove (v := (vB (x4 == 3))) rfl rfl) ?_
   rcases if_some hr with ⟨hc102, hr⟩ | ⟨hc156, hr⟩
   ·refine SeqW.consG rfl rfl rfl hc102 (StepX.pure (pMove (v := (vI x8)) rfl h8) ?_)
    refine SeqW.consG rfl rfl rfl hc102 (StepX.pure (pEql (k := .i64) (a := x8) (b := 0) rfl rfl rfl) ?_)
    refine sx rfl (pPick (t := true) (v := (vB (x8 == 0))) rfl ((congrArg vB hc102)) rfl) ?_
    refine sx rfl (pMove (v := (vB (x8 == 0))) rfl rfl) ?_
    rcases if_some hr with ⟨hc103, hr⟩ | ⟨hc153, hr⟩
    ·refine SeqW.consG rfl rfl rfl hc103 (StepX.pure (pMove (v := (vI x6)) rfl h6) ?_)
     refine SeqW.consG rfl rfl rfl hc103 (StepX.pure (pEql (k := .i64) (a := x6) (b := 0) rfl rfl rfl) ?_)
     refine sx rfl (pPick (t := true) (v := (vB (x6 == 0))) rfl ((congrArg vB hc103)) rfl) ?_
     refine sx rfl (pMove (v := (vB (x6 == 0))) rfl rfl) ?_
     rcases if_some hr with ⟨hc104, hr⟩ | ⟨hc150, hr⟩
     ·refine SeqW.consG rfl rfl rfl hc104 (StepX.pure (pMove (v := (vI x7)) rfl h7) ?_)
      refine SeqW.consG rfl rfl rfl hc104 (StepX.pure (pEql (k := .i64) (a := x7) (b := (-1)) rfl rfl rfl) ?_)
      refine sx rfl (pPick (t := true) (v := (vB (x7 == (-1)))) rfl ((congrArg vB hc104)) rfl) ?_
      refine sx rfl (pMove (v := (vB (x7 == (-1)))) rfl rfl) ?_
      rcases if_some hr with ⟨hc105, hr⟩ | ⟨hc147, hr⟩
      ·refine SeqW.consG rfl rfl rfl hc105 (StepX.pure (pMove (v := (vI x10)) rfl h10) ?_)
       refine SeqW.consG rfl rfl rfl hc105 (StepX.pure (pEql (k := .i64) (a := x10) (b := 0) rfl rfl rfl) ?_)
       refine sx rfl (pPick (t := true) (v := (vB (x10 == 0))) rfl ((congrArg vB hc105)) rfl) ?_
       refine sx rfl (pMove (v := (vB (x10 == 0))) rfl rfl) ?_
       rcases if_some hr with ⟨hc106, hr⟩ | ⟨hc144, hr⟩
       ·refine SeqW.consG rfl rfl rfl hc106 (StepX.pure (pMove (v := (vI x9)) rfl h9) ?_)
        refine SeqW.consG rfl rfl rfl hc106 (StepX.pure (pEql (k := .i64) (a := x9) (b := 1) rfl rfl rfl) ?_)
        refine sx rfl (pPick (t := true) (v := (vB (x9 == 1))) rfl ((congrArg vB hc106)) rfl) ?_
        refine sx rfl (pMove (v := (vB (x9 == 1))) rfl rfl) ?_
        rcases if_some hr with ⟨hc107, hr⟩ | ⟨hc141, hr⟩
        ·refine SeqW.consG rfl rfl rfl hc107 (StepX.pure (pMove (v := v2) rfl h2) ?_)
         refine SeqW.consG rfl rfl rfl hc107 (StepX.pure (pMove (v := v2) rfl h2) ?_)
         obtain ⟨y108, hy108, hr⟩ := bind_some hr
         refine SeqW.consG rfl rfl rfl hc107 (kIdxO (T := TRule) (xs := x2) (n := 0) rfl Try.underlying23 Try.type32 rfl rfl rfl o2 hy108 ?_)
         intro B109 l110 c111 cs112 hv113 hd114 hg115 hc116
         have hd1140 := hd114
         obtain rfl := hd1140
         refine SeqW.consG rfl rfl rfl hc107 (kLoadA rfl Try.underlying32 rfl Try.type32 rfl rfl hc116 ?_)
         refine SeqW.consG rfl rfl rfl hc107 (kBuild (T := TRule) rfl Try.underlying23 Try.type32 rfl rfl rfl rfl ([y108] : List Rule) [[(vI y108.number), (vI y108.kind), (vI y108.a), (vI y108.b), (vI y108.c)]] rfl rfl rfl (BuildOk.mk (w := (Value.agg [(vI y108.number), (vI y108.kind), (vI y108.a), (vI y108.b), (vI y108.c)].toArray)) rfl rfl rfl rfl trivial) st ?_)
         intro V117 m118 st O119 sm120 hap121
         have A123 := hap121 _ o2.lt
         replace o2 := o2.same sm120 Ap.none'
         obtain ⟨y124, hy124, hr⟩ := bind_some hr
         refine SeqW.consG rfl rfl rfl hc107 (kAppend (T := TRule) (xs := x2) (ys := ([y108] : List Rule)) rfl Try.underlying23 Try.type32 rfl rfl rfl rfl rfl rfl (.inl ⟨_, Try.underlying23⟩) rfl o2 rfl O119.ow.src st hy124 ?_)
         intro V125 m126 st O127 sm128 hap129
         have A131 := hap129 _ O119.lt (Ap.symm A123)
         replace O119 := O119.same sm128 (Ap.symm A123)
         obtain ⟨z132, hz133, st136, Q134, hl135⟩ := O127.freeze st
         obtain ⟨y137, hy137, hr⟩ := bind_some hr
         refine SeqW.consG rfl rfl rfl hc107 (StepX.call (gCallee rfl rfl (args1 rfl)) ((c_rulebook_Valid (z := z132) st136.fz st.dead Q134 hy137).mono ?_))
         rintro _ _ ⟨rfl, rfl⟩
         refine SeqW.consG rfl rfl rfl hc107 (StepX.pure (pEql (k := .i64) (a := y137) (b := 8) rfl rfl rfl) ?_)
         refine sx rfl (pPick (t := true) (v := (vB (y137 == 8))) rfl ((congrArg vB hc107)) rfl) ?_
         obtain ⟨y138, hy138, hr⟩ := lt_some hr
         refine sx rfl (pAssign rfl (congrArg vB hy138)) ?_
         refine SeqW.done fun fr139 hf140 => ?_
         have h0 : fr139 0 = (vB y138) := (congrFun hf140 0).trans rfl
         clear hf140
         obtain rfl := Option.some.inj hr
         exact ⟨z, hz, st, rfl, h0, trivial⟩
        ·refine kx rfl rfl rfl hc141 ?_
         iterate 7 refine kx rfl rfl rfl hc141 ?_
         refine sx rfl (pPick (t := false) (v := (vB false)) rfl ((congrArg vB hc141)) rfl) ?_
         refine sx rfl (pAssign (v := (vB false)) rfl rfl) ?_
         refine SeqW.done fun fr142 hf143 => ?_
         have h0 : fr142 0 = (vB false) := (congrFun hf143 0).trans rfl
         clear hf143
         obtain rfl := Option.some.inj hr
         exact ⟨z, hz, st, rfl, h0, trivial⟩
       ·refine kx rfl rfl rfl hc144 ?_
        refine kx rfl rfl rfl hc144 ?_
        refine sx rfl (pPick (t := false) (v := (vB false)) rfl ((congrArg vB hc144)) rfl) ?_
        refine sx rfl (pMove (v := (vB false)) rfl rfl) ?_
        iterate 8 refine kx rfl rfl rfl rfl ?_
        refine sx rfl (pPick (t := false) (v := (vB false)) rfl ((congrArg vB (rfl : false = false))) rfl) ?_
        refine sx rfl (pAssign (v := (vB false)) rfl rfl) ?_
        refine SeqW.done fun fr145 hf146 => ?_
        have h0 : fr145 0 = (vB false) := (congrFun hf146 0).trans rfl
        clear hf146
        obtain rfl := Option.some.inj hr
        exact ⟨z, hz, st, rfl, h0, trivial⟩
      ·refine kx rfl rfl rfl hc147 ?_
       refine kx rfl rfl rfl hc147 ?_
       refine sx rfl (pPick (t := false) (v := (vB false)) rfl ((congrArg vB hc147)) rfl) ?_
       refine sx rfl (pMove (v := (vB false)) rfl rfl) ?_
       iterate 2 refine kx rfl rfl rfl rfl ?_
       refine sx rfl (pPick (t := false) (v := (vB false)) rfl ((congrArg vB (rfl : false = false))) rfl) ?_
       refine sx rfl (pMove (v := (vB false)) rfl rfl) ?_
       iterate 8 refine kx rfl rfl rfl rfl ?_
       refine sx rfl (pPick (t := false) (v := (vB false)) rfl ((congrArg vB (rfl : false = false))) rfl) ?_
       refine sx rfl (pAssign (v := (vB false)) rfl rfl) ?_
       refine SeqW.done fun fr148 hf149 => ?_
       have h0 : fr148 0 = (vB false) := (congrFun hf149 0).trans rfl
       clear hf149
       obtain rfl := Option.some.inj hr
       exact ⟨z, hz, st, rfl, h0, trivial⟩
     ·refine kx rfl rfl rfl hc150 ?_
      refine kx rfl rfl rfl hc150 ?_
      refine sx rfl (pPick (t := false) (v := (vB false)) rfl ((congrArg vB hc150)) rfl) ?_
      refine sx rfl (pMove (v := (vB false)) rfl rfl) ?_
      iterate 2 refine kx rfl rfl rfl rfl ?_
      refine sx rfl (pPick (t := false) (v := (vB false)) rfl ((congrArg vB (rfl : false = false))) rfl) ?_
      refine sx rfl (pMove (v := (vB false)) rfl rfl) ?_
      iterate 2 refine kx rfl rfl rfl rfl ?_
      refine sx rfl (pPick (t := false) (v := (vB false)) rfl ((congrArg vB (rfl : false = false))) rfl) ?_
      refine sx rfl (pMove (v := (vB false)) rfl rfl) ?_
      iterate 8 refine kx rfl rfl rfl rfl ?_
      refine sx rfl (pPick (t := false) (v := (vB false)) rfl ((congrArg vB (rfl : false = false))) rfl) ?_
      refine sx rfl (pAssign (v := (vB false)) rfl rfl) ?_
      refine SeqW.done fun fr151 hf152 => ?_
      have h0 : fr151 0 = (vB false) := (congrFun hf152 0).trans rfl
      clear hf152
      obtain rfl := Option.some.inj hr
      exact ⟨z, hz, st, rfl, h0, trivial⟩
    ·refine kx rfl rfl rfl hc153 ?_
     refine kx rfl rfl rfl hc153 ?_
     refine sx rfl (pPick (t := false) (v := (vB false)) rfl ((congrArg vB hc153)) rfl) ?_
     refine sx rfl (pMove (v := (vB false)) rfl rfl) ?_
     iterate 2 refine kx rfl rfl rfl rfl ?_
     refine sx rfl (pPick (t := false) (v := (vB false)) rfl ((congrArg vB (rfl : false = false))) rfl) ?_
     refine sx rfl (pMove (v := (vB false)) rfl rfl) ?_
     iterate 2 refine kx rfl rfl rfl rfl ?_
     refine sx rfl (pPick (t := false) (v := (vB false)) rfl ((congrArg vB (rfl : false = false))) rfl) ?_
     refine sx rfl (pMove (v := (vB false)) rfl rfl) ?_
     iterate 2 refine kx rfl rfl rfl rfl ?_
     refine sx rfl (pPick (t := false) (v := (vB false)) rfl ((congrArg vB (rfl : false = false))) rfl) ?_
     refine sx rfl (pMove (v := (vB false)) rfl rfl) ?_
     iterate 8 refine kx rfl rfl rfl rfl ?_
     refine sx rfl (pPick (t := false) (v := (vB false)) rfl ((congrArg vB (rfl : false = false))) rfl) ?_
     refine sx rfl (pAssign (v := (vB false)) rfl rfl) ?_
     refine SeqW.done fun fr154 hf155 => ?_
     have h0 : fr154 0 = (vB false) := (congrFun hf155 0).trans rfl
     clear hf155
     obtain rfl := Option.some.inj hr
     exact ⟨z, hz, st, rfl, h0, trivial⟩
   ·refine kx rfl rfl rfl hc156 ?_
    refine kx rfl rfl rfl hc156 ?_
    refine sx rfl (pPick (t := false) (v := (vB false)) rfl ((congrArg vB hc156)) rfl) ?_
    refine sx rfl (pMove (v := (vB false)) rfl rfl) ?_
    iterate 2 refine kx rfl rfl rfl rfl ?_
    refine sx rfl (pPick (t := false) (v := (vB false)) rfl ((congrArg vB (rfl : false = false))) rfl) ?_
    refine sx rfl (pMove (v := (vB false)) rfl rfl) ?_
    iterate 2 refine kx rfl rfl rfl rfl ?_
    refine sx rfl (pPick (t := false) (v := (vB false)) rfl ((congrArg vB (rfl : false = false))) rfl) ?_
    refine sx rfl (pMove (v := (vB false)) rfl rfl) ?_
    iterate 2 refine kx rfl rfl rfl rfl ?_
    refine sx rfl (pPick (t := false) (v := (vB false)) rfl ((congrArg vB (rfl : false = false))) rfl) ?_
    refine sx rfl (pMove (v := (vB false)) rfl rfl) ?_
    iterate 2 refine kx rfl rfl rfl rfl ?_
    refine sx rfl (pPick (t := false) (v := (vB false)) rfl ((congrArg vB (rfl : false = false))) rfl) ?_
    refine sx rfl (pMove (v := (vB false)) rfl rfl) ?_
    iterate 8 refine kx rfl rfl rfl rfl ?_
    refine sx rfl (pPick (t := false) (v := (vB false)) rfl ((congrArg vB (rfl : false = false))) rfl) ?_
    refine sx rfl (pAssign (v := (vB false)) rfl rfl) ?_
    refine SeqW.done fun fr157 hf158 => ?_
    have h0 : fr157 0 = (vB false) := (congrFun hf158 0).trans rfl
    clear hf158
    obtain rfl := Option.some.inj hr
    exact ⟨z, hz, st, rfl, h0, trivial⟩
  ·refine kx rfl rfl rfl hc159 ?_
   refine kx rfl rfl rfl hc159 ?_
   refine sx rfl (pPick (t := false) (v := (vB false)) rfl ((congrArg vB hc159)) rfl) ?_
   refine sx rfl (pMove (v := (vB false)) rfl rfl) ?_
   iterate 2 refine kx rfl rfl rfl rfl ?_
   refine sx rfl (pPick (t := false) (v := (vB false)) rfl ((congrArg vB (rfl : false = false))) rfl) ?_
   refine sx rfl (pMove (v := (vB false)) rfl rfl) ?_
   iterate 2 refine kx rfl rfl rfl rfl ?_
   refine sx rfl (pPick (t := false) (v := (vB false)) rfl ((congrArg vB (rfl : false = false))) rfl) ?_
   refine sx rfl (pMove (v := (vB false)) rfl rfl) ?_
   iterate 2 refine kx rfl rfl rfl rfl ?_
   refine sx rfl (pPick (t := false) (v := (vB false)) rfl ((congrArg vB (rfl : false = false))) rfl) ?_
   refine sx rfl (pMove (v := (vB false)) rfl rfl) ?_
   iterate 2 refine kx rfl rfl rfl rfl ?_
   refine sx rfl (pPick (t := false) (v := (vB false)) rfl ((congrArg vB (rfl : false = false))) rfl) ?_
   refine sx rfl (pMove (v := (vB false)) rfl rfl) ?_
   iterate 2 refine kx rfl rfl rfl rfl ?_
   refine sx rfl (pPick (t := false) (v := (vB false)) rfl ((congrArg vB (rfl : false = false))) rfl) ?_
   refine sx rfl (pMove (v := (vB false)) rfl rfl) ?_
   iterate 8 refine kx rfl rfl rfl rfl ?_
   refine sx rfl (pPick (t := false) (v := (vB false)) rfl ((congrArg vB (rfl : false = false))) rfl) ?_
   refine sx rfl (pAssign (v := (vB false)) rfl rfl) ?_
   refine SeqW.done fun fr160 hf161 => ?_
   have h0 : fr160 0 = (vB false) := (congrFun hf161 0).trans rfl
   clear hf161
   obtain rfl := Option.some.inj hr
   exact ⟨z, hz, st, rfl, h0, trivial⟩
 ·refine kx rfl rfl rfl hc162 ?_
  refine kx rfl rfl rfl hc162 ?_
  refine sx rfl (pPick (t := false) (v := (vB false)) rfl ((congrArg vB hc162)) rfl) ?_
  refine sx rfl (pMove (v := (vB false)) rfl rfl) ?_
  iterate 2 refine kx rfl rfl rfl rfl ?_
  refine sx rfl (pPick (t := false) (v := (vB false)) rfl ((congrArg vB (rfl : false = false))) rfl) ?_
  refine sx rfl (pMove (v := (vB false)) rfl rfl) ?_
  iterate 2 refine kx rfl rfl rfl rfl ?_
  refine sx rfl (pPick (t := false) (v := (vB false)) rfl ((congrArg vB (rfl : false = false))) rfl) ?_
  refine sx rfl (pMove (v := (vB false)) rfl rfl) ?_
  iterate 2 refine kx rfl rfl rfl rfl ?_
  refine sx rfl (pPick (t := false) (v := (vB false)) rfl ((congrArg vB (rfl : false = false))) rfl) ?_
  refine sx rfl (pMove (v := (vB false)) rfl rfl) ?_
  iterate 2 refine kx rfl rfl rfl rfl ?_
  refine sx rfl (pPick (t := false) (v := (vB false)) rfl ((congrArg vB (rfl : false = false))) rfl) ?_
  refine sx rfl (pMove (v := (vB false)) rfl rfl) ?_
  iterate 2 refine kx rfl rfl rfl rfl ?_
  refine sx rfl (pPick (t := false) (v := (vB false)) rfl ((congrArg vB (rfl : false = false))) rfl) ?_
  refine sx rfl (pMove (v := (vB false)) rfl rfl) ?_
  iterate 2 refine kx rfl rfl rfl rfl ?_
  refine sx rfl (pPick (t := false) (v := (vB false)) rfl ((congrArg vB (rfl : false = false))) rfl) ?_
  refine sx rfl (pMove (v := (vB false)) rfl rfl) ?_
  iterate 8 refine kx rfl rfl rfl rfl ?_
  refine sx rfl (pPick (t := false) (v := (vB false)) rfl ((congrArg vB (rfl : false = false))) rfl) ?_
  refine sx rfl (pAssign (v := (vB false)) rfl rfl) ?_
  refine SeqW.done fun fr163 hf164 => ?_
  have h0 : fr163 0 = (vB false) := (congrFun hf164 0).trans rfl
  clear hf164
  obtain rfl := Option.some.inj hr
  exact ⟨z, hz, st, rfl, h0, trivial⟩

theorem u_l36_sane {N : Nat}  {z0 z : Nat → Blk} {e m : Mem} {k : Option Nat} {fr : Nat → Value} (hz : Zx e.next z0 z) (st : St z e m k)  {r : Bool} (hr : l36_sane N  = some r) : W Try.prog (sub (bodyOf Try.f17) []) (fun ex fr' m' => ∃ z', Zx e.next z0 z' ∧ St z' e m' k ∧ (ex = .normal ∨ ex = .ret) ∧ fr' 0 = (vB r) ∧ True) fr m := by
 unfold l36_sane at hr
 refine W.seq (W.region ?_)
 refine sx rfl (pAssign (v := (vB false)) rfl rfl) ?_
 refine SeqW.done fun fr1 hf2 => ?_
 clear hf2
 refine thenQ.n (W.seq (W.region ?_))
 obtain ⟨y3, hy3, hr⟩ := bind_some hr
 refine SeqW.consX rfl (StepX.call (gCallee rfl rfl (args2 rfl rfl)) ((c_l36_wagon (z := z) st.fz st.dead  hy3).mono ?_))
 rintro _ m8 ⟨z4, hzx5, fz6, sm7, rfl, -⟩
 replace hz := hz.trans (Zx.here st hzx5)
 replace st := st.call hzx5 fz6 sm7 no_hq
 obtain ⟨y9, hy9, hr⟩ := bind_some hr
 refine SeqW.consX rfl (StepX.call (gCallee rfl rfl (args2 rfl rfl)) ((c_l36_wagon (z := z4) st.fz st.dead  hy9).mono ?_))
 rintro _ m14 ⟨z10, hzx11, fz12, sm13, rfl, -⟩
 replace hz := hz.trans (Zx.here st hzx11)
 replace st := st.call hzx11 fz12 sm13 no_hq
 obtain ⟨y15, hy15, hr⟩ := bind_some hr
 refine SeqW.consX rfl (StepX.call (gCallee rfl rfl (args2 rfl rfl)) ((c_l36_wagon (z := z10) st.fz st.dead  hy15).mono ?_))
 rintro _ m20 ⟨z16, hzx17, fz18, sm19, rfl, -⟩
 replace hz := hz.trans (Zx.here st hzx17)
 replace st := st.call hzx17 fz18 sm19 no_hq
 obtain ⟨y21, hy21, hr⟩ := bind_some hr
 refine SeqW.consX rfl (StepX.call (gCallee rfl rfl (args2 rfl rfl)) ((c_l36_wagon (z := z16) st.fz st.dead  hy21).mono ?_))
 rintro _ m26 ⟨z22, hzx23, fz24, sm25, rfl, -⟩
 replace hz := hz.trans (Zx.here st hzx23)
 replace st := st.call hzx23 fz24 sm25 no_hq
 refine SeqW.consX rfl (kBuild (T := TWagon) rfl Try.underlying24 Try.type36 rfl rfl rfl rfl ([y3, y9, y15, y21] : List Wagon) [[(str y3.number), (vI y3.length), (vI y3.axles), (vI y3.mass), (vI y3.brake), (vI y3.goods), (vB y3.gentle), (str y3.dest)], [(str y9.number), (vI y9.length), (vI y9.axles), (vI y9.mass), (vI y9.brake), (vI y9.goods), (vB y9.gentle), (str y9.dest)], [(str y15.number), (vI y15.length), (vI y15.axles), (vI y15.mass), (vI y15.brake), (vI y15.goods), (vB y15.gentle), (str y15.dest)], [(str y21.number), (vI y21.length), (vI y21.axles), (vI y21.mass), (vI y21.brake), (vI y21.goods), (vB y21.gentle), (str y21.dest)]] rfl rfl rfl (BuildOk.mk (w := (Value.agg [(str y3.number), (vI y3.length), (vI y3.axles), (vI y3.mass), (vI y3.brake), (vI y3.goods), (vB y3.gentle), (str y3.dest)].toArray)) rfl rfl rfl rfl (BuildOk.mk (w := (Value.agg [(str y9.number), (vI y9.length), (vI y9.axles), (vI y9.mass), (vI y9.brake), (vI y9.goods), (vB y9.gentle), (str y9.dest)].toArray)) rfl rfl rfl rfl (BuildOk.mk (w := (Value.agg [(str y15.number), (vI y15.length), (vI y15.axles), (vI y15.mass), (vI y15.brake), (vI y15.goods), (vB y15.gentle), (str y15.dest)].toArray)) rfl rfl rfl rfl (BuildOk.mk (w := (Value.agg [(str y21.number), (vI y21.length), (vI y21.axles), (vI y21.mass), (vI y21.brake), (vI y21.goods), (vB y21.gentle), (str y21.dest)].toArray)) rfl rfl rfl rfl trivial)))) st ?_)
 intro V27 m28 st O29 sm30 hap31
 refine sx rfl (pAssign (v := V27) rfl rfl) ?_
 refine SeqW.done fun fr33 hf34 => ?_
 have h1 : fr33 1 = V27 := (congrFun hf34 1).trans rfl
 clear hf34
 refine thenQ.n (W.seq (W.region ?_))
 refine SeqW.consX rfl (kBuildS [(0, (vI 5)), (1, (vI 5)), (2, (vI 1)), (3, (vI 3)), (4, (vI 1))] [(vI 5), (vI 5), (vI 1), (vI 3), (vI 1)] rfl Try.underlying32 Try.type32 rfl rfl (places32 Try.underlying32) rfl (rfl) rfl ?_)
 refine SeqW.consX rfl (kBuildS [(0, (vI 9)), (1, (vI 5)), (2, (vI 1)), (3, (vI 3)), (4, (vI 2))] [(vI 9), (vI 5), (vI 1), (vI 3), (vI 2)] rfl Try.underlying32 Try.type32 rfl rfl (places32 Try.underlying32) rfl (rfl) rfl ?_)
 refine SeqW.consX rfl (kBuild (T := TRule) rfl Try.underlying23 Try.type32 rfl rfl rfl rfl ([(Rule.mk 5 5 1 3 1), (Rule.mk 9 5 1 3 2)] : List Rule) [[(vI 5), (vI 5), (vI 1), (vI 3), (vI 1)], [(vI 9), (vI 5), (vI 1), (vI 3), (vI 2)]] rfl rfl rfl (BuildOk.mk (w := (Value.agg [(vI 5), (vI 5), (vI 1), (vI 3), (vI 1)].toArray)) rfl rfl rfl rfl (BuildOk.mk (w := (Value.agg [(vI 9), (vI 5), (vI 1), (vI 3), (vI 2)].toArray)) rfl rfl rfl rfl trivial)) st ?_)
 intro V35 m36 st O37 sm38 hap39
 have A41 := hap39 _ O29.lt
 replace O29 := O29.same sm38 Ap.none'
 refine sx rfl (pAssign (v := V35) rfl rfl) ?_
 refine SeqW.done fun fr42 hf43 => ?_
 have h1 := (congrFun hf43 1).trans h1
 have h2 : fr42 2 = V35 := (congrFun hf43 2).trans rfl
 clear hf43
 refine thenQ.n (W.seq (W.region ?_))
 refine sx rfl (pMove (v := V35) rfl h2) ?_
 refine sx rfl (pMove (v := V27) rfl h1) ?_
 obtain ⟨z44, hz45, st48, Q46, hl47⟩ := O37.freeze st
 have O49 := O29.zle hz45.le (hl47 _ A41)
 obtain ⟨z50, hz51, st54, Q52, hl53⟩ := O49.freeze st48
 have Q55 := Q46.mono hz51.le
 obtain ⟨y56, hy56, hr⟩ := bind_some hr
 refine SeqW.consX rfl (StepX.call (gCallee rfl rfl (args3 rfl rfl rfl)) ((c_rulebook_Check (z := z50) st54.fz st.dead Q55 Q52 (SlR.nil (T := (TInt 3 .i64))) hy56).mono ?_))
 rintro _ _ ⟨rfl, rfl⟩
 refine sx rfl (pMove (v := (Value.tuple [(vI y56.1), (vI y56.2.1), (vI y56.2.2)].toArray)) rfl rfl) ?_
 refine sx rfl (pExtract (vs := [(vI y56.1), (vI y56.2.1), (vI y56.2.2)]) (v := (vI y56.1)) rfl rfl rfl) ?_
 refine sx rfl (pExtract (vs := [(vI y56.1), (vI y56.2.1), (vI y56.2.2)]) (v := (vI y56.2.1)) rfl rfl rfl) ?_
 refine sx rfl (pExtract (vs := [(vI y56.1), (vI y56.2.1), (vI y56.2.2)]) (v := (vI y56.2.2)) rfl rfl rfl) ?_
 refine sx rfl (pAssign (v := (vI y56.1)) rfl rfl) ?_
 refine sx rfl (pAssign (v := (vI y56.2.1)) rfl rfl) ?_
 refine sx rfl (pAssign (v := (vI y56.2.2)) rfl rfl) ?_
 refine SeqW.done fun fr57 hf58 => ?_
 have h1 := (congrFun hf58 1).trans h1
 have h2 := (congrFun hf58 2).trans h2
 have h3 : fr57 3 = (vI y56.1) := (congrFun hf58 3).trans rfl
 have h4 : fr57 4 = (vI y56.2.1) := (congrFun hf58 4).trans rfl
 have h5 : fr57 5 = (vI y56.2.2) := (congrFun hf58 5).trans rfl
 clear hf58
 refine thenQ.n (W.seq (W.region ?_))
 refine sx rfl (pMove (v := V35) rfl h2) ?_
 obtain ⟨y59, hy59, hr⟩ := bind_some hr
 refine SeqW.consX rfl (kCutV (T := TRule) (xs := ([(Rule.mk 5 5 1 3 1), (Rule.mk 9 5 1 3 2)] : List Rule)) (a := 0) (b := 1) rfl Try.underlying23 Try.type32 rfl rfl rfl ⟨_, rfl⟩ O37.ow.vw hy59 ?_)
 intro V60 _ hI62 Q61
 refine sx rfl (pMove (v := V27) rfl h1) ?_
 obtain ⟨z64, hz65, st68, Q66, hl67, hw69⟩ := O37.freezeV st
 have O70 := O29.zle hz65.le (hl67 _ A41)
 have Q71 := hw69 Q61
 obtain ⟨z72, hz73, st76, Q74, hl75⟩ := O70.freeze st68
 have Q77 := Q66.mono hz73.le
 have Q78 := Q71.mono hz73.le
 obtain ⟨y79, hy79, hr⟩ := bind_some hr
 refine SeqW.consX rfl (StepX.call (gCallee rfl rfl (args3 rfl rfl rfl)) ((c_rulebook_Check (z := z72) st76.fz st.dead Q78 Q74 (SlR.nil (T := (TInt 3 .i64))) hy79).mono ?_))
 rintro _ _ ⟨rfl, rfl⟩
 refine sx rfl (pMove (v := (Value.tuple [(vI y79.1), (vI y79.2.1), (vI y79.2.2)].toArray)) rfl rfl) ?_
 refine sx rfl (pExtract (vs := [(vI y79.1), (vI y79.2.1), (vI y79.2.2)]) (v := (vI y79.1)) rfl rfl rfl) ?_
 refine sx rfl (pExtract (vs := [(vI y79.1), (vI y79.2.1), (vI y79.2.2)]) (v := (vI y79.2.1)) rfl rfl rfl) ?_
 refine sx rfl (pExtract (vs := [(vI y79.1), (vI y79.2.1), (vI y79.2.2)]) (v := (vI y79.2.2)) rfl rfl rfl) ?_
 refine sx rfl (pAssign (v := (vI y79.1)) rfl rfl) ?_
 refine sx rfl (pAssign (v := (vI y79.2.1)) rfl rfl) ?_
 refine sx rfl (pAssign (v := (vI y79.2.2)) rfl rfl) ?_
 refine SeqW.done fun fr80 hf81 => ?_
 have h1 := (congrFun hf81 1).trans h1
 have h2 := (congrFun hf81 2).trans h2
 have h3 := (congrFun hf81 3).trans h3
 have h4 := (congrFun hf81 4).trans h4
 have h5 := (congrFun hf81 5).trans h5
 have h6 : fr80 6 = (vI y79.1) := (congrFun hf81 6).trans rfl
 have h7 : fr80 7 = (vI y79.2.1) := (congrFun hf81 7).trans rfl
 have h8 : fr80 8 = (vI y79.2.2) := (congrFun hf81 8).trans rfl
 clear hf81
 refine thenQ.n (W.seq (W.region ?_))
 refine sx rfl (pMove (v := V27) rfl h1) ?_
 obtain ⟨y82, hy82, hr⟩ := bind_some hr
 refine SeqW.consX rfl (kIdxO (T := TWagon) (xs := ([y3, y9, y15, y21] : List Wagon)) (n := 0) rfl Try.underlying24 Try.type36 rfl rfl rfl O29 hy82 ?_)
 intro B83 l84 c85 cs86 hv87 hd88 hg89 hc90
 have hd880 := hd88
 obtain rfl := hd880
 refine SeqW.consX rfl (kField rfl Try.underlying36 rfl Try.type3 rfl rfl rfl ?_)
 refine SeqW.consX rfl (kLoad (v := (vI y82.axles)) rfl Try.underlying3 rfl rfl (hc90 2 _ rfl) ?_)
 refine SeqW.consX rfl (kBuildS [(0, (vI 1)), (1, (vI 2)), (2, (vI y82.axles))] [(vI 1), (vI 2), (vI y82.axles), (vI 0), (vI 0)] rfl Try.underlying32 Try.type32 rfl rfl (places32 Try.underlying32) rfl (rfl) rfl ?_)
 refine sx rfl (pMove (v := V27) rfl h1) ?_
 obtain ⟨z91, hz92, st95, Q93, hl94⟩ := O29.freeze st
 have O96 := O37.zle hz92.le (hl94 _ (Ap.symm A41))
 obtain ⟨y97, hy97, hr⟩ := bind_some hr
 refine SeqW.consX rfl (StepX.call (gCallee rfl rfl (args3 rfl rfl rfl)) ((c_rulebook_Place (x0 := (Rule.mk 1 2 y82.axles 0 0)) (z := z91) st95.fz st.dead Q93 (SlR.nil (T := (TInt 3 .i64))) hy97).mono ?_))
 rintro _ _ ⟨rfl, rfl⟩
 refine sx rfl (pMove (v := (Value.tuple [(vI y97.1), (vI y97.2)].toArray)) rfl rfl) ?_
 refine sx rfl (pExtract (vs := [(vI y97.1), (vI y97.2)]) (v := (vI y97.1)) rfl rfl rfl) ?_
 refine sx rfl (pExtract (vs := [(vI y97.1), (vI y97.2)]) (v := (vI y97.2)) rfl rfl rfl) ?_
 refine sx rfl (pAssign (v := (vI y97.1)) rfl rfl) ?_
 refine sx rfl (pAssign (v := (vI y97.2)) rfl rfl) ?_
 refine SeqW.done fun fr98 hf99 => ?_
 have h2 := (congrFun hf99 2).trans h2
 have h3 := (congrFun hf99 3).trans h3
 have h4 := (congrFun hf99 4).trans h4
 have h5 := (congrFun hf99 5).trans h5
 have h6 := (congrFun hf99 6).trans h6
 have h7 := (congrFun hf99 7).trans h7
 have h8 := (congrFun hf99 8).trans h8
 have h9 : fr98 9 = (vI y97.1) := (congrFun hf99 9).trans rfl
 have h10 : fr98 10 = (vI y97.2) := (congrFun hf99 10).trans rfl
 clear hf99
 refine thenQ.n (W.seq ?_)
 obtain ⟨y165, hy165, hr⟩ := bind_some hr
 refine W.keep (u_l36_sane_0 (Zx.refl _) st h2 O37 h3 h4 h5 h6 h7 h8 h9 h10 hy165) ?_
 rintro ex171 fr166 m167 hk169 ⟨z168, hz170, st, rfl, h0, -⟩
 replace hz := hz.trans hz170
 clear hk169
 refine thenQ.n ?_
 refine W.ret ?_
 obtain rfl := Option.some.inj hr
 exact ⟨z168, hz, st, .inr rfl, h0, trivial⟩

theorem c_l36_sane {N : Nat} {z : Nat → Blk} {m : Mem} (fz : Fz z m) (hd : ∀ b, m.next ≤ b → m.blk b = .dead)  {r : Bool} (hr : l36_sane N  = some r) : CallW Try.prog 17 #[] m fun v m' => v = (vB r) ∧ m' = m := by
 refine CallW.flat Try.func17 rfl (by kernel_rfl) (Nat.le_of_ble_eq_true rfl) rfl (z := z) (fun fr hf => ?_)
 refine (u_l36_sane (k := none) (Zx.refl _) (St.start fz hd)  hr).mono ?_
 rintro ex fr' m' ⟨z', hz, st, he, h0, -⟩
 exact ⟨he, z', st, [(vB r)], ⟨h0.symm, trivial⟩, .inl rfl, rfl⟩

/-! ### humpyard/humpyardlaw36.RulebookSeparates -/

theorem u_l36_RulebookSeparates_2 {N : Nat}  {z0 z : Nat → Blk} {e m : Mem} {k : Option Nat} {fr : Nat → Value} {x4 : List Wagon} {x5 : Rule} {x8 : Bool} {x9 : Int} {x10 : Int} {v4 : Value} {b5 : Nat} (hz : Zx e.next z0 z) (st : St z e m k) (h4 : fr 4 = v4) (o4 : OwF TWagon z e m k x4 v4) (h5 : fr 5 = (vP b5)) (bx5 : Bx z e m k b5 [(vI x5.number), (vI x5.kind), (vI x5.a), (vI x5.b), (vI x5.c)] 32) (h8 : fr 8 = (vB x8)) (h9 : fr 9 = (vI x9)) (h10 : fr 10 = (vI x10)) (ao4_o5 : Ap (blkOf v4) (some b5)) {r : Bool} (hr : l36_RulebookSeparates_2 N x4 x5 x8 x9 x10 = some r) : W Try.prog (sub (bodyOf Try.f6) [1, 1, 1, 1, 1, 1, 0, 1, 0, 0, 1, 0, 0, 1, 0, 0, 1, 0, 0]) (fun ex fr' m' => ∃ z', Zx e.next z0 z' ∧ St z' e m' k ∧ ex = AExit.normal ∧ fr' 8 = (vB r) ∧ OwF TWagon z' e m' k x4 v4 ∧ Bx z' e m' k b5 [(vI x5.number), (vI x5.kind), (vI x5.a), (vI x5.b), (vI x5.c)] 32 ∧ Ap (blkOf v4) (some b5) ∧ True) fr m := by
 unfold l36_RulebookSeparates_2 at hr
 refine W.calm (by decide) ?_
 refine sx rfl (pMove (v := (vB x8)) rfl h8) ?_
 refine sx rfl (pMove (v := (vB x8)) rfl rfl) ?_
 rcases if_some hr with ⟨hc120, hr⟩ | ⟨hc123, hr⟩
 ·refine kx rfl rfl rfl hc120 ?_
  iterate 3 refine kx rfl rfl rfl hc120 ?_
  refine SeqW.skipU rfl rfl rfl ?_
  refine SeqW.skipU rfl rfl rfl ?_
  refine SeqW.skipU rfl rfl rfl ?_
  refine SeqW.skipU rfl rfl rfl ?_
  refine SeqW.skipU rfl rfl rfl ?_
  refine SeqW.skipU rfl rfl rfl ?_
  refine SeqW.skipU rfl rfl rfl ?_
  refine SeqW.skipU rfl rfl rfl ?_
  iterate 2 refine kx rfl rfl rfl hc120 ?_
  refine SeqW.skipU rfl rfl rfl ?_
  refine SeqW.skipU rfl rfl rfl ?_
  refine SeqW.skipU rfl rfl rfl ?_
  refine SeqW.skipU rfl rfl rfl ?_
  refine SeqW.skipU rfl rfl rfl ?_
  refine SeqW.skipU rfl rfl rfl ?_
  refine SeqW.skipU rfl rfl rfl ?_
  refine SeqW.skipU rfl rfl rfl ?_
  iterate 2 refine kx rfl rfl rfl hc120 ?_
  refine SeqW.skipU rfl rfl rfl ?_
  refine SeqW.skipU rfl rfl rfl ?_
  refine SeqW.skipU rfl rfl rfl ?_
  refine SeqW.skipU rfl rfl rfl ?_
  refine SeqW.skipU rfl rfl rfl ?_
  refine SeqW.skipU rfl rfl rfl ?_
  refine SeqW.skipU rfl rfl rfl ?_
  refine SeqW.skipU rfl rfl rfl ?_
  refine SeqW.skipU rfl rfl rfl ?_
  refine SeqW.skipU rfl rfl rfl ?_
  refine SeqW.skipU rfl rfl rfl ?_
  refine kx rfl rfl rfl hc120 ?_
  refine sx rfl (pPick (t := true) (v := (vB true)) rfl ((congrArg vB hc120)) rfl) ?_
  refine sx rfl (pAssign (v := (vB true)) rfl rfl) ?_
  refine SeqW.done fun fr121 hf122 => ?_
  have h4 := (congrFun hf122 4).trans h4
  have h5 := (congrFun hf122 5).trans h5
  have h8 : fr121 8 = (vB true) := (congrFun hf122 8).trans rfl
  have h9 := (congrFun hf122 9).trans h9
  have h10 := (congrFun hf122 10).trans h10
  clear hf122
  obtain rfl := Option.some.inj hr
  exact ⟨z, hz, st, rfl, h8, o4, bx5, ao4_o5, trivial⟩
 ·refine SeqW.consG rfl rfl rfl hc123 (StepX.pure (pMove (v := (vI x9)) rfl h9) ?_)
  refine SeqW.consG rfl rfl rfl hc123 (StepX.pure (pMove (v := (vI x10)) rfl h10) ?_)
  refine SeqW.consG rfl rfl rfl hc123 (StepX.pure (pNeq (k := .i64) (a := x9) (b := x10) rfl rfl rfl) ?_)
  refine SeqW.consG rfl rfl rfl hc123 (StepX.pure (pMove (v := (vB (x9 != x10))) rfl rfl) ?_)
  rcases if_some hr with ⟨hc124, hr⟩ | ⟨hc154, hr⟩
  ·refine SeqW.consG rfl rfl rfl hc124 (StepX.pure (pMove (v := v4) rfl h4) ?_)
   refine SeqW.consG rfl rfl rfl hc124 (StepX.pure (pMove (v := (vI x9)) rfl h9) ?_)
   obtain ⟨y125, hy125, hr⟩ := bind_some hr
   refine SeqW.consG rfl rfl rfl hc124 (kIdxO (T := TWagon) (xs := x4) (n := x9) rfl Try.underlying24 Try.type36 rfl rfl rfl o4 hy125 ?_)
   intro B126 l127 c128 cs129 hv130 hd131 hg132 hc133
   have hd1310 := hd131
   obtain rfl := hd1310
   refine SeqW.consG rfl rfl rfl hc124 (kField rfl Try.underlying36 rfl Try.type3 rfl rfl rfl ?_)
   refine SeqW.consG rfl rfl rfl hc124 (kLoad (v := (vI y125.goods)) rfl Try.underlying3 rfl rfl (hc133 5 _ rfl) ?_)
   refine SeqW.consG rfl rfl rfl hc124 (kField rfl Try.underlying32 rfl Try.type3 rfl h5 rfl ?_)
   refine SeqW.consG rfl rfl rfl hc124 (kLoad rfl Try.underlying3 rfl rfl (bx5.load (v := (vI x5.a)) rfl) ?_)
   refine SeqW.consG rfl rfl rfl hc124 (StepX.pure (pEql (k := .i64) (a := y125.goods) (b := x5.a) rfl rfl rfl) ?_)
   refine SeqW.consG rfl rfl rfl hc123 (StepX.pure (pPick (t := true) (v := (vB (y125.goods == x5.a))) rfl ((congrArg vB hc124)) rfl) ?_)
   refine SeqW.consG rfl rfl rfl hc123 (StepX.pure (pMove (v := (vB (y125.goods == x5.a))) rfl rfl) ?_)
   rcases if_some hr with ⟨hc134, hr⟩ | ⟨hc151, hr⟩
   ·refine SeqW.consG rfl rfl rfl hc134 (StepX.pure (pMove (v := v4) rfl h4) ?_)
    refine SeqW.consG rfl rfl rfl hc134 (StepX.pure (pMove (v := (vI x10)) rfl h10) ?_)
    obtain ⟨y135, hy135, hr⟩ := bind_some hr
    refine SeqW.consG rfl rfl rfl hc134 (kIdxO (T := TWagon) (xs := x4) (n := x10) rfl Try.underlying24 Try.type36 rfl rfl rfl o4 hy135 ?_)
    intro B136 l137 c138 cs139 hv140 hd141 hg142 hc143
    have hd1410 := hd141
    obtain rfl := hd1410
    refine SeqW.consG rfl rfl rfl hc134 (kField rfl Try.underlying36 rfl Try.type3 rfl rfl rfl ?_)
    refine SeqW.consG rfl rfl rfl hc134 (kLoad (v := (vI y135.goods)) rfl Try.underlying3 rfl rfl (hc143 5 _ rfl) ?_)
    refine SeqW.consG rfl rfl rfl hc134 (kField rfl Try.underlying32 rfl Try.type3 rfl h5 rfl ?_)
    refine SeqW.consG rfl rfl rfl hc134 (kLoad rfl Try.underlying3 rfl rfl (bx5.load (v := (vI x5.b)) rfl) ?_)
    refine SeqW.consG rfl rfl rfl hc134 (StepX.pure (pEql (k := .i64) (a := y135.goods) (b := x5.b) rfl rfl rfl) ?_)
    refine SeqW.consG rfl rfl rfl hc123 (StepX.pure (pPick (t := true) (v := (vB (y135.goods == x5.b))) rfl ((congrArg vB hc134)) rfl) ?_)
    refine SeqW.consG rfl rfl rfl hc123 (StepX.pure (pMove (v := (vB (y135.goods == x5.b))) rfl rfl) ?_)
    rcases if_some hr with ⟨hc144, hr⟩ | ⟨hc148, hr⟩
    ·refine SeqW.consG rfl rfl rfl hc144 (StepX.pure (pMove (v := (vI x9)) rfl h9) ?_)
     refine SeqW.consG rfl rfl rfl hc144 (StepX.pure (pMove (v := (vI x10)) rfl h10) ?_)
     refine SeqW.consG rfl rfl rfl hc144 (StepX.pure (pSub (k := .i64) (a := x9) (b := x10) rfl rfl rfl) ?_)
     refine SeqW.consG rfl rfl rfl hc144 (StepX.pure (pMove (v := (vI x10)) rfl h10) ?_)
     refine SeqW.consG rfl rfl rfl hc144 (StepX.pure (pMove (v := (vI x9)) rfl h9) ?_)
     refine SeqW.consG rfl rfl rfl hc144 (StepX.pure (pSub (k := .i64) (a := x10) (b := x9) rfl rfl rfl) ?_)
     refine SeqW.consG rfl rfl rfl hc144 (StepX.pure (pMax2 (k := .i64) (a := (IntKind.wrap .i64 (x9 - x10))) (b := (IntKind.wrap .i64 (x10 - x9))) rfl rfl rfl) ?_)
     refine SeqW.consG rfl rfl rfl hc144 (StepX.pure (pSub (k := .i64) (a := (max (IntKind.wrap .i64 (x9 - x10)) (IntKind.wrap .i64 (x10 - x9)))) (b := 1) rfl rfl rfl) ?_)
     refine SeqW.consG rfl rfl rfl hc144 (kField rfl Try.underlying32 rfl Try.type3 rfl h5 rfl ?_)
     refine SeqW.consG rfl rfl rfl hc144 (kLoad rfl Try.underlying3 rfl rfl (bx5.load (v := (vI x5.c)) rfl) ?_)
     refine SeqW.consG rfl rfl rfl hc144 (StepX.pure (pLss (k := .i64) (a := (IntKind.wrap .i64 ((max (IntKind.wrap .i64 (x9 - x10)) (IntKind.wrap .i64 (x10 - x9))) - 1))) (b := x5.c) rfl rfl rfl) ?_)
     refine SeqW.consG rfl rfl rfl hc123 (StepX.pure (pPick (t := true) (v := (vB (decide ((IntKind.wrap .i64 ((max (IntKind.wrap .i64 (x9 - x10)) (IntKind.wrap .i64 (x10 - x9))) - 1)) < x5.c)))) rfl ((congrArg vB hc144)) rfl) ?_)
     refine sx rfl (pPick (t := false) (v := (vB (decide ((IntKind.wrap .i64 ((max (IntKind.wrap .i64 (x9 - x10)) (IntKind.wrap .i64 (x10 - x9))) - 1)) < x5.c)))) rfl ((congrArg vB hc123)) rfl) ?_
     obtain ⟨y145, hy145, hr⟩ := lt_some hr
     refine sx rfl (pAssign rfl (congrArg vB hy145)) ?_
     refine SeqW.done fun fr146 hf147 => ?_
     have h4 := (congrFun hf147 4).trans h4
     have h5 := (congrFun hf147 5).trans h5
     have h8 : fr146 8 = (vB y145) := (congrFun hf147 8).trans rfl
     have h9 := (congrFun hf147 9).trans h9
     have h10 := (congrFun hf147 10).trans h10
     clear hf147
     obtain rfl := Option.some.inj hr
     exact ⟨z, hz, st, rfl, h8, o4, bx5, ao4_o5, trivial⟩
    ·refine kx rfl rfl rfl hc148 ?_
     iterate 10 refine kx rfl rfl rfl hc148 ?_
     refine SeqW.consG rfl rfl rfl hc123 (StepX.pure (pPick (t := false) (v := (vB false)) rfl ((congrArg vB hc148)) rfl) ?_)
     refine sx rfl (pPick (t := false) (v := (vB false)) rfl ((congrArg vB hc123)) rfl) ?_
     refine sx rfl (pAssign (v := (vB false)) rfl rfl) ?_
     refine SeqW.done fun fr149 hf150 => ?_
     have h4 := (congrFun hf150 4).trans h4
     have h5 := (congrFun hf150 5).trans h5
     have h8 : fr149 8 = (vB false) := (congrFun hf150 8).trans rfl
     have h9 := (congrFun hf150 9).trans h9
     have h10 := (congrFun hf150 10).trans h10
     clear hf150
     obtain rfl := Option.some.inj hr
     exact ⟨z, hz, st, rfl, h8, o4, bx5, ao4_o5, trivial⟩
   ·refine kx rfl rfl rfl hc151 ?_
    iterate 7 refine kx rfl rfl rfl hc151 ?_
    refine SeqW.consG rfl rfl rfl hc123 (StepX.pure (pPick (t := false) (v := (vB false)) rfl ((congrArg vB hc151)) rfl) ?_)
    refine SeqW.consG rfl rfl rfl hc123 (StepX.pure (pMove (v := (vB false)) rfl rfl) ?_)
    iterate 11 refine kx rfl rfl rfl rfl ?_
    refine SeqW.consG rfl rfl rfl hc123 (StepX.pure (pPick (t := false) (v := (vB false)) rfl ((congrArg vB (rfl : false = false))) rfl) ?_)
    refine sx rfl (pPick (t := false) (v := (vB false)) rfl ((congrArg vB hc123)) rfl) ?_
    refine sx rfl (pAssign (v := (vB false)) rfl rfl) ?_
    refine SeqW.done fun fr152 hf153 => ?_
    have h4 := (congrFun hf153 4).trans h4
    have h5 := (congrFun hf153 5).trans h5
    have h8 : fr152 8 = (vB false) := (congrFun hf153 8).trans rfl
    have h9 := (congrFun hf153 9).trans h9
    have h10 := (congrFun hf153 10).trans h10
    clear hf153
    obtain rfl := Option.some.inj hr
    exact ⟨z, hz, st, rfl, h8, o4, bx5, ao4_o5, trivial⟩
  ·refine kx rfl rfl rfl hc154 ?_
   iterate 7 refine kx rfl rfl rfl hc154 ?_
   refine SeqW.consG rfl rfl rfl hc123 (StepX.pure (pPick (t := false) (v := (vB false)) rfl ((congrArg vB hc154)) rfl) ?_)
   refine SeqW.consG rfl rfl rfl hc123 (StepX.pure (pMove (v := (vB false)) rfl rfl) ?_)
   iterate 8 refine kx rfl rfl rfl rfl ?_
   refine SeqW.consG rfl rfl rfl hc123 (StepX.pure (pPick (t := false) (v := (vB false)) rfl ((congrArg vB (rfl : false = false))) rfl) ?_)
   refine SeqW.consG rfl rfl rfl hc123 (StepX.pure (pMove (v := (vB false)) rfl rfl) ?_)
   iterate 11 refine kx rfl rfl rfl rfl ?_
   refine SeqW.consG rfl rfl rfl hc123 (StepX.pure (pPick (t := false) (v := (vB false)) rfl ((congrArg vB (rfl : false = false))) rfl) ?_)
   refine sx rfl (pPick (t := false) (v := (vB false)) rfl ((congrArg vB hc123)) rfl) ?_
   refine sx rfl (pAssign (v := (vB false)) rfl rfl) ?_
   refine SeqW.done fun fr155 hf156 => ?_
   have h4 := (congrFun hf156 4).trans h4
   have h5 := (congrFun hf156 5).trans h5
   have h8 : fr155 8 = (vB false) := (congrFun hf156 8).trans rfl
   have h9 := (congrFun hf156 9).trans h9
   have h10 := (congrFun hf156 10).trans h10
   clear hf156
   obtain rfl := Option.some.inj hr
   exact ⟨z, hz, st, rfl, h8, o4, bx5, ao4_o5, trivial⟩

theorem u_l36_RulebookSeparates_1 : ∀ (n : Nat) {N : Nat}  {z0 z : Nat → Blk} {e m : Mem} {k : Option Nat} {fr : Nat → Value} {x4 : List Wagon} {x5 : Rule} {x8 : Bool} {x9 : Int} {x10 : Int} {v4 : Value} {b5 : Nat} (hz : Zx e.next z0 z) (st : St z e m k) (h4 : fr 4 = v4) (o4 : OwF TWagon z e m k x4 v4) (h5 : fr 5 = (vP b5)) (bx5 : Bx z e m k b5 [(vI x5.number), (vI x5.kind), (vI x5.a), (vI x5.b), (vI x5.c)] 32) (h8 : fr 8 = (vB x8)) (h9 : fr 9 = (vI x9)) (h10 : fr 10 = (vI x10)) (ao4_o5 : Ap (blkOf v4) (some b5)) {r : Bool} (hr : l36_RulebookSeparates_1 N x4 x5 x9 n x8 x10 = some r), W Try.prog (sub (bodyOf Try.f6) [1, 1, 1, 1, 1, 1, 0, 1, 0, 0, 1, 0, 0, 1, 0]) (fun ex fr' m' => ∃ z', Zx e.next z0 z' ∧ St z' e m' k ∧ ex = AExit.exit 2 ∧ fr' 8 = (vB r) ∧ OwF TWagon z' e m' k x4 v4 ∧ Bx z' e m' k b5 [(vI x5.number), (vI x5.kind), (vI x5.a), (vI x5.b), (vI x5.c)] 32 ∧ Ap (blkOf v4) (some b5) ∧ True) fr m := by
 intro n
 induction n with
 | zero => intro N z0 z e m k fr x4 x5 x8 x9 x10 v4 b5 hz st h4 o4 h5 bx5 h8 h9 h10 ao4_o5 r hr; cases (show (none : Option _) = some r from hr)
 | succ n ih =>
  intro N z0 z e m k fr x4 x5 x8 x9 x10 v4 b5 hz st h4 o4 h5 bx5 h8 h9 h10 ao4_o5 r hr
  unfold l36_RulebookSeparates_1 at hr
  refine W.loop1 ?_
  refine W.seq (W.seq (W.region ?_))
  refine sx rfl (pMove (v := (vI x10)) rfl h10) ?_
  refine sx rfl (pMove (v := v4) rfl h4) ?_
  refine sx rfl (pLenO (xs := x4) rfl Try.underlying24 rfl o4.ow) ?_
  refine sx rfl (pLss (k := .i64) (a := x10) (b := (x4.length : Int)) rfl rfl rfl) ?_
  refine SeqW.done fun fr117 hf118 => ?_
  have h4 := (congrFun hf118 4).trans h4
  have h5 := (congrFun hf118 5).trans h5
  have h8 := (congrFun hf118 8).trans h8
  have h9 := (congrFun hf118 9).trans h9
  have h10 := (congrFun hf118 10).trans h10
  have h45 : fr117 45 = (vB (decide (x10 < (x4.length : Int)))) := (congrFun hf118 45).trans rfl
  clear hf118
  refine thenQ.n ?_
  rcases if_some hr with ⟨hc119, hr⟩ | ⟨hc170, hr⟩
  ·refine W.condT h45 hc119 (W.skip ?_)
   refine thenQ.n (W.seq ?_)
   refine W.block ?_
   obtain ⟨y157, hy157, hr⟩ := bind_some hr
   refine W.keep (u_l36_RulebookSeparates_2 (x5 := x5) (Zx.refl _) st h4 o4 h5 bx5 h8 h9 h10 ao4_o5 hy157) ?_
   rintro ex163 fr158 m159 hk161 ⟨z160, hz162, st, rfl, h8, O164, O165, A166, -⟩
   have h4 := (hk161 4 rfl).trans h4
   have h5 := (hk161 5 rfl).trans h5
   have h9 := (hk161 9 rfl).trans h9
   have h10 := (hk161 10 rfl).trans h10
   replace hz := hz.trans hz162
   clear hk161
   refine blockQ.n ?_
   refine thenQ.n (W.region ?_)
   refine sx rfl (pMove (v := (vI x10)) rfl h10) ?_
   refine sx rfl (pAdd (k := .i64) (a := x10) (b := 1) rfl rfl rfl) ?_
   obtain ⟨y167, hy167, hr⟩ := lt_some hr
   refine sx rfl (pAssign rfl (congrArg (Value.int .i64) hy167)) ?_
   refine SeqW.done fun fr168 hf169 => ?_
   have h4 := (congrFun hf169 4).trans h4
   have h5 := (congrFun hf169 5).trans h5
   have h8 := (congrFun hf169 8).trans h8
   have h9 := (congrFun hf169 9).trans h9
   have h10 : fr168 10 = (vI y167) := (congrFun hf169 10).trans rfl
   clear hf169
   refine thenQ.n ?_
   exact ih (x5 := x5) hz st h4 O164 h5 O165 h8 h9 h10 A166 hr
  ·refine W.condF h45 hc170 ?_
   refine W.exit ?_
   refine thenQ.x ?_
   refine thenQ.x ?_
   obtain rfl := Option.some.inj hr
   exact ⟨z, hz, st, rfl, h8, o4, bx5, ao4_o5, trivial⟩

theorem u_l36_RulebookSeparates_0 : ∀ (n : Nat) {N : Nat}  {z0 z : Nat → Blk} {e m : Mem} {k : Option Nat} {fr : Nat → Value} {x4 : List Wagon} {x5 : Rule} {x8 : Bool} {x9 : Int} {v4 : Value} {b5 : Nat} (hz : Zx e.next z0 z) (st : St z e m k) (h4 : fr 4 = v4) (o4 : OwF TWagon z e m k x4 v4) (h5 : fr 5 = (vP b5)) (bx5 : Bx z e m k b5 [(vI x5.number), (vI x5.kind), (vI x5.a), (vI x5.b), (vI x5.c)] 32) (h8 : fr 8 = (vB x8)) (h9 : fr 9 = (vI x9)) (ao4_o5 : Ap (blkOf v4) (some b5)) {r : Bool} (hr : l36_RulebookSeparates_0 N x4 x5 n x8 x9 = some r), W Try.prog (sub (bodyOf Try.f6) [1, 1, 1, 1, 1, 1, 0, 1, 0]) (fun ex fr' m' => ∃ z', Zx e.next z0 z' ∧ St z' e m' k ∧ ex = AExit.exit 0 ∧ fr' 8 = (vB r) ∧ OwF TWagon z' e m' k x4 v4 ∧ Bx z' e m' k b5 [(vI x5.number), (vI x5.kind), (vI x5.a), (vI x5.b), (vI x5.c)] 32 ∧ Ap (blkOf v4) (some b5) ∧ True) fr m := by
 intro n
 induction n with
 | zero => intro N z0 z e m k fr x4 x5 x8 x9 v4 b5 hz st h4 o4 h5 bx5 h8 h9 ao4_o5 r hr; cases (show (none : Option _) = some r from hr)
 | succ n ih =>
  intro N z0 z e m k fr x4 x5 x8 x9 v4 b5 hz st h4 o4 h5 bx5 h8 h9 ao4_o5 r hr
  unfold l36_RulebookSeparates_0 at hr
  refine W.loop1 ?_
  refine W.seq (W.seq (W.region ?_))
  refine sx rfl (pMove (v := (vI x9)) rfl h9) ?_
  refine sx rfl (pMove (v := v4) rfl h4) ?_
  refine sx rfl (pLenO (xs := x4) rfl Try.underlying24 rfl o4.ow) ?_
  refine sx rfl (pLss (k := .i64) (a := x9) (b := (x4.length : Int)) rfl rfl rfl) ?_
  refine SeqW.done fun fr112 hf113 => ?_
  have h4 := (congrFun hf113 4).trans h4
  have h5 := (congrFun hf113 5).trans h5
  have h8 := (congrFun hf113 8).trans h8
  have h9 := (congrFun hf113 9).trans h9
  have h39 : fr112 39 = (vB (decide (x9 < (x4.length : Int)))) := (congrFun hf113 39).trans rfl
  clear hf113
  refine thenQ.n ?_
  rcases if_some hr with ⟨hc114, hr⟩ | ⟨hc184, hr⟩
  ·refine W.condT h39 hc114 (W.skip ?_)
   refine thenQ.n (W.seq ?_)
   refine W.block ?_
   refine W.seq (W.region ?_)
   refine sx rfl (pAssign (v := (vI 0)) rfl rfl) ?_
   refine SeqW.done fun fr115 hf116 => ?_
   have h4 := (congrFun hf116 4).trans h4
   have h5 := (congrFun hf116 5).trans h5
   have h8 := (congrFun hf116 8).trans h8
   have h9 := (congrFun hf116 9).trans h9
   have h10 : fr115 10 = (vI 0) := (congrFun hf116 10).trans rfl
   clear hf116
   refine thenQ.n ?_
   refine W.block ?_
   obtain ⟨y171, hy171, hr⟩ := bind_some hr
   refine W.keep (u_l36_RulebookSeparates_1 (x5 := x5) _ (Zx.refl _) st h4 o4 h5 bx5 h8 h9 h10 ao4_o5 hy171) ?_
   rintro ex177 fr172 m173 hk175 ⟨z174, hz176, st, rfl, h8, O178, O179, A180, -⟩
   have h4 := (hk175 4 rfl).trans h4
   have h5 := (hk175 5 rfl).trans h5
   have h9 := (hk175 9 rfl).trans h9
   replace hz := hz.trans hz176
   clear hk175
   refine blockQ.hit ?_
   refine blockQ.n ?_
   refine thenQ.n (W.region ?_)
   refine sx rfl (pMove (v := (vI x9)) rfl h9) ?_
   refine sx rfl (pAdd (k := .i64) (a := x9) (b := 1) rfl rfl rfl) ?_
   obtain ⟨y181, hy181, hr⟩ := lt_some hr
   refine sx rfl (pAssign rfl (congrArg (Value.int .i64) hy181)) ?_
   refine SeqW.done fun fr182 hf183 => ?_
   have h4 := (congrFun hf183 4).trans h4
   have h5 := (congrFun hf183 5).trans h5
   have h8 := (congrFun hf183 8).trans h8
   have h9 : fr182 9 = (vI y181) := (congrFun hf183 9).trans rfl
   clear hf183
   refine thenQ.n ?_
   exact ih (x5 := x5) hz st h4 O178 h5 O179 h8 h9 A180 hr
  ·refine W.condF h39 hc184 ?_
   refine W.exit ?_
   refine thenQ.x ?_
   refine thenQ.x ?_
   obtain rfl := Option.some.inj hr
   exact ⟨z, hz, st, rfl, h8, o4, bx5, ao4_o5, trivial⟩

theorem u_l36_RulebookSeparates_3 : ∀ (n : Nat) {N : Nat}  {z0 z : Nat → Blk} {e m : Mem} {k : Option Nat} {fr : Nat → Value} {x4 : List Wagon} {x11 : List Wagon} {x12 : Int} {v4 : Value} {x5 : Rule} {b5 : Nat} {v11 : Value} (hz : Zx e.next z0 z) (st : St z e m k) (h4 : fr 4 = v4) (o4 : OwF TWagon z e m k x4 v4) (h5 : fr 5 = (vP b5)) (bx5 : Bx z e m k b5 [(vI x5.number), (vI x5.kind), (vI x5.a), (vI x5.b), (vI x5.c)] 32) (h11 : fr 11 = v11) (o11 : OwF TWagon z e m k x11 v11) (h12 : fr 12 = (vI x12)) (ao4_o5 : Ap (blkOf v4) (some b5)) (ao4_o11 : Ap (blkOf v4) (blkOf v11)) (ao5_o11 : Ap (some b5) (blkOf v11)) {r : List Wagon} (hr : l36_RulebookSeparates_3 N x4 n x11 x12 = some r), W Try.prog (sub (bodyOf Try.f6) [1, 1, 1, 1, 1, 1, 1, 1, 0, 1, 0]) (fun ex fr' m' => ∃ z', Zx e.next z0 z' ∧ St z' e m' k ∧ ex = AExit.exit 4 ∧ ∃ (w11 : Value), fr' 11 = w11 ∧ OwF TWagon z' e m' k r w11 ∧ OwF TWagon z' e m' k x4 v4 ∧ Bx z' e m' k b5 [(vI x5.number), (vI x5.kind), (vI x5.a), (vI x5.b), (vI x5.c)] 32 ∧ Ap (blkOf w11) (blkOf v4) ∧ Ap (blkOf w11) (some b5) ∧ Ap (blkOf v4) (some b5) ∧ True) fr m := by
 intro n
 induction n with
 | zero => intro N z0 z e m k fr x4 x11 x12 v4 x5 b5 v11 hz st h4 o4 h5 bx5 h11 o11 h12 ao4_o5 ao4_o11 ao5_o11 r hr; cases (show (none : Option _) = some r from hr)
 | succ n ih =>
  intro N z0 z e m k fr x4 x11 x12 v4 x5 b5 v11 hz st h4 o4 h5 bx5 h11 o11 h12 ao4_o5 ao4_o11 ao5_o11 r hr
  unfold l36_RulebookSeparates_3 at hr
  refine W.loop1 ?_
  refine W.seq (W.seq (W.region ?_))
  refine sx rfl (pMove (v := (vI x12)) rfl h12) ?_
  refine sx rfl (pGeq (k := .i64) (a := x12) (b := 0) rfl rfl rfl) ?_
  refine SeqW.done fun fr200 hf201 => ?_
  have h4 := (congrFun hf201 4).trans h4
  have h5 := (congrFun hf201 5).trans h5
  have h11 := (congrFun hf201 11).trans h11
  have h12 := (congrFun hf201 12).trans h12
  have h91 : fr200 91 = (vB (decide (0 ≤ x12))) := (congrFun hf201 91).trans rfl
  clear hf201
  refine thenQ.n ?_
  rcases if_some hr with ⟨hc202, hr⟩ | ⟨hc236, hr⟩
  ·refine W.condT h91 hc202 (W.skip ?_)
   refine thenQ.n (W.seq ?_)
   refine W.block ?_
   refine W.region ?_
   refine sx rfl (pMove (v := v11) rfl h11) ?_
   refine sx rfl (pMove (v := v4) rfl h4) ?_
   refine sx rfl (pMove (v := (vI x12)) rfl h12) ?_
   obtain ⟨y203, hy203, hr⟩ := bind_some hr
   refine SeqW.consX rfl (kIdxO (T := TWagon) (xs := x4) (n := x12) rfl Try.underlying24 Try.type36 rfl rfl rfl o4 hy203 ?_)
   intro B204 l205 c206 cs207 hv208 hd209 hg210 hc211
   have hd2090 := hd209
   obtain rfl := hd2090
   refine SeqW.consX rfl (kLoadA rfl Try.underlying36 rfl Try.type36 rfl rfl hc211 ?_)
   refine SeqW.consX rfl (kBuild (T := TWagon) rfl Try.underlying24 Try.type36 rfl rfl rfl rfl ([y203] : List Wagon) [[(str y203.number), (vI y203.length), (vI y203.axles), (vI y203.mass), (vI y203.brake), (vI y203.goods), (vB y203.gentle), (str y203.dest)]] rfl rfl rfl (BuildOk.mk (w := (Value.agg [(str y203.number), (vI y203.length), (vI y203.axles), (vI y203.mass), (vI y203.brake), (vI y203.goods), (vB y203.gentle), (str y203.dest)].toArray)) rfl rfl rfl rfl trivial) st ?_)
   intro V212 m213 st O214 sm215 hap216
   have A218 := hap216 _ o4.lt
   have A219 := hap216 _ bx5.lt'
   have A220 := hap216 _ o11.lt
   replace o4 := o4.same sm215 Ap.none'
   replace bx5 := bx5.same sm215 Ap.none'
   replace o11 := o11.same sm215 Ap.none'
   obtain ⟨y221, hy221, hr⟩ := bind_some hr
   refine SeqW.consX rfl (kAppend (T := TWagon) (xs := x11) (ys := ([y203] : List Wagon)) rfl Try.underlying24 Try.type36 rfl rfl rfl rfl rfl rfl (.inl ⟨_, Try.underlying24⟩) rfl o11 rfl O214.ow.src st hy221 ?_)
   intro V222 m223 st O224 sm225 hap226
   have A228 := hap226 _ o4.lt ao4_o11
   have A229 := hap226 _ bx5.lt' ao5_o11
   have A230 := hap226 _ O214.lt (Ap.symm A220)
   replace o4 := o4.same sm225 ao4_o11
   replace bx5 := bx5.same sm225 ao5_o11
   replace O214 := O214.same sm225 (Ap.symm A220)
   refine sx rfl (pAssign (v := V222) rfl rfl) ?_
   refine SeqW.done fun fr231 hf232 => ?_
   have h4 := (congrFun hf232 4).trans h4
   have h5 := (congrFun hf232 5).trans h5
   have h11 : fr231 11 = V222 := (congrFun hf232 11).trans rfl
   have h12 := (congrFun hf232 12).trans h12
   clear hf232
   refine blockQ.n ?_
   refine thenQ.n (W.region ?_)
   refine sx rfl (pMove (v := (vI x12)) rfl h12) ?_
   refine sx rfl (pSub (k := .i64) (a := x12) (b := 1) rfl rfl rfl) ?_
   obtain ⟨y233, hy233, hr⟩ := lt_some hr
   refine sx rfl (pAssign rfl (congrArg (Value.int .i64) hy233)) ?_
   refine SeqW.done fun fr234 hf235 => ?_
   have h4 := (congrFun hf235 4).trans h4
   have h5 := (congrFun hf235 5).trans h5
   have h11 := (congrFun hf235 11).trans h11
   have h12 : fr234 12 = (vI y233) := (congrFun hf235 12).trans rfl
   clear hf235
   refine thenQ.n ?_
   exact ih (x5 := x5) hz st h4 o4 h5 bx5 h11 O224 h12 ao4_o5 A228 A229 hr
  ·refine W.condF h91 hc236 ?_
   refine W.exit ?_
   refine thenQ.x ?_
   refine thenQ.x ?_
   obtain rfl := Option.some.inj hr
   exact ⟨z, hz, st, rfl, v11, h11, o11, o4, bx5, (Ap.symm ao4_o11), (Ap.symm ao5_o11), ao4_o5, trivial⟩

theorem u_l36_RulebookSeparates_4 {N : Nat}  {z0 z : Nat → Blk} {e m : Mem} {k : Option Nat} {fr : Nat → Value} {x6 : Int} {x7 : Int} {x8 : Bool} {x13 : Int} {x14 : Int} {x15 : Int} {x16 : Int} (hz : Zx e.next z0 z) (st : St z e m k) (h6 : fr 6 = (vI x6)) (h7 : fr 7 = (vI x7)) (h8 : fr 8 = (vB x8)) (h13 : fr 13 = (vI x13)) (h14 : fr 14 = (vI x14)) (h15 : fr 15 = (vI x15)) (h16 : fr 16 = (vI x16)) {r : Bool} (hr : l36_RulebookSeparates_4 N x6 x7 x8 x13 x14 x15 x16 = some r) : W Try.prog (sub (bodyOf Try.f6) [1, 1, 1, 1, 1, 1, 1, 1, 1, 1, 1, 1, 0]) (fun ex fr' m' => ∃ z', Zx e.next z0 z' ∧ St z' e m' k ∧ ex = AExit.normal ∧ fr' 2 = (vB r) ∧ True) fr m := by
 unfold l36_RulebookSeparates_4 at hr
 refine W.region ?_
 refine sx rfl (pMove (v := (vI x7)) rfl h7) ?_
 refine sx rfl (pEql (k := .i64) (a := x7) (b := 0) rfl rfl rfl) ?_
 refine sx rfl (pMove (v := (vB (x7 == 0))) rfl rfl) ?_
 rcases if_some hr with ⟨hc276, hr⟩ | ⟨hc300, hr⟩
 ·refine SeqW.consG rfl rfl rfl hc276 (StepX.pure (pMove (v := (vI x14)) rfl h14) ?_)
  refine SeqW.consG rfl rfl rfl hc276 (StepX.pure (pEql (k := .i64) (a := x14) (b := 0) rfl rfl rfl) ?_)
  refine sx rfl (pPick (t := true) (v := (vB (x14 == 0))) rfl ((congrArg vB hc276)) rfl) ?_
  refine sx rfl (pMove (v := (vB (x14 == 0))) rfl rfl) ?_
  rcases if_some hr with ⟨hc277, hr⟩ | ⟨hc297, hr⟩
  ·refine SeqW.consG rfl rfl rfl hc277 (StepX.pure (pMove (v := (vI x16)) rfl h16) ?_)
   refine SeqW.consG rfl rfl rfl hc277 (StepX.pure (pEql (k := .i64) (a := x16) (b := 0) rfl rfl rfl) ?_)
   refine sx rfl (pPick (t := true) (v := (vB (x16 == 0))) rfl ((congrArg vB hc277)) rfl) ?_
   refine sx rfl (pMove (v := (vB (x16 == 0))) rfl rfl) ?_
   rcases if_some hr with ⟨hc278, hr⟩ | ⟨hc294, hr⟩
   ·refine SeqW.consG rfl rfl rfl hc278 (StepX.pure (pMove (v := (vI x6)) rfl h6) ?_)
    refine SeqW.consG rfl rfl rfl hc278 (StepX.pure (pGeq (k := .i64) (a := x6) (b := 0) rfl rfl rfl) ?_)
    refine SeqW.consG rfl rfl rfl hc278 (StepX.pure (pMove (v := (vB x8)) rfl h8) ?_)
    refine SeqW.consG rfl rfl rfl hc278 (StepX.pure (pEqlB (a := (decide (0 ≤ x6))) (b := x8) rfl Try.underlying4 rfl rfl) ?_)
    refine sx rfl (pPick (t := true) (v := (vB ((decide (0 ≤ x6)) == x8))) rfl ((congrArg vB hc278)) rfl) ?_
    refine sx rfl (pMove (v := (vB ((decide (0 ≤ x6)) == x8))) rfl rfl) ?_
    rcases if_some hr with ⟨hc279, hr⟩ | ⟨hc291, hr⟩
    ·refine SeqW.consG rfl rfl rfl hc279 (StepX.pure (pMove (v := (vI x6)) rfl h6) ?_)
     refine SeqW.consG rfl rfl rfl hc279 (StepX.pure (pMove (v := (vI x13)) rfl h13) ?_)
     refine SeqW.consG rfl rfl rfl hc279 (StepX.pure (pEql (k := .i64) (a := x6) (b := x13) rfl rfl rfl) ?_)
     refine sx rfl (pPick (t := true) (v := (vB (x6 == x13))) rfl ((congrArg vB hc279)) rfl) ?_
     refine sx rfl (pMove (v := (vB (x6 == x13))) rfl rfl) ?_
     rcases if_some hr with ⟨hc280, hr⟩ | ⟨hc288, hr⟩
     ·refine SeqW.consG rfl rfl rfl hc280 (StepX.pure (pMove (v := (vI x15)) rfl h15) ?_)
      refine SeqW.consG rfl rfl rfl hc280 (StepX.pure (pGeq (k := .i64) (a := x15) (b := 0) rfl rfl rfl) ?_)
      refine SeqW.consG rfl rfl rfl hc280 (StepX.pure (pMove (v := (vB x8)) rfl h8) ?_)
      refine SeqW.consG rfl rfl rfl hc280 (StepX.pure (pEqlB (a := (decide (0 ≤ x15))) (b := x8) rfl Try.underlying4 rfl rfl) ?_)
      refine sx rfl (pPick (t := true) (v := (vB ((decide (0 ≤ x15)) == x8))) rfl ((congrArg vB hc280)) rfl) ?_
      refine sx rfl (pMove (v := (vB ((decide (0 ≤ x15)) == x8))) rfl rfl) ?_
      rcases if_some hr with ⟨hc281, hr⟩ | ⟨hc285, hr⟩
      ·obtain ⟨y282, hy282, hr⟩ := bind_some hr
       refine SeqW.consG rfl rfl rfl hc281 (StepX.call (gCallee rfl rfl args0) ((c_l36_sane (z := z) st.fz st.dead  hy282).mono ?_))
       rintro _ _ ⟨rfl, rfl⟩
       refine sx rfl (pPick (t := true) (v := (vB y282)) rfl ((congrArg vB hc281)) rfl) ?_
       refine sx rfl (pAssign (v := (vB y282)) rfl rfl) ?_
       refine SeqW.done fun fr283 hf284 => ?_
       have h2 : fr283 2 = (vB y282) := (congrFun hf284 2).trans rfl
       clear hf284
       obtain rfl := Option.some.inj hr
       exact ⟨z, hz, st, rfl, h2, trivial⟩
      ·refine kx rfl rfl rfl hc285 ?_
       refine sx rfl (pPick (t := false) (v := (vB false)) rfl ((congrArg vB hc285)) rfl) ?_
       refine sx rfl (pAssign (v := (vB false)) rfl rfl) ?_
       refine SeqW.done fun fr286 hf287 => ?_
       have h2 : fr286 2 = (vB false) := (congrFun hf287 2).trans rfl
       clear hf287
       obtain rfl := Option.some.inj hr
       exact ⟨z, hz, st, rfl, h2, trivial⟩
     ·refine kx rfl rfl rfl hc288 ?_
      iterate 3 refine kx rfl rfl rfl hc288 ?_
      refine sx rfl (pPick (t := false) (v := (vB false)) rfl ((congrArg vB hc288)) rfl) ?_
      refine sx rfl (pMove (v := (vB false)) rfl rfl) ?_
      refine kx rfl rfl rfl rfl ?_
      refine sx rfl (pPick (t := false) (v := (vB false)) rfl ((congrArg vB (rfl : false = false))) rfl) ?_
      refine sx rfl (pAssign (v := (vB false)) rfl rfl) ?_
      refine SeqW.done fun fr289 hf290 => ?_
      have h2 : fr289 2 = (vB false) := (congrFun hf290 2).trans rfl
      clear hf290
      obtain rfl := Option.some.inj hr
      exact ⟨z, hz, st, rfl, h2, trivial⟩
    ·refine kx rfl rfl rfl hc291 ?_
     iterate 2 refine kx rfl rfl rfl hc291 ?_
     refine sx rfl (pPick (t := false) (v := (vB false)) rfl ((congrArg vB hc291)) rfl) ?_
     refine sx rfl (pMove (v := (vB false)) rfl rfl) ?_
     iterate 4 refine kx rfl rfl rfl rfl ?_
     refine sx rfl (pPick (t := false) (v := (vB false)) rfl ((congrArg vB (rfl : false = false))) rfl) ?_
     refine sx rfl (pMove (v := (vB false)) rfl rfl) ?_
     refine kx rfl rfl rfl rfl ?_
     refine sx rfl (pPick (t := false) (v := (vB false)) rfl ((congrArg vB (rfl : false = false))) rfl) ?_
     refine sx rfl (pAssign (v := (vB false)) rfl rfl) ?_
     refine SeqW.done fun fr292 hf293 => ?_
     have h2 : fr292 2 = (vB false) := (congrFun hf293 2).trans rfl
     clear hf293
     obtain rfl := Option.some.inj hr
     exact ⟨z, hz, st, rfl, h2, trivial⟩
   ·refine kx rfl rfl rfl hc294 ?_
    iterate 3 refine kx rfl rfl rfl hc294 ?_
    refine sx rfl (pPick (t := false) (v := (vB false)) rfl ((congrArg vB hc294)) rfl) ?_
    refine sx rfl (pMove (v := (vB false)) rfl rfl) ?_
    iterate 3 refine kx rfl rfl rfl rfl ?_
    refine sx rfl (pPick (t := false) (v := (vB false)) rfl ((congrArg vB (rfl : false = false))) rfl) ?_
    refine sx rfl (pMove (v := (vB false)) rfl rfl) ?_
    iterate 4 refine kx rfl rfl rfl rfl ?_
    refine sx rfl (pPick (t := false) (v := (vB false)) rfl ((congrArg vB (rfl : false = false))) rfl) ?_
    refine sx rfl (pMove (v := (vB false)) rfl rfl) ?_
    refine kx rfl rfl rfl rfl ?_
    refine sx rfl (pPick (t := false) (v := (vB false)) rfl ((congrArg vB (rfl : false = false))) rfl) ?_
    refine sx rfl (pAssign (v := (vB false)) rfl rfl) ?_
    refine SeqW.done fun fr295 hf296 => ?_
    have h2 : fr295 2 = (vB false) := (congrFun hf296 2).trans rfl
    clear hf296
    obtain rfl := Option.some.inj hr
    exact ⟨z, hz, st, rfl, h2, trivial⟩
  ·refine kx rfl rfl rfl hc297 ?_
   refine kx rfl rfl rfl hc297 ?_
   refine sx rfl (pPick (t := false) (v := (vB false)) rfl ((congrArg vB hc297)) rfl) ?_
   refine sx rfl (pMove (v := (vB false)) rfl rfl) ?_
   iterate 4 refine kx rfl rfl rfl rfl ?_
   refine sx rfl (pPick (t := false) (v := (vB false)) rfl ((congrArg vB (rfl : false = false))) rfl) ?_
   refine sx rfl (pMove (v := (vB false)) rfl rfl) ?_
   iterate 3 refine kx rfl rfl rfl rfl ?_
   refine sx rfl (pPick (t := false) (v := (vB false)) rfl ((congrArg vB (rfl : false = false))) rfl) ?_
   refine sx rfl (pMove (v := (vB false)) rfl rfl) ?_
   iterate 4 refine kx rfl rfl rfl rfl ?_
   refine sx rfl (pPick (t := false) (v := (vB false)) rfl ((congrArg vB (rfl : false = false))) rfl) ?_
   refine sx rfl (pMove (v := (vB false)) rfl rfl) ?_
   refine kx rfl rfl rfl rfl ?_
   refine sx rfl (pPick (t := false) (v := (vB false)) rfl ((congrArg vB (rfl : false = false))) rfl) ?_
   refine sx rfl (pAssign (v := (vB false)) rfl rfl) ?_
   refine SeqW.done fun fr298 hf299 => ?_
   have h2 : fr298 2 = (vB false) := (congrFun hf299 2).trans rfl
   clear hf299
   obtain rfl := Option.some.inj hr
   exact ⟨z, hz, st, rfl, h2, trivial⟩
 ·refine kx rfl rfl rfl hc300 ?_
  refine kx rfl rfl rfl hc300 ?_
  refine sx rfl (pPick (t := false) (v := (vB false)) rfl ((congrArg vB hc300)) rfl) ?_
  refine sx rfl (pMove (v := (vB false)) rfl rfl) ?_
  iterate 2 refine kx rfl rfl rfl rfl ?_
  refine sx rfl (pPick (t := false) (v := (vB false)) rfl ((congrArg vB (rfl : false = false))) rfl) ?_
  refine sx rfl (pMove (v := (vB false)) rfl rfl) ?_
  iterate 4 refine kx rfl rfl rfl rfl ?_
  refine sx rfl (pPick (t := false) (v := (vB false)) rfl ((congrArg vB (rfl : false = false))) rfl) ?_
  refine sx rfl (pMove (v := (vB false)) rfl rfl) ?_
  iterate 3 refine kx rfl rfl rfl rfl ?_
  refine sx rfl (pPick (t := false) (v := (vB false)) rfl ((congrArg vB (rfl : false = false))) rfl) ?_
  refine sx rfl (pMove (v := (vB false)) rfl rfl) ?_
  iterate 4 refine kx rfl rfl rfl rfl ?_
  refine sx rfl (pPick (t := false) (v := (vB false)) rfl ((congrArg vB (rfl : false = false))) rfl) ?_
  refine sx rfl (pMove (v := (vB false)) rfl rfl) ?_
  refine kx rfl rfl rfl rfl ?_
  refine sx rfl (pPick (t := false) (v := (vB false)) rfl ((congrArg vB (rfl : false = false))) rfl) ?_
  refine sx rfl (pAssign (v := (vB false)) rfl rfl) ?_
  refine SeqW.done fun fr301 hf302 => ?_
  have h2 : fr301 2 = (vB false) := (congrFun hf302 2).trans rfl
  clear hf302
  obtain rfl := Option.some.inj hr
  exact ⟨z, hz, st, rfl, h2, trivial⟩

theorem u_l36_RulebookSeparates {N : Nat}  {z0 z : Nat → Blk} {e m : Mem} {k : Option Nat} {fr : Nat → Value} {x0 : List Int} {v0 : Value} (hz : Zx e.next z0 z) (st : St z e m k) (h0 : fr 0 = v0) (s0 : SlR (TInt 3 .i64) z x0 v0) {r : Bool} (hr : l36_RulebookSeparates N x0 = some r) : W Try.prog (sub (bodyOf Try.f6) []) (fun ex fr' m' => ∃ z', Zx e.next z0 z' ∧ St z' e m' k ∧ (ex = .normal ∨ ex = .ret) ∧ fr' 2 = (vB r) ∧ True) fr m := by
 unfold l36_RulebookSeparates at hr
 refine W.seq (W.region ?_)
 refine sx rfl (pAssign (v := (vB false)) rfl rfl) ?_
 refine SeqW.done fun fr1 hf2 => ?_
 have h0 := (congrFun hf2 0).trans h0
 clear hf2
 refine thenQ.n (W.seq (W.region ?_))
 refine sx rfl (pMove (v := v0) rfl h0) ?_
 obtain ⟨y3, hy3, hr⟩ := bind_some hr
 refine SeqW.consX rfl (StepX.call (gCallee rfl rfl (args1 rfl)) ((c_gen_New (z := z) st.fz st.dead s0 hy3).mono ?_))
 rintro _ m8 ⟨z4, B9, V12, hzx5, fz6, sm7, rfl, Q13, X10, hn15, -⟩
 replace s0 := s0.mono hzx5.le
 have X10 : Bx z4 e m8 k B9 _ _ := ⟨X10.blk, X10.lt, X10.dead, .inl (Nat.le_trans st.next hn15)⟩
 replace hz := hz.trans (Zx.here st hzx5)
 replace st := st.call hzx5 fz6 sm7 no_hq
 refine sx rfl (pAssign (v := (vP B9)) rfl rfl) ?_
 refine SeqW.done fun fr16 hf17 => ?_
 have h3 : fr16 3 = (vP B9) := (congrFun hf17 3).trans rfl
 clear hf17
 refine thenQ.n (W.seq (W.region ?_))
 refine sx rfl (pMove (v := (vP B9)) rfl h3) ?_
 obtain ⟨y18, hy18, hr⟩ := bind_some hr
 refine SeqW.consX rfl (StepX.call (gCallee rfl rfl (args2 rfl rfl)) ((c_Maker_Wagons (x0 := y3) (z := z4) st.fz st.dead Q13 ⟨X10.blk, X10.lt, X10.dead, .inr rfl⟩ hy18).mono ?_))
 rintro V24 m23 ⟨z19, _, V27, hzx20, fz21, sm22, rfl, Q25, Q28, X30, -⟩
 have A31 := Ap.own X10.lt' Q25.fresh
 replace Q13 := Q13.mono hzx20.le
 have X10n : Bx z19 e m23 k B9 _ _ := ⟨X30.blk, X30.lt, X30.dead, X10.fresh⟩
 have Q25 : OwF TWagon z19 e m23 k y18.1 V24 := Q25.up st.next
 replace hz := hz.trans (Zx.here st hzx20)
 replace st := st.call hzx20 fz21 sm22 X10.hq
 refine sx rfl (pAssign (v := V24) rfl rfl) ?_
 refine SeqW.done fun fr32 hf33 => ?_
 have h3 := (congrFun hf33 3).trans h3
 have h4 : fr32 4 = V24 := (congrFun hf33 4).trans rfl
 clear hf33
 refine thenQ.n (W.seq (W.region ?_))
 refine sx rfl (pMove (v := (vP B9)) rfl h3) ?_
 refine SeqW.consX rfl (kBuild (T := (TInt 3 .i64)) rfl Try.underlying22 Try.type3 rfl rfl rfl rfl ([0, 1, 3, 9] : List Int) [[(vI 0)], [(vI 1)], [(vI 3)], [(vI 9)]] rfl rfl rfl (BuildOk.mk (w := (vI 0)) rfl rfl rfl rfl (BuildOk.mk (w := (vI 1)) rfl rfl rfl rfl (BuildOk.mk (w := (vI 3)) rfl rfl rfl rfl (BuildOk.mk (w := (vI 9)) rfl rfl rfl rfl trivial)))) st ?_)
 intro V34 m35 st O36 sm37 hap38
 have A40 := hap38 _ X10n.lt'
 have A41 := hap38 _ Q25.lt
 replace X10n := X10n.same sm37 Ap.none'
 replace Q25 := Q25.same sm37 Ap.none'
 obtain ⟨z42, hz43, st, Q44, hl45⟩ := O36.freeze st
 replace X10n := X10n.zle (hl45 _ A40)
 replace Q25 := Q25.zle hz43.le (hl45 _ A41)
 replace Q28 := Q28.mono hz43.le
 replace hz := hz.trans hz43
 obtain ⟨y46, hy46, hr⟩ := bind_some hr
 refine SeqW.consX rfl (StepX.call (gCallee rfl rfl (args2 rfl rfl)) ((c_Maker_Pick (x0 := y18.2) (z := z42) st.fz st.dead Q28 ⟨X10n.blk, X10n.lt, X10n.dead, .inr rfl⟩ Q44 hy46).mono ?_))
 rintro _ m51 ⟨z47, V52, hzx48, fz49, sm50, rfl, Q53, X55, -⟩
 replace Q25 := Q25.call hzx48 sm50 (Ap.symm A31)
 replace Q28 := Q28.mono hzx48.le
 replace Q44 := Q44.mono hzx48.le
 have X10nn : Bx z47 e m51 k B9 _ _ := ⟨X55.blk, X55.lt, X55.dead, X10n.fresh⟩
 replace hz := hz.trans (Zx.here st hzx48)
 replace st := st.call hzx48 fz49 sm50 X10n.hq
 refine sx rfl (pMove (v := (vP B9)) rfl h3) ?_
 refine SeqW.consX rfl (kBuild (T := (TInt 3 .i64)) rfl Try.underlying22 Try.type3 rfl rfl rfl rfl ([0, 1, 3, 9] : List Int) [[(vI 0)], [(vI 1)], [(vI 3)], [(vI 9)]] rfl rfl rfl (BuildOk.mk (w := (vI 0)) rfl rfl rfl rfl (BuildOk.mk (w := (vI 1)) rfl rfl rfl rfl (BuildOk.mk (w := (vI 3)) rfl rfl rfl rfl (BuildOk.mk (w := (vI 9)) rfl rfl rfl rfl trivial)))) st ?_)
 intro V56 m57 st O58 sm59 hap60
 have A62 := hap60 _ X10nn.lt'
 have A63 := hap60 _ Q25.lt
 replace X10nn := X10nn.same sm59 Ap.none'
 replace Q25 := Q25.same sm59 Ap.none'
 obtain ⟨z64, hz65, st, Q66, hl67⟩ := O58.freeze st
 replace X10nn := X10nn.zle (hl67 _ A62)
 replace Q25 := Q25.zle hz65.le (hl67 _ A63)
 replace Q53 := Q53.mono hz65.le
 replace hz := hz.trans hz65
 obtain ⟨y68, hy68, hr⟩ := bind_some hr
 refine SeqW.consX rfl (StepX.call (gCallee rfl rfl (args2 rfl rfl)) ((c_Maker_Pick (x0 := y46.2) (z := z64) st.fz st.dead Q53 ⟨X10nn.blk, X10nn.lt, X10nn.dead, .inr rfl⟩ Q66 hy68).mono ?_))
 rintro _ m73 ⟨z69, V74, hzx70, fz71, sm72, rfl, Q75, X77, -⟩
 replace Q25 := Q25.call hzx70 sm72 (Ap.symm A31)
 replace Q53 := Q53.mono hzx70.le
 replace Q66 := Q66.mono hzx70.le
 have X10nnn : Bx z69 e m73 k B9 _ _ := ⟨X77.blk, X77.lt, X77.dead, X10nn.fresh⟩
 replace hz := hz.trans (Zx.here st hzx70)
 replace st := st.call hzx70 fz71 sm72 X10nn.hq
 refine sx rfl (pMove (v := (vP B9)) rfl h3) ?_
 obtain ⟨y78, hy78, hr⟩ := bind_some hr
 refine SeqW.consX rfl (StepX.call (gCallee rfl rfl (args2 rfl rfl)) ((c_Maker_Next (x0 := y68.2) (z := z69) st.fz st.dead Q75 ⟨X10nnn.blk, X10nnn.lt, X10nnn.dead, .inr rfl⟩ hy78).mono ?_))
 rintro _ m83 ⟨z79, V84, hzx80, fz81, sm82, rfl, Q85, X87, -⟩
 replace Q25 := Q25.call hzx80 sm82 (Ap.symm A31)
 replace Q75 := Q75.mono hzx80.le
 have X10nnnn : Bx z79 e m83 k B9 _ _ := ⟨X87.blk, X87.lt, X87.dead, X10nnn.fresh⟩
 replace hz := hz.trans (Zx.here st hzx80)
 replace st := st.call hzx80 fz81 sm82 X10nnn.hq
 refine SeqW.consX rfl (kBuildS [(0, (vI 1)), (1, (vI 5)), (2, (vI y46.1)), (3, (vI y68.1)), (4, (vI y78.1))] [(vI 1), (vI 5), (vI y46.1), (vI y68.1), (vI y78.1)] rfl Try.underlying32 Try.type32 rfl rfl (places32 Try.underlying32) rfl (rfl) rfl ?_)
 refine SeqW.consX rfl (kAlloc rfl Try.type32 rfl rfl rfl [(vI 0), (vI 0), (vI 0), (vI 0), (vI 0)] rfl st ?_)
 intro B88 m89  st X90 sm91 hap92
 have A94 := hap92 _ Q25.lt
 replace Q25 := Q25.same sm91 Ap.none'
 refine SeqW.consX rfl (kPut (off := 0) (w := (Value.agg [(vI 1), (vI 5), (vI y46.1), (vI y68.1), (vI y78.1)].toArray)) (new := [(vI 1), (vI 5), (vI y46.1), (vI y68.1), (vI y78.1)]) rfl Try.type32 rfl rfl rfl rfl rfl X90 rfl [(vI 1), (vI 5), (vI y46.1), (vI y68.1), (vI y78.1)] rfl st ?_)
 intro m95 st X90 sm96
 replace Q25 := Q25.same sm96 A94
 refine SeqW.done fun fr97 hf98 => ?_
 have h4 := (congrFun hf98 4).trans h4
 have h5 : fr97 5 = (vP B88) := (congrFun hf98 5).trans rfl
 clear hf98
 refine thenQ.n (W.seq (W.region ?_))
 refine SeqW.consX rfl (kLoadA rfl Try.underlying32 rfl Try.type32 rfl h5 X90.loads ?_)
 refine sx rfl (pMove (v := V24) rfl h4) ?_
 obtain ⟨z99, hz100, st103, Q101, hl102⟩ := Q25.freeze st
 have X104 := X90.zle (hl102 _ (Ap.symm A94))
 obtain ⟨y105, hy105, hr⟩ := bind_some hr
 refine SeqW.consX rfl (StepX.call (gCallee rfl rfl (args3 rfl rfl rfl)) ((c_rulebook_Place (x0 := (Rule.mk 1 5 y46.1 y68.1 y78.1)) (z := z99) st103.fz st.dead Q101 (SlR.nil (T := (TInt 3 .i64))) hy105).mono ?_))
 rintro _ _ ⟨rfl, rfl⟩
 refine sx rfl (pMove (v := (Value.tuple [(vI y105.1), (vI y105.2)].toArray)) rfl rfl) ?_
 refine sx rfl (pExtract (vs := [(vI y105.1), (vI y105.2)]) (v := (vI y105.1)) rfl rfl rfl) ?_
 refine sx rfl (pExtract (vs := [(vI y105.1), (vI y105.2)]) (v := (vI y105.2)) rfl rfl rfl) ?_
 refine sx rfl (pAssign (v := (vI y105.1)) rfl rfl) ?_
 refine sx rfl (pAssign (v := (vI y105.2)) rfl rfl) ?_
 refine SeqW.done fun fr106 hf107 => ?_
 have h4 := (congrFun hf107 4).trans h4
 have h5 := (congrFun hf107 5).trans h5
 have h6 : fr106 6 = (vI y105.1) := (congrFun hf107 6).trans rfl
 have h7 : fr106 7 = (vI y105.2) := (congrFun hf107 7).trans rfl
 clear hf107
 refine thenQ.n (W.seq (W.region ?_))
 refine sx rfl (pAssign (v := (vB false)) rfl rfl) ?_
 refine SeqW.done fun fr108 hf109 => ?_
 have h4 := (congrFun hf109 4).trans h4
 have h5 := (congrFun hf109 5).trans h5
 have h6 := (congrFun hf109 6).trans h6
 have h7 := (congrFun hf109 7).trans h7
 have h8 : fr108 8 = (vB false) := (congrFun hf109 8).trans rfl
 clear hf109
 refine thenQ.n (W.seq ?_)
 refine W.seq (W.region ?_)
 refine sx rfl (pAssign (v := (vI 0)) rfl rfl) ?_
 refine SeqW.done fun fr110 hf111 => ?_
 have h4 := (congrFun hf111 4).trans h4
 have h5 := (congrFun hf111 5).trans h5
 have h6 := (congrFun hf111 6).trans h6
 have h7 := (congrFun hf111 7).trans h7
 have h8 := (congrFun hf111 8).trans h8
 have h9 : fr110 9 = (vI 0) := (congrFun hf111 9).trans rfl
 clear hf111
 refine thenQ.n ?_
 refine W.block ?_
 obtain ⟨y185, hy185, hr⟩ := bind_some hr
 refine W.keep (u_l36_RulebookSeparates_0 (x5 := (Rule.mk 1 5 y46.1 y68.1 y78.1)) _ (Zx.refl _) st h4 Q25 h5 X90 h8 h9 A94 hy185) ?_
 rintro ex191 fr186 m187 hk189 ⟨z188, hz190, st, rfl, h8, O192, O193, A194, -⟩
 have h4 := (hk189 4 rfl).trans h4
 have h5 := (hk189 5 rfl).trans h5
 have h6 := (hk189 6 rfl).trans h6
 have h7 := (hk189 7 rfl).trans h7
 replace hz := hz.trans hz190
 clear hk189
 refine blockQ.hit ?_
 refine thenQ.n (W.seq (W.region ?_))
 refine sx rfl (pAssign (v := (Value.slice none 0 0)) rfl rfl) ?_
 refine SeqW.done fun fr195 hf196 => ?_
 have h4 := (congrFun hf196 4).trans h4
 have h5 := (congrFun hf196 5).trans h5
 have h6 := (congrFun hf196 6).trans h6
 have h7 := (congrFun hf196 7).trans h7
 have h8 := (congrFun hf196 8).trans h8
 have h11 : fr195 11 = (Value.slice none 0 0) := (congrFun hf196 11).trans rfl
 clear hf196
 refine thenQ.n (W.seq ?_)
 refine W.seq (W.region ?_)
 refine sx rfl (pMove (v := V24) rfl h4) ?_
 refine sx rfl (pLenO (xs := y18.1) rfl Try.underlying24 rfl O192.ow) ?_
 refine sx rfl (pSub (k := .i64) (a := (y18.1.length : Int)) (b := 1) rfl rfl rfl) ?_
 obtain ⟨y197, hy197, hr⟩ := lt_some hr
 refine sx rfl (pAssign rfl (congrArg (Value.int .i64) hy197)) ?_
 refine SeqW.done fun fr198 hf199 => ?_
 have h4 := (congrFun hf199 4).trans h4
 have h5 := (congrFun hf199 5).trans h5
 have h6 := (congrFun hf199 6).trans h6
 have h7 := (congrFun hf199 7).trans h7
 have h8 := (congrFun hf199 8).trans h8
 have h11 := (congrFun hf199 11).trans h11
 have h12 : fr198 12 = (vI y197) := (congrFun hf199 12).trans rfl
 clear hf199
 refine thenQ.n ?_
 refine W.block ?_
 obtain ⟨y237, hy237, hr⟩ := bind_some hr
 refine W.keep (u_l36_RulebookSeparates_3 (x5 := (Rule.mk 1 5 y46.1 y68.1 y78.1)) _ (Zx.refl _) st h4 O192 h5 O193 h11 OwF.nil h12 A194 Ap.none' Ap.none' hy237) ?_
 rintro ex243 fr238 m239 hk241 ⟨z240, hz242, st, rfl, w244, h11, O246, O247, O248, A249, A250, A251, -⟩
 have h4 := (hk241 4 rfl).trans h4
 have h5 := (hk241 5 rfl).trans h5
 have h6 := (hk241 6 rfl).trans h6
 have h7 := (hk241 7 rfl).trans h7
 have h8 := (hk241 8 rfl).trans h8
 replace hz := hz.trans hz242
 clear hk241
 refine blockQ.hit ?_
 refine thenQ.n (W.seq (W.region ?_))
 refine SeqW.consX rfl (kField rfl Try.underlying32 rfl Try.type3 rfl h5 rfl ?_)
 refine SeqW.consX rfl (kLoad rfl Try.underlying3 rfl rfl (O248.load (v := (vI y68.1)) rfl) ?_)
 refine SeqW.consX rfl (kField rfl Try.underlying32 rfl Try.type3 rfl h5 rfl ?_)
 refine SeqW.consX rfl (kLoad rfl Try.underlying3 rfl rfl (O248.load (v := (vI y46.1)) rfl) ?_)
 refine SeqW.consX rfl (kField rfl Try.underlying32 rfl Try.type3 rfl h5 rfl ?_)
 refine SeqW.consX rfl (kPut (off := 2) (w := (vI y68.1)) (new := [(vI y68.1)]) rfl Try.type3 rfl rfl rfl rfl rfl O248 rfl [(vI 1), (vI 5), (vI y68.1), (vI y68.1), (vI y78.1)] rfl st ?_)
 intro m252 st O248 sm253
 replace O247 := O247.same sm253 A251
 replace O246 := O246.same sm253 A250
 refine SeqW.consX rfl (kField rfl Try.underlying32 rfl Try.type3 rfl h5 rfl ?_)
 refine SeqW.consX rfl (kPut (off := 3) (w := (vI y46.1)) (new := [(vI y46.1)]) rfl Try.type3 rfl rfl rfl rfl rfl O248 rfl [(vI 1), (vI 5), (vI y68.1), (vI y46.1), (vI y78.1)] rfl st ?_)
 intro m254 st O248 sm255
 replace O247 := O247.same sm255 A251
 replace O246 := O246.same sm255 A250
 refine SeqW.done fun fr256 hf257 => ?_
 have h4 := (congrFun hf257 4).trans h4
 have h5 := (congrFun hf257 5).trans h5
 have h6 := (congrFun hf257 6).trans h6
 have h7 := (congrFun hf257 7).trans h7
 have h8 := (congrFun hf257 8).trans h8
 have h11 := (congrFun hf257 11).trans h11
 clear hf257
 refine thenQ.n (W.seq (W.region ?_))
 refine SeqW.consX rfl (kLoadA rfl Try.underlying32 rfl Try.type32 rfl h5 O248.loads ?_)
 refine sx rfl (pMove (v := V24) rfl h4) ?_
 obtain ⟨z258, hz259, st262, Q260, hl261⟩ := O247.freeze st
 have X263 := O248.zle (hl261 _ (Ap.symm A251))
 have O264 := O246.zle hz259.le (hl261 _ A249)
 obtain ⟨y265, hy265, hr⟩ := bind_some hr
 refine SeqW.consX rfl (StepX.call (gCallee rfl rfl (args3 rfl rfl rfl)) ((c_rulebook_Place (x0 := (Rule.mk 1 5 y68.1 y46.1 y78.1)) (z := z258) st262.fz st.dead Q260 (SlR.nil (T := (TInt 3 .i64))) hy265).mono ?_))
 rintro _ _ ⟨rfl, rfl⟩
 refine sx rfl (pMove (v := (Value.tuple [(vI y265.1), (vI y265.2)].toArray)) rfl rfl) ?_
 refine sx rfl (pExtract (vs := [(vI y265.1), (vI y265.2)]) (v := (vI y265.1)) rfl rfl rfl) ?_
 refine sx rfl (pExtract (vs := [(vI y265.1), (vI y265.2)]) (v := (vI y265.2)) rfl rfl rfl) ?_
 refine sx rfl (pAssign (v := (vI y265.1)) rfl rfl) ?_
 refine sx rfl (pAssign (v := (vI y265.2)) rfl rfl) ?_
 refine SeqW.done fun fr266 hf267 => ?_
 have h5 := (congrFun hf267 5).trans h5
 have h6 := (congrFun hf267 6).trans h6
 have h7 := (congrFun hf267 7).trans h7
 have h8 := (congrFun hf267 8).trans h8
 have h11 := (congrFun hf267 11).trans h11
 have h13 : fr266 13 = (vI y265.1) := (congrFun hf267 13).trans rfl
 have h14 : fr266 14 = (vI y265.2) := (congrFun hf267 14).trans rfl
 clear hf267
 refine thenQ.n (W.seq (W.region ?_))
 refine SeqW.consX rfl (kLoadA rfl Try.underlying32 rfl Try.type32 rfl h5 O248.loads ?_)
 refine sx rfl (pMove (v := w244) rfl h11) ?_
 obtain ⟨z268, hz269, st272, Q270, hl271⟩ := O246.freeze st
 obtain ⟨y273, hy273, hr⟩ := bind_some hr
 refine SeqW.consX rfl (StepX.call (gCallee rfl rfl (args3 rfl rfl rfl)) ((c_rulebook_Place (x0 := (Rule.mk 1 5 y68.1 y46.1 y78.1)) (z := z268) st272.fz st.dead Q270 (SlR.nil (T := (TInt 3 .i64))) hy273).mono ?_))
 rintro _ _ ⟨rfl, rfl⟩
 refine sx rfl (pMove (v := (Value.tuple [(vI y273.1), (vI y273.2)].toArray)) rfl rfl) ?_
 refine sx rfl (pExtract (vs := [(vI y273.1), (vI y273.2)]) (v := (vI y273.1)) rfl rfl rfl) ?_
 refine sx rfl (pExtract (vs := [(vI y273.1), (vI y273.2)]) (v := (vI y273.2)) rfl rfl rfl) ?_
 refine sx rfl (pAssign (v := (vI y273.1)) rfl rfl) ?_
 refine sx rfl (pAssign (v := (vI y273.2)) rfl rfl) ?_
 refine SeqW.done fun fr274 hf275 => ?_
 have h6 := (congrFun hf275 6).trans h6
 have h7 := (congrFun hf275 7).trans h7
 have h8 := (congrFun hf275 8).trans h8
 have h13 := (congrFun hf275 13).trans h13
 have h14 := (congrFun hf275 14).trans h14
 have h15 : fr274 15 = (vI y273.1) := (congrFun hf275 15).trans rfl
 have h16 : fr274 16 = (vI y273.2) := (congrFun hf275 16).trans rfl
 clear hf275
 refine thenQ.n (W.seq ?_)
 obtain ⟨y303, hy303, hr⟩ := bind_some hr
 refine W.keep (u_l36_RulebookSeparates_4 (Zx.refl _) st h6 h7 h8 h13 h14 h15 h16 hy303) ?_
 rintro ex309 fr304 m305 hk307 ⟨z306, hz308, st, rfl, h2, -⟩
 replace hz := hz.trans hz308
 clear hk307
 refine thenQ.n ?_
 refine W.ret ?_
 obtain rfl := Option.some.inj hr
 exact ⟨z306, hz, st, .inr rfl, h2, trivial⟩

theorem c_l36_RulebookSeparates {N : Nat} {z : Nat → Blk} {m : Mem} {x0 : List Int} {v0 : Value} (fz : Fz z m) (hd : ∀ b, m.next ≤ b → m.blk b = .dead) (s0 : SlR (TInt 3 .i64) z x0 v0) {r : Bool} (hr : l36_RulebookSeparates N x0 = some r) : CallW Try.prog 6 #[v0] m fun v m' => v = (vB r) ∧ m' = m := by
 refine CallW.flat Try.func6 rfl (by kernel_rfl) (Nat.le_of_ble_eq_true rfl) rfl (z := z) (fun fr hf => ?_)
 have h0 : fr 0 = _ := hf 0 _ rfl
 refine (u_l36_RulebookSeparates (k := none) (Zx.refl _) (St.start fz hd) h0 s0 hr).mono ?_
 rintro ex fr' m' ⟨z', hz, st, he, h2, -⟩
 exact ⟨he, z', st, [(vB r)], ⟨h2.symm, trivial⟩, .inl rfl, rfl⟩

end Go.W
