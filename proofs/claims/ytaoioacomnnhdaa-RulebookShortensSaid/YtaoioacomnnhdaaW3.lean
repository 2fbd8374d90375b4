/- The models are what the program computes. -/
import Derived.Test.YtaoioacomnnhdaaW2
set_option linter.unusedVariables false
set_option linter.unusedSimpArgs false
set_option maxRecDepth 100000
set_option maxHeartbeats 4000000
namespace Go.W
open Go.AM Go.Proofs


/-! ### humpyard/rulebook.Place -/

theorem u_rulebook_Place {N : Nat}  {z0 z : Nat → Blk} {e m : Mem} {k : Option Nat} {fr : Nat → Value} {x0 : Rule} {x1 : List Wagon} {x2 : List Int} {v1 : Value} {v2 : Value} (hz : Zx e.next z0 z) (st : St z e m k) (h0 : fr 0 = (Value.agg [(vI x0.number), (vI x0.kind), (vI x0.a), (vI x0.b), (vI x0.c)].toArray)) (h1 : fr 1 = v1) (s1 : SlR TWagon z x1 v1) (h2 : fr 2 = v2) (s2 : SlR (TInt 3 .i64) z x2 v2) {r : Int × Int} (hr : rulebook_Place N x0 x1 x2 = some r) : W Try.prog (sub (bodyOf Try.f19) []) (fun ex fr' m' => ∃ z', Zx e.next z0 z' ∧ St z' e m' k ∧ (ex = .normal ∨ ex = .ret) ∧ fr' 6 = (vI r.1) ∧ fr' 7 = (vI r.2) ∧ True) fr m := by
 unfold rulebook_Place at hr
 refine W.seq (W.region ?_)
 refine SeqW.consX rfl (kBox (v := (Value.agg [(vI x0.number), (vI x0.kind), (vI x0.a), (vI x0.b), (vI x0.c)].toArray)) rfl Try.type32 h0 rfl [(vI x0.number), (vI x0.kind), (vI x0.a), (vI x0.b), (vI x0.c)] rfl rfl st ?_)
 intro B1 m2  st X3 sm4 hap5
 refine sx rfl (pAssign (v := (vI 0)) rfl rfl) ?_
 refine sx rfl (pAssign (v := (vI 0)) rfl rfl) ?_
 refine SeqW.done fun fr7 hf8 => ?_
 have h1 := (congrFun hf8 1).trans h1
 have h2 := (congrFun hf8 2).trans h2
 have h3 : fr7 3 = (vP B1) := (congrFun hf8 3).trans rfl
 clear hf8
 refine thenQ.n (W.seq ?_)
 refine W.seq (W.region ?_)
 refine SeqW.consX rfl (kLoadA rfl Try.underlying32 rfl Try.type32 rfl h3 X3.loads ?_)
 obtain ⟨y9, hy9, hr⟩ := bind_some hr
 refine SeqW.consX rfl (StepX.call (gCallee rfl rfl (args1 rfl)) ((c_rulebook_valid (x0 := x0) (z := z) st.fz st.dead  hy9).mono ?_))
 rintro _ _ ⟨rfl, rfl⟩
 refine sx rfl (pNot (b := y9) rfl rfl) ?_
 refine SeqW.done fun fr10 hf11 => ?_
 have h1 := (congrFun hf11 1).trans h1
 have h2 := (congrFun hf11 2).trans h2
 have h3 := (congrFun hf11 3).trans h3
 have h12 : fr10 12 = (vB (!y9)) := (congrFun hf11 12).trans rfl
 clear hf11
 refine thenQ.n ?_
 rcases if_some hr with ⟨hc12, hr⟩ | ⟨hc15, hr⟩
 ·refine W.condT h12 hc12 (W.seq (W.region ?_))
  refine sx rfl (pAssign (v := (vI 0)) rfl rfl) ?_
  refine sx rfl (pAssign (v := (vI 1)) rfl rfl) ?_
  refine SeqW.done fun fr13 hf14 => ?_
  have h6 : fr13 6 = (vI 0) := (congrFun hf14 6).trans rfl
  have h7 : fr13 7 = (vI 1) := (congrFun hf14 7).trans rfl
  clear hf14
  refine thenQ.n ?_
  refine W.ret ?_
  refine thenQ.r ?_
  obtain rfl := Option.some.inj hr
  exact ⟨z, hz, st, .inr rfl, h6, h7, trivial⟩
 ·refine W.condF h12 hc15 (W.skip ?_)
  refine thenQ.n (W.seq (W.region ?_))
  refine sx rfl (pMove (v := v1) rfl h1) ?_
  refine sx rfl (pMove (v := v2) rfl h2) ?_
  obtain ⟨y16, hy16, hr⟩ := bind_some hr
  refine SeqW.consX rfl (StepX.call (gCallee rfl rfl (args2 rfl rfl)) ((c_brake_Total (z := z) st.fz st.dead s1 s2 hy16).mono ?_))
  rintro _ m21 ⟨z17, hzx18, fz19, sm20, rfl, -⟩
  replace s1 := s1.mono hzx18.le
  replace s2 := s2.mono hzx18.le
  replace X3 := X3.call hzx18 sm20 Ap.none'
  replace hz := hz.trans (Zx.here st hzx18)
  replace st := st.call hzx18 fz19 sm20 no_hq
  refine sx rfl (pMove (v := (Value.tuple [(Value.agg [(vI y16.1.length), (vI y16.1.axles), (vI y16.1.mass), (vI y16.1.braked), (vI y16.1.percent), (vI y16.1.required), (vI y16.1.missing)].toArray), (vI y16.2)].toArray)) rfl rfl) ?_
  refine sx rfl (pExtract (vs := [(Value.agg [(vI y16.1.length), (vI y16.1.axles), (vI y16.1.mass), (vI y16.1.braked), (vI y16.1.percent), (vI y16.1.required), (vI y16.1.missing)].toArray), (vI y16.2)]) (v := (Value.agg [(vI y16.1.length), (vI y16.1.axles), (vI y16.1.mass), (vI y16.1.braked), (vI y16.1.percent), (vI y16.1.required), (vI y16.1.missing)].toArray)) rfl rfl rfl) ?_
  refine sx rfl (pExtract (vs := [(Value.agg [(vI y16.1.length), (vI y16.1.axles), (vI y16.1.mass), (vI y16.1.braked), (vI y16.1.percent), (vI y16.1.required), (vI y16.1.missing)].toArray), (vI y16.2)]) (v := (vI y16.2)) rfl rfl rfl) ?_
  refine SeqW.consX rfl (kAlloc rfl Try.type59 rfl rfl rfl [(vI 0), (vI 0), (vI 0), (vI 0), (vI 0), (vI 0), (vI 0)] rfl st ?_)
  intro B22 m23  st X24 sm25 hap26
  have A28 := hap26 _ X3.lt'
  replace X3 := X3.same sm25 Ap.none'
  refine SeqW.consX rfl (kPut (off := 0) (w := (Value.agg [(vI y16.1.length), (vI y16.1.axles), (vI y16.1.mass), (vI y16.1.braked), (vI y16.1.percent), (vI y16.1.required), (vI y16.1.missing)].toArray)) (new := [(vI y16.1.length), (vI y16.1.axles), (vI y16.1.mass), (vI y16.1.braked), (vI y16.1.percent), (vI y16.1.required), (vI y16.1.missing)]) rfl Try.type59 rfl rfl rfl rfl rfl X24 rfl [(vI y16.1.length), (vI y16.1.axles), (vI y16.1.mass), (vI y16.1.braked), (vI y16.1.percent), (vI y16.1.required), (vI y16.1.missing)] rfl st ?_)
  intro m29 st X24 sm30
  replace X3 := X3.same sm30 A28
  refine sx rfl (pAssign (v := (vI y16.2)) rfl rfl) ?_
  refine SeqW.done fun fr31 hf32 => ?_
  have h1 := (congrFun hf32 1).trans h1
  have h2 := (congrFun hf32 2).trans h2
  have h3 := (congrFun hf32 3).trans h3
  have h8 : fr31 8 = (vP B22) := (congrFun hf32 8).trans rfl
  have h9 : fr31 9 = (vI y16.2) := (congrFun hf32 9).trans rfl
  clear hf32
  refine thenQ.n (W.seq ?_)
  refine W.seq (W.region ?_)
  refine sx rfl (pMove (v := (vI y16.2)) rfl h9) ?_
  refine sx rfl (pNeq (k := .i64) (a := y16.2) (b := 0) rfl rfl rfl) ?_
  refine SeqW.done fun fr33 hf34 => ?_
  have h1 := (congrFun hf34 1).trans h1
  have h2 := (congrFun hf34 2).trans h2
  have h3 := (congrFun hf34 3).trans h3
  have h8 := (congrFun hf34 8).trans h8
  have h9 := (congrFun hf34 9).trans h9
  have h20 : fr33 20 = (vB (y16.2 != 0)) := (congrFun hf34 20).trans rfl
  clear hf34
  refine thenQ.n ?_
  rcases if_some hr with ⟨hc35, hr⟩ | ⟨hc38, hr⟩
  ·refine W.condT h20 hc35 (W.seq (W.region ?_))
   refine sx rfl (pMove (v := (vI y16.2)) rfl h9) ?_
   refine sx rfl (pAssign (v := (vI 0)) rfl rfl) ?_
   refine sx rfl (pAssign (v := (vI y16.2)) rfl rfl) ?_
   refine SeqW.done fun fr36 hf37 => ?_
   have h6 : fr36 6 = (vI 0) := (congrFun hf37 6).trans rfl
   have h7 : fr36 7 = (vI y16.2) := (congrFun hf37 7).trans rfl
   clear hf37
   refine thenQ.n ?_
   refine W.ret ?_
   refine thenQ.r ?_
   obtain rfl := Option.some.inj hr
   exact ⟨z17, hz, st, .inr rfl, h6, h7, trivial⟩
  ·refine W.condF h20 hc38 (W.skip ?_)
   refine thenQ.n (W.seq (W.region ?_))
   refine sx rfl (pMove (v := v1) rfl h1) ?_
   refine sx rfl (pMove (v := v2) rfl h2) ?_
   refine SeqW.consX rfl (kLoadA rfl Try.underlying59 rfl Try.type59 rfl h8 X24.loads ?_)
   obtain ⟨A39, c40, eA39⟩ := s1.len
   subst eA39
   obtain ⟨A41, c42, eA41⟩ := s2.len
   subst eA41
   refine SeqW.consX rfl (kBuildS [(0, (Value.slice A39 (x1).length c40)), (1, (Value.slice A41 (x2).length c42)), (2, (Value.agg [(vI y16.1.length), (vI y16.1.axles), (vI y16.1.mass), (vI y16.1.braked), (vI y16.1.percent), (vI y16.1.required), (vI y16.1.missing)].toArray))] [(Value.slice A39 (x1).length c40), (Value.slice A41 (x2).length c42), (vI y16.1.length), (vI y16.1.axles), (vI y16.1.mass), (vI y16.1.braked), (vI y16.1.percent), (vI y16.1.required), (vI y16.1.missing)] rfl Try.underlying63 Try.type63 rfl rfl (places63 Try.underlying63) rfl (rfl) rfl ?_)
   refine SeqW.consX rfl (kLoadA rfl Try.underlying32 rfl Try.type32 rfl h3 X3.loads ?_)
   obtain ⟨y43, hy43, hr⟩ := bind_some hr
   refine SeqW.consX rfl (StepX.call (gCallee rfl rfl (args2 rfl rfl)) ((c_train_place (x0 := (Train.mk x1 x2 (Brakes.mk y16.1.length y16.1.axles y16.1.mass y16.1.braked y16.1.percent y16.1.required y16.1.missing))) (x1 := x0) (z := z17) st.fz st.dead s1 s2 hy43).mono ?_))
   rintro _ _ ⟨rfl, rfl⟩
   refine sx rfl (pAssign (v := (vI y43)) rfl rfl) ?_
   refine sx rfl (pAssign (v := (vI 0)) rfl rfl) ?_
   refine SeqW.done fun fr44 hf45 => ?_
   have h6 : fr44 6 = (vI y43) := (congrFun hf45 6).trans rfl
   have h7 : fr44 7 = (vI 0) := (congrFun hf45 7).trans rfl
   clear hf45
   refine thenQ.n ?_
   refine W.ret ?_
   obtain rfl := Option.some.inj hr
   exact ⟨z17, hz, st, .inr rfl, h6, h7, trivial⟩

theorem c_rulebook_Place {N : Nat} {z : Nat → Blk} {m : Mem} {x0 : Rule} {x1 : List Wagon} {x2 : List Int} {v1 : Value} {v2 : Value} (fz : Fz z m) (hd : ∀ b, m.next ≤ b → m.blk b = .dead) (s1 : SlR TWagon z x1 v1) (s2 : SlR (TInt 3 .i64) z x2 v2) {r : Int × Int} (hr : rulebook_Place N x0 x1 x2 = some r) : CallW Try.prog 19 #[(Value.agg [(vI x0.number), (vI x0.kind), (vI x0.a), (vI x0.b), (vI x0.c)].toArray), v1, v2] m fun v m' => v = (Value.tuple [(vI r.1), (vI r.2)].toArray) ∧ m' = m := by
 refine CallW.flat Try.func19 rfl (by kernel_rfl) (Nat.le_of_ble_eq_true rfl) rfl (z := z) (fun fr hf => ?_)
 have h0 : fr 0 = _ := hf 0 _ rfl
 have h1 : fr 1 = _ := hf 1 _ rfl
 have h2 : fr 2 = _ := hf 2 _ rfl
 refine (u_rulebook_Place (k := none) (Zx.refl _) (St.start fz hd) h0 h1 s1 h2 s2 hr).mono ?_
 rintro ex fr' m' ⟨z', hz, st, he, h6, h7, -⟩
 exact ⟨he, z', st, [(vI r.1), (vI r.2)], ⟨h6.symm, h7.symm, trivial⟩, .inr (List.forall_mem_cons.2 ⟨rfl, List.forall_mem_cons.2 ⟨rfl, fun _ h => nomatch h⟩⟩), rfl⟩

/-! ### humpyard/humpyardlaw36.wagon -/

theorem u_l36_wagon {N : Nat}  {z0 z : Nat → Blk} {e m : Mem} {k : Option Nat} {fr : Nat → Value} {x0 : Int} {x1 : Int} (hz : Zx e.next z0 z) (st : St z e m k) (h0 : fr 0 = (vI x0)) (h1 : fr 1 = (vI x1)) {r : Wagon} (hr : l36_wagon N x0 x1 = some r) : W Try.prog (sub (bodyOf Try.f28) []) (fun ex fr' m' => ∃ z', Zx e.next z0 z' ∧ St z' e m' k ∧ (ex = .normal ∨ ex = .ret) ∧ ∃ (c4 : Nat), fr' 4 = (vP c4) ∧ Bx z' e m' k c4 [(str r.number), (vI r.length), (vI r.axles), (vI r.mass), (vI r.brake), (vI r.goods), (vB r.gentle), (str r.dest)] 36 ∧ (e.next ≤ c4 ∨ k = some c4) ∧ True) fr m := by
 unfold l36_wagon at hr
 refine W.seq (W.region ?_)
 refine SeqW.consX rfl (kAlloc rfl Try.type36 rfl rfl rfl [(str []), (vI 0), (vI 0), (vI 0), (vI 0), (vI 0), (vB false), (str [])] rfl st ?_)
 intro B1 m2  st X3 sm4 hap5
 refine SeqW.done fun fr7 hf8 => ?_
 have h0 := (congrFun hf8 0).trans h0
 have h1 := (congrFun hf8 1).trans h1
 have h4 : fr7 4 = (vP B1) := (congrFun hf8 4).trans rfl
 clear hf8
 refine thenQ.n (W.seq (W.region ?_))
 refine SeqW.consX rfl (kBuild (T := (TInt 3 .i64)) rfl Try.underlying22 Try.type3 rfl rfl rfl rfl ([7] : List Int) [[(vI 7)]] rfl rfl rfl (BuildOk.mk (w := (vI 7)) rfl rfl rfl rfl trivial) st ?_)
 intro V9 m10 st O11 sm12 hap13
 have A15 := hap13 _ X3.lt'
 replace X3 := X3.same sm12 Ap.none'
 obtain ⟨z16, hz17, st, Q18, hl19⟩ := O11.freeze st
 replace X3 := X3.zle (hl19 _ A15)
 replace hz := hz.trans hz17
 obtain ⟨y20, hy20, hr⟩ := bind_some hr
 refine SeqW.consX rfl (StepX.call (gCallee rfl rfl (args1 rfl)) ((c_gen_New (z := z16) st.fz st.dead Q18 hy20).mono ?_))
 rintro _ m25 ⟨z21, B26, V29, hzx22, fz23, sm24, rfl, Q30, X27, hn32, -⟩
 have A33 := Ap.fresh X3.lt' hn32
 replace X3 := X3.call hzx22 sm24 Ap.none'
 replace Q18 := Q18.mono hzx22.le
 have X27 : Bx z21 e m25 k B26 _ _ := ⟨X27.blk, X27.lt, X27.dead, .inl (Nat.le_trans st.next hn32)⟩
 replace hz := hz.trans (Zx.here st hzx22)
 replace st := st.call hzx22 fz23 sm24 no_hq
 refine sx rfl (pMove (v := (vI x0)) rfl h0) ?_
 obtain ⟨y34, hy34, hr⟩ := bind_some hr
 refine SeqW.consX rfl (StepX.call (gCallee rfl rfl (args2 rfl rfl)) ((c_Maker_Wagon (x0 := y20) (z := z21) st.fz st.dead Q30 ⟨X27.blk, X27.lt, X27.dead, .inr rfl⟩ hy34).mono ?_))
 rintro _ m39 ⟨z35, V40, hzx36, fz37, sm38, rfl, Q41, X43, -⟩
 replace X3 := X3.call hzx36 sm38 A33
 replace Q30 := Q30.mono hzx36.le
 have X27n : Bx z35 e m39 k B26 _ _ := ⟨X43.blk, X43.lt, X43.dead, X27.fresh⟩
 replace hz := hz.trans (Zx.here st hzx36)
 replace st := st.call hzx36 fz37 sm38 X27.hq
 refine SeqW.consX rfl (kAlloc rfl Try.type36 rfl rfl rfl [(str []), (vI 0), (vI 0), (vI 0), (vI 0), (vI 0), (vB false), (str [])] rfl st ?_)
 intro B44 m45  st X46 sm47 hap48
 have A50 := hap48 _ X3.lt'
 replace X3 := X3.same sm47 Ap.none'
 refine SeqW.consX rfl (kPut (off := 0) (w := (Value.agg [(str y34.1.number), (vI y34.1.length), (vI y34.1.axles), (vI y34.1.mass), (vI y34.1.brake), (vI y34.1.goods), (vB y34.1.gentle), (str y34.1.dest)].toArray)) (new := [(str y34.1.number), (vI y34.1.length), (vI y34.1.axles), (vI y34.1.mass), (vI y34.1.brake), (vI y34.1.goods), (vB y34.1.gentle), (str y34.1.dest)]) rfl Try.type36 rfl rfl rfl rfl rfl X46 rfl [(str y34.1.number), (vI y34.1.length), (vI y34.1.axles), (vI y34.1.mass), (vI y34.1.brake), (vI y34.1.goods), (vB y34.1.gentle), (str y34.1.dest)] rfl st ?_)
 intro m51 st X46 sm52
 replace X3 := X3.same sm52 A50
 refine SeqW.done fun fr53 hf54 => ?_
 have h1 := (congrFun hf54 1).trans h1
 have h4 := (congrFun hf54 4).trans h4
 have h5 : fr53 5 = (vP B44) := (congrFun hf54 5).trans rfl
 clear hf54
 refine thenQ.n (W.seq (W.region ?_))
 refine sx rfl (pMove (v := (vI x1)) rfl h1) ?_
 refine SeqW.consX rfl (kField rfl Try.underlying36 rfl Try.type3 rfl h5 rfl ?_)
 refine SeqW.consX rfl (kPut (off := 5) (w := (vI x1)) (new := [(vI x1)]) rfl Try.type3 rfl rfl rfl rfl rfl X46 rfl [(str y34.1.number), (vI y34.1.length), (vI y34.1.axles), (vI y34.1.mass), (vI y34.1.brake), (vI x1), (vB y34.1.gentle), (str y34.1.dest)] rfl st ?_)
 intro m55 st X46 sm56
 replace X3 := X3.same sm56 A50
 refine SeqW.done fun fr57 hf58 => ?_
 have h4 := (congrFun hf58 4).trans h4
 have h5 := (congrFun hf58 5).trans h5
 clear hf58
 refine thenQ.n (W.seq (W.region ?_))
 refine SeqW.consX rfl (kLoadA rfl Try.underlying36 rfl Try.type36 rfl h5 X46.loads ?_)
 refine SeqW.consX rfl (kPut (off := 0) (w := (Value.agg [(str y34.1.number), (vI y34.1.length), (vI y34.1.axles), (vI y34.1.mass), (vI y34.1.brake), (vI x1), (vB y34.1.gentle), (str y34.1.dest)].toArray)) (new := [(str y34.1.number), (vI y34.1.length), (vI y34.1.axles), (vI y34.1.mass), (vI y34.1.brake), (vI x1), (vB y34.1.gentle), (str y34.1.dest)]) rfl Try.type36 h4 rfl rfl rfl rfl X3 rfl [(str y34.1.number), (vI y34.1.length), (vI y34.1.axles), (vI y34.1.mass), (vI y34.1.brake), (vI x1), (vB y34.1.gentle), (str y34.1.dest)] rfl st ?_)
 intro m59 st X3 sm60
 refine SeqW.done fun fr61 hf62 => ?_
 have h4 := (congrFun hf62 4).trans h4
 clear hf62
 refine thenQ.n ?_
 refine W.ret ?_
 obtain rfl := Option.some.inj hr
 exact ⟨z35, hz, st, .inr rfl, B1, h4, X3, X3.fresh, trivial⟩

theorem c_l36_wagon {N : Nat} {z : Nat → Blk} {m : Mem} {x0 : Int} {x1 : Int} (fz : Fz z m) (hd : ∀ b, m.next ≤ b → m.blk b = .dead)  {r : Wagon} (hr : l36_wagon N x0 x1 = some r) : CallW Try.prog 28 #[(vI x0), (vI x1)] m fun v m' => ∃ z', Zx m.next z z' ∧ Fz z' m' ∧ Same m m' none ∧ v = (Value.agg [(str r.number), (vI r.length), (vI r.axles), (vI r.mass), (vI r.brake), (vI r.goods), (vB r.gentle), (str r.dest)].toArray) ∧ True := by
 refine CallW.any Try.func28 rfl (by kernel_rfl) (Nat.le_of_ble_eq_true rfl) (fun fr hf => ?_)
 have h0 : fr 0 = _ := hf 0 _ rfl
 have h1 : fr 1 = _ := hf 1 _ rfl
 refine (u_l36_wagon (k := none) (Zx.refl _) (St.start fz hd) h0 h1 hr).mono ?_
 rintro ex fr' m' ⟨z', hz, st, he, c4, h4, bx4, fx4, -⟩
 exact ⟨he, [(Value.agg [(str r.number), (vI r.length), (vI r.axles), (vI r.mass), (vI r.brake), (vI r.goods), (vB r.gentle), (str r.dest)].toArray)], ⟨resCell h4 bx4 Try.underlying36 rfl Try.type36 rfl, trivial⟩, .inl rfl, z', hz, st.fz, st.toSame, rfl, trivial⟩

/-! ### humpyard/humpyardlaw36.sane -/

theorem u_l36_sane_0 {N : Nat}  {z0 z : Nat → Blk} {e m : Mem} {k : Option Nat} {fr : Nat → Value} {x2 : List Rule} {x3 : Int} {x4 : Int} {x5 : Int} {x6 : Int} {x7 : Int} {x8 : Int} {x9 : Int} {x10 : Int} {v2 : Value} (hz : Zx e.next z0 z) (st : St z e m k) (h2 : fr 2 = v2) (o2 : OwF TRule z e m k x2 v2) (h3 : fr 3 = (vI x3)) (h4 : fr 4 = (vI x4)) (h5 : fr 5 = (vI x5)) (h6 : fr 6 = (vI x6)) (h7 : fr 7 = (vI x7)) (h8 : fr 8 = (vI x8)) (h9 : fr 9 = (vI x9)) (h10 : fr 10 = (vI x10)) {r : Bool} (hr : l36_sane_0 N x2 x3 x4 x5 x6 x7 x8 x9 x10 = some r) : W Try.prog (sub (bodyOf Try.f17) [1, 1, 1, 1, 1, 1, 0]) (fun ex fr' m' => ∃ z', Zx e.next z0 z' ∧ St z' e m' k ∧ ex = AExit.normal ∧ fr' 0 = (vB r) ∧ True) fr m := by
 unfold l36_sane_0 at hr
 refine W.region ?_
 refine sx rfl (pMove (v := (vI x5)) rfl h5) ?_
 refine sx rfl (pEql (k := .i64) (a := x5) (b := 0) rfl rfl rfl) ?_
 refine sx rfl (pMove (v := (vB (x5 == 0))) rfl rfl) ?_
 rcases if_some hr with ⟨hc100, hr⟩ | ⟨hc162, hr⟩
 ·refine SeqW.consG rfl rfl rfl hc100 (StepX.pure (pMove (v := (vI x3)) rfl h3) ?_)
  refine SeqW.consG rfl rfl rfl hc100 (StepX.pure (pEql (k := .i64) (a := x3) (b := 9) rfl rfl rfl) ?_)
  refine sx rfl (pPick (t := true) (v := (vB (x3 == 9))) rfl ((congrArg vB hc100)) rfl) ?_
  refine sx rfl (pMove (v := (vB (x3 == 9))) rfl rfl) ?_
  rcases if_some hr with ⟨hc101, hr⟩ | ⟨hc159, hr⟩
  ·refine SeqW.consG rfl rfl rfl hc101 (StepX.pure (pMove (v := (vI x4)) rfl h4) ?_)
   refine SeqW.consG rfl rfl rfl hc101 (StepX.pure (pEql (k := .i64) (a := x4) (b := 3) rfl rfl rfl) ?_)
   refine sx rfl (pPick (t := true) (v := (vB (x4 == 3))) rfl ((congrArg vB hc101)) rfl) ?_
   refine sx rfl (pMove (v := (vB (x4 == 3))) rfl rfl) ?_
   rcases if_some hr with ⟨hc102, hr⟩ | ⟨hc156, hr⟩
   ·refine SeqW.consG rfl rfl rfl hc102 (StepX.pure (pMove (v := (vI x8)) rfl h8) ?_)
    refine SeqW.consG rfl rfl rfl hc102 (StepX.pure (pEql (k := .i64) (a := x8) (b := 0) rfl rfl rfl) ?_)
    refine sx rfl (pPick (t := true) (v := (vB (x8 == 0))) rfl ((congrArg vB hc102)) rfl) ?_
    refine sx rfl (pMove (v := (vB (x8 == 0))) rfl rfl) ?_
    rcases if_some hr with ⟨hc103, hr⟩ | ⟨hc153, hr⟩
    ·refine SeqW.consG rfl rfl rfl hc103 (StepX.pure (pMove (v := (vI x6)) rfl h6) ?_)
     refine SeqW.consG rfl rfl rfl hc103 (StepX.pure (pEql (k := .i64) (a := x6) (b := 0) rfl rfl rfl) ?_)
     refine sx rfl (pPick (t := true) (v := (vB (x6 == 0))) rfl ((congrArg vB hc103)) rfl) ?_
     refine sx rfl (pMove (v := (vB (x6 == 0))) rfl rfl) ?_
     rcases if_some hr with ⟨hc104, hr⟩ | ⟨hc150, hr⟩
     ·refine SeqW.consG rfl rfl rfl hc104 (StepX.pure (pMove (v := (vI x7)) rfl h7) ?_)
      refine SeqW.consG rfl rfl rfl hc104 (StepX.pure (pEql (k := .i64) (a := x7) (b := (-1)) rfl rfl rfl) ?_)
      refine sx rfl (pPick (t := true) (v := (vB (x7 == (-1)))) rfl ((congrArg vB hc104)) rfl) ?_
      refine sx rfl (pMove (v := (vB (x7 == (-1)))) rfl rfl) ?_
      rcases if_some hr with ⟨hc105, hr⟩ | ⟨hc147, hr⟩
      ·refine SeqW.consG rfl rfl rfl hc105 (StepX.pure (pMove (v := (vI x10)) rfl h10) ?_)
       refine SeqW.consG rfl rfl rfl hc105 (StepX.pure (pEql (k := .i64) (a := x10) (b := 0) rfl rfl rfl) ?_)
       refine sx rfl (pPick (t := true) (v := (vB (x10 == 0))) rfl ((congrArg vB hc105)) rfl) ?_
       refine sx rfl (pMove (v := (vB (x10 == 0))) rfl rfl) ?_
       rcases if_some hr with ⟨hc106, hr⟩ | ⟨hc144, hr⟩
       ·refine SeqW.consG rfl rfl rfl hc106 (StepX.pure (pMove (v := (vI x9)) rfl h9) ?_)
        refine SeqW.consG rfl rfl rfl hc106 (StepX.pure (pEql (k := .i64) (a := x9) (b := 1) rfl rfl rfl) ?_)
        refine sx rfl (pPick (t := true) (v := (vB (x9 == 1))) rfl ((congrArg vB hc106)) rfl) ?_
        refine sx rfl (pMove (v := (vB (x9 == 1))) rfl rfl) ?_
        rcases if_some hr with ⟨hc107, hr⟩ | ⟨hc141, hr⟩
        ·refine SeqW.consG rfl rfl rfl hc107 (StepX.pure (pMove (v := v2) rfl h2) ?_)
         refine SeqW.consG rfl rfl rfl hc107 (StepX.pure (pMove (v := v2) rfl h2) ?_)
         obtain ⟨y108, hy108, hr⟩ := bind_some hr
         refine SeqW.consG rfl rfl rfl hc107 (kIdxO (T := TRule) (xs := x2) (n := 0) rfl Try.underlying23 Try.type32 rfl rfl rfl o2 hy108 ?_)
         intro B109 l110 c111 cs112 hv113 hd114 hg115 hc116
         have hd1140 := hd114
         obtain rfl := hd1140
         refine SeqW.consG rfl rfl rfl hc107 (kLoadA rfl Try.underlying32 rfl Try.type32 rfl rfl hc116 ?_)
         refine SeqW.consG rfl rfl rfl hc107 (kBuild (T := TRule) rfl Try.underlying23 Try.type32 rfl rfl rfl rfl ([y108] : List Rule) [[(vI y108.number), (vI y108.kind), (vI y108.a), (vI y108.b), (vI y108.c)]] rfl rfl rfl (BuildOk.mk (w := (Value.agg [(vI y108.number), (vI y108.kind), (vI y108.a), (vI y108.b), (vI y108.c)].toArray)) rfl rfl rfl rfl trivial) st ?_)
         intro V117 m118 st O119 sm120 hap121
         have A123 := hap121 _ o2.lt
         replace o2 := o2.same sm120 Ap.none'
         obtain ⟨y124, hy124, hr⟩ := bind_some hr
         refine SeqW.consG rfl rfl rfl hc107 (kAppend (T := TRule) (xs := x2) (ys := ([y108] : List Rule)) rfl Try.underlying23 Try.type32 rfl rfl rfl rfl rfl rfl (.inl ⟨_, Try.underlying23⟩) rfl o2 rfl O119.ow.src st hy124 ?_)
         intro V125 m126 st O127 sm128 hap129
         have A131 := hap129 _ O119.lt (Ap.symm A123)
         replace O119 := O119.same sm128 (Ap.symm A123)
         obtain ⟨z132, hz133, st136, Q134, hl135⟩ := O127.freeze st
         obtain ⟨y137, hy137, hr⟩ := bind_some hr
         refine SeqW.consG rfl rfl rfl hc107 (StepX.call (gCallee rfl rfl (args1 rfl)) ((c_rulebook_Valid (z := z132) st136.fz st.dead Q134 hy137).mono ?_))
         rintro _ _ ⟨rfl, rfl⟩
         refine SeqW.consG rfl rfl rfl hc107 (StepX.pure (pEql (k := .i64) (a := y137) (b := 8) rfl rfl rfl) ?_)
         refine sx rfl (pPick (t := true) (v := (vB (y137 == 8))) rfl ((congrArg vB hc107)) rfl) ?_
         obtain ⟨y138, hy138, hr⟩ := lt_some hr
         refine sx rfl (pAssign rfl (congrArg vB hy138)) ?_
         refine SeqW.done fun fr139 hf140 => ?_
         have h0 : fr139 0 = (vB y138) := (congrFun hf140 0).trans rfl
         clear hf140
         obtain rfl := Option.some.inj hr
         exact ⟨z, hz, st, rfl, h0, trivial⟩
        ·refine kx rfl rfl rfl hc141 ?_
         iterate 7 refine kx rfl rfl rfl hc141 ?_
         refine sx rfl (pPick (t := false) (v := (vB false)) rfl ((congrArg vB hc141)) rfl) ?_
         refine sx rfl (pAssign (v := (vB false)) rfl rfl) ?_
         refine SeqW.done fun fr142 hf143 => ?_
         have h0 : fr142 0 = (vB false) := (congrFun hf143 0).trans rfl
         clear hf143
         obtain rfl := Option.some.inj hr
         exact ⟨z, hz, st, rfl, h0, trivial⟩
       ·refine kx rfl rfl rfl hc144 ?_
        refine kx rfl rfl rfl hc144 ?_
        refine sx rfl (pPick (t := false) (v := (vB false)) rfl ((congrArg vB hc144)) rfl) ?_
        refine sx rfl (pMove (v := (vB false)) rfl rfl) ?_
        iterate 8 refine kx rfl rfl rfl rfl ?_
        refine sx rfl (pPick (t := false) (v := (vB false)) rfl ((congrArg vB (rfl : false = false))) rfl) ?_
        refine sx rfl (pAssign (v := (vB false)) rfl rfl) ?_
        refine SeqW.done fun fr145 hf146 => ?_
        have h0 : fr145 0 = (vB false) := (congrFun hf146 0).trans rfl
        clear hf146
        obtain rfl := Option.some.inj hr
        exact ⟨z, hz, st, rfl, h0, trivial⟩
      ·refine kx rfl rfl rfl hc147 ?_
       refine kx rfl rfl rfl hc147 ?_
       refine sx rfl (pPick (t := false) (v := (vB false)) rfl ((congrArg vB hc147)) rfl) ?_
       refine sx rfl (pMove (v := (vB false)) rfl rfl) ?_
       iterate 2 refine kx rfl rfl rfl rfl ?_
       refine sx rfl (pPick (t := false) (v := (vB false)) rfl ((congrArg vB (rfl : false = false))) rfl) ?_
       refine sx rfl (pMove (v := (vB false)) rfl rfl) ?_
       iterate 8 refine kx rfl rfl rfl rfl ?_
       refine sx rfl (pPick (t := false) (v := (vB false)) rfl ((congrArg vB (rfl : false = false))) rfl) ?_
       refine sx rfl (pAssign (v := (vB false)) rfl rfl) ?_
       refine SeqW.done fun fr148 hf149 => ?_
       have h0 : fr148 0 = (vB false) := (congrFun hf149 0).trans rfl
       clear hf149
       obtain rfl := Option.some.inj hr
       exact ⟨z, hz, st, rfl, h0, trivial⟩
     ·refine kx rfl rfl rfl hc150 ?_
      refine kx rfl rfl rfl hc150 ?_
      refine sx rfl (pPick (t := false) (v := (vB false)) rfl ((congrArg vB hc150)) rfl) ?_
      refine sx rfl (pMove (v := (vB false)) rfl rfl) ?_
      iterate 2 refine kx rfl rfl rfl rfl ?_
      refine sx rfl (pPick (t := false) (v := (vB false)) rfl ((congrArg vB (rfl : false = false))) rfl) ?_
      refine sx rfl (pMove (v := (vB false)) rfl rfl) ?_
      iterate 2 refine kx rfl rfl rfl rfl ?_
      refine sx rfl (pPick (t := false) (v := (vB false)) rfl ((congrArg vB (rfl : false = false))) rfl) ?_
      refine sx rfl (pMove (v := (vB false)) rfl rfl) ?_
      iterate 8 refine kx rfl rfl rfl rfl ?_
      refine sx rfl (pPick (t := false) (v := (vB false)) rfl ((congrArg vB (rfl : false = false))) rfl) ?_
      refine sx rfl (pAssign (v := (vB false)) rfl rfl) ?_
      refine SeqW.done fun fr151 hf152 => ?_
      have h0 : fr151 0 = (vB false) := (congrFun hf152 0).trans rfl
      clear hf152
      obtain rfl := Option.some.inj hr
      exact ⟨z, hz, st, rfl, h0, trivial⟩
    ·refine kx rfl rfl rfl hc153 ?_
     refine kx rfl rfl rfl hc153 ?_
     refine sx rfl (pPick (t := false) (v := (vB false)) rfl ((congrArg vB hc153)) rfl) ?_
     refine sx rfl (pMove (v := (vB false)) rfl rfl) ?_
     iterate 2 refine kx rfl rfl rfl rfl ?_
     refine sx rfl (pPick (t := false) (v := (vB false)) rfl ((congrArg vB (rfl : false = false))) rfl) ?_
     refine sx rfl (pMove (v := (vB false)) rfl rfl) ?_
     iterate 2 refine kx rfl rfl rfl rfl ?_
     refine sx rfl (pPick (t := false) (v := (vB false)) rfl ((congrArg vB (rfl : false = false))) rfl) ?_
     refine sx rfl (pMove (v := (vB false)) rfl rfl) ?_
     iterate 2 refine kx rfl rfl rfl rfl ?_
     refine sx rfl (pPick (t := false) (v := (vB false)) rfl ((congrArg vB (rfl : false = false))) rfl) ?_
     refine sx rfl (pMove (v := (vB false)) rfl rfl) ?_
     iterate 8 refine kx rfl rfl rfl rfl ?_
     refine sx rfl (pPick (t := false) (v := (vB false)) rfl ((congrArg vB (rfl : false = false))) rfl) ?_
     refine sx rfl (pAssign (v := (vB false)) rfl rfl) ?_
     refine SeqW.done fun fr154 hf155 => ?_
     have h0 : fr154 0 = (vB false) := (congrFun hf155 0).trans rfl
     clear hf155
     obtain rfl := Option.some.inj hr
     exact ⟨z, hz, st, rfl, h0, trivial⟩
   ·refine kx rfl rfl rfl hc156 ?_
    refine kx rfl rfl rfl hc156 ?_
    refine sx rfl (pPick (t := false) (v := (vB false)) rfl ((congrArg vB hc156)) rfl) ?_
    refine sx rfl (pMove (v := (vB false)) rfl rfl) ?_
    iterate 2 refine kx rfl rfl rfl rfl ?_
    refine sx rfl (pPick (t := false) (v := (vB false)) rfl ((congrArg vB (rfl : false = false))) rfl) ?_
    refine sx rfl (pMove (v := (vB false)) rfl rfl) ?_
    iterate 2 refine kx rfl rfl rfl rfl ?_
    refine sx rfl (pPick (t := false) (v := (vB false)) rfl ((congrArg vB (rfl : false = false))) rfl) ?_
    refine sx rfl (pMove (v := (vB false)) rfl rfl) ?_
    iterate 2 refine kx rfl rfl rfl rfl ?_
    refine sx rfl (pPick (t := false) (v := (vB false)) rfl ((congrArg vB (rfl : false = false))) rfl) ?_
    refine sx rfl (pMove (v := (vB false)) rfl rfl) ?_
    iterate 2 refine kx rfl rfl rfl rfl ?_
    refine sx rfl (pPick (t := false) (v := (vB false)) rfl ((congrArg vB (rfl : false = false))) rfl) ?_
    refine sx rfl (pMove (v := (vB false)) rfl rfl) ?_
    iterate 8 refine kx rfl rfl rfl rfl ?_
    refine sx rfl (pPick (t := false) (v := (vB false)) rfl ((congrArg vB (rfl : false = false))) rfl) ?_
    refine sx rfl (pAssign (v := (vB false)) rfl rfl) ?_
    refine SeqW.done fun fr157 hf158 => ?_
    have h0 : fr157 0 = (vB false) := (congrFun hf158 0).trans rfl
    clear hf158
    obtain rfl := Option.some.inj hr
    exact ⟨z, hz, st, rfl, h0, trivial⟩
  ·refine kx rfl rfl rfl hc159 ?_
   refine kx rfl rfl rfl hc159 ?_
   refine sx rfl (pPick (t := false) (v := (vB false)) rfl ((congrArg vB hc159)) rfl) ?_
   refine sx rfl (pMove (v := (vB false)) rfl rfl) ?_
   iterate 2 refine kx rfl rfl rfl rfl ?_
   refine sx rfl (pPick (t := false) (v := (vB false)) rfl ((congrArg vB (rfl : false = false))) rfl) ?_
   refine sx rfl (pMove (v := (vB false)) rfl rfl) ?_
   iterate 2 refine kx rfl rfl rfl rfl ?_
   refine sx rfl (pPick (t := false) (v := (vB false)) rfl ((congrArg vB (rfl : false = false))) rfl) ?_
   refine sx rfl (pMove (v := (vB false)) rfl rfl) ?_
   iterate 2 refine kx rfl rfl rfl rfl ?_
   refine sx rfl (pPick (t := false) (v := (vB false)) rfl ((congrArg vB (rfl : false = false))) rfl) ?_
   refine sx rfl (pMove (v := (vB false)) rfl rfl) ?_
   iterate 2 refine kx rfl rfl rfl rfl ?_
   refine sx rfl (pPick (t := false) (v := (vB false)) rfl ((congrArg vB (rfl : false = false))) rfl) ?_
   refine sx rfl (pMove (v := (vB false)) rfl rfl) ?_
   iterate 2 refine kx rfl rfl rfl rfl ?_
   refine sx rfl (pPick (t := false) (v := (vB false)) rfl ((congrArg vB (rfl : false = false))) rfl) ?_
   refine sx rfl (pMove (v := (vB false)) rfl rfl) ?_
   iterate 8 refine kx rfl rfl rfl rfl ?_
   refine sx rfl (pPick (t := false) (v := (vB false)) rfl ((congrArg vB (rfl : false = false))) rfl) ?_
   refine sx rfl (pAssign (v := (vB false)) rfl rfl) ?_
   refine SeqW.done fun fr160 hf161 => ?_
   have h0 : fr160 0 = (vB false) := (congrFun hf161 0).trans rfl
   clear hf161
   obtain rfl := Option.some.inj hr
   exact ⟨z, hz, st, rfl, h0, trivial⟩
 ·refine kx rfl rfl rfl hc162 ?_
  refine kx rfl rfl rfl hc162 ?_
  refine sx rfl (pPick (t := false) (v := (vB false)) rfl ((congrArg vB hc162)) rfl) ?_
  refine sx rfl (pMove (v := (vB false)) rfl rfl) ?_
  iterate 2 refine kx rfl rfl rfl rfl ?_
  refine sx rfl (pPick (t := false) (v := (vB false)) rfl ((congrArg vB (rfl : false = false))) rfl) ?_
  refine sx rfl (pMove (v := (vB false)) rfl rfl) ?_
  iterate 2 refine kx rfl rfl rfl rfl ?_
  refine sx rfl (pPick (t := false) (v := (vB false)) rfl ((congrArg vB (rfl : false = false))) rfl) ?_
  refine sx rfl (pMove (v := (vB false)) rfl rfl) ?_
  iterate 2 refine kx rfl rfl rfl rfl ?_
  refine sx rfl (pPick (t := false) (v := (vB false)) rfl ((congrArg vB (rfl : false = false))) rfl) ?_
  refine sx rfl (pMove (v := (vB false)) rfl rfl) ?_
  iterate 2 refine kx rfl rfl rfl rfl ?_
  refine sx rfl (pPick (t := false) (v := (vB false)) rfl ((congrArg vB (rfl : false = false))) rfl) ?_
  refine sx rfl (pMove (v := (vB false)) rfl rfl) ?_
  iterate 2 refine kx rfl rfl rfl rfl ?_
  refine sx rfl (pPick (t := false) (v := (vB false)) rfl ((congrArg vB (rfl : false = false))) rfl) ?_
  refine sx rfl (pMove (v := (vB false)) rfl rfl) ?_
  iterate 2 refine kx rfl rfl rfl rfl ?_
  refine sx rfl (pPick (t := false) (v := (vB false)) rfl ((congrArg vB (rfl : false = false))) rfl) ?_
  refine sx rfl (pMove (v := (vB false)) rfl rfl) ?_
  iterate 8 refine kx rfl rfl rfl rfl ?_
  refine sx rfl (pPick (t := false) (v := (vB false)) rfl ((congrArg vB (rfl : false = false))) rfl) ?_
  refine sx rfl (pAssign (v := (vB false)) rfl rfl) ?_
  refine SeqW.done fun fr163 hf164 => ?_
  have h0 : fr163 0 = (vB false) := (congrFun hf164 0).trans rfl
  clear hf164
  obtain rfl := Option.some.inj hr
  exact ⟨z, hz, st, rfl, h0, trivial⟩

theorem u_l36_sane {N : Nat}  {z0 z : Nat → Blk} {e m : Mem} {k : Option Nat} {fr : Nat → Value} (hz : Zx e.next z0 z) (st : St z e m k)  {r : Bool} (hr : l36_sane N  = some r) : W Try.prog (sub (bodyOf Try.f17) []) (fun ex fr' m' => ∃ z', Zx e.next z0 z' ∧ St z' e m' k ∧ (ex = .normal ∨ ex = .ret) ∧ fr' 0 = (vB r) ∧ True) fr m := by
 unfold l36_sane at hr
 refine W.seq (W.region ?_)
 refine sx rfl (pAssign (v := (vB false)) rfl rfl) ?_
 refine SeqW.done fun fr1 hf2 => ?_
 clear hf2
 refine thenQ.n (W.seq (W.region ?_))
 obtain ⟨y3, hy3, hr⟩ := bind_some hr
 refine SeqW.consX rfl (StepX.call (gCallee rfl rfl (args2 rfl rfl)) ((c_l36_wagon (z := z) st.fz st.dead  hy3).mono ?_))
 rintro _ m8 ⟨z4, hzx5, fz6, sm7, rfl, -⟩
 replace hz := hz.trans (Zx.here st hzx5)
 replace st := st.call hzx5 fz6 sm7 no_hq
 obtain ⟨y9, hy9, hr⟩ := bind_some hr
 refine SeqW.consX rfl (StepX.call (gCallee rfl rfl (args2 rfl rfl)) ((c_l36_wagon (z := z4) st.fz st.dead  hy9).mono ?_))
 rintro _ m14 ⟨z10, hzx11, fz12, sm13, rfl, -⟩
 replace hz := hz.trans (Zx.here st hzx11)
 replace st := st.call hzx11 fz12 sm13 no_hq
 obtain ⟨y15, hy15, hr⟩ := bind_some hr
 refine SeqW.consX rfl (StepX.call (gCallee rfl rfl (args2 rfl rfl)) ((c_l36_wagon (z := z10) st.fz st.dead  hy15).mono ?_))
 rintro _ m20 ⟨z16, hzx17, fz18, sm19, rfl, -⟩
 replace hz := hz.trans (Zx.here st hzx17)
 replace st := st.call hzx17 fz18 sm19 no_hq
 obtain ⟨y21, hy21, hr⟩ := bind_some hr
 refine SeqW.consX rfl (StepX.call (gCallee rfl rfl (args2 rfl rfl)) ((c_l36_wagon (z := z16) st.fz st.dead  hy21).mono ?_))
 rintro _ m26 ⟨z22, hzx23, fz24, sm25, rfl, -⟩
 replace hz := hz.trans (Zx.here st hzx23)
 replace st := st.call hzx23 fz24 sm25 no_hq
 refine SeqW.consX rfl (kBuild (T := TWagon) rfl Try.underlying24 Try.type36 rfl rfl rfl rfl ([y3, y9, y15, y21] : List Wagon) [[(str y3.number), (vI y3.length), (vI y3.axles), (vI y3.mass), (vI y3.brake), (vI y3.goods), (vB y3.gentle), (str y3.dest)], [(str y9.number), (vI y9.length), (vI y9.axles), (vI y9.mass), (vI y9.brake), (vI y9.goods), (vB y9.gentle), (str y9.dest)], [(str y15.number), (vI y15.length), (vI y15.axles), (vI y15.mass), (vI y15.brake), (vI y15.goods), (vB y15.gentle), (str y15.dest)], [(str y21.number), (vI y21.length), (vI y21.axles), (vI y21.mass), (vI y21.brake), (vI y21.goods), (vB y21.gentle), (str y21.dest)]] rfl rfl rfl (BuildOk.mk (w := (Value.agg [(str y3.number), (vI y3.length), (vI y3.axles), (vI y3.mass), (vI y3.brake), (vI y3.goods), (vB y3.gentle), (str y3.dest)].toArray)) rfl rfl rfl rfl (BuildOk.mk (w := (Value.agg [(str y9.number), (vI y9.length), (vI y9.axles), (vI y9.mass), (vI y9.brake), (vI y9.goods), (vB y9.gentle), (str y9.dest)].toArray)) rfl rfl rfl rfl (BuildOk.mk (w := (Value.agg [(str y15.number), (vI y15.length), (vI y15.axles), (vI y15.mass), (vI y15.brake), (vI y15.goods), (vB y15.gentle), (str y15.dest)].toArray)) rfl rfl rfl rfl (BuildOk.mk (w := (Value.agg [(str y21.number), (vI y21.length), (vI y21.axles), (vI y21.mass), (vI y21.brake), (vI y21.goods), (vB y21.gentle), (str y21.dest)].toArray)) rfl rfl rfl rfl trivial)))) st ?_)
 intro V27 m28 st O29 sm30 hap31
 refine sx rfl (pAssign (v := V27) rfl rfl) ?_
 refine SeqW.done fun fr33 hf34 => ?_
 have h1 : fr33 1 = V27 := (congrFun hf34 1).trans rfl
 clear hf34
 refine thenQ.n (W.seq (W.region ?_))
 refine SeqW.consX rfl (kBuildS [(0, (vI 5)), (1, (vI 5)), (2, (vI 1)), (3, (vI 3)), (4, (vI 1))] [(vI 5), (vI 5), (vI 1), (vI 3), (vI 1)] rfl Try.underlying32 Try.type32 rfl rfl (places32 Try.underlying32) rfl (rfl) rfl ?_)
 refine SeqW.consX rfl (kBuildS [(0, (vI 9)), (1, (vI 5)), (2, (vI 1)), (3, (vI 3)), (4, (vI 2))] [(vI 9), (vI 5), (vI 1), (vI 3), (vI 2)] rfl Try.underlying32 Try.type32 rfl rfl (places32 Try.underlying32) rfl (rfl) rfl ?_)
 refine SeqW.consX rfl (kBuild (T := TRule) rfl Try.underlying23 Try.type32 rfl rfl rfl rfl ([(Rule.mk 5 5 1 3 1), (Rule.mk 9 5 1 3 2)] : List Rule) [[(vI 5), (vI 5), (vI 1), (vI 3), (vI 1)], [(vI 9), (vI 5), (vI 1), (vI 3), (vI 2)]] rfl rfl rfl (BuildOk.mk (w := (Value.agg [(vI 5), (vI 5), (vI 1), (vI 3), (vI 1)].toArray)) rfl rfl rfl rfl (BuildOk.mk (w := (Value.agg [(vI 9), (vI 5), (vI 1), (vI 3), (vI 2)].toArray)) rfl rfl rfl rfl trivial)) st ?_)
 intro V35 m36 st O37 sm38 hap39
 have A41 := hap39 _ O29.lt
 replace O29 := O29.same sm38 Ap.none'
 refine sx rfl (pAssign (v := V35) rfl rfl) ?_
 refine SeqW.done fun fr42 hf43 => ?_
 have h1 := (congrFun hf43 1).trans h1
 have h2 : fr42 2 = V35 := (congrFun hf43 2).trans rfl
 clear hf43
 refine thenQ.n (W.seq (W.region ?_))
 refine sx rfl (pMove (v := V35) rfl h2) ?_
 refine sx rfl (pMove (v := V27) rfl h1) ?_
 obtain ⟨z44, hz45, st48, Q46, hl47⟩ := O37.freeze st
 have O49 := O29.zle hz45.le (hl47 _ A41)
 obtain ⟨z50, hz51, st54, Q52, hl53⟩ := O49.freeze st48
 have Q55 := Q46.mono hz51.le
 obtain ⟨y56, hy56, hr⟩ := bind_some hr
 refine SeqW.consX rfl (StepX.call (gCallee rfl rfl (args3 rfl rfl rfl)) ((c_rulebook_Check (z := z50) st54.fz st.dead Q55 Q52 (SlR.nil (T := (TInt 3 .i64))) hy56).mono ?_))
 rintro _ _ ⟨rfl, rfl⟩
 refine sx rfl (pMove (v := (Value.tuple [(vI y56.1), (vI y56.2.1), (vI y56.2.2)].toArray)) rfl rfl) ?_
 refine sx rfl (pExtract (vs := [(vI y56.1), (vI y56.2.1), (vI y56.2.2)]) (v := (vI y56.1)) rfl rfl rfl) ?_
 refine sx rfl (pExtract (vs := [(vI y56.1), (vI y56.2.1), (vI y56.2.2)]) (v := (vI y56.2.1)) rfl rfl rfl) ?_
 refine sx rfl (pExtract (vs := [(vI y56.1), (vI y56.2.1), (vI y56.2.2)]) (v := (vI y56.2.2)) rfl rfl rfl) ?_
 refine sx rfl (pAssign (v := (vI y56.1)) rfl rfl) ?_
 refine sx rfl (pAssign (v := (vI y56.2.1)) rfl rfl) ?_
 refine sx rfl (pAssign (v := (vI y56.2.2)) rfl rfl) ?_
 refine SeqW.done fun fr57 hf58 => ?_
 have h1 := (congrFun hf58 1).trans h1
 have h2 := (congrFun hf58 2).trans h2
 have h3 : fr57 3 = (vI y56.1) := (congrFun hf58 3).trans rfl
 have h4 : fr57 4 = (vI y56.2.1) := (congrFun hf58 4).trans rfl
 have h5 : fr57 5 = (vI y56.2.2) := (congrFun hf58 5).trans rfl
 clear hf58
 refine thenQ.n (W.seq (W.region ?_))
 refine sx rfl (pMove (v := V35) rfl h2) ?_
 obtain ⟨y59, hy59, hr⟩ := bind_some hr
 refine SeqW.consX rfl (kCutV (T := TRule) (xs := ([(Rule.mk 5 5 1 3 1), (Rule.mk 9 5 1 3 2)] : List Rule)) (a := 0) (b := 1) rfl Try.underlying23 Try.type32 rfl rfl rfl ⟨_, rfl⟩ O37.ow.vw hy59 ?_)
 intro V60 _ hI62 Q61
 refine sx rfl (pMove (v := V27) rfl h1) ?_
 obtain ⟨z64, hz65, st68, Q66, hl67, hw69⟩ := O37.freezeV st
 have O70 := O29.zle hz65.le (hl67 _ A41)
 have Q71 := hw69 Q61
 obtain ⟨z72, hz73, st76, Q74, hl75⟩ := O70.freeze st68
 have Q77 := Q66.mono hz73.le
 have Q78 := Q71.mono hz73.le
 obtain ⟨y79, hy79, hr⟩ := bind_some hr
 refine SeqW.consX rfl (StepX.call (gCallee rfl rfl (args3 rfl rfl rfl)) ((c_rulebook_Check (z := z72) st76.fz st.dead Q78 Q74 (SlR.nil (T := (TInt 3 .i64))) hy79).mono ?_))
 rintro _ _ ⟨rfl, rfl⟩
 refine sx rfl (pMove (v := (Value.tuple [(vI y79.1), (vI y79.2.1), (vI y79.2.2)].toArray)) rfl rfl) ?_
 refine sx rfl (pExtract (vs := [(vI y79.1), (vI y79.2.1), (vI y79.2.2)]) (v := (vI y79.1)) rfl rfl rfl) ?_
 refine sx rfl (pExtract (vs := [(vI y79.1), (vI y79.2.1), (vI y79.2.2)]) (v := (vI y79.2.1)) rfl rfl rfl) ?_
 refine sx rfl (pExtract (vs := [(vI y79.1), (vI y79.2.1), (vI y79.2.2)]) (v := (vI y79.2.2)) rfl rfl rfl) ?_
 refine sx rfl (pAssign (v := (vI y79.1)) rfl rfl) ?_
 refine sx rfl (pAssign (v := (vI y79.2.1)) rfl rfl) ?_
 refine sx rfl (pAssign (v := (vI y79.2.2)) rfl rfl) ?_
 refine SeqW.done fun fr80 hf81 => ?_
 have h1 := (congrFun hf81 1).trans h1
 have h2 := (congrFun hf81 2).trans h2
 have h3 := (congrFun hf81 3).trans h3
 have h4 := (congrFun hf81 4).trans h4
 have h5 := (congrFun hf81 5).trans h5
 have h6 : fr80 6 = (vI y79.1) := (congrFun hf81 6).trans rfl
 have h7 : fr80 7 = (vI y79.2.1) := (congrFun hf81 7).trans rfl
 have h8 : fr80 8 = (vI y79.2.2) := (congrFun hf81 8).trans rfl
 clear hf81
 refine thenQ.n (W.seq (W.region ?_))
 refine sx rfl (pMove (v := V27) rfl h1) ?_
 obtain ⟨y82, hy82, hr⟩ := bind_some hr
 refine SeqW.consX rfl (kIdxO (T := TWagon) (xs := ([y3, y9, y15, y21] : List Wagon)) (n := 0) rfl Try.underlying24 Try.type36 rfl rfl rfl O29 hy82 ?_)
 intro B83 l84 c85 cs86 hv87 hd88 hg89 hc90
 have hd880 := hd88
 obtain rfl := hd880
 refine SeqW.consX rfl (kField rfl Try.underlying36 rfl Try.type3 rfl rfl rfl ?_)
 refine SeqW.consX rfl (kLoad (v := (vI y82.axles)) rfl Try.underlying3 rfl rfl (hc90 2 _ rfl) ?_)
 refine SeqW.consX rfl (kBuildS [(0, (vI 1)), (1, (vI 2)), (2, (vI y82.axles))] [(vI 1), (vI 2), (vI y82.axles), (vI 0), (vI 0)] rfl Try.underlying32 Try.type32 rfl rfl (places32 Try.underlying32) rfl (rfl) rfl ?_)
 refine sx rfl (pMove (v := V27) rfl h1) ?_
 obtain ⟨z91, hz92, st95, Q93, hl94⟩ := O29.freeze st
 have O96 := O37.zle hz92.le (hl94 _ (Ap.symm A41))
 obtain ⟨y97, hy97, hr⟩ := bind_some hr
 refine SeqW.consX rfl (StepX.call (gCallee rfl rfl (args3 rfl rfl rfl)) ((c_rulebook_Place (x0 := (Rule.mk 1 2 y82.axles 0 0)) (z := z91) st95.fz st.dead Q93 (SlR.nil (T := (TInt 3 .i64))) hy97).mono ?_))
 rintro _ _ ⟨rfl, rfl⟩
 refine sx rfl (pMove (v := (Value.tuple [(vI y97.1), (vI y97.2)].toArray)) rfl rfl) ?_
 refine sx rfl (pExtract (vs := [(vI y97.1), (vI y97.2)]) (v := (vI y97.1)) rfl rfl rfl) ?_
 refine sx rfl (pExtract (vs := [(vI y97.1), (vI y97.2)]) (v := (vI y97.2)) rfl rfl rfl) ?_
 refine sx rfl (pAssign (v := (vI y97.1)) rfl rfl) ?_
 refine sx rfl (pAssign (v := (vI y97.2)) rfl rfl) ?_
 refine SeqW.done fun fr98 hf99 => ?_
 have h2 := (congrFun hf99 2).trans h2
 have h3 := (congrFun hf99 3).trans h3
 have h4 := (congrFun hf99 4).trans h4
 have h5 := (congrFun hf99 5).trans h5
 have h6 := (congrFun hf99 6).trans h6
 have h7 := (congrFun hf99 7).trans h7
 have h8 := (congrFun hf99 8).trans h8
 have h9 : fr98 9 = (vI y97.1) := (congrFun hf99 9).trans rfl
 have h10 : fr98 10 = (vI y97.2) := (congrFun hf99 10).trans rfl
 clear hf99
 refine thenQ.n (W.seq ?_)
 obtain ⟨y165, hy165, hr⟩ := bind_some hr
 refine W.keep (u_l36_sane_0 (Zx.refl _) st h2 O37 h3 h4 h5 h6 h7 h8 h9 h10 hy165) ?_
 rintro ex171 fr166 m167 hk169 ⟨z168, hz170, st, rfl, h0, -⟩
 replace hz := hz.trans hz170
 clear hk169
 refine thenQ.n ?_
 refine W.ret ?_
 obtain rfl := Option.some.inj hr
 exact ⟨z168, hz, st, .inr rfl, h0, trivial⟩

theorem c_l36_sane {N : Nat} {z : Nat → Blk} {m : Mem} (fz : Fz z m) (hd : ∀ b, m.next ≤ b → m.blk b = .dead)  {r : Bool} (hr : l36_sane N  = some r) : CallW Try.prog 17 #[] m fun v m' => v = (vB r) ∧ m' = m := by
 refine CallW.flat Try.func17 rfl (by kernel_rfl) (Nat.le_of_ble_eq_true rfl) rfl (z := z) (fun fr hf => ?_)
 refine (u_l36_sane (k := none) (Zx.refl _) (St.start fz hd)  hr).mono ?_
 rintro ex fr' m' ⟨z', hz, st, he, h0, -⟩
 exact ⟨he, z', st, [(vB r)], ⟨h0.symm, trivial⟩, .inl rfl, rfl⟩

/-! ### humpyard/yardgen.Place -/

theorem u_yardgen_Place_0 {N : Nat}  {z0 z : Nat → Blk} {e m : Mem} {k : Option Nat} {fr : Nat → Value} {x0 : Int} {x1 : Int} {x11 : Bool} (hz : Zx e.next z0 z) (st : St z e m k) (h0 : fr 0 = (vI x0)) (h1 : fr 1 = (vI x1)) (h11 : fr 11 = (vB x11)) {r : Int} (hr : yardgen_Place_0 N x0 x1 x11 = some r) : W Try.prog (sub (bodyOf Try.f20) [1, 1, 1, 0, 1]) (fun ex fr' m' => ∃ z', Zx e.next z0 z' ∧ St z' e m' k ∧ ex = AExit.normal ∧ fr' 0 = (vI r) ∧ True) fr m := by
 unfold yardgen_Place_0 at hr
 rcases if_some hr with ⟨hc14, hr⟩ | ⟨hc18, hr⟩
 ·refine W.condT h11 hc14 (W.region ?_)
  refine sx rfl (pMove (v := (vI x0)) rfl h0) ?_
  refine sx rfl (pMove (v := (vI x1)) rfl h1) ?_
  refine sx rfl (pAdd (k := .i64) (a := x0) (b := x1) rfl rfl rfl) ?_
  obtain ⟨y15, hy15, hr⟩ := lt_some hr
  refine sx rfl (pAssign rfl (congrArg (Value.int .i64) hy15)) ?_
  refine SeqW.done fun fr16 hf17 => ?_
  have h0 : fr16 0 = (vI y15) := (congrFun hf17 0).trans rfl
  clear hf17
  obtain rfl := Option.some.inj hr
  exact ⟨z, hz, st, rfl, h0, trivial⟩
 ·refine W.condF h11 hc18 (W.skip ?_)
  obtain rfl := Option.some.inj hr
  exact ⟨z, hz, st, rfl, h0, trivial⟩

theorem u_yardgen_Place {N : Nat}  {z0 z : Nat → Blk} {e m : Mem} {k : Option Nat} {fr : Nat → Value} {x0 : Int} {x1 : Int} (hz : Zx e.next z0 z) (st : St z e m k) (h0 : fr 0 = (vI x0)) (h1 : fr 1 = (vI x1)) {r : Int} (hr : yardgen_Place N x0 x1 = some r) : W Try.prog (sub (bodyOf Try.f20) []) (fun ex fr' m' => ∃ z', Zx e.next z0 z' ∧ St z' e m' k ∧ (ex = .normal ∨ ex = .ret) ∧ fr' 4 = (vI r) ∧ True) fr m := by
 unfold yardgen_Place at hr
 refine W.seq (W.region ?_)
 refine sx rfl (pAssign (v := (vI 0)) rfl rfl) ?_
 refine SeqW.done fun fr1 hf2 => ?_
 have h0 := (congrFun hf2 0).trans h0
 have h1 := (congrFun hf2 1).trans h1
 clear hf2
 refine thenQ.n (W.seq ?_)
 refine W.seq (W.region ?_)
 refine sx rfl (pMove (v := (vI x1)) rfl h1) ?_
 refine sx rfl (pLss (k := .i64) (a := x1) (b := 1) rfl rfl rfl) ?_
 refine SeqW.done fun fr3 hf4 => ?_
 have h0 := (congrFun hf4 0).trans h0
 have h1 := (congrFun hf4 1).trans h1
 have h6 : fr3 6 = (vB (decide (x1 < 1))) := (congrFun hf4 6).trans rfl
 clear hf4
 refine thenQ.n ?_
 rcases if_some hr with ⟨hc5, hr⟩ | ⟨hc8, hr⟩
 ·refine W.condT h6 hc5 (W.seq (W.region ?_))
  refine sx rfl (pAssign (v := (vI 0)) rfl rfl) ?_
  refine SeqW.done fun fr6 hf7 => ?_
  have h4 : fr6 4 = (vI 0) := (congrFun hf7 4).trans rfl
  clear hf7
  refine thenQ.n ?_
  refine W.ret ?_
  refine thenQ.r ?_
  obtain rfl := Option.some.inj hr
  exact ⟨z, hz, st, .inr rfl, h4, trivial⟩
 ·refine W.condF h6 hc8 (W.skip ?_)
  refine thenQ.n (W.seq (W.region ?_))
  refine sx rfl (pMove (v := (vI x0)) rfl h0) ?_
  refine sx rfl (pMove (v := (vI x1)) rfl h1) ?_
  obtain ⟨y9, hy9, hr⟩ := bind_some hr
  refine SeqW.consX rfl (kRem (k1 := .i64) (a := x0) (b := x1) rfl rfl rfl hy9 ?_)
  refine sx rfl (pAssign (v := (vI y9)) rfl rfl) ?_
  refine SeqW.done fun fr10 hf11 => ?_
  have h0 : fr10 0 = (vI y9) := (congrFun hf11 0).trans rfl
  have h1 := (congrFun hf11 1).trans h1
  clear hf11
  refine thenQ.n (W.seq ?_)
  refine W.seq (W.region ?_)
  refine sx rfl (pMove (v := (vI y9)) rfl h0) ?_
  refine sx rfl (pLss (k := .i64) (a := y9) (b := 0) rfl rfl rfl) ?_
  refine SeqW.done fun fr12 hf13 => ?_
  have h0 := (congrFun hf13 0).trans h0
  have h1 := (congrFun hf13 1).trans h1
  have h11 : fr12 11 = (vB (decide (y9 < 0))) := (congrFun hf13 11).trans rfl
  clear hf13
  refine thenQ.n ?_
  obtain ⟨y19, hy19, hr⟩ := bind_some hr
  refine W.keep (u_yardgen_Place_0 (Zx.refl _) st h0 h1 h11 hy19) ?_
  rintro ex25 fr20 m21 hk23 ⟨z22, hz24, st, rfl, h0, -⟩
  replace hz := hz.trans hz24
  clear hk23
  refine thenQ.n (W.seq (W.region ?_))
  refine sx rfl (pMove (v := (vI y19)) rfl h0) ?_
  refine sx rfl (pAssign (v := (vI y19)) rfl rfl) ?_
  refine SeqW.done fun fr26 hf27 => ?_
  have h4 : fr26 4 = (vI y19) := (congrFun hf27 4).trans rfl
  clear hf27
  refine thenQ.n ?_
  refine W.ret ?_
  obtain rfl := Option.some.inj hr
  exact ⟨z22, hz, st, .inr rfl, h4, trivial⟩

theorem c_yardgen_Place {N : Nat} {z : Nat → Blk} {m : Mem} {x0 : Int} {x1 : Int} (fz : Fz z m) (hd : ∀ b, m.next ≤ b → m.blk b = .dead)  {r : Int} (hr : yardgen_Place N x0 x1 = some r) : CallW Try.prog 20 #[(vI x0), (vI x1)] m fun v m' => v = (vI r) ∧ m' = m := by
 refine CallW.flat Try.func20 rfl (by kernel_rfl) (Nat.le_of_ble_eq_true rfl) rfl (z := z) (fun fr hf => ?_)
 have h0 : fr 0 = _ := hf 0 _ rfl
 have h1 : fr 1 = _ := hf 1 _ rfl
 refine (u_yardgen_Place (k := none) (Zx.refl _) (St.start fz hd) h0 h1 hr).mono ?_
 rintro ex fr' m' ⟨z', hz, st, he, h4, -⟩
 exact ⟨he, z', st, [(vI r)], ⟨h4.symm, trivial⟩, .inl rfl, rfl⟩

/-! ### humpyard/yardgen.Rule -/

theorem u_yardgen_Rule_0 {N : Nat}  {z0 z : Nat → Blk} {e m : Mem} {k : Option Nat} {fr : Nat → Value} {x0 : Maker} {x5 : Rule} {x12 : Int} {v0_0 : Value} {b0 : Nat} {x4 : Rule} {b4 : Nat} {b5 : Nat} (hz : Zx e.next z0 z) (st : St z e m k) (h0 : fr 0 = (vP b0)) (s0_0 : SlR (TInt 3 .i64) z x0.l v0_0) (bx0 : Bx z e m k b0 [v0_0, (vI x0.n)] 52) (h4 : fr 4 = (vP b4)) (bx4 : Bx z e m k b4 [(vI x4.number), (vI x4.kind), (vI x4.a), (vI x4.b), (vI x4.c)] 32) (h5 : fr 5 = (vP b5)) (bx5 : Bx z e m k b5 [(vI x5.number), (vI x5.kind), (vI x5.a), (vI x5.b), (vI x5.c)] 32) (h12 : fr 12 = (vI x12)) (ao0_o4 : Ap (some b0) (some b4)) (ao0_o5 : Ap (some b0) (some b5)) (ao4_o5 : Ap (some b4) (some b5)) {r : Maker × Rule} (hr : yardgen_Rule_0 N x0 x5 x12 = some r) : W Try.prog (sub (bodyOf Try.f21) [1, 1, 0, 1]) (fun ex fr' m' => ∃ z', Zx e.next z0 z' ∧ St z' e m' k ∧ ex = AExit.normal ∧ ∃ (w0_0 : Value), fr' 0 = (vP b0) ∧ SlR (TInt 3 .i64) z' r.1.l w0_0 ∧ Bx z' e m' k b0 [w0_0, (vI r.1.n)] 52 ∧ fr' 5 = (vP b5) ∧ Bx z' e m' k b5 [(vI r.2.number), (vI r.2.kind), (vI r.2.a), (vI r.2.b), (vI r.2.c)] 32 ∧ Bx z' e m' k b4 [(vI x4.number), (vI x4.kind), (vI x4.a), (vI x4.b), (vI x4.c)] 32 ∧ Ap (some b0) (some b5) ∧ Ap (some b0) (some b4) ∧ Ap (some b5) (some b4) ∧ True) fr m := by
 unfold yardgen_Rule_0 at hr
 refine W.block ?_
 refine W.seq (W.region ?_)
 refine sx rfl (pEql (k := .i64) (a := x12) (b := 1) rfl h12 rfl) ?_
 obtain ⟨y34, hy34, hr⟩ := lt_some hr
 refine sx rfl (pAssign rfl (congrArg vB hy34)) ?_
 refine SeqW.done fun fr35 hf36 => ?_
 have h0 := (congrFun hf36 0).trans h0
 have h4 := (congrFun hf36 4).trans h4
 have h5 := (congrFun hf36 5).trans h5
 have h12 := (congrFun hf36 12).trans h12
 have h21 : fr35 21 = (vB y34) := (congrFun hf36 21).trans rfl
 clear hf36
 refine thenQ.n ?_
 rcases if_some hr with ⟨hc37, hr⟩ | ⟨hc65, hr⟩
 ·refine W.condT h21 hc37 (W.region ?_)
  refine sx rfl (pMove (v := (vP b0)) rfl h0) ?_
  refine SeqW.consX rfl (kBuild (T := (TInt 3 .i64)) rfl Try.underlying22 Try.type3 rfl rfl rfl rfl ([0, 262, 700, 1500, 10000] : List Int) [[(vI 0)], [(vI 262)], [(vI 700)], [(vI 1500)], [(vI 10000)]] rfl rfl rfl (BuildOk.mk (w := (vI 0)) rfl rfl rfl rfl (BuildOk.mk (w := (vI 262)) rfl rfl rfl rfl (BuildOk.mk (w := (vI 700)) rfl rfl rfl rfl (BuildOk.mk (w := (vI 1500)) rfl rfl rfl rfl (BuildOk.mk (w := (vI 10000)) rfl rfl rfl rfl trivial))))) st ?_)
  intro V38 m39 st O40 sm41 hap42
  have A44 := hap42 _ bx0.lt'
  have A45 := hap42 _ bx4.lt'
  have A46 := hap42 _ bx5.lt'
  replace bx0 := bx0.same sm41 Ap.none'
  replace bx4 := bx4.same sm41 Ap.none'
  replace bx5 := bx5.same sm41 Ap.none'
  obtain ⟨z47, hz48, st, Q49, hl50⟩ := O40.freeze st
  replace s0_0 := s0_0.mono hz48.le
  replace bx0 := bx0.zle (hl50 _ A44)
  replace bx4 := bx4.zle (hl50 _ A45)
  replace bx5 := bx5.zle (hl50 _ A46)
  replace hz := hz.trans hz48
  obtain ⟨y51, hy51, hr⟩ := bind_some hr
  refine SeqW.consX rfl (StepX.call (gCallee rfl rfl (args2 rfl rfl)) ((c_Maker_Pick (x0 := x0) (z := z47) st.fz st.dead s0_0 ⟨bx0.blk, bx0.lt, bx0.dead, .inr rfl⟩ Q49 hy51).mono ?_))
  rintro _ m56 ⟨z52, V57, hzx53, fz54, sm55, rfl, Q58, X60, -⟩
  replace s0_0 := s0_0.mono hzx53.le
  replace bx4 := bx4.call hzx53 sm55 (Ap.symm ao0_o4)
  replace bx5 := bx5.call hzx53 sm55 (Ap.symm ao0_o5)
  replace Q49 := Q49.mono hzx53.le
  have bx0n : Bx z52 e m56 k b0 _ _ := ⟨X60.blk, X60.lt, X60.dead, bx0.fresh⟩
  replace hz := hz.trans (Zx.here st hzx53)
  replace st := st.call hzx53 fz54 sm55 bx0.hq
  refine SeqW.consX rfl (kField rfl Try.underlying32 rfl Try.type3 rfl h5 rfl ?_)
  refine SeqW.consX rfl (kPut (off := 2) (w := (vI y51.1)) (new := [(vI y51.1)]) rfl Try.type3 rfl rfl rfl rfl rfl bx5 rfl [(vI x5.number), (vI x5.kind), (vI y51.1), (vI x5.b), (vI x5.c)] rfl st ?_)
  intro m61 st bx5 sm62
  replace bx0n := bx0n.same sm62 ao0_o5
  replace bx4 := bx4.same sm62 ao4_o5
  refine SeqW.done fun fr63 hf64 => ?_
  have h0 := (congrFun hf64 0).trans h0
  have h4 := (congrFun hf64 4).trans h4
  have h5 := (congrFun hf64 5).trans h5
  clear hf64
  refine blockQ.n ?_
  obtain rfl := Option.some.inj hr
  exact ⟨z52, hz, st, rfl, V57, h0, Q58, bx0n, h5, bx5, bx4, ao0_o5, ao0_o4, (Ap.symm ao4_o5), trivial⟩
 ·refine W.condF h21 hc65 (W.seq (W.region ?_))
  refine sx rfl (pEql (k := .i64) (a := x12) (b := 2) rfl h12 rfl) ?_
  obtain ⟨y66, hy66, hr⟩ := lt_some hr
  refine sx rfl (pAssign rfl (congrArg vB hy66)) ?_
  refine SeqW.done fun fr67 hf68 => ?_
  have h0 := (congrFun hf68 0).trans h0
  have h4 := (congrFun hf68 4).trans h4
  have h5 := (congrFun hf68 5).trans h5
  have h12 := (congrFun hf68 12).trans h12
  have h27 : fr67 27 = (vB y66) := (congrFun hf68 27).trans rfl
  clear hf68
  refine thenQ.n ?_
  rcases if_some hr with ⟨hc69, hr⟩ | ⟨hc97, hr⟩
  ·refine W.condT h27 hc69 (W.region ?_)
   refine sx rfl (pMove (v := (vP b0)) rfl h0) ?_
   refine SeqW.consX rfl (kBuild (T := (TInt 3 .i64)) rfl Try.underlying22 Try.type3 rfl rfl rfl rfl ([3, 8, 16, 40] : List Int) [[(vI 3)], [(vI 8)], [(vI 16)], [(vI 40)]] rfl rfl rfl (BuildOk.mk (w := (vI 3)) rfl rfl rfl rfl (BuildOk.mk (w := (vI 8)) rfl rfl rfl rfl (BuildOk.mk (w := (vI 16)) rfl rfl rfl rfl (BuildOk.mk (w := (vI 40)) rfl rfl rfl rfl trivial)))) st ?_)
   intro V70 m71 st O72 sm73 hap74
   have A76 := hap74 _ bx0.lt'
   have A77 := hap74 _ bx4.lt'
   have A78 := hap74 _ bx5.lt'
   replace bx0 := bx0.same sm73 Ap.none'
   replace bx4 := bx4.same sm73 Ap.none'
   replace bx5 := bx5.same sm73 Ap.none'
   obtain ⟨z79, hz80, st, Q81, hl82⟩ := O72.freeze st
   replace s0_0 := s0_0.mono hz80.le
   replace bx0 := bx0.zle (hl82 _ A76)
   replace bx4 := bx4.zle (hl82 _ A77)
   replace bx5 := bx5.zle (hl82 _ A78)
   replace hz := hz.trans hz80
   obtain ⟨y83, hy83, hr⟩ := bind_some hr
   refine SeqW.consX rfl (StepX.call (gCallee rfl rfl (args2 rfl rfl)) ((c_Maker_Pick (x0 := x0) (z := z79) st.fz st.dead s0_0 ⟨bx0.blk, bx0.lt, bx0.dead, .inr rfl⟩ Q81 hy83).mono ?_))
   rintro _ m88 ⟨z84, V89, hzx85, fz86, sm87, rfl, Q90, X92, -⟩
   replace s0_0 := s0_0.mono hzx85.le
   replace bx4 := bx4.call hzx85 sm87 (Ap.symm ao0_o4)
   replace bx5 := bx5.call hzx85 sm87 (Ap.symm ao0_o5)
   replace Q81 := Q81.mono hzx85.le
   have bx0n : Bx z84 e m88 k b0 _ _ := ⟨X92.blk, X92.lt, X92.dead, bx0.fresh⟩
   replace hz := hz.trans (Zx.here st hzx85)
   replace st := st.call hzx85 fz86 sm87 bx0.hq
   refine SeqW.consX rfl (kField rfl Try.underlying32 rfl Try.type3 rfl h5 rfl ?_)
   refine SeqW.consX rfl (kPut (off := 2) (w := (vI y83.1)) (new := [(vI y83.1)]) rfl Try.type3 rfl rfl rfl rfl rfl bx5 rfl [(vI x5.number), (vI x5.kind), (vI y83.1), (vI x5.b), (vI x5.c)] rfl st ?_)
   intro m93 st bx5 sm94
   replace bx0n := bx0n.same sm94 ao0_o5
   replace bx4 := bx4.same sm94 ao4_o5
   refine SeqW.done fun fr95 hf96 => ?_
   have h0 := (congrFun hf96 0).trans h0
   have h4 := (congrFun hf96 4).trans h4
   have h5 := (congrFun hf96 5).trans h5
   clear hf96
   refine blockQ.n ?_
   obtain rfl := Option.some.inj hr
   exact ⟨z84, hz, st, rfl, V89, h0, Q90, bx0n, h5, bx5, bx4, ao0_o5, ao0_o4, (Ap.symm ao4_o5), trivial⟩
  ·refine W.condF h27 hc97 (W.seq (W.region ?_))
   refine sx rfl (pEql (k := .i64) (a := x12) (b := 3) rfl h12 rfl) ?_
   obtain ⟨y98, hy98, hr⟩ := lt_some hr
   refine sx rfl (pAssign rfl (congrArg vB hy98)) ?_
   refine SeqW.done fun fr99 hf100 => ?_
   have h0 := (congrFun hf100 0).trans h0
   have h4 := (congrFun hf100 4).trans h4
   have h5 := (congrFun hf100 5).trans h5
   have h12 := (congrFun hf100 12).trans h12
   have h33 : fr99 33 = (vB y98) := (congrFun hf100 33).trans rfl
   clear hf100
   refine thenQ.n ?_
   rcases if_some hr with ⟨hc101, hr⟩ | ⟨hc129, hr⟩
   ·refine W.condT h33 hc101 (W.region ?_)
    refine sx rfl (pMove (v := (vP b0)) rfl h0) ?_
    refine SeqW.consX rfl (kBuild (T := (TInt 3 .i64)) rfl Try.underlying22 Try.type3 rfl rfl rfl rfl ([400, 1600, 4000, 20000] : List Int) [[(vI 400)], [(vI 1600)], [(vI 4000)], [(vI 20000)]] rfl rfl rfl (BuildOk.mk (w := (vI 400)) rfl rfl rfl rfl (BuildOk.mk (w := (vI 1600)) rfl rfl rfl rfl (BuildOk.mk (w := (vI 4000)) rfl rfl rfl rfl (BuildOk.mk (w := (vI 20000)) rfl rfl rfl rfl trivial)))) st ?_)
    intro V102 m103 st O104 sm105 hap106
    have A108 := hap106 _ bx0.lt'
    have A109 := hap106 _ bx4.lt'
    have A110 := hap106 _ bx5.lt'
    replace bx0 := bx0.same sm105 Ap.none'
    replace bx4 := bx4.same sm105 Ap.none'
    replace bx5 := bx5.same sm105 Ap.none'
    obtain ⟨z111, hz112, st, Q113, hl114⟩ := O104.freeze st
    replace s0_0 := s0_0.mono hz112.le
    replace bx0 := bx0.zle (hl114 _ A108)
    replace bx4 := bx4.zle (hl114 _ A109)
    replace bx5 := bx5.zle (hl114 _ A110)
    replace hz := hz.trans hz112
    obtain ⟨y115, hy115, hr⟩ := bind_some hr
    refine SeqW.consX rfl (StepX.call (gCallee rfl rfl (args2 rfl rfl)) ((c_Maker_Pick (x0 := x0) (z := z111) st.fz st.dead s0_0 ⟨bx0.blk, bx0.lt, bx0.dead, .inr rfl⟩ Q113 hy115).mono ?_))
    rintro _ m120 ⟨z116, V121, hzx117, fz118, sm119, rfl, Q122, X124, -⟩
    replace s0_0 := s0_0.mono hzx117.le
    replace bx4 := bx4.call hzx117 sm119 (Ap.symm ao0_o4)
    replace bx5 := bx5.call hzx117 sm119 (Ap.symm ao0_o5)
    replace Q113 := Q113.mono hzx117.le
    have bx0n : Bx z116 e m120 k b0 _ _ := ⟨X124.blk, X124.lt, X124.dead, bx0.fresh⟩
    replace hz := hz.trans (Zx.here st hzx117)
    replace st := st.call hzx117 fz118 sm119 bx0.hq
    refine SeqW.consX rfl (kField rfl Try.underlying32 rfl Try.type3 rfl h5 rfl ?_)
    refine SeqW.consX rfl (kPut (off := 2) (w := (vI y115.1)) (new := [(vI y115.1)]) rfl Try.type3 rfl rfl rfl rfl rfl bx5 rfl [(vI x5.number), (vI x5.kind), (vI y115.1), (vI x5.b), (vI x5.c)] rfl st ?_)
    intro m125 st bx5 sm126
    replace bx0n := bx0n.same sm126 ao0_o5
    replace bx4 := bx4.same sm126 ao4_o5
    refine SeqW.done fun fr127 hf128 => ?_
    have h0 := (congrFun hf128 0).trans h0
    have h4 := (congrFun hf128 4).trans h4
    have h5 := (congrFun hf128 5).trans h5
    clear hf128
    refine blockQ.n ?_
    obtain rfl := Option.some.inj hr
    exact ⟨z116, hz, st, rfl, V121, h0, Q122, bx0n, h5, bx5, bx4, ao0_o5, ao0_o4, (Ap.symm ao4_o5), trivial⟩
   ·refine W.condF h33 hc129 (W.seq (W.region ?_))
    refine sx rfl (pEql (k := .i64) (a := x12) (b := 4) rfl h12 rfl) ?_
    obtain ⟨y130, hy130, hr⟩ := lt_some hr
    refine sx rfl (pAssign rfl (congrArg vB hy130)) ?_
    refine SeqW.done fun fr131 hf132 => ?_
    have h0 := (congrFun hf132 0).trans h0
    have h4 := (congrFun hf132 4).trans h4
    have h5 := (congrFun hf132 5).trans h5
    have h12 := (congrFun hf132 12).trans h12
    have h39 : fr131 39 = (vB y130) := (congrFun hf132 39).trans rfl
    clear hf132
    refine thenQ.n ?_
    rcases if_some hr with ⟨hc133, hr⟩ | ⟨hc161, hr⟩
    ·refine W.condT h39 hc133 (W.region ?_)
     refine sx rfl (pMove (v := (vP b0)) rfl h0) ?_
     refine SeqW.consX rfl (kBuild (T := (TInt 3 .i64)) rfl Try.underlying22 Try.type3 rfl rfl rfl rfl ([0, 30, 50, 80] : List Int) [[(vI 0)], [(vI 30)], [(vI 50)], [(vI 80)]] rfl rfl rfl (BuildOk.mk (w := (vI 0)) rfl rfl rfl rfl (BuildOk.mk (w := (vI 30)) rfl rfl rfl rfl (BuildOk.mk (w := (vI 50)) rfl rfl rfl rfl (BuildOk.mk (w := (vI 80)) rfl rfl rfl rfl trivial)))) st ?_)
     intro V134 m135 st O136 sm137 hap138
     have A140 := hap138 _ bx0.lt'
     have A141 := hap138 _ bx4.lt'
     have A142 := hap138 _ bx5.lt'
     replace bx0 := bx0.same sm137 Ap.none'
     replace bx4 := bx4.same sm137 Ap.none'
     replace bx5 := bx5.same sm137 Ap.none'
     obtain ⟨z143, hz144, st, Q145, hl146⟩ := O136.freeze st
     replace s0_0 := s0_0.mono hz144.le
     replace bx0 := bx0.zle (hl146 _ A140)
     replace bx4 := bx4.zle (hl146 _ A141)
     replace bx5 := bx5.zle (hl146 _ A142)
     replace hz := hz.trans hz144
     obtain ⟨y147, hy147, hr⟩ := bind_some hr
     refine SeqW.consX rfl (StepX.call (gCallee rfl rfl (args2 rfl rfl)) ((c_Maker_Pick (x0 := x0) (z := z143) st.fz st.dead s0_0 ⟨bx0.blk, bx0.lt, bx0.dead, .inr rfl⟩ Q145 hy147).mono ?_))
     rintro _ m152 ⟨z148, V153, hzx149, fz150, sm151, rfl, Q154, X156, -⟩
     replace s0_0 := s0_0.mono hzx149.le
     replace bx4 := bx4.call hzx149 sm151 (Ap.symm ao0_o4)
     replace bx5 := bx5.call hzx149 sm151 (Ap.symm ao0_o5)
     replace Q145 := Q145.mono hzx149.le
     have bx0n : Bx z148 e m152 k b0 _ _ := ⟨X156.blk, X156.lt, X156.dead, bx0.fresh⟩
     replace hz := hz.trans (Zx.here st hzx149)
     replace st := st.call hzx149 fz150 sm151 bx0.hq
     refine SeqW.consX rfl (kField rfl Try.underlying32 rfl Try.type3 rfl h5 rfl ?_)
     refine SeqW.consX rfl (kPut (off := 2) (w := (vI y147.1)) (new := [(vI y147.1)]) rfl Try.type3 rfl rfl rfl rfl rfl bx5 rfl [(vI x5.number), (vI x5.kind), (vI y147.1), (vI x5.b), (vI x5.c)] rfl st ?_)
     intro m157 st bx5 sm158
     replace bx0n := bx0n.same sm158 ao0_o5
     replace bx4 := bx4.same sm158 ao4_o5
     refine SeqW.done fun fr159 hf160 => ?_
     have h0 := (congrFun hf160 0).trans h0
     have h4 := (congrFun hf160 4).trans h4
     have h5 := (congrFun hf160 5).trans h5
     clear hf160
     refine blockQ.n ?_
     obtain rfl := Option.some.inj hr
     exact ⟨z148, hz, st, rfl, V153, h0, Q154, bx0n, h5, bx5, bx4, ao0_o5, ao0_o4, (Ap.symm ao4_o5), trivial⟩
    ·refine W.condF h39 hc161 (W.seq (W.region ?_))
     refine sx rfl (pEql (k := .i64) (a := x12) (b := 5) rfl h12 rfl) ?_
     obtain ⟨y162, hy162, hr⟩ := lt_some hr
     refine sx rfl (pAssign rfl (congrArg vB hy162)) ?_
     refine SeqW.done fun fr163 hf164 => ?_
     have h0 := (congrFun hf164 0).trans h0
     have h4 := (congrFun hf164 4).trans h4
     have h5 := (congrFun hf164 5).trans h5
     have h12 := (congrFun hf164 12).trans h12
     have h45 : fr163 45 = (vB y162) := (congrFun hf164 45).trans rfl
     clear hf164
     refine thenQ.n ?_
     rcases if_some hr with ⟨hc165, hr⟩ | ⟨hc230, hr⟩
     ·refine W.condT h45 hc165 (W.region ?_)
      refine sx rfl (pMove (v := (vP b0)) rfl h0) ?_
      refine SeqW.consX rfl (kBuild (T := (TInt 3 .i64)) rfl Try.underlying22 Try.type3 rfl rfl rfl rfl ([1, 3, 9] : List Int) [[(vI 1)], [(vI 3)], [(vI 9)]] rfl rfl rfl (BuildOk.mk (w := (vI 1)) rfl rfl rfl rfl (BuildOk.mk (w := (vI 3)) rfl rfl rfl rfl (BuildOk.mk (w := (vI 9)) rfl rfl rfl rfl trivial))) st ?_)
      intro V166 m167 st O168 sm169 hap170
      have A172 := hap170 _ bx0.lt'
      have A173 := hap170 _ bx4.lt'
      have A174 := hap170 _ bx5.lt'
      replace bx0 := bx0.same sm169 Ap.none'
      replace bx4 := bx4.same sm169 Ap.none'
      replace bx5 := bx5.same sm169 Ap.none'
      obtain ⟨z175, hz176, st, Q177, hl178⟩ := O168.freeze st
      replace s0_0 := s0_0.mono hz176.le
      replace bx0 := bx0.zle (hl178 _ A172)
      replace bx4 := bx4.zle (hl178 _ A173)
      replace bx5 := bx5.zle (hl178 _ A174)
      replace hz := hz.trans hz176
      obtain ⟨y179, hy179, hr⟩ := bind_some hr
      refine SeqW.consX rfl (StepX.call (gCallee rfl rfl (args2 rfl rfl)) ((c_Maker_Pick (x0 := x0) (z := z175) st.fz st.dead s0_0 ⟨bx0.blk, bx0.lt, bx0.dead, .inr rfl⟩ Q177 hy179).mono ?_))
      rintro _ m184 ⟨z180, V185, hzx181, fz182, sm183, rfl, Q186, X188, -⟩
      replace s0_0 := s0_0.mono hzx181.le
      replace bx4 := bx4.call hzx181 sm183 (Ap.symm ao0_o4)
      replace bx5 := bx5.call hzx181 sm183 (Ap.symm ao0_o5)
      replace Q177 := Q177.mono hzx181.le
      have bx0n : Bx z180 e m184 k b0 _ _ := ⟨X188.blk, X188.lt, X188.dead, bx0.fresh⟩
      replace hz := hz.trans (Zx.here st hzx181)
      replace st := st.call hzx181 fz182 sm183 bx0.hq
      refine sx rfl (pMove (v := (vP b0)) rfl h0) ?_
      refine SeqW.consX rfl (kBuild (T := (TInt 3 .i64)) rfl Try.underlying22 Try.type3 rfl rfl rfl rfl ([0, 1, 3] : List Int) [[(vI 0)], [(vI 1)], [(vI 3)]] rfl rfl rfl (BuildOk.mk (w := (vI 0)) rfl rfl rfl rfl (BuildOk.mk (w := (vI 1)) rfl rfl rfl rfl (BuildOk.mk (w := (vI 3)) rfl rfl rfl rfl trivial))) st ?_)
      intro V189 m190 st O191 sm192 hap193
      have A195 := hap193 _ bx0n.lt'
      have A196 := hap193 _ bx4.lt'
      have A197 := hap193 _ bx5.lt'
      replace bx0n := bx0n.same sm192 Ap.none'
      replace bx4 := bx4.same sm192 Ap.none'
      replace bx5 := bx5.same sm192 Ap.none'
      obtain ⟨z198, hz199, st, Q200, hl201⟩ := O191.freeze st
      replace bx0n := bx0n.zle (hl201 _ A195)
      replace bx4 := bx4.zle (hl201 _ A196)
      replace bx5 := bx5.zle (hl201 _ A197)
      replace Q186 := Q186.mono hz199.le
      replace hz := hz.trans hz199
      obtain ⟨y202, hy202, hr⟩ := bind_some hr
      refine SeqW.consX rfl (StepX.call (gCallee rfl rfl (args2 rfl rfl)) ((c_Maker_Pick (x0 := y179.2) (z := z198) st.fz st.dead Q186 ⟨bx0n.blk, bx0n.lt, bx0n.dead, .inr rfl⟩ Q200 hy202).mono ?_))
      rintro _ m207 ⟨z203, V208, hzx204, fz205, sm206, rfl, Q209, X211, -⟩
      replace bx4 := bx4.call hzx204 sm206 (Ap.symm ao0_o4)
      replace bx5 := bx5.call hzx204 sm206 (Ap.symm ao0_o5)
      replace Q186 := Q186.mono hzx204.le
      replace Q200 := Q200.mono hzx204.le
      have bx0nn : Bx z203 e m207 k b0 _ _ := ⟨X211.blk, X211.lt, X211.dead, bx0n.fresh⟩
      replace hz := hz.trans (Zx.here st hzx204)
      replace st := st.call hzx204 fz205 sm206 bx0n.hq
      refine sx rfl (pMove (v := (vP b0)) rfl h0) ?_
      obtain ⟨y212, hy212, hr⟩ := bind_some hr
      refine SeqW.consX rfl (StepX.call (gCallee rfl rfl (args2 rfl rfl)) ((c_Maker_Next (x0 := y202.2) (z := z203) st.fz st.dead Q209 ⟨bx0nn.blk, bx0nn.lt, bx0nn.dead, .inr rfl⟩ hy212).mono ?_))
      rintro _ m217 ⟨z213, V218, hzx214, fz215, sm216, rfl, Q219, X221, -⟩
      replace bx4 := bx4.call hzx214 sm216 (Ap.symm ao0_o4)
      replace bx5 := bx5.call hzx214 sm216 (Ap.symm ao0_o5)
      replace Q209 := Q209.mono hzx214.le
      have bx0nnn : Bx z213 e m217 k b0 _ _ := ⟨X221.blk, X221.lt, X221.dead, bx0nn.fresh⟩
      replace hz := hz.trans (Zx.here st hzx214)
      replace st := st.call hzx214 fz215 sm216 bx0nn.hq
      refine SeqW.consX rfl (kField rfl Try.underlying32 rfl Try.type3 rfl h5 rfl ?_)
      refine SeqW.consX rfl (kPut (off := 2) (w := (vI y179.1)) (new := [(vI y179.1)]) rfl Try.type3 rfl rfl rfl rfl rfl bx5 rfl [(vI x5.number), (vI x5.kind), (vI y179.1), (vI x5.b), (vI x5.c)] rfl st ?_)
      intro m222 st bx5 sm223
      replace bx0nnn := bx0nnn.same sm223 ao0_o5
      replace bx4 := bx4.same sm223 ao4_o5
      refine SeqW.consX rfl (kField rfl Try.underlying32 rfl Try.type3 rfl h5 rfl ?_)
      refine SeqW.consX rfl (kPut (off := 3) (w := (vI y202.1)) (new := [(vI y202.1)]) rfl Try.type3 rfl rfl rfl rfl rfl bx5 rfl [(vI x5.number), (vI x5.kind), (vI y179.1), (vI y202.1), (vI x5.c)] rfl st ?_)
      intro m224 st bx5 sm225
      replace bx0nnn := bx0nnn.same sm225 ao0_o5
      replace bx4 := bx4.same sm225 ao4_o5
      refine SeqW.consX rfl (kField rfl Try.underlying32 rfl Try.type3 rfl h5 rfl ?_)
      refine SeqW.consX rfl (kPut (off := 4) (w := (vI y212.1)) (new := [(vI y212.1)]) rfl Try.type3 rfl rfl rfl rfl rfl bx5 rfl [(vI x5.number), (vI x5.kind), (vI y179.1), (vI y202.1), (vI y212.1)] rfl st ?_)
      intro m226 st bx5 sm227
      replace bx0nnn := bx0nnn.same sm227 ao0_o5
      replace bx4 := bx4.same sm227 ao4_o5
      refine SeqW.done fun fr228 hf229 => ?_
      have h0 := (congrFun hf229 0).trans h0
      have h4 := (congrFun hf229 4).trans h4
      have h5 := (congrFun hf229 5).trans h5
      clear hf229
      refine blockQ.n ?_
      obtain rfl := Option.some.inj hr
      exact ⟨z213, hz, st, rfl, V218, h0, Q219, bx0nnn, h5, bx5, bx4, ao0_o5, ao0_o4, (Ap.symm ao4_o5), trivial⟩
     ·refine W.condF h45 hc230 (W.seq (W.region ?_))
      refine sx rfl (pEql (k := .i64) (a := x12) (b := 6) rfl h12 rfl) ?_
      obtain ⟨y231, hy231, hr⟩ := lt_some hr
      refine sx rfl (pAssign rfl (congrArg vB hy231)) ?_
      refine SeqW.done fun fr232 hf233 => ?_
      have h0 := (congrFun hf233 0).trans h0
      have h4 := (congrFun hf233 4).trans h4
      have h5 := (congrFun hf233 5).trans h5
      have h12 := (congrFun hf233 12).trans h12
      have h58 : fr232 58 = (vB y231) := (congrFun hf233 58).trans rfl
      clear hf233
      refine thenQ.n ?_
      rcases if_some hr with ⟨hc234, hr⟩ | ⟨hc274, hr⟩
      ·refine W.condT h58 hc234 (W.region ?_)
       refine sx rfl (pMove (v := (vP b0)) rfl h0) ?_
       refine SeqW.consX rfl (kBuild (T := (TInt 3 .i64)) rfl Try.underlying22 Try.type3 rfl rfl rfl rfl ([0, 1, 3] : List Int) [[(vI 0)], [(vI 1)], [(vI 3)]] rfl rfl rfl (BuildOk.mk (w := (vI 0)) rfl rfl rfl rfl (BuildOk.mk (w := (vI 1)) rfl rfl rfl rfl (BuildOk.mk (w := (vI 3)) rfl rfl rfl rfl trivial))) st ?_)
       intro V235 m236 st O237 sm238 hap239
       have A241 := hap239 _ bx0.lt'
       have A242 := hap239 _ bx4.lt'
       have A243 := hap239 _ bx5.lt'
       replace bx0 := bx0.same sm238 Ap.none'
       replace bx4 := bx4.same sm238 Ap.none'
       replace bx5 := bx5.same sm238 Ap.none'
       obtain ⟨z244, hz245, st, Q246, hl247⟩ := O237.freeze st
       replace s0_0 := s0_0.mono hz245.le
       replace bx0 := bx0.zle (hl247 _ A241)
       replace bx4 := bx4.zle (hl247 _ A242)
       replace bx5 := bx5.zle (hl247 _ A243)
       replace hz := hz.trans hz245
       obtain ⟨y248, hy248, hr⟩ := bind_some hr
       refine SeqW.consX rfl (StepX.call (gCallee rfl rfl (args2 rfl rfl)) ((c_Maker_Pick (x0 := x0) (z := z244) st.fz st.dead s0_0 ⟨bx0.blk, bx0.lt, bx0.dead, .inr rfl⟩ Q246 hy248).mono ?_))
       rintro _ m253 ⟨z249, V254, hzx250, fz251, sm252, rfl, Q255, X257, -⟩
       replace s0_0 := s0_0.mono hzx250.le
       replace bx4 := bx4.call hzx250 sm252 (Ap.symm ao0_o4)
       replace bx5 := bx5.call hzx250 sm252 (Ap.symm ao0_o5)
       replace Q246 := Q246.mono hzx250.le
       have bx0n : Bx z249 e m253 k b0 _ _ := ⟨X257.blk, X257.lt, X257.dead, bx0.fresh⟩
       replace hz := hz.trans (Zx.here st hzx250)
       replace st := st.call hzx250 fz251 sm252 bx0.hq
       refine sx rfl (pMove (v := (vP b0)) rfl h0) ?_
       obtain ⟨y258, hy258, hr⟩ := bind_some hr
       refine SeqW.consX rfl (StepX.call (gCallee rfl rfl (args2 rfl rfl)) ((c_Maker_Next (x0 := y248.2) (z := z249) st.fz st.dead Q255 ⟨bx0n.blk, bx0n.lt, bx0n.dead, .inr rfl⟩ hy258).mono ?_))
       rintro _ m263 ⟨z259, V264, hzx260, fz261, sm262, rfl, Q265, X267, -⟩
       replace bx4 := bx4.call hzx260 sm262 (Ap.symm ao0_o4)
       replace bx5 := bx5.call hzx260 sm262 (Ap.symm ao0_o5)
       replace Q255 := Q255.mono hzx260.le
       have bx0nn : Bx z259 e m263 k b0 _ _ := ⟨X267.blk, X267.lt, X267.dead, bx0n.fresh⟩
       replace hz := hz.trans (Zx.here st hzx260)
       replace st := st.call hzx260 fz261 sm262 bx0n.hq
       refine SeqW.consX rfl (kField rfl Try.underlying32 rfl Try.type3 rfl h5 rfl ?_)
       refine SeqW.consX rfl (kPut (off := 2) (w := (vI y248.1)) (new := [(vI y248.1)]) rfl Try.type3 rfl rfl rfl rfl rfl bx5 rfl [(vI x5.number), (vI x5.kind), (vI y248.1), (vI x5.b), (vI x5.c)] rfl st ?_)
       intro m268 st bx5 sm269
       replace bx0nn := bx0nn.same sm269 ao0_o5
       replace bx4 := bx4.same sm269 ao4_o5
       refine SeqW.consX rfl (kField rfl Try.underlying32 rfl Try.type3 rfl h5 rfl ?_)
       refine SeqW.consX rfl (kPut (off := 3) (w := (vI y258.1)) (new := [(vI y258.1)]) rfl Try.type3 rfl rfl rfl rfl rfl bx5 rfl [(vI x5.number), (vI x5.kind), (vI y248.1), (vI y258.1), (vI x5.c)] rfl st ?_)
       intro m270 st bx5 sm271
       replace bx0nn := bx0nn.same sm271 ao0_o5
       replace bx4 := bx4.same sm271 ao4_o5
       refine SeqW.done fun fr272 hf273 => ?_
       have h0 := (congrFun hf273 0).trans h0
       have h4 := (congrFun hf273 4).trans h4
       have h5 := (congrFun hf273 5).trans h5
       clear hf273
       refine blockQ.n ?_
       obtain rfl := Option.some.inj hr
       exact ⟨z259, hz, st, rfl, V264, h0, Q265, bx0nn, h5, bx5, bx4, ao0_o5, ao0_o4, (Ap.symm ao4_o5), trivial⟩
      ·refine W.condF h58 hc274 (W.seq (W.region ?_))
       refine sx rfl (pEql (k := .i64) (a := x12) (b := 7) rfl h12 rfl) ?_
       obtain ⟨y275, hy275, hr⟩ := lt_some hr
       refine sx rfl (pAssign rfl (congrArg vB hy275)) ?_
       refine SeqW.done fun fr276 hf277 => ?_
       have h0 := (congrFun hf277 0).trans h0
       have h4 := (congrFun hf277 4).trans h4
       have h5 := (congrFun hf277 5).trans h5
       have h12 := (congrFun hf277 12).trans h12
       have h67 : fr276 67 = (vB y275) := (congrFun hf277 67).trans rfl
       clear hf277
       refine thenQ.n ?_
       rcases if_some hr with ⟨hc278, hr⟩ | ⟨hc305, hr⟩
       ·refine W.condT h67 hc278 (W.region ?_)
        refine sx rfl (pMove (v := (vP b0)) rfl h0) ?_
        obtain ⟨y279, hy279, hr⟩ := bind_some hr
        refine SeqW.consX rfl (StepX.call (gCallee rfl rfl (args2 rfl rfl)) ((c_Maker_Next (x0 := x0) (z := z) st.fz st.dead s0_0 ⟨bx0.blk, bx0.lt, bx0.dead, .inr rfl⟩ hy279).mono ?_))
        rintro _ m284 ⟨z280, V285, hzx281, fz282, sm283, rfl, Q286, X288, -⟩
        replace s0_0 := s0_0.mono hzx281.le
        replace bx4 := bx4.call hzx281 sm283 (Ap.symm ao0_o4)
        replace bx5 := bx5.call hzx281 sm283 (Ap.symm ao0_o5)
        have bx0n : Bx z280 e m284 k b0 _ _ := ⟨X288.blk, X288.lt, X288.dead, bx0.fresh⟩
        replace hz := hz.trans (Zx.here st hzx281)
        replace st := st.call hzx281 fz282 sm283 bx0.hq
        refine sx rfl (pMove (v := (vP b0)) rfl h0) ?_
        obtain ⟨y289, hy289, hr⟩ := bind_some hr
        refine SeqW.consX rfl (StepX.call (gCallee rfl rfl (args2 rfl rfl)) ((c_Maker_Next (x0 := y279.2) (z := z280) st.fz st.dead Q286 ⟨bx0n.blk, bx0n.lt, bx0n.dead, .inr rfl⟩ hy289).mono ?_))
        rintro _ m294 ⟨z290, V295, hzx291, fz292, sm293, rfl, Q296, X298, -⟩
        replace bx4 := bx4.call hzx291 sm293 (Ap.symm ao0_o4)
        replace bx5 := bx5.call hzx291 sm293 (Ap.symm ao0_o5)
        replace Q286 := Q286.mono hzx291.le
        have bx0nn : Bx z290 e m294 k b0 _ _ := ⟨X298.blk, X298.lt, X298.dead, bx0n.fresh⟩
        replace hz := hz.trans (Zx.here st hzx291)
        replace st := st.call hzx291 fz292 sm293 bx0n.hq
        refine SeqW.consX rfl (kField rfl Try.underlying32 rfl Try.type3 rfl h5 rfl ?_)
        refine SeqW.consX rfl (kPut (off := 2) (w := (vI y279.1)) (new := [(vI y279.1)]) rfl Try.type3 rfl rfl rfl rfl rfl bx5 rfl [(vI x5.number), (vI x5.kind), (vI y279.1), (vI x5.b), (vI x5.c)] rfl st ?_)
        intro m299 st bx5 sm300
        replace bx0nn := bx0nn.same sm300 ao0_o5
        replace bx4 := bx4.same sm300 ao4_o5
        refine SeqW.consX rfl (kField rfl Try.underlying32 rfl Try.type3 rfl h5 rfl ?_)
        refine SeqW.consX rfl (kPut (off := 3) (w := (vI y289.1)) (new := [(vI y289.1)]) rfl Try.type3 rfl rfl rfl rfl rfl bx5 rfl [(vI x5.number), (vI x5.kind), (vI y279.1), (vI y289.1), (vI x5.c)] rfl st ?_)
        intro m301 st bx5 sm302
        replace bx0nn := bx0nn.same sm302 ao0_o5
        replace bx4 := bx4.same sm302 ao4_o5
        refine SeqW.done fun fr303 hf304 => ?_
        have h0 := (congrFun hf304 0).trans h0
        have h4 := (congrFun hf304 4).trans h4
        have h5 := (congrFun hf304 5).trans h5
        clear hf304
        refine blockQ.n ?_
        obtain rfl := Option.some.inj hr
        exact ⟨z290, hz, st, rfl, V295, h0, Q296, bx0nn, h5, bx5, bx4, ao0_o5, ao0_o4, (Ap.symm ao4_o5), trivial⟩
       ·refine W.condF h67 hc305 (W.seq (W.region ?_))
        refine sx rfl (pEql (k := .i64) (a := x12) (b := 8) rfl h12 rfl) ?_
        obtain ⟨y306, hy306, hr⟩ := lt_some hr
        refine sx rfl (pAssign rfl (congrArg vB hy306)) ?_
        refine SeqW.done fun fr307 hf308 => ?_
        have h0 := (congrFun hf308 0).trans h0
        have h4 := (congrFun hf308 4).trans h4
        have h5 := (congrFun hf308 5).trans h5
        have h75 : fr307 75 = (vB y306) := (congrFun hf308 75).trans rfl
        clear hf308
        refine thenQ.n ?_
        rcases if_some hr with ⟨hc309, hr⟩ | ⟨hc337, hr⟩
        ·refine W.condT h75 hc309 (W.region ?_)
         refine sx rfl (pMove (v := (vP b0)) rfl h0) ?_
         refine SeqW.consX rfl (kBuild (T := (TInt 3 .i64)) rfl Try.underlying22 Try.type3 rfl rfl rfl rfl ([50, 200, 500] : List Int) [[(vI 50)], [(vI 200)], [(vI 500)]] rfl rfl rfl (BuildOk.mk (w := (vI 50)) rfl rfl rfl rfl (BuildOk.mk (w := (vI 200)) rfl rfl rfl rfl (BuildOk.mk (w := (vI 500)) rfl rfl rfl rfl trivial))) st ?_)
         intro V310 m311 st O312 sm313 hap314
         have A316 := hap314 _ bx0.lt'
         have A317 := hap314 _ bx4.lt'
         have A318 := hap314 _ bx5.lt'
         replace bx0 := bx0.same sm313 Ap.none'
         replace bx4 := bx4.same sm313 Ap.none'
         replace bx5 := bx5.same sm313 Ap.none'
         obtain ⟨z319, hz320, st, Q321, hl322⟩ := O312.freeze st
         replace s0_0 := s0_0.mono hz320.le
         replace bx0 := bx0.zle (hl322 _ A316)
         replace bx4 := bx4.zle (hl322 _ A317)
         replace bx5 := bx5.zle (hl322 _ A318)
         replace hz := hz.trans hz320
         obtain ⟨y323, hy323, hr⟩ := bind_some hr
         refine SeqW.consX rfl (StepX.call (gCallee rfl rfl (args2 rfl rfl)) ((c_Maker_Pick (x0 := x0) (z := z319) st.fz st.dead s0_0 ⟨bx0.blk, bx0.lt, bx0.dead, .inr rfl⟩ Q321 hy323).mono ?_))
         rintro _ m328 ⟨z324, V329, hzx325, fz326, sm327, rfl, Q330, X332, -⟩
         replace s0_0 := s0_0.mono hzx325.le
         replace bx4 := bx4.call hzx325 sm327 (Ap.symm ao0_o4)
         replace bx5 := bx5.call hzx325 sm327 (Ap.symm ao0_o5)
         replace Q321 := Q321.mono hzx325.le
         have bx0n : Bx z324 e m328 k b0 _ _ := ⟨X332.blk, X332.lt, X332.dead, bx0.fresh⟩
         replace hz := hz.trans (Zx.here st hzx325)
         replace st := st.call hzx325 fz326 sm327 bx0.hq
         refine SeqW.consX rfl (kField rfl Try.underlying32 rfl Try.type3 rfl h5 rfl ?_)
         refine SeqW.consX rfl (kPut (off := 2) (w := (vI y323.1)) (new := [(vI y323.1)]) rfl Try.type3 rfl rfl rfl rfl rfl bx5 rfl [(vI x5.number), (vI x5.kind), (vI y323.1), (vI x5.b), (vI x5.c)] rfl st ?_)
         intro m333 st bx5 sm334
         replace bx0n := bx0n.same sm334 ao0_o5
         replace bx4 := bx4.same sm334 ao4_o5
         refine SeqW.done fun fr335 hf336 => ?_
         have h0 := (congrFun hf336 0).trans h0
         have h4 := (congrFun hf336 4).trans h4
         have h5 := (congrFun hf336 5).trans h5
         clear hf336
         refine blockQ.n ?_
         obtain rfl := Option.some.inj hr
         exact ⟨z324, hz, st, rfl, V329, h0, Q330, bx0n, h5, bx5, bx4, ao0_o5, ao0_o4, (Ap.symm ao4_o5), trivial⟩
        ·refine W.condF h75 hc337 (W.region ?_)
         refine sx rfl (pMove (v := (vP b0)) rfl h0) ?_
         refine SeqW.consX rfl (kBuild (T := (TInt 3 .i64)) rfl Try.underlying22 Try.type3 rfl rfl rfl rfl ([100, 400] : List Int) [[(vI 100)], [(vI 400)]] rfl rfl rfl (BuildOk.mk (w := (vI 100)) rfl rfl rfl rfl (BuildOk.mk (w := (vI 400)) rfl rfl rfl rfl trivial)) st ?_)
         intro V338 m339 st O340 sm341 hap342
         have A344 := hap342 _ bx0.lt'
         have A345 := hap342 _ bx4.lt'
         have A346 := hap342 _ bx5.lt'
         replace bx0 := bx0.same sm341 Ap.none'
         replace bx4 := bx4.same sm341 Ap.none'
         replace bx5 := bx5.same sm341 Ap.none'
         obtain ⟨z347, hz348, st, Q349, hl350⟩ := O340.freeze st
         replace s0_0 := s0_0.mono hz348.le
         replace bx0 := bx0.zle (hl350 _ A344)
         replace bx4 := bx4.zle (hl350 _ A345)
         replace bx5 := bx5.zle (hl350 _ A346)
         replace hz := hz.trans hz348
         obtain ⟨y351, hy351, hr⟩ := bind_some hr
         refine SeqW.consX rfl (StepX.call (gCallee rfl rfl (args2 rfl rfl)) ((c_Maker_Pick (x0 := x0) (z := z347) st.fz st.dead s0_0 ⟨bx0.blk, bx0.lt, bx0.dead, .inr rfl⟩ Q349 hy351).mono ?_))
         rintro _ m356 ⟨z352, V357, hzx353, fz354, sm355, rfl, Q358, X360, -⟩
         replace s0_0 := s0_0.mono hzx353.le
         replace bx4 := bx4.call hzx353 sm355 (Ap.symm ao0_o4)
         replace bx5 := bx5.call hzx353 sm355 (Ap.symm ao0_o5)
         replace Q349 := Q349.mono hzx353.le
         have bx0n : Bx z352 e m356 k b0 _ _ := ⟨X360.blk, X360.lt, X360.dead, bx0.fresh⟩
         replace hz := hz.trans (Zx.here st hzx353)
         replace st := st.call hzx353 fz354 sm355 bx0.hq
         refine sx rfl (pMove (v := (vP b0)) rfl h0) ?_
         refine SeqW.consX rfl (kBuild (T := (TInt 3 .i64)) rfl Try.underlying22 Try.type3 rfl rfl rfl rfl ([0, 800, 3000] : List Int) [[(vI 0)], [(vI 800)], [(vI 3000)]] rfl rfl rfl (BuildOk.mk (w := (vI 0)) rfl rfl rfl rfl (BuildOk.mk (w := (vI 800)) rfl rfl rfl rfl (BuildOk.mk (w := (vI 3000)) rfl rfl rfl rfl trivial))) st ?_)
         intro V361 m362 st O363 sm364 hap365
         have A367 := hap365 _ bx0n.lt'
         have A368 := hap365 _ bx4.lt'
         have A369 := hap365 _ bx5.lt'
         replace bx0n := bx0n.same sm364 Ap.none'
         replace bx4 := bx4.same sm364 Ap.none'
         replace bx5 := bx5.same sm364 Ap.none'
         obtain ⟨z370, hz371, st, Q372, hl373⟩ := O363.freeze st
         replace bx0n := bx0n.zle (hl373 _ A367)
         replace bx4 := bx4.zle (hl373 _ A368)
         replace bx5 := bx5.zle (hl373 _ A369)
         replace Q358 := Q358.mono hz371.le
         replace hz := hz.trans hz371
         obtain ⟨y374, hy374, hr⟩ := bind_some hr
         refine SeqW.consX rfl (StepX.call (gCallee rfl rfl (args2 rfl rfl)) ((c_Maker_Pick (x0 := y351.2) (z := z370) st.fz st.dead Q358 ⟨bx0n.blk, bx0n.lt, bx0n.dead, .inr rfl⟩ Q372 hy374).mono ?_))
         rintro _ m379 ⟨z375, V380, hzx376, fz377, sm378, rfl, Q381, X383, -⟩
         replace bx4 := bx4.call hzx376 sm378 (Ap.symm ao0_o4)
         replace bx5 := bx5.call hzx376 sm378 (Ap.symm ao0_o5)
         replace Q358 := Q358.mono hzx376.le
         replace Q372 := Q372.mono hzx376.le
         have bx0nn : Bx z375 e m379 k b0 _ _ := ⟨X383.blk, X383.lt, X383.dead, bx0n.fresh⟩
         replace hz := hz.trans (Zx.here st hzx376)
         replace st := st.call hzx376 fz377 sm378 bx0n.hq
         refine SeqW.consX rfl (kField rfl Try.underlying32 rfl Try.type3 rfl h5 rfl ?_)
         refine SeqW.consX rfl (kPut (off := 2) (w := (vI y351.1)) (new := [(vI y351.1)]) rfl Try.type3 rfl rfl rfl rfl rfl bx5 rfl [(vI x5.number), (vI x5.kind), (vI y351.1), (vI x5.b), (vI x5.c)] rfl st ?_)
         intro m384 st bx5 sm385
         replace bx0nn := bx0nn.same sm385 ao0_o5
         replace bx4 := bx4.same sm385 ao4_o5
         refine SeqW.consX rfl (kField rfl Try.underlying32 rfl Try.type3 rfl h5 rfl ?_)
         refine SeqW.consX rfl (kPut (off := 3) (w := (vI y374.1)) (new := [(vI y374.1)]) rfl Try.type3 rfl rfl rfl rfl rfl bx5 rfl [(vI x5.number), (vI x5.kind), (vI y351.1), (vI y374.1), (vI x5.c)] rfl st ?_)
         intro m386 st bx5 sm387
         replace bx0nn := bx0nn.same sm387 ao0_o5
         replace bx4 := bx4.same sm387 ao4_o5
         refine SeqW.done fun fr388 hf389 => ?_
         have h0 := (congrFun hf389 0).trans h0
         have h4 := (congrFun hf389 4).trans h4
         have h5 := (congrFun hf389 5).trans h5
         clear hf389
         refine blockQ.n ?_
         obtain rfl := Option.some.inj hr
         exact ⟨z375, hz, st, rfl, V380, h0, Q381, bx0nn, h5, bx5, bx4, ao0_o5, ao0_o4, (Ap.symm ao4_o5), trivial⟩

theorem u_yardgen_Rule {N : Nat}  {z0 z : Nat → Blk} {e m : Mem} {k : Option Nat} {fr : Nat → Value} {x0 : Maker} {x1 : Int} {v0_0 : Value} {b0 : Nat} (hz : Zx e.next z0 z) (st : St z e m k) (h0 : fr 0 = (vP b0)) (s0_0 : SlR (TInt 3 .i64) z x0.l v0_0) (bx0 : Bx z e m k b0 [v0_0, (vI x0.n)] 52) (h1 : fr 1 = (vI x1)) {r : Rule × Maker} (hr : yardgen_Rule N x0 x1 = some r) : W Try.prog (sub (bodyOf Try.f21) []) (fun ex fr' m' => ∃ z', Zx e.next z0 z' ∧ St z' e m' k ∧ (ex = .normal ∨ ex = .ret) ∧ ∃ (c4 : Nat) (wr_0 : Value), fr' 4 = (vP c4) ∧ Bx z' e m' k c4 [(vI r.1.number), (vI r.1.kind), (vI r.1.a), (vI r.1.b), (vI r.1.c)] 32 ∧ (e.next ≤ c4 ∨ k = some c4) ∧ SlR (TInt 3 .i64) z' r.2.l wr_0 ∧ Bx z' e m' k b0 [wr_0, (vI r.2.n)] 52 ∧ True) fr m := by
 unfold yardgen_Rule at hr
 refine W.seq (W.region ?_)
 refine SeqW.consX rfl (kAlloc rfl Try.type32 rfl rfl rfl [(vI 0), (vI 0), (vI 0), (vI 0), (vI 0)] rfl st ?_)
 intro B1 m2  st X3 sm4 hap5
 have A7 := hap5 _ bx0.lt'
 replace bx0 := bx0.same sm4 Ap.none'
 refine SeqW.done fun fr8 hf9 => ?_
 have h0 := (congrFun hf9 0).trans h0
 have h1 := (congrFun hf9 1).trans h1
 have h4 : fr8 4 = (vP B1) := (congrFun hf9 4).trans rfl
 clear hf9
 refine thenQ.n (W.seq (W.region ?_))
 refine sx rfl (pMove (v := (vI x1)) rfl h1) ?_
 refine sx rfl (pMove (v := (vP b0)) rfl h0) ?_
 obtain ⟨y10, hy10, hr⟩ := bind_some hr
 refine SeqW.consX rfl (StepX.call (gCallee rfl rfl (args2 rfl rfl)) ((c_Maker_Next (x0 := x0) (z := z) st.fz st.dead s0_0 ⟨bx0.blk, bx0.lt, bx0.dead, .inr rfl⟩ hy10).mono ?_))
 rintro _ m15 ⟨z11, V16, hzx12, fz13, sm14, rfl, Q17, X19, -⟩
 replace s0_0 := s0_0.mono hzx12.le
 replace X3 := X3.call hzx12 sm14 (Ap.symm A7)
 have bx0n : Bx z11 e m15 k b0 _ _ := ⟨X19.blk, X19.lt, X19.dead, bx0.fresh⟩
 replace hz := hz.trans (Zx.here st hzx12)
 replace st := st.call hzx12 fz13 sm14 bx0.hq
 refine sx rfl (pAdd (k := .i64) (a := 1) (b := y10.1) rfl rfl rfl) ?_
 refine SeqW.consX rfl (kBuildS [(0, (vI x1)), (1, (vI (IntKind.wrap .i64 (1 + y10.1))))] [(vI x1), (vI (IntKind.wrap .i64 (1 + y10.1))), (vI 0), (vI 0), (vI 0)] rfl Try.underlying32 Try.type32 rfl rfl (places32 Try.underlying32) rfl (rfl) rfl ?_)
 refine SeqW.consX rfl (kAlloc rfl Try.type32 rfl rfl rfl [(vI 0), (vI 0), (vI 0), (vI 0), (vI 0)] rfl st ?_)
 intro B20 m21  st X22 sm23 hap24
 have A26 := hap24 _ bx0n.lt'
 have A27 := hap24 _ X3.lt'
 replace bx0n := bx0n.same sm23 Ap.none'
 replace X3 := X3.same sm23 Ap.none'
 refine SeqW.consX rfl (kPut (off := 0) (w := (Value.agg [(vI x1), (vI (IntKind.wrap .i64 (1 + y10.1))), (vI 0), (vI 0), (vI 0)].toArray)) (new := [(vI x1), (vI (IntKind.wrap .i64 (1 + y10.1))), (vI 0), (vI 0), (vI 0)]) rfl Try.type32 rfl rfl rfl rfl rfl X22 rfl [(vI x1), (vI (IntKind.wrap .i64 (1 + y10.1))), (vI 0), (vI 0), (vI 0)] rfl st ?_)
 intro m28 st X22 sm29
 replace bx0n := bx0n.same sm29 A26
 replace X3 := X3.same sm29 A27
 refine SeqW.done fun fr30 hf31 => ?_
 have h0 := (congrFun hf31 0).trans h0
 have h4 := (congrFun hf31 4).trans h4
 have h5 : fr30 5 = (vP B20) := (congrFun hf31 5).trans rfl
 clear hf31
 refine thenQ.n (W.seq ?_)
 refine W.seq (W.region ?_)
 refine SeqW.consX rfl (kField rfl Try.underlying32 rfl Try.type3 rfl h5 rfl ?_)
 refine SeqW.consX rfl (kLoad rfl Try.underlying3 rfl rfl (X22.load (v := (vI (IntKind.wrap .i64 (1 + y10.1)))) rfl) ?_)
 refine SeqW.done fun fr32 hf33 => ?_
 have h0 := (congrFun hf33 0).trans h0
 have h4 := (congrFun hf33 4).trans h4
 have h5 := (congrFun hf33 5).trans h5
 have h12 : fr32 12 = (vI (IntKind.wrap .i64 (1 + y10.1))) := (congrFun hf33 12).trans rfl
 clear hf33
 refine thenQ.n ?_
 obtain ⟨y390, hy390, hr⟩ := bind_some hr
 refine W.keep (u_yardgen_Rule_0 (x0 := y10.2) (x4 := (Rule.mk 0 0 0 0 0)) (x5 := (Rule.mk x1 (IntKind.wrap .i64 (1 + y10.1)) 0 0 0)) (Zx.refl _) st h0 Q17 bx0n h4 X3 h5 X22 h12 A7 A26 A27 hy390) ?_
 rintro ex396 fr391 m392 hk394 ⟨z393, hz395, st, rfl, w397, h0, Q399, X401, h5, X403, O404, A405, A406, A407, -⟩
 have h4 := (hk394 4 rfl).trans h4
 replace hz := hz.trans hz395
 clear hk394
 refine thenQ.n (W.seq (W.region ?_))
 refine SeqW.consX rfl (kLoadA rfl Try.underlying32 rfl Try.type32 rfl h5 X403.loads ?_)
 refine SeqW.consX rfl (kPut (off := 0) (w := (Value.agg [(vI y390.2.number), (vI y390.2.kind), (vI y390.2.a), (vI y390.2.b), (vI y390.2.c)].toArray)) (new := [(vI y390.2.number), (vI y390.2.kind), (vI y390.2.a), (vI y390.2.b), (vI y390.2.c)]) rfl Try.type32 h4 rfl rfl rfl rfl O404 rfl [(vI y390.2.number), (vI y390.2.kind), (vI y390.2.a), (vI y390.2.b), (vI y390.2.c)] rfl st ?_)
 intro m408 st O404 sm409
 replace X401 := X401.same sm409 A406
 refine SeqW.done fun fr410 hf411 => ?_
 have h0 := (congrFun hf411 0).trans h0
 have h4 := (congrFun hf411 4).trans h4
 clear hf411
 refine thenQ.n ?_
 refine W.ret ?_
 obtain rfl := Option.some.inj hr
 exact ⟨z393, hz, st, .inr rfl, B1, w397, h4, O404, O404.fresh, Q399, X401, trivial⟩

theorem c_yardgen_Rule {N : Nat} {z : Nat → Blk} {m : Mem} {x0 : Maker} {x1 : Int} {v0_0 : Value} {b0 : Nat} (fz : Fz z m) (hd : ∀ b, m.next ≤ b → m.blk b = .dead) (s0_0 : SlR (TInt 3 .i64) z x0.l v0_0) (bx0 : Bx z m m (some b0) b0 [v0_0, (vI x0.n)] 52) {r : Rule × Maker} (hr : yardgen_Rule N x0 x1 = some r) : CallW Try.prog 21 #[(vP b0), (vI x1)] m fun v m' => ∃ z' wr_0, Zx m.next z z' ∧ Fz z' m' ∧ Same m m' (some b0) ∧ v = (Value.agg [(vI r.1.number), (vI r.1.kind), (vI r.1.a), (vI r.1.b), (vI r.1.c)].toArray) ∧ SlR (TInt 3 .i64) z' r.2.l wr_0 ∧ Bx z' m m' (some b0) b0 [wr_0, (vI r.2.n)] 52 ∧ True := by
 refine CallW.any Try.func21 rfl (by kernel_rfl) (Nat.le_of_ble_eq_true rfl) (fun fr hf => ?_)
 have h0 : fr 0 = _ := hf 0 _ rfl
 have h1 : fr 1 = _ := hf 1 _ rfl
 refine (u_yardgen_Rule (k := (some b0)) (Zx.refl _) (St.start fz hd) h0 s0_0 bx0 h1 hr).mono ?_
 rintro ex fr' m' ⟨z', hz, st, he, c4, wr_0, h4, bx4, fx4, sr_0, bxr, -⟩
 exact ⟨he, [(Value.agg [(vI r.1.number), (vI r.1.kind), (vI r.1.a), (vI r.1.b), (vI r.1.c)].toArray)], ⟨resCell h4 bx4 Try.underlying32 rfl Try.type32 rfl, trivial⟩, .inl rfl, z', wr_0, hz, st.fz, st.toSame, rfl, sr_0, bxr, trivial⟩

/-! ### humpyard/humpyardlaw36.RulebookShortens -/

theorem u_l36_RulebookShortens_0 {N : Nat}  {z0 z : Nat → Blk} {e m : Mem} {k : Option Nat} {fr : Nat → Value} {x8 : Int} {x9 : Int} {x10 : Int} {x11 : Int} {x6 : List Wagon} {v6 : Value} (hz : Zx e.next z0 z) (st : St z e m k) (h6 : fr 6 = v6) (o6 : OwF TWagon z e m k x6 v6) (h8 : fr 8 = (vI x8)) (h9 : fr 9 = (vI x9)) (h10 : fr 10 = (vI x10)) (h11 : fr 11 = (vI x11)) {r : Bool} (hr : l36_RulebookShortens_0 N x8 x9 x10 x11 = some r) : W Try.prog (sub (bodyOf Try.f5) [1, 1, 1, 1, 1, 1, 1, 1, 0, 0]) (fun ex fr' m' => ∃ z', Zx e.next z0 z' ∧ St z' e m' k ∧ ex = AExit.normal ∧ fr' 54 = (vB r) ∧ OwF TWagon z' e m' k x6 v6 ∧ True) fr m := by
 unfold l36_RulebookShortens_0 at hr
 refine W.region ?_
 refine sx rfl (pMove (v := (vI x9)) rfl h9) ?_
 refine sx rfl (pNeq (k := .i64) (a := x9) (b := 0) rfl rfl rfl) ?_
 refine sx rfl (pMove (v := (vB (x9 != 0))) rfl rfl) ?_
 rcases if_some hr with ⟨hc112, hr⟩ | ⟨hc115, hr⟩
 ·refine kx rfl rfl rfl hc112 ?_
  refine kx rfl rfl rfl hc112 ?_
  refine sx rfl (pPick (t := true) (v := (vB true)) rfl ((congrArg vB hc112)) rfl) ?_
  refine sx rfl (pMove (v := (vB true)) rfl rfl) ?_
  iterate 3 refine kx rfl rfl rfl rfl ?_
  refine SeqW.skipU rfl rfl rfl ?_
  refine SeqW.skipU rfl rfl rfl ?_
  refine kx rfl rfl rfl rfl ?_
  refine sx rfl (pPick (t := true) (v := (vB true)) rfl ((congrArg vB (rfl : true = true))) rfl) ?_
  refine SeqW.done fun fr113 hf114 => ?_
  have h6 := (congrFun hf114 6).trans h6
  have h8 := (congrFun hf114 8).trans h8
  have h10 := (congrFun hf114 10).trans h10
  have h54 : fr113 54 = (vB true) := (congrFun hf114 54).trans rfl
  clear hf114
  obtain rfl := Option.some.inj hr
  exact ⟨z, hz, st, rfl, h54, o6, trivial⟩
 ·refine SeqW.consG rfl rfl rfl hc115 (StepX.pure (pMove (v := (vI x11)) rfl h11) ?_)
  refine SeqW.consG rfl rfl rfl hc115 (StepX.pure (pNeq (k := .i64) (a := x11) (b := 0) rfl rfl rfl) ?_)
  refine sx rfl (pPick (t := false) (v := (vB (x11 != 0))) rfl ((congrArg vB hc115)) rfl) ?_
  refine sx rfl (pMove (v := (vB (x11 != 0))) rfl rfl) ?_
  rcases if_some hr with ⟨hc116, hr⟩ | ⟨hc119, hr⟩
  ·refine kx rfl rfl rfl hc116 ?_
   iterate 2 refine kx rfl rfl rfl hc116 ?_
   refine SeqW.skipU rfl rfl rfl ?_
   refine SeqW.skipU rfl rfl rfl ?_
   refine kx rfl rfl rfl hc116 ?_
   refine sx rfl (pPick (t := true) (v := (vB true)) rfl ((congrArg vB hc116)) rfl) ?_
   refine SeqW.done fun fr117 hf118 => ?_
   have h6 := (congrFun hf118 6).trans h6
   have h8 := (congrFun hf118 8).trans h8
   have h10 := (congrFun hf118 10).trans h10
   have h54 : fr117 54 = (vB true) := (congrFun hf118 54).trans rfl
   clear hf118
   obtain rfl := Option.some.inj hr
   exact ⟨z, hz, st, rfl, h54, o6, trivial⟩
  ·refine SeqW.consG rfl rfl rfl hc119 (StepX.pure (pMove (v := (vI x8)) rfl h8) ?_)
   refine SeqW.consG rfl rfl rfl hc119 (StepX.pure (pEql (k := .i64) (a := x8) (b := (-1)) rfl rfl rfl) ?_)
   refine SeqW.consG rfl rfl rfl hc119 (StepX.pure (pMove (v := (vB (x8 == (-1)))) rfl rfl) ?_)
   rcases if_some hr with ⟨hc120, hr⟩ | ⟨hc123, hr⟩
   ·refine SeqW.consG rfl rfl rfl hc120 (StepX.pure (pMove (v := (vI x10)) rfl h10) ?_)
    refine SeqW.consG rfl rfl rfl hc120 (StepX.pure (pNeq (k := .i64) (a := x10) (b := (-1)) rfl rfl rfl) ?_)
    refine SeqW.consG rfl rfl rfl hc119 (StepX.pure (pPick (t := true) (v := (vB (x10 != (-1)))) rfl ((congrArg vB hc120)) rfl) ?_)
    refine sx rfl (pPick (t := false) (v := (vB (x10 != (-1)))) rfl ((congrArg vB hc119)) rfl) ?_
    refine SeqW.done fun fr121 hf122 => ?_
    have h6 := (congrFun hf122 6).trans h6
    have h8 := (congrFun hf122 8).trans h8
    have h10 := (congrFun hf122 10).trans h10
    have h54 : fr121 54 = (vB (x10 != (-1))) := (congrFun hf122 54).trans rfl
    clear hf122
    obtain rfl := Option.some.inj hr
    exact ⟨z, hz, st, rfl, h54, o6, trivial⟩
   ·refine kx rfl rfl rfl hc123 ?_
    refine kx rfl rfl rfl hc123 ?_
    refine SeqW.consG rfl rfl rfl hc119 (StepX.pure (pPick (t := false) (v := (vB false)) rfl ((congrArg vB hc123)) rfl) ?_)
    refine sx rfl (pPick (t := false) (v := (vB false)) rfl ((congrArg vB hc119)) rfl) ?_
    refine SeqW.done fun fr124 hf125 => ?_
    have h6 := (congrFun hf125 6).trans h6
    have h8 := (congrFun hf125 8).trans h8
    have h10 := (congrFun hf125 10).trans h10
    have h54 : fr124 54 = (vB false) := (congrFun hf125 54).trans rfl
    clear hf125
    obtain rfl := Option.some.inj hr
    exact ⟨z, hz, st, rfl, h54, o6, trivial⟩

theorem u_l36_RulebookShortens_1 {N : Nat}  {z0 z : Nat → Blk} {e m : Mem} {k : Option Nat} {fr : Nat → Value} {x1 : Int} {x6 : List Wagon} {x8 : Int} {x10 : Int} {v6 : Value} (hz : Zx e.next z0 z) (st : St z e m k) (h1 : fr 1 = (vI x1)) (h6 : fr 6 = v6) (o6 : OwF TWagon z e m k x6 v6) (h8 : fr 8 = (vI x8)) (h10 : fr 10 = (vI x10)) {r : Bool} (hr : l36_RulebookShortens_1 N x1 x6 x8 x10 = some r) : W Try.prog (sub (bodyOf Try.f5) [1, 1, 1, 1, 1, 1, 1, 1, 1, 0, 0]) (fun ex fr' m' => ∃ z', Zx e.next z0 z' ∧ St z' e m' k ∧ ex = AExit.normal ∧ fr' 79 = (vB r) ∧ True) fr m := by
 unfold l36_RulebookShortens_1 at hr
 refine W.region ?_
 refine sx rfl (pMove (v := (vI x8)) rfl h8) ?_
 refine sx rfl (pGeq (k := .i64) (a := x8) (b := 0) rfl rfl rfl) ?_
 refine sx rfl (pMove (v := (vB (decide (0 ≤ x8)))) rfl rfl) ?_
 rcases if_some hr with ⟨hc138, hr⟩ | ⟨hc153, hr⟩
 ·refine SeqW.consG rfl rfl rfl hc138 (StepX.pure (pMove (v := (vI x8)) rfl h8) ?_)
  refine SeqW.consG rfl rfl rfl hc138 (StepX.pure (pMove (v := v6) rfl h6) ?_)
  refine SeqW.consG rfl rfl rfl hc138 (StepX.pure (pLenO (xs := x6) rfl Try.underlying24 rfl o6.ow) ?_)
  refine SeqW.consG rfl rfl rfl hc138 (StepX.pure (pGeq (k := .i64) (a := x8) (b := (x6.length : Int)) rfl rfl rfl) ?_)
  refine SeqW.consG rfl rfl rfl hc138 (StepX.pure (pMove (v := (vB (decide ((x6.length : Int) ≤ x8)))) rfl rfl) ?_)
  rcases if_some hr with ⟨hc139, hr⟩ | ⟨hc142, hr⟩
  ·refine kx rfl rfl rfl hc139 ?_
   iterate 5 refine kx rfl rfl rfl hc139 ?_
   refine SeqW.consG rfl rfl rfl hc138 (StepX.pure (pPick (t := true) (v := (vB true)) rfl ((congrArg vB hc139)) rfl) ?_)
   refine SeqW.consG rfl rfl rfl hc138 (StepX.pure (pMove (v := (vB true)) rfl rfl) ?_)
   iterate 3 refine kx rfl rfl rfl rfl ?_
   refine SeqW.skipU rfl rfl rfl ?_
   refine SeqW.skipU rfl rfl rfl ?_
   refine SeqW.skipU rfl rfl rfl ?_
   refine kx rfl rfl rfl rfl ?_
   refine SeqW.consG rfl rfl rfl hc138 (StepX.pure (pPick (t := true) (v := (vB true)) rfl ((congrArg vB (rfl : true = true))) rfl) ?_)
   refine sx rfl (pPick (t := true) (v := (vB true)) rfl ((congrArg vB hc138)) rfl) ?_
   refine SeqW.done fun fr140 hf141 => ?_
   have h79 : fr140 79 = (vB true) := (congrFun hf141 79).trans rfl
   clear hf141
   obtain rfl := Option.some.inj hr
   exact ⟨z, hz, st, rfl, h79, trivial⟩
  ·refine SeqW.consG rfl rfl rfl hc142 (StepX.pure (pMove (v := (vI x10)) rfl h10) ?_)
   refine SeqW.consG rfl rfl rfl hc142 (StepX.pure (pEql (k := .i64) (a := x10) (b := (-1)) rfl rfl rfl) ?_)
   refine SeqW.consG rfl rfl rfl hc142 (StepX.pure (pMove (v := (vI x1)) rfl h1) ?_)
   refine SeqW.consG rfl rfl rfl hc142 (StepX.pure (pMove (v := (vI x8)) rfl h8) ?_)
   refine SeqW.consG rfl rfl rfl hc142 (StepX.pure (pLeq (k := .i64) (a := x1) (b := x8) rfl rfl rfl) ?_)
   refine SeqW.consG rfl rfl rfl hc142 (StepX.pure (pNeqB (a := (x10 == (-1))) (b := (decide (x1 ≤ x8))) rfl Try.underlying4 rfl rfl) ?_)
   refine SeqW.consG rfl rfl rfl hc138 (StepX.pure (pPick (t := false) (v := (vB (!((x10 == (-1)) == (decide (x1 ≤ x8)))))) rfl ((congrArg vB hc142)) rfl) ?_)
   refine SeqW.consG rfl rfl rfl hc138 (StepX.pure (pMove (v := (vB (!((x10 == (-1)) == (decide (x1 ≤ x8)))))) rfl rfl) ?_)
   rcases if_some hr with ⟨hc143, hr⟩ | ⟨hc146, hr⟩
   ·refine kx rfl rfl rfl hc143 ?_
    iterate 2 refine kx rfl rfl rfl hc143 ?_
    refine SeqW.skipU rfl rfl rfl ?_
    refine SeqW.skipU rfl rfl rfl ?_
    refine SeqW.skipU rfl rfl rfl ?_
    refine kx rfl rfl rfl hc143 ?_
    refine SeqW.consG rfl rfl rfl hc138 (StepX.pure (pPick (t := true) (v := (vB true)) rfl ((congrArg vB hc143)) rfl) ?_)
    refine sx rfl (pPick (t := true) (v := (vB true)) rfl ((congrArg vB hc138)) rfl) ?_
    refine SeqW.done fun fr144 hf145 => ?_
    have h79 : fr144 79 = (vB true) := (congrFun hf145 79).trans rfl
    clear hf145
    obtain rfl := Option.some.inj hr
    exact ⟨z, hz, st, rfl, h79, trivial⟩
   ·refine SeqW.consG rfl rfl rfl hc146 (StepX.pure (pMove (v := (vI x10)) rfl h10) ?_)
    refine SeqW.consG rfl rfl rfl hc146 (StepX.pure (pNeq (k := .i64) (a := x10) (b := (-1)) rfl rfl rfl) ?_)
    refine SeqW.consG rfl rfl rfl hc146 (StepX.pure (pMove (v := (vB (x10 != (-1)))) rfl rfl) ?_)
    rcases if_some hr with ⟨hc147, hr⟩ | ⟨hc150, hr⟩
    ·refine SeqW.consG rfl rfl rfl hc147 (StepX.pure (pMove (v := (vI x10)) rfl h10) ?_)
     refine SeqW.consG rfl rfl rfl hc147 (StepX.pure (pMove (v := (vI x8)) rfl h8) ?_)
     refine SeqW.consG rfl rfl rfl hc147 (StepX.pure (pNeq (k := .i64) (a := x10) (b := x8) rfl rfl rfl) ?_)
     refine SeqW.consG rfl rfl rfl hc146 (StepX.pure (pPick (t := true) (v := (vB (x10 != x8))) rfl ((congrArg vB hc147)) rfl) ?_)
     refine SeqW.consG rfl rfl rfl hc138 (StepX.pure (pPick (t := false) (v := (vB (x10 != x8))) rfl ((congrArg vB hc146)) rfl) ?_)
     refine sx rfl (pPick (t := true) (v := (vB (x10 != x8))) rfl ((congrArg vB hc138)) rfl) ?_
     refine SeqW.done fun fr148 hf149 => ?_
     have h79 : fr148 79 = (vB (x10 != x8)) := (congrFun hf149 79).trans rfl
     clear hf149
     obtain rfl := Option.some.inj hr
     exact ⟨z, hz, st, rfl, h79, trivial⟩
    ·refine kx rfl rfl rfl hc150 ?_
     iterate 2 refine kx rfl rfl rfl hc150 ?_
     refine SeqW.consG rfl rfl rfl hc146 (StepX.pure (pPick (t := false) (v := (vB false)) rfl ((congrArg vB hc150)) rfl) ?_)
     refine SeqW.consG rfl rfl rfl hc138 (StepX.pure (pPick (t := false) (v := (vB false)) rfl ((congrArg vB hc146)) rfl) ?_)
     refine sx rfl (pPick (t := true) (v := (vB false)) rfl ((congrArg vB hc138)) rfl) ?_
     refine SeqW.done fun fr151 hf152 => ?_
     have h79 : fr151 79 = (vB false) := (congrFun hf152 79).trans rfl
     clear hf152
     obtain rfl := Option.some.inj hr
     exact ⟨z, hz, st, rfl, h79, trivial⟩
 ·refine kx rfl rfl rfl hc153 ?_
  iterate 4 refine kx rfl rfl rfl hc153 ?_
  refine SeqW.skipU rfl rfl rfl ?_
  refine SeqW.skipU rfl rfl rfl ?_
  refine SeqW.skipU rfl rfl rfl ?_
  refine SeqW.skipU rfl rfl rfl ?_
  refine SeqW.skipU rfl rfl rfl ?_
  refine SeqW.skipU rfl rfl rfl ?_
  iterate 2 refine kx rfl rfl rfl hc153 ?_
  refine SeqW.skipU rfl rfl rfl ?_
  refine SeqW.skipU rfl rfl rfl ?_
  refine SeqW.skipU rfl rfl rfl ?_
  refine SeqW.skipU rfl rfl rfl ?_
  refine SeqW.skipU rfl rfl rfl ?_
  refine SeqW.skipU rfl rfl rfl ?_
  refine SeqW.skipU rfl rfl rfl ?_
  refine kx rfl rfl rfl hc153 ?_
  refine sx rfl (pPick (t := false) (v := (vB false)) rfl ((congrArg vB hc153)) rfl) ?_
  refine SeqW.done fun fr154 hf155 => ?_
  have h79 : fr154 79 = (vB false) := (congrFun hf155 79).trans rfl
  clear hf155
  obtain rfl := Option.some.inj hr
  exact ⟨z, hz, st, rfl, h79, trivial⟩

theorem u_l36_RulebookShortens {N : Nat}  {z0 z : Nat → Blk} {e m : Mem} {k : Option Nat} {fr : Nat → Value} {x0 : List Int} {x1 : Int} {v0 : Value} (hz : Zx e.next z0 z) (st : St z e m k) (h0 : fr 0 = v0) (s0 : SlR (TInt 3 .i64) z x0 v0) (h1 : fr 1 = (vI x1)) {r : Bool} (hr : l36_RulebookShortens N x0 x1 = some r) : W Try.prog (sub (bodyOf Try.f5) []) (fun ex fr' m' => ∃ z', Zx e.next z0 z' ∧ St z' e m' k ∧ (ex = .normal ∨ ex = .ret) ∧ fr' 4 = (vB r) ∧ True) fr m := by
 unfold l36_RulebookShortens at hr
 refine W.seq (W.region ?_)
 refine sx rfl (pAssign (v := (vB false)) rfl rfl) ?_
 refine SeqW.done fun fr1 hf2 => ?_
 have h0 := (congrFun hf2 0).trans h0
 have h1 := (congrFun hf2 1).trans h1
 clear hf2
 refine thenQ.n (W.seq (W.region ?_))
 refine sx rfl (pMove (v := v0) rfl h0) ?_
 obtain ⟨y3, hy3, hr⟩ := bind_some hr
 refine SeqW.consX rfl (StepX.call (gCallee rfl rfl (args1 rfl)) ((c_gen_New (z := z) st.fz st.dead s0 hy3).mono ?_))
 rintro _ m8 ⟨z4, B9, V12, hzx5, fz6, sm7, rfl, Q13, X10, hn15, -⟩
 replace s0 := s0.mono hzx5.le
 have X10 : Bx z4 e m8 k B9 _ _ := ⟨X10.blk, X10.lt, X10.dead, .inl (Nat.le_trans st.next hn15)⟩
 replace hz := hz.trans (Zx.here st hzx5)
 replace st := st.call hzx5 fz6 sm7 no_hq
 refine sx rfl (pAssign (v := (vP B9)) rfl rfl) ?_
 refine SeqW.done fun fr16 hf17 => ?_
 have h1 := (congrFun hf17 1).trans h1
 have h5 : fr16 5 = (vP B9) := (congrFun hf17 5).trans rfl
 clear hf17
 refine thenQ.n (W.seq (W.region ?_))
 refine sx rfl (pMove (v := (vP B9)) rfl h5) ?_
 obtain ⟨y18, hy18, hr⟩ := bind_some hr
 refine SeqW.consX rfl (StepX.call (gCallee rfl rfl (args2 rfl rfl)) ((c_Maker_Wagons (x0 := y3) (z := z4) st.fz st.dead Q13 ⟨X10.blk, X10.lt, X10.dead, .inr rfl⟩ hy18).mono ?_))
 rintro V24 m23 ⟨z19, _, V27, hzx20, fz21, sm22, rfl, Q25, Q28, X30, -⟩
 have A31 := Ap.own X10.lt' Q25.fresh
 replace Q13 := Q13.mono hzx20.le
 have X10n : Bx z19 e m23 k B9 _ _ := ⟨X30.blk, X30.lt, X30.dead, X10.fresh⟩
 have Q25 : OwF TWagon z19 e m23 k y18.1 V24 := Q25.up st.next
 replace hz := hz.trans (Zx.here st hzx20)
 replace st := st.call hzx20 fz21 sm22 X10.hq
 refine sx rfl (pAssign (v := V24) rfl rfl) ?_
 refine SeqW.done fun fr32 hf33 => ?_
 have h1 := (congrFun hf33 1).trans h1
 have h5 := (congrFun hf33 5).trans h5
 have h6 : fr32 6 = V24 := (congrFun hf33 6).trans rfl
 clear hf33
 refine thenQ.n (W.seq (W.region ?_))
 refine sx rfl (pMove (v := (vI x1)) rfl h1) ?_
 refine sx rfl (pMove (v := V24) rfl h6) ?_
 refine sx rfl (pLenO (xs := y18.1) rfl Try.underlying24 rfl Q25.ow) ?_
 refine sx rfl (pAdd (k := .i64) (a := (y18.1.length : Int)) (b := 1) rfl rfl rfl) ?_
 obtain ⟨y34, hy34, hr⟩ := bind_some hr
 refine SeqW.consX rfl (StepX.call (gCallee rfl rfl (args2 rfl rfl)) ((c_yardgen_Place (z := z19) st.fz st.dead  hy34).mono ?_))
 rintro _ _ ⟨rfl, rfl⟩
 refine sx rfl (pAssign (v := (vI y34)) rfl rfl) ?_
 refine SeqW.done fun fr35 hf36 => ?_
 have h1 : fr35 1 = (vI y34) := (congrFun hf36 1).trans rfl
 have h5 := (congrFun hf36 5).trans h5
 have h6 := (congrFun hf36 6).trans h6
 clear hf36
 refine thenQ.n (W.seq (W.region ?_))
 refine sx rfl (pMove (v := (vP B9)) rfl h5) ?_
 obtain ⟨y37, hy37, hr⟩ := bind_some hr
 refine SeqW.consX rfl (StepX.call (gCallee rfl rfl (args2 rfl rfl)) ((c_yardgen_Rule (x0 := y18.2) (z := z19) st.fz st.dead Q28 ⟨X10n.blk, X10n.lt, X10n.dead, .inr rfl⟩ hy37).mono ?_))
 rintro _ m42 ⟨z38, V43, hzx39, fz40, sm41, rfl, Q44, X46, -⟩
 replace Q25 := Q25.call hzx39 sm41 (Ap.symm A31)
 replace Q28 := Q28.mono hzx39.le
 have X10nn : Bx z38 e m42 k B9 _ _ := ⟨X46.blk, X46.lt, X46.dead, X10n.fresh⟩
 replace hz := hz.trans (Zx.here st hzx39)
 replace st := st.call hzx39 fz40 sm41 X10n.hq
 refine SeqW.consX rfl (kAlloc rfl Try.type32 rfl rfl rfl [(vI 0), (vI 0), (vI 0), (vI 0), (vI 0)] rfl st ?_)
 intro B47 m48  st X49 sm50 hap51
 have A53 := hap51 _ X10nn.lt'
 have A54 := hap51 _ Q25.lt
 replace X10nn := X10nn.same sm50 Ap.none'
 replace Q25 := Q25.same sm50 Ap.none'
 refine SeqW.consX rfl (kPut (off := 0) (w := (Value.agg [(vI y37.1.number), (vI y37.1.kind), (vI y37.1.a), (vI y37.1.b), (vI y37.1.c)].toArray)) (new := [(vI y37.1.number), (vI y37.1.kind), (vI y37.1.a), (vI y37.1.b), (vI y37.1.c)]) rfl Try.type32 rfl rfl rfl rfl rfl X49 rfl [(vI y37.1.number), (vI y37.1.kind), (vI y37.1.a), (vI y37.1.b), (vI y37.1.c)] rfl st ?_)
 intro m55 st X49 sm56
 replace X10nn := X10nn.same sm56 A53
 replace Q25 := Q25.same sm56 A54
 refine SeqW.done fun fr57 hf58 => ?_
 have h1 := (congrFun hf58 1).trans h1
 have h5 := (congrFun hf58 5).trans h5
 have h6 := (congrFun hf58 6).trans h6
 have h7 : fr57 7 = (vP B47) := (congrFun hf58 7).trans rfl
 clear hf58
 refine thenQ.n (W.seq (W.region ?_))
 refine sx rfl (pMove (v := (vP B9)) rfl h5) ?_
 refine SeqW.consX rfl (kBuild (T := (TInt 3 .i64)) rfl Try.underlying22 Try.type3 rfl rfl rfl rfl ([1, 2, 3, 6, 8] : List Int) [[(vI 1)], [(vI 2)], [(vI 3)], [(vI 6)], [(vI 8)]] rfl rfl rfl (BuildOk.mk (w := (vI 1)) rfl rfl rfl rfl (BuildOk.mk (w := (vI 2)) rfl rfl rfl rfl (BuildOk.mk (w := (vI 3)) rfl rfl rfl rfl (BuildOk.mk (w := (vI 6)) rfl rfl rfl rfl (BuildOk.mk (w := (vI 8)) rfl rfl rfl rfl trivial))))) st ?_)
 intro V59 m60 st O61 sm62 hap63
 have A65 := hap63 _ X10nn.lt'
 have A66 := hap63 _ Q25.lt
 have A67 := hap63 _ X49.lt'
 replace X10nn := X10nn.same sm62 Ap.none'
 replace Q25 := Q25.same sm62 Ap.none'
 replace X49 := X49.same sm62 Ap.none'
 obtain ⟨z68, hz69, st, Q70, hl71⟩ := O61.freeze st
 replace X10nn := X10nn.zle (hl71 _ A65)
 replace Q25 := Q25.zle hz69.le (hl71 _ A66)
 replace Q44 := Q44.mono hz69.le
 replace X49 := X49.zle (hl71 _ A67)
 replace hz := hz.trans hz69
 obtain ⟨y72, hy72, hr⟩ := bind_some hr
 refine SeqW.consX rfl (StepX.call (gCallee rfl rfl (args2 rfl rfl)) ((c_Maker_Pick (x0 := y37.2) (z := z68) st.fz st.dead Q44 ⟨X10nn.blk, X10nn.lt, X10nn.dead, .inr rfl⟩ Q70 hy72).mono ?_))
 rintro _ m77 ⟨z73, V78, hzx74, fz75, sm76, rfl, Q79, X81, -⟩
 replace Q25 := Q25.call hzx74 sm76 (Ap.symm A31)
 replace Q44 := Q44.mono hzx74.le
 replace X49 := X49.call hzx74 sm76 (Ap.symm A53)
 replace Q70 := Q70.mono hzx74.le
 have X10nnn : Bx z73 e m77 k B9 _ _ := ⟨X81.blk, X81.lt, X81.dead, X10nn.fresh⟩
 replace hz := hz.trans (Zx.here st hzx74)
 replace st := st.call hzx74 fz75 sm76 X10nn.hq
 refine SeqW.consX rfl (kField rfl Try.underlying32 rfl Try.type3 rfl h7 rfl ?_)
 refine SeqW.consX rfl (kPut (off := 1) (w := (vI y72.1)) (new := [(vI y72.1)]) rfl Try.type3 rfl rfl rfl rfl rfl X49 rfl [(vI y37.1.number), (vI y72.1), (vI y37.1.a), (vI y37.1.b), (vI y37.1.c)] rfl st ?_)
 intro m82 st X49 sm83
 replace Q25 := Q25.same sm83 A54
 refine SeqW.done fun fr84 hf85 => ?_
 have h1 := (congrFun hf85 1).trans h1
 have h6 := (congrFun hf85 6).trans h6
 have h7 := (congrFun hf85 7).trans h7
 clear hf85
 refine thenQ.n (W.seq (W.region ?_))
 refine SeqW.consX rfl (kLoadA rfl Try.underlying32 rfl Try.type32 rfl h7 X49.loads ?_)
 refine sx rfl (pMove (v := V24) rfl h6) ?_
 obtain ⟨z86, hz87, st90, Q88, hl89⟩ := Q25.freeze st
 have X91 := X49.zle (hl89 _ (Ap.symm A54))
 obtain ⟨y92, hy92, hr⟩ := bind_some hr
 refine SeqW.consX rfl (StepX.call (gCallee rfl rfl (args3 rfl rfl rfl)) ((c_rulebook_Place (x0 := (Rule.mk y37.1.number y72.1 y37.1.a y37.1.b y37.1.c)) (z := z86) st90.fz st.dead Q88 (SlR.nil (T := (TInt 3 .i64))) hy92).mono ?_))
 rintro _ _ ⟨rfl, rfl⟩
 refine sx rfl (pMove (v := (Value.tuple [(vI y92.1), (vI y92.2)].toArray)) rfl rfl) ?_
 refine sx rfl (pExtract (vs := [(vI y92.1), (vI y92.2)]) (v := (vI y92.1)) rfl rfl rfl) ?_
 refine sx rfl (pExtract (vs := [(vI y92.1), (vI y92.2)]) (v := (vI y92.2)) rfl rfl rfl) ?_
 refine sx rfl (pAssign (v := (vI y92.1)) rfl rfl) ?_
 refine sx rfl (pAssign (v := (vI y92.2)) rfl rfl) ?_
 refine SeqW.done fun fr93 hf94 => ?_
 have h1 := (congrFun hf94 1).trans h1
 have h6 := (congrFun hf94 6).trans h6
 have h7 := (congrFun hf94 7).trans h7
 have h8 : fr93 8 = (vI y92.1) := (congrFun hf94 8).trans rfl
 have h9 : fr93 9 = (vI y92.2) := (congrFun hf94 9).trans rfl
 clear hf94
 refine thenQ.n (W.seq ?_)
 refine W.draw ?_
 refine DrawW.cons rfl (kLoadA rfl Try.underlying32 rfl Try.type32 rfl h7 X49.loads ?_)
 refine ⟨?_, ?_⟩
 ·exact demN
 refine DrawW.cons rfl (StepX.pure (pMove (v := V24) rfl h6) ?_)
 refine ⟨trivial, ?_⟩
 refine DrawW.cons rfl (StepX.pure (pMove (v := (vI y34)) rfl h1) ?_)
 refine ⟨trivial, ?_⟩
 obtain ⟨y95, hy95, hr⟩ := bind_some hr
 refine DrawW.cons rfl (kCutV (T := TWagon) (xs := y18.1) (a := 0) (b := y34) rfl Try.underlying24 Try.type36 rfl rfl rfl ⟨_, rfl⟩ Q25.ow.vw hy95 ?_)
 intro V96 _ hI98 Q97
 refine ⟨?_, ?_⟩
 ·exact demN
 have sto100 := st
 have old101 := Q25
 obtain ⟨z102, hz103, st106, Q104, hl105, hw107⟩ := Q25.freezeV st
 have Q108 := hw107 Q97
 obtain ⟨y109, hy109, hr⟩ := bind_some hr
 refine DrawW.cons rfl (StepX.call (gCallee rfl rfl (args3 rfl rfl rfl)) ((c_rulebook_Place (x0 := (Rule.mk y37.1.number y72.1 y37.1.a y37.1.b y37.1.c)) (z := z102) st106.fz st.dead Q108 (SlR.nil (T := (TInt 3 .i64))) hy109).mono ?_))
 rintro _ _ ⟨rfl, rfl⟩
 refine ⟨⟨?_, ?_⟩, ?_⟩
 ·first | refine demP (hI98 _ rfl) ?_ | refine demA (by decide +kernel) ?_
  first | refine demP (gLoadA rfl Try.underlying32 rfl Try.type32 rfl h7 X49.loads) ?_ | refine demA (by decide +kernel) ?_
  exact demN
 ·exact demN
 refine DrawW.cons rfl (StepX.pure (pMove (v := (Value.tuple [(vI y109.1), (vI y109.2)].toArray)) rfl rfl) ?_)
 refine ⟨trivial, ?_⟩
 refine DrawW.cons rfl (StepX.pure (pExtract (vs := [(vI y109.1), (vI y109.2)]) (v := (vI y109.1)) rfl rfl rfl) ?_)
 refine ⟨trivial, ?_⟩
 refine DrawW.cons rfl (StepX.pure (pExtract (vs := [(vI y109.1), (vI y109.2)]) (v := (vI y109.2)) rfl rfl rfl) ?_)
 refine ⟨trivial, ?_⟩
 refine DrawW.cons rfl (StepX.pure (pAssign (v := (vI y109.1)) rfl rfl) ?_)
 refine ⟨trivial, ?_⟩
 refine DrawW.cons rfl (StepX.pure (pAssign (v := (vI y109.2)) rfl rfl) ?_)
 refine ⟨trivial, ?_⟩
 refine DrawW.done fun fr110 hf111 => ?_
 have h1 := (congrFun hf111 1).trans h1
 have h6 := (congrFun hf111 6).trans h6
 have h8 := (congrFun hf111 8).trans h8
 have h9 := (congrFun hf111 9).trans h9
 have h10 : fr110 10 = (vI y109.1) := (congrFun hf111 10).trans rfl
 have h11 : fr110 11 = (vI y109.2) := (congrFun hf111 11).trans rfl
 clear hf111
 refine thenQ.n (W.seq (W.seq ?_))
 obtain ⟨y126, hy126, hr⟩ := bind_some hr
 refine W.keep (u_l36_RulebookShortens_0 (Zx.refl _) st h6 Q25 h8 h9 h10 h11 hy126) ?_
 rintro ex132 fr127 m128 hk130 ⟨z129, hz131, st, rfl, h54, O133, -⟩
 have h1 := (hk130 1 rfl).trans h1
 have h6 := (hk130 6 rfl).trans h6
 have h8 := (hk130 8 rfl).trans h8
 have h10 := (hk130 10 rfl).trans h10
 replace hz := hz.trans hz131
 clear hk130
 refine thenQ.n ?_
 rcases if_some hr with ⟨hc134, hr⟩ | ⟨hc137, hr⟩
 ·refine W.condT h54 hc134 (W.seq (W.region ?_))
  refine sx rfl (pAssign (v := (vB false)) rfl rfl) ?_
  refine SeqW.done fun fr135 hf136 => ?_
  have h4 : fr135 4 = (vB false) := (congrFun hf136 4).trans rfl
  clear hf136
  refine thenQ.n ?_
  refine W.ret ?_
  refine thenQ.r ?_
  obtain rfl := Option.some.inj hr
  exact ⟨z129, hz, st, .inr rfl, h4, trivial⟩
 ·refine W.condF h54 hc137 (W.skip ?_)
  refine thenQ.n (W.seq (W.seq ?_))
  obtain ⟨y156, hy156, hr⟩ := bind_some hr
  refine W.keep (u_l36_RulebookShortens_1 (Zx.refl _) st h1 h6 O133 h8 h10 hy156) ?_
  rintro ex162 fr157 m158 hk160 ⟨z159, hz161, st, rfl, h79, -⟩
  replace hz := hz.trans hz161
  clear hk160
  refine thenQ.n ?_
  rcases if_some hr with ⟨hc163, hr⟩ | ⟨hc166, hr⟩
  ·refine W.condT h79 hc163 (W.seq (W.region ?_))
   refine sx rfl (pAssign (v := (vB false)) rfl rfl) ?_
   refine SeqW.done fun fr164 hf165 => ?_
   have h4 : fr164 4 = (vB false) := (congrFun hf165 4).trans rfl
   clear hf165
   refine thenQ.n ?_
   refine W.ret ?_
   refine thenQ.r ?_
   obtain rfl := Option.some.inj hr
   exact ⟨z159, hz, st, .inr rfl, h4, trivial⟩
  ·refine W.condF h79 hc166 (W.skip ?_)
   refine thenQ.n (W.seq (W.region ?_))
   obtain ⟨y167, hy167, hr⟩ := bind_some hr
   refine SeqW.consX rfl (StepX.call (gCallee rfl rfl args0) ((c_l36_sane (z := z159) st.fz st.dead  hy167).mono ?_))
   rintro _ _ ⟨rfl, rfl⟩
   refine sx rfl (pAssign (v := (vB y167)) rfl rfl) ?_
   refine SeqW.done fun fr168 hf169 => ?_
   have h4 : fr168 4 = (vB y167) := (congrFun hf169 4).trans rfl
   clear hf169
   refine thenQ.n ?_
   refine W.ret ?_
   obtain rfl := Option.some.inj hr
   exact ⟨z159, hz, st, .inr rfl, h4, trivial⟩

theorem c_l36_RulebookShortens {N : Nat} {z : Nat → Blk} {m : Mem} {x0 : List Int} {x1 : Int} {v0 : Value} (fz : Fz z m) (hd : ∀ b, m.next ≤ b → m.blk b = .dead) (s0 : SlR (TInt 3 .i64) z x0 v0) {r : Bool} (hr : l36_RulebookShortens N x0 x1 = some r) : CallW Try.prog 5 #[v0, (vI x1)] m fun v m' => v = (vB r) ∧ m' = m := by
 refine CallW.flat Try.func5 rfl (by kernel_rfl) (Nat.le_of_ble_eq_true rfl) rfl (z := z) (fun fr hf => ?_)
 have h0 : fr 0 = _ := hf 0 _ rfl
 have h1 : fr 1 = _ := hf 1 _ rfl
 refine (u_l36_RulebookShortens (k := none) (Zx.refl _) (St.start fz hd) h0 s0 h1 hr).mono ?_
 rintro ex fr' m' ⟨z', hz, st, he, h4, -⟩
 exact ⟨he, z', st, [(vB r)], ⟨h4.symm, trivial⟩, .inl rfl, rfl⟩

end Go.W
