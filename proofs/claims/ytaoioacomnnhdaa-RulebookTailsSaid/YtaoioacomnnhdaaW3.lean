/- The models are what the program computes. -/
import Derived.Test.YtaoioacomnnhdaaW2
set_option linter.unusedVariables false
set_option linter.unusedSimpArgs false
set_option maxRecDepth 100000
set_option maxHeartbeats 4000000
namespace Go.W
open Go.AM Go.Proofs


/-! ### humpyard/rulebook.Place -/

theorem u_rulebook_Place {N : Nat}  {z0 z : Nat → Blk} {e m : Mem} {k : Option Nat} {fr : Nat → Value} {x0 : Rule} {x1 : List Wagon} {x2 : List Int} {v1 : Value} {v2 : Value} (hz : Zx e.next z0 z) (st : St z e m k) (h0 : fr 0 = (Value.agg [(vI x0.number), (vI x0.kind), (vI x0.a), (vI x0.b), (vI x0.c)].toArray)) (h1 : fr 1 = v1) (s1 : SlR TWagon z x1 v1) (h2 : fr 2 = v2) (s2 : SlR (TInt 3 .i64) z x2 v2) {r : Int × Int} (hr : rulebook_Place N x0 x1 x2 = some r) : W Try.prog (sub (bodyOf Try.f19) []) (fun ex fr' m' => ∃ z', Zx e.next z0 z' ∧ St z' e m' k ∧ (ex = .normal ∨ ex = .ret) ∧ fr' 6 = (vI r.1) ∧ fr' 7 = (vI r.2) ∧ True) fr m := by
 unfold rulebook_Place at hr
 refine W.seq (W.region ?_)
 refine SeqW.consX rfl (kBox (v := (Value.agg [(vI x0.number), (vI x0.kind), (vI x0.a), (vI x0.b), (vI x0.c)].toArray)) rfl Try.type32 h0 rfl [(vI x0.number), (vI x0.kind), (vI x0.a), (vI x0.b), (vI x0.c)] rfl rfl st ?_)
 intro B1 m2  st X3 sm4 hap5
 refine sx rfl (pAssign (v := (vI 0)) rfl rfl) ?_
 refine sx rfl (pAssign (v := (vI 0)) rfl rfl) ?_
 refine SeqW.done fun fr7 hf8 => ?_
 have h1 := (congrFun hf8 1).trans h1
 have h2 := (congrFun hf8 2).trans h2
 have h3 : fr7 3 = (vP B1) := (congrFun hf8 3).trans rfl
 clear hf8
 refine thenQ.n (W.seq ?_)
 refine W.seq (W.region ?_)
 refine SeqW.consX rfl (kLoadA rfl Try.underlying32 rfl Try.type32 rfl h3 X3.loads ?_)
 obtain ⟨y9, hy9, hr⟩ := bind_some hr
 refine SeqW.consX rfl (StepX.call (gCallee rfl rfl (args1 rfl)) ((c_rulebook_valid (x0 := x0) (z := z) st.fz st.dead  hy9).mono ?_))
 rintro _ _ ⟨rfl, rfl⟩
 refine sx rfl (pNot (b := y9) rfl rfl) ?_
 refine SeqW.done fun fr10 hf11 => ?_
 have h1 := (congrFun hf11 1).trans h1
 have h2 := (congrFun hf11 2).trans h2
 have h3 := (congrFun hf11 3).trans h3
 have h12 : fr10 12 = (vB (!y9)) := (congrFun hf11 12).trans rfl
 clear hf11
 refine thenQ.n ?_
 rcases if_some hr with ⟨hc12, hr⟩ | ⟨hc15, hr⟩
 ·refine W.condT h12 hc12 (W.seq (W.region ?_))
  refine sx rfl (pAssign (v := (vI 0)) rfl rfl) ?_
  refine sx rfl (pAssign (v := (vI 1)) rfl rfl) ?_
  refine SeqW.done fun fr13 hf14 => ?_
  have h6 : fr13 6 = (vI 0) := (congrFun hf14 6).trans rfl
  have h7 : fr13 7 = (vI 1) := (congrFun hf14 7).trans rfl
  clear hf14
  refine thenQ.n ?_
  refine W.ret ?_
  refine thenQ.r ?_
  obtain rfl := Option.some.inj hr
  exact ⟨z, hz, st, .inr rfl, h6, h7, trivial⟩
 ·refine W.condF h12 hc15 (W.skip ?_)
  refine thenQ.n (W.seq (W.region ?_))
  refine sx rfl (pMove (v := v1) rfl h1) ?_
  refine sx rfl (pMove (v := v2) rfl h2) ?_
  obtain ⟨y16, hy16, hr⟩ := bind_some hr
  refine SeqW.consX rfl (StepX.call (gCallee rfl rfl (args2 rfl rfl)) ((c_brake_Total (z := z) st.fz st.dead s1 s2 hy16).mono ?_))
  rintro _ m21 ⟨z17, hzx18, fz19, sm20, rfl, -⟩
  replace s1 := s1.mono hzx18.le
  replace s2 := s2.mono hzx18.le
  replace X3 := X3.call hzx18 sm20 Ap.none'
  replace hz := hz.trans (Zx.here st hzx18)
  replace st := st.call hzx18 fz19 sm20 no_hq
  refine sx rfl (pMove (v := (Value.tuple [(Value.agg [(vI y16.1.length), (vI y16.1.axles), (vI y16.1.mass), (vI y16.1.braked), (vI y16.1.percent), (vI y16.1.required), (vI y16.1.missing)].toArray), (vI y16.2)].toArray)) rfl rfl) ?_
  refine sx rfl (pExtract (vs := [(Value.agg [(vI y16.1.length), (vI y16.1.axles), (vI y16.1.mass), (vI y16.1.braked), (vI y16.1.percent), (vI y16.1.required), (vI y16.1.missing)].toArray), (vI y16.2)]) (v := (Value.agg [(vI y16.1.length), (vI y16.1.axles), (vI y16.1.mass), (vI y16.1.braked), (vI y16.1.percent), (vI y16.1.required), (vI y16.1.missing)].toArray)) rfl rfl rfl) ?_
  refine sx rfl (pExtract (vs := [(Value.agg [(vI y16.1.length), (vI y16.1.axles), (vI y16.1.mass), (vI y16.1.braked), (vI y16.1.percent), (vI y16.1.required), (vI y16.1.missing)].toArray), (vI y16.2)]) (v := (vI y16.2)) rfl rfl rfl) ?_
  refine SeqW.consX rfl (kAlloc rfl Try.type59 rfl rfl rfl [(vI 0), (vI 0), (vI 0), (vI 0), (vI 0), (vI 0), (vI 0)] rfl st ?_)
  intro B22 m23  st X24 sm25 hap26
  have A28 := hap26 _ X3.lt'
  replace X3 := X3.same sm25 Ap.none'
  refine SeqW.consX rfl (kPut (off := 0) (w := (Value.agg [(vI y16.1.length), (vI y16.1.axles), (vI y16.1.mass), (vI y16.1.braked), (vI y16.1.percent), (vI y16.1.required), (vI y16.1.missing)].toArray)) (new := [(vI y16.1.length), (vI y16.1.axles), (vI y16.1.mass), (vI y16.1.braked), (vI y16.1.percent), (vI y16.1.required), (vI y16.1.missing)]) rfl Try.type59 rfl rfl rfl rfl rfl X24 rfl [(vI y16.1.length), (vI y16.1.axles), (vI y16.1.mass), (vI y16.1.braked), (vI y16.1.percent), (vI y16.1.required), (vI y16.1.missing)] rfl st ?_)
  intro m29 st X24 sm30
  replace X3 := X3.same sm30 A28
  refine sx rfl (pAssign (v := (vI y16.2)) rfl rfl) ?_
  refine SeqW.done fun fr31 hf32 => ?_
  have h1 := (congrFun hf32 1).trans h1
  have h2 := (congrFun hf32 2).trans h2
  have h3 := (congrFun hf32 3).trans h3
  have h8 : fr31 8 = (vP B22) := (congrFun hf32 8).trans rfl
  have h9 : fr31 9 = (vI y16.2) := (congrFun hf32 9).trans rfl
  clear hf32
  refine thenQ.n (W.seq ?_)
  refine W.seq (W.region ?_)
  refine sx rfl (pMove (v := (vI y16.2)) rfl h9) ?_
  refine sx rfl (pNeq (k := .i64) (a := y16.2) (b := 0) rfl rfl rfl) ?_
  refine SeqW.done fun fr33 hf34 => ?_
  have h1 := (congrFun hf34 1).trans h1
  have h2 := (congrFun hf34 2).trans h2
  have h3 := (congrFun hf34 3).trans h3
  have h8 := (congrFun hf34 8).trans h8
  have h9 := (congrFun hf34 9).trans h9
  have h20 : fr33 20 = (vB (y16.2 != 0)) := (congrFun hf34 20).trans rfl
  clear hf34
  refine thenQ.n ?_
  rcases if_some hr with ⟨hc35, hr⟩ | ⟨hc38, hr⟩
  ·refine W.condT h20 hc35 (W.seq (W.region ?_))
   refine sx rfl (pMove (v := (vI y16.2)) rfl h9) ?_
   refine sx rfl (pAssign (v := (vI 0)) rfl rfl) ?_
   refine sx rfl (pAssign (v := (vI y16.2)) rfl rfl) ?_
   refine SeqW.done fun fr36 hf37 => ?_
   have h6 : fr36 6 = (vI 0) := (congrFun hf37 6).trans rfl
   have h7 : fr36 7 = (vI y16.2) := (congrFun hf37 7).trans rfl
   clear hf37
   refine thenQ.n ?_
   refine W.ret ?_
   refine thenQ.r ?_
   obtain rfl := Option.some.inj hr
   exact ⟨z17, hz, st, .inr rfl, h6, h7, trivial⟩
  ·refine W.condF h20 hc38 (W.skip ?_)
   refine thenQ.n (W.seq (W.region ?_))
   refine sx rfl (pMove (v := v1) rfl h1) ?_
   refine sx rfl (pMove (v := v2) rfl h2) ?_
   refine SeqW.consX rfl (kLoadA rfl Try.underlying59 rfl Try.type59 rfl h8 X24.loads ?_)
   obtain ⟨A39, c40, eA39⟩ := s1.len
   subst eA39
   obtain ⟨A41, c42, eA41⟩ := s2.len
   subst eA41
   refine SeqW.consX rfl (kBuildS [(0, (Value.slice A39 (x1).length c40)), (1, (Value.slice A41 (x2).length c42)), (2, (Value.agg [(vI y16.1.length), (vI y16.1.axles), (vI y16.1.mass), (vI y16.1.braked), (vI y16.1.percent), (vI y16.1.required), (vI y16.1.missing)].toArray))] [(Value.slice A39 (x1).length c40), (Value.slice A41 (x2).length c42), (vI y16.1.length), (vI y16.1.axles), (vI y16.1.mass), (vI y16.1.braked), (vI y16.1.percent), (vI y16.1.required), (vI y16.1.missing)] rfl Try.underlying63 Try.type63 rfl rfl (places63 Try.underlying63) rfl (rfl) rfl ?_)
   refine SeqW.consX rfl (kLoadA rfl Try.underlying32 rfl Try.type32 rfl h3 X3.loads ?_)
   obtain ⟨y43, hy43, hr⟩ := bind_some hr
   refine SeqW.consX rfl (StepX.call (gCallee rfl rfl (args2 rfl rfl)) ((c_train_place (x0 := (Train.mk x1 x2 (Brakes.mk y16.1.length y16.1.axles y16.1.mass y16.1.braked y16.1.percent y16.1.required y16.1.missing))) (x1 := x0) (z := z17) st.fz st.dead s1 s2 hy43).mono ?_))
   rintro _ _ ⟨rfl, rfl⟩
   refine sx rfl (pAssign (v := (vI y43)) rfl rfl) ?_
   refine sx rfl (pAssign (v := (vI 0)) rfl rfl) ?_
   refine SeqW.done fun fr44 hf45 => ?_
   have h6 : fr44 6 = (vI y43) := (congrFun hf45 6).trans rfl
   have h7 : fr44 7 = (vI 0) := (congrFun hf45 7).trans rfl
   clear hf45
   refine thenQ.n ?_
   refine W.ret ?_
   obtain rfl := Option.some.inj hr
   exact ⟨z17, hz, st, .inr rfl, h6, h7, trivial⟩

theorem c_rulebook_Place {N : Nat} {z : Nat → Blk} {m : Mem} {x0 : Rule} {x1 : List Wagon} {x2 : List Int} {v1 : Value} {v2 : Value} (fz : Fz z m) (hd : ∀ b, m.next ≤ b → m.blk b = .dead) (s1 : SlR TWagon z x1 v1) (s2 : SlR (TInt 3 .i64) z x2 v2) {r : Int × Int} (hr : rulebook_Place N x0 x1 x2 = some r) : CallW Try.prog 19 #[(Value.agg [(vI x0.number), (vI x0.kind), (vI x0.a), (vI x0.b), (vI x0.c)].toArray), v1, v2] m fun v m' => v = (Value.tuple [(vI r.1), (vI r.2)].toArray) ∧ m' = m := by
 refine CallW.flat Try.func19 rfl (by kernel_rfl) (Nat.le_of_ble_eq_true rfl) rfl (z := z) (fun fr hf => ?_)
 have h0 : fr 0 = _ := hf 0 _ rfl
 have h1 : fr 1 = _ := hf 1 _ rfl
 have h2 : fr 2 = _ := hf 2 _ rfl
 refine (u_rulebook_Place (k := none) (Zx.refl _) (St.start fz hd) h0 h1 s1 h2 s2 hr).mono ?_
 rintro ex fr' m' ⟨z', hz, st, he, h6, h7, -⟩
 exact ⟨he, z', st, [(vI r.1), (vI r.2)], ⟨h6.symm, h7.symm, trivial⟩, .inr (List.forall_mem_cons.2 ⟨rfl, List.forall_mem_cons.2 ⟨rfl, fun _ h => nomatch h⟩⟩), rfl⟩

/-! ### humpyard/humpyardlaw36.wagon -/

theorem u_l36_wagon {N : Nat}  {z0 z : Nat → Blk} {e m : Mem} {k : Option Nat} {fr : Nat → Value} {x0 : Int} {x1 : Int} (hz : Zx e.next z0 z) (st : St z e m k) (h0 : fr 0 = (vI x0)) (h1 : fr 1 = (vI x1)) {r : Wagon} (hr : l36_wagon N x0 x1 = some r) : W Try.prog (sub (bodyOf Try.f28) []) (fun ex fr' m' => ∃ z', Zx e.next z0 z' ∧ St z' e m' k ∧ (ex = .normal ∨ ex = .ret) ∧ ∃ (c4 : Nat), fr' 4 = (vP c4) ∧ Bx z' e m' k c4 [(str r.number), (vI r.length), (vI r.axles), (vI r.mass), (vI r.brake), (vI r.goods), (vB r.gentle), (str r.dest)] 36 ∧ (e.next ≤ c4 ∨ k = some c4) ∧ True) fr m := by
 unfold l36_wagon at hr
 refine W.seq (W.region ?_)
 refine SeqW.consX rfl (kAlloc rfl Try.type36 rfl rfl rfl [(str []), (vI 0), (vI 0), (vI 0), (vI 0), (vI 0), (vB false), (str [])] rfl st ?_)
 intro B1 m2  st X3 sm4 hap5
 refine SeqW.done fun fr7 hf8 => ?_
 have h0 := (congrFun hf8 0).trans h0
 have h1 := (congrFun hf8 1).trans h1
 have h4 : fr7 4 = (vP B1) := (congrFun hf8 4).trans rfl
 clear hf8
 refine thenQ.n (W.seq (W.region ?_))
 refine SeqW.consX rfl (kBuild (T := (TInt 3 .i64)) rfl Try.underlying22 Try.type3 rfl rfl rfl rfl ([7] : List Int) [[(vI 7)]] rfl rfl rfl (BuildOk.mk (w := (vI 7)) rfl rfl rfl rfl trivial) st ?_)
 intro V9 m10 st O11 sm12 hap13
 have A15 := hap13 _ X3.lt'
 replace X3 := X3.same sm12 Ap.none'
 obtain ⟨z16, hz17, st, Q18, hl19⟩ := O11.freeze st
 replace X3 := X3.zle (hl19 _ A15)
 replace hz := hz.trans hz17
 obtain ⟨y20, hy20, hr⟩ := bind_some hr
 refine SeqW.consX rfl (StepX.call (gCallee rfl rfl (args1 rfl)) ((c_gen_New (z := z16) st.fz st.dead Q18 hy20).mono ?_))
 rintro _ m25 ⟨z21, B26, V29, hzx22, fz23, sm24, rfl, Q30, X27, hn32, -⟩
 have A33 := Ap.fresh X3.lt' hn32
 replace X3 := X3.call hzx22 sm24 Ap.none'
 replace Q18 := Q18.mono hzx22.le
 have X27 : Bx z21 e m25 k B26 _ _ := ⟨X27.blk, X27.lt, X27.dead, .inl (Nat.le_trans st.next hn32)⟩
 replace hz := hz.trans (Zx.here st hzx22)
 replace st := st.call hzx22 fz23 sm24 no_hq
 refine sx rfl (pMove (v := (vI x0)) rfl h0) ?_
 obtain ⟨y34, hy34, hr⟩ := bind_some hr
 refine SeqW.consX rfl (StepX.call (gCallee rfl rfl (args2 rfl rfl)) ((c_Maker_Wagon (x0 := y20) (z := z21) st.fz st.dead Q30 ⟨X27.blk, X27.lt, X27.dead, .inr rfl⟩ hy34).mono ?_))
 rintro _ m39 ⟨z35, V40, hzx36, fz37, sm38, rfl, Q41, X43, -⟩
 replace X3 := X3.call hzx36 sm38 A33
 replace Q30 := Q30.mono hzx36.le
 have X27n : Bx z35 e m39 k B26 _ _ := ⟨X43.blk, X43.lt, X43.dead, X27.fresh⟩
 replace hz := hz.trans (Zx.here st hzx36)
 replace st := st.call hzx36 fz37 sm38 X27.hq
 refine SeqW.consX rfl (kAlloc rfl Try.type36 rfl rfl rfl [(str []), (vI 0), (vI 0), (vI 0), (vI 0), (vI 0), (vB false), (str [])] rfl st ?_)
 intro B44 m45  st X46 sm47 hap48
 have A50 := hap48 _ X3.lt'
 replace X3 := X3.same sm47 Ap.none'
 refine SeqW.consX rfl (kPut (off := 0) (w := (Value.agg [(str y34.1.number), (vI y34.1.length), (vI y34.1.axles), (vI y34.1.mass), (vI y34.1.brake), (vI y34.1.goods), (vB y34.1.gentle), (str y34.1.dest)].toArray)) (new := [(str y34.1.number), (vI y34.1.length), (vI y34.1.axles), (vI y34.1.mass), (vI y34.1.brake), (vI y34.1.goods), (vB y34.1.gentle), (str y34.1.dest)]) rfl Try.type36 rfl rfl rfl rfl rfl X46 rfl [(str y34.1.number), (vI y34.1.length), (vI y34.1.axles), (vI y34.1.mass), (vI y34.1.brake), (vI y34.1.goods), (vB y34.1.gentle), (str y34.1.dest)] rfl st ?_)
 intro m51 st X46 sm52
 replace X3 := X3.same sm52 A50
 refine SeqW.done fun fr53 hf54 => ?_
 have h1 := (congrFun hf54 1).trans h1
 have h4 := (congrFun hf54 4).trans h4
 have h5 : fr53 5 = (vP B44) := (congrFun hf54 5).trans rfl
 clear hf54
 refine thenQ.n (W.seq (W.region ?_))
 refine sx rfl (pMove (v := (vI x1)) rfl h1) ?_
 refine SeqW.consX rfl (kField rfl Try.underlying36 rfl Try.type3 rfl h5 rfl ?_)
 refine SeqW.consX rfl (kPut (off := 5) (w := (vI x1)) (new := [(vI x1)]) rfl Try.type3 rfl rfl rfl rfl rfl X46 rfl [(str y34.1.number), (vI y34.1.length), (vI y34.1.axles), (vI y34.1.mass), (vI y34.1.brake), (vI x1), (vB y34.1.gentle), (str y34.1.dest)] rfl st ?_)
 intro m55 st X46 sm56
 replace X3 := X3.same sm56 A50
 refine SeqW.done fun fr57 hf58 => ?_
 have h4 := (congrFun hf58 4).trans h4
 have h5 := (congrFun hf58 5).trans h5
 clear hf58
 refine thenQ.n (W.seq (W.region ?_))
 refine SeqW.consX rfl (kLoadA rfl Try.underlying36 rfl Try.type36 rfl h5 X46.loads ?_)
 refine SeqW.consX rfl (kPut (off := 0) (w := (Value.agg [(str y34.1.number), (vI y34.1.length), (vI y34.1.axles), (vI y34.1.mass), (vI y34.1.brake), (vI x1), (vB y34.1.gentle), (str y34.1.dest)].toArray)) (new := [(str y34.1.number), (vI y34.1.length), (vI y34.1.axles), (vI y34.1.mass), (vI y34.1.brake), (vI x1), (vB y34.1.gentle), (str y34.1.dest)]) rfl Try.type36 h4 rfl rfl rfl rfl X3 rfl [(str y34.1.number), (vI y34.1.length), (vI y34.1.axles), (vI y34.1.mass), (vI y34.1.brake), (vI x1), (vB y34.1.gentle), (str y34.1.dest)] rfl st ?_)
 intro m59 st X3 sm60
 refine SeqW.done fun fr61 hf62 => ?_
 have h4 := (congrFun hf62 4).trans h4
 clear hf62
 refine thenQ.n ?_
 refine W.ret ?_
 obtain rfl := Option.some.inj hr
 exact ⟨z35, hz, st, .inr rfl, B1, h4, X3, X3.fresh, trivial⟩

theorem c_l36_wagon {N : Nat} {z : Nat → Blk} {m : Mem} {x0 : Int} {x1 : Int} (fz : Fz z m) (hd : ∀ b, m.next ≤ b → m.blk b = .dead)  {r : Wagon} (hr : l36_wagon N x0 x1 = some r) : CallW Try.prog 28 #[(vI x0), (vI x1)] m fun v m' => ∃ z', Zx m.next z z' ∧ Fz z' m' ∧ Same m m' none ∧ v = (Value.agg [(str r.number), (vI r.length), (vI r.axles), (vI r.mass), (vI r.brake), (vI r.goods), (vB r.gentle), (str r.dest)].toArray) ∧ True := by
 refine CallW.any Try.func28 rfl (by kernel_rfl) (Nat.le_of_ble_eq_true rfl) (fun fr hf => ?_)
 have h0 : fr 0 = _ := hf 0 _ rfl
 have h1 : fr 1 = _ := hf 1 _ rfl
 refine (u_l36_wagon (k := none) (Zx.refl _) (St.start fz hd) h0 h1 hr).mono ?_
 rintro ex fr' m' ⟨z', hz, st, he, c4, h4, bx4, fx4, -⟩
 exact ⟨he, [(Value.agg [(str r.number), (vI r.length), (vI r.axles), (vI r.mass), (vI r.brake), (vI r.goods), (vB r.gentle), (str r.dest)].toArray)], ⟨resCell h4 bx4 Try.underlying36 rfl Try.type36 rfl, trivial⟩, .inl rfl, z', hz, st.fz, st.toSame, rfl, trivial⟩

/-! ### humpyard/humpyardlaw36.sane -/

theorem u_l36_sane_0 {N : Nat}  {z0 z : Nat → Blk} {e m : Mem} {k : Option Nat} {fr : Nat → Value} {x2 : List Rule} {x3 : Int} {x4 : Int} {x5 : Int} {x6 : Int} {x7 : Int} {x8 : Int} {x9 : Int} {x10 : Int} {v2 : Value} (hz : Zx e.next z0 z) (st : St z e m k) (h2 : fr 2 = v2) (o2 : OwF TRule z e m k x2 v2) (h3 : fr 3 = (vI x3)) (h4 : fr 4 = (vI x4)) (h5 : fr 5 = (vI x5)) (h6 : fr 6 = (vI x6)) (h7 : fr 7 = (vI x7)) (h8 : fr 8 = (vI x8)) (h9 : fr 9 = (vI x9)) (h10 : fr 10 = (vI x10)) {r : Bool} (hr : l36_sane_0 N x2 x3 x4 x5 x6 x7 x8 x9 x10 = some r) : W Try.prog (sub (bodyOf Try.f17) [1, 1, 1, 1, 1, 1, 0]) (fun ex fr' m' => ∃ z', Zx e.next z0 z' ∧ St z' e m' k ∧ ex = AExit.normal ∧ fr' 0 = (vB r) ∧ True) fr m := by
 unfold l36_sane_0 at hr
 refine W.region ?_
 refine sx rfl (pMove (v := (vI x5)) rfl h5) ?_
 refine sx rfl (pEql (k := .i64) (a := x5) (b := 0) rfl rfl rfl) ?_
 refine sx rfl (pMove (v := (vB (x5 == 0))) rfl rfl) ?_
 rcases if_some hr with ⟨hc100, hr⟩ | ⟨hc162, hr⟩
 ·refine SeqW.consG rfl rfl rfl hc100 (StepX.pure (pMove (v := (vI x3)) rfl h3) ?_)
  refine SeqW.consG rfl rfl rfl hc100 (StepX.pure (pEql (k := .i64) (a := x3) (b := 9) rfl rfl rfl) ?_)
  refine sx rfl (pPick (t := true) (v := (vB (x3 == 9))) rfl ((congrArg vB hc100)) rfl) ?_
  refine sx rfl (pMove (v := (vB (x3 == 9))) rfl rfl) ?_
  rcases if_some hr with ⟨hc101, hr⟩ | ⟨hc159, hr⟩
  ·refine SeqW.consG rfl rfl rfl hc101 (StepX.pure (pMove (v := (vI x4)) rfl h4) ?_)
   refine SeqW.consG rfl rfl rfl hc101 (StepX.pure (pEql (k := .i64) (a := x4) (b := 3) rfl rfl rfl) ?_)
   refine sx rfl (pPick (t := true) (v := (vB (x4 == 3))) rfl ((congrArg vB hc101)) rfl) ?_
   refine sx rfl (pMove (v := (vB (x4 == 3))) rfl rfl) ?_
   rcases if_some hr with ⟨hc102, hr⟩ | ⟨hc156, hr⟩
   ·refine SeqW.consG rfl rfl rfl hc102 (StepX.pure (pMove (v := (vI x8)) rfl h8) ?_)
    refine SeqW.consG rfl rfl rfl hc102 (StepX.pure (pEql (k := .i64) (a := x8) (b := 0) rfl rfl rfl) ?_)
    refine sx rfl (pPick (t := true) (v := (vB (x8 == 0))) rfl ((congrArg vB hc102)) rfl) ?_
    refine sx rfl (pMove (v := (vB (x8 == 0))) rfl rfl) ?_
    rcases if_some hr with ⟨hc103, hr⟩ | ⟨hc153, hr⟩
    ·refine SeqW.consG rfl rfl rfl hc103 (StepX.pure (pMove (v := (vI x6)) rfl h6) ?_)
     refine SeqW.consG rfl rfl rfl hc103 (StepX.pure (pEql (k := .i64) (a := x6) (b := 0) rfl rfl rfl) ?_)
     refine sx rfl (pPick (t := true) (v := (vB (x6 == 0))) rfl ((congrArg vB hc103)) rfl) ?_
     refine sx rfl (pMove (v := (vB (x6 == 0))) rfl rfl) ?_
     rcases if_some hr with ⟨hc104, hr⟩ | ⟨hc150, hr⟩
     ·refine SeqW.consG rfl rfl rfl hc104 (StepX.pure (pMove (v := (vI x7)) rfl h7) ?_)
      refine SeqW.consG rfl rfl rfl hc104 (StepX.pure (pEql (k := .i64) (a := x7) (b := (-1)) rfl rfl rfl) ?_)
      refine sx rfl (pPick (t := true) (v := (vB (x7 == (-1)))) rfl ((congrArg vB hc104)) rfl) ?_
      refine sx rfl (pMove (v := (vB (x7 == (-1)))) rfl rfl) ?_
      rcases if_some hr with ⟨hc105, hr⟩ | ⟨hc147, hr⟩
      ·refine SeqW.consG rfl rfl rfl hc105 (StepX.pure (pMove (v := (vI x10)) rfl h10) ?_)
       refine SeqW.consG rfl rfl rfl hc105 (StepX.pure (pEql (k := .i64) (a := x10) (b := 0) rfl rfl rfl) ?_)
       refine sx rfl (pPick (t := true) (v := (vB (x10 == 0))) rfl ((congrArg vB hc105)) rfl) ?_
       refine sx rfl (pMove (v := (vB (x10 == 0))) rfl rfl) ?_
       rcases if_some hr with ⟨hc106, hr⟩ | ⟨hc144, hr⟩
       ·refine SeqW.consG rfl rfl rfl hc106 (StepX.pure (pMove (v := (vI x9)) rfl h9) ?_)
        refine SeqW.consG rfl rfl rfl hc106 (StepX.pure (pEql (k := .i64) (a := x9) (b := 1) rfl rfl rfl) ?_)
        refine sx rfl (pPick (t := true) (v := (vB (x9 == 1))) rfl ((congrArg vB hc106)) rfl) ?_
        refine sx rfl (pMove (v := (vB (x9 == 1))) rfl rfl) ?_
        rcases if_some hr with ⟨hc107, hr⟩ | ⟨hc141, hr⟩
        ·refine SeqW.consG rfl rfl rfl hc107 (StepX.pure (pMove (v := v2) rfl h2) ?_)
         refine SeqW.consG rfl rfl rfl hc107 (StepX.pure (pMove (v := v2) rfl h2) ?_)
         obtain ⟨y108, hy108, hr⟩ := bind_some hr
         refine SeqW.consG rfl rfl rfl hc107 (kIdxO (T := TRule) (xs := x2) (n := 0) rfl Try.underlying23 Try.type32 rfl rfl rfl o2 hy108 ?_)
         intro B109 l110 c111 cs112 hv113 hd114 hg115 hc116
         have hd1140 := hd114
         obtain rfl := hd1140
         refine SeqW.consG rfl rfl rfl hc107 (kLoadA rfl Try.underlying32 rfl Try.type32 rfl rfl hc116 ?_)
         refine SeqW.consG rfl rfl rfl hc107 (kBuild (T := TRule) rfl Try.underlying23 Try.type32 rfl rfl rfl rfl ([y108] : List Rule) [[(vI y108.number), (vI y108.kind), (vI y108.a), (vI y108.b), (vI y108.c)]] rfl rfl rfl (BuildOk.mk (w := (Value.agg [(vI y108.number), (vI y108.kind), (vI y108.a), (vI y108.b), (vI y108.c)].toArray)) rfl rfl rfl rfl trivial) st ?_)
         intro V117 m118 st O119 sm120 hap121
         have A123 := hap121 _ o2.lt
         replace o2 := o2.same sm120 Ap.none'
         obtain ⟨y124, hy124, hr⟩ := bind_some hr
         refine SeqW.consG rfl rfl rfl hc107 (kAppend (T := TRule) (xs := x2) (ys := ([y108] : List Rule)) rfl Try.underlying23 Try.type32 rfl rfl rfl rfl rfl rfl (.inl ⟨_, Try.underlying23⟩) rfl o2 rfl O119.ow.src st hy124 ?_)
         intro V125 m126 st O127 sm128 hap129
         have A131 := hap129 _ O119.lt (Ap.symm A123)
         replace O119 := O119.same sm128 (Ap.symm A123)
         obtain ⟨z132, hz133, st136, Q134, hl135⟩ := O127.freeze st
         obtain ⟨y137, hy137, hr⟩ := bind_some hr
         refine SeqW.consG rfl rfl rfl hc107 (StepX.call (gCallee rfl rfl (args1 rfl)) ((c_rulebook_Valid (z := z132) st136.fz st.dead Q134 hy137).mono ?_))
         rintro _ _ ⟨rfl, rfl⟩
         refine SeqW.consG rfl rfl rfl hc107 (StepX.pure (pEql (k := .i64) (a := y137) (b := 8) rfl rfl rfl) ?_)
         refine sx rfl (pPick (t := true) (v := (vB (y137 == 8))) rfl ((congrArg vB hc107)) rfl) ?_
         obtain ⟨y138, hy138, hr⟩ := lt_some hr
         refine sx rfl (pAssign rfl (congrArg vB hy138)) ?_
         refine SeqW.done fun fr139 hf140 => ?_
         have h0 : fr139 0 = (vB y138) := (congrFun hf140 0).trans rfl
         clear hf140
         obtain rfl := Option.some.inj hr
         exact ⟨z, hz, st, rfl, h0, trivial⟩
        ·refine kx rfl rfl rfl hc141 ?_
         iterate 7 refine kx rfl rfl rfl hc141 ?_
         refine sx rfl (pPick (t := false) (v := (vB false)) rfl ((congrArg vB hc141)) rfl) ?_
         refine sx rfl (pAssign (v := (vB false)) rfl rfl) ?_
         refine SeqW.done fun fr142 hf143 => ?_
         have h0 : fr142 0 = (vB false) := (congrFun hf143 0).trans rfl
         clear hf143
         obtain rfl := Option.some.inj hr
         exact ⟨z, hz, st, rfl, h0, trivial⟩
       ·refine kx rfl rfl rfl hc144 ?_
        refine kx rfl rfl rfl hc144 ?_
        refine sx rfl (pPick (t := false) (v := (vB false)) rfl ((congrArg vB hc144)) rfl) ?_
        refine sx rfl (pMove (v := (vB false)) rfl rfl) ?_
        iterate 8 refine kx rfl rfl rfl rfl ?_
        refine sx rfl (pPick (t := false) (v := (vB false)) rfl ((congrArg vB (rfl : false = false))) rfl) ?_
        refine sx rfl (pAssign (v := (vB false)) rfl rfl) ?_
        refine SeqW.done fun fr145 hf146 => ?_
        have h0 : fr145 0 = (vB false) := (congrFun hf146 0).trans rfl
        clear hf146
        obtain rfl := Option.some.inj hr
        exact ⟨z, hz, st, rfl, h0, trivial⟩
      ·refine kx rfl rfl rfl hc147 ?_
       refine kx rfl rfl rfl hc147 ?_
       refine sx rfl (pPick (t := false) (v := (vB false)) rfl ((congrArg vB hc147)) rfl) ?_
       refine sx rfl (pMove (v := (vB false)) rfl rfl) ?_
       iterate 2 refine kx rfl rfl rfl rfl ?_
       refine sx rfl (pPick (t := false) (v := (vB false)) rfl ((congrArg vB (rfl : false = false))) rfl) ?_
       refine sx rfl (pMove (v := (vB false)) rfl rfl) ?_
       iterate 8 refine kx rfl rfl rfl rfl ?_
       refine sx rfl (pPick (t := false) (v := (vB false)) rfl ((congrArg vB (rfl : false = false))) rfl) ?_
       refine sx rfl (pAssign (v := (vB false)) rfl rfl) ?_
       refine SeqW.done fun fr148 hf149 => ?_
       have h0 : fr148 0 = (vB false) := (congrFun hf149 0).trans rfl
       clear hf149
       obtain rfl := Option.some.inj hr
       exact ⟨z, hz, st, rfl, h0, trivial⟩
     ·refine kx rfl rfl rfl hc150 ?_
      refine kx rfl rfl rfl hc150 ?_
      refine sx rfl (pPick (t := false) (v := (vB false)) rfl ((congrArg vB hc150)) rfl) ?_
      refine sx rfl (pMove (v := (vB false)) rfl rfl) ?_
      iterate 2 refine kx rfl rfl rfl rfl ?_
      refine sx rfl (pPick (t := false) (v := (vB false)) rfl ((congrArg vB (rfl : false = false))) rfl) ?_
      refine sx rfl (pMove (v := (vB false)) rfl rfl) ?_
      iterate 2 refine kx rfl rfl rfl rfl ?_
      refine sx rfl (pPick (t := false) (v := (vB false)) rfl ((congrArg vB (rfl : false = false))) rfl) ?_
      refine sx rfl (pMove (v := (vB false)) rfl rfl) ?_
      iterate 8 refine kx rfl rfl rfl rfl ?_
      refine sx rfl (pPick (t := false) (v := (vB false)) rfl ((congrArg vB (rfl : false = false))) rfl) ?_
      refine sx rfl (pAssign (v := (vB false)) rfl rfl) ?_
      refine SeqW.done fun fr151 hf152 => ?_
      have h0 : fr151 0 = (vB false) := (congrFun hf152 0).trans rfl
      clear hf152
      obtain rfl := Option.some.inj hr
      exact ⟨z, hz, st, rfl, h0, trivial⟩
    ·refine kx rfl rfl rfl hc153 ?_
     refine kx rfl rfl rfl hc153 ?_
     refine sx rfl (pPick (t := false) (v := (vB false)) rfl ((congrArg vB hc153)) rfl) ?_
     refine sx rfl (pMove (v := (vB false)) rfl rfl) ?_
     iterate 2 refine kx rfl rfl rfl rfl ?_
     refine sx rfl (pPick (t := false) (v := (vB false)) rfl ((congrArg vB (rfl : false = false))) rfl) ?_
     refine sx rfl (pMove (v := (vB false)) rfl rfl) ?_
     iterate 2 refine kx rfl rfl rfl rfl ?_
     refine sx rfl (pPick (t := false) (v := (vB false)) rfl ((congrArg vB (rfl : false = false))) rfl) ?_
     refine sx rfl (pMove (v := (vB false)) rfl rfl) ?_
     iterate 2 refine kx rfl rfl rfl rfl ?_
     refine sx rfl (pPick (t := false) (v := (vB false)) rfl ((congrArg vB (rfl : false = false))) rfl) ?_
     refine sx rfl (pMove (v := (vB false)) rfl rfl) ?_
     iterate 8 refine kx rfl rfl rfl rfl ?_
     refine sx rfl (pPick (t := false) (v := (vB false)) rfl ((congrArg vB (rfl : false = false))) rfl) ?_
     refine sx rfl (pAssign (v := (vB false)) rfl rfl) ?_
     refine SeqW.done fun fr154 hf155 => ?_
     have h0 : fr154 0 = (vB false) := (congrFun hf155 0).trans rfl
     clear hf155
     obtain rfl := Option.some.inj hr
     exact ⟨z, hz, st, rfl, h0, trivial⟩
   ·refine kx rfl rfl rfl hc156 ?_
    refine kx rfl rfl rfl hc156 ?_
    refine sx rfl (pPick (t := false) (v := (vB false)) rfl ((congrArg vB hc156)) rfl) ?_
    refine sx rfl (pMove (v := (vB false)) rfl rfl) ?_
    iterate 2 refine kx rfl rfl rfl rfl ?_
    refine sx rfl (pPick (t := false) (v := (vB false)) rfl ((congrArg vB (rfl : false = false))) rfl) ?_
    refine sx rfl (pMove (v := (vB false)) rfl rfl) ?_
    iterate 2 refine kx rfl rfl rfl rfl ?_
    refine sx rfl (pPick (t := false) (v := (vB false)) rfl ((congrArg vB (rfl : false = false))) rfl) ?_
    refine sx rfl (pMove (v := (vB false)) rfl rfl) ?_
    iterate 2 refine kx rfl rfl rfl rfl ?_
    refine sx rfl (pPick (t := false) (v := (vB false)) rfl ((congrArg vB (rfl : false = false))) rfl) ?_
    refine sx rfl (pMove (v := (vB false)) rfl rfl) ?_
    iterate 2 refine kx rfl rfl rfl rfl ?_
    refine sx rfl (pPick (t := false) (v := (vB false)) rfl ((congrArg vB (rfl : false = false))) rfl) ?_
    refine sx rfl (pMove (v := (vB false)) rfl rfl) ?_
    iterate 8 refine kx rfl rfl rfl rfl ?_
    refine sx rfl (pPick (t := false) (v := (vB false)) rfl ((congrArg vB (rfl : false = false))) rfl) ?_
    refine sx rfl (pAssign (v := (vB false)) rfl rfl) ?_
    refine SeqW.done fun fr157 hf158 => ?_
    have h0 : fr157 0 = (vB false) := (congrFun hf158 0).trans rfl
    clear hf158
    obtain rfl := Option.some.inj hr
    exact ⟨z, hz, st, rfl, h0, trivial⟩
  ·refine kx rfl rfl rfl hc159 ?_
   refine kx rfl rfl rfl hc159 ?_
   refine sx rfl (pPick (t := false) (v := (vB false)) rfl ((congrArg vB hc159)) rfl) ?_
   refine sx rfl (pMove (v := (vB false)) rfl rfl) ?_
   iterate 2 refine kx rfl rfl rfl rfl ?_
   refine sx rfl (pPick (t := false) (v := (vB false)) rfl ((congrArg vB (rfl : false = false))) rfl) ?_
   refine sx rfl (pMove (v := (vB false)) rfl rfl) ?_
   iterate 2 refine kx rfl rfl rfl rfl ?_
   refine sx rfl (pPick (t := false) (v := (vB false)) rfl ((congrArg vB (rfl : false = false))) rfl) ?_
   refine sx rfl (pMove (v := (vB false)) rfl rfl) ?_
   iterate 2 refine kx rfl rfl rfl rfl ?_
   refine sx rfl (pPick (t := false) (v := (vB false)) rfl ((congrArg vB (rfl : false = false))) rfl) ?_
   refine sx rfl (pMove (v := (vB false)) rfl rfl) ?_
   iterate 2 refine kx rfl rfl rfl rfl ?_
   refine sx rfl (pPick (t := false) (v := (vB false)) rfl ((congrArg vB (rfl : false = false))) rfl) ?_
   refine sx rfl (pMove (v := (vB false)) rfl rfl) ?_
   iterate 2 refine kx rfl rfl rfl rfl ?_
   refine sx rfl (pPick (t := false) (v := (vB false)) rfl ((congrArg vB (rfl : false = false))) rfl) ?_
   refine sx rfl (pMove (v := (vB false)) rfl rfl) ?_
   iterate 8 refine kx rfl rfl rfl rfl ?_
   refine sx rfl (pPick (t := false) (v := (vB false)) rfl ((congrArg vB (rfl : false = false))) rfl) ?_
   refine sx rfl (pAssign (v := (vB false)) rfl rfl) ?_
   refine SeqW.done fun fr160 hf161 => ?_
   have h0 : fr160 0 = (vB false) := (congrFun hf161 0).trans rfl
   clear hf161
   obtain rfl := Option.some.inj hr
   exact ⟨z, hz, st, rfl, h0, trivial⟩
 ·refine kx rfl rfl rfl hc162 ?_
  refine kx rfl rfl rfl hc162 ?_
  refine sx rfl (pPick (t := false) (v := (vB false)) rfl ((congrArg vB hc162)) rfl) ?_
  refine sx rfl (pMove (v := (vB false)) rfl rfl) ?_
  iterate 2 refine kx rfl rfl rfl rfl ?_
  refine sx rfl (pPick (t := false) (v := (vB false)) rfl ((congrArg vB (rfl : false = false))) rfl) ?_
  refine sx rfl (pMove (v := (vB false)) rfl rfl) ?_
  iterate 2 refine kx rfl rfl rfl rfl ?_
  refine sx rfl (pPick (t := false) (v := (vB false)) rfl ((congrArg vB (rfl : false = false))) rfl) ?_
  refine sx rfl (pMove (v := (vB false)) rfl rfl) ?_
  iterate 2 refine kx rfl rfl rfl rfl ?_
  refine sx rfl (pPick (t := false) (v := (vB false)) rfl ((congrArg vB (rfl : false = false))) rfl) ?_
  refine sx rfl (pMove (v := (vB false)) rfl rfl) ?_
  iterate 2 refine kx rfl rfl rfl rfl ?_
  refine sx rfl (pPick (t := false) (v := (vB false)) rfl ((congrArg vB (rfl : false = false))) rfl) ?_
  refine sx rfl (pMove (v := (vB false)) rfl rfl) ?_
  iterate 2 refine kx rfl rfl rfl rfl ?_
  refine sx rfl (pPick (t := false) (v := (vB false)) rfl ((congrArg vB (rfl : false = false))) rfl) ?_
  refine sx rfl (pMove (v := (vB false)) rfl rfl) ?_
  iterate 2 refine kx rfl rfl rfl rfl ?_
  refine sx rfl (pPick (t := false) (v := (vB false)) rfl ((congrArg vB (rfl : false = false))) rfl) ?_
  refine sx rfl (pMove (v := (vB false)) rfl rfl) ?_
  iterate 8 refine kx rfl rfl rfl rfl ?_
  refine sx rfl (pPick (t := false) (v := (vB false)) rfl ((congrArg vB (rfl : false = false))) rfl) ?_
  refine sx rfl (pAssign (v := (vB false)) rfl rfl) ?_
  refine SeqW.done fun fr163 hf164 => ?_
  have h0 : fr163 0 = (vB false) := (congrFun hf164 0).trans rfl
  clear hf164
  obtain rfl := Option.some.inj hr
  exact ⟨z, hz, st, rfl, h0, trivial⟩

theorem u_l36_sane {N : Nat}  {z0 z : Nat → Blk} {e m : Mem} {k : Option Nat} {fr : Nat → Value} (hz : Zx e.next z0 z) (st : St z e m k)  {r : Bool} (hr : l36_sane N  = some r) : W Try.prog (sub (bodyOf Try.f17) []) (fun ex fr' m' => ∃ z', Zx e.next z0 z' ∧ St z' e m' k ∧ (ex = .normal ∨ ex = .ret) ∧ fr' 0 = (vB r) ∧ True) fr m := by
 unfold l36_sane at hr
 refine W.seq (W.region ?_)
 refine sx rfl (pAssign (v := (vB false)) rfl rfl) ?_
 refine SeqW.done fun fr1 hf2 => ?_
 clear hf2
 refine thenQ.n (W.seq (W.region ?_))
 obtain ⟨y3, hy3, hr⟩ := bind_some hr
 refine SeqW.consX rfl (StepX.call (gCallee rfl rfl (args2 rfl rfl)) ((c_l36_wagon (z := z) st.fz st.dead  hy3).mono ?_))
 rintro _ m8 ⟨z4, hzx5, fz6, sm7, rfl, -⟩
 replace hz := hz.trans (Zx.here st hzx5)
 replace st := st.call hzx5 fz6 sm7 no_hq
 obtain ⟨y9, hy9, hr⟩ := bind_some hr
 refine SeqW.consX rfl (StepX.call (gCallee rfl rfl (args2 rfl rfl)) ((c_l36_wagon (z := z4) st.fz st.dead  hy9).mono ?_))
 rintro _ m14 ⟨z10, hzx11, fz12, sm13, rfl, -⟩
 replace hz := hz.trans (Zx.here st hzx11)
 replace st := st.call hzx11 fz12 sm13 no_hq
 obtain ⟨y15, hy15, hr⟩ := bind_some hr
 refine SeqW.consX rfl (StepX.call (gCallee rfl rfl (args2 rfl rfl)) ((c_l36_wagon (z := z10) st.fz st.dead  hy15).mono ?_))
 rintro _ m20 ⟨z16, hzx17, fz18, sm19, rfl, -⟩
 replace hz := hz.trans (Zx.here st hzx17)
 replace st := st.call hzx17 fz18 sm19 no_hq
 obtain ⟨y21, hy21, hr⟩ := bind_some hr
 refine SeqW.consX rfl (StepX.call (gCallee rfl rfl (args2 rfl rfl)) ((c_l36_wagon (z := z16) st.fz st.dead  hy21).mono ?_))
 rintro _ m26 ⟨z22, hzx23, fz24, sm25, rfl, -⟩
 replace hz := hz.trans (Zx.here st hzx23)
 replace st := st.call hzx23 fz24 sm25 no_hq
 refine SeqW.consX rfl (kBuild (T := TWagon) rfl Try.underlying24 Try.type36 rfl rfl rfl rfl ([y3, y9, y15, y21] : List Wagon) [[(str y3.number), (vI y3.length), (vI y3.axles), (vI y3.mass), (vI y3.brake), (vI y3.goods), (vB y3.gentle), (str y3.dest)], [(str y9.number), (vI y9.length), (vI y9.axles), (vI y9.mass), (vI y9.brake), (vI y9.goods), (vB y9.gentle), (str y9.dest)], [(str y15.number), (vI y15.length), (vI y15.axles), (vI y15.mass), (vI y15.brake), (vI y15.goods), (vB y15.gentle), (str y15.dest)], [(str y21.number), (vI y21.length), (vI y21.axles), (vI y21.mass), (vI y21.brake), (vI y21.goods), (vB y21.gentle), (str y21.dest)]] rfl rfl rfl (BuildOk.mk (w := (Value.agg [(str y3.number), (vI y3.length), (vI y3.axles), (vI y3.mass), (vI y3.brake), (vI y3.goods), (vB y3.gentle), (str y3.dest)].toArray)) rfl rfl rfl rfl (BuildOk.mk (w := (Value.agg [(str y9.number), (vI y9.length), (vI y9.axles), (vI y9.mass), (vI y9.brake), (vI y9.goods), (vB y9.gentle), (str y9.dest)].toArray)) rfl rfl rfl rfl (BuildOk.mk (w := (Value.agg [(str y15.number), (vI y15.length), (vI y15.axles), (vI y15.mass), (vI y15.brake), (vI y15.goods), (vB y15.gentle), (str y15.dest)].toArray)) rfl rfl rfl rfl (BuildOk.mk (w := (Value.agg [(str y21.number), (vI y21.length), (vI y21.axles), (vI y21.mass), (vI y21.brake), (vI y21.goods), (vB y21.gentle), (str y21.dest)].toArray)) rfl rfl rfl rfl trivial)))) st ?_)
 intro V27 m28 st O29 sm30 hap31
 refine sx rfl (pAssign (v := V27) rfl rfl) ?_
 refine SeqW.done fun fr33 hf34 => ?_
 have h1 : fr33 1 = V27 := (congrFun hf34 1).trans rfl
 clear hf34
 refine thenQ.n (W.seq (W.region ?_))
 refine SeqW.consX rfl (kBuildS [(0, (vI 5)), (1, (vI 5)), (2, (vI 1)), (3, (vI 3)), (4, (vI 1))] [(vI 5), (vI 5), (vI 1), (vI 3), (vI 1)] rfl Try.underlying32 Try.type32 rfl rfl (places32 Try.underlying32) rfl (rfl) rfl ?_)
 refine SeqW.consX rfl (kBuildS [(0, (vI 9)), (1, (vI 5)), (2, (vI 1)), (3, (vI 3)), (4, (vI 2))] [(vI 9), (vI 5), (vI 1), (vI 3), (vI 2)] rfl Try.underlying32 Try.type32 rfl rfl (places32 Try.underlying32) rfl (rfl) rfl ?_)
 refine SeqW.consX rfl (kBuild (T := TRule) rfl Try.underlying23 Try.type32 rfl rfl rfl rfl ([(Rule.mk 5 5 1 3 1), (Rule.mk 9 5 1 3 2)] : List Rule) [[(vI 5), (vI 5), (vI 1), (vI 3), (vI 1)], [(vI 9), (vI 5), (vI 1), (vI 3), (vI 2)]] rfl rfl rfl (BuildOk.mk (w := (Value.agg [(vI 5), (vI 5), (vI 1), (vI 3), (vI 1)].toArray)) rfl rfl rfl rfl (BuildOk.mk (w := (Value.agg [(vI 9), (vI 5), (vI 1), (vI 3), (vI 2)].toArray)) rfl rfl rfl rfl trivial)) st ?_)
 intro V35 m36 st O37 sm38 hap39
 have A41 := hap39 _ O29.lt
 replace O29 := O29.same sm38 Ap.none'
 refine sx rfl (pAssign (v := V35) rfl rfl) ?_
 refine SeqW.done fun fr42 hf43 => ?_
 have h1 := (congrFun hf43 1).trans h1
 have h2 : fr42 2 = V35 := (congrFun hf43 2).trans rfl
 clear hf43
 refine thenQ.n (W.seq (W.region ?_))
 refine sx rfl (pMove (v := V35) rfl h2) ?_
 refine sx rfl (pMove (v := V27) rfl h1) ?_
 obtain ⟨z44, hz45, st48, Q46, hl47⟩ := O37.freeze st
 have O49 := O29.zle hz45.le (hl47 _ A41)
 obtain ⟨z50, hz51, st54, Q52, hl53⟩ := O49.freeze st48
 have Q55 := Q46.mono hz51.le
 obtain ⟨y56, hy56, hr⟩ := bind_some hr
 refine SeqW.consX rfl (StepX.call (gCallee rfl rfl (args3 rfl rfl rfl)) ((c_rulebook_Check (z := z50) st54.fz st.dead Q55 Q52 (SlR.nil (T := (TInt 3 .i64))) hy56).mono ?_))
 rintro _ _ ⟨rfl, rfl⟩
 refine sx rfl (pMove (v := (Value.tuple [(vI y56.1), (vI y56.2.1), (vI y56.2.2)].toArray)) rfl rfl) ?_
 refine sx rfl (pExtract (vs := [(vI y56.1), (vI y56.2.1), (vI y56.2.2)]) (v := (vI y56.1)) rfl rfl rfl) ?_
 refine sx rfl (pExtract (vs := [(vI y56.1), (vI y56.2.1), (vI y56.2.2)]) (v := (vI y56.2.1)) rfl rfl rfl) ?_
 refine sx rfl (pExtract (vs := [(vI y56.1), (vI y56.2.1), (vI y56.2.2)]) (v := (vI y56.2.2)) rfl rfl rfl) ?_
 refine sx rfl (pAssign (v := (vI y56.1)) rfl rfl) ?_
 refine sx rfl (pAssign (v := (vI y56.2.1)) rfl rfl) ?_
 refine sx rfl (pAssign (v := (vI y56.2.2)) rfl rfl) ?_
 refine SeqW.done fun fr57 hf58 => ?_
 have h1 := (congrFun hf58 1).trans h1
 have h2 := (congrFun hf58 2).trans h2
 have h3 : fr57 3 = (vI y56.1) := (congrFun hf58 3).trans rfl
 have h4 : fr57 4 = (vI y56.2.1) := (congrFun hf58 4).trans rfl
 have h5 : fr57 5 = (vI y56.2.2) := (congrFun hf58 5).trans rfl
 clear hf58
 refine thenQ.n (W.seq (W.region ?_))
 refine sx rfl (pMove (v := V35) rfl h2) ?_
 obtain ⟨y59, hy59, hr⟩ := bind_some hr
 refine SeqW.consX rfl (kCutV (T := TRule) (xs := ([(Rule.mk 5 5 1 3 1), (Rule.mk 9 5 1 3 2)] : List Rule)) (a := 0) (b := 1) rfl Try.underlying23 Try.type32 rfl rfl rfl ⟨_, rfl⟩ O37.ow.vw hy59 ?_)
 intro V60 _ hI62 Q61
 refine sx rfl (pMove (v := V27) rfl h1) ?_
 obtain ⟨z64, hz65, st68, Q66, hl67, hw69⟩ := O37.freezeV st
 have O70 := O29.zle hz65.le (hl67 _ A41)
 have Q71 := hw69 Q61
 obtain ⟨z72, hz73, st76, Q74, hl75⟩ := O70.freeze st68
 have Q77 := Q66.mono hz73.le
 have Q78 := Q71.mono hz73.le
 obtain ⟨y79, hy79, hr⟩ := bind_some hr
 refine SeqW.consX rfl (StepX.call (gCallee rfl rfl (args3 rfl rfl rfl)) ((c_rulebook_Check (z := z72) st76.fz st.dead Q78 Q74 (SlR.nil (T := (TInt 3 .i64))) hy79).mono ?_))
 rintro _ _ ⟨rfl, rfl⟩
 refine sx rfl (pMove (v := (Value.tuple [(vI y79.1), (vI y79.2.1), (vI y79.2.2)].toArray)) rfl rfl) ?_
 refine sx rfl (pExtract (vs := [(vI y79.1), (vI y79.2.1), (vI y79.2.2)]) (v := (vI y79.1)) rfl rfl rfl) ?_
 refine sx rfl (pExtract (vs := [(vI y79.1), (vI y79.2.1), (vI y79.2.2)]) (v := (vI y79.2.1)) rfl rfl rfl) ?_
 refine sx rfl (pExtract (vs := [(vI y79.1), (vI y79.2.1), (vI y79.2.2)]) (v := (vI y79.2.2)) rfl rfl rfl) ?_
 refine sx rfl (pAssign (v := (vI y79.1)) rfl rfl) ?_
 refine sx rfl (pAssign (v := (vI y79.2.1)) rfl rfl) ?_
 refine sx rfl (pAssign (v := (vI y79.2.2)) rfl rfl) ?_
 refine SeqW.done fun fr80 hf81 => ?_
 have h1 := (congrFun hf81 1).trans h1
 have h2 := (congrFun hf81 2).trans h2
 have h3 := (congrFun hf81 3).trans h3
 have h4 := (congrFun hf81 4).trans h4
 have h5 := (congrFun hf81 5).trans h5
 have h6 : fr80 6 = (vI y79.1) := (congrFun hf81 6).trans rfl
 have h7 : fr80 7 = (vI y79.2.1) := (congrFun hf81 7).trans rfl
 have h8 : fr80 8 = (vI y79.2.2) := (congrFun hf81 8).trans rfl
 clear hf81
 refine thenQ.n (W.seq (W.region ?_))
 refine sx rfl (pMove (v := V27) rfl h1) ?_
 obtain ⟨y82, hy82, hr⟩ := bind_some hr
 refine SeqW.consX rfl (kIdxO (T := TWagon) (xs := ([y3, y9, y15, y21] : List Wagon)) (n := 0) rfl Try.underlying24 Try.type36 rfl rfl rfl O29 hy82 ?_)
 intro B83 l84 c85 cs86 hv87 hd88 hg89 hc90
 have hd880 := hd88
 obtain rfl := hd880
 refine SeqW.consX rfl (kField rfl Try.underlying36 rfl Try.type3 rfl rfl rfl ?_)
 refine SeqW.consX rfl (kLoad (v := (vI y82.axles)) rfl Try.underlying3 rfl rfl (hc90 2 _ rfl) ?_)
 refine SeqW.consX rfl (kBuildS [(0, (vI 1)), (1, (vI 2)), (2, (vI y82.axles))] [(vI 1), (vI 2), (vI y82.axles), (vI 0), (vI 0)] rfl Try.underlying32 Try.type32 rfl rfl (places32 Try.underlying32) rfl (rfl) rfl ?_)
 refine sx rfl (pMove (v := V27) rfl h1) ?_
 obtain ⟨z91, hz92, st95, Q93, hl94⟩ := O29.freeze st
 have O96 := O37.zle hz92.le (hl94 _ (Ap.symm A41))
 obtain ⟨y97, hy97, hr⟩ := bind_some hr
 refine SeqW.consX rfl (StepX.call (gCallee rfl rfl (args3 rfl rfl rfl)) ((c_rulebook_Place (x0 := (Rule.mk 1 2 y82.axles 0 0)) (z := z91) st95.fz st.dead Q93 (SlR.nil (T := (TInt 3 .i64))) hy97).mono ?_))
 rintro _ _ ⟨rfl, rfl⟩
 refine sx rfl (pMove (v := (Value.tuple [(vI y97.1), (vI y97.2)].toArray)) rfl rfl) ?_
 refine sx rfl (pExtract (vs := [(vI y97.1), (vI y97.2)]) (v := (vI y97.1)) rfl rfl rfl) ?_
 refine sx rfl (pExtract (vs := [(vI y97.1), (vI y97.2)]) (v := (vI y97.2)) rfl rfl rfl) ?_
 refine sx rfl (pAssign (v := (vI y97.1)) rfl rfl) ?_
 refine sx rfl (pAssign (v := (vI y97.2)) rfl rfl) ?_
 refine SeqW.done fun fr98 hf99 => ?_
 have h2 := (congrFun hf99 2).trans h2
 have h3 := (congrFun hf99 3).trans h3
 have h4 := (congrFun hf99 4).trans h4
 have h5 := (congrFun hf99 5).trans h5
 have h6 := (congrFun hf99 6).trans h6
 have h7 := (congrFun hf99 7).trans h7
 have h8 := (congrFun hf99 8).trans h8
 have h9 : fr98 9 = (vI y97.1) := (congrFun hf99 9).trans rfl
 have h10 : fr98 10 = (vI y97.2) := (congrFun hf99 10).trans rfl
 clear hf99
 refine thenQ.n (W.seq ?_)
 obtain ⟨y165, hy165, hr⟩ := bind_some hr
 refine W.keep (u_l36_sane_0 (Zx.refl _) st h2 O37 h3 h4 h5 h6 h7 h8 h9 h10 hy165) ?_
 rintro ex171 fr166 m167 hk169 ⟨z168, hz170, st, rfl, h0, -⟩
 replace hz := hz.trans hz170
 clear hk169
 refine thenQ.n ?_
 refine W.ret ?_
 obtain rfl := Option.some.inj hr
 exact ⟨z168, hz, st, .inr rfl, h0, trivial⟩

theorem c_l36_sane {N : Nat} {z : Nat → Blk} {m : Mem} (fz : Fz z m) (hd : ∀ b, m.next ≤ b → m.blk b = .dead)  {r : Bool} (hr : l36_sane N  = some r) : CallW Try.prog 17 #[] m fun v m' => v = (vB r) ∧ m' = m := by
 refine CallW.flat Try.func17 rfl (by kernel_rfl) (Nat.le_of_ble_eq_true rfl) rfl (z := z) (fun fr hf => ?_)
 refine (u_l36_sane (k := none) (Zx.refl _) (St.start fz hd)  hr).mono ?_
 rintro ex fr' m' ⟨z', hz, st, he, h0, -⟩
 exact ⟨he, z', st, [(vB r)], ⟨h0.symm, trivial⟩, .inl rfl, rfl⟩

/-! ### humpyard/yardgen.Place -/

theorem u_yardgen_Place_0 {N : Nat}  {z0 z : Nat → Blk} {e m : Mem} {k : Option Nat} {fr : Nat → Value} {x0 : Int} {x1 : Int} {x11 : Bool} (hz : Zx e.next z0 z) (st : St z e m k) (h0 : fr 0 = (vI x0)) (h1 : fr 1 = (vI x1)) (h11 : fr 11 = (vB x11)) {r : Int} (hr : yardgen_Place_0 N x0 x1 x11 = some r) : W Try.prog (sub (bodyOf Try.f20) [1, 1, 1, 0, 1]) (fun ex fr' m' => ∃ z', Zx e.next z0 z' ∧ St z' e m' k ∧ ex = AExit.normal ∧ fr' 0 = (vI r) ∧ True) fr m := by
 unfold yardgen_Place_0 at hr
 rcases if_some hr with ⟨hc14, hr⟩ | ⟨hc18, hr⟩
 ·refine W.condT h11 hc14 (W.region ?_)
  refine sx rfl (pMove (v := (vI x0)) rfl h0) ?_
  refine sx rfl (pMove (v := (vI x1)) rfl h1) ?_
  refine sx rfl (pAdd (k := .i64) (a := x0) (b := x1) rfl rfl rfl) ?_
  obtain ⟨y15, hy15, hr⟩ := lt_some hr
  refine sx rfl (pAssign rfl (congrArg (Value.int .i64) hy15)) ?_
  refine SeqW.done fun fr16 hf17 => ?_
  have h0 : fr16 0 = (vI y15) := (congrFun hf17 0).trans rfl
  clear hf17
  obtain rfl := Option.some.inj hr
  exact ⟨z, hz, st, rfl, h0, trivial⟩
 ·refine W.condF h11 hc18 (W.skip ?_)
  obtain rfl := Option.some.inj hr
  exact ⟨z, hz, st, rfl, h0, trivial⟩

theorem u_yardgen_Place {N : Nat}  {z0 z : Nat → Blk} {e m : Mem} {k : Option Nat} {fr : Nat → Value} {x0 : Int} {x1 : Int} (hz : Zx e.next z0 z) (st : St z e m k) (h0 : fr 0 = (vI x0)) (h1 : fr 1 = (vI x1)) {r : Int} (hr : yardgen_Place N x0 x1 = some r) : W Try.prog (sub (bodyOf Try.f20) []) (fun ex fr' m' => ∃ z', Zx e.next z0 z' ∧ St z' e m' k ∧ (ex = .normal ∨ ex = .ret) ∧ fr' 4 = (vI r) ∧ True) fr m := by
 unfold yardgen_Place at hr
 refine W.seq (W.region ?_)
 refine sx rfl (pAssign (v := (vI 0)) rfl rfl) ?_
 refine SeqW.done fun fr1 hf2 => ?_
 have h0 := (congrFun hf2 0).trans h0
 have h1 := (congrFun hf2 1).trans h1
 clear hf2
 refine thenQ.n (W.seq ?_)
 refine W.seq (W.region ?_)
 refine sx rfl (pMove (v := (vI x1)) rfl h1) ?_
 refine sx rfl (pLss (k := .i64) (a := x1) (b := 1) rfl rfl rfl) ?_
 refine SeqW.done fun fr3 hf4 => ?_
 have h0 := (congrFun hf4 0).trans h0
 have h1 := (congrFun hf4 1).trans h1
 have h6 : fr3 6 = (vB (decide (x1 < 1))) := (congrFun hf4 6).trans rfl
 clear hf4
 refine thenQ.n ?_
 rcases if_some hr with ⟨hc5, hr⟩ | ⟨hc8, hr⟩
 ·refine W.condT h6 hc5 (W.seq (W.region ?_))
  refine sx rfl (pAssign (v := (vI 0)) rfl rfl) ?_
  refine SeqW.done fun fr6 hf7 => ?_
  have h4 : fr6 4 = (vI 0) := (congrFun hf7 4).trans rfl
  clear hf7
  refine thenQ.n ?_
  refine W.ret ?_
  refine thenQ.r ?_
  obtain rfl := Option.some.inj hr
  exact ⟨z, hz, st, .inr rfl, h4, trivial⟩
 ·refine W.condF h6 hc8 (W.skip ?_)
  refine thenQ.n (W.seq (W.region ?_))
  refine sx rfl (pMove (v := (vI x0)) rfl h0) ?_
  refine sx rfl (pMove (v := (vI x1)) rfl h1) ?_
  obtain ⟨y9, hy9, hr⟩ := bind_some hr
  refine SeqW.consX rfl (kRem (k1 := .i64) (a := x0) (b := x1) rfl rfl rfl hy9 ?_)
  refine sx rfl (pAssign (v := (vI y9)) rfl rfl) ?_
  refine SeqW.done fun fr10 hf11 => ?_
  have h0 : fr10 0 = (vI y9) := (congrFun hf11 0).trans rfl
  have h1 := (congrFun hf11 1).trans h1
  clear hf11
  refine thenQ.n (W.seq ?_)
  refine W.seq (W.region ?_)
  refine sx rfl (pMove (v := (vI y9)) rfl h0) ?_
  refine sx rfl (pLss (k := .i64) (a := y9) (b := 0) rfl rfl rfl) ?_
  refine SeqW.done fun fr12 hf13 => ?_
  have h0 := (congrFun hf13 0).trans h0
  have h1 := (congrFun hf13 1).trans h1
  have h11 : fr12 11 = (vB (decide (y9 < 0))) := (congrFun hf13 11).trans rfl
  clear hf13
  refine thenQ.n ?_
  obtain ⟨y19, hy19, hr⟩ := bind_some hr
  refine W.keep (u_yardgen_Place_0 (Zx.refl _) st h0 h1 h11 hy19) ?_
  rintro ex25 fr20 m21 hk23 ⟨z22, hz24, st, rfl, h0, -⟩
  replace hz := hz.trans hz24
  clear hk23
  refine thenQ.n (W.seq (W.region ?_))
  refine sx rfl (pMove (v := (vI y19)) rfl h0) ?_
  refine sx rfl (pAssign (v := (vI y19)) rfl rfl) ?_
  refine SeqW.done fun fr26 hf27 => ?_
  have h4 : fr26 4 = (vI y19) := (congrFun hf27 4).trans rfl
  clear hf27
  refine thenQ.n ?_
  refine W.ret ?_
  obtain rfl := Option.some.inj hr
  exact ⟨z22, hz, st, .inr rfl, h4, trivial⟩

theorem c_yardgen_Place {N : Nat} {z : Nat → Blk} {m : Mem} {x0 : Int} {x1 : Int} (fz : Fz z m) (hd : ∀ b, m.next ≤ b → m.blk b = .dead)  {r : Int} (hr : yardgen_Place N x0 x1 = some r) : CallW Try.prog 20 #[(vI x0), (vI x1)] m fun v m' => v = (vI r) ∧ m' = m := by
 refine CallW.flat Try.func20 rfl (by kernel_rfl) (Nat.le_of_ble_eq_true rfl) rfl (z := z) (fun fr hf => ?_)
 have h0 : fr 0 = _ := hf 0 _ rfl
 have h1 : fr 1 = _ := hf 1 _ rfl
 refine (u_yardgen_Place (k := none) (Zx.refl _) (St.start fz hd) h0 h1 hr).mono ?_
 rintro ex fr' m' ⟨z', hz, st, he, h4, -⟩
 exact ⟨he, z', st, [(vI r)], ⟨h4.symm, trivial⟩, .inl rfl, rfl⟩

/-! ### humpyard/humpyardlaw36.RulebookTails -/

theorem u_l36_RulebookTails_1 {N : Nat}  {z0 z : Nat → Blk} {e m : Mem} {k : Option Nat} {fr : Nat → Value} {x1 : Int} {x7 : List Int} {x11 : List Int} {x12 : Int} {x6 : List Wagon} {v6 : Value} {v7 : Value} {x8 : Rule} {b8 : Nat} {v11 : Value} (hz : Zx e.next z0 z) (st : St z e m k) (h1 : fr 1 = (vI x1)) (h6 : fr 6 = v6) (o6 : OwF TWagon z e m k x6 v6) (h7 : fr 7 = v7) (o7 : OwF (TInt 3 .i64) z e m k x7 v7) (h8 : fr 8 = (vP b8)) (bx8 : Bx z e m k b8 [(vI x8.number), (vI x8.kind), (vI x8.a), (vI x8.b), (vI x8.c)] 32) (h11 : fr 11 = v11) (o11 : OwF (TInt 3 .i64) z e m k x11 v11) (h12 : fr 12 = (vI x12)) (ao6_o7 : Ap (blkOf v6) (blkOf v7)) (ao6_o8 : Ap (blkOf v6) (some b8)) (ao7_o8 : Ap (blkOf v7) (some b8)) (ao6_o11 : Ap (blkOf v6) (blkOf v11)) (ao7_o11 : Ap (blkOf v7) (blkOf v11)) (ao8_o11 : Ap (some b8) (blkOf v11)) {r : List Int} (hr : l36_RulebookTails_1 N x1 x7 x11 x12 = some r) : W Try.prog (sub (bodyOf Try.f8) [1, 1, 1, 1, 1, 1, 1, 1, 0, 1, 0, 0, 1, 0]) (fun ex fr' m' => ∃ z', Zx e.next z0 z' ∧ St z' e m' k ∧ ex = AExit.normal ∧ ∃ (w11 : Value), fr' 11 = w11 ∧ OwF (TInt 3 .i64) z' e m' k r w11 ∧ OwF TWagon z' e m' k x6 v6 ∧ OwF (TInt 3 .i64) z' e m' k x7 v7 ∧ Bx z' e m' k b8 [(vI x8.number), (vI x8.kind), (vI x8.a), (vI x8.b), (vI x8.c)] 32 ∧ Ap (blkOf w11) (blkOf v6) ∧ Ap (blkOf w11) (blkOf v7) ∧ Ap (blkOf v6) (blkOf v7) ∧ Ap (blkOf w11) (some b8) ∧ Ap (blkOf v6) (some b8) ∧ Ap (blkOf v7) (some b8) ∧ True) fr m := by
 unfold l36_RulebookTails_1 at hr
 refine W.block ?_
 refine W.seq (W.region ?_)
 refine sx rfl (pMove (v := v7) rfl h7) ?_
 refine sx rfl (pMove (v := (vI x12)) rfl h12) ?_
 obtain ⟨y110, hy110, hr⟩ := bind_some hr
 refine SeqW.consX rfl (kIdxO (T := (TInt 3 .i64)) (xs := x7) (n := x12) rfl Try.underlying22 Try.type3 rfl rfl rfl o7 hy110 ?_)
 intro B111 l112 c113 cs114 hv115 hd116 hg117 hc118
 have hd1160 := hd116
 obtain rfl := hd1160
 refine SeqW.consX rfl (kLoad (v := (vI y110)) rfl Try.underlying3 rfl rfl (hc118 0 _ rfl) ?_)
 refine sx rfl (pMove (v := (vI x1)) rfl h1) ?_
 refine sx rfl (pGeq (k := .i64) (a := y110) (b := x1) rfl rfl rfl) ?_
 refine SeqW.done fun fr119 hf120 => ?_
 have h1 := (congrFun hf120 1).trans h1
 have h6 := (congrFun hf120 6).trans h6
 have h7 := (congrFun hf120 7).trans h7
 have h8 := (congrFun hf120 8).trans h8
 have h11 := (congrFun hf120 11).trans h11
 have h12 := (congrFun hf120 12).trans h12
 have h56 : fr119 56 = (vB (decide (x1 ≤ y110))) := (congrFun hf120 56).trans rfl
 clear hf120
 refine thenQ.n ?_
 rcases if_some hr with ⟨hc121, hr⟩ | ⟨hc154, hr⟩
 ·refine W.condT h56 hc121 (W.region ?_)
  refine sx rfl (pMove (v := v11) rfl h11) ?_
  refine sx rfl (pMove (v := v7) rfl h7) ?_
  refine sx rfl (pMove (v := (vI x12)) rfl h12) ?_
  obtain ⟨y122, hy122, hr⟩ := bind_some hr
  refine SeqW.consX rfl (kIdxO (T := (TInt 3 .i64)) (xs := x7) (n := x12) rfl Try.underlying22 Try.type3 rfl rfl rfl o7 hy122 ?_)
  intro B123 l124 c125 cs126 hv127 hd128 hg129 hc130
  have hd1280 := hd128
  obtain rfl := hd1280
  refine SeqW.consX rfl (kLoad (v := (vI y122)) rfl Try.underlying3 rfl rfl (hc130 0 _ rfl) ?_)
  refine sx rfl (pMove (v := (vI x1)) rfl h1) ?_
  refine sx rfl (pSub (k := .i64) (a := y122) (b := x1) rfl rfl rfl) ?_
  refine SeqW.consX rfl (kBuild (T := (TInt 3 .i64)) rfl Try.underlying22 Try.type3 rfl rfl rfl rfl ([(IntKind.wrap .i64 (y122 - x1))] : List Int) [[(vI (IntKind.wrap .i64 (y122 - x1)))]] rfl rfl rfl (BuildOk.mk (w := (vI (IntKind.wrap .i64 (y122 - x1)))) rfl rfl rfl rfl trivial) st ?_)
  intro V131 m132 st O133 sm134 hap135
  have A137 := hap135 _ o6.lt
  have A138 := hap135 _ o7.lt
  have A139 := hap135 _ bx8.lt'
  have A140 := hap135 _ o11.lt
  replace o6 := o6.same sm134 Ap.none'
  replace o7 := o7.same sm134 Ap.none'
  replace bx8 := bx8.same sm134 Ap.none'
  replace o11 := o11.same sm134 Ap.none'
  obtain ⟨y141, hy141, hr⟩ := bind_some hr
  refine SeqW.consX rfl (kAppend (T := (TInt 3 .i64)) (xs := x11) (ys := ([(IntKind.wrap .i64 (y122 - x1))] : List Int)) rfl Try.underlying22 Try.type3 rfl rfl rfl rfl rfl rfl (.inl ⟨_, Try.underlying22⟩) rfl o11 rfl O133.ow.src st hy141 ?_)
  intro V142 m143 st O144 sm145 hap146
  have A148 := hap146 _ o6.lt ao6_o11
  have A149 := hap146 _ o7.lt ao7_o11
  have A150 := hap146 _ bx8.lt' ao8_o11
  have A151 := hap146 _ O133.lt (Ap.symm A140)
  replace o6 := o6.same sm145 ao6_o11
  replace o7 := o7.same sm145 ao7_o11
  replace bx8 := bx8.same sm145 ao8_o11
  replace O133 := O133.same sm145 (Ap.symm A140)
  refine sx rfl (pAssign (v := V142) rfl rfl) ?_
  refine SeqW.done fun fr152 hf153 => ?_
  have h1 := (congrFun hf153 1).trans h1
  have h6 := (congrFun hf153 6).trans h6
  have h7 := (congrFun hf153 7).trans h7
  have h8 := (congrFun hf153 8).trans h8
  have h11 : fr152 11 = V142 := (congrFun hf153 11).trans rfl
  have h12 := (congrFun hf153 12).trans h12
  clear hf153
  refine blockQ.n ?_
  obtain rfl := Option.some.inj hr
  exact ⟨z, hz, st, rfl, V142, h11, O144, o6, o7, bx8, (Ap.symm A148), (Ap.symm A149), ao6_o7, (Ap.symm A150), ao6_o8, ao7_o8, trivial⟩
 ·refine W.condF h56 hc154 (W.skip ?_)
  refine blockQ.n ?_
  obtain rfl := Option.some.inj hr
  exact ⟨z, hz, st, rfl, v11, h11, o11, o6, o7, bx8, (Ap.symm ao6_o11), (Ap.symm ao7_o11), ao6_o7, (Ap.symm ao8_o11), ao6_o8, ao7_o8, trivial⟩

theorem u_l36_RulebookTails_0 : ∀ (n : Nat) {N : Nat}  {z0 z : Nat → Blk} {e m : Mem} {k : Option Nat} {fr : Nat → Value} {x1 : Int} {x7 : List Int} {x11 : List Int} {x12 : Int} {x6 : List Wagon} {v6 : Value} {v7 : Value} {x8 : Rule} {b8 : Nat} {v11 : Value} (hz : Zx e.next z0 z) (st : St z e m k) (h1 : fr 1 = (vI x1)) (h6 : fr 6 = v6) (o6 : OwF TWagon z e m k x6 v6) (h7 : fr 7 = v7) (o7 : OwF (TInt 3 .i64) z e m k x7 v7) (h8 : fr 8 = (vP b8)) (bx8 : Bx z e m k b8 [(vI x8.number), (vI x8.kind), (vI x8.a), (vI x8.b), (vI x8.c)] 32) (h11 : fr 11 = v11) (o11 : OwF (TInt 3 .i64) z e m k x11 v11) (h12 : fr 12 = (vI x12)) (ao6_o7 : Ap (blkOf v6) (blkOf v7)) (ao6_o8 : Ap (blkOf v6) (some b8)) (ao7_o8 : Ap (blkOf v7) (some b8)) (ao6_o11 : Ap (blkOf v6) (blkOf v11)) (ao7_o11 : Ap (blkOf v7) (blkOf v11)) (ao8_o11 : Ap (some b8) (blkOf v11)) {r : List Int} (hr : l36_RulebookTails_0 N x1 x7 n x11 x12 = some r), W Try.prog (sub (bodyOf Try.f8) [1, 1, 1, 1, 1, 1, 1, 1, 0, 1, 0]) (fun ex fr' m' => ∃ z', Zx e.next z0 z' ∧ St z' e m' k ∧ ex = AExit.exit 0 ∧ ∃ (w11 : Value), fr' 11 = w11 ∧ OwF (TInt 3 .i64) z' e m' k r w11 ∧ OwF TWagon z' e m' k x6 v6 ∧ Bx z' e m' k b8 [(vI x8.number), (vI x8.kind), (vI x8.a), (vI x8.b), (vI x8.c)] 32 ∧ Ap (blkOf w11) (blkOf v6) ∧ Ap (blkOf w11) (some b8) ∧ Ap (blkOf v6) (some b8) ∧ True) fr m := by
 intro n
 induction n with
 | zero => intro N z0 z e m k fr x1 x7 x11 x12 x6 v6 v7 x8 b8 v11 hz st h1 h6 o6 h7 o7 h8 bx8 h11 o11 h12 ao6_o7 ao6_o8 ao7_o8 ao6_o11 ao7_o11 ao8_o11 r hr; cases (show (none : Option _) = some r from hr)
 | succ n ih =>
  intro N z0 z e m k fr x1 x7 x11 x12 x6 v6 v7 x8 b8 v11 hz st h1 h6 o6 h7 o7 h8 bx8 h11 o11 h12 ao6_o7 ao6_o8 ao7_o8 ao6_o11 ao7_o11 ao8_o11 r hr
  unfold l36_RulebookTails_0 at hr
  refine W.loop1 ?_
  refine W.seq (W.seq (W.region ?_))
  refine sx rfl (pMove (v := (vI x12)) rfl h12) ?_
  refine sx rfl (pMove (v := v7) rfl h7) ?_
  refine sx rfl (pLenO (xs := x7) rfl Try.underlying22 rfl o7.ow) ?_
  refine sx rfl (pLss (k := .i64) (a := x12) (b := (x7.length : Int)) rfl rfl rfl) ?_
  refine SeqW.done fun fr107 hf108 => ?_
  have h1 := (congrFun hf108 1).trans h1
  have h6 := (congrFun hf108 6).trans h6
  have h7 := (congrFun hf108 7).trans h7
  have h8 := (congrFun hf108 8).trans h8
  have h11 := (congrFun hf108 11).trans h11
  have h12 := (congrFun hf108 12).trans h12
  have h48 : fr107 48 = (vB (decide (x12 < (x7.length : Int)))) := (congrFun hf108 48).trans rfl
  clear hf108
  refine thenQ.n ?_
  rcases if_some hr with ⟨hc109, hr⟩ | ⟨hc177, hr⟩
  ·refine W.condT h48 hc109 (W.skip ?_)
   refine thenQ.n (W.seq ?_)
   obtain ⟨y155, hy155, hr⟩ := bind_some hr
   refine W.keep (u_l36_RulebookTails_1 (x8 := x8) (Zx.refl _) st h1 h6 o6 h7 o7 h8 bx8 h11 o11 h12 ao6_o7 ao6_o8 ao7_o8 ao6_o11 ao7_o11 ao8_o11 hy155) ?_
   rintro ex161 fr156 m157 hk159 ⟨z158, hz160, st, rfl, w162, h11, O164, O165, O166, O167, A168, A169, A170, A171, A172, A173, -⟩
   have h1 := (hk159 1 rfl).trans h1
   have h6 := (hk159 6 rfl).trans h6
   have h7 := (hk159 7 rfl).trans h7
   have h8 := (hk159 8 rfl).trans h8
   have h12 := (hk159 12 rfl).trans h12
   replace hz := hz.trans hz160
   clear hk159
   refine thenQ.n (W.region ?_)
   refine sx rfl (pMove (v := (vI x12)) rfl h12) ?_
   refine sx rfl (pAdd (k := .i64) (a := x12) (b := 1) rfl rfl rfl) ?_
   obtain ⟨y174, hy174, hr⟩ := lt_some hr
   refine sx rfl (pAssign rfl (congrArg (Value.int .i64) hy174)) ?_
   refine SeqW.done fun fr175 hf176 => ?_
   have h1 := (congrFun hf176 1).trans h1
   have h6 := (congrFun hf176 6).trans h6
   have h7 := (congrFun hf176 7).trans h7
   have h8 := (congrFun hf176 8).trans h8
   have h11 := (congrFun hf176 11).trans h11
   have h12 : fr175 12 = (vI y174) := (congrFun hf176 12).trans rfl
   clear hf176
   refine thenQ.n ?_
   exact ih (x8 := x8) hz st h1 h6 O165 h7 O166 h8 O167 h11 O164 h12 A170 A172 A173 (Ap.symm A168) (Ap.symm A169) (Ap.symm A171) hr
  ·refine W.condF h48 hc177 ?_
   refine W.exit ?_
   refine thenQ.x ?_
   refine thenQ.x ?_
   obtain rfl := Option.some.inj hr
   exact ⟨z, hz, st, rfl, v11, h11, o11, o6, bx8, (Ap.symm ao6_o11), (Ap.symm ao8_o11), ao6_o8, trivial⟩

theorem u_l36_RulebookTails_2 {N : Nat}  {z0 z : Nat → Blk} {e m : Mem} {k : Option Nat} {fr : Nat → Value} {x1 : Int} {x6 : List Wagon} {x9 : Int} {x10 : Int} {x13 : Int} {x14 : Int} {v6 : Value} {x8 : Rule} {b8 : Nat} (hz : Zx e.next z0 z) (st : St z e m k) (h1 : fr 1 = (vI x1)) (h6 : fr 6 = v6) (o6 : OwF TWagon z e m k x6 v6) (h8 : fr 8 = (vP b8)) (bx8 : Bx z e m k b8 [(vI x8.number), (vI x8.kind), (vI x8.a), (vI x8.b), (vI x8.c)] 32) (h9 : fr 9 = (vI x9)) (h10 : fr 10 = (vI x10)) (h13 : fr 13 = (vI x13)) (h14 : fr 14 = (vI x14)) (ao6_o8 : Ap (blkOf v6) (some b8)) {r : Bool} (hr : l36_RulebookTails_2 N x1 x6 x9 x10 x13 x14 = some r) : W Try.prog (sub (bodyOf Try.f8) [1, 1, 1, 1, 1, 1, 1, 1, 1, 1, 0, 0]) (fun ex fr' m' => ∃ z', Zx e.next z0 z' ∧ St z' e m' k ∧ ex = AExit.normal ∧ fr' 105 = (vB r) ∧ OwF TWagon z' e m' k x6 v6 ∧ Bx z' e m' k b8 [(vI x8.number), (vI x8.kind), (vI x8.a), (vI x8.b), (vI x8.c)] 32 ∧ Ap (blkOf v6) (some b8) ∧ True) fr m := by
 unfold l36_RulebookTails_2 at hr
 refine W.region ?_
 refine sx rfl (pMove (v := (vI x10)) rfl h10) ?_
 refine sx rfl (pNeq (k := .i64) (a := x10) (b := 0) rfl rfl rfl) ?_
 refine sx rfl (pMove (v := (vB (x10 != 0))) rfl rfl) ?_
 rcases if_some hr with ⟨hc222, hr⟩ | ⟨hc225, hr⟩
 ·refine kx rfl rfl rfl hc222 ?_
  refine kx rfl rfl rfl hc222 ?_
  refine sx rfl (pPick (t := true) (v := (vB true)) rfl ((congrArg vB hc222)) rfl) ?_
  refine sx rfl (pMove (v := (vB true)) rfl rfl) ?_
  iterate 5 refine kx rfl rfl rfl rfl ?_
  refine sx rfl (pPick (t := true) (v := (vB true)) rfl ((congrArg vB (rfl : true = true))) rfl) ?_
  refine sx rfl (pMove (v := (vB true)) rfl rfl) ?_
  iterate 3 refine kx rfl rfl rfl rfl ?_
  refine SeqW.skipU rfl rfl rfl ?_
  refine SeqW.skipU rfl rfl rfl ?_
  refine SeqW.skipU rfl rfl rfl ?_
  refine SeqW.skipU rfl rfl rfl ?_
  refine SeqW.skipU rfl rfl rfl ?_
  refine SeqW.skipU rfl rfl rfl ?_
  refine SeqW.skipU rfl rfl rfl ?_
  refine SeqW.skipU rfl rfl rfl ?_
  refine SeqW.skipU rfl rfl rfl ?_
  refine SeqW.skipU rfl rfl rfl ?_
  refine SeqW.skipU rfl rfl rfl ?_
  refine SeqW.skipU rfl rfl rfl ?_
  refine kx rfl rfl rfl rfl ?_
  refine sx rfl (pPick (t := true) (v := (vB true)) rfl ((congrArg vB (rfl : true = true))) rfl) ?_
  refine SeqW.done fun fr223 hf224 => ?_
  have h6 := (congrFun hf224 6).trans h6
  have h8 := (congrFun hf224 8).trans h8
  have h105 : fr223 105 = (vB true) := (congrFun hf224 105).trans rfl
  clear hf224
  obtain rfl := Option.some.inj hr
  exact ⟨z, hz, st, rfl, h105, o6, bx8, ao6_o8, trivial⟩
 ·refine SeqW.consG rfl rfl rfl hc225 (StepX.pure (pMove (v := (vI x14)) rfl h14) ?_)
  refine SeqW.consG rfl rfl rfl hc225 (StepX.pure (pNeq (k := .i64) (a := x14) (b := 0) rfl rfl rfl) ?_)
  refine sx rfl (pPick (t := false) (v := (vB (x14 != 0))) rfl ((congrArg vB hc225)) rfl) ?_
  refine sx rfl (pMove (v := (vB (x14 != 0))) rfl rfl) ?_
  rcases if_some hr with ⟨hc226, hr⟩ | ⟨hc229, hr⟩
  ·refine kx rfl rfl rfl hc226 ?_
   iterate 4 refine kx rfl rfl rfl hc226 ?_
   refine sx rfl (pPick (t := true) (v := (vB true)) rfl ((congrArg vB hc226)) rfl) ?_
   refine sx rfl (pMove (v := (vB true)) rfl rfl) ?_
   iterate 3 refine kx rfl rfl rfl rfl ?_
   refine SeqW.skipU rfl rfl rfl ?_
   refine SeqW.skipU rfl rfl rfl ?_
   refine SeqW.skipU rfl rfl rfl ?_
   refine SeqW.skipU rfl rfl rfl ?_
   refine SeqW.skipU rfl rfl rfl ?_
   refine SeqW.skipU rfl rfl rfl ?_
   refine SeqW.skipU rfl rfl rfl ?_
   refine SeqW.skipU rfl rfl rfl ?_
   refine SeqW.skipU rfl rfl rfl ?_
   refine SeqW.skipU rfl rfl rfl ?_
   refine SeqW.skipU rfl rfl rfl ?_
   refine SeqW.skipU rfl rfl rfl ?_
   refine kx rfl rfl rfl rfl ?_
   refine sx rfl (pPick (t := true) (v := (vB true)) rfl ((congrArg vB (rfl : true = true))) rfl) ?_
   refine SeqW.done fun fr227 hf228 => ?_
   have h6 := (congrFun hf228 6).trans h6
   have h8 := (congrFun hf228 8).trans h8
   have h105 : fr227 105 = (vB true) := (congrFun hf228 105).trans rfl
   clear hf228
   obtain rfl := Option.some.inj hr
   exact ⟨z, hz, st, rfl, h105, o6, bx8, ao6_o8, trivial⟩
  ·refine SeqW.consG rfl rfl rfl hc229 (StepX.pure (pMove (v := (vI x9)) rfl h9) ?_)
   refine SeqW.consG rfl rfl rfl hc229 (StepX.pure (pEql (k := .i64) (a := x9) (b := (-1)) rfl rfl rfl) ?_)
   refine SeqW.consG rfl rfl rfl hc229 (StepX.pure (pMove (v := (vI x13)) rfl h13) ?_)
   refine SeqW.consG rfl rfl rfl hc229 (StepX.pure (pEql (k := .i64) (a := x13) (b := (-1)) rfl rfl rfl) ?_)
   refine SeqW.consG rfl rfl rfl hc229 (StepX.pure (pNeqB (a := (x9 == (-1))) (b := (x13 == (-1))) rfl Try.underlying4 rfl rfl) ?_)
   refine sx rfl (pPick (t := false) (v := (vB (!((x9 == (-1)) == (x13 == (-1)))))) rfl ((congrArg vB hc229)) rfl) ?_
   refine sx rfl (pMove (v := (vB (!((x9 == (-1)) == (x13 == (-1)))))) rfl rfl) ?_
   rcases if_some hr with ⟨hc230, hr⟩ | ⟨hc233, hr⟩
   ·refine kx rfl rfl rfl hc230 ?_
    iterate 2 refine kx rfl rfl rfl hc230 ?_
    refine SeqW.skipU rfl rfl rfl ?_
    refine SeqW.skipU rfl rfl rfl ?_
    refine SeqW.skipU rfl rfl rfl ?_
    refine SeqW.skipU rfl rfl rfl ?_
    refine SeqW.skipU rfl rfl rfl ?_
    refine SeqW.skipU rfl rfl rfl ?_
    refine SeqW.skipU rfl rfl rfl ?_
    refine SeqW.skipU rfl rfl rfl ?_
    refine SeqW.skipU rfl rfl rfl ?_
    refine SeqW.skipU rfl rfl rfl ?_
    refine SeqW.skipU rfl rfl rfl ?_
    refine SeqW.skipU rfl rfl rfl ?_
    refine kx rfl rfl rfl hc230 ?_
    refine sx rfl (pPick (t := true) (v := (vB true)) rfl ((congrArg vB hc230)) rfl) ?_
    refine SeqW.done fun fr231 hf232 => ?_
    have h6 := (congrFun hf232 6).trans h6
    have h8 := (congrFun hf232 8).trans h8
    have h105 : fr231 105 = (vB true) := (congrFun hf232 105).trans rfl
    clear hf232
    obtain rfl := Option.some.inj hr
    exact ⟨z, hz, st, rfl, h105, o6, bx8, ao6_o8, trivial⟩
   ·refine SeqW.consG rfl rfl rfl hc233 (StepX.pure (pMove (v := (vI x9)) rfl h9) ?_)
    refine SeqW.consG rfl rfl rfl hc233 (StepX.pure (pNeq (k := .i64) (a := x9) (b := (-1)) rfl rfl rfl) ?_)
    refine SeqW.consG rfl rfl rfl hc233 (StepX.pure (pMove (v := (vB (x9 != (-1)))) rfl rfl) ?_)
    rcases if_some hr with ⟨hc234, hr⟩ | ⟨hc241, hr⟩
    ·refine SeqW.consG rfl rfl rfl hc234 (StepX.pure (pMove (v := (vI x9)) rfl h9) ?_)
     refine SeqW.consG rfl rfl rfl hc234 (StepX.pure (pMove (v := v6) rfl h6) ?_)
     refine SeqW.consG rfl rfl rfl hc234 (StepX.pure (pLenO (xs := x6) rfl Try.underlying24 rfl o6.ow) ?_)
     refine SeqW.consG rfl rfl rfl hc234 (StepX.pure (pNeq (k := .i64) (a := x9) (b := (x6.length : Int)) rfl rfl rfl) ?_)
     refine SeqW.consG rfl rfl rfl hc234 (StepX.pure (pMove (v := (vB (x9 != (x6.length : Int)))) rfl rfl) ?_)
     rcases if_some hr with ⟨hc235, hr⟩ | ⟨hc238, hr⟩
     ·refine kx rfl rfl rfl hc235 ?_
      iterate 5 refine kx rfl rfl rfl hc235 ?_
      refine SeqW.consG rfl rfl rfl hc234 (StepX.pure (pPick (t := true) (v := (vB true)) rfl ((congrArg vB hc235)) rfl) ?_)
      refine SeqW.consG rfl rfl rfl hc233 (StepX.pure (pPick (t := true) (v := (vB true)) rfl ((congrArg vB hc234)) rfl) ?_)
      refine sx rfl (pPick (t := false) (v := (vB true)) rfl ((congrArg vB hc233)) rfl) ?_
      refine SeqW.done fun fr236 hf237 => ?_
      have h6 := (congrFun hf237 6).trans h6
      have h8 := (congrFun hf237 8).trans h8
      have h105 : fr236 105 = (vB true) := (congrFun hf237 105).trans rfl
      clear hf237
      obtain rfl := Option.some.inj hr
      exact ⟨z, hz, st, rfl, h105, o6, bx8, ao6_o8, trivial⟩
     ·refine SeqW.consG rfl rfl rfl hc238 (StepX.pure (pMove (v := (vI x13)) rfl h13) ?_)
      refine SeqW.consG rfl rfl rfl hc238 (StepX.pure (pMove (v := v6) rfl h6) ?_)
      refine SeqW.consG rfl rfl rfl hc238 (StepX.pure (pLenO (xs := x6) rfl Try.underlying24 rfl o6.ow) ?_)
      refine SeqW.consG rfl rfl rfl hc238 (StepX.pure (pMove (v := (vI x1)) rfl h1) ?_)
      refine SeqW.consG rfl rfl rfl hc238 (StepX.pure (pSub (k := .i64) (a := (x6.length : Int)) (b := x1) rfl rfl rfl) ?_)
      refine SeqW.consG rfl rfl rfl hc238 (StepX.pure (pNeq (k := .i64) (a := x13) (b := (IntKind.wrap .i64 ((x6.length : Int) - x1))) rfl rfl rfl) ?_)
      refine SeqW.consG rfl rfl rfl hc234 (StepX.pure (pPick (t := false) (v := (vB (x13 != (IntKind.wrap .i64 ((x6.length : Int) - x1))))) rfl ((congrArg vB hc238)) rfl) ?_)
      refine SeqW.consG rfl rfl rfl hc233 (StepX.pure (pPick (t := true) (v := (vB (x13 != (IntKind.wrap .i64 ((x6.length : Int) - x1))))) rfl ((congrArg vB hc234)) rfl) ?_)
      refine sx rfl (pPick (t := false) (v := (vB (x13 != (IntKind.wrap .i64 ((x6.length : Int) - x1))))) rfl ((congrArg vB hc233)) rfl) ?_
      refine SeqW.done fun fr239 hf240 => ?_
      have h6 := (congrFun hf240 6).trans h6
      have h8 := (congrFun hf240 8).trans h8
      have h105 : fr239 105 = (vB (x13 != (IntKind.wrap .i64 ((x6.length : Int) - x1)))) := (congrFun hf240 105).trans rfl
      clear hf240
      obtain rfl := Option.some.inj hr
      exact ⟨z, hz, st, rfl, h105, o6, bx8, ao6_o8, trivial⟩
    ·refine kx rfl rfl rfl hc241 ?_
     iterate 4 refine kx rfl rfl rfl hc241 ?_
     refine SeqW.skipU rfl rfl rfl ?_
     refine SeqW.skipU rfl rfl rfl ?_
     refine SeqW.skipU rfl rfl rfl ?_
     refine SeqW.skipU rfl rfl rfl ?_
     refine SeqW.skipU rfl rfl rfl ?_
     refine SeqW.skipU rfl rfl rfl ?_
     refine kx rfl rfl rfl hc241 ?_
     refine SeqW.consG rfl rfl rfl hc233 (StepX.pure (pPick (t := false) (v := (vB false)) rfl ((congrArg vB hc241)) rfl) ?_)
     refine sx rfl (pPick (t := false) (v := (vB false)) rfl ((congrArg vB hc233)) rfl) ?_
     refine SeqW.done fun fr242 hf243 => ?_
     have h6 := (congrFun hf243 6).trans h6
     have h8 := (congrFun hf243 8).trans h8
     have h105 : fr242 105 = (vB false) := (congrFun hf243 105).trans rfl
     clear hf243
     obtain rfl := Option.some.inj hr
     exact ⟨z, hz, st, rfl, h105, o6, bx8, ao6_o8, trivial⟩

theorem u_l36_RulebookTails_3 : ∀ (n : Nat) {N : Nat}  {z0 z : Nat → Blk} {e m : Mem} {k : Option Nat} {fr : Nat → Value} {x6 : List Wagon} {x15 : Int} {v6 : Value} {x8 : Rule} {b8 : Nat} (hz : Zx e.next z0 z) (st : St z e m k) (h6 : fr 6 = v6) (o6 : OwF TWagon z e m k x6 v6) (h8 : fr 8 = (vP b8)) (bx8 : Bx z e m k b8 [(vI x8.number), (vI x8.kind), (vI x8.a), (vI x8.b), (vI x8.c)] 32) (h15 : fr 15 = (vI x15)) (ao6_o8 : Ap (blkOf v6) (some b8)) {r : List Wagon} (hr : l36_RulebookTails_3 N n x6 x15 = some r), W Try.prog (sub (bodyOf Try.f8) [1, 1, 1, 1, 1, 1, 1, 1, 1, 1, 1, 0, 1, 0]) (fun ex fr' m' => ∃ z', Zx e.next z0 z' ∧ St z' e m' k ∧ ex = AExit.exit 2 ∧ fr' 6 = v6 ∧ OwF TWagon z' e m' k r v6 ∧ Bx z' e m' k b8 [(vI x8.number), (vI x8.kind), (vI x8.a), (vI x8.b), (vI x8.c)] 32 ∧ Ap (blkOf v6) (some b8) ∧ True) fr m := by
 intro n
 induction n with
 | zero => intro N z0 z e m k fr x6 x15 v6 x8 b8 hz st h6 o6 h8 bx8 h15 ao6_o8 r hr; cases (show (none : Option _) = some r from hr)
 | succ n ih =>
  intro N z0 z e m k fr x6 x15 v6 x8 b8 hz st h6 o6 h8 bx8 h15 ao6_o8 r hr
  unfold l36_RulebookTails_3 at hr
  refine W.loop1 ?_
  refine W.seq (W.seq (W.region ?_))
  refine sx rfl (pMove (v := (vI x15)) rfl h15) ?_
  refine sx rfl (pMove (v := v6) rfl h6) ?_
  refine sx rfl (pLenO (xs := x6) rfl Try.underlying24 rfl o6.ow) ?_
  refine sx rfl (pLss (k := .i64) (a := x15) (b := (x6.length : Int)) rfl rfl rfl) ?_
  refine SeqW.done fun fr260 hf261 => ?_
  have h6 := (congrFun hf261 6).trans h6
  have h8 := (congrFun hf261 8).trans h8
  have h15 := (congrFun hf261 15).trans h15
  have h109 : fr260 109 = (vB (decide (x15 < (x6.length : Int)))) := (congrFun hf261 109).trans rfl
  clear hf261
  refine thenQ.n ?_
  rcases if_some hr with ⟨hc262, hr⟩ | ⟨hc289, hr⟩
  ·refine W.condT h109 hc262 (W.skip ?_)
   refine thenQ.n (W.seq ?_)
   refine W.block ?_
   refine W.region ?_
   refine sx rfl (pMove (v := v6) rfl h6) ?_
   refine sx rfl (pMove (v := (vI x15)) rfl h15) ?_
   refine sx rfl (pMove (v := v6) rfl h6) ?_
   refine sx rfl (pMove (v := (vI x15)) rfl h15) ?_
   obtain ⟨y263, hy263, hr⟩ := bind_some hr
   refine SeqW.consX rfl (kIdxO (T := TWagon) (xs := x6) (n := x15) rfl Try.underlying24 Try.type36 rfl rfl rfl o6 hy263 ?_)
   intro B264 l265 c266 cs267 hv268 hd269 hg270 hc271
   have hd2690 := hd269
   obtain rfl := hd2690
   refine SeqW.consX rfl (kField rfl Try.underlying36 rfl Try.type3 rfl rfl rfl ?_)
   refine SeqW.consX rfl (kLoad (v := (vI y263.brake)) rfl Try.underlying3 rfl rfl (hc271 4 _ rfl) ?_)
   refine sx rfl (pMax2 (k := .i64) (a := 1) (b := y263.brake) rfl rfl rfl) ?_
   obtain ⟨y272, hy272, hr⟩ := bind_some hr
   refine SeqW.consX rfl (kIdxO (T := TWagon) (xs := x6) (n := x15) rfl Try.underlying24 Try.type36 rfl rfl rfl o6 hy272 ?_)
   intro B273 l274 c275 cs276 hv277 hd278 hg279 hc280
   have hd2780 := hd278
   obtain rfl := hd2780
   refine SeqW.consX rfl (kField rfl Try.underlying36 rfl Try.type3 rfl rfl rfl ?_)
   refine SeqW.consX rfl (kSet (T := TWagon) (off := (x15 : Int).toNat * (TWagon).sz + 4) (n := (x15 : Int).toNat) (f := 4) (w := (vI (max 1 y263.brake))) (new := [(vI (max 1 y263.brake))]) (ecs := [(str y272.number), (vI y272.length), (vI y272.axles), (vI y272.mass), (vI y272.brake), (vI y272.goods), (vB y272.gentle), (str y272.dest)]) (ecs' := [(str y272.number), (vI y272.length), (vI y272.axles), (vI y272.mass), (vI (max 1 y263.brake)), (vI y272.goods), (vB y272.gentle), (str y272.dest)]) (a := y272) (a' := (Wagon.mk y272.number y272.length y272.axles y272.mass (max 1 y263.brake) y272.goods y272.gentle y272.dest)) rfl Try.type3 rfl rfl rfl rfl rfl rfl o6 hv277 hg279 hd278 hc280 rfl rfl rfl st ?_)
   intro m281 st o6 sm282
   obtain ⟨y283, hy283, hr⟩ := lt_some hr
   rw [hy283] at o6
   replace bx8 := bx8.same sm282 (Ap.symm ao6_o8)
   refine SeqW.done fun fr284 hf285 => ?_
   have h6 := (congrFun hf285 6).trans h6
   have h8 := (congrFun hf285 8).trans h8
   have h15 := (congrFun hf285 15).trans h15
   clear hf285
   refine blockQ.n ?_
   refine thenQ.n (W.region ?_)
   refine sx rfl (pMove (v := (vI x15)) rfl h15) ?_
   refine sx rfl (pAdd (k := .i64) (a := x15) (b := 1) rfl rfl rfl) ?_
   obtain ⟨y286, hy286, hr⟩ := lt_some hr
   refine sx rfl (pAssign rfl (congrArg (Value.int .i64) hy286)) ?_
   refine SeqW.done fun fr287 hf288 => ?_
   have h6 := (congrFun hf288 6).trans h6
   have h8 := (congrFun hf288 8).trans h8
   have h15 : fr287 15 = (vI y286) := (congrFun hf288 15).trans rfl
   clear hf288
   refine thenQ.n ?_
   exact ih (x8 := x8) hz st h6 o6 h8 bx8 h15 ao6_o8 hr
  ·refine W.condF h109 hc289 ?_
   refine W.exit ?_
   refine thenQ.x ?_
   refine thenQ.x ?_
   obtain rfl := Option.some.inj hr
   exact ⟨z, hz, st, rfl, h6, o6, bx8, ao6_o8, trivial⟩

theorem u_l36_RulebookTails_4 {N : Nat}  {z0 z : Nat → Blk} {e m : Mem} {k : Option Nat} {fr : Nat → Value} {x9 : Int} {x10 : Int} (hz : Zx e.next z0 z) (st : St z e m k) (h9 : fr 9 = (vI x9)) (h10 : fr 10 = (vI x10)) {r : Bool} (hr : l36_RulebookTails_4 N x9 x10 = some r) : W Try.prog (sub (bodyOf Try.f8) [1, 1, 1, 1, 1, 1, 1, 1, 1, 1, 1, 1, 1, 0]) (fun ex fr' m' => ∃ z', Zx e.next z0 z' ∧ St z' e m' k ∧ ex = AExit.normal ∧ fr' 4 = (vB r) ∧ True) fr m := by
 unfold l36_RulebookTails_4 at hr
 refine W.region ?_
 refine sx rfl (pMove (v := (vI x10)) rfl h10) ?_
 refine sx rfl (pEql (k := .i64) (a := x10) (b := 0) rfl rfl rfl) ?_
 refine sx rfl (pMove (v := (vB (x10 == 0))) rfl rfl) ?_
 rcases if_some hr with ⟨hc309, hr⟩ | ⟨hc317, hr⟩
 ·refine SeqW.consG rfl rfl rfl hc309 (StepX.pure (pMove (v := (vI x9)) rfl h9) ?_)
  refine SeqW.consG rfl rfl rfl hc309 (StepX.pure (pEql (k := .i64) (a := x9) (b := (-1)) rfl rfl rfl) ?_)
  refine sx rfl (pPick (t := true) (v := (vB (x9 == (-1)))) rfl ((congrArg vB hc309)) rfl) ?_
  refine sx rfl (pMove (v := (vB (x9 == (-1)))) rfl rfl) ?_
  rcases if_some hr with ⟨hc310, hr⟩ | ⟨hc314, hr⟩
  ·obtain ⟨y311, hy311, hr⟩ := bind_some hr
   refine SeqW.consG rfl rfl rfl hc310 (StepX.call (gCallee rfl rfl args0) ((c_l36_sane (z := z) st.fz st.dead  hy311).mono ?_))
   rintro _ _ ⟨rfl, rfl⟩
   refine sx rfl (pPick (t := true) (v := (vB y311)) rfl ((congrArg vB hc310)) rfl) ?_
   refine sx rfl (pAssign (v := (vB y311)) rfl rfl) ?_
   refine SeqW.done fun fr312 hf313 => ?_
   have h4 : fr312 4 = (vB y311) := (congrFun hf313 4).trans rfl
   clear hf313
   obtain rfl := Option.some.inj hr
   exact ⟨z, hz, st, rfl, h4, trivial⟩
  ·refine kx rfl rfl rfl hc314 ?_
   refine sx rfl (pPick (t := false) (v := (vB false)) rfl ((congrArg vB hc314)) rfl) ?_
   refine sx rfl (pAssign (v := (vB false)) rfl rfl) ?_
   refine SeqW.done fun fr315 hf316 => ?_
   have h4 : fr315 4 = (vB false) := (congrFun hf316 4).trans rfl
   clear hf316
   obtain rfl := Option.some.inj hr
   exact ⟨z, hz, st, rfl, h4, trivial⟩
 ·refine kx rfl rfl rfl hc317 ?_
  refine kx rfl rfl rfl hc317 ?_
  refine sx rfl (pPick (t := false) (v := (vB false)) rfl ((congrArg vB hc317)) rfl) ?_
  refine sx rfl (pMove (v := (vB false)) rfl rfl) ?_
  refine kx rfl rfl rfl rfl ?_
  refine sx rfl (pPick (t := false) (v := (vB false)) rfl ((congrArg vB (rfl : false = false))) rfl) ?_
  refine sx rfl (pAssign (v := (vB false)) rfl rfl) ?_
  refine SeqW.done fun fr318 hf319 => ?_
  have h4 : fr318 4 = (vB false) := (congrFun hf319 4).trans rfl
  clear hf319
  obtain rfl := Option.some.inj hr
  exact ⟨z, hz, st, rfl, h4, trivial⟩

theorem u_l36_RulebookTails {N : Nat}  {z0 z : Nat → Blk} {e m : Mem} {k : Option Nat} {fr : Nat → Value} {x0 : List Int} {x1 : Int} {v0 : Value} (hz : Zx e.next z0 z) (st : St z e m k) (h0 : fr 0 = v0) (s0 : SlR (TInt 3 .i64) z x0 v0) (h1 : fr 1 = (vI x1)) {r : Bool} (hr : l36_RulebookTails N x0 x1 = some r) : W Try.prog (sub (bodyOf Try.f8) []) (fun ex fr' m' => ∃ z', Zx e.next z0 z' ∧ St z' e m' k ∧ (ex = .normal ∨ ex = .ret) ∧ fr' 4 = (vB r) ∧ True) fr m := by
 unfold l36_RulebookTails at hr
 refine W.seq (W.region ?_)
 refine sx rfl (pAssign (v := (vB false)) rfl rfl) ?_
 refine SeqW.done fun fr1 hf2 => ?_
 have h0 := (congrFun hf2 0).trans h0
 have h1 := (congrFun hf2 1).trans h1
 clear hf2
 refine thenQ.n (W.seq (W.region ?_))
 refine sx rfl (pMove (v := v0) rfl h0) ?_
 obtain ⟨y3, hy3, hr⟩ := bind_some hr
 refine SeqW.consX rfl (StepX.call (gCallee rfl rfl (args1 rfl)) ((c_gen_New (z := z) st.fz st.dead s0 hy3).mono ?_))
 rintro _ m8 ⟨z4, B9, V12, hzx5, fz6, sm7, rfl, Q13, X10, hn15, -⟩
 replace s0 := s0.mono hzx5.le
 have X10 : Bx z4 e m8 k B9 _ _ := ⟨X10.blk, X10.lt, X10.dead, .inl (Nat.le_trans st.next hn15)⟩
 replace hz := hz.trans (Zx.here st hzx5)
 replace st := st.call hzx5 fz6 sm7 no_hq
 refine sx rfl (pAssign (v := (vP B9)) rfl rfl) ?_
 refine SeqW.done fun fr16 hf17 => ?_
 have h1 := (congrFun hf17 1).trans h1
 have h5 : fr16 5 = (vP B9) := (congrFun hf17 5).trans rfl
 clear hf17
 refine thenQ.n (W.seq (W.region ?_))
 refine sx rfl (pMove (v := (vP B9)) rfl h5) ?_
 obtain ⟨y18, hy18, hr⟩ := bind_some hr
 refine SeqW.consX rfl (StepX.call (gCallee rfl rfl (args2 rfl rfl)) ((c_Maker_Wagons (x0 := y3) (z := z4) st.fz st.dead Q13 ⟨X10.blk, X10.lt, X10.dead, .inr rfl⟩ hy18).mono ?_))
 rintro V24 m23 ⟨z19, _, V27, hzx20, fz21, sm22, rfl, Q25, Q28, X30, -⟩
 have A31 := Ap.own X10.lt' Q25.fresh
 replace Q13 := Q13.mono hzx20.le
 have X10n : Bx z19 e m23 k B9 _ _ := ⟨X30.blk, X30.lt, X30.dead, X10.fresh⟩
 have Q25 : OwF TWagon z19 e m23 k y18.1 V24 := Q25.up st.next
 replace hz := hz.trans (Zx.here st hzx20)
 replace st := st.call hzx20 fz21 sm22 X10.hq
 refine sx rfl (pAssign (v := V24) rfl rfl) ?_
 refine SeqW.done fun fr32 hf33 => ?_
 have h1 := (congrFun hf33 1).trans h1
 have h5 := (congrFun hf33 5).trans h5
 have h6 : fr32 6 = V24 := (congrFun hf33 6).trans rfl
 clear hf33
 refine thenQ.n (W.seq (W.region ?_))
 refine sx rfl (pMove (v := (vP B9)) rfl h5) ?_
 refine sx rfl (pMove (v := V24) rfl h6) ?_
 refine sx rfl (pLenO (xs := y18.1) rfl Try.underlying24 rfl Q25.ow) ?_
 obtain ⟨y34, hy34, hr⟩ := bind_some hr
 refine SeqW.consX rfl (StepX.call (gCallee rfl rfl (args2 rfl rfl)) ((c_yardgen_Off (x0 := y18.2) (z := z19) st.fz st.dead Q28 ⟨X10n.blk, X10n.lt, X10n.dead, .inr rfl⟩ hy34).mono ?_))
 rintro V40 m39 ⟨z35, _, V43, hzx36, fz37, sm38, rfl, Q41, Q44, X46, -⟩
 have A47 := Ap.own X10n.lt' Q41.fresh
 have A48 := Ap.own Q25.lt Q41.fresh
 replace Q25 := Q25.call hzx36 sm38 (Ap.symm A31)
 replace Q28 := Q28.mono hzx36.le
 have X10nn : Bx z35 e m39 k B9 _ _ := ⟨X46.blk, X46.lt, X46.dead, X10n.fresh⟩
 have Q41 : OwF (TInt 3 .i64) z35 e m39 k y34.1 V40 := Q41.up st.next
 replace hz := hz.trans (Zx.here st hzx36)
 replace st := st.call hzx36 fz37 sm38 X10n.hq
 refine sx rfl (pAssign (v := V40) rfl rfl) ?_
 refine SeqW.done fun fr49 hf50 => ?_
 have h1 := (congrFun hf50 1).trans h1
 have h5 := (congrFun hf50 5).trans h5
 have h6 := (congrFun hf50 6).trans h6
 have h7 : fr49 7 = V40 := (congrFun hf50 7).trans rfl
 clear hf50
 refine thenQ.n (W.seq (W.region ?_))
 refine sx rfl (pMove (v := (vP B9)) rfl h5) ?_
 obtain ⟨y51, hy51, hr⟩ := bind_some hr
 refine SeqW.consX rfl (StepX.call (gCallee rfl rfl (args2 rfl rfl)) ((c_Maker_Next (x0 := y34.2) (z := z35) st.fz st.dead Q44 ⟨X10nn.blk, X10nn.lt, X10nn.dead, .inr rfl⟩ hy51).mono ?_))
 rintro _ m56 ⟨z52, V57, hzx53, fz54, sm55, rfl, Q58, X60, -⟩
 replace Q25 := Q25.call hzx53 sm55 (Ap.symm A31)
 replace Q41 := Q41.call hzx53 sm55 (Ap.symm A47)
 replace Q44 := Q44.mono hzx53.le
 have X10nnn : Bx z52 e m56 k B9 _ _ := ⟨X60.blk, X60.lt, X60.dead, X10nn.fresh⟩
 replace hz := hz.trans (Zx.here st hzx53)
 replace st := st.call hzx53 fz54 sm55 X10nn.hq
 refine sx rfl (pMove (v := (vP B9)) rfl h5) ?_
 obtain ⟨y61, hy61, hr⟩ := bind_some hr
 refine SeqW.consX rfl (StepX.call (gCallee rfl rfl (args2 rfl rfl)) ((c_Maker_Next (x0 := y51.2) (z := z52) st.fz st.dead Q58 ⟨X10nnn.blk, X10nnn.lt, X10nnn.dead, .inr rfl⟩ hy61).mono ?_))
 rintro _ m66 ⟨z62, V67, hzx63, fz64, sm65, rfl, Q68, X70, -⟩
 replace Q25 := Q25.call hzx63 sm65 (Ap.symm A31)
 replace Q41 := Q41.call hzx63 sm65 (Ap.symm A47)
 replace Q58 := Q58.mono hzx63.le
 have X10nnnn : Bx z62 e m66 k B9 _ _ := ⟨X70.blk, X70.lt, X70.dead, X10nnn.fresh⟩
 replace hz := hz.trans (Zx.here st hzx63)
 replace st := st.call hzx63 fz64 sm65 X10nnn.hq
 refine SeqW.consX rfl (kBuildS [(0, (vI 1)), (1, (vI 7)), (2, (vI y51.1)), (3, (vI y61.1))] [(vI 1), (vI 7), (vI y51.1), (vI y61.1), (vI 0)] rfl Try.underlying32 Try.type32 rfl rfl (places32 Try.underlying32) rfl (rfl) rfl ?_)
 refine SeqW.consX rfl (kAlloc rfl Try.type32 rfl rfl rfl [(vI 0), (vI 0), (vI 0), (vI 0), (vI 0)] rfl st ?_)
 intro B71 m72  st X73 sm74 hap75
 have A77 := hap75 _ Q25.lt
 have A78 := hap75 _ Q41.lt
 replace Q25 := Q25.same sm74 Ap.none'
 replace Q41 := Q41.same sm74 Ap.none'
 refine SeqW.consX rfl (kPut (off := 0) (w := (Value.agg [(vI 1), (vI 7), (vI y51.1), (vI y61.1), (vI 0)].toArray)) (new := [(vI 1), (vI 7), (vI y51.1), (vI y61.1), (vI 0)]) rfl Try.type32 rfl rfl rfl rfl rfl X73 rfl [(vI 1), (vI 7), (vI y51.1), (vI y61.1), (vI 0)] rfl st ?_)
 intro m79 st X73 sm80
 replace Q25 := Q25.same sm80 A77
 replace Q41 := Q41.same sm80 A78
 refine SeqW.done fun fr81 hf82 => ?_
 have h1 := (congrFun hf82 1).trans h1
 have h6 := (congrFun hf82 6).trans h6
 have h7 := (congrFun hf82 7).trans h7
 have h8 : fr81 8 = (vP B71) := (congrFun hf82 8).trans rfl
 clear hf82
 refine thenQ.n (W.seq (W.region ?_))
 refine SeqW.consX rfl (kLoadA rfl Try.underlying32 rfl Try.type32 rfl h8 X73.loads ?_)
 refine sx rfl (pMove (v := V24) rfl h6) ?_
 refine sx rfl (pMove (v := V40) rfl h7) ?_
 obtain ⟨z83, hz84, st87, Q85, hl86⟩ := Q25.freeze st
 have O88 := Q41.zle hz84.le (hl86 _ (Ap.symm A48))
 have X89 := X73.zle (hl86 _ (Ap.symm A77))
 obtain ⟨z90, hz91, st94, Q92, hl93⟩ := O88.freeze st87
 have Q95 := Q85.mono hz91.le
 have X96 := X89.zle (hl93 _ (Ap.symm A78))
 obtain ⟨y97, hy97, hr⟩ := bind_some hr
 refine SeqW.consX rfl (StepX.call (gCallee rfl rfl (args3 rfl rfl rfl)) ((c_rulebook_Place (x0 := (Rule.mk 1 7 y51.1 y61.1 0)) (z := z90) st94.fz st.dead Q95 Q92 hy97).mono ?_))
 rintro _ _ ⟨rfl, rfl⟩
 refine sx rfl (pMove (v := (Value.tuple [(vI y97.1), (vI y97.2)].toArray)) rfl rfl) ?_
 refine sx rfl (pExtract (vs := [(vI y97.1), (vI y97.2)]) (v := (vI y97.1)) rfl rfl rfl) ?_
 refine sx rfl (pExtract (vs := [(vI y97.1), (vI y97.2)]) (v := (vI y97.2)) rfl rfl rfl) ?_
 refine sx rfl (pAssign (v := (vI y97.1)) rfl rfl) ?_
 refine sx rfl (pAssign (v := (vI y97.2)) rfl rfl) ?_
 refine SeqW.done fun fr98 hf99 => ?_
 have h1 := (congrFun hf99 1).trans h1
 have h6 := (congrFun hf99 6).trans h6
 have h7 := (congrFun hf99 7).trans h7
 have h8 := (congrFun hf99 8).trans h8
 have h9 : fr98 9 = (vI y97.1) := (congrFun hf99 9).trans rfl
 have h10 : fr98 10 = (vI y97.2) := (congrFun hf99 10).trans rfl
 clear hf99
 refine thenQ.n (W.seq (W.region ?_))
 refine sx rfl (pMove (v := (vI x1)) rfl h1) ?_
 refine sx rfl (pMove (v := V24) rfl h6) ?_
 refine sx rfl (pLenO (xs := y18.1) rfl Try.underlying24 rfl Q25.ow) ?_
 refine SeqW.consX rfl (kField rfl Try.underlying32 rfl Try.type3 rfl h8 rfl ?_)
 refine SeqW.consX rfl (kLoad rfl Try.underlying3 rfl rfl (X73.load (v := (vI y51.1)) rfl) ?_)
 refine sx rfl (pSub (k := .i64) (a := (y18.1.length : Int)) (b := y51.1) rfl rfl rfl) ?_
 refine sx rfl (pMax2 (k := .i64) (a := 0) (b := (IntKind.wrap .i64 ((y18.1.length : Int) - y51.1))) rfl rfl rfl) ?_
 refine sx rfl (pAdd (k := .i64) (a := (max 0 (IntKind.wrap .i64 ((y18.1.length : Int) - y51.1)))) (b := 1) rfl rfl rfl) ?_
 obtain ⟨y100, hy100, hr⟩ := bind_some hr
 refine SeqW.consX rfl (StepX.call (gCallee rfl rfl (args2 rfl rfl)) ((c_yardgen_Place (z := z62) st.fz st.dead  hy100).mono ?_))
 rintro _ _ ⟨rfl, rfl⟩
 refine sx rfl (pAssign (v := (vI y100)) rfl rfl) ?_
 refine SeqW.done fun fr101 hf102 => ?_
 have h1 : fr101 1 = (vI y100) := (congrFun hf102 1).trans rfl
 have h6 := (congrFun hf102 6).trans h6
 have h7 := (congrFun hf102 7).trans h7
 have h8 := (congrFun hf102 8).trans h8
 have h9 := (congrFun hf102 9).trans h9
 have h10 := (congrFun hf102 10).trans h10
 clear hf102
 refine thenQ.n (W.seq (W.region ?_))
 refine sx rfl (pAssign (v := (Value.slice none 0 0)) rfl rfl) ?_
 refine SeqW.done fun fr103 hf104 => ?_
 have h1 := (congrFun hf104 1).trans h1
 have h6 := (congrFun hf104 6).trans h6
 have h7 := (congrFun hf104 7).trans h7
 have h8 := (congrFun hf104 8).trans h8
 have h9 := (congrFun hf104 9).trans h9
 have h10 := (congrFun hf104 10).trans h10
 have h11 : fr103 11 = (Value.slice none 0 0) := (congrFun hf104 11).trans rfl
 clear hf104
 refine thenQ.n (W.seq ?_)
 refine W.seq (W.region ?_)
 refine sx rfl (pAssign (v := (vI 0)) rfl rfl) ?_
 refine SeqW.done fun fr105 hf106 => ?_
 have h1 := (congrFun hf106 1).trans h1
 have h6 := (congrFun hf106 6).trans h6
 have h7 := (congrFun hf106 7).trans h7
 have h8 := (congrFun hf106 8).trans h8
 have h9 := (congrFun hf106 9).trans h9
 have h10 := (congrFun hf106 10).trans h10
 have h11 := (congrFun hf106 11).trans h11
 have h12 : fr105 12 = (vI 0) := (congrFun hf106 12).trans rfl
 clear hf106
 refine thenQ.n ?_
 refine W.block ?_
 obtain ⟨y178, hy178, hr⟩ := bind_some hr
 refine W.keep (u_l36_RulebookTails_0 (x8 := (Rule.mk 1 7 y51.1 y61.1 0)) _ (Zx.refl _) st h1 h6 Q25 h7 Q41 h8 X73 h11 OwF.nil h12 A48 A77 A78 Ap.none' Ap.none' Ap.none' hy178) ?_
 rintro ex184 fr179 m180 hk182 ⟨z181, hz183, st, rfl, w185, h11, O187, O188, O189, A190, A191, A192, -⟩
 have h1 := (hk182 1 rfl).trans h1
 have h6 := (hk182 6 rfl).trans h6
 have h8 := (hk182 8 rfl).trans h8
 have h9 := (hk182 9 rfl).trans h9
 have h10 := (hk182 10 rfl).trans h10
 replace hz := hz.trans hz183
 clear hk182
 refine blockQ.hit ?_
 refine thenQ.n (W.seq ?_)
 refine W.draw ?_
 refine DrawW.cons rfl (kLoadA rfl Try.underlying32 rfl Try.type32 rfl h8 O189.loads ?_)
 refine ⟨?_, ?_⟩
 ·exact demN
 refine DrawW.cons rfl (StepX.pure (pMove (v := V24) rfl h6) ?_)
 refine ⟨trivial, ?_⟩
 refine DrawW.cons rfl (StepX.pure (pMove (v := (vI y100)) rfl h1) ?_)
 refine ⟨trivial, ?_⟩
 obtain ⟨y193, hy193, hr⟩ := bind_some hr
 refine DrawW.cons rfl (kCutV (T := TWagon) (xs := y18.1) (a := y100) (b := (y18.1.length : Int)) rfl Try.underlying24 Try.type36 rfl rfl ⟨_, rfl⟩ rfl O188.ow.vw hy193 ?_)
 intro V194 _ hI196 Q195
 refine ⟨?_, ?_⟩
 ·exact demN
 refine DrawW.cons rfl (StepX.pure (pMove (v := w185) rfl h11) ?_)
 refine ⟨trivial, ?_⟩
 have sto198 := st
 have old199 := O188
 have old200 := O189
 have old201 := O187
 obtain ⟨z202, hz203, st206, Q204, hl205, hw207⟩ := O188.freezeV st
 have X208 := O189.zle (hl205 _ (Ap.symm A192))
 have O209 := O187.zle hz203.le (hl205 _ A190)
 have Q210 := hw207 Q195
 obtain ⟨z211, hz212, st215, Q213, hl214⟩ := O209.freeze st206
 have Q216 := Q204.mono hz212.le
 have X217 := X208.zle (hl214 _ (Ap.symm A191))
 have Q218 := Q210.mono hz212.le
 obtain ⟨y219, hy219, hr⟩ := bind_some hr
 refine DrawW.cons rfl (StepX.call (gCallee rfl rfl (args3 rfl rfl rfl)) ((c_rulebook_Place (x0 := (Rule.mk 1 7 y51.1 y61.1 0)) (z := z211) st215.fz st.dead Q218 Q213 hy219).mono ?_))
 rintro _ _ ⟨rfl, rfl⟩
 refine ⟨⟨?_, ?_⟩, ?_⟩
 ·first | refine demP (hI196 _ rfl) ?_ | refine demA (by decide +kernel) ?_
  first | refine demP (gLoadA rfl Try.underlying32 rfl Try.type32 rfl h8 O189.loads) ?_ | refine demA (by decide +kernel) ?_
  exact demN
 ·exact demN
 refine DrawW.cons rfl (StepX.pure (pMove (v := (Value.tuple [(vI y219.1), (vI y219.2)].toArray)) rfl rfl) ?_)
 refine ⟨trivial, ?_⟩
 refine DrawW.cons rfl (StepX.pure (pExtract (vs := [(vI y219.1), (vI y219.2)]) (v := (vI y219.1)) rfl rfl rfl) ?_)
 refine ⟨trivial, ?_⟩
 refine DrawW.cons rfl (StepX.pure (pExtract (vs := [(vI y219.1), (vI y219.2)]) (v := (vI y219.2)) rfl rfl rfl) ?_)
 refine ⟨trivial, ?_⟩
 refine DrawW.cons rfl (StepX.pure (pAssign (v := (vI y219.1)) rfl rfl) ?_)
 refine ⟨trivial, ?_⟩
 refine DrawW.cons rfl (StepX.pure (pAssign (v := (vI y219.2)) rfl rfl) ?_)
 refine ⟨trivial, ?_⟩
 refine DrawW.done fun fr220 hf221 => ?_
 have h1 := (congrFun hf221 1).trans h1
 have h6 := (congrFun hf221 6).trans h6
 have h8 := (congrFun hf221 8).trans h8
 have h9 := (congrFun hf221 9).trans h9
 have h10 := (congrFun hf221 10).trans h10
 have h13 : fr220 13 = (vI y219.1) := (congrFun hf221 13).trans rfl
 have h14 : fr220 14 = (vI y219.2) := (congrFun hf221 14).trans rfl
 clear hf221
 refine thenQ.n (W.seq (W.seq ?_))
 obtain ⟨y244, hy244, hr⟩ := bind_some hr
 refine W.keep (u_l36_RulebookTails_2 (x8 := (Rule.mk 1 7 y51.1 y61.1 0)) (Zx.refl _) st h1 h6 O188 h8 O189 h9 h10 h13 h14 A192 hy244) ?_
 rintro ex250 fr245 m246 hk248 ⟨z247, hz249, st, rfl, h105, O251, O252, A253, -⟩
 have h6 := (hk248 6 rfl).trans h6
 have h8 := (hk248 8 rfl).trans h8
 replace hz := hz.trans hz249
 clear hk248
 refine thenQ.n ?_
 rcases if_some hr with ⟨hc254, hr⟩ | ⟨hc257, hr⟩
 ·refine W.condT h105 hc254 (W.seq (W.region ?_))
  refine sx rfl (pAssign (v := (vB false)) rfl rfl) ?_
  refine SeqW.done fun fr255 hf256 => ?_
  have h4 : fr255 4 = (vB false) := (congrFun hf256 4).trans rfl
  clear hf256
  refine thenQ.n ?_
  refine W.ret ?_
  refine thenQ.r ?_
  obtain rfl := Option.some.inj hr
  exact ⟨z247, hz, st, .inr rfl, h4, trivial⟩
 ·refine W.condF h105 hc257 (W.skip ?_)
  refine thenQ.n (W.seq ?_)
  refine W.seq (W.region ?_)
  refine sx rfl (pAssign (v := (vI 0)) rfl rfl) ?_
  refine SeqW.done fun fr258 hf259 => ?_
  have h6 := (congrFun hf259 6).trans h6
  have h8 := (congrFun hf259 8).trans h8
  have h15 : fr258 15 = (vI 0) := (congrFun hf259 15).trans rfl
  clear hf259
  refine thenQ.n ?_
  refine W.block ?_
  obtain ⟨y290, hy290, hr⟩ := bind_some hr
  refine W.keep (u_l36_RulebookTails_3 (x8 := (Rule.mk 1 7 y51.1 y61.1 0)) _ (Zx.refl _) st h6 O251 h8 O252 h15 A253 hy290) ?_
  rintro ex296 fr291 m292 hk294 ⟨z293, hz295, st, rfl, h6, O298, O299, A300, -⟩
  have h8 := (hk294 8 rfl).trans h8
  replace hz := hz.trans hz295
  clear hk294
  refine blockQ.hit ?_
  refine thenQ.n (W.seq (W.region ?_))
  refine SeqW.consX rfl (kLoadA rfl Try.underlying32 rfl Try.type32 rfl h8 O299.loads ?_)
  refine sx rfl (pMove (v := V24) rfl h6) ?_
  obtain ⟨z301, hz302, st305, Q303, hl304⟩ := O298.freeze st
  obtain ⟨y306, hy306, hr⟩ := bind_some hr
  refine SeqW.consX rfl (StepX.call (gCallee rfl rfl (args3 rfl rfl rfl)) ((c_rulebook_Place (x0 := (Rule.mk 1 7 y51.1 y61.1 0)) (z := z301) st305.fz st.dead Q303 (SlR.nil (T := (TInt 3 .i64))) hy306).mono ?_))
  rintro _ _ ⟨rfl, rfl⟩
  refine sx rfl (pMove (v := (Value.tuple [(vI y306.1), (vI y306.2)].toArray)) rfl rfl) ?_
  refine sx rfl (pExtract (vs := [(vI y306.1), (vI y306.2)]) (v := (vI y306.1)) rfl rfl rfl) ?_
  refine sx rfl (pExtract (vs := [(vI y306.1), (vI y306.2)]) (v := (vI y306.2)) rfl rfl rfl) ?_
  refine sx rfl (pAssign (v := (vI y306.1)) rfl rfl) ?_
  refine sx rfl (pAssign (v := (vI y306.2)) rfl rfl) ?_
  refine SeqW.done fun fr307 hf308 => ?_
  have h9 : fr307 9 = (vI y306.1) := (congrFun hf308 9).trans rfl
  have h10 : fr307 10 = (vI y306.2) := (congrFun hf308 10).trans rfl
  clear hf308
  refine thenQ.n (W.seq ?_)
  obtain ⟨y320, hy320, hr⟩ := bind_some hr
  refine W.keep (u_l36_RulebookTails_4 (Zx.refl _) st h9 h10 hy320) ?_
  rintro ex326 fr321 m322 hk324 ⟨z323, hz325, st, rfl, h4, -⟩
  replace hz := hz.trans hz325
  clear hk324
  refine thenQ.n ?_
  refine W.ret ?_
  obtain rfl := Option.some.inj hr
  exact ⟨z323, hz, st, .inr rfl, h4, trivial⟩

theorem c_l36_RulebookTails {N : Nat} {z : Nat → Blk} {m : Mem} {x0 : List Int} {x1 : Int} {v0 : Value} (fz : Fz z m) (hd : ∀ b, m.next ≤ b → m.blk b = .dead) (s0 : SlR (TInt 3 .i64) z x0 v0) {r : Bool} (hr : l36_RulebookTails N x0 x1 = some r) : CallW Try.prog 8 #[v0, (vI x1)] m fun v m' => v = (vB r) ∧ m' = m := by
 refine CallW.flat Try.func8 rfl (by kernel_rfl) (Nat.le_of_ble_eq_true rfl) rfl (z := z) (fun fr hf => ?_)
 have h0 : fr 0 = _ := hf 0 _ rfl
 have h1 : fr 1 = _ := hf 1 _ rfl
 refine (u_l36_RulebookTails (k := none) (Zx.refl _) (St.start fz hd) h0 s0 h1 hr).mono ?_
 rintro ex fr' m' ⟨z', hz, st, he, h4, -⟩
 exact ⟨he, z', st, [(vB r)], ⟨h4.symm, trivial⟩, .inl rfl, rfl⟩

end Go.W
