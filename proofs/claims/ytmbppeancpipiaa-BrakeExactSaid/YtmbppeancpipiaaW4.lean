/- The models are what the program computes. -/
import Derived.Test.YtmbppeancpipiaaW3
set_option linter.unusedVariables false
set_option linter.unusedSimpArgs false
set_option maxRecDepth 100000
set_option maxHeartbeats 4000000
namespace Go.W
open Go.AM Go.Proofs


/-! ### humpyard/humpyardlaw35.BrakeExact -/

theorem u_l35_BrakeExact_1 {N : Nat}  {z0 z : Nat → Blk} {e m : Mem} {k : Option Nat} {fr : Nat → Value} {x14 : Int} {x15 : List Wagon} {x13 : Maker} {v13_0 : Value} {b13 : Nat} {v15 : Value} {x16 : List BrakeRow} {v16 : Value} {x17 : List Int} {v17 : Value} (hz : Zx e.next z0 z) (st : St z e m k) (h13 : fr 13 = (vP b13)) (s13_0 : SlR (TInt 3 .i64) z x13.l v13_0) (bx13 : Bx z e m k b13 [v13_0, (vI x13.n)] 54) (h14 : fr 14 = (vI x14)) (h15 : fr 15 = v15) (o15 : OwF TWagon z e m k x15 v15) (h16 : fr 16 = v16) (o16 : OwF TBrakeRow z e m k x16 v16) (h17 : fr 17 = v17) (o17 : OwF (TInt 3 .i64) z e m k x17 v17) (ao13_o15 : Ap (some b13) (blkOf v15)) (ao13_o16 : Ap (some b13) (blkOf v16)) (ao15_o16 : Ap (blkOf v15) (blkOf v16)) (ao13_o17 : Ap (some b13) (blkOf v17)) (ao15_o17 : Ap (blkOf v15) (blkOf v17)) (ao16_o17 : Ap (blkOf v16) (blkOf v17)) {r : Bool} (hr : l35_BrakeExact_1 N x14 x15 = some r) : W Try.prog (sub (bodyOf Try.f7) [1, 1, 0, 1, 0, 0, 1, 0, 0, 1, 1, 0, 0]) (fun ex fr' m' => ∃ z', Zx e.next z0 z' ∧ St z' e m' k ∧ ex = AExit.normal ∧ fr' 41 = (vB r) ∧ Bx z' e m' k b13 [v13_0, (vI x13.n)] 54 ∧ OwF TWagon z' e m' k x15 v15 ∧ OwF TBrakeRow z' e m' k x16 v16 ∧ OwF (TInt 3 .i64) z' e m' k x17 v17 ∧ Ap (some b13) (blkOf v15) ∧ Ap (some b13) (blkOf v16) ∧ Ap (blkOf v15) (blkOf v16) ∧ Ap (some b13) (blkOf v17) ∧ Ap (blkOf v15) (blkOf v17) ∧ Ap (blkOf v16) (blkOf v17) ∧ True) fr m := by
 unfold l35_BrakeExact_1 at hr
 refine W.region ?_
 refine sx rfl (pMove (v := (vI x14)) rfl h14) ?_
 refine sx rfl (pEql (k := .i64) (a := x14) (b := 2) rfl rfl rfl) ?_
 refine sx rfl (pMove (v := (vB (x14 == 2))) rfl rfl) ?_
 rcases if_some hr with ⟨hc72, hr⟩ | ⟨hc75, hr⟩
 ·refine SeqW.consG rfl rfl rfl hc72 (StepX.pure (pMove (v := v15) rfl h15) ?_)
  refine SeqW.consG rfl rfl rfl hc72 (StepX.pure (pLenO (xs := x15) rfl Try.underlying25 rfl o15.ow) ?_)
  refine SeqW.consG rfl rfl rfl hc72 (StepX.pure (pGtr (k := .i64) (a := (x15.length : Int)) (b := 0) rfl rfl rfl) ?_)
  refine sx rfl (pPick (t := true) (v := (vB (decide (0 < (x15.length : Int))))) rfl ((congrArg vB hc72)) rfl) ?_
  refine SeqW.done fun fr73 hf74 => ?_
  have h13 := (congrFun hf74 13).trans h13
  have h14 := (congrFun hf74 14).trans h14
  have h15 := (congrFun hf74 15).trans h15
  have h16 := (congrFun hf74 16).trans h16
  have h17 := (congrFun hf74 17).trans h17
  have h41 : fr73 41 = (vB (decide (0 < (x15.length : Int)))) := (congrFun hf74 41).trans rfl
  clear hf74
  obtain rfl := Option.some.inj hr
  exact ⟨z, hz, st, rfl, h41, bx13, o15, o16, o17, ao13_o15, ao13_o16, ao15_o16, ao13_o17, ao15_o17, ao16_o17, trivial⟩
 ·refine kx rfl rfl rfl hc75 ?_
  iterate 2 refine kx rfl rfl rfl hc75 ?_
  refine sx rfl (pPick (t := false) (v := (vB false)) rfl ((congrArg vB hc75)) rfl) ?_
  refine SeqW.done fun fr76 hf77 => ?_
  have h13 := (congrFun hf77 13).trans h13
  have h14 := (congrFun hf77 14).trans h14
  have h15 := (congrFun hf77 15).trans h15
  have h16 := (congrFun hf77 16).trans h16
  have h17 := (congrFun hf77 17).trans h17
  have h41 : fr76 41 = (vB false) := (congrFun hf77 41).trans rfl
  clear hf77
  obtain rfl := Option.some.inj hr
  exact ⟨z, hz, st, rfl, h41, bx13, o15, o16, o17, ao13_o15, ao13_o16, ao15_o16, ao13_o17, ao15_o17, ao16_o17, trivial⟩

theorem u_l35_BrakeExact_2 {N : Nat}  {z0 z : Nat → Blk} {e m : Mem} {k : Option Nat} {fr : Nat → Value} {x13 : Maker} {x15 : List Wagon} {x17 : List Int} {x41 : Bool} {v13_0 : Value} {b13 : Nat} {v15 : Value} {x16 : List BrakeRow} {v16 : Value} {v17 : Value} (hz : Zx e.next z0 z) (st : St z e m k) (h13 : fr 13 = (vP b13)) (s13_0 : SlR (TInt 3 .i64) z x13.l v13_0) (bx13 : Bx z e m k b13 [v13_0, (vI x13.n)] 54) (h15 : fr 15 = v15) (o15 : OwF TWagon z e m k x15 v15) (h16 : fr 16 = v16) (o16 : OwF TBrakeRow z e m k x16 v16) (h17 : fr 17 = v17) (o17 : OwF (TInt 3 .i64) z e m k x17 v17) (h41 : fr 41 = (vB x41)) (ao13_o15 : Ap (some b13) (blkOf v15)) (ao13_o16 : Ap (some b13) (blkOf v16)) (ao15_o16 : Ap (blkOf v15) (blkOf v16)) (ao13_o17 : Ap (some b13) (blkOf v17)) (ao15_o17 : Ap (blkOf v15) (blkOf v17)) (ao16_o17 : Ap (blkOf v16) (blkOf v17)) {r : Maker × List Wagon × List Int} (hr : l35_BrakeExact_2 N x13 x15 x17 x41 = some r) : W Try.prog (sub (bodyOf Try.f7) [1, 1, 0, 1, 0, 0, 1, 0, 0, 1, 1, 0, 1]) (fun ex fr' m' => ∃ z', Zx e.next z0 z' ∧ St z' e m' k ∧ ex = AExit.normal ∧ ∃ (w13_0 : Value) (w17 : Value), fr' 13 = (vP b13) ∧ SlR (TInt 3 .i64) z' r.1.l w13_0 ∧ Bx z' e m' k b13 [w13_0, (vI r.1.n)] 54 ∧ fr' 15 = v15 ∧ OwF TWagon z' e m' k r.2.1 v15 ∧ fr' 17 = w17 ∧ OwF (TInt 3 .i64) z' e m' k r.2.2 w17 ∧ OwF TBrakeRow z' e m' k x16 v16 ∧ Ap (some b13) (blkOf v15) ∧ Ap (some b13) (blkOf w17) ∧ Ap (blkOf v15) (blkOf w17) ∧ Ap (some b13) (blkOf v16) ∧ Ap (blkOf v15) (blkOf v16) ∧ Ap (blkOf w17) (blkOf v16) ∧ True) fr m := by
 unfold l35_BrakeExact_2 at hr
 rcases if_some hr with ⟨hc95, hr⟩ | ⟨hc188, hr⟩
 ·refine W.condT h41 hc95 (W.seq (W.region ?_))
  refine sx rfl (pMove (v := (vP b13)) rfl h13) ?_
  refine sx rfl (pMove (v := v15) rfl h15) ?_
  refine sx rfl (pLenO (xs := x15) rfl Try.underlying25 rfl o15.ow) ?_
  obtain ⟨y96, hy96, hr⟩ := bind_some hr
  refine SeqW.consX rfl (StepX.call (gCallee rfl rfl (args2 rfl rfl)) ((c_Maker_Next (x0 := x13) (z := z) st.fz st.dead s13_0 ⟨bx13.blk, bx13.lt, bx13.dead, .inr rfl⟩ hy96).mono ?_))
  rintro _ m101 ⟨z97, V102, hzx98, fz99, sm100, rfl, Q103, X105, -⟩
  replace s13_0 := s13_0.mono hzx98.le
  replace o15 := o15.call hzx98 sm100 (Ap.symm ao13_o15)
  replace o16 := o16.call hzx98 sm100 (Ap.symm ao13_o16)
  replace o17 := o17.call hzx98 sm100 (Ap.symm ao13_o17)
  have bx13n : Bx z97 e m101 k b13 _ _ := ⟨X105.blk, X105.lt, X105.dead, bx13.fresh⟩
  replace hz := hz.trans (Zx.here st hzx98)
  replace st := st.call hzx98 fz99 sm100 bx13.hq
  refine sx rfl (pAssign (v := (vI y96.1)) rfl rfl) ?_
  refine SeqW.done fun fr106 hf107 => ?_
  have h13 := (congrFun hf107 13).trans h13
  have h15 := (congrFun hf107 15).trans h15
  have h16 := (congrFun hf107 16).trans h16
  have h17 := (congrFun hf107 17).trans h17
  have h18 : fr106 18 = (vI y96.1) := (congrFun hf107 18).trans rfl
  clear hf107
  refine thenQ.n (W.seq (W.region ?_))
  refine sx rfl (pMove (v := v15) rfl h15) ?_
  refine sx rfl (pMove (v := (vI y96.1)) rfl h18) ?_
  refine sx rfl (pMove (v := (vP b13)) rfl h13) ?_
  refine sx rfl (pMove (v := v15) rfl h15) ?_
  refine sx rfl (pMove (v := (vI y96.1)) rfl h18) ?_
  obtain ⟨y108, hy108, hr⟩ := bind_some hr
  refine SeqW.consX rfl (kIdxO (T := TWagon) (xs := x15) (n := y96.1) rfl Try.underlying25 Try.type48 rfl rfl rfl o15 hy108 ?_)
  intro B109 l110 c111 cs112 hv113 hd114 hg115 hc116
  have hd1140 := hd114
  obtain rfl := hd1140
  refine SeqW.consX rfl (kLoadA rfl Try.underlying48 rfl Try.type48 rfl rfl hc116 ?_)
  obtain ⟨y117, hy117, hr⟩ := bind_some hr
  refine SeqW.consX rfl (StepX.call (gCallee rfl rfl (args2 rfl rfl)) ((c_Maker_SpoilWagon (x0 := y96.2) (x1 := y108) (z := z97) st.fz st.dead Q103 ⟨bx13n.blk, bx13n.lt, bx13n.dead, .inr rfl⟩ hy117).mono ?_))
  rintro _ m122 ⟨z118, V123, hzx119, fz120, sm121, rfl, Q124, X126, -⟩
  replace o15 := o15.call hzx119 sm121 (Ap.symm ao13_o15)
  replace o16 := o16.call hzx119 sm121 (Ap.symm ao13_o16)
  replace o17 := o17.call hzx119 sm121 (Ap.symm ao13_o17)
  replace Q103 := Q103.mono hzx119.le
  have bx13nn : Bx z118 e m122 k b13 _ _ := ⟨X126.blk, X126.lt, X126.dead, bx13n.fresh⟩
  replace hz := hz.trans (Zx.here st hzx119)
  replace st := st.call hzx119 fz120 sm121 bx13n.hq
  obtain ⟨y127, hy127, hr⟩ := bind_some hr
  refine SeqW.consX rfl (kIdxO (T := TWagon) (xs := x15) (n := y96.1) rfl Try.underlying25 Try.type48 rfl rfl rfl o15 hy127 ?_)
  intro B128 l129 c130 cs131 hv132 hd133 hg134 hc135
  have hd1330 := hd133
  obtain rfl := hd1330
  refine SeqW.consX rfl (kSet (T := TWagon) (off := (y96.1 : Int).toNat * (TWagon).sz) (n := (y96.1 : Int).toNat) (f := 0) (w := (Value.agg [(str y117.1.number), (vI y117.1.length), (vI y117.1.axles), (vI y117.1.mass), (vI y117.1.brake), (vI y117.1.goods), (vB y117.1.gentle), (str y117.1.dest)].toArray)) (new := [(str y117.1.number), (vI y117.1.length), (vI y117.1.axles), (vI y117.1.mass), (vI y117.1.brake), (vI y117.1.goods), (vB y117.1.gentle), (str y117.1.dest)]) (ecs := [(str y127.number), (vI y127.length), (vI y127.axles), (vI y127.mass), (vI y127.brake), (vI y127.goods), (vB y127.gentle), (str y127.dest)]) (ecs' := [(str y117.1.number), (vI y117.1.length), (vI y117.1.axles), (vI y117.1.mass), (vI y117.1.brake), (vI y117.1.goods), (vB y117.1.gentle), (str y117.1.dest)]) (a := y127) (a' := y117.1) rfl Try.type48 rfl rfl rfl rfl rfl rfl o15 hv132 hg134 hd133 hc135 rfl rfl rfl st ?_)
  intro m136 st o15 sm137
  obtain ⟨y138, hy138, hr⟩ := lt_some hr
  rw [hy138] at o15
  replace bx13nn := bx13nn.same sm137 ao13_o15
  replace o16 := o16.same sm137 (Ap.symm ao15_o16)
  replace o17 := o17.same sm137 (Ap.symm ao15_o17)
  refine SeqW.done fun fr139 hf140 => ?_
  have h13 := (congrFun hf140 13).trans h13
  have h15 := (congrFun hf140 15).trans h15
  have h16 := (congrFun hf140 16).trans h16
  have h17 := (congrFun hf140 17).trans h17
  clear hf140
  refine thenQ.n (W.region ?_)
  refine sx rfl (pMove (v := v17) rfl h17) ?_
  refine sx rfl (pMove (v := (vP b13)) rfl h13) ?_
  refine sx rfl (pMove (v := v15) rfl h15) ?_
  refine sx rfl (pLenO (xs := y138) rfl Try.underlying25 rfl o15.ow) ?_
  refine SeqW.consX rfl (kBuild (T := (TInt 3 .i64)) rfl Try.underlying22 Try.type3 rfl rfl rfl rfl ([(-1), 0, (y138.length : Int)] : List Int) [[(vI (-1))], [(vI 0)], [(vI (y138.length : Int))]] rfl rfl rfl (BuildOk.mk (w := (vI (-1))) rfl rfl rfl rfl (BuildOk.mk (w := (vI 0)) rfl rfl rfl rfl (BuildOk.mk (w := (vI (y138.length : Int))) rfl rfl rfl rfl trivial))) st ?_)
  intro V141 m142 st O143 sm144 hap145
  have A147 := hap145 _ bx13nn.lt'
  have A148 := hap145 _ o15.lt
  have A149 := hap145 _ o16.lt
  have A150 := hap145 _ o17.lt
  replace bx13nn := bx13nn.same sm144 Ap.none'
  replace o15 := o15.same sm144 Ap.none'
  replace o16 := o16.same sm144 Ap.none'
  replace o17 := o17.same sm144 Ap.none'
  obtain ⟨z151, hz152, st, Q153, hl154⟩ := O143.freeze st
  replace bx13nn := bx13nn.zle (hl154 _ A147)
  replace o15 := o15.zle hz152.le (hl154 _ A148)
  replace o16 := o16.zle hz152.le (hl154 _ A149)
  replace o17 := o17.zle hz152.le (hl154 _ A150)
  replace Q124 := Q124.mono hz152.le
  replace hz := hz.trans hz152
  obtain ⟨y155, hy155, hr⟩ := bind_some hr
  refine SeqW.consX rfl (StepX.call (gCallee rfl rfl (args2 rfl rfl)) ((c_Maker_Pick (x0 := y117.2) (z := z151) st.fz st.dead Q124 ⟨bx13nn.blk, bx13nn.lt, bx13nn.dead, .inr rfl⟩ Q153 hy155).mono ?_))
  rintro _ m160 ⟨z156, V161, hzx157, fz158, sm159, rfl, Q162, X164, -⟩
  replace o15 := o15.call hzx157 sm159 (Ap.symm ao13_o15)
  replace o16 := o16.call hzx157 sm159 (Ap.symm ao13_o16)
  replace o17 := o17.call hzx157 sm159 (Ap.symm ao13_o17)
  replace Q124 := Q124.mono hzx157.le
  replace Q153 := Q153.mono hzx157.le
  have bx13nnn : Bx z156 e m160 k b13 _ _ := ⟨X164.blk, X164.lt, X164.dead, bx13nn.fresh⟩
  replace hz := hz.trans (Zx.here st hzx157)
  replace st := st.call hzx157 fz158 sm159 bx13nn.hq
  refine SeqW.consX rfl (kBuild (T := (TInt 3 .i64)) rfl Try.underlying22 Try.type3 rfl rfl rfl rfl ([y155.1] : List Int) [[(vI y155.1)]] rfl rfl rfl (BuildOk.mk (w := (vI y155.1)) rfl rfl rfl rfl trivial) st ?_)
  intro V165 m166 st O167 sm168 hap169
  have A171 := hap169 _ bx13nnn.lt'
  have A172 := hap169 _ o15.lt
  have A173 := hap169 _ o16.lt
  have A174 := hap169 _ o17.lt
  replace bx13nnn := bx13nnn.same sm168 Ap.none'
  replace o15 := o15.same sm168 Ap.none'
  replace o16 := o16.same sm168 Ap.none'
  replace o17 := o17.same sm168 Ap.none'
  obtain ⟨y175, hy175, hr⟩ := bind_some hr
  refine SeqW.consX rfl (kAppend (T := (TInt 3 .i64)) (xs := x17) (ys := ([y155.1] : List Int)) rfl Try.underlying22 Try.type3 rfl rfl rfl rfl rfl rfl (.inl ⟨_, Try.underlying22⟩) rfl o17 rfl O167.ow.src st hy175 ?_)
  intro V176 m177 st O178 sm179 hap180
  have A182 := hap180 _ bx13nnn.lt' ao13_o17
  have A183 := hap180 _ o15.lt ao15_o17
  have A184 := hap180 _ o16.lt ao16_o17
  have A185 := hap180 _ O167.lt (Ap.symm A174)
  replace bx13nnn := bx13nnn.same sm179 ao13_o17
  replace o15 := o15.same sm179 ao15_o17
  replace o16 := o16.same sm179 ao16_o17
  replace O167 := O167.same sm179 (Ap.symm A174)
  refine sx rfl (pAssign (v := V176) rfl rfl) ?_
  refine SeqW.done fun fr186 hf187 => ?_
  have h13 := (congrFun hf187 13).trans h13
  have h15 := (congrFun hf187 15).trans h15
  have h16 := (congrFun hf187 16).trans h16
  have h17 : fr186 17 = V176 := (congrFun hf187 17).trans rfl
  clear hf187
  obtain rfl := Option.some.inj hr
  exact ⟨z156, hz, st, rfl, V161, V176, h13, Q162, bx13nnn, h15, o15, h17, O178, o16, ao13_o15, A182, A183, ao13_o16, ao15_o16, (Ap.symm A184), trivial⟩
 ·refine W.condF h41 hc188 (W.skip ?_)
  obtain rfl := Option.some.inj hr
  exact ⟨z, hz, st, rfl, v13_0, v17, h13, s13_0, bx13, h15, o15, h17, o17, o16, ao13_o15, ao13_o17, ao15_o17, ao13_o16, ao15_o16, (Ap.symm ao16_o17), trivial⟩

theorem u_l35_BrakeExact_3 {N : Nat}  {z0 z : Nat → Blk} {e m : Mem} {k : Option Nat} {fr : Nat → Value} {x13 : Maker} {x16 : List BrakeRow} {x64 : Bool} {v13_0 : Value} {b13 : Nat} {x15 : List Wagon} {v15 : Value} {v16 : Value} {x17 : List Int} {v17 : Value} (hz : Zx e.next z0 z) (st : St z e m k) (h13 : fr 13 = (vP b13)) (s13_0 : SlR (TInt 3 .i64) z x13.l v13_0) (bx13 : Bx z e m k b13 [v13_0, (vI x13.n)] 54) (h15 : fr 15 = v15) (o15 : OwF TWagon z e m k x15 v15) (h16 : fr 16 = v16) (o16 : OwF TBrakeRow z e m k x16 v16) (h17 : fr 17 = v17) (o17 : OwF (TInt 3 .i64) z e m k x17 v17) (h64 : fr 64 = (vB x64)) (ao13_o15 : Ap (some b13) (blkOf v15)) (ao13_o16 : Ap (some b13) (blkOf v16)) (ao15_o16 : Ap (blkOf v15) (blkOf v16)) (ao13_o17 : Ap (some b13) (blkOf v17)) (ao15_o17 : Ap (blkOf v15) (blkOf v17)) (ao16_o17 : Ap (blkOf v16) (blkOf v17)) {r : Maker × List BrakeRow} (hr : l35_BrakeExact_3 N x13 x16 x64 = some r) : W Try.prog (sub (bodyOf Try.f7) [1, 1, 0, 1, 0, 0, 1, 0, 0, 1, 1, 1, 0, 1]) (fun ex fr' m' => ∃ z', Zx e.next z0 z' ∧ St z' e m' k ∧ ex = AExit.normal ∧ ∃ (w13_0 : Value) (w16 : Value), fr' 13 = (vP b13) ∧ SlR (TInt 3 .i64) z' r.1.l w13_0 ∧ Bx z' e m' k b13 [w13_0, (vI r.1.n)] 54 ∧ fr' 16 = w16 ∧ OwF TBrakeRow z' e m' k r.2 w16 ∧ OwF TWagon z' e m' k x15 v15 ∧ OwF (TInt 3 .i64) z' e m' k x17 v17 ∧ Ap (some b13) (blkOf w16) ∧ Ap (some b13) (blkOf v15) ∧ Ap (blkOf w16) (blkOf v15) ∧ Ap (some b13) (blkOf v17) ∧ Ap (blkOf w16) (blkOf v17) ∧ Ap (blkOf v15) (blkOf v17) ∧ True) fr m := by
 unfold l35_BrakeExact_3 at hr
 rcases if_some hr with ⟨hc215, hr⟩ | ⟨hc311, hr⟩
 ·refine W.condT h64 hc215 (W.region ?_)
  refine sx rfl (pMove (v := v16) rfl h16) ?_
  refine sx rfl (pMove (v := (vP b13)) rfl h13) ?_
  refine SeqW.consX rfl (kBuild (T := (TInt 3 .i64)) rfl Try.underlying22 Try.type3 rfl rfl rfl rfl ([0, 1, 200, 201] : List Int) [[(vI 0)], [(vI 1)], [(vI 200)], [(vI 201)]] rfl rfl rfl (BuildOk.mk (w := (vI 0)) rfl rfl rfl rfl (BuildOk.mk (w := (vI 1)) rfl rfl rfl rfl (BuildOk.mk (w := (vI 200)) rfl rfl rfl rfl (BuildOk.mk (w := (vI 201)) rfl rfl rfl rfl trivial)))) st ?_)
  intro V216 m217 st O218 sm219 hap220
  have A222 := hap220 _ bx13.lt'
  have A223 := hap220 _ o15.lt
  have A224 := hap220 _ o16.lt
  have A225 := hap220 _ o17.lt
  replace bx13 := bx13.same sm219 Ap.none'
  replace o15 := o15.same sm219 Ap.none'
  replace o16 := o16.same sm219 Ap.none'
  replace o17 := o17.same sm219 Ap.none'
  obtain ⟨z226, hz227, st, Q228, hl229⟩ := O218.freeze st
  replace s13_0 := s13_0.mono hz227.le
  replace bx13 := bx13.zle (hl229 _ A222)
  replace o15 := o15.zle hz227.le (hl229 _ A223)
  replace o16 := o16.zle hz227.le (hl229 _ A224)
  replace o17 := o17.zle hz227.le (hl229 _ A225)
  replace hz := hz.trans hz227
  obtain ⟨y230, hy230, hr⟩ := bind_some hr
  refine SeqW.consX rfl (StepX.call (gCallee rfl rfl (args2 rfl rfl)) ((c_Maker_Pick (x0 := x13) (z := z226) st.fz st.dead s13_0 ⟨bx13.blk, bx13.lt, bx13.dead, .inr rfl⟩ Q228 hy230).mono ?_))
  rintro _ m235 ⟨z231, V236, hzx232, fz233, sm234, rfl, Q237, X239, -⟩
  replace s13_0 := s13_0.mono hzx232.le
  replace o15 := o15.call hzx232 sm234 (Ap.symm ao13_o15)
  replace o16 := o16.call hzx232 sm234 (Ap.symm ao13_o16)
  replace o17 := o17.call hzx232 sm234 (Ap.symm ao13_o17)
  replace Q228 := Q228.mono hzx232.le
  have bx13n : Bx z231 e m235 k b13 _ _ := ⟨X239.blk, X239.lt, X239.dead, bx13.fresh⟩
  replace hz := hz.trans (Zx.here st hzx232)
  replace st := st.call hzx232 fz233 sm234 bx13.hq
  refine sx rfl (pMove (v := (vP b13)) rfl h13) ?_
  refine SeqW.consX rfl (kBuild (T := (TInt 3 .i64)) rfl Try.underlying22 Try.type3 rfl rfl rfl rfl ([(-1), 0, 500, 501] : List Int) [[(vI (-1))], [(vI 0)], [(vI 500)], [(vI 501)]] rfl rfl rfl (BuildOk.mk (w := (vI (-1))) rfl rfl rfl rfl (BuildOk.mk (w := (vI 0)) rfl rfl rfl rfl (BuildOk.mk (w := (vI 500)) rfl rfl rfl rfl (BuildOk.mk (w := (vI 501)) rfl rfl rfl rfl trivial)))) st ?_)
  intro V240 m241 st O242 sm243 hap244
  have A246 := hap244 _ bx13n.lt'
  have A247 := hap244 _ o15.lt
  have A248 := hap244 _ o16.lt
  have A249 := hap244 _ o17.lt
  replace bx13n := bx13n.same sm243 Ap.none'
  replace o15 := o15.same sm243 Ap.none'
  replace o16 := o16.same sm243 Ap.none'
  replace o17 := o17.same sm243 Ap.none'
  obtain ⟨z250, hz251, st, Q252, hl253⟩ := O242.freeze st
  replace bx13n := bx13n.zle (hl253 _ A246)
  replace o15 := o15.zle hz251.le (hl253 _ A247)
  replace o16 := o16.zle hz251.le (hl253 _ A248)
  replace o17 := o17.zle hz251.le (hl253 _ A249)
  replace Q237 := Q237.mono hz251.le
  replace hz := hz.trans hz251
  obtain ⟨y254, hy254, hr⟩ := bind_some hr
  refine SeqW.consX rfl (StepX.call (gCallee rfl rfl (args2 rfl rfl)) ((c_Maker_Pick (x0 := y230.2) (z := z250) st.fz st.dead Q237 ⟨bx13n.blk, bx13n.lt, bx13n.dead, .inr rfl⟩ Q252 hy254).mono ?_))
  rintro _ m259 ⟨z255, V260, hzx256, fz257, sm258, rfl, Q261, X263, -⟩
  replace o15 := o15.call hzx256 sm258 (Ap.symm ao13_o15)
  replace o16 := o16.call hzx256 sm258 (Ap.symm ao13_o16)
  replace o17 := o17.call hzx256 sm258 (Ap.symm ao13_o17)
  replace Q237 := Q237.mono hzx256.le
  replace Q252 := Q252.mono hzx256.le
  have bx13nn : Bx z255 e m259 k b13 _ _ := ⟨X263.blk, X263.lt, X263.dead, bx13n.fresh⟩
  replace hz := hz.trans (Zx.here st hzx256)
  replace st := st.call hzx256 fz257 sm258 bx13n.hq
  refine sx rfl (pMove (v := (vP b13)) rfl h13) ?_
  refine SeqW.consX rfl (kBuild (T := (TInt 3 .i64)) rfl Try.underlying22 Try.type3 rfl rfl rfl rfl ([(-1), 0, 250, 251] : List Int) [[(vI (-1))], [(vI 0)], [(vI 250)], [(vI 251)]] rfl rfl rfl (BuildOk.mk (w := (vI (-1))) rfl rfl rfl rfl (BuildOk.mk (w := (vI 0)) rfl rfl rfl rfl (BuildOk.mk (w := (vI 250)) rfl rfl rfl rfl (BuildOk.mk (w := (vI 251)) rfl rfl rfl rfl trivial)))) st ?_)
  intro V264 m265 st O266 sm267 hap268
  have A270 := hap268 _ bx13nn.lt'
  have A271 := hap268 _ o15.lt
  have A272 := hap268 _ o16.lt
  have A273 := hap268 _ o17.lt
  replace bx13nn := bx13nn.same sm267 Ap.none'
  replace o15 := o15.same sm267 Ap.none'
  replace o16 := o16.same sm267 Ap.none'
  replace o17 := o17.same sm267 Ap.none'
  obtain ⟨z274, hz275, st, Q276, hl277⟩ := O266.freeze st
  replace bx13nn := bx13nn.zle (hl277 _ A270)
  replace o15 := o15.zle hz275.le (hl277 _ A271)
  replace o16 := o16.zle hz275.le (hl277 _ A272)
  replace o17 := o17.zle hz275.le (hl277 _ A273)
  replace Q261 := Q261.mono hz275.le
  replace hz := hz.trans hz275
  obtain ⟨y278, hy278, hr⟩ := bind_some hr
  refine SeqW.consX rfl (StepX.call (gCallee rfl rfl (args2 rfl rfl)) ((c_Maker_Pick (x0 := y254.2) (z := z274) st.fz st.dead Q261 ⟨bx13nn.blk, bx13nn.lt, bx13nn.dead, .inr rfl⟩ Q276 hy278).mono ?_))
  rintro _ m283 ⟨z279, V284, hzx280, fz281, sm282, rfl, Q285, X287, -⟩
  replace o15 := o15.call hzx280 sm282 (Ap.symm ao13_o15)
  replace o16 := o16.call hzx280 sm282 (Ap.symm ao13_o16)
  replace o17 := o17.call hzx280 sm282 (Ap.symm ao13_o17)
  replace Q261 := Q261.mono hzx280.le
  replace Q276 := Q276.mono hzx280.le
  have bx13nnn : Bx z279 e m283 k b13 _ _ := ⟨X287.blk, X287.lt, X287.dead, bx13nn.fresh⟩
  replace hz := hz.trans (Zx.here st hzx280)
  replace st := st.call hzx280 fz281 sm282 bx13nn.hq
  refine SeqW.consX rfl (kBuildS [(0, (vI y230.1)), (1, (vI y254.1)), (2, (vI y278.1))] [(vI y230.1), (vI y254.1), (vI y278.1)] rfl Try.underlying31 Try.type31 rfl rfl (places31 Try.underlying31) rfl (rfl) rfl ?_)
  refine SeqW.consX rfl (kBuild (T := TBrakeRow) rfl Try.underlying27 Try.type31 rfl rfl rfl rfl ([(BrakeRow.mk y230.1 y254.1 y278.1)] : List BrakeRow) [[(vI y230.1), (vI y254.1), (vI y278.1)]] rfl rfl rfl (BuildOk.mk (w := (Value.agg [(vI y230.1), (vI y254.1), (vI y278.1)].toArray)) rfl rfl rfl rfl trivial) st ?_)
  intro V288 m289 st O290 sm291 hap292
  have A294 := hap292 _ bx13nnn.lt'
  have A295 := hap292 _ o15.lt
  have A296 := hap292 _ o16.lt
  have A297 := hap292 _ o17.lt
  replace bx13nnn := bx13nnn.same sm291 Ap.none'
  replace o15 := o15.same sm291 Ap.none'
  replace o16 := o16.same sm291 Ap.none'
  replace o17 := o17.same sm291 Ap.none'
  obtain ⟨y298, hy298, hr⟩ := bind_some hr
  refine SeqW.consX rfl (kAppend (T := TBrakeRow) (xs := x16) (ys := ([(BrakeRow.mk y230.1 y254.1 y278.1)] : List BrakeRow)) rfl Try.underlying27 Try.type31 rfl rfl rfl rfl rfl rfl (.inl ⟨_, Try.underlying27⟩) rfl o16 rfl O290.ow.src st hy298 ?_)
  intro V299 m300 st O301 sm302 hap303
  have A305 := hap303 _ bx13nnn.lt' ao13_o16
  have A306 := hap303 _ o15.lt ao15_o16
  have A307 := hap303 _ o17.lt (Ap.symm ao16_o17)
  have A308 := hap303 _ O290.lt (Ap.symm A296)
  replace bx13nnn := bx13nnn.same sm302 ao13_o16
  replace o15 := o15.same sm302 ao15_o16
  replace o17 := o17.same sm302 (Ap.symm ao16_o17)
  replace O290 := O290.same sm302 (Ap.symm A296)
  refine sx rfl (pAssign (v := V299) rfl rfl) ?_
  refine SeqW.done fun fr309 hf310 => ?_
  have h13 := (congrFun hf310 13).trans h13
  have h15 := (congrFun hf310 15).trans h15
  have h16 : fr309 16 = V299 := (congrFun hf310 16).trans rfl
  have h17 := (congrFun hf310 17).trans h17
  clear hf310
  obtain rfl := Option.some.inj hr
  exact ⟨z279, hz, st, rfl, V284, V299, h13, Q285, bx13nnn, h16, O301, o15, o17, A305, ao13_o15, (Ap.symm A306), ao13_o17, (Ap.symm A307), ao15_o17, trivial⟩
 ·refine W.condF h64 hc311 (W.skip ?_)
  obtain rfl := Option.some.inj hr
  exact ⟨z, hz, st, rfl, v13_0, v16, h13, s13_0, bx13, h16, o16, o15, o17, ao13_o16, ao13_o15, (Ap.symm ao15_o16), ao13_o17, ao16_o17, ao15_o17, trivial⟩

theorem u_l35_BrakeExact_4 {N : Nat}  {z0 z : Nat → Blk} {e m : Mem} {k : Option Nat} {fr : Nat → Value} {x4 : Int} {x5 : Int} {x13 : Maker} {x15 : List Wagon} {x16 : List BrakeRow} {x17 : List Int} {v13_0 : Value} {b13 : Nat} {v15 : Value} {v16 : Value} {v17 : Value} (hz : Zx e.next z0 z) (st : St z e m k) (h4 : fr 4 = (vI x4)) (h5 : fr 5 = (vI x5)) (h13 : fr 13 = (vP b13)) (s13_0 : SlR (TInt 3 .i64) z x13.l v13_0) (bx13 : Bx z e m k b13 [v13_0, (vI x13.n)] 54) (h15 : fr 15 = v15) (o15 : OwF TWagon z e m k x15 v15) (h16 : fr 16 = v16) (o16 : OwF TBrakeRow z e m k x16 v16) (h17 : fr 17 = v17) (o17 : OwF (TInt 3 .i64) z e m k x17 v17) (ao13_o15 : Ap (some b13) (blkOf v15)) (ao13_o16 : Ap (some b13) (blkOf v16)) (ao15_o16 : Ap (blkOf v15) (blkOf v16)) (ao13_o17 : Ap (some b13) (blkOf v17)) (ao15_o17 : Ap (blkOf v15) (blkOf v17)) (ao16_o17 : Ap (blkOf v16) (blkOf v17)) {r : Maker × Bool} (hr : l35_BrakeExact_4 N x4 x5 x13 x15 x16 x17 = some r) : W Try.prog (sub (bodyOf Try.f7) [1, 1, 0, 1, 0, 0, 1, 0, 0, 1, 1, 1, 1, 0]) (fun ex fr' m' => ∃ z', Zx e.next z0 z' ∧ St z' e m' k ∧ ex = AExit.normal ∧ ∃ (w13_0 : Value), fr' 13 = (vP b13) ∧ SlR (TInt 3 .i64) z' r.1.l w13_0 ∧ Bx z' e m' k b13 [w13_0, (vI r.1.n)] 54 ∧ fr' 97 = (vB r.2) ∧ True) fr m := by
 unfold l35_BrakeExact_4 at hr
 refine W.region ?_
 refine sx rfl (pMove (v := v15) rfl h15) ?_
 refine sx rfl (pMove (v := v17) rfl h17) ?_
 refine sx rfl (pMove (v := v16) rfl h16) ?_
 refine sx rfl (pMove (v := (vP b13)) rfl h13) ?_
 refine SeqW.consX rfl (kBuild (T := (TInt 3 .i64)) rfl Try.underlying22 Try.type3 rfl rfl rfl rfl ([1, 60, 80, 81, 200, 0, 201] : List Int) [[(vI 1)], [(vI 60)], [(vI 80)], [(vI 81)], [(vI 200)], [(vI 0)], [(vI 201)]] rfl rfl rfl (BuildOk.mk (w := (vI 1)) rfl rfl rfl rfl (BuildOk.mk (w := (vI 60)) rfl rfl rfl rfl (BuildOk.mk (w := (vI 80)) rfl rfl rfl rfl (BuildOk.mk (w := (vI 81)) rfl rfl rfl rfl (BuildOk.mk (w := (vI 200)) rfl rfl rfl rfl (BuildOk.mk (w := (vI 0)) rfl rfl rfl rfl (BuildOk.mk (w := (vI 201)) rfl rfl rfl rfl trivial))))))) st ?_)
 intro V335 m336 st O337 sm338 hap339
 have A341 := hap339 _ bx13.lt'
 have A342 := hap339 _ o15.lt
 have A343 := hap339 _ o16.lt
 have A344 := hap339 _ o17.lt
 replace bx13 := bx13.same sm338 Ap.none'
 replace o15 := o15.same sm338 Ap.none'
 replace o16 := o16.same sm338 Ap.none'
 replace o17 := o17.same sm338 Ap.none'
 obtain ⟨z345, hz346, st, Q347, hl348⟩ := O337.freeze st
 replace s13_0 := s13_0.mono hz346.le
 replace bx13 := bx13.zle (hl348 _ A341)
 replace o15 := o15.zle hz346.le (hl348 _ A342)
 replace o16 := o16.zle hz346.le (hl348 _ A343)
 replace o17 := o17.zle hz346.le (hl348 _ A344)
 replace hz := hz.trans hz346
 obtain ⟨y349, hy349, hr⟩ := bind_some hr
 refine SeqW.consX rfl (StepX.call (gCallee rfl rfl (args2 rfl rfl)) ((c_Maker_Pick (x0 := x13) (z := z345) st.fz st.dead s13_0 ⟨bx13.blk, bx13.lt, bx13.dead, .inr rfl⟩ Q347 hy349).mono ?_))
 rintro _ m354 ⟨z350, V355, hzx351, fz352, sm353, rfl, Q356, X358, -⟩
 replace s13_0 := s13_0.mono hzx351.le
 replace o15 := o15.call hzx351 sm353 (Ap.symm ao13_o15)
 replace o16 := o16.call hzx351 sm353 (Ap.symm ao13_o16)
 replace o17 := o17.call hzx351 sm353 (Ap.symm ao13_o17)
 replace Q347 := Q347.mono hzx351.le
 have bx13n : Bx z350 e m354 k b13 _ _ := ⟨X358.blk, X358.lt, X358.dead, bx13.fresh⟩
 replace hz := hz.trans (Zx.here st hzx351)
 replace st := st.call hzx351 fz352 sm353 bx13.hq
 refine sx rfl (pMove (v := (vP b13)) rfl h13) ?_
 refine SeqW.consX rfl (kBuild (T := (TInt 3 .i64)) rfl Try.underlying22 Try.type3 rfl rfl rfl rfl ([0, 50, 51, 500, (-1), 501] : List Int) [[(vI 0)], [(vI 50)], [(vI 51)], [(vI 500)], [(vI (-1))], [(vI 501)]] rfl rfl rfl (BuildOk.mk (w := (vI 0)) rfl rfl rfl rfl (BuildOk.mk (w := (vI 50)) rfl rfl rfl rfl (BuildOk.mk (w := (vI 51)) rfl rfl rfl rfl (BuildOk.mk (w := (vI 500)) rfl rfl rfl rfl (BuildOk.mk (w := (vI (-1))) rfl rfl rfl rfl (BuildOk.mk (w := (vI 501)) rfl rfl rfl rfl trivial)))))) st ?_)
 intro V359 m360 st O361 sm362 hap363
 have A365 := hap363 _ bx13n.lt'
 have A366 := hap363 _ o15.lt
 have A367 := hap363 _ o16.lt
 have A368 := hap363 _ o17.lt
 replace bx13n := bx13n.same sm362 Ap.none'
 replace o15 := o15.same sm362 Ap.none'
 replace o16 := o16.same sm362 Ap.none'
 replace o17 := o17.same sm362 Ap.none'
 obtain ⟨z369, hz370, st, Q371, hl372⟩ := O361.freeze st
 replace bx13n := bx13n.zle (hl372 _ A365)
 replace o15 := o15.zle hz370.le (hl372 _ A366)
 replace o16 := o16.zle hz370.le (hl372 _ A367)
 replace o17 := o17.zle hz370.le (hl372 _ A368)
 replace Q356 := Q356.mono hz370.le
 replace hz := hz.trans hz370
 obtain ⟨y373, hy373, hr⟩ := bind_some hr
 refine SeqW.consX rfl (StepX.call (gCallee rfl rfl (args2 rfl rfl)) ((c_Maker_Pick (x0 := y349.2) (z := z369) st.fz st.dead Q356 ⟨bx13n.blk, bx13n.lt, bx13n.dead, .inr rfl⟩ Q371 hy373).mono ?_))
 rintro _ m378 ⟨z374, V379, hzx375, fz376, sm377, rfl, Q380, X382, -⟩
 replace o15 := o15.call hzx375 sm377 (Ap.symm ao13_o15)
 replace o16 := o16.call hzx375 sm377 (Ap.symm ao13_o16)
 replace o17 := o17.call hzx375 sm377 (Ap.symm ao13_o17)
 replace Q356 := Q356.mono hzx375.le
 replace Q371 := Q371.mono hzx375.le
 have bx13nn : Bx z374 e m378 k b13 _ _ := ⟨X382.blk, X382.lt, X382.dead, bx13n.fresh⟩
 replace hz := hz.trans (Zx.here st hzx375)
 replace st := st.call hzx375 fz376 sm377 bx13n.hq
 obtain ⟨z383, hz384, st387, Q385, hl386⟩ := o15.freeze st
 have O388 := o16.zle hz384.le (hl386 _ (Ap.symm ao15_o16))
 have O389 := o17.zle hz384.le (hl386 _ (Ap.symm ao15_o17))
 have Q390 := Q380.mono hz384.le
 obtain ⟨z391, hz392, st395, Q393, hl394⟩ := O389.freeze st387
 have Q396 := Q385.mono hz392.le
 have O397 := O388.zle hz392.le (hl394 _ ao16_o17)
 have Q398 := Q390.mono hz392.le
 obtain ⟨z399, hz400, st403, Q401, hl402⟩ := O397.freeze st395
 have Q404 := Q396.mono hz400.le
 have Q405 := Q393.mono hz400.le
 have Q406 := Q398.mono hz400.le
 obtain ⟨y407, hy407, hr⟩ := bind_some hr
 refine SeqW.consX rfl (StepX.call (gCallee rfl rfl (args5 rfl rfl rfl rfl rfl)) ((c_l35_exact (z := z399) st403.fz st.dead Q404 Q405 Q401 hy407).mono ?_))
 rintro _ _ ⟨rfl, rfl⟩
 refine sx rfl (pNot (b := y407) rfl rfl) ?_
 refine sx rfl (pMove (v := (vB (!y407))) rfl rfl) ?_
 rcases if_some hr with ⟨hc408, hr⟩ | ⟨hc411, hr⟩
 ·refine kx rfl rfl rfl hc408 ?_
  iterate 6 refine kx rfl rfl rfl hc408 ?_
  refine sx rfl (pPick (t := true) (v := (vB true)) rfl ((congrArg vB hc408)) rfl) ?_
  refine SeqW.done fun fr409 hf410 => ?_
  have h4 := (congrFun hf410 4).trans h4
  have h5 := (congrFun hf410 5).trans h5
  have h13 := (congrFun hf410 13).trans h13
  have h97 : fr409 97 = (vB true) := (congrFun hf410 97).trans rfl
  clear hf410
  obtain rfl := Option.some.inj hr
  exact ⟨z374, hz, st, rfl, V379, h13, Q380, bx13nn, h97, trivial⟩
 ·refine SeqW.consG rfl rfl rfl hc411 (StepX.pure (pMove (v := v15) rfl h15) ?_)
  refine SeqW.consG rfl rfl rfl hc411 (StepX.pure (pMove (v := v17) rfl h17) ?_)
  refine SeqW.consG rfl rfl rfl hc411 (StepX.pure (pMove (v := v16) rfl h16) ?_)
  refine SeqW.consG rfl rfl rfl hc411 (StepX.pure (pMove (v := (vI x4)) rfl h4) ?_)
  refine SeqW.consG rfl rfl rfl hc411 (StepX.pure (pMove (v := (vI x5)) rfl h5) ?_)
  obtain ⟨z412, hz413, st416, Q414, hl415⟩ := o15.freeze st
  have O417 := o16.zle hz413.le (hl415 _ (Ap.symm ao15_o16))
  have O418 := o17.zle hz413.le (hl415 _ (Ap.symm ao15_o17))
  have Q419 := Q380.mono hz413.le
  obtain ⟨z420, hz421, st424, Q422, hl423⟩ := O418.freeze st416
  have Q425 := Q414.mono hz421.le
  have O426 := O417.zle hz421.le (hl423 _ ao16_o17)
  have Q427 := Q419.mono hz421.le
  obtain ⟨z428, hz429, st432, Q430, hl431⟩ := O426.freeze st424
  have Q433 := Q425.mono hz429.le
  have Q434 := Q422.mono hz429.le
  have Q435 := Q427.mono hz429.le
  obtain ⟨y436, hy436, hr⟩ := bind_some hr
  refine SeqW.consG rfl rfl rfl hc411 (StepX.call (gCallee rfl rfl (args5 rfl rfl rfl rfl rfl)) ((c_l35_exact (z := z428) st432.fz st.dead Q433 Q434 Q430 hy436).mono ?_))
  rintro _ _ ⟨rfl, rfl⟩
  refine SeqW.consG rfl rfl rfl hc411 (StepX.pure (pNot (b := y436) rfl rfl) ?_)
  refine sx rfl (pPick (t := false) (v := (vB (!y436))) rfl ((congrArg vB hc411)) rfl) ?_
  refine SeqW.done fun fr437 hf438 => ?_
  have h4 := (congrFun hf438 4).trans h4
  have h5 := (congrFun hf438 5).trans h5
  have h13 := (congrFun hf438 13).trans h13
  have h97 : fr437 97 = (vB (!y436)) := (congrFun hf438 97).trans rfl
  clear hf438
  obtain rfl := Option.some.inj hr
  exact ⟨z374, hz, st, rfl, V379, h13, Q380, bx13nn, h97, trivial⟩

theorem u_l35_BrakeExact_0 : ∀ (n : Nat) {N : Nat}  {z0 z : Nat → Blk} {e m : Mem} {k : Option Nat} {fr : Nat → Value} {x4 : Int} {x5 : Int} {x13 : Maker} {x14 : Int} {v13_0 : Value} {b13 : Nat} (hz : Zx e.next z0 z) (st : St z e m k) (h4 : fr 4 = (vI x4)) (h5 : fr 5 = (vI x5)) (h13 : fr 13 = (vP b13)) (s13_0 : SlR (TInt 3 .i64) z x13.l v13_0) (bx13 : Bx z e m k b13 [v13_0, (vI x13.n)] 54) (h14 : fr 14 = (vI x14)) {r : Sum (Unit) (Bool)} (hr : l35_BrakeExact_0 N x4 x5 n x13 x14 = some r), W Try.prog (sub (bodyOf Try.f7) [1, 1, 0, 1, 0]) (fun ex fr' m' => ∃ z', Zx e.next z0 z' ∧ St z' e m' k ∧ ((∃ q, r = Sum.inl q ∧ ex = AExit.exit 0 ∧ True) ∨ (∃ q, r = Sum.inr q ∧ ex = AExit.ret ∧ fr' 12 = (vB q) ∧ True))) fr m := by
 intro n
 induction n with
 | zero => intro N z0 z e m k fr x4 x5 x13 x14 v13_0 b13 hz st h4 h5 h13 s13_0 bx13 h14 r hr; cases (show (none : Option _) = some r from hr)
 | succ n ih =>
  intro N z0 z e m k fr x4 x5 x13 x14 v13_0 b13 hz st h4 h5 h13 s13_0 bx13 h14 r hr
  unfold l35_BrakeExact_0 at hr
  refine W.loop1 ?_
  refine W.seq (W.seq (W.region ?_))
  refine sx rfl (pMove (v := (vI x14)) rfl h14) ?_
  refine sx rfl (pLss (k := .i64) (a := x14) (b := 4) rfl rfl rfl) ?_
  refine SeqW.done fun fr20 hf21 => ?_
  have h4 := (congrFun hf21 4).trans h4
  have h5 := (congrFun hf21 5).trans h5
  have h13 := (congrFun hf21 13).trans h13
  have h14 := (congrFun hf21 14).trans h14
  have h24 : fr20 24 = (vB (decide (x14 < 4))) := (congrFun hf21 24).trans rfl
  clear hf21
  refine thenQ.n ?_
  rcases if_some hr with ⟨hc22, hr⟩ | ⟨hc458, hr⟩
  ·refine W.condT h24 hc22 (W.skip ?_)
   refine thenQ.n (W.seq ?_)
   refine W.block ?_
   refine W.seq (W.region ?_)
   refine sx rfl (pMove (v := (vP b13)) rfl h13) ?_
   obtain ⟨y23, hy23, hr⟩ := bind_some hr
   refine SeqW.consX rfl (StepX.call (gCallee rfl rfl (args2 rfl rfl)) ((c_Maker_Wagons (x0 := x13) (z := z) st.fz st.dead s13_0 ⟨bx13.blk, bx13.lt, bx13.dead, .inr rfl⟩ hy23).mono ?_))
   rintro V29 m28 ⟨z24, _, V32, hzx25, fz26, sm27, rfl, Q30, Q33, X35, -⟩
   have A36 := Ap.own bx13.lt' Q30.fresh
   replace s13_0 := s13_0.mono hzx25.le
   have bx13n : Bx z24 e m28 k b13 _ _ := ⟨X35.blk, X35.lt, X35.dead, bx13.fresh⟩
   have Q30 : OwF TWagon z24 e m28 k y23.1 V29 := Q30.up st.next
   replace hz := hz.trans (Zx.here st hzx25)
   replace st := st.call hzx25 fz26 sm27 bx13.hq
   refine sx rfl (pMove (v := (vP b13)) rfl h13) ?_
   obtain ⟨y37, hy37, hr⟩ := bind_some hr
   refine SeqW.consX rfl (StepX.call (gCallee rfl rfl (args1 rfl)) ((c_yardgen_Table (x0 := y23.2) (z := z24) st.fz st.dead Q33 ⟨bx13n.blk, bx13n.lt, bx13n.dead, .inr rfl⟩ hy37).mono ?_))
   rintro V43 m42 ⟨z38, _, V46, hzx39, fz40, sm41, rfl, Q44, Q47, X49, -⟩
   have A50 := Ap.own bx13n.lt' Q44.fresh
   have A51 := Ap.own Q30.lt Q44.fresh
   replace Q30 := Q30.call hzx39 sm41 (Ap.symm A36)
   replace Q33 := Q33.mono hzx39.le
   have bx13nn : Bx z38 e m42 k b13 _ _ := ⟨X49.blk, X49.lt, X49.dead, bx13n.fresh⟩
   have Q44 : OwF TBrakeRow z38 e m42 k y37.1 V43 := Q44.up st.next
   replace hz := hz.trans (Zx.here st hzx39)
   replace st := st.call hzx39 fz40 sm41 bx13n.hq
   refine sx rfl (pAssign (v := V29) rfl rfl) ?_
   refine sx rfl (pAssign (v := V43) rfl rfl) ?_
   refine SeqW.done fun fr52 hf53 => ?_
   have h4 := (congrFun hf53 4).trans h4
   have h5 := (congrFun hf53 5).trans h5
   have h13 := (congrFun hf53 13).trans h13
   have h14 := (congrFun hf53 14).trans h14
   have h15 : fr52 15 = V29 := (congrFun hf53 15).trans rfl
   have h16 : fr52 16 = V43 := (congrFun hf53 16).trans rfl
   clear hf53
   refine thenQ.n (W.seq (W.region ?_))
   refine sx rfl (pMove (v := (vP b13)) rfl h13) ?_
   refine sx rfl (pMove (v := V29) rfl h15) ?_
   refine sx rfl (pLenO (xs := y23.1) rfl Try.underlying25 rfl Q30.ow) ?_
   obtain ⟨y54, hy54, hr⟩ := bind_some hr
   refine SeqW.consX rfl (StepX.call (gCallee rfl rfl (args2 rfl rfl)) ((c_yardgen_Off (x0 := y37.2) (z := z38) st.fz st.dead Q47 ⟨bx13nn.blk, bx13nn.lt, bx13nn.dead, .inr rfl⟩ hy54).mono ?_))
   rintro V60 m59 ⟨z55, _, V63, hzx56, fz57, sm58, rfl, Q61, Q64, X66, -⟩
   have A67 := Ap.own bx13nn.lt' Q61.fresh
   have A68 := Ap.own Q30.lt Q61.fresh
   have A69 := Ap.own Q44.lt Q61.fresh
   replace Q30 := Q30.call hzx56 sm58 (Ap.symm A36)
   replace Q44 := Q44.call hzx56 sm58 (Ap.symm A50)
   replace Q47 := Q47.mono hzx56.le
   have bx13nnn : Bx z55 e m59 k b13 _ _ := ⟨X66.blk, X66.lt, X66.dead, bx13nn.fresh⟩
   have Q61 : OwF (TInt 3 .i64) z55 e m59 k y54.1 V60 := Q61.up st.next
   replace hz := hz.trans (Zx.here st hzx56)
   replace st := st.call hzx56 fz57 sm58 bx13nn.hq
   refine sx rfl (pAssign (v := V60) rfl rfl) ?_
   refine SeqW.done fun fr70 hf71 => ?_
   have h4 := (congrFun hf71 4).trans h4
   have h5 := (congrFun hf71 5).trans h5
   have h13 := (congrFun hf71 13).trans h13
   have h14 := (congrFun hf71 14).trans h14
   have h15 := (congrFun hf71 15).trans h15
   have h16 := (congrFun hf71 16).trans h16
   have h17 : fr70 17 = V60 := (congrFun hf71 17).trans rfl
   clear hf71
   refine thenQ.n (W.seq (W.seq ?_))
   obtain ⟨y78, hy78, hr⟩ := bind_some hr
   refine W.keep (u_l35_BrakeExact_1 (x13 := y54.2) (Zx.refl _) st h13 Q64 bx13nnn h14 h15 Q30 h16 Q44 h17 Q61 A36 A50 A51 A67 A68 A69 hy78) ?_
   rintro ex84 fr79 m80 hk82 ⟨z81, hz83, st, rfl, h41, O85, O86, O87, O88, A89, A90, A91, A92, A93, A94, -⟩
   replace Q64 := Q64.mono hz83.le
   have h4 := (hk82 4 rfl).trans h4
   have h5 := (hk82 5 rfl).trans h5
   have h13 := (hk82 13 rfl).trans h13
   have h14 := (hk82 14 rfl).trans h14
   have h15 := (hk82 15 rfl).trans h15
   have h16 := (hk82 16 rfl).trans h16
   have h17 := (hk82 17 rfl).trans h17
   replace hz := hz.trans hz83
   clear hk82
   refine thenQ.n ?_
   obtain ⟨y189, hy189, hr⟩ := bind_some hr
   refine W.keep (u_l35_BrakeExact_2 (x13 := y54.2) (Zx.refl _) st h13 Q64 O85 h15 O86 h16 O87 h17 O88 h41 A89 A90 A91 A92 A93 A94 hy189) ?_
   rintro ex195 fr190 m191 hk193 ⟨z192, hz194, st, rfl, w196, w197, h13, Q199, X201, h15, O203, h17, O205, O206, A207, A208, A209, A210, A211, A212, -⟩
   have h4 := (hk193 4 rfl).trans h4
   have h5 := (hk193 5 rfl).trans h5
   have h14 := (hk193 14 rfl).trans h14
   have h16 := (hk193 16 rfl).trans h16
   replace hz := hz.trans hz194
   clear hk193
   refine thenQ.n (W.seq ?_)
   refine W.seq (W.region ?_)
   refine sx rfl (pMove (v := (vI x14)) rfl h14) ?_
   refine sx rfl (pEql (k := .i64) (a := x14) (b := 3) rfl rfl rfl) ?_
   refine SeqW.done fun fr213 hf214 => ?_
   have h4 := (congrFun hf214 4).trans h4
   have h5 := (congrFun hf214 5).trans h5
   have h13 := (congrFun hf214 13).trans h13
   have h14 := (congrFun hf214 14).trans h14
   have h15 := (congrFun hf214 15).trans h15
   have h16 := (congrFun hf214 16).trans h16
   have h17 := (congrFun hf214 17).trans h17
   have h64 : fr213 64 = (vB (x14 == 3)) := (congrFun hf214 64).trans rfl
   clear hf214
   refine thenQ.n ?_
   obtain ⟨y312, hy312, hr⟩ := bind_some hr
   refine W.keep (u_l35_BrakeExact_3 (x13 := y189.1) (Zx.refl _) st h13 Q199 X201 h15 O203 h16 O206 h17 O205 h64 A207 A210 A211 A208 A209 (Ap.symm A212) hy312) ?_
   rintro ex318 fr313 m314 hk316 ⟨z315, hz317, st, rfl, w319, w320, h13, Q322, X324, h16, O326, O327, O328, A329, A330, A331, A332, A333, A334, -⟩
   have h4 := (hk316 4 rfl).trans h4
   have h5 := (hk316 5 rfl).trans h5
   have h14 := (hk316 14 rfl).trans h14
   have h15 := (hk316 15 rfl).trans h15
   have h17 := (hk316 17 rfl).trans h17
   replace hz := hz.trans hz317
   clear hk316
   refine thenQ.n (W.seq ?_)
   obtain ⟨y439, hy439, hr⟩ := bind_some hr
   refine W.keep (u_l35_BrakeExact_4 (x13 := y312.1) (Zx.refl _) st h4 h5 h13 Q322 X324 h15 O327 h16 O326 h17 O328 A330 A329 (Ap.symm A331) A332 A334 A333 hy439) ?_
   rintro ex445 fr440 m441 hk443 ⟨z442, hz444, st, rfl, w446, h13, Q448, X450, h97, -⟩
   have h4 := (hk443 4 rfl).trans h4
   have h5 := (hk443 5 rfl).trans h5
   have h14 := (hk443 14 rfl).trans h14
   replace hz := hz.trans hz444
   clear hk443
   refine thenQ.n ?_
   rcases if_some hr with ⟨hc451, hr⟩ | ⟨hc454, hr⟩
   ·refine W.condT h97 hc451 (W.seq (W.region ?_))
    refine sx rfl (pAssign (v := (vB false)) rfl rfl) ?_
    refine SeqW.done fun fr452 hf453 => ?_
    have h12 : fr452 12 = (vB false) := (congrFun hf453 12).trans rfl
    clear hf453
    refine thenQ.n ?_
    refine W.ret ?_
    refine blockQ.r ?_
    refine thenQ.r ?_
    refine thenQ.r ?_
    obtain rfl := Option.some.inj hr
    exact ⟨z442, hz, st, .inr ⟨_, rfl, rfl, h12, trivial⟩⟩
   ·refine W.condF h97 hc454 (W.skip ?_)
    refine blockQ.n ?_
    refine thenQ.n (W.region ?_)
    refine sx rfl (pMove (v := (vI x14)) rfl h14) ?_
    refine sx rfl (pAdd (k := .i64) (a := x14) (b := 1) rfl rfl rfl) ?_
    obtain ⟨y455, hy455, hr⟩ := lt_some hr
    refine sx rfl (pAssign rfl (congrArg (Value.int .i64) hy455)) ?_
    refine SeqW.done fun fr456 hf457 => ?_
    have h4 := (congrFun hf457 4).trans h4
    have h5 := (congrFun hf457 5).trans h5
    have h13 := (congrFun hf457 13).trans h13
    have h14 : fr456 14 = (vI y455) := (congrFun hf457 14).trans rfl
    clear hf457
    refine thenQ.n ?_
    exact ih (x13 := y439.1) hz st h4 h5 h13 Q448 X450 h14 hr
  ·refine W.condF h24 hc458 ?_
   refine W.exit ?_
   refine thenQ.x ?_
   refine thenQ.x ?_
   obtain rfl := Option.some.inj hr
   exact ⟨z, hz, st, .inl ⟨_, rfl, rfl, trivial⟩⟩

theorem u_l35_BrakeExact_6 {N : Nat}  {z0 z : Nat → Blk} {e m : Mem} {k : Option Nat} {fr : Nat → Value} {x19 : Int} {x20 : Int} (hz : Zx e.next z0 z) (st : St z e m k) (h19 : fr 19 = (vI x19)) (h20 : fr 20 = (vI x20)) {r : Bool} (hr : l35_BrakeExact_6 N x19 x20 = some r) : W Try.prog (sub (bodyOf Try.f7) [1, 1, 1, 0, 1, 0, 0, 1, 0, 0, 1, 0]) (fun ex fr' m' => ∃ z', Zx e.next z0 z' ∧ St z' e m' k ∧ ex = AExit.normal ∧ fr' 121 = (vB r) ∧ True) fr m := by
 unfold l35_BrakeExact_6 at hr
 refine W.region ?_
 refine sx rfl (pMove (v := (vI x20)) rfl h20) ?_
 obtain ⟨y475, hy475, hr⟩ := bind_some hr
 refine SeqW.consX rfl (StepX.call (gCallee rfl rfl (args1 rfl)) ((c_brake_Factor (z := z) st.fz st.dead  hy475).mono ?_))
 rintro _ _ ⟨rfl, rfl⟩
 refine sx rfl (pMove (v := (vI x20)) rfl h20) ?_
 obtain ⟨y476, hy476, hr⟩ := bind_some hr
 refine SeqW.consX rfl (StepX.call (gCallee rfl rfl (args1 rfl)) ((c_r35_Factor (z := z) st.fz st.dead  hy476).mono ?_))
 rintro _ _ ⟨rfl, rfl⟩
 refine sx rfl (pNeq (k := .i64) (a := y475) (b := y476) rfl rfl rfl) ?_
 refine sx rfl (pMove (v := (vB (y475 != y476))) rfl rfl) ?_
 rcases if_some hr with ⟨hc477, hr⟩ | ⟨hc480, hr⟩
 ·refine kx rfl rfl rfl hc477 ?_
  iterate 10 refine kx rfl rfl rfl hc477 ?_
  refine sx rfl (pPick (t := true) (v := (vB true)) rfl ((congrArg vB hc477)) rfl) ?_
  refine SeqW.done fun fr478 hf479 => ?_
  have h19 := (congrFun hf479 19).trans h19
  have h121 : fr478 121 = (vB true) := (congrFun hf479 121).trans rfl
  clear hf479
  obtain rfl := Option.some.inj hr
  exact ⟨z, hz, st, rfl, h121, trivial⟩
 ·refine SeqW.consG rfl rfl rfl hc480 (StepX.pure (pMove (v := (vI x20)) rfl h20) ?_)
  refine SeqW.consG rfl rfl rfl hc480 (StepX.pure (pMul (k := .i64) (a := 100) (b := x20) rfl rfl rfl) ?_)
  refine SeqW.consG rfl rfl rfl hc480 (StepX.pure (pMove (v := (vI x19)) rfl h19) ?_)
  refine SeqW.consG rfl rfl rfl hc480 (StepX.pure (pAdd (k := .i64) (a := (IntKind.wrap .i64 (100 * x20))) (b := x19) rfl rfl rfl) ?_)
  obtain ⟨y481, hy481, hr⟩ := bind_some hr
  refine SeqW.consG rfl rfl rfl hc480 (StepX.call (gCallee rfl rfl (args1 rfl)) ((c_brake_Factor (z := z) st.fz st.dead  hy481).mono ?_))
  rintro _ _ ⟨rfl, rfl⟩
  refine SeqW.consG rfl rfl rfl hc480 (StepX.pure (pMove (v := (vI x20)) rfl h20) ?_)
  refine SeqW.consG rfl rfl rfl hc480 (StepX.pure (pMul (k := .i64) (a := 100) (b := x20) rfl rfl rfl) ?_)
  refine SeqW.consG rfl rfl rfl hc480 (StepX.pure (pMove (v := (vI x19)) rfl h19) ?_)
  refine SeqW.consG rfl rfl rfl hc480 (StepX.pure (pAdd (k := .i64) (a := (IntKind.wrap .i64 (100 * x20))) (b := x19) rfl rfl rfl) ?_)
  obtain ⟨y482, hy482, hr⟩ := bind_some hr
  refine SeqW.consG rfl rfl rfl hc480 (StepX.call (gCallee rfl rfl (args1 rfl)) ((c_r35_Factor (z := z) st.fz st.dead  hy482).mono ?_))
  rintro _ _ ⟨rfl, rfl⟩
  refine SeqW.consG rfl rfl rfl hc480 (StepX.pure (pNeq (k := .i64) (a := y481) (b := y482) rfl rfl rfl) ?_)
  refine sx rfl (pPick (t := false) (v := (vB (y481 != y482))) rfl ((congrArg vB hc480)) rfl) ?_
  refine SeqW.done fun fr483 hf484 => ?_
  have h19 := (congrFun hf484 19).trans h19
  have h121 : fr483 121 = (vB (y481 != y482)) := (congrFun hf484 121).trans rfl
  clear hf484
  obtain rfl := Option.some.inj hr
  exact ⟨z, hz, st, rfl, h121, trivial⟩

theorem u_l35_BrakeExact_5 : ∀ (n : Nat) {N : Nat}  {z0 z : Nat → Blk} {e m : Mem} {k : Option Nat} {fr : Nat → Value} {x4 : Int} {x19 : Int} (hz : Zx e.next z0 z) (st : St z e m k) (h4 : fr 4 = (vI x4)) (h19 : fr 19 = (vI x19)) {r : Sum (Unit) (Bool)} (hr : l35_BrakeExact_5 N x4 n x19 = some r), W Try.prog (sub (bodyOf Try.f7) [1, 1, 1, 0, 1, 0]) (fun ex fr' m' => ∃ z', Zx e.next z0 z' ∧ St z' e m' k ∧ ((∃ q, r = Sum.inl q ∧ ex = AExit.exit 2 ∧ True) ∨ (∃ q, r = Sum.inr q ∧ ex = AExit.ret ∧ fr' 12 = (vB q) ∧ True))) fr m := by
 intro n
 induction n with
 | zero => intro N z0 z e m k fr x4 x19 hz st h4 h19 r hr; cases (show (none : Option _) = some r from hr)
 | succ n ih =>
  intro N z0 z e m k fr x4 x19 hz st h4 h19 r hr
  unfold l35_BrakeExact_5 at hr
  refine W.loop1 ?_
  refine W.seq (W.seq (W.region ?_))
  refine sx rfl (pMove (v := (vI x19)) rfl h19) ?_
  refine sx rfl (pLss (k := .i64) (a := x19) (b := 3) rfl rfl rfl) ?_
  refine SeqW.done fun fr469 hf470 => ?_
  have h4 := (congrFun hf470 4).trans h4
  have h19 := (congrFun hf470 19).trans h19
  have h99 : fr469 99 = (vB (decide (x19 < 3))) := (congrFun hf470 99).trans rfl
  clear hf470
  refine thenQ.n ?_
  rcases if_some hr with ⟨hc471, hr⟩ | ⟨hc499, hr⟩
  ·refine W.condT h99 hc471 (W.skip ?_)
   refine thenQ.n (W.seq ?_)
   refine W.block ?_
   refine W.seq (W.region ?_)
   refine sx rfl (pMove (v := (vI x4)) rfl h4) ?_
   obtain ⟨y472, hy472, hr⟩ := bind_some hr
   refine SeqW.consX rfl (StepX.call (gCallee rfl rfl (args2 rfl rfl)) ((c_yardgen_Place (z := z) st.fz st.dead  hy472).mono ?_))
   rintro _ _ ⟨rfl, rfl⟩
   refine sx rfl (pAssign (v := (vI y472)) rfl rfl) ?_
   refine SeqW.done fun fr473 hf474 => ?_
   have h4 := (congrFun hf474 4).trans h4
   have h19 := (congrFun hf474 19).trans h19
   have h20 : fr473 20 = (vI y472) := (congrFun hf474 20).trans rfl
   clear hf474
   refine thenQ.n (W.seq ?_)
   obtain ⟨y485, hy485, hr⟩ := bind_some hr
   refine W.keep (u_l35_BrakeExact_6 (Zx.refl _) st h19 h20 hy485) ?_
   rintro ex491 fr486 m487 hk489 ⟨z488, hz490, st, rfl, h121, -⟩
   have h4 := (hk489 4 rfl).trans h4
   have h19 := (hk489 19 rfl).trans h19
   replace hz := hz.trans hz490
   clear hk489
   refine thenQ.n ?_
   rcases if_some hr with ⟨hc492, hr⟩ | ⟨hc495, hr⟩
   ·refine W.condT h121 hc492 (W.seq (W.region ?_))
    refine sx rfl (pAssign (v := (vB false)) rfl rfl) ?_
    refine SeqW.done fun fr493 hf494 => ?_
    have h12 : fr493 12 = (vB false) := (congrFun hf494 12).trans rfl
    clear hf494
    refine thenQ.n ?_
    refine W.ret ?_
    refine blockQ.r ?_
    refine thenQ.r ?_
    refine thenQ.r ?_
    obtain rfl := Option.some.inj hr
    exact ⟨z488, hz, st, .inr ⟨_, rfl, rfl, h12, trivial⟩⟩
   ·refine W.condF h121 hc495 (W.skip ?_)
    refine blockQ.n ?_
    refine thenQ.n (W.region ?_)
    refine sx rfl (pMove (v := (vI x19)) rfl h19) ?_
    refine sx rfl (pAdd (k := .i64) (a := x19) (b := 1) rfl rfl rfl) ?_
    obtain ⟨y496, hy496, hr⟩ := lt_some hr
    refine sx rfl (pAssign rfl (congrArg (Value.int .i64) hy496)) ?_
    refine SeqW.done fun fr497 hf498 => ?_
    have h4 := (congrFun hf498 4).trans h4
    have h19 : fr497 19 = (vI y496) := (congrFun hf498 19).trans rfl
    clear hf498
    refine thenQ.n ?_
    exact ih hz st h4 h19 hr
  ·refine W.condF h99 hc499 ?_
   refine W.exit ?_
   refine thenQ.x ?_
   refine thenQ.x ?_
   obtain rfl := Option.some.inj hr
   exact ⟨z, hz, st, .inl ⟨_, rfl, rfl, trivial⟩⟩

theorem u_l35_BrakeExact_7 {N : Nat}  {z0 z : Nat → Blk} {e m : Mem} {k : Option Nat} {fr : Nat → Value} {x1 : List Wagon} {x2 : List Int} {x3 : List BrakeRow} {v1 : Value} {v2 : Value} {v3 : Value} (hz : Zx e.next z0 z) (st : St z e m k) (h1 : fr 1 = v1) (s1 : SlR TWagon z x1 v1) (h2 : fr 2 = v2) (s2 : SlR (TInt 3 .i64) z x2 v2) (h3 : fr 3 = v3) (s3 : SlR TBrakeRow z x3 v3) {r : Bool} (hr : l35_BrakeExact_7 N x1 x2 x3 = some r) : W Try.prog (sub (bodyOf Try.f7) [1, 1, 1, 1, 0, 0]) (fun ex fr' m' => ∃ z', Zx e.next z0 z' ∧ St z' e m' k ∧ ex = AExit.normal ∧ fr' 134 = (vB r) ∧ True) fr m := by
 unfold l35_BrakeExact_7 at hr
 refine W.region ?_
 refine sx rfl (pMove (v := v1) rfl h1) ?_
 refine sx rfl (pLenR (xs := x1) rfl Try.underlying25 rfl s1) ?_
 refine sx rfl (pGtr (k := .i64) (a := (x1.length : Int)) (b := 120) rfl rfl rfl) ?_
 refine sx rfl (pMove (v := (vB (decide (120 < (x1.length : Int))))) rfl rfl) ?_
 rcases if_some hr with ⟨hc508, hr⟩ | ⟨hc511, hr⟩
 ·refine kx rfl rfl rfl hc508 ?_
  iterate 2 refine kx rfl rfl rfl hc508 ?_
  refine sx rfl (pPick (t := true) (v := (vB true)) rfl ((congrArg vB hc508)) rfl) ?_
  refine sx rfl (pMove (v := (vB true)) rfl rfl) ?_
  iterate 3 refine kx rfl rfl rfl rfl ?_
  refine sx rfl (pPick (t := true) (v := (vB true)) rfl ((congrArg vB (rfl : true = true))) rfl) ?_
  refine SeqW.done fun fr509 hf510 => ?_
  have h1 := (congrFun hf510 1).trans h1
  have h2 := (congrFun hf510 2).trans h2
  have h3 := (congrFun hf510 3).trans h3
  have h134 : fr509 134 = (vB true) := (congrFun hf510 134).trans rfl
  clear hf510
  obtain rfl := Option.some.inj hr
  exact ⟨z, hz, st, rfl, h134, trivial⟩
 ·refine SeqW.consG rfl rfl rfl hc511 (StepX.pure (pMove (v := v2) rfl h2) ?_)
  refine SeqW.consG rfl rfl rfl hc511 (StepX.pure (pLenR (xs := x2) rfl Try.underlying22 rfl s2) ?_)
  refine SeqW.consG rfl rfl rfl hc511 (StepX.pure (pGtr (k := .i64) (a := (x2.length : Int)) (b := 120) rfl rfl rfl) ?_)
  refine sx rfl (pPick (t := false) (v := (vB (decide (120 < (x2.length : Int))))) rfl ((congrArg vB hc511)) rfl) ?_
  refine sx rfl (pMove (v := (vB (decide (120 < (x2.length : Int))))) rfl rfl) ?_
  rcases if_some hr with ⟨hc512, hr⟩ | ⟨hc515, hr⟩
  ·refine kx rfl rfl rfl hc512 ?_
   iterate 2 refine kx rfl rfl rfl hc512 ?_
   refine sx rfl (pPick (t := true) (v := (vB true)) rfl ((congrArg vB hc512)) rfl) ?_
   refine SeqW.done fun fr513 hf514 => ?_
   have h1 := (congrFun hf514 1).trans h1
   have h2 := (congrFun hf514 2).trans h2
   have h3 := (congrFun hf514 3).trans h3
   have h134 : fr513 134 = (vB true) := (congrFun hf514 134).trans rfl
   clear hf514
   obtain rfl := Option.some.inj hr
   exact ⟨z, hz, st, rfl, h134, trivial⟩
  ·refine SeqW.consG rfl rfl rfl hc515 (StepX.pure (pMove (v := v3) rfl h3) ?_)
   refine SeqW.consG rfl rfl rfl hc515 (StepX.pure (pLenR (xs := x3) rfl Try.underlying27 rfl s3) ?_)
   refine SeqW.consG rfl rfl rfl hc515 (StepX.pure (pGtr (k := .i64) (a := (x3.length : Int)) (b := 100) rfl rfl rfl) ?_)
   refine sx rfl (pPick (t := false) (v := (vB (decide (100 < (x3.length : Int))))) rfl ((congrArg vB hc515)) rfl) ?_
   refine SeqW.done fun fr516 hf517 => ?_
   have h1 := (congrFun hf517 1).trans h1
   have h2 := (congrFun hf517 2).trans h2
   have h3 := (congrFun hf517 3).trans h3
   have h134 : fr516 134 = (vB (decide (100 < (x3.length : Int)))) := (congrFun hf517 134).trans rfl
   clear hf517
   obtain rfl := Option.some.inj hr
   exact ⟨z, hz, st, rfl, h134, trivial⟩

theorem u_l35_BrakeExact_8 {N : Nat}  {z0 z : Nat → Blk} {e m : Mem} {k : Option Nat} {fr : Nat → Value} {x1 : List Wagon} {x2 : List Int} {x3 : List BrakeRow} {x4 : Int} {x5 : Int} {v1 : Value} {v2 : Value} {v3 : Value} (hz : Zx e.next z0 z) (st : St z e m k) (h1 : fr 1 = v1) (s1 : SlR TWagon z x1 v1) (h2 : fr 2 = v2) (s2 : SlR (TInt 3 .i64) z x2 v2) (h3 : fr 3 = v3) (s3 : SlR TBrakeRow z x3 v3) (h4 : fr 4 = (vI x4)) (h5 : fr 5 = (vI x5)) {r : Bool} (hr : l35_BrakeExact_8 N x1 x2 x3 x4 x5 = some r) : W Try.prog (sub (bodyOf Try.f7) [1, 1, 1, 1, 1, 0]) (fun ex fr' m' => ∃ z', Zx e.next z0 z' ∧ St z' e m' k ∧ ex = AExit.normal ∧ fr' 12 = (vB r) ∧ True) fr m := by
 unfold l35_BrakeExact_8 at hr
 refine W.region ?_
 refine sx rfl (pMove (v := v1) rfl h1) ?_
 refine sx rfl (pMove (v := v2) rfl h2) ?_
 refine sx rfl (pMove (v := v3) rfl h3) ?_
 refine sx rfl (pMove (v := (vI x4)) rfl h4) ?_
 refine sx rfl (pMove (v := (vI x5)) rfl h5) ?_
 obtain ⟨y530, hy530, hr⟩ := bind_some hr
 refine SeqW.consX rfl (StepX.call (gCallee rfl rfl (args5 rfl rfl rfl rfl rfl)) ((c_l35_exact (z := z) st.fz st.dead s1 s2 s3 hy530).mono ?_))
 rintro _ _ ⟨rfl, rfl⟩
 refine sx rfl (pMove (v := (vB y530)) rfl rfl) ?_
 rcases if_some hr with ⟨hc531, hr⟩ | ⟨hc535, hr⟩
 ·obtain ⟨y532, hy532, hr⟩ := bind_some hr
  refine SeqW.consG rfl rfl rfl hc531 (StepX.call (gCallee rfl rfl args0) ((c_l35_sane (z := z) st.fz st.dead  hy532).mono ?_))
  rintro _ _ ⟨rfl, rfl⟩
  refine sx rfl (pPick (t := true) (v := (vB y532)) rfl ((congrArg vB hc531)) rfl) ?_
  refine sx rfl (pAssign (v := (vB y532)) rfl rfl) ?_
  refine SeqW.done fun fr533 hf534 => ?_
  have h12 : fr533 12 = (vB y532) := (congrFun hf534 12).trans rfl
  clear hf534
  obtain rfl := Option.some.inj hr
  exact ⟨z, hz, st, rfl, h12, trivial⟩
 ·refine kx rfl rfl rfl hc535 ?_
  refine sx rfl (pPick (t := false) (v := (vB false)) rfl ((congrArg vB hc535)) rfl) ?_
  refine sx rfl (pAssign (v := (vB false)) rfl rfl) ?_
  refine SeqW.done fun fr536 hf537 => ?_
  have h12 : fr536 12 = (vB false) := (congrFun hf537 12).trans rfl
  clear hf537
  obtain rfl := Option.some.inj hr
  exact ⟨z, hz, st, rfl, h12, trivial⟩

theorem u_l35_BrakeExact {N : Nat}  {z0 z : Nat → Blk} {e m : Mem} {k : Option Nat} {fr : Nat → Value} {x0 : List Int} {x1 : List Wagon} {x2 : List Int} {x3 : List BrakeRow} {x4 : Int} {x5 : Int} {v0 : Value} {v1 : Value} {v2 : Value} {v3 : Value} (hz : Zx e.next z0 z) (st : St z e m k) (h0 : fr 0 = v0) (s0 : SlR (TInt 3 .i64) z x0 v0) (h1 : fr 1 = v1) (s1 : SlR TWagon z x1 v1) (h2 : fr 2 = v2) (s2 : SlR (TInt 3 .i64) z x2 v2) (h3 : fr 3 = v3) (s3 : SlR TBrakeRow z x3 v3) (h4 : fr 4 = (vI x4)) (h5 : fr 5 = (vI x5)) {r : Bool} (hr : l35_BrakeExact N x0 x1 x2 x3 x4 x5 = some r) : W Try.prog (sub (bodyOf Try.f7) []) (fun ex fr' m' => ∃ z', Zx e.next z0 z' ∧ St z' e m' k ∧ (ex = .normal ∨ ex = .ret) ∧ fr' 12 = (vB r) ∧ True) fr m := by
 unfold l35_BrakeExact at hr
 refine W.seq (W.region ?_)
 refine sx rfl (pAssign (v := (vB false)) rfl rfl) ?_
 refine SeqW.done fun fr1 hf2 => ?_
 have h0 := (congrFun hf2 0).trans h0
 have h1 := (congrFun hf2 1).trans h1
 have h2 := (congrFun hf2 2).trans h2
 have h3 := (congrFun hf2 3).trans h3
 have h4 := (congrFun hf2 4).trans h4
 have h5 := (congrFun hf2 5).trans h5
 clear hf2
 refine thenQ.n (W.seq (W.region ?_))
 refine sx rfl (pMove (v := v0) rfl h0) ?_
 obtain ⟨y3, hy3, hr⟩ := bind_some hr
 refine SeqW.consX rfl (StepX.call (gCallee rfl rfl (args1 rfl)) ((c_gen_New (z := z) st.fz st.dead s0 hy3).mono ?_))
 rintro _ m8 ⟨z4, B9, V12, hzx5, fz6, sm7, rfl, Q13, X10, hn15, -⟩
 replace s0 := s0.mono hzx5.le
 replace s1 := s1.mono hzx5.le
 replace s2 := s2.mono hzx5.le
 replace s3 := s3.mono hzx5.le
 have X10 : Bx z4 e m8 k B9 _ _ := ⟨X10.blk, X10.lt, X10.dead, .inl (Nat.le_trans st.next hn15)⟩
 replace hz := hz.trans (Zx.here st hzx5)
 replace st := st.call hzx5 fz6 sm7 no_hq
 refine sx rfl (pAssign (v := (vP B9)) rfl rfl) ?_
 refine SeqW.done fun fr16 hf17 => ?_
 have h1 := (congrFun hf17 1).trans h1
 have h2 := (congrFun hf17 2).trans h2
 have h3 := (congrFun hf17 3).trans h3
 have h4 := (congrFun hf17 4).trans h4
 have h5 := (congrFun hf17 5).trans h5
 have h13 : fr16 13 = (vP B9) := (congrFun hf17 13).trans rfl
 clear hf17
 refine thenQ.n (W.seq ?_)
 refine W.seq (W.region ?_)
 refine sx rfl (pAssign (v := (vI 0)) rfl rfl) ?_
 refine SeqW.done fun fr18 hf19 => ?_
 have h1 := (congrFun hf19 1).trans h1
 have h2 := (congrFun hf19 2).trans h2
 have h3 := (congrFun hf19 3).trans h3
 have h4 := (congrFun hf19 4).trans h4
 have h5 := (congrFun hf19 5).trans h5
 have h13 := (congrFun hf19 13).trans h13
 have h14 : fr18 14 = (vI 0) := (congrFun hf19 14).trans rfl
 clear hf19
 refine thenQ.n ?_
 refine W.block ?_
 obtain ⟨y459, hy459, hr⟩ := bind_some hr
 refine W.keep (u_l35_BrakeExact_0 (x13 := y3) _ (Zx.refl _) st h4 h5 h13 Q13 X10 h14 hy459) ?_
 rintro ex465 fr460 m461 hk463 ⟨z462, hz464, st, ⟨y466, rfl, rfl, -⟩ | ⟨y546, rfl, rfl, h12, -⟩⟩
 ·dsimp only at hr
  replace s1 := s1.mono hz464.le
  replace s2 := s2.mono hz464.le
  replace s3 := s3.mono hz464.le
  have h1 := (hk463 1 rfl).trans h1
  have h2 := (hk463 2 rfl).trans h2
  have h3 := (hk463 3 rfl).trans h3
  have h4 := (hk463 4 rfl).trans h4
  have h5 := (hk463 5 rfl).trans h5
  replace hz := hz.trans hz464
  clear hk463
  refine blockQ.hit ?_
  refine thenQ.n (W.seq ?_)
  refine W.seq (W.region ?_)
  refine sx rfl (pAssign (v := (vI (-2))) rfl rfl) ?_
  refine SeqW.done fun fr467 hf468 => ?_
  have h1 := (congrFun hf468 1).trans h1
  have h2 := (congrFun hf468 2).trans h2
  have h3 := (congrFun hf468 3).trans h3
  have h4 := (congrFun hf468 4).trans h4
  have h5 := (congrFun hf468 5).trans h5
  have h19 : fr467 19 = (vI (-2)) := (congrFun hf468 19).trans rfl
  clear hf468
  refine thenQ.n ?_
  refine W.block ?_
  obtain ⟨y500, hy500, hr⟩ := bind_some hr
  refine W.keep (u_l35_BrakeExact_5 _ (Zx.refl _) st h4 h19 hy500) ?_
  rintro ex506 fr501 m502 hk504 ⟨z503, hz505, st, ⟨y507, rfl, rfl, -⟩ | ⟨y545, rfl, rfl, h12, -⟩⟩
  ·dsimp only at hr
   replace s1 := s1.mono hz505.le
   replace s2 := s2.mono hz505.le
   replace s3 := s3.mono hz505.le
   have h1 := (hk504 1 rfl).trans h1
   have h2 := (hk504 2 rfl).trans h2
   have h3 := (hk504 3 rfl).trans h3
   have h4 := (hk504 4 rfl).trans h4
   have h5 := (hk504 5 rfl).trans h5
   replace hz := hz.trans hz505
   clear hk504
   refine blockQ.hit ?_
   refine thenQ.n (W.seq (W.seq ?_))
   obtain ⟨y518, hy518, hr⟩ := bind_some hr
   refine W.keep (u_l35_BrakeExact_7 (Zx.refl _) st h1 s1 h2 s2 h3 s3 hy518) ?_
   rintro ex524 fr519 m520 hk522 ⟨z521, hz523, st, rfl, h134, -⟩
   replace s1 := s1.mono hz523.le
   replace s2 := s2.mono hz523.le
   replace s3 := s3.mono hz523.le
   have h1 := (hk522 1 rfl).trans h1
   have h2 := (hk522 2 rfl).trans h2
   have h3 := (hk522 3 rfl).trans h3
   have h4 := (hk522 4 rfl).trans h4
   have h5 := (hk522 5 rfl).trans h5
   replace hz := hz.trans hz523
   clear hk522
   refine thenQ.n ?_
   rcases if_some hr with ⟨hc525, hr⟩ | ⟨hc529, hr⟩
   ·refine W.condT h134 hc525 (W.seq (W.region ?_))
    obtain ⟨y526, hy526, hr⟩ := bind_some hr
    refine SeqW.consX rfl (StepX.call (gCallee rfl rfl args0) ((c_l35_sane (z := z521) st.fz st.dead  hy526).mono ?_))
    rintro _ _ ⟨rfl, rfl⟩
    refine sx rfl (pAssign (v := (vB y526)) rfl rfl) ?_
    refine SeqW.done fun fr527 hf528 => ?_
    have h12 : fr527 12 = (vB y526) := (congrFun hf528 12).trans rfl
    clear hf528
    refine thenQ.n ?_
    refine W.ret ?_
    refine thenQ.r ?_
    obtain rfl := Option.some.inj hr
    exact ⟨z521, hz, st, .inr rfl, h12, trivial⟩
   ·refine W.condF h134 hc529 (W.skip ?_)
    refine thenQ.n (W.seq ?_)
    obtain ⟨y538, hy538, hr⟩ := bind_some hr
    refine W.keep (u_l35_BrakeExact_8 (Zx.refl _) st h1 s1 h2 s2 h3 s3 h4 h5 hy538) ?_
    rintro ex544 fr539 m540 hk542 ⟨z541, hz543, st, rfl, h12, -⟩
    replace hz := hz.trans hz543
    clear hk542
    refine thenQ.n ?_
    refine W.ret ?_
    obtain rfl := Option.some.inj hr
    exact ⟨z541, hz, st, .inr rfl, h12, trivial⟩
  ·dsimp only at hr
   replace hz := hz.trans hz505
   clear hk504
   refine blockQ.r ?_
   refine thenQ.r ?_
   obtain rfl := Option.some.inj hr
   exact ⟨z503, hz, st, .inr rfl, h12, trivial⟩
 ·dsimp only at hr
  replace hz := hz.trans hz464
  clear hk463
  refine blockQ.r ?_
  refine thenQ.r ?_
  obtain rfl := Option.some.inj hr
  exact ⟨z462, hz, st, .inr rfl, h12, trivial⟩

theorem c_l35_BrakeExact {N : Nat} {z : Nat → Blk} {m : Mem} {x0 : List Int} {x1 : List Wagon} {x2 : List Int} {x3 : List BrakeRow} {x4 : Int} {x5 : Int} {v0 : Value} {v1 : Value} {v2 : Value} {v3 : Value} (fz : Fz z m) (hd : ∀ b, m.next ≤ b → m.blk b = .dead) (s0 : SlR (TInt 3 .i64) z x0 v0) (s1 : SlR TWagon z x1 v1) (s2 : SlR (TInt 3 .i64) z x2 v2) (s3 : SlR TBrakeRow z x3 v3) {r : Bool} (hr : l35_BrakeExact N x0 x1 x2 x3 x4 x5 = some r) : CallW Try.prog 7 #[v0, v1, v2, v3, (vI x4), (vI x5)] m fun v m' => v = (vB r) ∧ m' = m := by
 refine CallW.flat Try.func7 rfl (by kernel_rfl) (Nat.le_of_ble_eq_true rfl) rfl (z := z) (fun fr hf => ?_)
 have h0 : fr 0 = _ := hf 0 _ rfl
 have h1 : fr 1 = _ := hf 1 _ rfl
 have h2 : fr 2 = _ := hf 2 _ rfl
 have h3 : fr 3 = _ := hf 3 _ rfl
 have h4 : fr 4 = _ := hf 4 _ rfl
 have h5 : fr 5 = _ := hf 5 _ rfl
 refine (u_l35_BrakeExact (k := none) (Zx.refl _) (St.start fz hd) h0 s0 h1 s1 h2 s2 h3 s3 h4 h5 hr).mono ?_
 rintro ex fr' m' ⟨z', hz, st, he, h12, -⟩
 exact ⟨he, z', st, [(vB r)], ⟨h12.symm, trivial⟩, .inl rfl, rfl⟩

end Go.W
