/- The models are what the program computes. -/
import Derived.Test.YthlaohffhjlkbaaW2
set_option linter.unusedVariables false
set_option linter.unusedSimpArgs false
set_option maxRecDepth 100000
set_option maxHeartbeats 4000000
namespace Go.W
open Go.AM Go.Proofs


/-! ### humpyard/humpyardlaw07.WheelOffsets -/

theorem u_l07_WheelOffsets_2 {N : Nat}  {z0 z : Nat → Blk} {e m : Mem} {k : Option Nat} {fr : Nat → Value} {x8 : Int} {x9 : List Wagon} {x4 : Wagon} {b4 : Nat} {x7 : Maker} {v7_0 : Value} {b7 : Nat} {v9 : Value} (hz : Zx e.next z0 z) (st : St z e m k) (h4 : fr 4 = (vP b4)) (bx4 : Bx z e m k b4 [(str x4.number), (vI x4.length), (vI x4.axles), (vI x4.mass), (vI x4.brake), (vI x4.goods), (vB x4.gentle), (str x4.dest)] 30) (h7 : fr 7 = (vP b7)) (s7_0 : SlR (TInt 3 .i64) z x7.l v7_0) (bx7 : Bx z e m k b7 [v7_0, (vI x7.n)] 56) (h8 : fr 8 = (vI x8)) (h9 : fr 9 = v9) (o9 : OwF TWagon z e m k x9 v9) (ao4_o7 : Ap (some b4) (some b7)) (ao4_o9 : Ap (some b4) (blkOf v9)) (ao7_o9 : Ap (some b7) (blkOf v9)) {r : Bool} (hr : l07_WheelOffsets_2 N x8 x9 = some r) : W Try.prog (sub (bodyOf Try.f8) [1, 1, 0, 1, 0, 0, 1, 0, 0, 1, 0, 0, 0]) (fun ex fr' m' => ∃ z', Zx e.next z0 z' ∧ St z' e m' k ∧ ex = AExit.normal ∧ fr' 27 = (vB r) ∧ Bx z' e m' k b4 [(str x4.number), (vI x4.length), (vI x4.axles), (vI x4.mass), (vI x4.brake), (vI x4.goods), (vB x4.gentle), (str x4.dest)] 30 ∧ Bx z' e m' k b7 [v7_0, (vI x7.n)] 56 ∧ OwF TWagon z' e m' k x9 v9 ∧ Ap (some b4) (some b7) ∧ Ap (some b4) (blkOf v9) ∧ Ap (some b7) (blkOf v9) ∧ True) fr m := by
 unfold l07_WheelOffsets_2 at hr
 refine W.region ?_
 refine sx rfl (pMove (v := (vI x8)) rfl h8) ?_
 refine sx rfl (pEql (k := .i64) (a := x8) (b := 3) rfl rfl rfl) ?_
 refine sx rfl (pMove (v := (vB (x8 == 3))) rfl rfl) ?_
 rcases if_some hr with ⟨hc47, hr⟩ | ⟨hc51, hr⟩
 ·refine SeqW.consG rfl rfl rfl hc47 (StepX.pure (pMove (v := v9) rfl h9) ?_)
  refine SeqW.consG rfl rfl rfl hc47 (StepX.pure (pLenO (xs := x9) rfl Try.underlying41 rfl o9.ow) ?_)
  refine SeqW.consG rfl rfl rfl hc47 (StepX.pure (pGtr (k := .i64) (a := (x9.length : Int)) (b := 0) rfl rfl rfl) ?_)
  refine sx rfl (pPick (t := true) (v := (vB (decide (0 < (x9.length : Int))))) rfl ((congrArg vB hc47)) rfl) ?_
  obtain ⟨y48, hy48, hr⟩ := lt_some hr
  refine sx rfl (pAssign rfl (congrArg vB hy48)) ?_
  refine SeqW.done fun fr49 hf50 => ?_
  have h4 := (congrFun hf50 4).trans h4
  have h7 := (congrFun hf50 7).trans h7
  have h8 := (congrFun hf50 8).trans h8
  have h9 := (congrFun hf50 9).trans h9
  have h27 : fr49 27 = (vB y48) := (congrFun hf50 27).trans rfl
  clear hf50
  obtain rfl := Option.some.inj hr
  exact ⟨z, hz, st, rfl, h27, bx4, bx7, o9, ao4_o7, ao4_o9, ao7_o9, trivial⟩
 ·refine kx rfl rfl rfl hc51 ?_
  iterate 2 refine kx rfl rfl rfl hc51 ?_
  refine sx rfl (pPick (t := false) (v := (vB false)) rfl ((congrArg vB hc51)) rfl) ?_
  refine sx rfl (pAssign (v := (vB false)) rfl rfl) ?_
  refine SeqW.done fun fr52 hf53 => ?_
  have h4 := (congrFun hf53 4).trans h4
  have h7 := (congrFun hf53 7).trans h7
  have h8 := (congrFun hf53 8).trans h8
  have h9 := (congrFun hf53 9).trans h9
  have h27 : fr52 27 = (vB false) := (congrFun hf53 27).trans rfl
  clear hf53
  obtain rfl := Option.some.inj hr
  exact ⟨z, hz, st, rfl, h27, bx4, bx7, o9, ao4_o7, ao4_o9, ao7_o9, trivial⟩

theorem u_l07_WheelOffsets_3 {N : Nat}  {z0 z : Nat → Blk} {e m : Mem} {k : Option Nat} {fr : Nat → Value} {x2 : List Wagon} {x8 : Int} {v2 : Value} {x4 : Wagon} {b4 : Nat} {x7 : Maker} {v7_0 : Value} {b7 : Nat} {x9 : List Wagon} {v9 : Value} (hz : Zx e.next z0 z) (st : St z e m k) (h2 : fr 2 = v2) (s2 : SlR TWagon z x2 v2) (h4 : fr 4 = (vP b4)) (bx4 : Bx z e m k b4 [(str x4.number), (vI x4.length), (vI x4.axles), (vI x4.mass), (vI x4.brake), (vI x4.goods), (vB x4.gentle), (str x4.dest)] 30) (h7 : fr 7 = (vP b7)) (s7_0 : SlR (TInt 3 .i64) z x7.l v7_0) (bx7 : Bx z e m k b7 [v7_0, (vI x7.n)] 56) (h8 : fr 8 = (vI x8)) (h9 : fr 9 = v9) (o9 : OwF TWagon z e m k x9 v9) (ao4_o7 : Ap (some b4) (some b7)) (ao4_o9 : Ap (some b4) (blkOf v9)) (ao7_o9 : Ap (some b7) (blkOf v9)) {r : Bool} (hr : l07_WheelOffsets_3 N x2 x8 = some r) : W Try.prog (sub (bodyOf Try.f8) [1, 1, 0, 1, 0, 0, 1, 0, 0, 1, 0, 0, 1, 1, 0]) (fun ex fr' m' => ∃ z', Zx e.next z0 z' ∧ St z' e m' k ∧ ex = AExit.normal ∧ fr' 46 = (vB r) ∧ Bx z' e m' k b4 [(str x4.number), (vI x4.length), (vI x4.axles), (vI x4.mass), (vI x4.brake), (vI x4.goods), (vB x4.gentle), (str x4.dest)] 30 ∧ Bx z' e m' k b7 [v7_0, (vI x7.n)] 56 ∧ OwF TWagon z' e m' k x9 v9 ∧ Ap (some b4) (some b7) ∧ Ap (some b4) (blkOf v9) ∧ Ap (some b7) (blkOf v9) ∧ True) fr m := by
 unfold l07_WheelOffsets_3 at hr
 refine W.region ?_
 refine sx rfl (pMove (v := (vI x8)) rfl h8) ?_
 refine sx rfl (pEql (k := .i64) (a := x8) (b := 4) rfl rfl rfl) ?_
 refine sx rfl (pMove (v := (vB (x8 == 4))) rfl rfl) ?_
 rcases if_some hr with ⟨hc131, hr⟩ | ⟨hc135, hr⟩
 ·refine SeqW.consG rfl rfl rfl hc131 (StepX.pure (pMove (v := v2) rfl h2) ?_)
  refine SeqW.consG rfl rfl rfl hc131 (StepX.pure (pLenR (xs := x2) rfl Try.underlying41 rfl s2) ?_)
  refine SeqW.consG rfl rfl rfl hc131 (StepX.pure (pLeq (k := .i64) (a := (x2.length : Int)) (b := 20) rfl rfl rfl) ?_)
  refine sx rfl (pPick (t := true) (v := (vB (decide ((x2.length : Int) ≤ 20)))) rfl ((congrArg vB hc131)) rfl) ?_
  obtain ⟨y132, hy132, hr⟩ := lt_some hr
  refine sx rfl (pAssign rfl (congrArg vB hy132)) ?_
  refine SeqW.done fun fr133 hf134 => ?_
  have h2 := (congrFun hf134 2).trans h2
  have h4 := (congrFun hf134 4).trans h4
  have h7 := (congrFun hf134 7).trans h7
  have h8 := (congrFun hf134 8).trans h8
  have h9 := (congrFun hf134 9).trans h9
  have h46 : fr133 46 = (vB y132) := (congrFun hf134 46).trans rfl
  clear hf134
  obtain rfl := Option.some.inj hr
  exact ⟨z, hz, st, rfl, h46, bx4, bx7, o9, ao4_o7, ao4_o9, ao7_o9, trivial⟩
 ·refine kx rfl rfl rfl hc135 ?_
  iterate 2 refine kx rfl rfl rfl hc135 ?_
  refine sx rfl (pPick (t := false) (v := (vB false)) rfl ((congrArg vB hc135)) rfl) ?_
  refine sx rfl (pAssign (v := (vB false)) rfl rfl) ?_
  refine SeqW.done fun fr136 hf137 => ?_
  have h2 := (congrFun hf137 2).trans h2
  have h4 := (congrFun hf137 4).trans h4
  have h7 := (congrFun hf137 7).trans h7
  have h8 := (congrFun hf137 8).trans h8
  have h9 := (congrFun hf137 9).trans h9
  have h46 : fr136 46 = (vB false) := (congrFun hf137 46).trans rfl
  clear hf137
  obtain rfl := Option.some.inj hr
  exact ⟨z, hz, st, rfl, h46, bx4, bx7, o9, ao4_o7, ao4_o9, ao7_o9, trivial⟩

theorem u_l07_WheelOffsets_1 {N : Nat}  {z0 z : Nat → Blk} {e m : Mem} {k : Option Nat} {fr : Nat → Value} {x2 : List Wagon} {x4 : Wagon} {x7 : Maker} {x8 : Int} {x9 : List Wagon} {v2 : Value} {b4 : Nat} {v7_0 : Value} {b7 : Nat} {v9 : Value} (hz : Zx e.next z0 z) (st : St z e m k) (h2 : fr 2 = v2) (s2 : SlR TWagon z x2 v2) (h4 : fr 4 = (vP b4)) (bx4 : Bx z e m k b4 [(str x4.number), (vI x4.length), (vI x4.axles), (vI x4.mass), (vI x4.brake), (vI x4.goods), (vB x4.gentle), (str x4.dest)] 30) (h7 : fr 7 = (vP b7)) (s7_0 : SlR (TInt 3 .i64) z x7.l v7_0) (bx7 : Bx z e m k b7 [v7_0, (vI x7.n)] 56) (h8 : fr 8 = (vI x8)) (h9 : fr 9 = v9) (o9 : OwF TWagon z e m k x9 v9) (ao4_o7 : Ap (some b4) (some b7)) (ao4_o9 : Ap (some b4) (blkOf v9)) (ao7_o9 : Ap (some b7) (blkOf v9)) {r : Maker × List Wagon} (hr : l07_WheelOffsets_1 N x2 x4 x7 x8 x9 = some r) : W Try.prog (sub (bodyOf Try.f8) [1, 1, 0, 1, 0, 0, 1, 0, 0, 1, 0]) (fun ex fr' m' => ∃ z', Zx e.next z0 z' ∧ St z' e m' k ∧ ex = AExit.normal ∧ ∃ (w7_0 : Value) (w9 : Value), fr' 7 = (vP b7) ∧ SlR (TInt 3 .i64) z' r.1.l w7_0 ∧ Bx z' e m' k b7 [w7_0, (vI r.1.n)] 56 ∧ fr' 9 = w9 ∧ OwF TWagon z' e m' k r.2 w9 ∧ Bx z' e m' k b4 [(str x4.number), (vI x4.length), (vI x4.axles), (vI x4.mass), (vI x4.brake), (vI x4.goods), (vB x4.gentle), (str x4.dest)] 30 ∧ Ap (some b7) (blkOf w9) ∧ Ap (some b7) (some b4) ∧ Ap (blkOf w9) (some b4) ∧ True) fr m := by
 unfold l07_WheelOffsets_1 at hr
 refine W.block ?_
 refine W.seq ?_
 obtain ⟨y54, hy54, hr⟩ := bind_some hr
 refine W.keep (u_l07_WheelOffsets_2 (x4 := x4) (x7 := x7) (Zx.refl _) st h4 bx4 h7 s7_0 bx7 h8 h9 o9 ao4_o7 ao4_o9 ao7_o9 hy54) ?_
 rintro ex60 fr55 m56 hk58 ⟨z57, hz59, st, rfl, h27, O61, O62, O63, A64, A65, A66, -⟩
 replace s2 := s2.mono hz59.le
 replace s7_0 := s7_0.mono hz59.le
 have h2 := (hk58 2 rfl).trans h2
 have h4 := (hk58 4 rfl).trans h4
 have h7 := (hk58 7 rfl).trans h7
 have h8 := (hk58 8 rfl).trans h8
 have h9 := (hk58 9 rfl).trans h9
 replace hz := hz.trans hz59
 clear hk58
 refine thenQ.n ?_
 rcases if_some hr with ⟨hc67, hr⟩ | ⟨hc130, hr⟩
 ·refine W.condT h27 hc67 ?_
  refine W.draw ?_
  refine DrawW.cons rfl (StepX.pure (pMove (v := v9) rfl h9) ?_)
  refine ⟨trivial, ?_⟩
  refine DrawW.cons rfl (StepX.pure (pMove (v := (vP b7)) rfl h7) ?_)
  refine ⟨trivial, ?_⟩
  refine DrawW.cons rfl (StepX.pure (pMove (v := v9) rfl h9) ?_)
  refine ⟨trivial, ?_⟩
  have sto68 := st
  have old69 := O61
  have old70 := O62
  have old71 := O63
  refine DrawW.cons rfl (StepX.pure (pLenO (xs := x9) rfl Try.underlying41 rfl O63.ow) ?_)
  refine ⟨trivial, ?_⟩
  have sto72 := st
  have old73 := O61
  have old74 := O62
  have old75 := O63
  obtain ⟨y76, hy76, hr⟩ := bind_some hr
  refine DrawW.cons rfl (StepX.call (gCallee rfl rfl (args2 rfl rfl)) ((c_Maker_Next (x0 := x7) (z := z57) st.fz st.dead s7_0 ⟨O62.blk, O62.lt, O62.dead, .inr rfl⟩ hy76).mono ?_))
  rintro _ m81 ⟨z77, V82, hzx78, fz79, sm80, rfl, Q83, X85, -⟩
  have sr86 := s2
  have sr87 := s7_0
  replace s2 := s2.mono hzx78.le
  replace O61 := O61.call hzx78 sm80 A64
  replace s7_0 := s7_0.mono hzx78.le
  replace O63 := O63.call hzx78 sm80 (Ap.symm A66)
  have O62n : Bx z77 e m81 k b7 _ _ := ⟨X85.blk, X85.lt, X85.dead, O62.fresh⟩
  replace hz := hz.trans (Zx.here st hzx78)
  replace st := st.call hzx78 fz79 sm80 O62.hq
  refine ⟨⟨?_, ?_⟩, ?_⟩
  ·exact demN
  ·exact demN
  refine DrawW.cons rfl (StepX.pure (pMove (v := (vP b7)) rfl h7) ?_)
  refine ⟨trivial, ?_⟩
  refine DrawW.cons rfl (StepX.pure (pMove (v := v9) rfl h9) ?_)
  refine ⟨trivial, ?_⟩
  obtain ⟨y88, hy88, hr⟩ := bind_some hr
  refine DrawW.cons rfl (kIdxO (T := TWagon) (xs := x9) (n := 0) rfl Try.underlying41 Try.type30 rfl rfl rfl O63 hy88 ?_)
  intro B89 l90 c91 cs92 hv93 hd94 hg95 hc96
  have hd940 := hd94
  obtain rfl := hd940
  refine ⟨trivial, ?_⟩
  refine DrawW.cons rfl (kLoadA rfl Try.underlying30 rfl Try.type30 rfl rfl hc96 ?_)
  refine ⟨?_, ?_⟩
  ·first | refine demP (gLoadA rfl Try.underlying30 rfl Try.type30 rfl rfl (fun j u hj => (by rw [← Same.ld sm80 old75 (Ap.symm A66) hv93]; exact (hc96 j u hj)))) ?_ | refine demA (by decide) ?_
   exact demN
  have sto97 := st
  have old98 := O61
  have old99 := O62n
  have old100 := O63
  obtain ⟨y101, hy101, hr⟩ := bind_some hr
  refine DrawW.cons rfl (StepX.call (gCallee rfl rfl (args2 rfl rfl)) ((c_Maker_SpoilWagon (x0 := y76.2) (x1 := y88) (z := z77) st.fz st.dead Q83 ⟨O62n.blk, O62n.lt, O62n.dead, .inr rfl⟩ hy101).mono ?_))
  rintro _ m106 ⟨z102, V107, hzx103, fz104, sm105, rfl, Q108, X110, -⟩
  have sr111 := Q83
  replace s2 := s2.mono hzx103.le
  replace O61 := O61.call hzx103 sm105 A64
  replace O63 := O63.call hzx103 sm105 (Ap.symm A66)
  replace Q83 := Q83.mono hzx103.le
  have O62nn : Bx z102 e m106 k b7 _ _ := ⟨X110.blk, X110.lt, X110.dead, O62n.fresh⟩
  replace hz := hz.trans (Zx.here st hzx103)
  replace st := st.call hzx103 fz104 sm105 O62n.hq
  refine ⟨⟨?_, ?_⟩, ?_⟩
  ·first | refine demP (gLoadA rfl Try.underlying30 rfl Try.type30 rfl rfl (fun j u hj => (by rw [Same.ld sm105 old100 (Ap.symm A66) hv93]; exact (hc96 j u hj)))) ?_ | refine demA (by decide) ?_
   exact demN
  ·exact demN
  obtain ⟨y112, hy112, hr⟩ := bind_some hr
  refine DrawW.cons rfl (kIdxO (T := TWagon) (xs := x9) (n := y76.1) rfl Try.underlying41 Try.type30 rfl rfl rfl O63 hy112 ?_)
  intro B113 l114 c115 cs116 hv117 hd118 hg119 hc120
  have hd1180 := hd118
  obtain rfl := hd1180
  refine ⟨trivial, ?_⟩
  have sto121 := st
  have old122 := O61
  have old123 := O62nn
  have old124 := O63
  refine DrawW.cons rfl (kSet (T := TWagon) (off := (y76.1 : Int).toNat * (TWagon).sz) (n := (y76.1 : Int).toNat) (f := 0) (w := (Value.agg [(str y101.1.number), (vI y101.1.length), (vI y101.1.axles), (vI y101.1.mass), (vI y101.1.brake), (vI y101.1.goods), (vB y101.1.gentle), (str y101.1.dest)].toArray)) (new := [(str y101.1.number), (vI y101.1.length), (vI y101.1.axles), (vI y101.1.mass), (vI y101.1.brake), (vI y101.1.goods), (vB y101.1.gentle), (str y101.1.dest)]) (ecs := [(str y112.number), (vI y112.length), (vI y112.axles), (vI y112.mass), (vI y112.brake), (vI y112.goods), (vB y112.gentle), (str y112.dest)]) (ecs' := [(str y101.1.number), (vI y101.1.length), (vI y101.1.axles), (vI y101.1.mass), (vI y101.1.brake), (vI y101.1.goods), (vB y101.1.gentle), (str y101.1.dest)]) (a := y112) (a' := y101.1) rfl Try.type30 rfl rfl rfl rfl rfl rfl O63 hv117 hg119 hd118 hc120 rfl rfl rfl st ?_)
  intro m125 st O63 sm126
  obtain ⟨y127, hy127, hr⟩ := lt_some hr
  rw [hy127] at O63
  replace O61 := O61.same sm126 A65
  replace O62nn := O62nn.same sm126 A66
  refine ⟨⟨?_, ?_⟩, ?_⟩
  ·first | refine demP (gLoadA rfl Try.underlying30 rfl Try.type30 rfl rfl (fun j u hj => gone)) ?_ | refine demA (by decide) ?_
   exact demN
  ·exact demN
  refine DrawW.done fun fr128 hf129 => ?_
  have h2 := (congrFun hf129 2).trans h2
  have h4 := (congrFun hf129 4).trans h4
  have h7 := (congrFun hf129 7).trans h7
  have h8 := (congrFun hf129 8).trans h8
  have h9 := (congrFun hf129 9).trans h9
  clear hf129
  refine blockQ.n ?_
  obtain rfl := Option.some.inj hr
  exact ⟨z102, hz, st, rfl, V107, v9, h7, Q108, O62nn, h9, O63, O61, A66, (Ap.symm A64), (Ap.symm A65), trivial⟩
 ·refine W.condF h27 hc130 (W.seq ?_)
  obtain ⟨y138, hy138, hr⟩ := bind_some hr
  refine W.keep (u_l07_WheelOffsets_3 (x4 := x4) (x7 := x7) (Zx.refl _) st h2 s2 h4 O61 h7 s7_0 O62 h8 h9 O63 A64 A65 A66 hy138) ?_
  rintro ex144 fr139 m140 hk142 ⟨z141, hz143, st, rfl, h46, O145, O146, O147, A148, A149, A150, -⟩
  replace s2 := s2.mono hz143.le
  replace s7_0 := s7_0.mono hz143.le
  have h2 := (hk142 2 rfl).trans h2
  have h4 := (hk142 4 rfl).trans h4
  have h7 := (hk142 7 rfl).trans h7
  have h8 := (hk142 8 rfl).trans h8
  have h9 := (hk142 9 rfl).trans h9
  replace hz := hz.trans hz143
  clear hk142
  refine thenQ.n ?_
  rcases if_some hr with ⟨hc151, hr⟩ | ⟨hc199, hr⟩
  ·refine W.condT h46 hc151 ?_
   refine W.draw ?_
   refine DrawW.cons rfl (kBuild (T := TWagon) rfl Try.underlying41 Try.type30 rfl rfl rfl rfl ([] : List Wagon) [] rfl rfl rfl trivial st ?_)
   intro V152 m153 st O154 sm155 hap156
   have A158 := hap156 _ O145.lt'
   have A159 := hap156 _ O146.lt'
   replace O145 := O145.same sm155 Ap.none'
   replace O146 := O146.same sm155 Ap.none'
   refine ⟨trivial, ?_⟩
   refine DrawW.cons rfl (StepX.pure (pMove (v := v2) rfl h2) ?_)
   refine ⟨trivial, ?_⟩
   have sto160 := st
   have old161 := O145
   have old162 := O146
   have old163 := O154
   obtain ⟨y164, hy164, hr⟩ := bind_some hr
   refine DrawW.cons rfl (kAppend (T := TWagon) (xs := ([] : List Wagon)) (ys := x2) rfl Try.underlying41 Try.type30 rfl rfl rfl rfl rfl rfl (.inl ⟨_, Try.underlying41⟩) rfl O154 rfl (s2.src st.fz) st hy164 ?_)
   intro V165 m166 st O167 sm168 hap169
   have A171 := hap169 _ O145.lt' A158
   have A172 := hap169 _ O146.lt' A159
   replace O145 := O145.same sm168 A158
   replace O146 := O146.same sm168 A159
   refine ⟨⟨?_, ?_⟩, ?_⟩
   ·exact demN
   ·first | refine demP (rfl) ?_ | refine demA (by decide) ?_
    exact demN
   refine DrawW.cons rfl (kLoadA rfl Try.underlying30 rfl Try.type30 rfl h4 O145.loads ?_)
   refine ⟨?_, ?_⟩
   ·first | refine demP (gLoadA rfl Try.underlying30 rfl Try.type30 rfl h4 old161.loads) ?_ | refine demA (by decide) ?_
    exact demN
   refine DrawW.cons rfl (kBuild (T := TWagon) rfl Try.underlying41 Try.type30 rfl rfl rfl rfl ([x4] : List Wagon) [[(str x4.number), (vI x4.length), (vI x4.axles), (vI x4.mass), (vI x4.brake), (vI x4.goods), (vB x4.gentle), (str x4.dest)]] rfl rfl rfl (BuildOk.mk (w := (Value.agg [(str x4.number), (vI x4.length), (vI x4.axles), (vI x4.mass), (vI x4.brake), (vI x4.goods), (vB x4.gentle), (str x4.dest)].toArray)) rfl rfl rfl rfl trivial) st ?_)
   intro V173 m174 st O175 sm176 hap177
   have A179 := hap177 _ O145.lt'
   have A180 := hap177 _ O146.lt'
   have A181 := hap177 _ O167.lt
   replace O145 := O145.same sm176 Ap.none'
   replace O146 := O146.same sm176 Ap.none'
   replace O167 := O167.same sm176 Ap.none'
   refine ⟨trivial, ?_⟩
   have sto182 := st
   have old183 := O145
   have old184 := O146
   have old185 := O167
   have old186 := O175
   obtain ⟨y187, hy187, hr⟩ := bind_some hr
   refine DrawW.cons rfl (kAppend (T := TWagon) (xs := y164) (ys := ([x4] : List Wagon)) rfl Try.underlying41 Try.type30 rfl rfl rfl rfl rfl rfl (.inl ⟨_, Try.underlying41⟩) rfl O167 rfl O175.ow.src st hy187 ?_)
   intro V188 m189 st O190 sm191 hap192
   have A194 := hap192 _ O145.lt' A171
   have A195 := hap192 _ O146.lt' A172
   have A196 := hap192 _ O175.lt (Ap.symm A181)
   replace O145 := O145.same sm191 A171
   replace O146 := O146.same sm191 A172
   replace O175 := O175.same sm191 (Ap.symm A181)
   refine ⟨⟨?_, ?_⟩, ?_⟩
   ·first | refine demP (gLoadA rfl Try.underlying30 rfl Try.type30 rfl h4 O145.loads) ?_ | refine demA (by decide) ?_
    exact demN
   ·first | refine demP (rfl) ?_ | refine demA (by decide) ?_
    first | refine demP (rfl) ?_ | refine demA (by decide) ?_
    exact demN
   refine DrawW.cons rfl (StepX.pure (pAssign (v := V188) rfl rfl) ?_)
   refine ⟨trivial, ?_⟩
   refine DrawW.done fun fr197 hf198 => ?_
   have h2 := (congrFun hf198 2).trans h2
   have h4 := (congrFun hf198 4).trans h4
   have h7 := (congrFun hf198 7).trans h7
   have h8 := (congrFun hf198 8).trans h8
   have h9 : fr197 9 = V188 := (congrFun hf198 9).trans rfl
   clear hf198
   refine blockQ.n ?_
   obtain rfl := Option.some.inj hr
   exact ⟨z141, hz, st, rfl, v7_0, V188, h7, s7_0, O146, h9, O190, O145, A195, (Ap.symm A148), (Ap.symm A194), trivial⟩
  ·refine W.condF h46 hc199 (W.skip ?_)
   refine blockQ.n ?_
   obtain rfl := Option.some.inj hr
   exact ⟨z141, hz, st, rfl, v7_0, v9, h7, s7_0, O146, h9, O147, O145, A150, (Ap.symm A148), (Ap.symm A149), trivial⟩

theorem u_l07_WheelOffsets_4 {N : Nat}  {z0 z : Nat → Blk} {e m : Mem} {k : Option Nat} {fr : Nat → Value} {x10 : List Int} {x11 : Int} {x12 : List Int} {x13 : Int} {x4 : Wagon} {b4 : Nat} {x7 : Maker} {v7_0 : Value} {b7 : Nat} {v10 : Value} {v12 : Value} (hz : Zx e.next z0 z) (st : St z e m k) (h4 : fr 4 = (vP b4)) (bx4 : Bx z e m k b4 [(str x4.number), (vI x4.length), (vI x4.axles), (vI x4.mass), (vI x4.brake), (vI x4.goods), (vB x4.gentle), (str x4.dest)] 30) (h7 : fr 7 = (vP b7)) (s7_0 : SlR (TInt 3 .i64) z x7.l v7_0) (bx7 : Bx z e m k b7 [v7_0, (vI x7.n)] 56) (h10 : fr 10 = v10) (s10 : SlR (TInt 3 .i64) z x10 v10) (h11 : fr 11 = (vI x11)) (h12 : fr 12 = v12) (s12 : SlR (TInt 3 .i64) z x12 v12) (h13 : fr 13 = (vI x13)) (ao4_o7 : Ap (some b4) (some b7)) {r : Bool} (hr : l07_WheelOffsets_4 N x10 x11 x12 x13 = some r) : W Try.prog (sub (bodyOf Try.f8) [1, 1, 0, 1, 0, 0, 1, 0, 0, 1, 1, 1, 1, 0, 0]) (fun ex fr' m' => ∃ z', Zx e.next z0 z' ∧ St z' e m' k ∧ ex = AExit.normal ∧ fr' 78 = (vB r) ∧ Bx z' e m' k b4 [(str x4.number), (vI x4.length), (vI x4.axles), (vI x4.mass), (vI x4.brake), (vI x4.goods), (vB x4.gentle), (str x4.dest)] 30 ∧ Bx z' e m' k b7 [v7_0, (vI x7.n)] 56 ∧ Ap (some b4) (some b7) ∧ True) fr m := by
 unfold l07_WheelOffsets_4 at hr
 refine W.region ?_
 refine sx rfl (pMove (v := v10) rfl h10) ?_
 refine sx rfl (pMove (v := v12) rfl h12) ?_
 obtain ⟨y245, hy245, hr⟩ := bind_some hr
 refine SeqW.consX rfl (StepX.call (gCallee rfl rfl (args2 rfl rfl)) ((c_gen_Ints (z := z) st.fz st.dead s10 s12 hy245).mono ?_))
 rintro _ _ ⟨rfl, rfl⟩
 refine sx rfl (pNot (b := y245) rfl rfl) ?_
 refine sx rfl (pMove (v := (vB (!y245))) rfl rfl) ?_
 rcases if_some hr with ⟨hc246, hr⟩ | ⟨hc249, hr⟩
 ·refine kx rfl rfl rfl hc246 ?_
  iterate 2 refine kx rfl rfl rfl hc246 ?_
  refine sx rfl (pPick (t := true) (v := (vB true)) rfl ((congrArg vB hc246)) rfl) ?_
  refine SeqW.done fun fr247 hf248 => ?_
  have h4 := (congrFun hf248 4).trans h4
  have h7 := (congrFun hf248 7).trans h7
  have h78 : fr247 78 = (vB true) := (congrFun hf248 78).trans rfl
  clear hf248
  obtain rfl := Option.some.inj hr
  exact ⟨z, hz, st, rfl, h78, bx4, bx7, ao4_o7, trivial⟩
 ·refine SeqW.consG rfl rfl rfl hc249 (StepX.pure (pMove (v := (vI x11)) rfl h11) ?_)
  refine SeqW.consG rfl rfl rfl hc249 (StepX.pure (pMove (v := (vI x13)) rfl h13) ?_)
  refine SeqW.consG rfl rfl rfl hc249 (StepX.pure (pNeq (k := .i64) (a := x11) (b := x13) rfl rfl rfl) ?_)
  refine sx rfl (pPick (t := false) (v := (vB (x11 != x13))) rfl ((congrArg vB hc249)) rfl) ?_
  refine SeqW.done fun fr250 hf251 => ?_
  have h4 := (congrFun hf251 4).trans h4
  have h7 := (congrFun hf251 7).trans h7
  have h78 : fr250 78 = (vB (x11 != x13)) := (congrFun hf251 78).trans rfl
  clear hf251
  obtain rfl := Option.some.inj hr
  exact ⟨z, hz, st, rfl, h78, bx4, bx7, ao4_o7, trivial⟩

theorem u_l07_WheelOffsets_6 {N : Nat}  {z0 z : Nat → Blk} {e m : Mem} {k : Option Nat} {fr : Nat → Value} {x15 : List Int} {x16 : Int} {x17 : List Int} {x18 : Int} {x4 : Wagon} {b4 : Nat} {x7 : Maker} {v7_0 : Value} {b7 : Nat} {v15 : Value} {v17 : Value} (hz : Zx e.next z0 z) (st : St z e m k) (h4 : fr 4 = (vP b4)) (bx4 : Bx z e m k b4 [(str x4.number), (vI x4.length), (vI x4.axles), (vI x4.mass), (vI x4.brake), (vI x4.goods), (vB x4.gentle), (str x4.dest)] 30) (h7 : fr 7 = (vP b7)) (s7_0 : SlR (TInt 3 .i64) z x7.l v7_0) (bx7 : Bx z e m k b7 [v7_0, (vI x7.n)] 56) (h15 : fr 15 = v15) (s15 : SlR (TInt 3 .i64) z x15 v15) (h16 : fr 16 = (vI x16)) (h17 : fr 17 = v17) (s17 : SlR (TInt 3 .i64) z x17 v17) (h18 : fr 18 = (vI x18)) (ao4_o7 : Ap (some b4) (some b7)) {r : Bool} (hr : l07_WheelOffsets_6 N x15 x16 x17 x18 = some r) : W Try.prog (sub (bodyOf Try.f8) [1, 1, 0, 1, 0, 0, 1, 0, 0, 1, 1, 1, 1, 1, 1, 0, 0, 1, 0, 0, 1, 1, 0]) (fun ex fr' m' => ∃ z', Zx e.next z0 z' ∧ St z' e m' k ∧ ex = AExit.normal ∧ fr' 109 = (vB r) ∧ Bx z' e m' k b4 [(str x4.number), (vI x4.length), (vI x4.axles), (vI x4.mass), (vI x4.brake), (vI x4.goods), (vB x4.gentle), (str x4.dest)] 30 ∧ Bx z' e m' k b7 [v7_0, (vI x7.n)] 56 ∧ Ap (some b4) (some b7) ∧ True) fr m := by
 unfold l07_WheelOffsets_6 at hr
 refine W.region ?_
 refine sx rfl (pMove (v := v15) rfl h15) ?_
 refine sx rfl (pMove (v := v17) rfl h17) ?_
 obtain ⟨y305, hy305, hr⟩ := bind_some hr
 refine SeqW.consX rfl (StepX.call (gCallee rfl rfl (args2 rfl rfl)) ((c_gen_Ints (z := z) st.fz st.dead s15 s17 hy305).mono ?_))
 rintro _ _ ⟨rfl, rfl⟩
 refine sx rfl (pNot (b := y305) rfl rfl) ?_
 refine sx rfl (pMove (v := (vB (!y305))) rfl rfl) ?_
 rcases if_some hr with ⟨hc306, hr⟩ | ⟨hc309, hr⟩
 ·refine kx rfl rfl rfl hc306 ?_
  iterate 2 refine kx rfl rfl rfl hc306 ?_
  refine sx rfl (pPick (t := true) (v := (vB true)) rfl ((congrArg vB hc306)) rfl) ?_
  refine SeqW.done fun fr307 hf308 => ?_
  have h4 := (congrFun hf308 4).trans h4
  have h7 := (congrFun hf308 7).trans h7
  have h109 : fr307 109 = (vB true) := (congrFun hf308 109).trans rfl
  clear hf308
  obtain rfl := Option.some.inj hr
  exact ⟨z, hz, st, rfl, h109, bx4, bx7, ao4_o7, trivial⟩
 ·refine SeqW.consG rfl rfl rfl hc309 (StepX.pure (pMove (v := (vI x16)) rfl h16) ?_)
  refine SeqW.consG rfl rfl rfl hc309 (StepX.pure (pMove (v := (vI x18)) rfl h18) ?_)
  refine SeqW.consG rfl rfl rfl hc309 (StepX.pure (pNeq (k := .i64) (a := x16) (b := x18) rfl rfl rfl) ?_)
  refine sx rfl (pPick (t := false) (v := (vB (x16 != x18))) rfl ((congrArg vB hc309)) rfl) ?_
  refine SeqW.done fun fr310 hf311 => ?_
  have h4 := (congrFun hf311 4).trans h4
  have h7 := (congrFun hf311 7).trans h7
  have h109 : fr310 109 = (vB (x16 != x18)) := (congrFun hf311 109).trans rfl
  clear hf311
  obtain rfl := Option.some.inj hr
  exact ⟨z, hz, st, rfl, h109, bx4, bx7, ao4_o7, trivial⟩

theorem u_l07_WheelOffsets_5 : ∀ (n : Nat) {N : Nat}  {z0 z : Nat → Blk} {e m : Mem} {k : Option Nat} {fr : Nat → Value} {x9 : List Wagon} {x14 : Int} {x4 : Wagon} {b4 : Nat} {x7 : Maker} {v7_0 : Value} {b7 : Nat} {v9 : Value} (hz : Zx e.next z0 z) (st : St z e m k) (h4 : fr 4 = (vP b4)) (bx4 : Bx z e m k b4 [(str x4.number), (vI x4.length), (vI x4.axles), (vI x4.mass), (vI x4.brake), (vI x4.goods), (vB x4.gentle), (str x4.dest)] 30) (h7 : fr 7 = (vP b7)) (s7_0 : SlR (TInt 3 .i64) z x7.l v7_0) (bx7 : Bx z e m k b7 [v7_0, (vI x7.n)] 56) (h9 : fr 9 = v9) (s9 : SlR TWagon z x9 v9) (h14 : fr 14 = (vI x14)) (ao4_o7 : Ap (some b4) (some b7)) {r : Sum (Unit) (Bool)} (hr : l07_WheelOffsets_5 N x9 n x14 = some r), W Try.prog (sub (bodyOf Try.f8) [1, 1, 0, 1, 0, 0, 1, 0, 0, 1, 1, 1, 1, 1, 1, 0]) (fun ex fr' m' => ∃ z', Zx e.next z0 z' ∧ St z' e m' k ∧ ((∃ q, r = Sum.inl q ∧ ex = AExit.exit 3 ∧ Bx z' e m' k b4 [(str x4.number), (vI x4.length), (vI x4.axles), (vI x4.mass), (vI x4.brake), (vI x4.goods), (vB x4.gentle), (str x4.dest)] 30 ∧ Bx z' e m' k b7 [v7_0, (vI x7.n)] 56 ∧ Ap (some b4) (some b7) ∧ True) ∨ (∃ q, r = Sum.inr q ∧ ex = AExit.ret ∧ fr' 6 = (vB q) ∧ True))) fr m := by
 intro n
 induction n with
 | zero => intro N z0 z e m k fr x9 x14 x4 b4 x7 v7_0 b7 v9 hz st h4 bx4 h7 s7_0 bx7 h9 s9 h14 ao4_o7 r hr; cases (show (none : Option _) = some r from hr)
 | succ n ih =>
  intro N z0 z e m k fr x9 x14 x4 b4 x7 v7_0 b7 v9 hz st h4 bx4 h7 s7_0 bx7 h9 s9 h14 ao4_o7 r hr
  unfold l07_WheelOffsets_5 at hr
  refine W.loop1 ?_
  refine W.seq (W.seq (W.region ?_))
  refine sx rfl (pMove (v := (vI x14)) rfl h14) ?_
  refine sx rfl (pMove (v := v9) rfl h9) ?_
  refine sx rfl (pLenR (xs := x9) rfl Try.underlying41 rfl s9) ?_
  refine sx rfl (pLss (k := .i64) (a := x14) (b := (x9.length : Int)) rfl rfl rfl) ?_
  refine SeqW.done fun fr268 hf269 => ?_
  have h4 := (congrFun hf269 4).trans h4
  have h7 := (congrFun hf269 7).trans h7
  have h9 := (congrFun hf269 9).trans h9
  have h14 := (congrFun hf269 14).trans h14
  have h82 : fr268 82 = (vB (decide (x14 < (x9.length : Int)))) := (congrFun hf269 82).trans rfl
  clear hf269
  refine thenQ.n ?_
  rcases if_some hr with ⟨hc270, hr⟩ | ⟨hc329, hr⟩
  ·refine W.condT h82 hc270 (W.skip ?_)
   refine thenQ.n (W.seq ?_)
   refine W.block ?_
   refine W.seq (W.region ?_)
   refine sx rfl (pMove (v := v9) rfl h9) ?_
   refine sx rfl (pMove (v := (vI x14)) rfl h14) ?_
   obtain ⟨y271, hy271, hr⟩ := bind_some hr
   refine SeqW.consX rfl (kIdxR (T := TWagon) (xs := x9) (n := x14) rfl Try.underlying41 Try.type30 rfl rfl rfl s9 hy271 ?_)
   intro B272 f273 cs274 hd275 hc276
   obtain rfl := hd275
   refine SeqW.consX rfl (kLoadA rfl Try.underlying30 rfl Try.type30 rfl rfl (st.loads hc276) ?_)
   obtain ⟨y277, hy277, hr⟩ := bind_some hr
   refine SeqW.consX rfl (StepX.call (gCallee rfl rfl (args1 rfl)) ((c_wheel_Offsets (x0 := y271) (z := z) st.fz st.dead  hy277).mono ?_))
   rintro _ m282 ⟨z278, V283, hzx279, fz280, sm281, rfl, Q284, -⟩
   replace bx4 := bx4.call hzx279 sm281 Ap.none'
   replace s7_0 := s7_0.mono hzx279.le
   replace bx7 := bx7.call hzx279 sm281 Ap.none'
   replace s9 := s9.mono hzx279.le
   replace hz := hz.trans (Zx.here st hzx279)
   replace st := st.call hzx279 fz280 sm281 no_hq
   refine sx rfl (pMove (v := (Value.tuple [V283, (vI y277.2)].toArray)) rfl rfl) ?_
   refine sx rfl (pExtract (vs := [V283, (vI y277.2)]) (v := V283) rfl rfl rfl) ?_
   refine sx rfl (pExtract (vs := [V283, (vI y277.2)]) (v := (vI y277.2)) rfl rfl rfl) ?_
   refine sx rfl (pAssign (v := V283) rfl rfl) ?_
   refine sx rfl (pAssign (v := (vI y277.2)) rfl rfl) ?_
   refine SeqW.done fun fr286 hf287 => ?_
   have h4 := (congrFun hf287 4).trans h4
   have h7 := (congrFun hf287 7).trans h7
   have h9 := (congrFun hf287 9).trans h9
   have h14 := (congrFun hf287 14).trans h14
   have h15 : fr286 15 = V283 := (congrFun hf287 15).trans rfl
   have h16 : fr286 16 = (vI y277.2) := (congrFun hf287 16).trans rfl
   clear hf287
   refine thenQ.n (W.seq (W.region ?_))
   refine sx rfl (pMove (v := v9) rfl h9) ?_
   refine sx rfl (pMove (v := (vI x14)) rfl h14) ?_
   obtain ⟨y288, hy288, hr⟩ := bind_some hr
   refine SeqW.consX rfl (kIdxR (T := TWagon) (xs := x9) (n := x14) rfl Try.underlying41 Try.type30 rfl rfl rfl s9 hy288 ?_)
   intro B289 f290 cs291 hd292 hc293
   obtain rfl := hd292
   refine SeqW.consX rfl (kLoadA rfl Try.underlying30 rfl Try.type30 rfl rfl (st.loads hc293) ?_)
   obtain ⟨y294, hy294, hr⟩ := bind_some hr
   refine SeqW.consX rfl (StepX.call (gCallee rfl rfl (args1 rfl)) ((c_r07_Offsets (x0 := y288) (z := z278) st.fz st.dead  hy294).mono ?_))
   rintro _ m299 ⟨z295, V300, hzx296, fz297, sm298, rfl, Q301, -⟩
   replace bx4 := bx4.call hzx296 sm298 Ap.none'
   replace s7_0 := s7_0.mono hzx296.le
   replace bx7 := bx7.call hzx296 sm298 Ap.none'
   replace s9 := s9.mono hzx296.le
   replace Q284 := Q284.mono hzx296.le
   replace hz := hz.trans (Zx.here st hzx296)
   replace st := st.call hzx296 fz297 sm298 no_hq
   refine sx rfl (pMove (v := (Value.tuple [V300, (vI y294.2)].toArray)) rfl rfl) ?_
   refine sx rfl (pExtract (vs := [V300, (vI y294.2)]) (v := V300) rfl rfl rfl) ?_
   refine sx rfl (pExtract (vs := [V300, (vI y294.2)]) (v := (vI y294.2)) rfl rfl rfl) ?_
   refine sx rfl (pAssign (v := V300) rfl rfl) ?_
   refine sx rfl (pAssign (v := (vI y294.2)) rfl rfl) ?_
   refine SeqW.done fun fr303 hf304 => ?_
   have h4 := (congrFun hf304 4).trans h4
   have h7 := (congrFun hf304 7).trans h7
   have h9 := (congrFun hf304 9).trans h9
   have h14 := (congrFun hf304 14).trans h14
   have h15 := (congrFun hf304 15).trans h15
   have h16 := (congrFun hf304 16).trans h16
   have h17 : fr303 17 = V300 := (congrFun hf304 17).trans rfl
   have h18 : fr303 18 = (vI y294.2) := (congrFun hf304 18).trans rfl
   clear hf304
   refine thenQ.n (W.seq ?_)
   obtain ⟨y312, hy312, hr⟩ := bind_some hr
   refine W.keep (u_l07_WheelOffsets_6 (x4 := x4) (x7 := x7) (Zx.refl _) st h4 bx4 h7 s7_0 bx7 h15 Q284 h16 h17 Q301 h18 ao4_o7 hy312) ?_
   rintro ex318 fr313 m314 hk316 ⟨z315, hz317, st, rfl, h109, O319, O320, A321, -⟩
   replace s7_0 := s7_0.mono hz317.le
   replace s9 := s9.mono hz317.le
   have h4 := (hk316 4 rfl).trans h4
   have h7 := (hk316 7 rfl).trans h7
   have h9 := (hk316 9 rfl).trans h9
   have h14 := (hk316 14 rfl).trans h14
   replace hz := hz.trans hz317
   clear hk316
   refine thenQ.n ?_
   rcases if_some hr with ⟨hc322, hr⟩ | ⟨hc325, hr⟩
   ·refine W.condT h109 hc322 (W.seq (W.region ?_))
    refine sx rfl (pAssign (v := (vB false)) rfl rfl) ?_
    refine SeqW.done fun fr323 hf324 => ?_
    have h6 : fr323 6 = (vB false) := (congrFun hf324 6).trans rfl
    clear hf324
    refine thenQ.n ?_
    refine W.ret ?_
    refine blockQ.r ?_
    refine thenQ.r ?_
    refine thenQ.r ?_
    obtain rfl := Option.some.inj hr
    exact ⟨z315, hz, st, .inr ⟨_, rfl, rfl, h6, trivial⟩⟩
   ·refine W.condF h109 hc325 (W.skip ?_)
    refine blockQ.n ?_
    refine thenQ.n (W.region ?_)
    refine sx rfl (pMove (v := (vI x14)) rfl h14) ?_
    refine sx rfl (pAdd (k := .i64) (a := x14) (b := 1) rfl rfl rfl) ?_
    obtain ⟨y326, hy326, hr⟩ := lt_some hr
    refine sx rfl (pAssign rfl (congrArg (Value.int .i64) hy326)) ?_
    refine SeqW.done fun fr327 hf328 => ?_
    have h4 := (congrFun hf328 4).trans h4
    have h7 := (congrFun hf328 7).trans h7
    have h9 := (congrFun hf328 9).trans h9
    have h14 : fr327 14 = (vI y326) := (congrFun hf328 14).trans rfl
    clear hf328
    refine thenQ.n ?_
    exact ih (x4 := x4) (x7 := x7) hz st h4 O319 h7 s7_0 O320 h9 s9 h14 A321 hr
  ·refine W.condF h82 hc329 ?_
   refine W.exit ?_
   refine thenQ.x ?_
   refine thenQ.x ?_
   obtain rfl := Option.some.inj hr
   exact ⟨z, hz, st, .inl ⟨_, rfl, rfl, bx4, bx7, ao4_o7, trivial⟩⟩

theorem u_l07_WheelOffsets_0 : ∀ (n : Nat) {N : Nat}  {z0 z : Nat → Blk} {e m : Mem} {k : Option Nat} {fr : Nat → Value} {x2 : List Wagon} {x4 : Wagon} {x7 : Maker} {x8 : Int} {v2 : Value} {b4 : Nat} {v7_0 : Value} {b7 : Nat} (hz : Zx e.next z0 z) (st : St z e m k) (h2 : fr 2 = v2) (s2 : SlR TWagon z x2 v2) (h4 : fr 4 = (vP b4)) (bx4 : Bx z e m k b4 [(str x4.number), (vI x4.length), (vI x4.axles), (vI x4.mass), (vI x4.brake), (vI x4.goods), (vB x4.gentle), (str x4.dest)] 30) (h7 : fr 7 = (vP b7)) (s7_0 : SlR (TInt 3 .i64) z x7.l v7_0) (bx7 : Bx z e m k b7 [v7_0, (vI x7.n)] 56) (h8 : fr 8 = (vI x8)) (ao4_o7 : Ap (some b4) (some b7)) {r : Sum (Unit) (Bool)} (hr : l07_WheelOffsets_0 N x2 x4 n x7 x8 = some r), W Try.prog (sub (bodyOf Try.f8) [1, 1, 0, 1, 0]) (fun ex fr' m' => ∃ z', Zx e.next z0 z' ∧ St z' e m' k ∧ ((∃ q, r = Sum.inl q ∧ ex = AExit.exit 0 ∧ True) ∨ (∃ q, r = Sum.inr q ∧ ex = AExit.ret ∧ fr' 6 = (vB q) ∧ True))) fr m := by
 intro n
 induction n with
 | zero => intro N z0 z e m k fr x2 x4 x7 x8 v2 b4 v7_0 b7 hz st h2 s2 h4 bx4 h7 s7_0 bx7 h8 ao4_o7 r hr; cases (show (none : Option _) = some r from hr)
 | succ n ih =>
  intro N z0 z e m k fr x2 x4 x7 x8 v2 b4 v7_0 b7 hz st h2 s2 h4 bx4 h7 s7_0 bx7 h8 ao4_o7 r hr
  unfold l07_WheelOffsets_0 at hr
  refine W.loop1 ?_
  refine W.seq (W.seq (W.region ?_))
  refine sx rfl (pMove (v := (vI x8)) rfl h8) ?_
  refine sx rfl (pLss (k := .i64) (a := x8) (b := 5) rfl rfl rfl) ?_
  refine SeqW.done fun fr27 hf28 => ?_
  have h2 := (congrFun hf28 2).trans h2
  have h4 := (congrFun hf28 4).trans h4
  have h7 := (congrFun hf28 7).trans h7
  have h8 := (congrFun hf28 8).trans h8
  have h22 : fr27 22 = (vB (decide (x8 < 5))) := (congrFun hf28 22).trans rfl
  clear hf28
  refine thenQ.n ?_
  rcases if_some hr with ⟨hc29, hr⟩ | ⟨hc345, hr⟩
  ·refine W.condT h22 hc29 (W.skip ?_)
   refine thenQ.n (W.seq ?_)
   refine W.block ?_
   refine W.seq (W.region ?_)
   refine sx rfl (pMove (v := (vP b7)) rfl h7) ?_
   obtain ⟨y30, hy30, hr⟩ := bind_some hr
   refine SeqW.consX rfl (StepX.call (gCallee rfl rfl (args2 rfl rfl)) ((c_Maker_Wagons (x0 := x7) (z := z) st.fz st.dead s7_0 ⟨bx7.blk, bx7.lt, bx7.dead, .inr rfl⟩ hy30).mono ?_))
   rintro V36 m35 ⟨z31, _, V39, hzx32, fz33, sm34, rfl, Q37, Q40, X42, -⟩
   have A43 := Ap.own bx4.lt' Q37.fresh
   have A44 := Ap.own bx7.lt' Q37.fresh
   replace s2 := s2.mono hzx32.le
   replace bx4 := bx4.call hzx32 sm34 ao4_o7
   replace s7_0 := s7_0.mono hzx32.le
   have bx7n : Bx z31 e m35 k b7 _ _ := ⟨X42.blk, X42.lt, X42.dead, bx7.fresh⟩
   have Q37 : OwF TWagon z31 e m35 k y30.1 V36 := Q37.up st.next
   replace hz := hz.trans (Zx.here st hzx32)
   replace st := st.call hzx32 fz33 sm34 bx7.hq
   refine sx rfl (pAssign (v := V36) rfl rfl) ?_
   refine SeqW.done fun fr45 hf46 => ?_
   have h2 := (congrFun hf46 2).trans h2
   have h4 := (congrFun hf46 4).trans h4
   have h7 := (congrFun hf46 7).trans h7
   have h8 := (congrFun hf46 8).trans h8
   have h9 : fr45 9 = V36 := (congrFun hf46 9).trans rfl
   clear hf46
   refine thenQ.n (W.seq ?_)
   obtain ⟨y200, hy200, hr⟩ := bind_some hr
   refine W.keep (u_l07_WheelOffsets_1 (x4 := x4) (x7 := y30.2) (Zx.refl _) st h2 s2 h4 bx4 h7 Q40 bx7n h8 h9 Q37 ao4_o7 A43 A44 hy200) ?_
   rintro ex206 fr201 m202 hk204 ⟨z203, hz205, st, rfl, w207, w208, h7, Q210, X212, h9, O214, O215, A216, A217, A218, -⟩
   replace s2 := s2.mono hz205.le
   have h2 := (hk204 2 rfl).trans h2
   have h4 := (hk204 4 rfl).trans h4
   have h8 := (hk204 8 rfl).trans h8
   replace hz := hz.trans hz205
   clear hk204
   refine thenQ.n (W.seq (W.region ?_))
   refine sx rfl (pMove (v := w208) rfl h9) ?_
   obtain ⟨z219, hz220, st, Q221, hl222⟩ := O214.freeze st
   replace s2 := s2.mono hz220.le
   replace O215 := O215.zle (hl222 _ (Ap.symm A218))
   replace Q210 := Q210.mono hz220.le
   replace X212 := X212.zle (hl222 _ A216)
   replace hz := hz.trans hz220
   obtain ⟨y223, hy223, hr⟩ := bind_some hr
   refine SeqW.consX rfl (StepX.call (gCallee rfl rfl (args1 rfl)) ((c_wheel_Distances (z := z219) st.fz st.dead Q221 hy223).mono ?_))
   rintro _ m228 ⟨z224, V229, hzx225, fz226, sm227, rfl, Q230, -⟩
   replace s2 := s2.mono hzx225.le
   replace O215 := O215.call hzx225 sm227 Ap.none'
   replace Q210 := Q210.mono hzx225.le
   replace X212 := X212.call hzx225 sm227 Ap.none'
   replace Q221 := Q221.mono hzx225.le
   replace hz := hz.trans (Zx.here st hzx225)
   replace st := st.call hzx225 fz226 sm227 no_hq
   refine sx rfl (pMove (v := (Value.tuple [V229, (vI y223.2)].toArray)) rfl rfl) ?_
   refine sx rfl (pExtract (vs := [V229, (vI y223.2)]) (v := V229) rfl rfl rfl) ?_
   refine sx rfl (pExtract (vs := [V229, (vI y223.2)]) (v := (vI y223.2)) rfl rfl rfl) ?_
   refine sx rfl (pAssign (v := V229) rfl rfl) ?_
   refine sx rfl (pAssign (v := (vI y223.2)) rfl rfl) ?_
   refine SeqW.done fun fr232 hf233 => ?_
   have h2 := (congrFun hf233 2).trans h2
   have h4 := (congrFun hf233 4).trans h4
   have h7 := (congrFun hf233 7).trans h7
   have h8 := (congrFun hf233 8).trans h8
   have h9 := (congrFun hf233 9).trans h9
   have h10 : fr232 10 = V229 := (congrFun hf233 10).trans rfl
   have h11 : fr232 11 = (vI y223.2) := (congrFun hf233 11).trans rfl
   clear hf233
   refine thenQ.n (W.seq (W.region ?_))
   refine sx rfl (pMove (v := w208) rfl h9) ?_
   obtain ⟨y234, hy234, hr⟩ := bind_some hr
   refine SeqW.consX rfl (StepX.call (gCallee rfl rfl (args1 rfl)) ((c_r07_Distances (z := z224) st.fz st.dead Q221 hy234).mono ?_))
   rintro _ m239 ⟨z235, V240, hzx236, fz237, sm238, rfl, Q241, -⟩
   replace s2 := s2.mono hzx236.le
   replace O215 := O215.call hzx236 sm238 Ap.none'
   replace Q210 := Q210.mono hzx236.le
   replace X212 := X212.call hzx236 sm238 Ap.none'
   replace Q221 := Q221.mono hzx236.le
   replace Q230 := Q230.mono hzx236.le
   replace hz := hz.trans (Zx.here st hzx236)
   replace st := st.call hzx236 fz237 sm238 no_hq
   refine sx rfl (pMove (v := (Value.tuple [V240, (vI y234.2)].toArray)) rfl rfl) ?_
   refine sx rfl (pExtract (vs := [V240, (vI y234.2)]) (v := V240) rfl rfl rfl) ?_
   refine sx rfl (pExtract (vs := [V240, (vI y234.2)]) (v := (vI y234.2)) rfl rfl rfl) ?_
   refine sx rfl (pAssign (v := V240) rfl rfl) ?_
   refine sx rfl (pAssign (v := (vI y234.2)) rfl rfl) ?_
   refine SeqW.done fun fr243 hf244 => ?_
   have h2 := (congrFun hf244 2).trans h2
   have h4 := (congrFun hf244 4).trans h4
   have h7 := (congrFun hf244 7).trans h7
   have h8 := (congrFun hf244 8).trans h8
   have h9 := (congrFun hf244 9).trans h9
   have h10 := (congrFun hf244 10).trans h10
   have h11 := (congrFun hf244 11).trans h11
   have h12 : fr243 12 = V240 := (congrFun hf244 12).trans rfl
   have h13 : fr243 13 = (vI y234.2) := (congrFun hf244 13).trans rfl
   clear hf244
   refine thenQ.n (W.seq (W.seq ?_))
   obtain ⟨y252, hy252, hr⟩ := bind_some hr
   refine W.keep (u_l07_WheelOffsets_4 (x4 := x4) (x7 := y200.1) (Zx.refl _) st h4 O215 h7 Q210 X212 h10 Q230 h11 h12 Q241 h13 (Ap.symm A217) hy252) ?_
   rintro ex258 fr253 m254 hk256 ⟨z255, hz257, st, rfl, h78, O259, O260, A261, -⟩
   replace s2 := s2.mono hz257.le
   replace Q210 := Q210.mono hz257.le
   replace Q221 := Q221.mono hz257.le
   have h2 := (hk256 2 rfl).trans h2
   have h4 := (hk256 4 rfl).trans h4
   have h7 := (hk256 7 rfl).trans h7
   have h8 := (hk256 8 rfl).trans h8
   have h9 := (hk256 9 rfl).trans h9
   replace hz := hz.trans hz257
   clear hk256
   refine thenQ.n ?_
   rcases if_some hr with ⟨hc262, hr⟩ | ⟨hc265, hr⟩
   ·refine W.condT h78 hc262 (W.seq (W.region ?_))
    refine sx rfl (pAssign (v := (vB false)) rfl rfl) ?_
    refine SeqW.done fun fr263 hf264 => ?_
    have h6 : fr263 6 = (vB false) := (congrFun hf264 6).trans rfl
    clear hf264
    refine thenQ.n ?_
    refine W.ret ?_
    refine thenQ.r ?_
    refine blockQ.r ?_
    refine thenQ.r ?_
    refine thenQ.r ?_
    obtain rfl := Option.some.inj hr
    exact ⟨z255, hz, st, .inr ⟨_, rfl, rfl, h6, trivial⟩⟩
   ·refine W.condF h78 hc265 (W.skip ?_)
    refine thenQ.n (W.seq (W.region ?_))
    refine sx rfl (pAssign (v := (vI 0)) rfl rfl) ?_
    refine SeqW.done fun fr266 hf267 => ?_
    have h2 := (congrFun hf267 2).trans h2
    have h4 := (congrFun hf267 4).trans h4
    have h7 := (congrFun hf267 7).trans h7
    have h8 := (congrFun hf267 8).trans h8
    have h9 := (congrFun hf267 9).trans h9
    have h14 : fr266 14 = (vI 0) := (congrFun hf267 14).trans rfl
    clear hf267
    refine thenQ.n ?_
    refine W.block ?_
    obtain ⟨y330, hy330, hr⟩ := bind_some hr
    refine W.keep (u_l07_WheelOffsets_5 (x4 := x4) (x7 := y200.1) _ (Zx.refl _) st h4 O259 h7 Q210 O260 h9 Q221 h14 A261 hy330) ?_
    rintro ex336 fr331 m332 hk334 ⟨z333, hz335, st, ⟨y337, rfl, rfl, O338, O339, A340, -⟩ | ⟨y344, rfl, rfl, h6, -⟩⟩
    ·dsimp only at hr
     replace s2 := s2.mono hz335.le
     replace Q210 := Q210.mono hz335.le
     have h2 := (hk334 2 rfl).trans h2
     have h4 := (hk334 4 rfl).trans h4
     have h7 := (hk334 7 rfl).trans h7
     have h8 := (hk334 8 rfl).trans h8
     replace hz := hz.trans hz335
     clear hk334
     refine blockQ.hit ?_
     refine blockQ.n ?_
     refine thenQ.n (W.region ?_)
     refine sx rfl (pMove (v := (vI x8)) rfl h8) ?_
     refine sx rfl (pAdd (k := .i64) (a := x8) (b := 1) rfl rfl rfl) ?_
     obtain ⟨y341, hy341, hr⟩ := lt_some hr
     refine sx rfl (pAssign rfl (congrArg (Value.int .i64) hy341)) ?_
     refine SeqW.done fun fr342 hf343 => ?_
     have h2 := (congrFun hf343 2).trans h2
     have h4 := (congrFun hf343 4).trans h4
     have h7 := (congrFun hf343 7).trans h7
     have h8 : fr342 8 = (vI y341) := (congrFun hf343 8).trans rfl
     clear hf343
     refine thenQ.n ?_
     exact ih (x4 := x4) (x7 := y200.1) hz st h2 s2 h4 O338 h7 Q210 O339 h8 A340 hr
    ·dsimp only at hr
     replace hz := hz.trans hz335
     clear hk334
     refine blockQ.r ?_
     refine blockQ.r ?_
     refine thenQ.r ?_
     refine thenQ.r ?_
     obtain rfl := Option.some.inj hr
     exact ⟨z333, hz, st, .inr ⟨_, rfl, rfl, h6, trivial⟩⟩
  ·refine W.condF h22 hc345 ?_
   refine W.exit ?_
   refine thenQ.x ?_
   refine thenQ.x ?_
   obtain rfl := Option.some.inj hr
   exact ⟨z, hz, st, .inl ⟨_, rfl, rfl, trivial⟩⟩

theorem u_l07_WheelOffsets {N : Nat}  {z0 z : Nat → Blk} {e m : Mem} {k : Option Nat} {fr : Nat → Value} {x0 : List Int} {x1 : Wagon} {x2 : List Wagon} {v0 : Value} {v2 : Value} (hz : Zx e.next z0 z) (st : St z e m k) (h0 : fr 0 = v0) (s0 : SlR (TInt 3 .i64) z x0 v0) (h1 : fr 1 = (Value.agg [(str x1.number), (vI x1.length), (vI x1.axles), (vI x1.mass), (vI x1.brake), (vI x1.goods), (vB x1.gentle), (str x1.dest)].toArray)) (h2 : fr 2 = v2) (s2 : SlR TWagon z x2 v2) {r : Bool} (hr : l07_WheelOffsets N x0 x1 x2 = some r) : W Try.prog (sub (bodyOf Try.f8) []) (fun ex fr' m' => ∃ z', Zx e.next z0 z' ∧ St z' e m' k ∧ (ex = .normal ∨ ex = .ret) ∧ fr' 6 = (vB r) ∧ True) fr m := by
 unfold l07_WheelOffsets at hr
 refine W.seq (W.region ?_)
 refine SeqW.consX rfl (kBox (v := (Value.agg [(str x1.number), (vI x1.length), (vI x1.axles), (vI x1.mass), (vI x1.brake), (vI x1.goods), (vB x1.gentle), (str x1.dest)].toArray)) rfl Try.type30 h1 rfl [(str x1.number), (vI x1.length), (vI x1.axles), (vI x1.mass), (vI x1.brake), (vI x1.goods), (vB x1.gentle), (str x1.dest)] rfl rfl st ?_)
 intro B1 m2 st X3 sm4 hap5
 refine sx rfl (pAssign (v := (vB false)) rfl rfl) ?_
 refine SeqW.done fun fr7 hf8 => ?_
 have h0 := (congrFun hf8 0).trans h0
 have h2 := (congrFun hf8 2).trans h2
 have h4 : fr7 4 = (vP B1) := (congrFun hf8 4).trans rfl
 clear hf8
 refine thenQ.n (W.seq (W.region ?_))
 refine sx rfl (pMove (v := v0) rfl h0) ?_
 obtain ⟨y9, hy9, hr⟩ := bind_some hr
 refine SeqW.consX rfl (StepX.call (gCallee rfl rfl (args1 rfl)) ((c_gen_New (z := z) st.fz st.dead s0 hy9).mono ?_))
 rintro _ m14 ⟨z10, B15, V18, hzx11, fz12, sm13, rfl, Q19, X16, hn21, -⟩
 have A22 := Ap.fresh X3.lt' hn21
 replace s0 := s0.mono hzx11.le
 replace s2 := s2.mono hzx11.le
 replace X3 := X3.call hzx11 sm13 Ap.none'
 have X16 : Bx z10 e m14 k B15 _ _ := ⟨X16.blk, X16.lt, X16.dead, .inl (Nat.le_trans st.next hn21)⟩
 replace hz := hz.trans (Zx.here st hzx11)
 replace st := st.call hzx11 fz12 sm13 no_hq
 refine sx rfl (pAssign (v := (vP B15)) rfl rfl) ?_
 refine SeqW.done fun fr23 hf24 => ?_
 have h2 := (congrFun hf24 2).trans h2
 have h4 := (congrFun hf24 4).trans h4
 have h7 : fr23 7 = (vP B15) := (congrFun hf24 7).trans rfl
 clear hf24
 refine thenQ.n (W.seq ?_)
 refine W.seq (W.region ?_)
 refine sx rfl (pAssign (v := (vI 0)) rfl rfl) ?_
 refine SeqW.done fun fr25 hf26 => ?_
 have h2 := (congrFun hf26 2).trans h2
 have h4 := (congrFun hf26 4).trans h4
 have h7 := (congrFun hf26 7).trans h7
 have h8 : fr25 8 = (vI 0) := (congrFun hf26 8).trans rfl
 clear hf26
 refine thenQ.n ?_
 refine W.block ?_
 obtain ⟨y346, hy346, hr⟩ := bind_some hr
 refine W.keep (u_l07_WheelOffsets_0 (x4 := x1) (x7 := y9) _ (Zx.refl _) st h2 s2 h4 X3 h7 Q19 X16 h8 A22 hy346) ?_
 rintro ex352 fr347 m348 hk350 ⟨z349, hz351, st, ⟨y353, rfl, rfl, -⟩ | ⟨y357, rfl, rfl, h6, -⟩⟩
 ·dsimp only at hr
  replace hz := hz.trans hz351
  clear hk350
  refine blockQ.hit ?_
  refine thenQ.n (W.seq (W.region ?_))
  obtain ⟨y354, hy354, hr⟩ := bind_some hr
  refine SeqW.consX rfl (StepX.call (gCallee rfl rfl args0) ((c_l07_sane (z := z349) st.fz st.dead  hy354).mono ?_))
  rintro _ _ ⟨rfl, rfl⟩
  refine sx rfl (pAssign (v := (vB y354)) rfl rfl) ?_
  refine SeqW.done fun fr355 hf356 => ?_
  have h6 : fr355 6 = (vB y354) := (congrFun hf356 6).trans rfl
  clear hf356
  refine thenQ.n ?_
  refine W.ret ?_
  obtain rfl := Option.some.inj hr
  exact ⟨z349, hz, st, .inr rfl, h6, trivial⟩
 ·dsimp only at hr
  replace hz := hz.trans hz351
  clear hk350
  refine blockQ.r ?_
  refine thenQ.r ?_
  obtain rfl := Option.some.inj hr
  exact ⟨z349, hz, st, .inr rfl, h6, trivial⟩

theorem c_l07_WheelOffsets {N : Nat} {z : Nat → Blk} {m : Mem} {x0 : List Int} {x1 : Wagon} {x2 : List Wagon} {v0 : Value} {v2 : Value} (fz : Fz z m) (hd : ∀ b, m.next ≤ b → m.blk b = .dead) (s0 : SlR (TInt 3 .i64) z x0 v0) (s2 : SlR TWagon z x2 v2) {r : Bool} (hr : l07_WheelOffsets N x0 x1 x2 = some r) : CallW Try.prog 8 #[v0, (Value.agg [(str x1.number), (vI x1.length), (vI x1.axles), (vI x1.mass), (vI x1.brake), (vI x1.goods), (vB x1.gentle), (str x1.dest)].toArray), v2] m fun v m' => v = (vB r) ∧ m' = m := by
 refine CallW.flat Try.func8 rfl (by kernel_rfl) (Nat.le_of_ble_eq_true rfl) rfl (z := z) (fun fr hf => ?_)
 have h0 : fr 0 = _ := hf 0 _ rfl
 have h1 : fr 1 = _ := hf 1 _ rfl
 have h2 : fr 2 = _ := hf 2 _ rfl
 refine (u_l07_WheelOffsets (k := none) (Zx.refl _) (St.start fz hd) h0 s0 h1 h2 s2 hr).mono ?_
 rintro ex fr' m' ⟨z', hz, st, he, h6, -⟩
 exact ⟨he, z', st, [(vB r)], ⟨h6.symm, trivial⟩, .inl rfl, rfl⟩

end Go.W
