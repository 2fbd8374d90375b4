/- The models are what the program computes. -/
import Derived.Test.YtpfkolbgdmmakaaW1
set_option linter.unusedVariables false
set_option linter.unusedSimpArgs false
set_option maxRecDepth 100000
set_option maxHeartbeats 4000000
namespace Go.W
open Go.AM Go.Proofs


/-! ### (*humpyard/consist.reader).wagon -/

theorem u_reader_wagon_1 {N : Nat}  {z0 z : Nat → Blk} {e m : Mem} {k : Option Nat} {fr : Nat → Value} {x6 : Bool} {x8 : Int} {x0 : Reader} {v0_0 : Value} {b0 : Nat} {x2 : Wagon} {b2 : Nat} {x4 : Wagon} {b4 : Nat} {x5 : List UInt8} {v5 : Value} (hz : Zx e.next z0 z) (st : St z e m k) (h0 : fr 0 = (vP b0)) (s0_0 : SlR (TU8 5) z x0.b v0_0) (bx0 : Bx z e m k b0 [v0_0, (vI x0.at_)] 61) (h2 : fr 2 = (vP b2)) (bx2 : Bx z e m k b2 [(str x2.number), (vI x2.length), (vI x2.axles), (vI x2.mass), (vI x2.brake), (vI x2.goods), (vB x2.gentle), (str x2.dest)] 42) (h4 : fr 4 = (vP b4)) (bx4 : Bx z e m k b4 [(str x4.number), (vI x4.length), (vI x4.axles), (vI x4.mass), (vI x4.brake), (vI x4.goods), (vB x4.gentle), (str x4.dest)] 42) (h5 : fr 5 = v5) (o5 : OwF (TU8 5) z e m k x5 v5) (h6 : fr 6 = (vB x6)) (h8 : fr 8 = (vI x8)) (ao0_o2 : Ap (some b0) (some b2)) (ao0_o4 : Ap (some b0) (some b4)) (ao2_o4 : Ap (some b2) (some b4)) (ao0_o5 : Ap (some b0) (blkOf v5)) (ao2_o5 : Ap (some b2) (blkOf v5)) (ao4_o5 : Ap (some b4) (blkOf v5)) {r : Bool} (hr : reader_wagon_1 N x6 x8 = some r) : W Try.prog (sub (bodyOf Try.f31) [1, 1, 1, 1, 0, 1, 0, 0, 1, 0, 0, 1, 0]) (fun ex fr' m' => ∃ z', Zx e.next z0 z' ∧ St z' e m' k ∧ ex = AExit.normal ∧ fr' 6 = (vB r) ∧ Bx z' e m' k b0 [v0_0, (vI x0.at_)] 61 ∧ Bx z' e m' k b2 [(str x2.number), (vI x2.length), (vI x2.axles), (vI x2.mass), (vI x2.brake), (vI x2.goods), (vB x2.gentle), (str x2.dest)] 42 ∧ Bx z' e m' k b4 [(str x4.number), (vI x4.length), (vI x4.axles), (vI x4.mass), (vI x4.brake), (vI x4.goods), (vB x4.gentle), (str x4.dest)] 42 ∧ OwF (TU8 5) z' e m' k x5 v5 ∧ Ap (some b0) (some b2) ∧ Ap (some b0) (some b4) ∧ Ap (some b2) (some b4) ∧ Ap (some b0) (blkOf v5) ∧ Ap (some b2) (blkOf v5) ∧ Ap (some b4) (blkOf v5) ∧ True) fr m := by
 unfold reader_wagon_1 at hr
 refine W.region ?_
 refine sx rfl (pMove (v := (vB x6)) rfl h6) ?_
 refine sx rfl (pMove (v := (vB x6)) rfl rfl) ?_
 rcases if_some hr with ⟨hc41, hr⟩ | ⟨hc49, hr⟩
 ·refine SeqW.consG rfl rfl rfl hc41 (StepX.pure (pMove (v := (vI x8)) rfl h8) ?_)
  refine SeqW.consG rfl rfl rfl hc41 (StepX.pure (pShrL (k := .i64) (a := x8) (n := 4) (p := 16) rfl rfl rfl rfl rfl) ?_)
  refine SeqW.consG rfl rfl rfl hc41 (StepX.pure (pLeq (k := .i64) (a := (Int.fdiv x8 16)) (b := 9) rfl rfl rfl) ?_)
  refine sx rfl (pPick (t := true) (v := (vB (decide ((Int.fdiv x8 16) ≤ 9)))) rfl ((congrArg vB hc41)) rfl) ?_
  refine sx rfl (pMove (v := (vB (decide ((Int.fdiv x8 16) ≤ 9)))) rfl rfl) ?_
  rcases if_some hr with ⟨hc42, hr⟩ | ⟨hc46, hr⟩
  ·refine SeqW.consG rfl rfl rfl hc42 (StepX.pure (pMove (v := (vI x8)) rfl h8) ?_)
   refine SeqW.consG rfl rfl rfl hc42 (StepX.pure (pAnd (k := .i64) (a := x8) (b := 15) rfl rfl rfl) ?_)
   refine SeqW.consG rfl rfl rfl hc42 (StepX.pure (pLeq (k := .i64) (a := (bitsV .and .i64 x8 15)) (b := 9) rfl rfl rfl) ?_)
   refine sx rfl (pPick (t := true) (v := (vB (decide ((bitsV .and .i64 x8 15) ≤ 9)))) rfl ((congrArg vB hc42)) rfl) ?_
   obtain ⟨y43, hy43, hr⟩ := lt_some hr
   refine sx rfl (pAssign rfl (congrArg vB hy43)) ?_
   refine SeqW.done fun fr44 hf45 => ?_
   have h0 := (congrFun hf45 0).trans h0
   have h2 := (congrFun hf45 2).trans h2
   have h4 := (congrFun hf45 4).trans h4
   have h5 := (congrFun hf45 5).trans h5
   have h6 : fr44 6 = (vB y43) := (congrFun hf45 6).trans rfl
   have h8 := (congrFun hf45 8).trans h8
   clear hf45
   obtain rfl := Option.some.inj hr
   exact ⟨z, hz, st, rfl, h6, bx0, bx2, bx4, o5, ao0_o2, ao0_o4, ao2_o4, ao0_o5, ao2_o5, ao4_o5, trivial⟩
  ·refine kx rfl rfl rfl hc46 ?_
   iterate 2 refine kx rfl rfl rfl hc46 ?_
   refine sx rfl (pPick (t := false) (v := (vB false)) rfl ((congrArg vB hc46)) rfl) ?_
   refine sx rfl (pAssign (v := (vB false)) rfl rfl) ?_
   refine SeqW.done fun fr47 hf48 => ?_
   have h0 := (congrFun hf48 0).trans h0
   have h2 := (congrFun hf48 2).trans h2
   have h4 := (congrFun hf48 4).trans h4
   have h5 := (congrFun hf48 5).trans h5
   have h6 : fr47 6 = (vB false) := (congrFun hf48 6).trans rfl
   have h8 := (congrFun hf48 8).trans h8
   clear hf48
   obtain rfl := Option.some.inj hr
   exact ⟨z, hz, st, rfl, h6, bx0, bx2, bx4, o5, ao0_o2, ao0_o4, ao2_o4, ao0_o5, ao2_o5, ao4_o5, trivial⟩
 ·refine kx rfl rfl rfl hc49 ?_
  iterate 2 refine kx rfl rfl rfl hc49 ?_
  refine sx rfl (pPick (t := false) (v := (vB false)) rfl ((congrArg vB hc49)) rfl) ?_
  refine sx rfl (pMove (v := (vB false)) rfl rfl) ?_
  iterate 3 refine kx rfl rfl rfl rfl ?_
  refine sx rfl (pPick (t := false) (v := (vB false)) rfl ((congrArg vB (rfl : false = false))) rfl) ?_
  refine sx rfl (pAssign (v := (vB false)) rfl rfl) ?_
  refine SeqW.done fun fr50 hf51 => ?_
  have h0 := (congrFun hf51 0).trans h0
  have h2 := (congrFun hf51 2).trans h2
  have h4 := (congrFun hf51 4).trans h4
  have h5 := (congrFun hf51 5).trans h5
  have h6 : fr50 6 = (vB false) := (congrFun hf51 6).trans rfl
  have h8 := (congrFun hf51 8).trans h8
  clear hf51
  obtain rfl := Option.some.inj hr
  exact ⟨z, hz, st, rfl, h6, bx0, bx2, bx4, o5, ao0_o2, ao0_o4, ao2_o4, ao0_o5, ao2_o5, ao4_o5, trivial⟩

theorem u_reader_wagon_0 : ∀ (n : Nat) {N : Nat}  {z0 z : Nat → Blk} {e m : Mem} {k : Option Nat} {fr : Nat → Value} {x0 : Reader} {x5 : List UInt8} {x6 : Bool} {x7 : Int} {v0_0 : Value} {b0 : Nat} {x2 : Wagon} {b2 : Nat} {x4 : Wagon} {b4 : Nat} {v5 : Value} (hz : Zx e.next z0 z) (st : St z e m k) (h0 : fr 0 = (vP b0)) (s0_0 : SlR (TU8 5) z x0.b v0_0) (bx0 : Bx z e m k b0 [v0_0, (vI x0.at_)] 61) (h2 : fr 2 = (vP b2)) (bx2 : Bx z e m k b2 [(str x2.number), (vI x2.length), (vI x2.axles), (vI x2.mass), (vI x2.brake), (vI x2.goods), (vB x2.gentle), (str x2.dest)] 42) (h4 : fr 4 = (vP b4)) (bx4 : Bx z e m k b4 [(str x4.number), (vI x4.length), (vI x4.axles), (vI x4.mass), (vI x4.brake), (vI x4.goods), (vB x4.gentle), (str x4.dest)] 42) (h5 : fr 5 = v5) (o5 : OwF (TU8 5) z e m k x5 v5) (h6 : fr 6 = (vB x6)) (h7 : fr 7 = (vI x7)) (ao0_o2 : Ap (some b0) (some b2)) (ao0_o4 : Ap (some b0) (some b4)) (ao2_o4 : Ap (some b2) (some b4)) (ao0_o5 : Ap (some b0) (blkOf v5)) (ao2_o5 : Ap (some b2) (blkOf v5)) (ao4_o5 : Ap (some b4) (blkOf v5)) {r : Reader × List UInt8 × Bool} (hr : reader_wagon_0 N n x0 x5 x6 x7 = some r), W Try.prog (sub (bodyOf Try.f31) [1, 1, 1, 1, 0, 1, 0]) (fun ex fr' m' => ∃ z', Zx e.next z0 z' ∧ St z' e m' k ∧ ex = AExit.exit 0 ∧ ∃ (w0_0 : Value) (w5 : Value), fr' 0 = (vP b0) ∧ SlR (TU8 5) z' r.1.b w0_0 ∧ Bx z' e m' k b0 [w0_0, (vI r.1.at_)] 61 ∧ fr' 5 = w5 ∧ OwF (TU8 5) z' e m' k r.2.1 w5 ∧ fr' 6 = (vB r.2.2) ∧ Bx z' e m' k b2 [(str x2.number), (vI x2.length), (vI x2.axles), (vI x2.mass), (vI x2.brake), (vI x2.goods), (vB x2.gentle), (str x2.dest)] 42 ∧ Bx z' e m' k b4 [(str x4.number), (vI x4.length), (vI x4.axles), (vI x4.mass), (vI x4.brake), (vI x4.goods), (vB x4.gentle), (str x4.dest)] 42 ∧ Ap (some b0) (blkOf w5) ∧ Ap (some b0) (some b2) ∧ Ap (blkOf w5) (some b2) ∧ Ap (some b0) (some b4) ∧ Ap (blkOf w5) (some b4) ∧ Ap (some b2) (some b4) ∧ True) fr m := by
 intro n
 induction n with
 | zero => intro N z0 z e m k fr x0 x5 x6 x7 v0_0 b0 x2 b2 x4 b4 v5 hz st h0 s0_0 bx0 h2 bx2 h4 bx4 h5 o5 h6 h7 ao0_o2 ao0_o4 ao2_o4 ao0_o5 ao2_o5 ao4_o5 r hr; cases (show (none : Option _) = some r from hr)
 | succ n ih =>
  intro N z0 z e m k fr x0 x5 x6 x7 v0_0 b0 x2 b2 x4 b4 v5 hz st h0 s0_0 bx0 h2 bx2 h4 bx4 h5 o5 h6 h7 ao0_o2 ao0_o4 ao2_o4 ao0_o5 ao2_o5 ao4_o5 r hr
  unfold reader_wagon_0 at hr
  refine W.loop1 ?_
  refine W.seq (W.seq (W.region ?_))
  refine sx rfl (pMove (v := (vI x7)) rfl h7) ?_
  refine sx rfl (pLss (k := .i64) (a := x7) (b := 12) rfl rfl rfl) ?_
  refine SeqW.done fun fr26 hf27 => ?_
  have h0 := (congrFun hf27 0).trans h0
  have h2 := (congrFun hf27 2).trans h2
  have h4 := (congrFun hf27 4).trans h4
  have h5 := (congrFun hf27 5).trans h5
  have h6 := (congrFun hf27 6).trans h6
  have h7 := (congrFun hf27 7).trans h7
  have h12 : fr26 12 = (vB (decide (x7 < 12))) := (congrFun hf27 12).trans rfl
  clear hf27
  refine thenQ.n ?_
  rcases if_some hr with ⟨hc28, hr⟩ | ⟨hc97, hr⟩
  ·refine W.condT h12 hc28 (W.skip ?_)
   refine thenQ.n (W.seq ?_)
   refine W.block ?_
   refine W.seq (W.region ?_)
   refine sx rfl (pMove (v := (vP b0)) rfl h0) ?_
   obtain ⟨y29, hy29, hr⟩ := bind_some hr
   refine SeqW.consX rfl (StepX.call (gCallee rfl rfl (args1 rfl)) ((c_reader_one (x0 := x0) (z := z) st.fz st.dead s0_0 ⟨bx0.blk, bx0.lt, bx0.dead, .inr rfl⟩ hy29).mono ?_))
   rintro _ m34 ⟨z30, V35, hzx31, fz32, sm33, rfl, Q36, X38, -⟩
   replace s0_0 := s0_0.mono hzx31.le
   replace bx2 := bx2.call hzx31 sm33 (Ap.symm ao0_o2)
   replace bx4 := bx4.call hzx31 sm33 (Ap.symm ao0_o4)
   replace o5 := o5.call hzx31 sm33 (Ap.symm ao0_o5)
   have bx0n : Bx z30 e m34 k b0 _ _ := ⟨X38.blk, X38.lt, X38.dead, bx0.fresh⟩
   replace hz := hz.trans (Zx.here st hzx31)
   replace st := st.call hzx31 fz32 sm33 bx0.hq
   refine sx rfl (pAssign (v := (vI y29.1)) rfl rfl) ?_
   refine SeqW.done fun fr39 hf40 => ?_
   have h0 := (congrFun hf40 0).trans h0
   have h2 := (congrFun hf40 2).trans h2
   have h4 := (congrFun hf40 4).trans h4
   have h5 := (congrFun hf40 5).trans h5
   have h6 := (congrFun hf40 6).trans h6
   have h7 := (congrFun hf40 7).trans h7
   have h8 : fr39 8 = (vI y29.1) := (congrFun hf40 8).trans rfl
   clear hf40
   refine thenQ.n (W.seq ?_)
   obtain ⟨y52, hy52, hr⟩ := bind_some hr
   refine W.keep (u_reader_wagon_1 (x0 := y29.2) (x2 := x2) (x4 := x4) (Zx.refl _) st h0 Q36 bx0n h2 bx2 h4 bx4 h5 o5 h6 h8 ao0_o2 ao0_o4 ao2_o4 ao0_o5 ao2_o5 ao4_o5 hy52) ?_
   rintro ex58 fr53 m54 hk56 ⟨z55, hz57, st, rfl, h6, O59, O60, O61, O62, A63, A64, A65, A66, A67, A68, -⟩
   replace Q36 := Q36.mono hz57.le
   have h0 := (hk56 0 rfl).trans h0
   have h2 := (hk56 2 rfl).trans h2
   have h4 := (hk56 4 rfl).trans h4
   have h5 := (hk56 5 rfl).trans h5
   have h7 := (hk56 7 rfl).trans h7
   have h8 := (hk56 8 rfl).trans h8
   replace hz := hz.trans hz57
   clear hk56
   refine thenQ.n (W.region ?_)
   refine sx rfl (pMove (v := v5) rfl h5) ?_
   refine sx rfl (pMove (v := (vI y29.1)) rfl h8) ?_
   refine sx rfl (pShrL (k := .i64) (a := y29.1) (n := 4) (p := 16) rfl rfl rfl rfl rfl) ?_
   refine sx rfl (pAdd (k := .i64) (a := 48) (b := (Int.fdiv y29.1 16)) rfl rfl rfl) ?_
   refine sx rfl (pConv (k := .i64) (a := (IntKind.wrap .i64 (48 + (Int.fdiv y29.1 16)))) rfl Try.underlying3 Try.underlying5 rfl) ?_
   refine sx rfl (pMove (v := (vI y29.1)) rfl h8) ?_
   refine sx rfl (pAnd (k := .i64) (a := y29.1) (b := 15) rfl rfl rfl) ?_
   refine sx rfl (pAdd (k := .i64) (a := 48) (b := (bitsV .and .i64 y29.1 15)) rfl rfl rfl) ?_
   refine sx rfl (pConv (k := .i64) (a := (IntKind.wrap .i64 (48 + (bitsV .and .i64 y29.1 15)))) rfl Try.underlying3 Try.underlying5 rfl) ?_
   obtain ⟨y69, hy69, hr⟩ := bind_some hr
   obtain ⟨y70, hy70, hr⟩ := bind_some hr
   refine SeqW.consX rfl (kBuild (T := (TU8 5)) rfl Try.underlying23 Try.type5 rfl rfl rfl rfl ([y69, y70] : List UInt8) [[Value.int .u8 (UInt8.toNat y69 : Int)], [Value.int .u8 (UInt8.toNat y70 : Int)]] rfl rfl rfl (BuildOk.mk (w := (Value.int .u8 (UInt8.toNat y69 : Int))) (by rw [← toU8_some hy69]; exact rfl) rfl rfl rfl (BuildOk.mk (w := (Value.int .u8 (UInt8.toNat y70 : Int))) (by rw [← toU8_some hy70]; exact rfl) rfl rfl rfl trivial)) st ?_)
   intro V71 m72 st O73 sm74 hap75
   have A77 := hap75 _ O59.lt'
   have A78 := hap75 _ O60.lt'
   have A79 := hap75 _ O61.lt'
   have A80 := hap75 _ O62.lt
   replace O59 := O59.same sm74 Ap.none'
   replace O60 := O60.same sm74 Ap.none'
   replace O61 := O61.same sm74 Ap.none'
   replace O62 := O62.same sm74 Ap.none'
   obtain ⟨y81, hy81, hr⟩ := bind_some hr
   refine SeqW.consX rfl (kAppend (T := (TU8 5)) (xs := x5) (ys := ([y69, y70] : List UInt8)) rfl Try.underlying23 Try.type5 rfl rfl rfl rfl rfl rfl (.inl ⟨_, Try.underlying23⟩) rfl O62 rfl O73.ow.src st hy81 ?_)
   intro V82 m83 st O84 sm85 hap86
   have A88 := hap86 _ O59.lt' A66
   have A89 := hap86 _ O60.lt' A67
   have A90 := hap86 _ O61.lt' A68
   have A91 := hap86 _ O73.lt (Ap.symm A80)
   replace O59 := O59.same sm85 A66
   replace O60 := O60.same sm85 A67
   replace O61 := O61.same sm85 A68
   replace O73 := O73.same sm85 (Ap.symm A80)
   refine sx rfl (pAssign (v := V82) rfl rfl) ?_
   refine SeqW.done fun fr92 hf93 => ?_
   have h0 := (congrFun hf93 0).trans h0
   have h2 := (congrFun hf93 2).trans h2
   have h4 := (congrFun hf93 4).trans h4
   have h5 : fr92 5 = V82 := (congrFun hf93 5).trans rfl
   have h6 := (congrFun hf93 6).trans h6
   have h7 := (congrFun hf93 7).trans h7
   clear hf93
   refine blockQ.n ?_
   refine thenQ.n (W.region ?_)
   refine sx rfl (pMove (v := (vI x7)) rfl h7) ?_
   refine sx rfl (pAdd (k := .i64) (a := x7) (b := 2) rfl rfl rfl) ?_
   obtain ⟨y94, hy94, hr⟩ := lt_some hr
   refine sx rfl (pAssign rfl (congrArg (Value.int .i64) hy94)) ?_
   refine SeqW.done fun fr95 hf96 => ?_
   have h0 := (congrFun hf96 0).trans h0
   have h2 := (congrFun hf96 2).trans h2
   have h4 := (congrFun hf96 4).trans h4
   have h5 := (congrFun hf96 5).trans h5
   have h6 := (congrFun hf96 6).trans h6
   have h7 : fr95 7 = (vI y94) := (congrFun hf96 7).trans rfl
   clear hf96
   refine thenQ.n ?_
   exact ih (x0 := y29.2) (x2 := x2) (x4 := x4) hz st h0 Q36 O59 h2 O60 h4 O61 h5 O84 h6 h7 A63 A64 A65 A88 A89 A90 hr
  ·refine W.condF h12 hc97 ?_
   refine W.exit ?_
   refine thenQ.x ?_
   refine thenQ.x ?_
   obtain rfl := Option.some.inj hr
   exact ⟨z, hz, st, rfl, v0_0, v5, h0, s0_0, bx0, h5, o5, h6, bx2, bx4, ao0_o5, ao0_o2, (Ap.symm ao2_o5), ao0_o4, (Ap.symm ao4_o5), ao2_o4, trivial⟩

theorem u_reader_wagon_2 {N : Nat}  {z0 z : Nat → Blk} {e m : Mem} {k : Option Nat} {fr : Nat → Value} {x4 : Wagon} {x6 : Bool} {x9 : Int} {x0 : Reader} {v0_0 : Value} {b0 : Nat} {x2 : Wagon} {b2 : Nat} {b4 : Nat} (hz : Zx e.next z0 z) (st : St z e m k) (h0 : fr 0 = (vP b0)) (s0_0 : SlR (TU8 5) z x0.b v0_0) (bx0 : Bx z e m k b0 [v0_0, (vI x0.at_)] 61) (h2 : fr 2 = (vP b2)) (bx2 : Bx z e m k b2 [(str x2.number), (vI x2.length), (vI x2.axles), (vI x2.mass), (vI x2.brake), (vI x2.goods), (vB x2.gentle), (str x2.dest)] 42) (h4 : fr 4 = (vP b4)) (bx4 : Bx z e m k b4 [(str x4.number), (vI x4.length), (vI x4.axles), (vI x4.mass), (vI x4.brake), (vI x4.goods), (vB x4.gentle), (str x4.dest)] 42) (h6 : fr 6 = (vB x6)) (h9 : fr 9 = (vI x9)) (ao0_o2 : Ap (some b0) (some b2)) (ao0_o4 : Ap (some b0) (some b4)) (ao2_o4 : Ap (some b2) (some b4)) {r : Bool} (hr : reader_wagon_2 N x4 x6 x9 = some r) : W Try.prog (sub (bodyOf Try.f31) [1, 1, 1, 1, 1, 1, 1, 1, 1, 1, 1, 1, 0]) (fun ex fr' m' => ∃ z', Zx e.next z0 z' ∧ St z' e m' k ∧ ex = AExit.normal ∧ fr' 6 = (vB r) ∧ Bx z' e m' k b0 [v0_0, (vI x0.at_)] 61 ∧ Bx z' e m' k b2 [(str x2.number), (vI x2.length), (vI x2.axles), (vI x2.mass), (vI x2.brake), (vI x2.goods), (vB x2.gentle), (str x2.dest)] 42 ∧ Bx z' e m' k b4 [(str x4.number), (vI x4.length), (vI x4.axles), (vI x4.mass), (vI x4.brake), (vI x4.goods), (vB x4.gentle), (str x4.dest)] 42 ∧ Ap (some b0) (some b2) ∧ Ap (some b0) (some b4) ∧ Ap (some b2) (some b4) ∧ True) fr m := by
 unfold reader_wagon_2 at hr
 refine W.region ?_
 refine sx rfl (pMove (v := (vB x6)) rfl h6) ?_
 refine sx rfl (pMove (v := (vB x6)) rfl rfl) ?_
 rcases if_some hr with ⟨hc199, hr⟩ | ⟨hc207, hr⟩
 ·refine SeqW.consG rfl rfl rfl hc199 (StepX.pure (pMove (v := (vI x9)) rfl h9) ?_)
  refine SeqW.consG rfl rfl rfl hc199 (StepX.pure (pLeq (k := .i64) (a := x9) (b := 25) rfl rfl rfl) ?_)
  refine sx rfl (pPick (t := true) (v := (vB (decide (x9 ≤ 25)))) rfl ((congrArg vB hc199)) rfl) ?_
  refine sx rfl (pMove (v := (vB (decide (x9 ≤ 25)))) rfl rfl) ?_
  rcases if_some hr with ⟨hc200, hr⟩ | ⟨hc204, hr⟩
  ·refine SeqW.consG rfl rfl rfl hc200 (kField rfl Try.underlying42 rfl Try.type3 rfl h4 rfl ?_)
   refine SeqW.consG rfl rfl rfl hc200 (kLoad rfl Try.underlying3 rfl rfl (bx4.load (v := (vI x4.goods)) rfl) ?_)
   refine SeqW.consG rfl rfl rfl hc200 (StepX.pure (pLeq (k := .i64) (a := x4.goods) (b := 9) rfl rfl rfl) ?_)
   refine sx rfl (pPick (t := true) (v := (vB (decide (x4.goods ≤ 9)))) rfl ((congrArg vB hc200)) rfl) ?_
   obtain ⟨y201, hy201, hr⟩ := lt_some hr
   refine sx rfl (pAssign rfl (congrArg vB hy201)) ?_
   refine SeqW.done fun fr202 hf203 => ?_
   have h0 := (congrFun hf203 0).trans h0
   have h2 := (congrFun hf203 2).trans h2
   have h4 := (congrFun hf203 4).trans h4
   have h6 : fr202 6 = (vB y201) := (congrFun hf203 6).trans rfl
   clear hf203
   obtain rfl := Option.some.inj hr
   exact ⟨z, hz, st, rfl, h6, bx0, bx2, bx4, ao0_o2, ao0_o4, ao2_o4, trivial⟩
  ·refine kx rfl rfl rfl hc204 ?_
   iterate 2 refine kx rfl rfl rfl hc204 ?_
   refine sx rfl (pPick (t := false) (v := (vB false)) rfl ((congrArg vB hc204)) rfl) ?_
   refine sx rfl (pAssign (v := (vB false)) rfl rfl) ?_
   refine SeqW.done fun fr205 hf206 => ?_
   have h0 := (congrFun hf206 0).trans h0
   have h2 := (congrFun hf206 2).trans h2
   have h4 := (congrFun hf206 4).trans h4
   have h6 : fr205 6 = (vB false) := (congrFun hf206 6).trans rfl
   clear hf206
   obtain rfl := Option.some.inj hr
   exact ⟨z, hz, st, rfl, h6, bx0, bx2, bx4, ao0_o2, ao0_o4, ao2_o4, trivial⟩
 ·refine kx rfl rfl rfl hc207 ?_
  refine kx rfl rfl rfl hc207 ?_
  refine sx rfl (pPick (t := false) (v := (vB false)) rfl ((congrArg vB hc207)) rfl) ?_
  refine sx rfl (pMove (v := (vB false)) rfl rfl) ?_
  iterate 3 refine kx rfl rfl rfl rfl ?_
  refine sx rfl (pPick (t := false) (v := (vB false)) rfl ((congrArg vB (rfl : false = false))) rfl) ?_
  refine sx rfl (pAssign (v := (vB false)) rfl rfl) ?_
  refine SeqW.done fun fr208 hf209 => ?_
  have h0 := (congrFun hf209 0).trans h0
  have h2 := (congrFun hf209 2).trans h2
  have h4 := (congrFun hf209 4).trans h4
  have h6 : fr208 6 = (vB false) := (congrFun hf209 6).trans rfl
  clear hf209
  obtain rfl := Option.some.inj hr
  exact ⟨z, hz, st, rfl, h6, bx0, bx2, bx4, ao0_o2, ao0_o4, ao2_o4, trivial⟩

theorem u_reader_wagon {N : Nat}  {z0 z : Nat → Blk} {e m : Mem} {k : Option Nat} {fr : Nat → Value} {x0 : Reader} {v0_0 : Value} {b0 : Nat} (hz : Zx e.next z0 z) (st : St z e m k) (h0 : fr 0 = (vP b0)) (s0_0 : SlR (TU8 5) z x0.b v0_0) (bx0 : Bx z e m k b0 [v0_0, (vI x0.at_)] 61) {r : Wagon × Bool × Reader} (hr : reader_wagon N x0 = some r) : W Try.prog (sub (bodyOf Try.f31) []) (fun ex fr' m' => ∃ z', Zx e.next z0 z' ∧ St z' e m' k ∧ (ex = .normal ∨ ex = .ret) ∧ ∃ (c2 : Nat) (wr_0 : Value), fr' 2 = (vP c2) ∧ Bx z' e m' k c2 [(str r.1.number), (vI r.1.length), (vI r.1.axles), (vI r.1.mass), (vI r.1.brake), (vI r.1.goods), (vB r.1.gentle), (str r.1.dest)] 42 ∧ (e.next ≤ c2 ∨ k = some c2) ∧ fr' 3 = (vB r.2.1) ∧ SlR (TU8 5) z' r.2.2.b wr_0 ∧ Bx z' e m' k b0 [wr_0, (vI r.2.2.at_)] 61 ∧ True) fr m := by
 unfold reader_wagon at hr
 refine W.seq (W.region ?_)
 refine SeqW.consX rfl (kAlloc rfl Try.type42 rfl rfl rfl [(str []), (vI 0), (vI 0), (vI 0), (vI 0), (vI 0), (vB false), (str [])] rfl st ?_)
 intro B1 m2 st X3 sm4 hap5
 have A7 := hap5 _ bx0.lt'
 replace bx0 := bx0.same sm4 Ap.none'
 refine sx rfl (pAssign (v := (vB false)) rfl rfl) ?_
 refine SeqW.done fun fr8 hf9 => ?_
 have h0 := (congrFun hf9 0).trans h0
 have h2 : fr8 2 = (vP B1) := (congrFun hf9 2).trans rfl
 clear hf9
 refine thenQ.n (W.seq (W.region ?_))
 refine SeqW.consX rfl (kAlloc rfl Try.type42 rfl rfl rfl [(str []), (vI 0), (vI 0), (vI 0), (vI 0), (vI 0), (vB false), (str [])] rfl st ?_)
 intro B10 m11 st X12 sm13 hap14
 have A16 := hap14 _ bx0.lt'
 have A17 := hap14 _ X3.lt'
 replace bx0 := bx0.same sm13 Ap.none'
 replace X3 := X3.same sm13 Ap.none'
 refine SeqW.done fun fr18 hf19 => ?_
 have h0 := (congrFun hf19 0).trans h0
 have h2 := (congrFun hf19 2).trans h2
 have h4 : fr18 4 = (vP B10) := (congrFun hf19 4).trans rfl
 clear hf19
 refine thenQ.n (W.seq (W.region ?_))
 refine sx rfl (pAssign (v := (Value.slice none 0 0)) rfl rfl) ?_
 refine SeqW.done fun fr20 hf21 => ?_
 have h0 := (congrFun hf21 0).trans h0
 have h2 := (congrFun hf21 2).trans h2
 have h4 := (congrFun hf21 4).trans h4
 have h5 : fr20 5 = (Value.slice none 0 0) := (congrFun hf21 5).trans rfl
 clear hf21
 refine thenQ.n (W.seq (W.region ?_))
 refine sx rfl (pAssign (v := (vB true)) rfl rfl) ?_
 refine SeqW.done fun fr22 hf23 => ?_
 have h0 := (congrFun hf23 0).trans h0
 have h2 := (congrFun hf23 2).trans h2
 have h4 := (congrFun hf23 4).trans h4
 have h5 := (congrFun hf23 5).trans h5
 have h6 : fr22 6 = (vB true) := (congrFun hf23 6).trans rfl
 clear hf23
 refine thenQ.n (W.seq ?_)
 refine W.seq (W.region ?_)
 refine sx rfl (pAssign (v := (vI 0)) rfl rfl) ?_
 refine SeqW.done fun fr24 hf25 => ?_
 have h0 := (congrFun hf25 0).trans h0
 have h2 := (congrFun hf25 2).trans h2
 have h4 := (congrFun hf25 4).trans h4
 have h5 := (congrFun hf25 5).trans h5
 have h6 := (congrFun hf25 6).trans h6
 have h7 : fr24 7 = (vI 0) := (congrFun hf25 7).trans rfl
 clear hf25
 refine thenQ.n ?_
 refine W.block ?_
 obtain ⟨y98, hy98, hr⟩ := bind_some hr
 refine W.keep (u_reader_wagon_0 (x0 := x0) (x2 := (Wagon.mk [] 0 0 0 0 0 false [])) (x4 := (Wagon.mk [] 0 0 0 0 0 false [])) _ (Zx.refl _) st h0 s0_0 bx0 h2 X3 h4 X12 h5 OwF.nil h6 h7 A7 A16 A17 Ap.none' Ap.none' Ap.none' hy98) ?_
 rintro ex104 fr99 m100 hk102 ⟨z101, hz103, st, rfl, w105, w106, h0, Q108, X110, h5, O112, h6, O113, O114, A115, A116, A117, A118, A119, A120, -⟩
 have h2 := (hk102 2 rfl).trans h2
 have h4 := (hk102 4 rfl).trans h4
 replace hz := hz.trans hz103
 clear hk102
 refine blockQ.hit ?_
 refine thenQ.n (W.seq (W.region ?_))
 refine sx rfl (pMove (v := w106) rfl h5) ?_
 refine SeqW.consX rfl (kStrO (s := y98.2.1) rfl Try.underlying23 Try.underlying5 Try.underlying9 rfl O112 ?_)
 refine SeqW.consX rfl (kField rfl Try.underlying42 rfl Try.type9 rfl h4 rfl ?_)
 refine SeqW.consX rfl (kPut (off := 0) (w := (str y98.2.1)) (new := [(str y98.2.1)]) rfl Try.type9 rfl rfl rfl rfl rfl O114 rfl [(str y98.2.1), (vI 0), (vI 0), (vI 0), (vI 0), (vI 0), (vB false), (str [])] rfl st ?_)
 intro m121 st O114 sm122
 replace O113 := O113.same sm122 A120
 replace X110 := X110.same sm122 A118
 refine SeqW.done fun fr123 hf124 => ?_
 have h0 := (congrFun hf124 0).trans h0
 have h2 := (congrFun hf124 2).trans h2
 have h4 := (congrFun hf124 4).trans h4
 have h6 := (congrFun hf124 6).trans h6
 clear hf124
 refine thenQ.n (W.seq (W.region ?_))
 refine sx rfl (pMove (v := (vP b0)) rfl h0) ?_
 obtain ⟨y125, hy125, hr⟩ := bind_some hr
 refine SeqW.consX rfl (StepX.call (gCallee rfl rfl (args1 rfl)) ((c_reader_two (x0 := y98.1) (z := z101) st.fz st.dead Q108 ⟨X110.blk, X110.lt, X110.dead, .inr rfl⟩ hy125).mono ?_))
 rintro _ m130 ⟨z126, V131, hzx127, fz128, sm129, rfl, Q132, X134, -⟩
 replace O113 := O113.call hzx127 sm129 (Ap.symm A116)
 replace O114 := O114.call hzx127 sm129 (Ap.symm A118)
 replace Q108 := Q108.mono hzx127.le
 have X110n : Bx z126 e m130 k b0 _ _ := ⟨X134.blk, X134.lt, X134.dead, X110.fresh⟩
 replace hz := hz.trans (Zx.here st hzx127)
 replace st := st.call hzx127 fz128 sm129 X110.hq
 refine SeqW.consX rfl (kField rfl Try.underlying42 rfl Try.type3 rfl h4 rfl ?_)
 refine SeqW.consX rfl (kPut (off := 1) (w := (vI y125.1)) (new := [(vI y125.1)]) rfl Try.type3 rfl rfl rfl rfl rfl O114 rfl [(str y98.2.1), (vI y125.1), (vI 0), (vI 0), (vI 0), (vI 0), (vB false), (str [])] rfl st ?_)
 intro m135 st O114 sm136
 replace O113 := O113.same sm136 A120
 replace X110n := X110n.same sm136 A118
 refine SeqW.done fun fr137 hf138 => ?_
 have h0 := (congrFun hf138 0).trans h0
 have h2 := (congrFun hf138 2).trans h2
 have h4 := (congrFun hf138 4).trans h4
 have h6 := (congrFun hf138 6).trans h6
 clear hf138
 refine thenQ.n (W.seq (W.region ?_))
 refine sx rfl (pMove (v := (vP b0)) rfl h0) ?_
 obtain ⟨y139, hy139, hr⟩ := bind_some hr
 refine SeqW.consX rfl (StepX.call (gCallee rfl rfl (args1 rfl)) ((c_reader_one (x0 := y125.2) (z := z126) st.fz st.dead Q132 ⟨X110n.blk, X110n.lt, X110n.dead, .inr rfl⟩ hy139).mono ?_))
 rintro _ m144 ⟨z140, V145, hzx141, fz142, sm143, rfl, Q146, X148, -⟩
 replace O113 := O113.call hzx141 sm143 (Ap.symm A116)
 replace O114 := O114.call hzx141 sm143 (Ap.symm A118)
 replace Q132 := Q132.mono hzx141.le
 have X110nn : Bx z140 e m144 k b0 _ _ := ⟨X148.blk, X148.lt, X148.dead, X110n.fresh⟩
 replace hz := hz.trans (Zx.here st hzx141)
 replace st := st.call hzx141 fz142 sm143 X110n.hq
 refine SeqW.consX rfl (kField rfl Try.underlying42 rfl Try.type3 rfl h4 rfl ?_)
 refine SeqW.consX rfl (kPut (off := 2) (w := (vI y139.1)) (new := [(vI y139.1)]) rfl Try.type3 rfl rfl rfl rfl rfl O114 rfl [(str y98.2.1), (vI y125.1), (vI y139.1), (vI 0), (vI 0), (vI 0), (vB false), (str [])] rfl st ?_)
 intro m149 st O114 sm150
 replace O113 := O113.same sm150 A120
 replace X110nn := X110nn.same sm150 A118
 refine SeqW.done fun fr151 hf152 => ?_
 have h0 := (congrFun hf152 0).trans h0
 have h2 := (congrFun hf152 2).trans h2
 have h4 := (congrFun hf152 4).trans h4
 have h6 := (congrFun hf152 6).trans h6
 clear hf152
 refine thenQ.n (W.seq (W.region ?_))
 refine sx rfl (pMove (v := (vP b0)) rfl h0) ?_
 obtain ⟨y153, hy153, hr⟩ := bind_some hr
 refine SeqW.consX rfl (StepX.call (gCallee rfl rfl (args1 rfl)) ((c_reader_two (x0 := y139.2) (z := z140) st.fz st.dead Q146 ⟨X110nn.blk, X110nn.lt, X110nn.dead, .inr rfl⟩ hy153).mono ?_))
 rintro _ m158 ⟨z154, V159, hzx155, fz156, sm157, rfl, Q160, X162, -⟩
 replace O113 := O113.call hzx155 sm157 (Ap.symm A116)
 replace O114 := O114.call hzx155 sm157 (Ap.symm A118)
 replace Q146 := Q146.mono hzx155.le
 have X110nnn : Bx z154 e m158 k b0 _ _ := ⟨X162.blk, X162.lt, X162.dead, X110nn.fresh⟩
 replace hz := hz.trans (Zx.here st hzx155)
 replace st := st.call hzx155 fz156 sm157 X110nn.hq
 refine SeqW.consX rfl (kField rfl Try.underlying42 rfl Try.type3 rfl h4 rfl ?_)
 refine SeqW.consX rfl (kPut (off := 3) (w := (vI y153.1)) (new := [(vI y153.1)]) rfl Try.type3 rfl rfl rfl rfl rfl O114 rfl [(str y98.2.1), (vI y125.1), (vI y139.1), (vI y153.1), (vI 0), (vI 0), (vB false), (str [])] rfl st ?_)
 intro m163 st O114 sm164
 replace O113 := O113.same sm164 A120
 replace X110nnn := X110nnn.same sm164 A118
 refine SeqW.done fun fr165 hf166 => ?_
 have h0 := (congrFun hf166 0).trans h0
 have h2 := (congrFun hf166 2).trans h2
 have h4 := (congrFun hf166 4).trans h4
 have h6 := (congrFun hf166 6).trans h6
 clear hf166
 refine thenQ.n (W.seq (W.region ?_))
 refine sx rfl (pMove (v := (vP b0)) rfl h0) ?_
 obtain ⟨y167, hy167, hr⟩ := bind_some hr
 refine SeqW.consX rfl (StepX.call (gCallee rfl rfl (args1 rfl)) ((c_reader_two (x0 := y153.2) (z := z154) st.fz st.dead Q160 ⟨X110nnn.blk, X110nnn.lt, X110nnn.dead, .inr rfl⟩ hy167).mono ?_))
 rintro _ m172 ⟨z168, V173, hzx169, fz170, sm171, rfl, Q174, X176, -⟩
 replace O113 := O113.call hzx169 sm171 (Ap.symm A116)
 replace O114 := O114.call hzx169 sm171 (Ap.symm A118)
 replace Q160 := Q160.mono hzx169.le
 have X110nnnn : Bx z168 e m172 k b0 _ _ := ⟨X176.blk, X176.lt, X176.dead, X110nnn.fresh⟩
 replace hz := hz.trans (Zx.here st hzx169)
 replace st := st.call hzx169 fz170 sm171 X110nnn.hq
 refine SeqW.consX rfl (kField rfl Try.underlying42 rfl Try.type3 rfl h4 rfl ?_)
 refine SeqW.consX rfl (kPut (off := 4) (w := (vI y167.1)) (new := [(vI y167.1)]) rfl Try.type3 rfl rfl rfl rfl rfl O114 rfl [(str y98.2.1), (vI y125.1), (vI y139.1), (vI y153.1), (vI y167.1), (vI 0), (vB false), (str [])] rfl st ?_)
 intro m177 st O114 sm178
 replace O113 := O113.same sm178 A120
 replace X110nnnn := X110nnnn.same sm178 A118
 refine SeqW.done fun fr179 hf180 => ?_
 have h0 := (congrFun hf180 0).trans h0
 have h2 := (congrFun hf180 2).trans h2
 have h4 := (congrFun hf180 4).trans h4
 have h6 := (congrFun hf180 6).trans h6
 clear hf180
 refine thenQ.n (W.seq (W.region ?_))
 refine sx rfl (pMove (v := (vP b0)) rfl h0) ?_
 obtain ⟨y181, hy181, hr⟩ := bind_some hr
 refine SeqW.consX rfl (StepX.call (gCallee rfl rfl (args1 rfl)) ((c_reader_one (x0 := y167.2) (z := z168) st.fz st.dead Q174 ⟨X110nnnn.blk, X110nnnn.lt, X110nnnn.dead, .inr rfl⟩ hy181).mono ?_))
 rintro _ m186 ⟨z182, V187, hzx183, fz184, sm185, rfl, Q188, X190, -⟩
 replace O113 := O113.call hzx183 sm185 (Ap.symm A116)
 replace O114 := O114.call hzx183 sm185 (Ap.symm A118)
 replace Q174 := Q174.mono hzx183.le
 have X110nnnnn : Bx z182 e m186 k b0 _ _ := ⟨X190.blk, X190.lt, X190.dead, X110nnnn.fresh⟩
 replace hz := hz.trans (Zx.here st hzx183)
 replace st := st.call hzx183 fz184 sm185 X110nnnn.hq
 refine sx rfl (pAssign (v := (vI y181.1)) rfl rfl) ?_
 refine SeqW.done fun fr191 hf192 => ?_
 have h0 := (congrFun hf192 0).trans h0
 have h2 := (congrFun hf192 2).trans h2
 have h4 := (congrFun hf192 4).trans h4
 have h6 := (congrFun hf192 6).trans h6
 have h9 : fr191 9 = (vI y181.1) := (congrFun hf192 9).trans rfl
 clear hf192
 refine thenQ.n (W.seq (W.region ?_))
 refine sx rfl (pMove (v := (vI y181.1)) rfl h9) ?_
 refine sx rfl (pRem (k := .i64) (a := y181.1) (b := 16) rfl rfl rfl (by decide)) ?_
 refine sx rfl (pMove (v := (vI y181.1)) rfl h9) ?_
 refine sx rfl (pGeq (k := .i64) (a := y181.1) (b := 16) rfl rfl rfl) ?_
 refine SeqW.consX rfl (kField rfl Try.underlying42 rfl Try.type3 rfl h4 rfl ?_)
 refine SeqW.consX rfl (kPut (off := 5) (w := (vI (Int.tmod y181.1 16))) (new := [(vI (Int.tmod y181.1 16))]) rfl Try.type3 rfl rfl rfl rfl rfl O114 rfl [(str y98.2.1), (vI y125.1), (vI y139.1), (vI y153.1), (vI y167.1), (vI (Int.tmod y181.1 16)), (vB false), (str [])] rfl st ?_)
 intro m193 st O114 sm194
 replace O113 := O113.same sm194 A120
 replace X110nnnnn := X110nnnnn.same sm194 A118
 refine SeqW.consX rfl (kField rfl Try.underlying42 rfl Try.type4 rfl h4 rfl ?_)
 refine SeqW.consX rfl (kPut (off := 6) (w := (vB (decide (16 ≤ y181.1)))) (new := [(vB (decide (16 ≤ y181.1)))]) rfl Try.type4 rfl rfl rfl rfl rfl O114 rfl [(str y98.2.1), (vI y125.1), (vI y139.1), (vI y153.1), (vI y167.1), (vI (Int.tmod y181.1 16)), (vB (decide (16 ≤ y181.1))), (str [])] rfl st ?_)
 intro m195 st O114 sm196
 replace O113 := O113.same sm196 A120
 replace X110nnnnn := X110nnnnn.same sm196 A118
 refine SeqW.done fun fr197 hf198 => ?_
 have h0 := (congrFun hf198 0).trans h0
 have h2 := (congrFun hf198 2).trans h2
 have h4 := (congrFun hf198 4).trans h4
 have h6 := (congrFun hf198 6).trans h6
 have h9 := (congrFun hf198 9).trans h9
 clear hf198
 refine thenQ.n (W.seq ?_)
 obtain ⟨y210, hy210, hr⟩ := bind_some hr
 refine W.keep (u_reader_wagon_2 (x0 := y181.2) (x2 := (Wagon.mk [] 0 0 0 0 0 false [])) (x4 := (Wagon.mk y98.2.1 y125.1 y139.1 y153.1 y167.1 (Int.tmod y181.1 16) (decide (16 ≤ y181.1)) [])) (Zx.refl _) st h0 Q188 X110nnnnn h2 O113 h4 O114 h6 h9 A116 A118 A120 hy210) ?_
 rintro ex216 fr211 m212 hk214 ⟨z213, hz215, st, rfl, h6, O217, O218, O219, A220, A221, A222, -⟩
 replace Q188 := Q188.mono hz215.le
 have h0 := (hk214 0 rfl).trans h0
 have h2 := (hk214 2 rfl).trans h2
 have h4 := (hk214 4 rfl).trans h4
 replace hz := hz.trans hz215
 clear hk214
 refine thenQ.n (W.seq (W.region ?_))
 refine sx rfl (pMove (v := (vP b0)) rfl h0) ?_
 obtain ⟨y223, hy223, hr⟩ := bind_some hr
 refine SeqW.consX rfl (StepX.call (gCallee rfl rfl (args1 rfl)) ((c_reader_one (x0 := y181.2) (z := z213) st.fz st.dead Q188 ⟨O217.blk, O217.lt, O217.dead, .inr rfl⟩ hy223).mono ?_))
 rintro _ m228 ⟨z224, V229, hzx225, fz226, sm227, rfl, Q230, X232, -⟩
 replace O218 := O218.call hzx225 sm227 (Ap.symm A220)
 replace O219 := O219.call hzx225 sm227 (Ap.symm A221)
 replace Q188 := Q188.mono hzx225.le
 have O217n : Bx z224 e m228 k b0 _ _ := ⟨X232.blk, X232.lt, X232.dead, O217.fresh⟩
 replace hz := hz.trans (Zx.here st hzx225)
 replace st := st.call hzx225 fz226 sm227 O217.hq
 refine sx rfl (pAssign (v := (vI y223.1)) rfl rfl) ?_
 refine SeqW.done fun fr233 hf234 => ?_
 have h0 := (congrFun hf234 0).trans h0
 have h2 := (congrFun hf234 2).trans h2
 have h4 := (congrFun hf234 4).trans h4
 have h6 := (congrFun hf234 6).trans h6
 have h10 : fr233 10 = (vI y223.1) := (congrFun hf234 10).trans rfl
 clear hf234
 refine thenQ.n (W.seq ?_)
 refine W.draw ?_
 refine DrawW.cons rfl (StepX.pure (pMove (v := (vP b0)) rfl h0) ?_)
 refine ⟨trivial, ?_⟩
 refine DrawW.cons rfl (StepX.pure (PureR.nilCheck _ _ rfl rfl) ?_)
 refine ⟨trivial, ?_⟩
 refine DrawW.cons rfl (kField rfl Try.underlying61 rfl Try.type23 rfl rfl rfl ?_)
 refine ⟨trivial, ?_⟩
 refine DrawW.cons rfl (kLoad rfl Try.underlying23 rfl rfl (O217n.load (v := V229) rfl) ?_)
 refine ⟨?_, ?_⟩
 ·exact demN
 refine DrawW.cons rfl (StepX.pure (pMove (v := (vP b0)) rfl h0) ?_)
 refine ⟨trivial, ?_⟩
 refine DrawW.cons rfl (StepX.pure (PureR.nilCheck _ _ rfl rfl) ?_)
 refine ⟨trivial, ?_⟩
 refine DrawW.cons rfl (kField rfl Try.underlying61 rfl Try.type3 rfl rfl rfl ?_)
 refine ⟨trivial, ?_⟩
 refine DrawW.cons rfl (kLoad rfl Try.underlying3 rfl rfl (O217n.load (v := (vI y223.2.at_)) rfl) ?_)
 refine ⟨?_, ?_⟩
 ·exact demN
 refine DrawW.cons rfl (StepX.pure (pMove (v := (vP b0)) rfl h0) ?_)
 refine ⟨trivial, ?_⟩
 refine DrawW.cons rfl (StepX.pure (PureR.nilCheck _ _ rfl rfl) ?_)
 refine ⟨trivial, ?_⟩
 refine DrawW.cons rfl (kField rfl Try.underlying61 rfl Try.type3 rfl rfl rfl ?_)
 refine ⟨trivial, ?_⟩
 refine DrawW.cons rfl (kLoad rfl Try.underlying3 rfl rfl (O217n.load (v := (vI y223.2.at_)) rfl) ?_)
 refine ⟨?_, ?_⟩
 ·exact demN
 refine DrawW.cons rfl (StepX.pure (pMove (v := (vI y223.1)) rfl h10) ?_)
 refine ⟨trivial, ?_⟩
 refine DrawW.cons rfl (StepX.pure (pAdd (k := .i64) (a := y223.2.at_) (b := y223.1) rfl rfl rfl) ?_)
 refine ⟨trivial, ?_⟩
 obtain ⟨y235, hy235, hr⟩ := bind_some hr
 refine DrawW.cons rfl (kCut (T := (TU8 5)) (xs := y223.2.b) (a := y223.2.at_) (b := (IntKind.wrap .i64 (y223.2.at_ + y223.1))) rfl Try.underlying23 Try.type5 rfl rfl ⟨_, rfl⟩ ⟨_, rfl⟩ Q230 st hy235 ?_)
 intro V236 _ hI238 Q237
 refine ⟨?_, ?_⟩
 ·exact demN
 refine DrawW.cons rfl (kStrR (s := y235) rfl Try.underlying23 Try.underlying5 Try.underlying9 rfl Q237 st ?_)
 refine ⟨?_, ?_⟩
 ·exact demN
 refine DrawW.cons rfl (kField rfl Try.underlying42 rfl Try.type9 rfl h4 rfl ?_)
 refine ⟨trivial, ?_⟩
 have sto240 := st
 have old241 := O218
 have old242 := O219
 have old243 := O217n
 refine DrawW.cons rfl (kPut (off := 7) (w := (str y235)) (new := [(str y235)]) rfl Try.type9 rfl rfl rfl rfl rfl O219 rfl [(str y98.2.1), (vI y125.1), (vI y139.1), (vI y153.1), (vI y167.1), (vI (Int.tmod y181.1 16)), (vB (decide (16 ≤ y181.1))), (str y235)] rfl st ?_)
 intro m244 st O219 sm245
 replace O218 := O218.same sm245 A222
 replace O217n := O217n.same sm245 A221
 refine ⟨⟨?_, ?_⟩, ?_⟩
 ·first | refine demP (rStr rfl Try.underlying23 Try.underlying5 Try.underlying9 rfl (Q237.src st.fz) (by obtain ⟨a, c, rfl⟩ := Q237.len; exact ⟨_, _, _, rfl⟩)) ?_ | refine demA (by decide) ?_
  first | refine demP (hI238 _ st.fz) ?_ | refine demA (by decide) ?_
  first | refine demP (gLoad rfl Try.underlying3 rfl rfl (O217n.load (v := (vI y223.2.at_)) rfl)) ?_ | refine demA (by decide) ?_
  first | refine demP (gLoad rfl Try.underlying3 rfl rfl (O217n.load (v := (vI y223.2.at_)) rfl)) ?_ | refine demA (by decide) ?_
  first | refine demP (gLoad rfl Try.underlying23 rfl rfl (O217n.load (v := V229) rfl)) ?_ | refine demA (by decide) ?_
  exact demN
 ·exact demN
 refine DrawW.done fun fr246 hf247 => ?_
 have h0 := (congrFun hf247 0).trans h0
 have h2 := (congrFun hf247 2).trans h2
 have h4 := (congrFun hf247 4).trans h4
 have h6 := (congrFun hf247 6).trans h6
 have h10 := (congrFun hf247 10).trans h10
 clear hf247
 refine thenQ.n (W.seq (W.region ?_))
 refine sx rfl (pMove (v := (vP b0)) rfl h0) ?_
 refine sx rfl (PureR.nilCheck _ _ rfl rfl) ?_
 refine SeqW.consX rfl (kField rfl Try.underlying61 rfl Try.type3 rfl rfl rfl ?_)
 refine SeqW.consX rfl (kLoad rfl Try.underlying3 rfl rfl (O217n.load (v := (vI y223.2.at_)) rfl) ?_)
 refine sx rfl (pMove (v := (vI y223.1)) rfl h10) ?_
 refine sx rfl (pAdd (k := .i64) (a := y223.2.at_) (b := y223.1) rfl rfl rfl) ?_
 refine sx rfl (PureR.nilCheck _ _ rfl rfl) ?_
 refine SeqW.consX rfl (kField rfl Try.underlying61 rfl Try.type3 rfl rfl rfl ?_)
 refine SeqW.consX rfl (kPut (off := 1) (w := (vI (IntKind.wrap .i64 (y223.2.at_ + y223.1)))) (new := [(vI (IntKind.wrap .i64 (y223.2.at_ + y223.1)))]) rfl Try.type3 rfl rfl rfl rfl rfl O217n rfl [V229, (vI (IntKind.wrap .i64 (y223.2.at_ + y223.1)))] rfl st ?_)
 intro m248 st O217n sm249
 replace O218 := O218.same sm249 (Ap.symm A220)
 replace O219 := O219.same sm249 (Ap.symm A221)
 refine SeqW.done fun fr250 hf251 => ?_
 have h0 := (congrFun hf251 0).trans h0
 have h2 := (congrFun hf251 2).trans h2
 have h4 := (congrFun hf251 4).trans h4
 have h6 := (congrFun hf251 6).trans h6
 clear hf251
 refine thenQ.n (W.seq (W.region ?_))
 refine SeqW.consX rfl (kLoadA rfl Try.underlying42 rfl Try.type42 rfl h4 O219.loads ?_)
 refine sx rfl (pMove (v := (vB y210)) rfl h6) ?_
 refine SeqW.consX rfl (kPut (off := 0) (w := (Value.agg [(str y98.2.1), (vI y125.1), (vI y139.1), (vI y153.1), (vI y167.1), (vI (Int.tmod y181.1 16)), (vB (decide (16 ≤ y181.1))), (str y235)].toArray)) (new := [(str y98.2.1), (vI y125.1), (vI y139.1), (vI y153.1), (vI y167.1), (vI (Int.tmod y181.1 16)), (vB (decide (16 ≤ y181.1))), (str y235)]) rfl Try.type42 h2 rfl rfl rfl rfl O218 rfl [(str y98.2.1), (vI y125.1), (vI y139.1), (vI y153.1), (vI y167.1), (vI (Int.tmod y181.1 16)), (vB (decide (16 ≤ y181.1))), (str y235)] rfl st ?_)
 intro m252 st O218 sm253
 replace O217n := O217n.same sm253 A220
 refine sx rfl (pAssign (v := (vB y210)) rfl rfl) ?_
 refine SeqW.done fun fr254 hf255 => ?_
 have h0 := (congrFun hf255 0).trans h0
 have h2 := (congrFun hf255 2).trans h2
 have h3 : fr254 3 = (vB y210) := (congrFun hf255 3).trans rfl
 clear hf255
 refine thenQ.n ?_
 refine W.ret ?_
 obtain rfl := Option.some.inj hr
 exact ⟨z224, hz, st, .inr rfl, B1, V229, h2, O218, O218.fresh, h3, Q230, O217n, trivial⟩

theorem c_reader_wagon {N : Nat} {z : Nat → Blk} {m : Mem} {x0 : Reader} {v0_0 : Value} {b0 : Nat} (fz : Fz z m) (hd : ∀ b, m.next ≤ b → m.blk b = .dead) (s0_0 : SlR (TU8 5) z x0.b v0_0) (bx0 : Bx z m m (some b0) b0 [v0_0, (vI x0.at_)] 61) {r : Wagon × Bool × Reader} (hr : reader_wagon N x0 = some r) : CallW Try.prog 31 #[(vP b0)] m fun v m' => ∃ z' wr_0, Zx m.next z z' ∧ Fz z' m' ∧ Same m m' (some b0) ∧ v = (Value.tuple [(Value.agg [(str r.1.number), (vI r.1.length), (vI r.1.axles), (vI r.1.mass), (vI r.1.brake), (vI r.1.goods), (vB r.1.gentle), (str r.1.dest)].toArray), (vB r.2.1)].toArray) ∧ SlR (TU8 5) z' r.2.2.b wr_0 ∧ Bx z' m m' (some b0) b0 [wr_0, (vI r.2.2.at_)] 61 ∧ True := by
 refine CallW.any Try.func31 rfl (by kernel_rfl) (Nat.le_of_ble_eq_true rfl) (fun fr hf => ?_)
 have h0 : fr 0 = _ := hf 0 _ rfl
 refine (u_reader_wagon (k := (some b0)) (Zx.refl _) (St.start fz hd) h0 s0_0 bx0 hr).mono ?_
 rintro ex fr' m' ⟨z', hz, st, he, c2, wr_0, h2, bx2, fx2, h3, sr_0, bxr, -⟩
 exact ⟨he, [(Value.agg [(str r.1.number), (vI r.1.length), (vI r.1.axles), (vI r.1.mass), (vI r.1.brake), (vI r.1.goods), (vB r.1.gentle), (str r.1.dest)].toArray), (vB r.2.1)], ⟨resCell h2 bx2 Try.underlying42 rfl Try.type42 rfl, h3.symm, trivial⟩, .inr (List.forall_mem_cons.2 ⟨rfl, List.forall_mem_cons.2 ⟨rfl, fun _ h => nomatch h⟩⟩), z', wr_0, hz, st.fz, st.toSame, rfl, sr_0, bxr, trivial⟩

/-! ### humpyard/consist.Decode -/

theorem u_consist_Decode_1 {N : Nat}  {z0 z : Nat → Blk} {e m : Mem} {k : Option Nat} {fr : Nat → Value} {x8 : Bool} {x11 : Bool} {x6 : Reader} {v6_0 : Value} {b6 : Nat} {x7 : List Wagon} {v7 : Value} {x10 : Wagon} {b10 : Nat} (hz : Zx e.next z0 z) (st : St z e m k) (h6 : fr 6 = (vP b6)) (s6_0 : SlR (TU8 5) z x6.b v6_0) (bx6 : Bx z e m k b6 [v6_0, (vI x6.at_)] 61) (h7 : fr 7 = v7) (o7 : OwF TWagon z e m k x7 v7) (h8 : fr 8 = (vB x8)) (h10 : fr 10 = (vP b10)) (bx10 : Bx z e m k b10 [(str x10.number), (vI x10.length), (vI x10.axles), (vI x10.mass), (vI x10.brake), (vI x10.goods), (vB x10.gentle), (str x10.dest)] 42) (h11 : fr 11 = (vB x11)) (ao6_o7 : Ap (some b6) (blkOf v7)) (ao6_o10 : Ap (some b6) (some b10)) (ao7_o10 : Ap (blkOf v7) (some b10)) {r : Bool} (hr : consist_Decode_1 N x8 x11 = some r) : W Try.prog (sub (bodyOf Try.f12) [1, 1, 1, 1, 1, 1, 1, 1, 0, 1, 0, 0, 1, 0, 0, 1, 0]) (fun ex fr' m' => ∃ z', Zx e.next z0 z' ∧ St z' e m' k ∧ ex = AExit.normal ∧ fr' 8 = (vB r) ∧ Bx z' e m' k b6 [v6_0, (vI x6.at_)] 61 ∧ OwF TWagon z' e m' k x7 v7 ∧ Bx z' e m' k b10 [(str x10.number), (vI x10.length), (vI x10.axles), (vI x10.mass), (vI x10.brake), (vI x10.goods), (vB x10.gentle), (str x10.dest)] 42 ∧ Ap (some b6) (blkOf v7) ∧ Ap (some b6) (some b10) ∧ Ap (blkOf v7) (some b10) ∧ True) fr m := by
 unfold consist_Decode_1 at hr
 refine W.region ?_
 refine sx rfl (pMove (v := (vB x8)) rfl h8) ?_
 refine sx rfl (pMove (v := (vB x8)) rfl rfl) ?_
 rcases if_some hr with ⟨hc99, hr⟩ | ⟨hc102, hr⟩
 ·refine SeqW.consG rfl rfl rfl hc99 (StepX.pure (pMove (v := (vB x11)) rfl h11) ?_)
  refine sx rfl (pPick (t := true) (v := (vB x11)) rfl ((congrArg vB hc99)) rfl) ?_
  refine sx rfl (pAssign (v := (vB x11)) rfl rfl) ?_
  refine SeqW.done fun fr100 hf101 => ?_
  have h6 := (congrFun hf101 6).trans h6
  have h7 := (congrFun hf101 7).trans h7
  have h8 : fr100 8 = (vB x11) := (congrFun hf101 8).trans rfl
  have h10 := (congrFun hf101 10).trans h10
  clear hf101
  obtain rfl := Option.some.inj hr
  exact ⟨z, hz, st, rfl, h8, bx6, o7, bx10, ao6_o7, ao6_o10, ao7_o10, trivial⟩
 ·refine kx rfl rfl rfl hc102 ?_
  refine sx rfl (pPick (t := false) (v := (vB false)) rfl ((congrArg vB hc102)) rfl) ?_
  refine sx rfl (pAssign (v := (vB false)) rfl rfl) ?_
  refine SeqW.done fun fr103 hf104 => ?_
  have h6 := (congrFun hf104 6).trans h6
  have h7 := (congrFun hf104 7).trans h7
  have h8 : fr103 8 = (vB false) := (congrFun hf104 8).trans rfl
  have h10 := (congrFun hf104 10).trans h10
  clear hf104
  obtain rfl := Option.some.inj hr
  exact ⟨z, hz, st, rfl, h8, bx6, o7, bx10, ao6_o7, ao6_o10, ao7_o10, trivial⟩

theorem u_consist_Decode_0 : ∀ (n : Nat) {N : Nat}  {z0 z : Nat → Blk} {e m : Mem} {k : Option Nat} {fr : Nat → Value} {x0 : List UInt8} {x6 : Reader} {x7 : List Wagon} {x8 : Bool} {x9 : Int} {v0 : Value} {v6_0 : Value} {b6 : Nat} {v7 : Value} (hz : Zx e.next z0 z) (st : St z e m k) (h0 : fr 0 = v0) (s0 : SlR (TU8 5) z x0 v0) (h6 : fr 6 = (vP b6)) (s6_0 : SlR (TU8 5) z x6.b v6_0) (bx6 : Bx z e m k b6 [v6_0, (vI x6.at_)] 61) (h7 : fr 7 = v7) (o7 : OwF TWagon z e m k x7 v7) (h8 : fr 8 = (vB x8)) (h9 : fr 9 = (vI x9)) (ao6_o7 : Ap (some b6) (blkOf v7)) {r : List Wagon × Bool} (hr : consist_Decode_0 N x0 n x6 x7 x8 x9 = some r), W Try.prog (sub (bodyOf Try.f12) [1, 1, 1, 1, 1, 1, 1, 1, 0, 1, 0]) (fun ex fr' m' => ∃ z', Zx e.next z0 z' ∧ St z' e m' k ∧ ex = AExit.exit 1 ∧ ∃ (w7 : Value), fr' 7 = w7 ∧ OwF TWagon z' e m' k r.1 w7 ∧ fr' 8 = (vB r.2) ∧ True) fr m := by
 intro n
 induction n with
 | zero => intro N z0 z e m k fr x0 x6 x7 x8 x9 v0 v6_0 b6 v7 hz st h0 s0 h6 s6_0 bx6 h7 o7 h8 h9 ao6_o7 r hr; cases (show (none : Option _) = some r from hr)
 | succ n ih =>
  intro N z0 z e m k fr x0 x6 x7 x8 x9 v0 v6_0 b6 v7 hz st h0 s0 h6 s6_0 bx6 h7 o7 h8 h9 ao6_o7 r hr
  unfold consist_Decode_0 at hr
  refine W.loop1 ?_
  refine W.seq (W.seq (W.region ?_))
  refine sx rfl (pMove (v := (vI x9)) rfl h9) ?_
  refine sx rfl (pMove (v := v0) rfl h0) ?_
  obtain ⟨y68, hy68, hr⟩ := bind_some hr
  refine SeqW.consX rfl (kIdxR (T := (TU8 5)) (xs := x0) (n := 0) rfl Try.underlying23 Try.type5 rfl rfl rfl s0 hy68 ?_)
  intro B69 f70 cs71 hd72 hc73
  obtain rfl := hd72
  refine SeqW.consX rfl (kLoad (v := (Value.int .u8 (UInt8.toNat y68 : Int))) rfl Try.underlying5 rfl rfl (ldz_load st.fz (hc73 0 _ rfl)) ?_)
  refine sx rfl (pConv (k := .u8) (a := (UInt8.toNat y68 : Int)) rfl Try.underlying5 Try.underlying3 rfl) ?_
  refine sx rfl (pLss (k := .i64) (a := x9) (b := (IntKind.wrap .i64 (UInt8.toNat y68 : Int))) rfl rfl rfl) ?_
  refine SeqW.done fun fr74 hf75 => ?_
  have h0 := (congrFun hf75 0).trans h0
  have h6 := (congrFun hf75 6).trans h6
  have h7 := (congrFun hf75 7).trans h7
  have h8 := (congrFun hf75 8).trans h8
  have h9 := (congrFun hf75 9).trans h9
  have h47 : fr74 47 = (vB (decide (x9 < (IntKind.wrap .i64 (UInt8.toNat y68 : Int))))) := (congrFun hf75 47).trans rfl
  clear hf75
  refine thenQ.n ?_
  rcases if_some hr with ⟨hc76, hr⟩ | ⟨hc140, hr⟩
  ·refine W.condT h47 hc76 (W.skip ?_)
   refine thenQ.n (W.seq ?_)
   refine W.block ?_
   refine W.seq (W.region ?_)
   refine sx rfl (pMove (v := (vP b6)) rfl h6) ?_
   obtain ⟨y77, hy77, hr⟩ := bind_some hr
   refine SeqW.consX rfl (StepX.call (gCallee rfl rfl (args1 rfl)) ((c_reader_wagon (x0 := x6) (z := z) st.fz st.dead s6_0 ⟨bx6.blk, bx6.lt, bx6.dead, .inr rfl⟩ hy77).mono ?_))
   rintro _ m82 ⟨z78, V83, hzx79, fz80, sm81, rfl, Q84, X86, -⟩
   replace s0 := s0.mono hzx79.le
   replace s6_0 := s6_0.mono hzx79.le
   replace o7 := o7.call hzx79 sm81 (Ap.symm ao6_o7)
   have bx6n : Bx z78 e m82 k b6 _ _ := ⟨X86.blk, X86.lt, X86.dead, bx6.fresh⟩
   replace hz := hz.trans (Zx.here st hzx79)
   replace st := st.call hzx79 fz80 sm81 bx6.hq
   refine sx rfl (pMove (v := (Value.tuple [(Value.agg [(str y77.1.number), (vI y77.1.length), (vI y77.1.axles), (vI y77.1.mass), (vI y77.1.brake), (vI y77.1.goods), (vB y77.1.gentle), (str y77.1.dest)].toArray), (vB y77.2.1)].toArray)) rfl rfl) ?_
   refine sx rfl (pExtract (vs := [(Value.agg [(str y77.1.number), (vI y77.1.length), (vI y77.1.axles), (vI y77.1.mass), (vI y77.1.brake), (vI y77.1.goods), (vB y77.1.gentle), (str y77.1.dest)].toArray), (vB y77.2.1)]) (v := (Value.agg [(str y77.1.number), (vI y77.1.length), (vI y77.1.axles), (vI y77.1.mass), (vI y77.1.brake), (vI y77.1.goods), (vB y77.1.gentle), (str y77.1.dest)].toArray)) rfl rfl rfl) ?_
   refine sx rfl (pExtract (vs := [(Value.agg [(str y77.1.number), (vI y77.1.length), (vI y77.1.axles), (vI y77.1.mass), (vI y77.1.brake), (vI y77.1.goods), (vB y77.1.gentle), (str y77.1.dest)].toArray), (vB y77.2.1)]) (v := (vB y77.2.1)) rfl rfl rfl) ?_
   refine SeqW.consX rfl (kAlloc rfl Try.type42 rfl rfl rfl [(str []), (vI 0), (vI 0), (vI 0), (vI 0), (vI 0), (vB false), (str [])] rfl st ?_)
   intro B87 m88 st X89 sm90 hap91
   have A93 := hap91 _ bx6n.lt'
   have A94 := hap91 _ o7.lt
   replace bx6n := bx6n.same sm90 Ap.none'
   replace o7 := o7.same sm90 Ap.none'
   refine SeqW.consX rfl (kPut (off := 0) (w := (Value.agg [(str y77.1.number), (vI y77.1.length), (vI y77.1.axles), (vI y77.1.mass), (vI y77.1.brake), (vI y77.1.goods), (vB y77.1.gentle), (str y77.1.dest)].toArray)) (new := [(str y77.1.number), (vI y77.1.length), (vI y77.1.axles), (vI y77.1.mass), (vI y77.1.brake), (vI y77.1.goods), (vB y77.1.gentle), (str y77.1.dest)]) rfl Try.type42 rfl rfl rfl rfl rfl X89 rfl [(str y77.1.number), (vI y77.1.length), (vI y77.1.axles), (vI y77.1.mass), (vI y77.1.brake), (vI y77.1.goods), (vB y77.1.gentle), (str y77.1.dest)] rfl st ?_)
   intro m95 st X89 sm96
   replace bx6n := bx6n.same sm96 A93
   replace o7 := o7.same sm96 A94
   refine sx rfl (pAssign (v := (vB y77.2.1)) rfl rfl) ?_
   refine SeqW.done fun fr97 hf98 => ?_
   have h0 := (congrFun hf98 0).trans h0
   have h6 := (congrFun hf98 6).trans h6
   have h7 := (congrFun hf98 7).trans h7
   have h8 := (congrFun hf98 8).trans h8
   have h9 := (congrFun hf98 9).trans h9
   have h10 : fr97 10 = (vP B87) := (congrFun hf98 10).trans rfl
   have h11 : fr97 11 = (vB y77.2.1) := (congrFun hf98 11).trans rfl
   clear hf98
   refine thenQ.n (W.seq ?_)
   obtain ⟨y105, hy105, hr⟩ := bind_some hr
   refine W.keep (u_consist_Decode_1 (x6 := y77.2.2) (x10 := y77.1) (Zx.refl _) st h6 Q84 bx6n h7 o7 h8 h10 X89 h11 ao6_o7 A93 A94 hy105) ?_
   rintro ex111 fr106 m107 hk109 ⟨z108, hz110, st, rfl, h8, O112, O113, O114, A115, A116, A117, -⟩
   replace s0 := s0.mono hz110.le
   replace Q84 := Q84.mono hz110.le
   have h0 := (hk109 0 rfl).trans h0
   have h6 := (hk109 6 rfl).trans h6
   have h7 := (hk109 7 rfl).trans h7
   have h9 := (hk109 9 rfl).trans h9
   have h10 := (hk109 10 rfl).trans h10
   replace hz := hz.trans hz110
   clear hk109
   refine thenQ.n (W.region ?_)
   refine sx rfl (pMove (v := v7) rfl h7) ?_
   refine SeqW.consX rfl (kLoadA rfl Try.underlying42 rfl Try.type42 rfl h10 O114.loads ?_)
   refine SeqW.consX rfl (kBuild (T := TWagon) rfl Try.underlying24 Try.type42 rfl rfl rfl rfl ([y77.1] : List Wagon) [[(str y77.1.number), (vI y77.1.length), (vI y77.1.axles), (vI y77.1.mass), (vI y77.1.brake), (vI y77.1.goods), (vB y77.1.gentle), (str y77.1.dest)]] rfl rfl rfl (BuildOk.mk (w := (Value.agg [(str y77.1.number), (vI y77.1.length), (vI y77.1.axles), (vI y77.1.mass), (vI y77.1.brake), (vI y77.1.goods), (vB y77.1.gentle), (str y77.1.dest)].toArray)) rfl rfl rfl rfl trivial) st ?_)
   intro V118 m119 st O120 sm121 hap122
   have A124 := hap122 _ O112.lt'
   have A125 := hap122 _ O113.lt
   replace O112 := O112.same sm121 Ap.none'
   replace O113 := O113.same sm121 Ap.none'
   obtain ⟨y126, hy126, hr⟩ := bind_some hr
   refine SeqW.consX rfl (kAppend (T := TWagon) (xs := x7) (ys := ([y77.1] : List Wagon)) rfl Try.underlying24 Try.type42 rfl rfl rfl rfl rfl rfl (.inl ⟨_, Try.underlying24⟩) rfl O113 rfl O120.ow.src st hy126 ?_)
   intro V127 m128 st O129 sm130 hap131
   have A133 := hap131 _ O112.lt' A115
   have A134 := hap131 _ O120.lt (Ap.symm A125)
   replace O112 := O112.same sm130 A115
   replace O120 := O120.same sm130 (Ap.symm A125)
   refine sx rfl (pAssign (v := V127) rfl rfl) ?_
   refine SeqW.done fun fr135 hf136 => ?_
   have h0 := (congrFun hf136 0).trans h0
   have h6 := (congrFun hf136 6).trans h6
   have h7 : fr135 7 = V127 := (congrFun hf136 7).trans rfl
   have h8 := (congrFun hf136 8).trans h8
   have h9 := (congrFun hf136 9).trans h9
   clear hf136
   refine blockQ.n ?_
   refine thenQ.n (W.region ?_)
   refine sx rfl (pMove (v := (vI x9)) rfl h9) ?_
   refine sx rfl (pAdd (k := .i64) (a := x9) (b := 1) rfl rfl rfl) ?_
   obtain ⟨y137, hy137, hr⟩ := lt_some hr
   refine sx rfl (pAssign rfl (congrArg (Value.int .i64) hy137)) ?_
   refine SeqW.done fun fr138 hf139 => ?_
   have h0 := (congrFun hf139 0).trans h0
   have h6 := (congrFun hf139 6).trans h6
   have h7 := (congrFun hf139 7).trans h7
   have h8 := (congrFun hf139 8).trans h8
   have h9 : fr138 9 = (vI y137) := (congrFun hf139 9).trans rfl
   clear hf139
   refine thenQ.n ?_
   exact ih (x6 := y77.2.2) hz st h0 s0 h6 Q84 O112 h7 O129 h8 h9 A133 hr
  ·refine W.condF h47 hc140 ?_
   refine W.exit ?_
   refine thenQ.x ?_
   refine thenQ.x ?_
   obtain rfl := Option.some.inj hr
   exact ⟨z, hz, st, rfl, v7, h7, o7, h8, trivial⟩

theorem u_consist_Decode {N : Nat}  {z0 z : Nat → Blk} {e m : Mem} {k : Option Nat} {fr : Nat → Value} {x0 : List UInt8} {v0 : Value} (hz : Zx e.next z0 z) (st : St z e m k) (h0 : fr 0 = v0) (s0 : SlR (TU8 5) z x0 v0) {r : List Wagon × Int} (hr : consist_Decode N x0 = some r) : W Try.prog (sub (bodyOf Try.f12) []) (fun ex fr' m' => ∃ z', Zx e.next z0 z' ∧ St z' e m' k ∧ (ex = .normal ∨ ex = .ret) ∧ ∃ (w2 : Value), fr' 2 = w2 ∧ SlR TWagon z' r.1 w2 ∧ fr' 3 = (vI r.2) ∧ True) fr m := by
 unfold consist_Decode at hr
 refine W.seq (W.region ?_)
 refine sx rfl (pAssign (v := (Value.slice none 0 0)) rfl rfl) ?_
 refine sx rfl (pAssign (v := (vI 0)) rfl rfl) ?_
 refine SeqW.done fun fr1 hf2 => ?_
 have h0 := (congrFun hf2 0).trans h0
 clear hf2
 refine thenQ.n (W.seq (W.region ?_))
 refine sx rfl (pMove (v := v0) rfl h0) ?_
 obtain ⟨y3, hy3, hr⟩ := bind_some hr
 refine SeqW.consX rfl (StepX.call (gCallee rfl rfl (args1 rfl)) ((c_consist_end (z := z) st.fz st.dead s0 hy3).mono ?_))
 rintro _ _ ⟨rfl, rfl⟩
 refine sx rfl (pMove (v := (Value.tuple [(vI y3.1), (vB y3.2)].toArray)) rfl rfl) ?_
 refine sx rfl (pExtract (vs := [(vI y3.1), (vB y3.2)]) (v := (vI y3.1)) rfl rfl rfl) ?_
 refine sx rfl (pExtract (vs := [(vI y3.1), (vB y3.2)]) (v := (vB y3.2)) rfl rfl rfl) ?_
 refine sx rfl (pAssign (v := (vI y3.1)) rfl rfl) ?_
 refine sx rfl (pAssign (v := (vB y3.2)) rfl rfl) ?_
 refine SeqW.done fun fr4 hf5 => ?_
 have h0 := (congrFun hf5 0).trans h0
 have h4 : fr4 4 = (vI y3.1) := (congrFun hf5 4).trans rfl
 have h5 : fr4 5 = (vB y3.2) := (congrFun hf5 5).trans rfl
 clear hf5
 refine thenQ.n (W.seq ?_)
 refine W.block ?_
 refine W.seq (W.region ?_)
 refine sx rfl (pMove (v := (vB y3.2)) rfl h5) ?_
 refine sx rfl (pNot (b := y3.2) rfl rfl) ?_
 obtain ⟨y6, hy6, hr⟩ := lt_some hr
 refine sx rfl (pAssign rfl (congrArg vB hy6)) ?_
 refine SeqW.done fun fr7 hf8 => ?_
 have h0 := (congrFun hf8 0).trans h0
 have h4 := (congrFun hf8 4).trans h4
 have h18 : fr7 18 = (vB y6) := (congrFun hf8 18).trans rfl
 clear hf8
 refine thenQ.n ?_
 rcases if_some hr with ⟨hc9, hr⟩ | ⟨hc12, hr⟩
 ·refine W.condT h18 hc9 (W.seq (W.region ?_))
  refine sx rfl (pAssign (v := (Value.slice none 0 0)) rfl rfl) ?_
  refine sx rfl (pAssign (v := (vI 10)) rfl rfl) ?_
  refine SeqW.done fun fr10 hf11 => ?_
  have h2 : fr10 2 = (Value.slice none 0 0) := (congrFun hf11 2).trans rfl
  have h3 : fr10 3 = (vI 10) := (congrFun hf11 3).trans rfl
  clear hf11
  refine thenQ.n ?_
  refine W.ret ?_
  refine blockQ.r ?_
  refine thenQ.r ?_
  obtain rfl := Option.some.inj hr
  exact ⟨z, hz, st, .inr rfl, (Value.slice none 0 0), h2, SlR.nil, h3, trivial⟩
 ·refine W.condF h18 hc12 (W.seq (W.region ?_))
  refine sx rfl (pMove (v := (vI y3.1)) rfl h4) ?_
  refine sx rfl (pMove (v := v0) rfl h0) ?_
  refine sx rfl (pLenR (xs := x0) rfl Try.underlying23 rfl s0) ?_
  refine sx rfl (pLss (k := .i64) (a := y3.1) (b := (x0.length : Int)) rfl rfl rfl) ?_
  obtain ⟨y13, hy13, hr⟩ := lt_some hr
  refine sx rfl (pAssign rfl (congrArg vB hy13)) ?_
  refine SeqW.done fun fr14 hf15 => ?_
  have h0 := (congrFun hf15 0).trans h0
  have h4 := (congrFun hf15 4).trans h4
  have h21 : fr14 21 = (vB y13) := (congrFun hf15 21).trans rfl
  clear hf15
  refine thenQ.n ?_
  rcases if_some hr with ⟨hc16, hr⟩ | ⟨hc19, hr⟩
  ·refine W.condT h21 hc16 (W.seq (W.region ?_))
   refine sx rfl (pAssign (v := (Value.slice none 0 0)) rfl rfl) ?_
   refine sx rfl (pAssign (v := (vI 11)) rfl rfl) ?_
   refine SeqW.done fun fr17 hf18 => ?_
   have h2 : fr17 2 = (Value.slice none 0 0) := (congrFun hf18 2).trans rfl
   have h3 : fr17 3 = (vI 11) := (congrFun hf18 3).trans rfl
   clear hf18
   refine thenQ.n ?_
   refine W.ret ?_
   refine blockQ.r ?_
   refine thenQ.r ?_
   obtain rfl := Option.some.inj hr
   exact ⟨z, hz, st, .inr rfl, (Value.slice none 0 0), h2, SlR.nil, h3, trivial⟩
  ·refine W.condF h21 hc19 (W.skip ?_)
   refine blockQ.n ?_
   refine thenQ.n (W.seq (W.region ?_))
   refine sx rfl (pMove (v := v0) rfl h0) ?_
   refine sx rfl (pMove (v := (vI y3.1)) rfl h4) ?_
   refine sx rfl (pSub (k := .i64) (a := y3.1) (b := 2) rfl rfl rfl) ?_
   obtain ⟨A20, c21, eA20⟩ := s0.len
   subst eA20
   refine SeqW.consX rfl (kBuildS [(0, (Value.slice A20 (x0).length c21)), (1, (vI (IntKind.wrap .i64 (y3.1 - 2))))] [(Value.slice A20 (x0).length c21), (vI (IntKind.wrap .i64 (y3.1 - 2)))] rfl Try.underlying61 Try.type61 rfl rfl (places61 Try.underlying61) rfl (rfl) rfl ?_)
   refine SeqW.consX rfl (kBox (v := (Value.agg [(Value.slice A20 (x0).length c21), (vI (IntKind.wrap .i64 (y3.1 - 2)))].toArray)) rfl Try.type61 rfl rfl [(Value.slice A20 (x0).length c21), (vI (IntKind.wrap .i64 (y3.1 - 2)))] rfl rfl st ?_)
   intro B22 m23 st X24 sm25 hap26
   refine sx rfl (pAssign (v := (vP B22)) rfl rfl) ?_
   refine SeqW.done fun fr28 hf29 => ?_
   have h0 := (congrFun hf29 0).trans h0
   have h4 := (congrFun hf29 4).trans h4
   have h6 : fr28 6 = (vP B22) := (congrFun hf29 6).trans rfl
   clear hf29
   refine thenQ.n (W.seq (W.seq ?_))
   refine W.draw ?_
   refine DrawW.cons rfl (StepX.pure (pMove (v := (vP B22)) rfl h6) ?_)
   refine ⟨trivial, ?_⟩
   have sto30 := st
   have old31 := X24
   obtain ⟨y32, hy32, hr⟩ := bind_some hr
   refine DrawW.cons rfl (StepX.call (gCallee rfl rfl (args1 rfl)) ((c_reader_two (x0 := (Reader.mk x0 (IntKind.wrap .i64 (y3.1 - 2)))) (z := z) st.fz st.dead s0 ⟨X24.blk, X24.lt, X24.dead, .inr rfl⟩ hy32).mono ?_))
   rintro _ m37 ⟨z33, V38, hzx34, fz35, sm36, rfl, Q39, X41, -⟩
   have sr42 := s0
   replace s0 := s0.mono hzx34.le
   have X24n : Bx z33 e m37 k B22 _ _ := ⟨X41.blk, X41.lt, X41.dead, X24.fresh⟩
   replace hz := hz.trans (Zx.here st hzx34)
   replace st := st.call hzx34 fz35 sm36 X24.hq
   refine ⟨⟨?_, ?_⟩, ?_⟩
   ·exact demN
   ·exact demN
   refine DrawW.cons rfl (StepX.pure (pMove (v := (Value.slice A20 (x0).length c21)) rfl h0) ?_)
   refine ⟨trivial, ?_⟩
   refine DrawW.cons rfl (StepX.pure (pMove (v := (vI y3.1)) rfl h4) ?_)
   refine ⟨trivial, ?_⟩
   refine DrawW.cons rfl (StepX.pure (pSub (k := .i64) (a := y3.1) (b := 2) rfl rfl rfl) ?_)
   refine ⟨trivial, ?_⟩
   obtain ⟨y43, hy43, hr⟩ := bind_some hr
   have stc46 : St z e _ k := st.zle hzx34.le
   refine DrawW.cons rfl (kCut (T := (TU8 5)) (xs := x0) (a := 0) (b := (IntKind.wrap .i64 (y3.1 - 2))) rfl Try.underlying23 Try.type5 rfl rfl rfl ⟨_, rfl⟩ sr42 stc46 hy43 ?_)
   intro V44 _ hI47 Q45
   replace Q45 := Q45.mono hzx34.le
   refine ⟨?_, ?_⟩
   ·first | refine demP (hI47 _ (by first | exact sto30.fz | exact sto30.fz.le hzx34.le)) ?_ | refine demA (by decide) ?_
    exact demN
   have sto49 := st
   have old50 := X24n
   obtain ⟨y51, hy51, hr⟩ := bind_some hr
   refine DrawW.cons rfl (StepX.call (gCallee rfl rfl (args1 rfl)) ((c_consist_Check (z := z33) st.fz st.dead Q45 hy51).mono ?_))
   rintro _ _ ⟨rfl, rfl⟩
   refine ⟨⟨?_, ?_⟩, ?_⟩
   ·first | refine demP (hI47 _ (by first | exact st.fz | exact st.fz.le hzx34.le)) ?_ | refine demA (by decide) ?_
    exact demN
   ·exact demN
   refine DrawW.cons rfl (StepX.pure (pNeq (k := .i64) (a := y32.1) (b := y51) rfl rfl rfl) ?_)
   refine ⟨trivial, ?_⟩
   refine DrawW.done fun fr52 hf53 => ?_
   have h0 := (congrFun hf53 0).trans h0
   have h6 := (congrFun hf53 6).trans h6
   have h38 : fr52 38 = (vB (y32.1 != y51)) := (congrFun hf53 38).trans rfl
   clear hf53
   refine thenQ.n ?_
   rcases if_some hr with ⟨hc54, hr⟩ | ⟨hc57, hr⟩
   ·refine W.condT h38 hc54 (W.seq (W.region ?_))
    refine sx rfl (pAssign (v := (Value.slice none 0 0)) rfl rfl) ?_
    refine sx rfl (pAssign (v := (vI 9)) rfl rfl) ?_
    refine SeqW.done fun fr55 hf56 => ?_
    have h2 : fr55 2 = (Value.slice none 0 0) := (congrFun hf56 2).trans rfl
    have h3 : fr55 3 = (vI 9) := (congrFun hf56 3).trans rfl
    clear hf56
    refine thenQ.n ?_
    refine W.ret ?_
    refine thenQ.r ?_
    obtain rfl := Option.some.inj hr
    exact ⟨z33, hz, st, .inr rfl, (Value.slice none 0 0), h2, SlR.nil, h3, trivial⟩
   ·refine W.condF h38 hc57 (W.skip ?_)
    refine thenQ.n (W.seq (W.region ?_))
    refine sx rfl (pMove (v := (vP B22)) rfl h6) ?_
    refine sx rfl (PureR.nilCheck _ _ rfl rfl) ?_
    refine SeqW.consX rfl (kField rfl Try.underlying61 rfl Try.type3 rfl rfl rfl ?_)
    refine SeqW.consX rfl (kPut (off := 1) (w := (vI 1)) (new := [(vI 1)]) rfl Try.type3 rfl rfl rfl rfl rfl X24n rfl [V38, (vI 1)] rfl st ?_)
    intro m58 st X24n sm59
    refine SeqW.done fun fr60 hf61 => ?_
    have h0 := (congrFun hf61 0).trans h0
    have h6 := (congrFun hf61 6).trans h6
    clear hf61
    refine thenQ.n (W.seq (W.region ?_))
    refine sx rfl (pAssign (v := (Value.slice none 0 0)) rfl rfl) ?_
    refine SeqW.done fun fr62 hf63 => ?_
    have h0 := (congrFun hf63 0).trans h0
    have h6 := (congrFun hf63 6).trans h6
    have h7 : fr62 7 = (Value.slice none 0 0) := (congrFun hf63 7).trans rfl
    clear hf63
    refine thenQ.n (W.seq (W.region ?_))
    refine sx rfl (pAssign (v := (vB true)) rfl rfl) ?_
    refine SeqW.done fun fr64 hf65 => ?_
    have h0 := (congrFun hf65 0).trans h0
    have h6 := (congrFun hf65 6).trans h6
    have h7 := (congrFun hf65 7).trans h7
    have h8 : fr64 8 = (vB true) := (congrFun hf65 8).trans rfl
    clear hf65
    refine thenQ.n (W.seq ?_)
    refine W.seq (W.region ?_)
    refine sx rfl (pAssign (v := (vI 0)) rfl rfl) ?_
    refine SeqW.done fun fr66 hf67 => ?_
    have h0 := (congrFun hf67 0).trans h0
    have h6 := (congrFun hf67 6).trans h6
    have h7 := (congrFun hf67 7).trans h7
    have h8 := (congrFun hf67 8).trans h8
    have h9 : fr66 9 = (vI 0) := (congrFun hf67 9).trans rfl
    clear hf67
    refine thenQ.n ?_
    refine W.block ?_
    obtain ⟨y141, hy141, hr⟩ := bind_some hr
    refine W.keep (u_consist_Decode_0 (x6 := (Reader.mk y32.2.b 1)) _ (Zx.refl _) st h0 s0 h6 Q39 X24n h7 OwF.nil h8 h9 Ap.none' hy141) ?_
    rintro ex147 fr142 m143 hk145 ⟨z144, hz146, st, rfl, w148, h7, O150, h8, -⟩
    replace hz := hz.trans hz146
    clear hk145
    refine blockQ.hit ?_
    refine thenQ.n (W.seq ?_)
    refine W.seq (W.region ?_)
    refine sx rfl (pMove (v := (vB y141.2)) rfl h8) ?_
    refine sx rfl (pNot (b := y141.2) rfl rfl) ?_
    refine SeqW.done fun fr151 hf152 => ?_
    have h7 := (congrFun hf152 7).trans h7
    have h64 : fr151 64 = (vB (!y141.2)) := (congrFun hf152 64).trans rfl
    clear hf152
    refine thenQ.n ?_
    rcases if_some hr with ⟨hc153, hr⟩ | ⟨hc156, hr⟩
    ·refine W.condT h64 hc153 (W.seq (W.region ?_))
     refine sx rfl (pAssign (v := (Value.slice none 0 0)) rfl rfl) ?_
     refine sx rfl (pAssign (v := (vI 11)) rfl rfl) ?_
     refine SeqW.done fun fr154 hf155 => ?_
     have h2 : fr154 2 = (Value.slice none 0 0) := (congrFun hf155 2).trans rfl
     have h3 : fr154 3 = (vI 11) := (congrFun hf155 3).trans rfl
     clear hf155
     refine thenQ.n ?_
     refine W.ret ?_
     refine thenQ.r ?_
     obtain rfl := Option.some.inj hr
     exact ⟨z144, hz, st, .inr rfl, (Value.slice none 0 0), h2, SlR.nil, h3, trivial⟩
    ·refine W.condF h64 hc156 (W.skip ?_)
     refine thenQ.n (W.seq ?_)
     refine W.seq (W.region ?_)
     refine sx rfl (pMove (v := w148) rfl h7) ?_
     obtain ⟨z157, hz158, st161, Q159, hl160⟩ := O150.freeze st
     obtain ⟨y162, hy162, hr⟩ := bind_some hr
     refine SeqW.consX rfl (StepX.call (gCallee rfl rfl (args1 rfl)) ((c_consist_check (z := z157) st161.fz st.dead Q159 hy162).mono ?_))
     rintro _ _ ⟨rfl, rfl⟩
     refine sx rfl (pAssign (v := (vI y162)) rfl rfl) ?_
     refine SeqW.done fun fr163 hf164 => ?_
     have h7 := (congrFun hf164 7).trans h7
     have h12 : fr163 12 = (vI y162) := (congrFun hf164 12).trans rfl
     clear hf164
     refine thenQ.n (W.seq (W.region ?_))
     refine sx rfl (pMove (v := (vI y162)) rfl h12) ?_
     refine sx rfl (pNeq (k := .i64) (a := y162) (b := 0) rfl rfl rfl) ?_
     refine SeqW.done fun fr165 hf166 => ?_
     have h7 := (congrFun hf166 7).trans h7
     have h12 := (congrFun hf166 12).trans h12
     have h68 : fr165 68 = (vB (y162 != 0)) := (congrFun hf166 68).trans rfl
     clear hf166
     refine thenQ.n ?_
     rcases if_some hr with ⟨hc167, hr⟩ | ⟨hc170, hr⟩
     ·refine W.condT h68 hc167 (W.seq (W.region ?_))
      refine sx rfl (pMove (v := (vI y162)) rfl h12) ?_
      refine sx rfl (pAssign (v := (Value.slice none 0 0)) rfl rfl) ?_
      refine sx rfl (pAssign (v := (vI y162)) rfl rfl) ?_
      refine SeqW.done fun fr168 hf169 => ?_
      have h2 : fr168 2 = (Value.slice none 0 0) := (congrFun hf169 2).trans rfl
      have h3 : fr168 3 = (vI y162) := (congrFun hf169 3).trans rfl
      clear hf169
      refine thenQ.n ?_
      refine W.ret ?_
      refine thenQ.r ?_
      obtain rfl := Option.some.inj hr
      exact ⟨z144, hz, st, .inr rfl, (Value.slice none 0 0), h2, SlR.nil, h3, trivial⟩
     ·refine W.condF h68 hc170 (W.skip ?_)
      refine thenQ.n (W.seq (W.region ?_))
      refine sx rfl (pMove (v := w148) rfl h7) ?_
      refine sx rfl (pAssign (v := w148) rfl rfl) ?_
      refine sx rfl (pAssign (v := (vI 0)) rfl rfl) ?_
      refine SeqW.done fun fr171 hf172 => ?_
      have h2 : fr171 2 = w148 := (congrFun hf172 2).trans rfl
      have h3 : fr171 3 = (vI 0) := (congrFun hf172 3).trans rfl
      clear hf172
      refine thenQ.n ?_
      refine W.ret ?_
      obtain ⟨z173, hz174, st, Q175, hl176⟩ := O150.freeze st
      replace hz := hz.trans hz174
      obtain rfl := Option.some.inj hr
      exact ⟨z173, hz, st, .inr rfl, w148, h2, Q175, h3, trivial⟩

theorem c_consist_Decode {N : Nat} {z : Nat → Blk} {m : Mem} {x0 : List UInt8} {v0 : Value} (fz : Fz z m) (hd : ∀ b, m.next ≤ b → m.blk b = .dead) (s0 : SlR (TU8 5) z x0 v0) {r : List Wagon × Int} (hr : consist_Decode N x0 = some r) : CallW Try.prog 12 #[v0] m fun v m' => ∃ z' w2, Zx m.next z z' ∧ Fz z' m' ∧ Same m m' none ∧ v = (Value.tuple [w2, (vI r.2)].toArray) ∧ SlR TWagon z' r.1 w2 ∧ True := by
 refine CallW.any Try.func12 rfl (by kernel_rfl) (Nat.le_of_ble_eq_true rfl) (fun fr hf => ?_)
 have h0 : fr 0 = _ := hf 0 _ rfl
 refine (u_consist_Decode (k := none) (Zx.refl _) (St.start fz hd) h0 s0 hr).mono ?_
 rintro ex fr' m' ⟨z', hz, st, he, w2, h2, s2, h3, -⟩
 exact ⟨he, [w2, (vI r.2)], ⟨h2.symm, h3.symm, trivial⟩, .inr (List.forall_mem_cons.2 ⟨s2.stor.1, List.forall_mem_cons.2 ⟨rfl, fun _ h => nomatch h⟩⟩), z', w2, hz, st.fz, st.toSame, rfl, s2, trivial⟩

/-! ### humpyard/humpgen.Wagons -/

theorem u_gen_Wagons_0 : ∀ (n : Nat) {N : Nat}  {z0 z : Nat → Blk} {e m : Mem} {k : Option Nat} {fr : Nat → Value} {x0 : List Wagon} {x1 : List Wagon} {x5 : Int} {v0 : Value} {v1 : Value} (hz : Zx e.next z0 z) (st : St z e m k) (h0 : fr 0 = v0) (s0 : SlR TWagon z x0 v0) (h1 : fr 1 = v1) (s1 : SlR TWagon z x1 v1) (h5 : fr 5 = (vI x5)) {r : Sum (Unit) (Bool)} (hr : gen_Wagons_0 N x0 x1 n x5 = some r), W Try.prog (sub (bodyOf Try.f13) [1, 1, 0, 1, 0]) (fun ex fr' m' => ∃ z', Zx e.next z0 z' ∧ St z' e m' k ∧ ((∃ q, r = Sum.inl q ∧ ex = AExit.exit 0 ∧ True) ∨ (∃ q, r = Sum.inr q ∧ ex = AExit.ret ∧ fr' 4 = (vB q) ∧ True))) fr m := by
 intro n
 induction n with
 | zero => intro N z0 z e m k fr x0 x1 x5 v0 v1 hz st h0 s0 h1 s1 h5 r hr; cases (show (none : Option _) = some r from hr)
 | succ n ih =>
  intro N z0 z e m k fr x0 x1 x5 v0 v1 hz st h0 s0 h1 s1 h5 r hr
  unfold gen_Wagons_0 at hr
  refine W.loop1 ?_
  refine W.seq (W.seq (W.region ?_))
  refine sx rfl (pMove (v := (vI x5)) rfl h5) ?_
  refine sx rfl (pMove (v := v0) rfl h0) ?_
  refine sx rfl (pLenR (xs := x0) rfl Try.underlying24 rfl s0) ?_
  refine sx rfl (pLss (k := .i64) (a := x5) (b := (x0.length : Int)) rfl rfl rfl) ?_
  refine SeqW.done fun fr11 hf12 => ?_
  have h0 := (congrFun hf12 0).trans h0
  have h1 := (congrFun hf12 1).trans h1
  have h5 := (congrFun hf12 5).trans h5
  have h14 : fr11 14 = (vB (decide (x5 < (x0.length : Int)))) := (congrFun hf12 14).trans rfl
  clear hf12
  refine thenQ.n ?_
  rcases if_some hr with ⟨hc13, hr⟩ | ⟨hc35, hr⟩
  ·refine W.condT h14 hc13 (W.skip ?_)
   refine thenQ.n (W.seq ?_)
   refine W.block ?_
   refine W.seq ?_
   refine W.calm (by decide) ?_
   refine sx rfl (pMove (v := v0) rfl h0) ?_
   refine sx rfl (pMove (v := (vI x5)) rfl h5) ?_
   obtain ⟨y14, hy14, hr⟩ := bind_some hr
   refine SeqW.consX rfl (kIdxR (T := TWagon) (xs := x0) (n := x5) rfl Try.underlying24 Try.type42 rfl rfl rfl s0 hy14 ?_)
   intro B15 f16 cs17 hd18 hc19
   obtain rfl := hd18
   refine SeqW.consX rfl (kLoadA rfl Try.underlying42 rfl Try.type42 rfl rfl (st.loads hc19) ?_)
   refine sx rfl (pMove (v := v1) rfl h1) ?_
   refine sx rfl (pMove (v := (vI x5)) rfl h5) ?_
   obtain ⟨y20, hy20, hr⟩ := bind_some hr
   refine SeqW.consX rfl (kIdxR (T := TWagon) (xs := x1) (n := x5) rfl Try.underlying24 Try.type42 rfl rfl rfl s1 hy20 ?_)
   intro B21 f22 cs23 hd24 hc25
   obtain rfl := hd24
   refine SeqW.consX rfl (kLoadA rfl Try.underlying42 rfl Try.type42 rfl rfl (st.loads hc25) ?_)
   refine sx rfl (pEqA (xs := [(str y14.number), (vI y14.length), (vI y14.axles), (vI y14.mass), (vI y14.brake), (vI y14.goods), (vB y14.gentle), (str y14.dest)]) (ys := [(str y20.number), (vI y20.length), (vI y20.axles), (vI y20.mass), (vI y20.brake), (vI y20.goods), (vB y20.gentle), (str y20.dest)]) (r := decide (y14 = y20)) true rfl Try.underlying42 stood_Wagon guard_Wagon (scal_Wagon Try.underlying42 y14 y20) rfl rfl (eqc_Wagon y14 y20)) ?_
   refine SeqW.done fun fr26 hf27 => ?_
   have h0 := (congrFun hf27 0).trans h0
   have h1 := (congrFun hf27 1).trans h1
   have h5 := (congrFun hf27 5).trans h5
   have h25 : fr26 25 = (vB (!(decide (y14 = y20)))) := (congrFun hf27 25).trans rfl
   clear hf27
   refine thenQ.n ?_
   rcases if_some hr with ⟨hc28, hr⟩ | ⟨hc31, hr⟩
   ·refine W.condT h25 hc28 (W.seq (W.region ?_))
    refine sx rfl (pAssign (v := (vB false)) rfl rfl) ?_
    refine SeqW.done fun fr29 hf30 => ?_
    have h4 : fr29 4 = (vB false) := (congrFun hf30 4).trans rfl
    clear hf30
    refine thenQ.n ?_
    refine W.ret ?_
    refine blockQ.r ?_
    refine thenQ.r ?_
    refine thenQ.r ?_
    obtain rfl := Option.some.inj hr
    exact ⟨z, hz, st, .inr ⟨_, rfl, rfl, h4, trivial⟩⟩
   ·refine W.condF h25 hc31 (W.skip ?_)
    refine blockQ.n ?_
    refine thenQ.n (W.region ?_)
    refine sx rfl (pMove (v := (vI x5)) rfl h5) ?_
    refine sx rfl (pAdd (k := .i64) (a := x5) (b := 1) rfl rfl rfl) ?_
    obtain ⟨y32, hy32, hr⟩ := lt_some hr
    refine sx rfl (pAssign rfl (congrArg (Value.int .i64) hy32)) ?_
    refine SeqW.done fun fr33 hf34 => ?_
    have h0 := (congrFun hf34 0).trans h0
    have h1 := (congrFun hf34 1).trans h1
    have h5 : fr33 5 = (vI y32) := (congrFun hf34 5).trans rfl
    clear hf34
    refine thenQ.n ?_
    exact ih hz st h0 s0 h1 s1 h5 hr
  ·refine W.condF h14 hc35 ?_
   refine W.exit ?_
   refine thenQ.x ?_
   refine thenQ.x ?_
   obtain rfl := Option.some.inj hr
   exact ⟨z, hz, st, .inl ⟨_, rfl, rfl, trivial⟩⟩

theorem u_gen_Wagons {N : Nat}  {z0 z : Nat → Blk} {e m : Mem} {k : Option Nat} {fr : Nat → Value} {x0 : List Wagon} {x1 : List Wagon} {v0 : Value} {v1 : Value} (hz : Zx e.next z0 z) (st : St z e m k) (h0 : fr 0 = v0) (s0 : SlR TWagon z x0 v0) (h1 : fr 1 = v1) (s1 : SlR TWagon z x1 v1) {r : Bool} (hr : gen_Wagons N x0 x1 = some r) : W Try.prog (sub (bodyOf Try.f13) []) (fun ex fr' m' => ∃ z', Zx e.next z0 z' ∧ St z' e m' k ∧ (ex = .normal ∨ ex = .ret) ∧ fr' 4 = (vB r) ∧ True) fr m := by
 unfold gen_Wagons at hr
 refine W.seq (W.region ?_)
 refine sx rfl (pAssign (v := (vB false)) rfl rfl) ?_
 refine SeqW.done fun fr1 hf2 => ?_
 have h0 := (congrFun hf2 0).trans h0
 have h1 := (congrFun hf2 1).trans h1
 clear hf2
 refine thenQ.n (W.seq ?_)
 refine W.seq (W.region ?_)
 refine sx rfl (pMove (v := v0) rfl h0) ?_
 refine sx rfl (pLenR (xs := x0) rfl Try.underlying24 rfl s0) ?_
 refine sx rfl (pMove (v := v1) rfl h1) ?_
 refine sx rfl (pLenR (xs := x1) rfl Try.underlying24 rfl s1) ?_
 refine sx rfl (pNeq (k := .i64) (a := (x0.length : Int)) (b := (x1.length : Int)) rfl rfl rfl) ?_
 refine SeqW.done fun fr3 hf4 => ?_
 have h0 := (congrFun hf4 0).trans h0
 have h1 := (congrFun hf4 1).trans h1
 have h10 : fr3 10 = (vB ((x0.length : Int) != (x1.length : Int))) := (congrFun hf4 10).trans rfl
 clear hf4
 refine thenQ.n ?_
 rcases if_some hr with ⟨hc5, hr⟩ | ⟨hc8, hr⟩
 ·refine W.condT h10 hc5 (W.seq (W.region ?_))
  refine sx rfl (pAssign (v := (vB false)) rfl rfl) ?_
  refine SeqW.done fun fr6 hf7 => ?_
  have h4 : fr6 4 = (vB false) := (congrFun hf7 4).trans rfl
  clear hf7
  refine thenQ.n ?_
  refine W.ret ?_
  refine thenQ.r ?_
  obtain rfl := Option.some.inj hr
  exact ⟨z, hz, st, .inr rfl, h4, trivial⟩
 ·refine W.condF h10 hc8 (W.skip ?_)
  refine thenQ.n (W.seq ?_)
  refine W.seq (W.region ?_)
  refine sx rfl (pAssign (v := (vI 0)) rfl rfl) ?_
  refine SeqW.done fun fr9 hf10 => ?_
  have h0 := (congrFun hf10 0).trans h0
  have h1 := (congrFun hf10 1).trans h1
  have h5 : fr9 5 = (vI 0) := (congrFun hf10 5).trans rfl
  clear hf10
  refine thenQ.n ?_
  refine W.block ?_
  obtain ⟨y36, hy36, hr⟩ := bind_some hr
  refine W.keep (u_gen_Wagons_0 _ (Zx.refl _) st h0 s0 h1 s1 h5 hy36) ?_
  rintro ex42 fr37 m38 hk40 ⟨z39, hz41, st, ⟨y43, rfl, rfl, -⟩ | ⟨y46, rfl, rfl, h4, -⟩⟩
  ·dsimp only at hr
   replace hz := hz.trans hz41
   clear hk40
   refine blockQ.hit ?_
   refine thenQ.n (W.seq (W.region ?_))
   refine sx rfl (pAssign (v := (vB true)) rfl rfl) ?_
   refine SeqW.done fun fr44 hf45 => ?_
   have h4 : fr44 4 = (vB true) := (congrFun hf45 4).trans rfl
   clear hf45
   refine thenQ.n ?_
   refine W.ret ?_
   obtain rfl := Option.some.inj hr
   exact ⟨z39, hz, st, .inr rfl, h4, trivial⟩
  ·dsimp only at hr
   replace hz := hz.trans hz41
   clear hk40
   refine blockQ.r ?_
   refine thenQ.r ?_
   obtain rfl := Option.some.inj hr
   exact ⟨z39, hz, st, .inr rfl, h4, trivial⟩

theorem c_gen_Wagons {N : Nat} {z : Nat → Blk} {m : Mem} {x0 : List Wagon} {x1 : List Wagon} {v0 : Value} {v1 : Value} (fz : Fz z m) (hd : ∀ b, m.next ≤ b → m.blk b = .dead) (s0 : SlR TWagon z x0 v0) (s1 : SlR TWagon z x1 v1) {r : Bool} (hr : gen_Wagons N x0 x1 = some r) : CallW Try.prog 13 #[v0, v1] m fun v m' => v = (vB r) ∧ m' = m := by
 refine CallW.flat Try.func13 rfl (by kernel_rfl) (Nat.le_of_ble_eq_true rfl) rfl (z := z) (fun fr hf => ?_)
 have h0 : fr 0 = _ := hf 0 _ rfl
 have h1 : fr 1 = _ := hf 1 _ rfl
 refine (u_gen_Wagons (k := none) (Zx.refl _) (St.start fz hd) h0 s0 h1 s1 hr).mono ?_
 rintro ex fr' m' ⟨z', hz, st, he, h4, -⟩
 exact ⟨he, z', st, [(vB r)], ⟨h4.symm, trivial⟩, .inl rfl, rfl⟩

/-! ### humpyard/humpyardref06.Check -/

theorem u_r06_Check_0 : ∀ (n : Nat) {N : Nat}  {z0 z : Nat → Blk} {e m : Mem} {k : Option Nat} {fr : Nat → Value} {x0 : List UInt8} {x3 : Int} {x4 : Int} {v0 : Value} (hz : Zx e.next z0 z) (st : St z e m k) (h0 : fr 0 = v0) (s0 : SlR (TU8 5) z x0 v0) (h3 : fr 3 = (vI x3)) (h4 : fr 4 = (vI x4)) {r : Int} (hr : r06_Check_0 N x0 n x3 x4 = some r), W Try.prog (sub (bodyOf Try.f32) [1, 1, 0, 1, 0]) (fun ex fr' m' => ∃ z', Zx e.next z0 z' ∧ St z' e m' k ∧ ex = AExit.exit 0 ∧ fr' 3 = (vI r) ∧ True) fr m := by
 intro n
 induction n with
 | zero => intro N z0 z e m k fr x0 x3 x4 v0 hz st h0 s0 h3 h4 r hr; cases (show (none : Option _) = some r from hr)
 | succ n ih =>
  intro N z0 z e m k fr x0 x3 x4 v0 hz st h0 s0 h3 h4 r hr
  unfold r06_Check_0 at hr
  refine W.loop1 ?_
  refine W.seq (W.seq (W.region ?_))
  refine sx rfl (pMove (v := (vI x4)) rfl h4) ?_
  refine sx rfl (pMove (v := v0) rfl h0) ?_
  refine sx rfl (pLenR (xs := x0) rfl Try.underlying23 rfl s0) ?_
  refine sx rfl (pLss (k := .i64) (a := x4) (b := (x0.length : Int)) rfl rfl rfl) ?_
  refine SeqW.done fun fr7 hf8 => ?_
  have h0 := (congrFun hf8 0).trans h0
  have h3 := (congrFun hf8 3).trans h3
  have h4 := (congrFun hf8 4).trans h4
  have h8 : fr7 8 = (vB (decide (x4 < (x0.length : Int)))) := (congrFun hf8 8).trans rfl
  clear hf8
  refine thenQ.n ?_
  rcases if_some hr with ⟨hc9, hr⟩ | ⟨hc22, hr⟩
  ·refine W.condT h8 hc9 (W.skip ?_)
   refine thenQ.n (W.seq ?_)
   refine W.block ?_
   refine W.region ?_
   refine sx rfl (pMove (v := (vI x3)) rfl h3) ?_
   refine sx rfl (pMove (v := (vI x4)) rfl h4) ?_
   refine sx rfl (pAdd (k := .i64) (a := x4) (b := 1) rfl rfl rfl) ?_
   refine sx rfl (pRem (k := .i64) (a := (IntKind.wrap .i64 (x4 + 1))) (b := 65521) rfl rfl rfl (by decide)) ?_
   refine sx rfl (pMove (v := v0) rfl h0) ?_
   refine sx rfl (pMove (v := (vI x4)) rfl h4) ?_
   obtain ⟨y10, hy10, hr⟩ := bind_some hr
   refine SeqW.consX rfl (kIdxR (T := (TU8 5)) (xs := x0) (n := x4) rfl Try.underlying23 Try.type5 rfl rfl rfl s0 hy10 ?_)
   intro B11 f12 cs13 hd14 hc15
   obtain rfl := hd14
   refine SeqW.consX rfl (kLoad (v := (Value.int .u8 (UInt8.toNat y10 : Int))) rfl Try.underlying5 rfl rfl (ldz_load st.fz (hc15 0 _ rfl)) ?_)
   refine sx rfl (pConv (k := .u8) (a := (UInt8.toNat y10 : Int)) rfl Try.underlying5 Try.underlying3 rfl) ?_
   refine sx rfl (pMul (k := .i64) (a := (Int.tmod (IntKind.wrap .i64 (x4 + 1)) 65521)) (b := (IntKind.wrap .i64 (UInt8.toNat y10 : Int))) rfl rfl rfl) ?_
   refine sx rfl (pAdd (k := .i64) (a := x3) (b := (IntKind.wrap .i64 ((Int.tmod (IntKind.wrap .i64 (x4 + 1)) 65521) * (IntKind.wrap .i64 (UInt8.toNat y10 : Int))))) rfl rfl rfl) ?_
   refine sx rfl (pRem (k := .i64) (a := (IntKind.wrap .i64 (x3 + (IntKind.wrap .i64 ((Int.tmod (IntKind.wrap .i64 (x4 + 1)) 65521) * (IntKind.wrap .i64 (UInt8.toNat y10 : Int))))))) (b := 65521) rfl rfl rfl (by decide)) ?_
   obtain ⟨y16, hy16, hr⟩ := lt_some hr
   refine sx rfl (pAssign rfl (congrArg (Value.int .i64) hy16)) ?_
   refine SeqW.done fun fr17 hf18 => ?_
   have h0 := (congrFun hf18 0).trans h0
   have h3 : fr17 3 = (vI y16) := (congrFun hf18 3).trans rfl
   have h4 := (congrFun hf18 4).trans h4
   clear hf18
   refine blockQ.n ?_
   refine thenQ.n (W.region ?_)
   refine sx rfl (pMove (v := (vI x4)) rfl h4) ?_
   refine sx rfl (pAdd (k := .i64) (a := x4) (b := 1) rfl rfl rfl) ?_
   obtain ⟨y19, hy19, hr⟩ := lt_some hr
   refine sx rfl (pAssign rfl (congrArg (Value.int .i64) hy19)) ?_
   refine SeqW.done fun fr20 hf21 => ?_
   have h0 := (congrFun hf21 0).trans h0
   have h3 := (congrFun hf21 3).trans h3
   have h4 : fr20 4 = (vI y19) := (congrFun hf21 4).trans rfl
   clear hf21
   refine thenQ.n ?_
   exact ih hz st h0 s0 h3 h4 hr
  ·refine W.condF h8 hc22 ?_
   refine W.exit ?_
   refine thenQ.x ?_
   refine thenQ.x ?_
   obtain rfl := Option.some.inj hr
   exact ⟨z, hz, st, rfl, h3, trivial⟩

theorem u_r06_Check {N : Nat}  {z0 z : Nat → Blk} {e m : Mem} {k : Option Nat} {fr : Nat → Value} {x0 : List UInt8} {v0 : Value} (hz : Zx e.next z0 z) (st : St z e m k) (h0 : fr 0 = v0) (s0 : SlR (TU8 5) z x0 v0) {r : Int} (hr : r06_Check N x0 = some r) : W Try.prog (sub (bodyOf Try.f32) []) (fun ex fr' m' => ∃ z', Zx e.next z0 z' ∧ St z' e m' k ∧ (ex = .normal ∨ ex = .ret) ∧ fr' 2 = (vI r) ∧ True) fr m := by
 unfold r06_Check at hr
 refine W.seq (W.region ?_)
 refine sx rfl (pAssign (v := (vI 0)) rfl rfl) ?_
 refine SeqW.done fun fr1 hf2 => ?_
 have h0 := (congrFun hf2 0).trans h0
 clear hf2
 refine thenQ.n (W.seq (W.region ?_))
 refine sx rfl (pAssign (v := (vI 0)) rfl rfl) ?_
 refine SeqW.done fun fr3 hf4 => ?_
 have h0 := (congrFun hf4 0).trans h0
 have h3 : fr3 3 = (vI 0) := (congrFun hf4 3).trans rfl
 clear hf4
 refine thenQ.n (W.seq ?_)
 refine W.seq (W.region ?_)
 refine sx rfl (pAssign (v := (vI 0)) rfl rfl) ?_
 refine SeqW.done fun fr5 hf6 => ?_
 have h0 := (congrFun hf6 0).trans h0
 have h3 := (congrFun hf6 3).trans h3
 have h4 : fr5 4 = (vI 0) := (congrFun hf6 4).trans rfl
 clear hf6
 refine thenQ.n ?_
 refine W.block ?_
 obtain ⟨y23, hy23, hr⟩ := bind_some hr
 refine W.keep (u_r06_Check_0 _ (Zx.refl _) st h0 s0 h3 h4 hy23) ?_
 rintro ex29 fr24 m25 hk27 ⟨z26, hz28, st, rfl, h3, -⟩
 replace hz := hz.trans hz28
 clear hk27
 refine blockQ.hit ?_
 refine thenQ.n (W.seq (W.region ?_))
 refine sx rfl (pMove (v := (vI y23)) rfl h3) ?_
 refine sx rfl (pAssign (v := (vI y23)) rfl rfl) ?_
 refine SeqW.done fun fr30 hf31 => ?_
 have h2 : fr30 2 = (vI y23) := (congrFun hf31 2).trans rfl
 clear hf31
 refine thenQ.n ?_
 refine W.ret ?_
 obtain rfl := Option.some.inj hr
 exact ⟨z26, hz, st, .inr rfl, h2, trivial⟩

theorem c_r06_Check {N : Nat} {z : Nat → Blk} {m : Mem} {x0 : List UInt8} {v0 : Value} (fz : Fz z m) (hd : ∀ b, m.next ≤ b → m.blk b = .dead) (s0 : SlR (TU8 5) z x0 v0) {r : Int} (hr : r06_Check N x0 = some r) : CallW Try.prog 32 #[v0] m fun v m' => v = (vI r) ∧ m' = m := by
 refine CallW.flat Try.func32 rfl (by kernel_rfl) (Nat.le_of_ble_eq_true rfl) rfl (z := z) (fun fr hf => ?_)
 have h0 : fr 0 = _ := hf 0 _ rfl
 refine (u_r06_Check (k := none) (Zx.refl _) (St.start fz hd) h0 s0 hr).mono ?_
 rintro ex fr' m' ⟨z', hz, st, he, h2, -⟩
 exact ⟨he, z', st, [(vI r)], ⟨h2.symm, trivial⟩, .inl rfl, rfl⟩

/-! ### humpyard/humpyardlaw06.fixed -/

theorem u_l06_fixed {N : Nat}  {z0 z : Nat → Blk} {e m : Mem} {k : Option Nat} {fr : Nat → Value} {x0 : List UInt8} {v0 : Value} (hz : Zx e.next z0 z) (st : St z e m k) (h0 : fr 0 = v0) (s0 : SlR (TU8 5) z x0 v0) {r : List UInt8} (hr : l06_fixed N x0 = some r) : W Try.prog (sub (bodyOf Try.f14) []) (fun ex fr' m' => ∃ z', Zx e.next z0 z' ∧ St z' e m' k ∧ (ex = .normal ∨ ex = .ret) ∧ ∃ (w2 : Value), fr' 2 = w2 ∧ SlR (TU8 5) z' r w2 ∧ True) fr m := by
 unfold l06_fixed at hr
 refine W.seq (W.region ?_)
 refine sx rfl (pAssign (v := (Value.slice none 0 0)) rfl rfl) ?_
 refine SeqW.done fun fr1 hf2 => ?_
 have h0 := (congrFun hf2 0).trans h0
 clear hf2
 refine thenQ.n (W.seq ?_)
 refine W.seq (W.region ?_)
 refine sx rfl (pMove (v := v0) rfl h0) ?_
 refine sx rfl (pLenR (xs := x0) rfl Try.underlying23 rfl s0) ?_
 refine sx rfl (pLss (k := .i64) (a := (x0.length : Int)) (b := 2) rfl rfl rfl) ?_
 refine SeqW.done fun fr3 hf4 => ?_
 have h0 := (congrFun hf4 0).trans h0
 have h7 : fr3 7 = (vB (decide ((x0.length : Int) < 2))) := (congrFun hf4 7).trans rfl
 clear hf4
 refine thenQ.n ?_
 rcases if_some hr with ⟨hc5, hr⟩ | ⟨hc8, hr⟩
 ·refine W.condT h7 hc5 (W.seq (W.region ?_))
  refine sx rfl (pMove (v := v0) rfl h0) ?_
  refine sx rfl (pAssign (v := v0) rfl rfl) ?_
  refine SeqW.done fun fr6 hf7 => ?_
  have h2 : fr6 2 = v0 := (congrFun hf7 2).trans rfl
  clear hf7
  refine thenQ.n ?_
  refine W.ret ?_
  refine thenQ.r ?_
  obtain rfl := Option.some.inj hr
  exact ⟨z, hz, st, .inr rfl, v0, h2, s0, trivial⟩
 ·refine W.condF h7 hc8 (W.skip ?_)
  refine thenQ.n (W.seq (W.region ?_))
  refine sx rfl (pMove (v := v0) rfl h0) ?_
  refine sx rfl (pLenR (xs := x0) rfl Try.underlying23 rfl s0) ?_
  refine sx rfl (pSub (k := .i64) (a := (x0.length : Int)) (b := 2) rfl rfl rfl) ?_
  obtain ⟨y9, hy9, hr⟩ := lt_some hr
  refine sx rfl (pAssign rfl (congrArg (Value.int .i64) hy9)) ?_
  refine SeqW.done fun fr10 hf11 => ?_
  have h0 := (congrFun hf11 0).trans h0
  have h3 : fr10 3 = (vI y9) := (congrFun hf11 3).trans rfl
  clear hf11
  refine thenQ.n (W.seq (W.region ?_))
  refine sx rfl (pMove (v := v0) rfl h0) ?_
  refine sx rfl (pMove (v := (vI y9)) rfl h3) ?_
  obtain ⟨y12, hy12, hr⟩ := bind_some hr
  refine SeqW.consX rfl (kCut (T := (TU8 5)) (xs := x0) (a := 0) (b := y9) rfl Try.underlying23 Try.type5 rfl rfl rfl ⟨_, rfl⟩ s0 st hy12 ?_)
  intro V13 _ hI15 Q14
  obtain ⟨y17, hy17, hr⟩ := bind_some hr
  refine SeqW.consX rfl (StepX.call (gCallee rfl rfl (args1 rfl)) ((c_r06_Check (z := z) st.fz st.dead Q14 hy17).mono ?_))
  rintro _ _ ⟨rfl, rfl⟩
  refine sx rfl (pAssign (v := (vI y17)) rfl rfl) ?_
  refine SeqW.done fun fr18 hf19 => ?_
  have h0 := (congrFun hf19 0).trans h0
  have h3 := (congrFun hf19 3).trans h3
  have h4 : fr18 4 = (vI y17) := (congrFun hf19 4).trans rfl
  clear hf19
  refine thenQ.n (W.seq (W.region ?_))
  refine SeqW.consX rfl (kBuild (T := (TU8 5)) rfl Try.underlying23 Try.type5 rfl rfl rfl rfl ([] : List UInt8) [] rfl rfl rfl trivial st ?_)
  intro V20 m21 st O22 sm23 hap24
  refine sx rfl (pMove (v := v0) rfl h0) ?_
  refine sx rfl (pMove (v := (vI y9)) rfl h3) ?_
  obtain ⟨y26, hy26, hr⟩ := bind_some hr
  refine SeqW.consX rfl (kCut (T := (TU8 5)) (xs := x0) (a := 0) (b := y9) rfl Try.underlying23 Try.type5 rfl rfl rfl ⟨_, rfl⟩ s0 st hy26 ?_)
  intro V27 _ hI29 Q28
  obtain ⟨y31, hy31, hr⟩ := bind_some hr
  refine SeqW.consX rfl (kAppendB (T := (TU8 5)) (xs := ([] : List UInt8)) (ys := y26) rfl Try.underlying23 Try.type5 rfl rfl rfl rfl rfl rfl (.inl ⟨_, Try.underlying23⟩) rfl O22 rfl (Q28.src st.fz) st hy31 ?_)
  intro V32 m33 st O34 sm35 hap36
  refine sx rfl (pMove (v := (vI y17)) rfl h4) ?_
  refine sx rfl (pQuo (k := .i64) (a := y17) (b := 256) rfl rfl rfl (by decide)) ?_
  refine sx rfl (pConv (k := .i64) (a := (IntKind.wrap .i64 (Int.tdiv y17 256))) rfl Try.underlying3 Try.underlying5 rfl) ?_
  refine sx rfl (pMove (v := (vI y17)) rfl h4) ?_
  refine sx rfl (pRem (k := .i64) (a := y17) (b := 256) rfl rfl rfl (by decide)) ?_
  refine sx rfl (pConv (k := .i64) (a := (Int.tmod y17 256)) rfl Try.underlying3 Try.underlying5 rfl) ?_
  obtain ⟨y38, hy38, hr⟩ := bind_some hr
  obtain ⟨y39, hy39, hr⟩ := bind_some hr
  refine SeqW.consX rfl (kBuild (T := (TU8 5)) rfl Try.underlying23 Try.type5 rfl rfl rfl rfl ([y38, y39] : List UInt8) [[Value.int .u8 (UInt8.toNat y38 : Int)], [Value.int .u8 (UInt8.toNat y39 : Int)]] rfl rfl rfl (BuildOk.mk (w := (Value.int .u8 (UInt8.toNat y38 : Int))) (by rw [← toU8_some hy38]; exact rfl) rfl rfl rfl (BuildOk.mk (w := (Value.int .u8 (UInt8.toNat y39 : Int))) (by rw [← toU8_some hy39]; exact rfl) rfl rfl rfl trivial)) st ?_)
  intro V40 m41 st O42 sm43 hap44
  have A46 := hap44 _ O34.lt
  replace O34 := O34.same sm43 Ap.none'
  obtain ⟨y47, hy47, hr⟩ := bind_some hr
  refine SeqW.consX rfl (kAppendB (T := (TU8 5)) (xs := y31) (ys := ([y38, y39] : List UInt8)) rfl Try.underlying23 Try.type5 rfl rfl rfl rfl rfl rfl (.inl ⟨_, Try.underlying23⟩) rfl O34 rfl O42.ow.src st hy47 ?_)
  intro V48 m49 st O50 sm51 hap52
  have A54 := hap52 _ O42.lt (Ap.symm A46)
  replace O42 := O42.same sm51 (Ap.symm A46)
  refine sx rfl (pAssign (v := V48) rfl rfl) ?_
  refine SeqW.done fun fr55 hf56 => ?_
  have h2 : fr55 2 = V48 := (congrFun hf56 2).trans rfl
  clear hf56
  refine thenQ.n ?_
  refine W.ret ?_
  obtain ⟨z57, hz58, st, Q59, hl60⟩ := O50.freeze st
  replace hz := hz.trans hz58
  obtain rfl := Option.some.inj hr
  exact ⟨z57, hz, st, .inr rfl, V48, h2, Q59, trivial⟩

theorem c_l06_fixed {N : Nat} {z : Nat → Blk} {m : Mem} {x0 : List UInt8} {v0 : Value} (fz : Fz z m) (hd : ∀ b, m.next ≤ b → m.blk b = .dead) (s0 : SlR (TU8 5) z x0 v0) {r : List UInt8} (hr : l06_fixed N x0 = some r) : CallW Try.prog 14 #[v0] m fun v m' => ∃ z' w2, Zx m.next z z' ∧ Fz z' m' ∧ Same m m' none ∧ v = w2 ∧ SlR (TU8 5) z' r w2 ∧ True := by
 refine CallW.any Try.func14 rfl (by kernel_rfl) (Nat.le_of_ble_eq_true rfl) (fun fr hf => ?_)
 have h0 : fr 0 = _ := hf 0 _ rfl
 refine (u_l06_fixed (k := none) (Zx.refl _) (St.start fz hd) h0 s0 hr).mono ?_
 rintro ex fr' m' ⟨z', hz, st, he, w2, h2, s2, -⟩
 exact ⟨he, [w2], ⟨h2.symm, trivial⟩, .inl rfl, z', w2, hz, st.fz, st.toSame, rfl, s2, trivial⟩

/-! ### humpyard/humpgen.Bytes -/

theorem u_gen_Bytes_0 : ∀ (n : Nat) {N : Nat}  {z0 z : Nat → Blk} {e m : Mem} {k : Option Nat} {fr : Nat → Value} {x0 : List UInt8} {x1 : List UInt8} {x5 : Int} {v0 : Value} {v1 : Value} (hz : Zx e.next z0 z) (st : St z e m k) (h0 : fr 0 = v0) (s0 : SlR (TU8 5) z x0 v0) (h1 : fr 1 = v1) (s1 : SlR (TU8 5) z x1 v1) (h5 : fr 5 = (vI x5)) {r : Sum (Unit) (Bool)} (hr : gen_Bytes_0 N x0 x1 n x5 = some r), W Try.prog (sub (bodyOf Try.f15) [1, 1, 0, 1, 0]) (fun ex fr' m' => ∃ z', Zx e.next z0 z' ∧ St z' e m' k ∧ ((∃ q, r = Sum.inl q ∧ ex = AExit.exit 0 ∧ True) ∨ (∃ q, r = Sum.inr q ∧ ex = AExit.ret ∧ fr' 4 = (vB q) ∧ True))) fr m := by
 intro n
 induction n with
 | zero => intro N z0 z e m k fr x0 x1 x5 v0 v1 hz st h0 s0 h1 s1 h5 r hr; cases (show (none : Option _) = some r from hr)
 | succ n ih =>
  intro N z0 z e m k fr x0 x1 x5 v0 v1 hz st h0 s0 h1 s1 h5 r hr
  unfold gen_Bytes_0 at hr
  refine W.loop1 ?_
  refine W.seq (W.seq (W.region ?_))
  refine sx rfl (pMove (v := (vI x5)) rfl h5) ?_
  refine sx rfl (pMove (v := v0) rfl h0) ?_
  refine sx rfl (pLenR (xs := x0) rfl Try.underlying23 rfl s0) ?_
  refine sx rfl (pLss (k := .i64) (a := x5) (b := (x0.length : Int)) rfl rfl rfl) ?_
  refine SeqW.done fun fr11 hf12 => ?_
  have h0 := (congrFun hf12 0).trans h0
  have h1 := (congrFun hf12 1).trans h1
  have h5 := (congrFun hf12 5).trans h5
  have h14 : fr11 14 = (vB (decide (x5 < (x0.length : Int)))) := (congrFun hf12 14).trans rfl
  clear hf12
  refine thenQ.n ?_
  rcases if_some hr with ⟨hc13, hr⟩ | ⟨hc35, hr⟩
  ·refine W.condT h14 hc13 (W.skip ?_)
   refine thenQ.n (W.seq ?_)
   refine W.block ?_
   refine W.seq ?_
   refine W.calm (by decide) ?_
   refine sx rfl (pMove (v := v0) rfl h0) ?_
   refine sx rfl (pMove (v := (vI x5)) rfl h5) ?_
   obtain ⟨y14, hy14, hr⟩ := bind_some hr
   refine SeqW.consX rfl (kIdxR (T := (TU8 5)) (xs := x0) (n := x5) rfl Try.underlying23 Try.type5 rfl rfl rfl s0 hy14 ?_)
   intro B15 f16 cs17 hd18 hc19
   obtain rfl := hd18
   refine SeqW.consX rfl (kLoad (v := (Value.int .u8 (UInt8.toNat y14 : Int))) rfl Try.underlying5 rfl rfl (ldz_load st.fz (hc19 0 _ rfl)) ?_)
   refine sx rfl (pMove (v := v1) rfl h1) ?_
   refine sx rfl (pMove (v := (vI x5)) rfl h5) ?_
   obtain ⟨y20, hy20, hr⟩ := bind_some hr
   refine SeqW.consX rfl (kIdxR (T := (TU8 5)) (xs := x1) (n := x5) rfl Try.underlying23 Try.type5 rfl rfl rfl s1 hy20 ?_)
   intro B21 f22 cs23 hd24 hc25
   obtain rfl := hd24
   refine SeqW.consX rfl (kLoad (v := (Value.int .u8 (UInt8.toNat y20 : Int))) rfl Try.underlying5 rfl rfl (ldz_load st.fz (hc25 0 _ rfl)) ?_)
   refine sx rfl (pNeq (k := .u8) (a := (UInt8.toNat y14 : Int)) (b := (UInt8.toNat y20 : Int)) rfl rfl rfl) ?_
   refine SeqW.done fun fr26 hf27 => ?_
   have h0 := (congrFun hf27 0).trans h0
   have h1 := (congrFun hf27 1).trans h1
   have h5 := (congrFun hf27 5).trans h5
   have h25 : fr26 25 = (vB ((UInt8.toNat y14 : Int) != (UInt8.toNat y20 : Int))) := (congrFun hf27 25).trans rfl
   clear hf27
   refine thenQ.n ?_
   rcases if_some hr with ⟨hc28, hr⟩ | ⟨hc31, hr⟩
   ·refine W.condT h25 hc28 (W.seq (W.region ?_))
    refine sx rfl (pAssign (v := (vB false)) rfl rfl) ?_
    refine SeqW.done fun fr29 hf30 => ?_
    have h4 : fr29 4 = (vB false) := (congrFun hf30 4).trans rfl
    clear hf30
    refine thenQ.n ?_
    refine W.ret ?_
    refine blockQ.r ?_
    refine thenQ.r ?_
    refine thenQ.r ?_
    obtain rfl := Option.some.inj hr
    exact ⟨z, hz, st, .inr ⟨_, rfl, rfl, h4, trivial⟩⟩
   ·refine W.condF h25 hc31 (W.skip ?_)
    refine blockQ.n ?_
    refine thenQ.n (W.region ?_)
    refine sx rfl (pMove (v := (vI x5)) rfl h5) ?_
    refine sx rfl (pAdd (k := .i64) (a := x5) (b := 1) rfl rfl rfl) ?_
    obtain ⟨y32, hy32, hr⟩ := lt_some hr
    refine sx rfl (pAssign rfl (congrArg (Value.int .i64) hy32)) ?_
    refine SeqW.done fun fr33 hf34 => ?_
    have h0 := (congrFun hf34 0).trans h0
    have h1 := (congrFun hf34 1).trans h1
    have h5 : fr33 5 = (vI y32) := (congrFun hf34 5).trans rfl
    clear hf34
    refine thenQ.n ?_
    exact ih hz st h0 s0 h1 s1 h5 hr
  ·refine W.condF h14 hc35 ?_
   refine W.exit ?_
   refine thenQ.x ?_
   refine thenQ.x ?_
   obtain rfl := Option.some.inj hr
   exact ⟨z, hz, st, .inl ⟨_, rfl, rfl, trivial⟩⟩

theorem u_gen_Bytes {N : Nat}  {z0 z : Nat → Blk} {e m : Mem} {k : Option Nat} {fr : Nat → Value} {x0 : List UInt8} {x1 : List UInt8} {v0 : Value} {v1 : Value} (hz : Zx e.next z0 z) (st : St z e m k) (h0 : fr 0 = v0) (s0 : SlR (TU8 5) z x0 v0) (h1 : fr 1 = v1) (s1 : SlR (TU8 5) z x1 v1) {r : Bool} (hr : gen_Bytes N x0 x1 = some r) : W Try.prog (sub (bodyOf Try.f15) []) (fun ex fr' m' => ∃ z', Zx e.next z0 z' ∧ St z' e m' k ∧ (ex = .normal ∨ ex = .ret) ∧ fr' 4 = (vB r) ∧ True) fr m := by
 unfold gen_Bytes at hr
 refine W.seq (W.region ?_)
 refine sx rfl (pAssign (v := (vB false)) rfl rfl) ?_
 refine SeqW.done fun fr1 hf2 => ?_
 have h0 := (congrFun hf2 0).trans h0
 have h1 := (congrFun hf2 1).trans h1
 clear hf2
 refine thenQ.n (W.seq ?_)
 refine W.seq (W.region ?_)
 refine sx rfl (pMove (v := v0) rfl h0) ?_
 refine sx rfl (pLenR (xs := x0) rfl Try.underlying23 rfl s0) ?_
 refine sx rfl (pMove (v := v1) rfl h1) ?_
 refine sx rfl (pLenR (xs := x1) rfl Try.underlying23 rfl s1) ?_
 refine sx rfl (pNeq (k := .i64) (a := (x0.length : Int)) (b := (x1.length : Int)) rfl rfl rfl) ?_
 refine SeqW.done fun fr3 hf4 => ?_
 have h0 := (congrFun hf4 0).trans h0
 have h1 := (congrFun hf4 1).trans h1
 have h10 : fr3 10 = (vB ((x0.length : Int) != (x1.length : Int))) := (congrFun hf4 10).trans rfl
 clear hf4
 refine thenQ.n ?_
 rcases if_some hr with ⟨hc5, hr⟩ | ⟨hc8, hr⟩
 ·refine W.condT h10 hc5 (W.seq (W.region ?_))
  refine sx rfl (pAssign (v := (vB false)) rfl rfl) ?_
  refine SeqW.done fun fr6 hf7 => ?_
  have h4 : fr6 4 = (vB false) := (congrFun hf7 4).trans rfl
  clear hf7
  refine thenQ.n ?_
  refine W.ret ?_
  refine thenQ.r ?_
  obtain rfl := Option.some.inj hr
  exact ⟨z, hz, st, .inr rfl, h4, trivial⟩
 ·refine W.condF h10 hc8 (W.skip ?_)
  refine thenQ.n (W.seq ?_)
  refine W.seq (W.region ?_)
  refine sx rfl (pAssign (v := (vI 0)) rfl rfl) ?_
  refine SeqW.done fun fr9 hf10 => ?_
  have h0 := (congrFun hf10 0).trans h0
  have h1 := (congrFun hf10 1).trans h1
  have h5 : fr9 5 = (vI 0) := (congrFun hf10 5).trans rfl
  clear hf10
  refine thenQ.n ?_
  refine W.block ?_
  obtain ⟨y36, hy36, hr⟩ := bind_some hr
  refine W.keep (u_gen_Bytes_0 _ (Zx.refl _) st h0 s0 h1 s1 h5 hy36) ?_
  rintro ex42 fr37 m38 hk40 ⟨z39, hz41, st, ⟨y43, rfl, rfl, -⟩ | ⟨y46, rfl, rfl, h4, -⟩⟩
  ·dsimp only at hr
   replace hz := hz.trans hz41
   clear hk40
   refine blockQ.hit ?_
   refine thenQ.n (W.seq (W.region ?_))
   refine sx rfl (pAssign (v := (vB true)) rfl rfl) ?_
   refine SeqW.done fun fr44 hf45 => ?_
   have h4 : fr44 4 = (vB true) := (congrFun hf45 4).trans rfl
   clear hf45
   refine thenQ.n ?_
   refine W.ret ?_
   obtain rfl := Option.some.inj hr
   exact ⟨z39, hz, st, .inr rfl, h4, trivial⟩
  ·dsimp only at hr
   replace hz := hz.trans hz41
   clear hk40
   refine blockQ.r ?_
   refine thenQ.r ?_
   obtain rfl := Option.some.inj hr
   exact ⟨z39, hz, st, .inr rfl, h4, trivial⟩

theorem c_gen_Bytes {N : Nat} {z : Nat → Blk} {m : Mem} {x0 : List UInt8} {x1 : List UInt8} {v0 : Value} {v1 : Value} (fz : Fz z m) (hd : ∀ b, m.next ≤ b → m.blk b = .dead) (s0 : SlR (TU8 5) z x0 v0) (s1 : SlR (TU8 5) z x1 v1) {r : Bool} (hr : gen_Bytes N x0 x1 = some r) : CallW Try.prog 15 #[v0, v1] m fun v m' => v = (vB r) ∧ m' = m := by
 refine CallW.flat Try.func15 rfl (by kernel_rfl) (Nat.le_of_ble_eq_true rfl) rfl (z := z) (fun fr hf => ?_)
 have h0 : fr 0 = _ := hf 0 _ rfl
 have h1 : fr 1 = _ := hf 1 _ rfl
 refine (u_gen_Bytes (k := none) (Zx.refl _) (St.start fz hd) h0 s0 h1 s1 hr).mono ?_
 rintro ex fr' m' ⟨z', hz, st, he, h4, -⟩
 exact ⟨he, z', st, [(vB r)], ⟨h4.symm, trivial⟩, .inl rfl, rfl⟩

/-! ### humpyard/humpyardlaw06.sane -/

theorem u_l06_sane_0 {N : Nat}  {z0 z : Nat → Blk} {e m : Mem} {k : Option Nat} {fr : Nat → Value} {x1 : List UInt8} {x2 : Int} {x4 : Int} {x6 : Int} {v1 : Value} (hz : Zx e.next z0 z) (st : St z e m k) (h1 : fr 1 = v1) (s1 : SlR (TU8 5) z x1 v1) (h2 : fr 2 = (vI x2)) (h4 : fr 4 = (vI x4)) (h6 : fr 6 = (vI x6)) {r : Bool} (hr : l06_sane_0 N x1 x2 x4 x6 = some r) : W Try.prog (sub (bodyOf Try.f16) [1, 1, 1, 1, 0]) (fun ex fr' m' => ∃ z', Zx e.next z0 z' ∧ St z' e m' k ∧ ex = AExit.normal ∧ fr' 0 = (vB r) ∧ True) fr m := by
 unfold l06_sane_0 at hr
 refine W.region ?_
 refine sx rfl (pMove (v := (vI x2)) rfl h2) ?_
 refine sx rfl (pEql (k := .i64) (a := x2) (b := 0) rfl rfl rfl) ?_
 refine sx rfl (pMove (v := (vB (x2 == 0))) rfl rfl) ?_
 rcases if_some hr with ⟨hc62, hr⟩ | ⟨hc109, hr⟩
 ·refine SeqW.consG rfl rfl rfl hc62 (StepX.pure (pMove (v := v1) rfl h1) ?_)
  obtain ⟨y63, hy63, hr⟩ := bind_some hr
  obtain ⟨y64, hy64, hr⟩ := bind_some hr
  obtain ⟨y65, hy65, hr⟩ := bind_some hr
  refine SeqW.consG rfl rfl rfl hc62 (kBuild (T := (TU8 5)) rfl Try.underlying23 Try.type5 rfl rfl rfl rfl ([y63, y64, y65] : List UInt8) [[Value.int .u8 (UInt8.toNat y63 : Int)], [Value.int .u8 (UInt8.toNat y64 : Int)], [Value.int .u8 (UInt8.toNat y65 : Int)]] rfl rfl rfl (BuildOk.mk (w := (Value.int .u8 (UInt8.toNat y63 : Int))) (by rw [← toU8_some hy63]; exact rfl) rfl rfl rfl (BuildOk.mk (w := (Value.int .u8 (UInt8.toNat y64 : Int))) (by rw [← toU8_some hy64]; exact rfl) rfl rfl rfl (BuildOk.mk (w := (Value.int .u8 (UInt8.toNat y65 : Int))) (by rw [← toU8_some hy65]; exact rfl) rfl rfl rfl trivial))) st ?_)
  intro V66 m67 st O68 sm69 hap70
  obtain ⟨z72, hz73, st76, Q74, hl75⟩ := O68.freeze st
  have Q77 := s1.mono hz73.le
  obtain ⟨y78, hy78, hr⟩ := bind_some hr
  refine SeqW.consG rfl rfl rfl hc62 (StepX.call (gCallee rfl rfl (args2 rfl rfl)) ((c_gen_Bytes (z := z72) st76.fz st.dead Q77 Q74 hy78).mono ?_))
  rintro _ _ ⟨rfl, rfl⟩
  refine sx rfl (pPick (t := true) (v := (vB y78)) rfl ((congrArg vB hc62)) rfl) ?_
  refine sx rfl (pMove (v := (vB y78)) rfl rfl) ?_
  rcases if_some hr with ⟨hc79, hr⟩ | ⟨hc106, hr⟩
  ·obtain ⟨y80, hy80, hr⟩ := bind_some hr
   obtain ⟨y81, hy81, hr⟩ := bind_some hr
   obtain ⟨y82, hy82, hr⟩ := bind_some hr
   refine SeqW.consG rfl rfl rfl hc79 (kBuild (T := (TU8 5)) rfl Try.underlying23 Try.type5 rfl rfl rfl rfl ([y80, y81, y82] : List UInt8) [[Value.int .u8 (UInt8.toNat y80 : Int)], [Value.int .u8 (UInt8.toNat y81 : Int)], [Value.int .u8 (UInt8.toNat y82 : Int)]] rfl rfl rfl (BuildOk.mk (w := (Value.int .u8 (UInt8.toNat y80 : Int))) (by rw [← toU8_some hy80]; exact rfl) rfl rfl rfl (BuildOk.mk (w := (Value.int .u8 (UInt8.toNat y81 : Int))) (by rw [← toU8_some hy81]; exact rfl) rfl rfl rfl (BuildOk.mk (w := (Value.int .u8 (UInt8.toNat y82 : Int))) (by rw [← toU8_some hy82]; exact rfl) rfl rfl rfl trivial))) st ?_)
   intro V83 m84 st O85 sm86 hap87
   obtain ⟨z89, hz90, st93, Q91, hl92⟩ := O85.freeze st
   obtain ⟨y94, hy94, hr⟩ := bind_some hr
   refine SeqW.consG rfl rfl rfl hc79 (StepX.call (gCallee rfl rfl (args1 rfl)) ((c_consist_Check (z := z89) st93.fz st.dead Q91 hy94).mono ?_))
   rintro _ _ ⟨rfl, rfl⟩
   refine SeqW.consG rfl rfl rfl hc79 (StepX.pure (pEql (k := .i64) (a := y94) (b := 14) rfl rfl rfl) ?_)
   refine sx rfl (pPick (t := true) (v := (vB (y94 == 14))) rfl ((congrArg vB hc79)) rfl) ?_
   refine sx rfl (pMove (v := (vB (y94 == 14))) rfl rfl) ?_
   rcases if_some hr with ⟨hc95, hr⟩ | ⟨hc103, hr⟩
   ·refine SeqW.consG rfl rfl rfl hc95 (StepX.pure (pMove (v := (vI x4)) rfl h4) ?_)
    refine SeqW.consG rfl rfl rfl hc95 (StepX.pure (pEql (k := .i64) (a := x4) (b := 11) rfl rfl rfl) ?_)
    refine sx rfl (pPick (t := true) (v := (vB (x4 == 11))) rfl ((congrArg vB hc95)) rfl) ?_
    refine sx rfl (pMove (v := (vB (x4 == 11))) rfl rfl) ?_
    rcases if_some hr with ⟨hc96, hr⟩ | ⟨hc100, hr⟩
    ·refine SeqW.consG rfl rfl rfl hc96 (StepX.pure (pMove (v := (vI x6)) rfl h6) ?_)
     refine SeqW.consG rfl rfl rfl hc96 (StepX.pure (pEql (k := .i64) (a := x6) (b := 10) rfl rfl rfl) ?_)
     refine sx rfl (pPick (t := true) (v := (vB (x6 == 10))) rfl ((congrArg vB hc96)) rfl) ?_
     obtain ⟨y97, hy97, hr⟩ := lt_some hr
     refine sx rfl (pAssign rfl (congrArg vB hy97)) ?_
     refine SeqW.done fun fr98 hf99 => ?_
     have h0 : fr98 0 = (vB y97) := (congrFun hf99 0).trans rfl
     clear hf99
     obtain rfl := Option.some.inj hr
     exact ⟨z, hz, st, rfl, h0, trivial⟩
    ·refine kx rfl rfl rfl hc100 ?_
     refine kx rfl rfl rfl hc100 ?_
     refine sx rfl (pPick (t := false) (v := (vB false)) rfl ((congrArg vB hc100)) rfl) ?_
     refine sx rfl (pAssign (v := (vB false)) rfl rfl) ?_
     refine SeqW.done fun fr101 hf102 => ?_
     have h0 : fr101 0 = (vB false) := (congrFun hf102 0).trans rfl
     clear hf102
     obtain rfl := Option.some.inj hr
     exact ⟨z, hz, st, rfl, h0, trivial⟩
   ·refine kx rfl rfl rfl hc103 ?_
    refine kx rfl rfl rfl hc103 ?_
    refine sx rfl (pPick (t := false) (v := (vB false)) rfl ((congrArg vB hc103)) rfl) ?_
    refine sx rfl (pMove (v := (vB false)) rfl rfl) ?_
    iterate 2 refine kx rfl rfl rfl rfl ?_
    refine sx rfl (pPick (t := false) (v := (vB false)) rfl ((congrArg vB (rfl : false = false))) rfl) ?_
    refine sx rfl (pAssign (v := (vB false)) rfl rfl) ?_
    refine SeqW.done fun fr104 hf105 => ?_
    have h0 : fr104 0 = (vB false) := (congrFun hf105 0).trans rfl
    clear hf105
    obtain rfl := Option.some.inj hr
    exact ⟨z, hz, st, rfl, h0, trivial⟩
  ·refine kx rfl rfl rfl hc106 ?_
   iterate 2 refine kx rfl rfl rfl hc106 ?_
   refine sx rfl (pPick (t := false) (v := (vB false)) rfl ((congrArg vB hc106)) rfl) ?_
   refine sx rfl (pMove (v := (vB false)) rfl rfl) ?_
   iterate 2 refine kx rfl rfl rfl rfl ?_
   refine sx rfl (pPick (t := false) (v := (vB false)) rfl ((congrArg vB (rfl : false = false))) rfl) ?_
   refine sx rfl (pMove (v := (vB false)) rfl rfl) ?_
   iterate 2 refine kx rfl rfl rfl rfl ?_
   refine sx rfl (pPick (t := false) (v := (vB false)) rfl ((congrArg vB (rfl : false = false))) rfl) ?_
   refine sx rfl (pAssign (v := (vB false)) rfl rfl) ?_
   refine SeqW.done fun fr107 hf108 => ?_
   have h0 : fr107 0 = (vB false) := (congrFun hf108 0).trans rfl
   clear hf108
   obtain rfl := Option.some.inj hr
   exact ⟨z, hz, st, rfl, h0, trivial⟩
 ·refine kx rfl rfl rfl hc109 ?_
  iterate 2 refine kx rfl rfl rfl hc109 ?_
  refine sx rfl (pPick (t := false) (v := (vB false)) rfl ((congrArg vB hc109)) rfl) ?_
  refine sx rfl (pMove (v := (vB false)) rfl rfl) ?_
  iterate 3 refine kx rfl rfl rfl rfl ?_
  refine sx rfl (pPick (t := false) (v := (vB false)) rfl ((congrArg vB (rfl : false = false))) rfl) ?_
  refine sx rfl (pMove (v := (vB false)) rfl rfl) ?_
  iterate 2 refine kx rfl rfl rfl rfl ?_
  refine sx rfl (pPick (t := false) (v := (vB false)) rfl ((congrArg vB (rfl : false = false))) rfl) ?_
  refine sx rfl (pMove (v := (vB false)) rfl rfl) ?_
  iterate 2 refine kx rfl rfl rfl rfl ?_
  refine sx rfl (pPick (t := false) (v := (vB false)) rfl ((congrArg vB (rfl : false = false))) rfl) ?_
  refine sx rfl (pAssign (v := (vB false)) rfl rfl) ?_
  refine SeqW.done fun fr110 hf111 => ?_
  have h0 : fr110 0 = (vB false) := (congrFun hf111 0).trans rfl
  clear hf111
  obtain rfl := Option.some.inj hr
  exact ⟨z, hz, st, rfl, h0, trivial⟩

theorem u_l06_sane {N : Nat}  {z0 z : Nat → Blk} {e m : Mem} {k : Option Nat} {fr : Nat → Value} (hz : Zx e.next z0 z) (st : St z e m k)  {r : Bool} (hr : l06_sane N  = some r) : W Try.prog (sub (bodyOf Try.f16) []) (fun ex fr' m' => ∃ z', Zx e.next z0 z' ∧ St z' e m' k ∧ (ex = .normal ∨ ex = .ret) ∧ fr' 0 = (vB r) ∧ True) fr m := by
 unfold l06_sane at hr
 refine W.seq (W.region ?_)
 refine sx rfl (pAssign (v := (vB false)) rfl rfl) ?_
 refine SeqW.done fun fr1 hf2 => ?_
 clear hf2
 refine thenQ.n (W.seq (W.region ?_))
 obtain ⟨y3, hy3, hr⟩ := bind_some hr
 refine SeqW.consX rfl (StepX.call (gCallee rfl rfl (args1 rfl)) ((c_consist_Encode (z := z) st.fz st.dead (SlR.nil (T := TWagon)) hy3).mono ?_))
 rintro _ m8 ⟨z4, V9, hzx5, fz6, sm7, rfl, Q10, -⟩
 replace hz := hz.trans (Zx.here st hzx5)
 replace st := st.call hzx5 fz6 sm7 no_hq
 refine sx rfl (pMove (v := (Value.tuple [V9, (vI y3.2)].toArray)) rfl rfl) ?_
 refine sx rfl (pExtract (vs := [V9, (vI y3.2)]) (v := V9) rfl rfl rfl) ?_
 refine sx rfl (pExtract (vs := [V9, (vI y3.2)]) (v := (vI y3.2)) rfl rfl rfl) ?_
 refine sx rfl (pAssign (v := V9) rfl rfl) ?_
 refine sx rfl (pAssign (v := (vI y3.2)) rfl rfl) ?_
 refine SeqW.done fun fr12 hf13 => ?_
 have h1 : fr12 1 = V9 := (congrFun hf13 1).trans rfl
 have h2 : fr12 2 = (vI y3.2) := (congrFun hf13 2).trans rfl
 clear hf13
 refine thenQ.n (W.seq (W.region ?_))
 obtain ⟨y14, hy14, hr⟩ := bind_some hr
 obtain ⟨y15, hy15, hr⟩ := bind_some hr
 obtain ⟨y16, hy16, hr⟩ := bind_some hr
 obtain ⟨y17, hy17, hr⟩ := bind_some hr
 refine SeqW.consX rfl (kBuild (T := (TU8 5)) rfl Try.underlying23 Try.type5 rfl rfl rfl rfl ([y14, y15, y16, y17] : List UInt8) [[Value.int .u8 (UInt8.toNat y14 : Int)], [Value.int .u8 (UInt8.toNat y15 : Int)], [Value.int .u8 (UInt8.toNat y16 : Int)], [Value.int .u8 (UInt8.toNat y17 : Int)]] rfl rfl rfl (BuildOk.mk (w := (Value.int .u8 (UInt8.toNat y14 : Int))) (by rw [← toU8_some hy14]; exact rfl) rfl rfl rfl (BuildOk.mk (w := (Value.int .u8 (UInt8.toNat y15 : Int))) (by rw [← toU8_some hy15]; exact rfl) rfl rfl rfl (BuildOk.mk (w := (Value.int .u8 (UInt8.toNat y16 : Int))) (by rw [← toU8_some hy16]; exact rfl) rfl rfl rfl (BuildOk.mk (w := (Value.int .u8 (UInt8.toNat y17 : Int))) (by rw [← toU8_some hy17]; exact rfl) rfl rfl rfl trivial)))) st ?_)
 intro V18 m19 st O20 sm21 hap22
 obtain ⟨z24, hz25, st, Q26, hl27⟩ := O20.freeze st
 replace Q10 := Q10.mono hz25.le
 replace hz := hz.trans hz25
 obtain ⟨y28, hy28, hr⟩ := bind_some hr
 refine SeqW.consX rfl (StepX.call (gCallee rfl rfl (args1 rfl)) ((c_consist_Decode (z := z24) st.fz st.dead Q26 hy28).mono ?_))
 rintro _ m33 ⟨z29, V34, hzx30, fz31, sm32, rfl, Q35, -⟩
 replace Q10 := Q10.mono hzx30.le
 replace Q26 := Q26.mono hzx30.le
 replace hz := hz.trans (Zx.here st hzx30)
 replace st := st.call hzx30 fz31 sm32 no_hq
 refine sx rfl (pMove (v := (Value.tuple [V34, (vI y28.2)].toArray)) rfl rfl) ?_
 refine sx rfl (pExtract (vs := [V34, (vI y28.2)]) (v := V34) rfl rfl rfl) ?_
 refine sx rfl (pExtract (vs := [V34, (vI y28.2)]) (v := (vI y28.2)) rfl rfl rfl) ?_
 refine sx rfl (pAssign (v := V34) rfl rfl) ?_
 refine sx rfl (pAssign (v := (vI y28.2)) rfl rfl) ?_
 refine SeqW.done fun fr37 hf38 => ?_
 have h1 := (congrFun hf38 1).trans h1
 have h2 := (congrFun hf38 2).trans h2
 have h4 : fr37 4 = (vI y28.2) := (congrFun hf38 4).trans rfl
 clear hf38
 refine thenQ.n (W.seq (W.region ?_))
 obtain ⟨y39, hy39, hr⟩ := bind_some hr
 obtain ⟨y40, hy40, hr⟩ := bind_some hr
 refine SeqW.consX rfl (kBuild (T := (TU8 5)) rfl Try.underlying23 Try.type5 rfl rfl rfl rfl ([y39, y40] : List UInt8) [[Value.int .u8 (UInt8.toNat y39 : Int)], [Value.int .u8 (UInt8.toNat y40 : Int)]] rfl rfl rfl (BuildOk.mk (w := (Value.int .u8 (UInt8.toNat y39 : Int))) (by rw [← toU8_some hy39]; exact rfl) rfl rfl rfl (BuildOk.mk (w := (Value.int .u8 (UInt8.toNat y40 : Int))) (by rw [← toU8_some hy40]; exact rfl) rfl rfl rfl trivial)) st ?_)
 intro V41 m42 st O43 sm44 hap45
 obtain ⟨z47, hz48, st, Q49, hl50⟩ := O43.freeze st
 replace Q10 := Q10.mono hz48.le
 replace hz := hz.trans hz48
 obtain ⟨y51, hy51, hr⟩ := bind_some hr
 refine SeqW.consX rfl (StepX.call (gCallee rfl rfl (args1 rfl)) ((c_consist_Decode (z := z47) st.fz st.dead Q49 hy51).mono ?_))
 rintro _ m56 ⟨z52, V57, hzx53, fz54, sm55, rfl, Q58, -⟩
 replace Q10 := Q10.mono hzx53.le
 replace Q49 := Q49.mono hzx53.le
 replace hz := hz.trans (Zx.here st hzx53)
 replace st := st.call hzx53 fz54 sm55 no_hq
 refine sx rfl (pMove (v := (Value.tuple [V57, (vI y51.2)].toArray)) rfl rfl) ?_
 refine sx rfl (pExtract (vs := [V57, (vI y51.2)]) (v := V57) rfl rfl rfl) ?_
 refine sx rfl (pExtract (vs := [V57, (vI y51.2)]) (v := (vI y51.2)) rfl rfl rfl) ?_
 refine sx rfl (pAssign (v := V57) rfl rfl) ?_
 refine sx rfl (pAssign (v := (vI y51.2)) rfl rfl) ?_
 refine SeqW.done fun fr60 hf61 => ?_
 have h1 := (congrFun hf61 1).trans h1
 have h2 := (congrFun hf61 2).trans h2
 have h4 := (congrFun hf61 4).trans h4
 have h6 : fr60 6 = (vI y51.2) := (congrFun hf61 6).trans rfl
 clear hf61
 refine thenQ.n (W.seq ?_)
 obtain ⟨y112, hy112, hr⟩ := bind_some hr
 refine W.keep (u_l06_sane_0 (Zx.refl _) st h1 Q10 h2 h4 h6 hy112) ?_
 rintro ex118 fr113 m114 hk116 ⟨z115, hz117, st, rfl, h0, -⟩
 replace hz := hz.trans hz117
 clear hk116
 refine thenQ.n ?_
 refine W.ret ?_
 obtain rfl := Option.some.inj hr
 exact ⟨z115, hz, st, .inr rfl, h0, trivial⟩

theorem c_l06_sane {N : Nat} {z : Nat → Blk} {m : Mem} (fz : Fz z m) (hd : ∀ b, m.next ≤ b → m.blk b = .dead)  {r : Bool} (hr : l06_sane N  = some r) : CallW Try.prog 16 #[] m fun v m' => v = (vB r) ∧ m' = m := by
 refine CallW.flat Try.func16 rfl (by kernel_rfl) (Nat.le_of_ble_eq_true rfl) rfl (z := z) (fun fr hf => ?_)
 refine (u_l06_sane (k := none) (Zx.refl _) (St.start fz hd)  hr).mono ?_
 rintro ex fr' m' ⟨z', hz, st, he, h0, -⟩
 exact ⟨he, z', st, [(vB r)], ⟨h0.symm, trivial⟩, .inl rfl, rfl⟩

/-! ### humpyard/humpyardlaw06.ConsistReturns -/

theorem u_l06_ConsistReturns_0 {N : Nat}  {z0 z : Nat → Blk} {e m : Mem} {k : Option Nat} {fr : Nat → Value} {x5 : List Wagon} {x7 : Int} {x8 : List Wagon} {x9 : Int} {v5 : Value} {v8 : Value} (hz : Zx e.next z0 z) (st : St z e m k) (h5 : fr 5 = v5) (s5 : SlR TWagon z x5 v5) (h7 : fr 7 = (vI x7)) (h8 : fr 8 = v8) (s8 : SlR TWagon z x8 v8) (h9 : fr 9 = (vI x9)) {r : Bool} (hr : l06_ConsistReturns_0 N x5 x7 x8 x9 = some r) : W Try.prog (sub (bodyOf Try.f3) [1, 1, 1, 1, 0, 0]) (fun ex fr' m' => ∃ z', Zx e.next z0 z' ∧ St z' e m' k ∧ ex = AExit.normal ∧ fr' 40 = (vB r) ∧ True) fr m := by
 unfold l06_ConsistReturns_0 at hr
 refine W.region ?_
 refine sx rfl (pMove (v := (vI x7)) rfl h7) ?_
 refine sx rfl (pNeq (k := .i64) (a := x7) (b := 0) rfl rfl rfl) ?_
 refine sx rfl (pMove (v := (vB (x7 != 0))) rfl rfl) ?_
 rcases if_some hr with ⟨hc58, hr⟩ | ⟨hc61, hr⟩
 ·refine kx rfl rfl rfl hc58 ?_
  refine kx rfl rfl rfl hc58 ?_
  refine sx rfl (pPick (t := true) (v := (vB true)) rfl ((congrArg vB hc58)) rfl) ?_
  refine sx rfl (pMove (v := (vB true)) rfl rfl) ?_
  iterate 4 refine kx rfl rfl rfl rfl ?_
  refine sx rfl (pPick (t := true) (v := (vB true)) rfl ((congrArg vB (rfl : true = true))) rfl) ?_
  refine SeqW.done fun fr59 hf60 => ?_
  have h40 : fr59 40 = (vB true) := (congrFun hf60 40).trans rfl
  clear hf60
  obtain rfl := Option.some.inj hr
  exact ⟨z, hz, st, rfl, h40, trivial⟩
 ·refine SeqW.consG rfl rfl rfl hc61 (StepX.pure (pMove (v := (vI x9)) rfl h9) ?_)
  refine SeqW.consG rfl rfl rfl hc61 (StepX.pure (pNeq (k := .i64) (a := x9) (b := 0) rfl rfl rfl) ?_)
  refine sx rfl (pPick (t := false) (v := (vB (x9 != 0))) rfl ((congrArg vB hc61)) rfl) ?_
  refine sx rfl (pMove (v := (vB (x9 != 0))) rfl rfl) ?_
  rcases if_some hr with ⟨hc62, hr⟩ | ⟨hc65, hr⟩
  ·refine kx rfl rfl rfl hc62 ?_
   iterate 3 refine kx rfl rfl rfl hc62 ?_
   refine sx rfl (pPick (t := true) (v := (vB true)) rfl ((congrArg vB hc62)) rfl) ?_
   refine SeqW.done fun fr63 hf64 => ?_
   have h40 : fr63 40 = (vB true) := (congrFun hf64 40).trans rfl
   clear hf64
   obtain rfl := Option.some.inj hr
   exact ⟨z, hz, st, rfl, h40, trivial⟩
  ·refine SeqW.consG rfl rfl rfl hc65 (StepX.pure (pMove (v := v8) rfl h8) ?_)
   refine SeqW.consG rfl rfl rfl hc65 (StepX.pure (pMove (v := v5) rfl h5) ?_)
   obtain ⟨y66, hy66, hr⟩ := bind_some hr
   refine SeqW.consG rfl rfl rfl hc65 (StepX.call (gCallee rfl rfl (args2 rfl rfl)) ((c_gen_Wagons (z := z) st.fz st.dead s8 s5 hy66).mono ?_))
   rintro _ _ ⟨rfl, rfl⟩
   refine SeqW.consG rfl rfl rfl hc65 (StepX.pure (pNot (b := y66) rfl rfl) ?_)
   refine sx rfl (pPick (t := false) (v := (vB (!y66))) rfl ((congrArg vB hc65)) rfl) ?_
   refine SeqW.done fun fr67 hf68 => ?_
   have h40 : fr67 40 = (vB (!y66)) := (congrFun hf68 40).trans rfl
   clear hf68
   obtain rfl := Option.some.inj hr
   exact ⟨z, hz, st, rfl, h40, trivial⟩

theorem u_l06_ConsistReturns_3 {N : Nat}  {z0 z : Nat → Blk} {e m : Mem} {k : Option Nat} {fr : Nat → Value} {x11 : List UInt8} {x14 : List UInt8} {x15 : Int} {v11 : Value} {v14 : Value} {x44 : List (List UInt8)} {v44 : Value} (hz : Zx e.next z0 z) (st : St z e m k) (h11 : fr 11 = v11) (s11 : SlR (TU8 5) z x11 v11) (h14 : fr 14 = v14) (s14 : SlR (TU8 5) z x14 v14) (h15 : fr 15 = (vI x15)) (h44 : fr 44 = v44) (o44 : OwF (TSl 23 (TU8 5)) z e m k x44 v44) {r : Bool} (hr : l06_ConsistReturns_3 N x11 x14 x15 = some r) : W Try.prog (sub (bodyOf Try.f3) [1, 1, 1, 1, 1, 0, 1, 0, 0, 1, 1, 0, 0, 1, 1, 1, 1, 1, 0]) (fun ex fr' m' => ∃ z', Zx e.next z0 z' ∧ St z' e m' k ∧ ex = AExit.normal ∧ fr' 72 = (vB r) ∧ OwF (TSl 23 (TU8 5)) z' e m' k x44 v44 ∧ True) fr m := by
 unfold l06_ConsistReturns_3 at hr
 refine W.region ?_
 refine sx rfl (pMove (v := (vI x15)) rfl h15) ?_
 refine sx rfl (pNeq (k := .i64) (a := x15) (b := 0) rfl rfl rfl) ?_
 refine sx rfl (pMove (v := (vB (x15 != 0))) rfl rfl) ?_
 rcases if_some hr with ⟨hc144, hr⟩ | ⟨hc147, hr⟩
 ·refine kx rfl rfl rfl hc144 ?_
  iterate 3 refine kx rfl rfl rfl hc144 ?_
  refine sx rfl (pPick (t := true) (v := (vB true)) rfl ((congrArg vB hc144)) rfl) ?_
  refine SeqW.done fun fr145 hf146 => ?_
  have h44 := (congrFun hf146 44).trans h44
  have h72 : fr145 72 = (vB true) := (congrFun hf146 72).trans rfl
  clear hf146
  obtain rfl := Option.some.inj hr
  exact ⟨z, hz, st, rfl, h72, o44, trivial⟩
 ·refine SeqW.consG rfl rfl rfl hc147 (StepX.pure (pMove (v := v11) rfl h11) ?_)
  refine SeqW.consG rfl rfl rfl hc147 (StepX.pure (pMove (v := v14) rfl h14) ?_)
  obtain ⟨y148, hy148, hr⟩ := bind_some hr
  refine SeqW.consG rfl rfl rfl hc147 (StepX.call (gCallee rfl rfl (args2 rfl rfl)) ((c_gen_Bytes (z := z) st.fz st.dead s11 s14 hy148).mono ?_))
  rintro _ _ ⟨rfl, rfl⟩
  refine SeqW.consG rfl rfl rfl hc147 (StepX.pure (pNot (b := y148) rfl rfl) ?_)
  refine sx rfl (pPick (t := false) (v := (vB (!y148))) rfl ((congrArg vB hc147)) rfl) ?_
  refine SeqW.done fun fr149 hf150 => ?_
  have h44 := (congrFun hf150 44).trans h44
  have h72 : fr149 72 = (vB (!y148)) := (congrFun hf150 72).trans rfl
  clear hf150
  obtain rfl := Option.some.inj hr
  exact ⟨z, hz, st, rfl, h72, o44, trivial⟩

theorem u_l06_ConsistReturns_2 {N : Nat}  {z0 z : Nat → Blk} {e m : Mem} {k : Option Nat} {fr : Nat → Value} {x44 : List (List UInt8)} {x46 : Int} {v44 : Value} (hz : Zx e.next z0 z) (st : St z e m k) (h44 : fr 44 = v44) (o44 : OwF (TSl 23 (TU8 5)) z e m k x44 v44) (h46 : fr 46 = (vI x46)) {r : Sum (Unit) (Bool)} (hr : l06_ConsistReturns_2 N x44 x46 = some r) : W Try.prog (sub (bodyOf Try.f3) [1, 1, 1, 1, 1, 0, 1, 0, 0, 1, 1, 0]) (fun ex fr' m' => ∃ z', Zx e.next z0 z' ∧ St z' e m' k ∧ ((∃ q, r = Sum.inl q ∧ ex = AExit.normal ∧ OwF (TSl 23 (TU8 5)) z' e m' k x44 v44 ∧ True) ∨ (∃ q, r = Sum.inr q ∧ ex = AExit.ret ∧ fr' 4 = (vB q) ∧ True))) fr m := by
 unfold l06_ConsistReturns_2 at hr
 refine W.block ?_
 refine W.seq (W.region ?_)
 obtain ⟨y100, hy100, hr⟩ := bind_some hr
 refine SeqW.consX rfl (kIdxO (T := (TSl 23 (TU8 5))) (xs := x44) (n := x46) rfl Try.underlying35 Try.type23 rfl h44 h46 o44 hy100 ?_)
 intro B101 l102 c103 cs104 hv105 hd106 hg107 hc108
 have hd1060 := hd106
 obtain ⟨V109, rfl, Q110⟩ := hd1060
 refine SeqW.consX rfl (kLoad (v := V109) rfl Try.underlying23 rfl rfl (hc108 0 _ rfl) ?_)
 refine sx rfl (pAssign (v := V109) rfl rfl) ?_
 refine SeqW.done fun fr112 hf113 => ?_
 have h11 : fr112 11 = V109 := (congrFun hf113 11).trans rfl
 have h44 := (congrFun hf113 44).trans h44
 have h46 := (congrFun hf113 46).trans h46
 clear hf113
 refine thenQ.n (W.seq ?_)
 refine W.seq (W.region ?_)
 refine sx rfl (pMove (v := V109) rfl h11) ?_
 refine sx rfl (pLenR (xs := y100) rfl Try.underlying23 rfl Q110) ?_
 refine sx rfl (pGtr (k := .i64) (a := (y100.length : Int)) (b := 300) rfl rfl rfl) ?_
 refine SeqW.done fun fr114 hf115 => ?_
 have h11 := (congrFun hf115 11).trans h11
 have h44 := (congrFun hf115 44).trans h44
 have h46 := (congrFun hf115 46).trans h46
 have h52 : fr114 52 = (vB (decide (300 < (y100.length : Int)))) := (congrFun hf115 52).trans rfl
 clear hf115
 refine thenQ.n ?_
 rcases if_some hr with ⟨hc116, hr⟩ | ⟨hc117, hr⟩
 ·refine W.condT h52 hc116 ?_
  refine W.exit ?_
  refine thenQ.x ?_
  refine blockQ.hit ?_
  obtain rfl := Option.some.inj hr
  exact ⟨z, hz, st, .inl ⟨_, rfl, rfl, o44, trivial⟩⟩
 ·refine W.condF h52 hc117 (W.skip ?_)
  refine thenQ.n (W.seq (W.region ?_))
  refine sx rfl (pMove (v := V109) rfl h11) ?_
  obtain ⟨y118, hy118, hr⟩ := bind_some hr
  refine SeqW.consX rfl (StepX.call (gCallee rfl rfl (args1 rfl)) ((c_consist_Decode (z := z) st.fz st.dead Q110 hy118).mono ?_))
  rintro _ m123 ⟨z119, V124, hzx120, fz121, sm122, rfl, Q125, -⟩
  replace o44 := o44.call hzx120 sm122 Ap.none'
  replace Q110 := Q110.mono hzx120.le
  replace hz := hz.trans (Zx.here st hzx120)
  replace st := st.call hzx120 fz121 sm122 no_hq
  refine sx rfl (pMove (v := (Value.tuple [V124, (vI y118.2)].toArray)) rfl rfl) ?_
  refine sx rfl (pExtract (vs := [V124, (vI y118.2)]) (v := V124) rfl rfl rfl) ?_
  refine sx rfl (pExtract (vs := [V124, (vI y118.2)]) (v := (vI y118.2)) rfl rfl rfl) ?_
  refine sx rfl (pAssign (v := V124) rfl rfl) ?_
  refine sx rfl (pAssign (v := (vI y118.2)) rfl rfl) ?_
  refine SeqW.done fun fr127 hf128 => ?_
  have h11 := (congrFun hf128 11).trans h11
  have h12 : fr127 12 = V124 := (congrFun hf128 12).trans rfl
  have h13 : fr127 13 = (vI y118.2) := (congrFun hf128 13).trans rfl
  have h44 := (congrFun hf128 44).trans h44
  have h46 := (congrFun hf128 46).trans h46
  clear hf128
  refine thenQ.n (W.seq ?_)
  refine W.seq (W.region ?_)
  refine sx rfl (pMove (v := (vI y118.2)) rfl h13) ?_
  refine sx rfl (pNeq (k := .i64) (a := y118.2) (b := 0) rfl rfl rfl) ?_
  refine SeqW.done fun fr129 hf130 => ?_
  have h11 := (congrFun hf130 11).trans h11
  have h12 := (congrFun hf130 12).trans h12
  have h44 := (congrFun hf130 44).trans h44
  have h46 := (congrFun hf130 46).trans h46
  have h59 : fr129 59 = (vB (y118.2 != 0)) := (congrFun hf130 59).trans rfl
  clear hf130
  refine thenQ.n ?_
  rcases if_some hr with ⟨hc131, hr⟩ | ⟨hc132, hr⟩
  ·refine W.condT h59 hc131 ?_
   refine W.exit ?_
   refine thenQ.x ?_
   refine blockQ.hit ?_
   obtain rfl := Option.some.inj hr
   exact ⟨z119, hz, st, .inl ⟨_, rfl, rfl, o44, trivial⟩⟩
  ·refine W.condF h59 hc132 (W.skip ?_)
   refine thenQ.n (W.seq (W.region ?_))
   refine sx rfl (pMove (v := V124) rfl h12) ?_
   obtain ⟨y133, hy133, hr⟩ := bind_some hr
   refine SeqW.consX rfl (StepX.call (gCallee rfl rfl (args1 rfl)) ((c_consist_Encode (z := z119) st.fz st.dead Q125 hy133).mono ?_))
   rintro _ m138 ⟨z134, V139, hzx135, fz136, sm137, rfl, Q140, -⟩
   replace o44 := o44.call hzx135 sm137 Ap.none'
   replace Q110 := Q110.mono hzx135.le
   replace Q125 := Q125.mono hzx135.le
   replace hz := hz.trans (Zx.here st hzx135)
   replace st := st.call hzx135 fz136 sm137 no_hq
   refine sx rfl (pMove (v := (Value.tuple [V139, (vI y133.2)].toArray)) rfl rfl) ?_
   refine sx rfl (pExtract (vs := [V139, (vI y133.2)]) (v := V139) rfl rfl rfl) ?_
   refine sx rfl (pExtract (vs := [V139, (vI y133.2)]) (v := (vI y133.2)) rfl rfl rfl) ?_
   refine sx rfl (pAssign (v := V139) rfl rfl) ?_
   refine sx rfl (pAssign (v := (vI y133.2)) rfl rfl) ?_
   refine SeqW.done fun fr142 hf143 => ?_
   have h11 := (congrFun hf143 11).trans h11
   have h14 : fr142 14 = V139 := (congrFun hf143 14).trans rfl
   have h15 : fr142 15 = (vI y133.2) := (congrFun hf143 15).trans rfl
   have h44 := (congrFun hf143 44).trans h44
   have h46 := (congrFun hf143 46).trans h46
   clear hf143
   refine thenQ.n (W.seq ?_)
   obtain ⟨y151, hy151, hr⟩ := bind_some hr
   refine W.keep (u_l06_ConsistReturns_3 (Zx.refl _) st h11 Q110 h14 Q140 h15 h44 o44 hy151) ?_
   rintro ex157 fr152 m153 hk155 ⟨z154, hz156, st, rfl, h72, O158, -⟩
   have h44 := (hk155 44 rfl).trans h44
   have h46 := (hk155 46 rfl).trans h46
   replace hz := hz.trans hz156
   clear hk155
   refine thenQ.n ?_
   rcases if_some hr with ⟨hc159, hr⟩ | ⟨hc162, hr⟩
   ·refine W.condT h72 hc159 (W.seq (W.region ?_))
    refine sx rfl (pAssign (v := (vB false)) rfl rfl) ?_
    refine SeqW.done fun fr160 hf161 => ?_
    have h4 : fr160 4 = (vB false) := (congrFun hf161 4).trans rfl
    clear hf161
    refine thenQ.n ?_
    refine W.ret ?_
    refine blockQ.r ?_
    obtain rfl := Option.some.inj hr
    exact ⟨z154, hz, st, .inr ⟨_, rfl, rfl, h4, trivial⟩⟩
   ·refine W.condF h72 hc162 (W.skip ?_)
    refine blockQ.n ?_
    obtain rfl := Option.some.inj hr
    exact ⟨z154, hz, st, .inl ⟨_, rfl, rfl, O158, trivial⟩⟩

theorem u_l06_ConsistReturns_1 : ∀ (n : Nat) {N : Nat}  {z0 z : Nat → Blk} {e m : Mem} {k : Option Nat} {fr : Nat → Value} {x44 : List (List UInt8)} {x45 : Int} {x46 : Int} {v44 : Value} (hz : Zx e.next z0 z) (st : St z e m k) (h44 : fr 44 = v44) (o44 : OwF (TSl 23 (TU8 5)) z e m k x44 v44) (h45 : fr 45 = (vI x45)) (h46 : fr 46 = (vI x46)) {r : Sum (Unit) (Bool)} (hr : l06_ConsistReturns_1 N x44 x45 n x46 = some r), W Try.prog (sub (bodyOf Try.f3) [1, 1, 1, 1, 1, 0, 1, 0]) (fun ex fr' m' => ∃ z', Zx e.next z0 z' ∧ St z' e m' k ∧ ((∃ q, r = Sum.inl q ∧ ex = AExit.exit 0 ∧ True) ∨ (∃ q, r = Sum.inr q ∧ ex = AExit.ret ∧ fr' 4 = (vB q) ∧ True))) fr m := by
 intro n
 induction n with
 | zero => intro N z0 z e m k fr x44 x45 x46 v44 hz st h44 o44 h45 h46 r hr; cases (show (none : Option _) = some r from hr)
 | succ n ih =>
  intro N z0 z e m k fr x44 x45 x46 v44 hz st h44 o44 h45 h46 r hr
  unfold l06_ConsistReturns_1 at hr
  refine W.loop1 ?_
  refine W.seq (W.region ?_)
  refine sx rfl (pLss (k := .i64) (a := x46) (b := x45) rfl h46 h45) ?_
  refine SeqW.done fun fr97 hf98 => ?_
  have h44 := (congrFun hf98 44).trans h44
  have h45 := (congrFun hf98 45).trans h45
  have h46 := (congrFun hf98 46).trans h46
  have h47 : fr97 47 = (vB (decide (x46 < x45))) := (congrFun hf98 47).trans rfl
  clear hf98
  refine thenQ.n (W.seq ?_)
  rcases if_some hr with ⟨hc99, hr⟩ | ⟨hc175, hr⟩
  ·refine W.condT h47 hc99 (W.skip ?_)
   refine thenQ.n (W.seq ?_)
   obtain ⟨y163, hy163, hr⟩ := bind_some hr
   refine W.keep (u_l06_ConsistReturns_2 (Zx.refl _) st h44 o44 h46 hy163) ?_
   rintro ex169 fr164 m165 hk167 ⟨z166, hz168, st, ⟨y170, rfl, rfl, O171, -⟩ | ⟨y174, rfl, rfl, h4, -⟩⟩
   ·dsimp only at hr
    have h44 := (hk167 44 rfl).trans h44
    have h45 := (hk167 45 rfl).trans h45
    have h46 := (hk167 46 rfl).trans h46
    replace hz := hz.trans hz168
    clear hk167
    refine thenQ.n (W.region ?_)
    refine sx rfl (pAdd (k := .i64) (a := x46) (b := 1) rfl h46 rfl) ?_
    refine sx rfl (pMove (v := (vI (IntKind.wrap .i64 (x46 + 1)))) rfl rfl) ?_
    refine SeqW.done fun fr172 hf173 => ?_
    have h44 := (congrFun hf173 44).trans h44
    have h45 := (congrFun hf173 45).trans h45
    have h46 : fr172 46 = (vI (IntKind.wrap .i64 (x46 + 1))) := (congrFun hf173 46).trans rfl
    clear hf173
    refine thenQ.n ?_
    exact ih hz st h44 O171 h45 h46 hr
   ·dsimp only at hr
    replace hz := hz.trans hz168
    clear hk167
    refine thenQ.r ?_
    refine thenQ.r ?_
    obtain rfl := Option.some.inj hr
    exact ⟨z166, hz, st, .inr ⟨_, rfl, rfl, h4, trivial⟩⟩
  ·refine W.condF h47 hc175 ?_
   refine W.exit ?_
   refine thenQ.x ?_
   refine thenQ.x ?_
   obtain rfl := Option.some.inj hr
   exact ⟨z, hz, st, .inl ⟨_, rfl, rfl, trivial⟩⟩

theorem u_l06_ConsistReturns {N : Nat}  {z0 z : Nat → Blk} {e m : Mem} {k : Option Nat} {fr : Nat → Value} {x0 : List Int} {x1 : List UInt8} {v0 : Value} {v1 : Value} (hz : Zx e.next z0 z) (st : St z e m k) (h0 : fr 0 = v0) (s0 : SlR (TInt 3 .i64) z x0 v0) (h1 : fr 1 = v1) (s1 : SlR (TU8 5) z x1 v1) {r : Bool} (hr : l06_ConsistReturns N x0 x1 = some r) : W Try.prog (sub (bodyOf Try.f3) []) (fun ex fr' m' => ∃ z', Zx e.next z0 z' ∧ St z' e m' k ∧ (ex = .normal ∨ ex = .ret) ∧ fr' 4 = (vB r) ∧ True) fr m := by
 unfold l06_ConsistReturns at hr
 refine W.seq (W.region ?_)
 refine sx rfl (pAssign (v := (vB false)) rfl rfl) ?_
 refine SeqW.done fun fr1 hf2 => ?_
 have h0 := (congrFun hf2 0).trans h0
 have h1 := (congrFun hf2 1).trans h1
 clear hf2
 refine thenQ.n (W.seq (W.region ?_))
 refine sx rfl (pMove (v := v0) rfl h0) ?_
 obtain ⟨y3, hy3, hr⟩ := bind_some hr
 refine SeqW.consX rfl (StepX.call (gCallee rfl rfl (args1 rfl)) ((c_gen_New (z := z) st.fz st.dead s0 hy3).mono ?_))
 rintro _ m8 ⟨z4, B9, V12, hzx5, fz6, sm7, rfl, Q13, X10, hn15, -⟩
 replace s0 := s0.mono hzx5.le
 replace s1 := s1.mono hzx5.le
 have X10 : Bx z4 e m8 k B9 _ _ := ⟨X10.blk, X10.lt, X10.dead, .inl (Nat.le_trans st.next hn15)⟩
 replace hz := hz.trans (Zx.here st hzx5)
 replace st := st.call hzx5 fz6 sm7 no_hq
 obtain ⟨y16, hy16, hr⟩ := bind_some hr
 refine SeqW.consX rfl (StepX.call (gCallee rfl rfl (args2 rfl rfl)) ((c_Maker_Wagons (x0 := y3) (z := z4) st.fz st.dead Q13 ⟨X10.blk, X10.lt, X10.dead, .inr rfl⟩ hy16).mono ?_))
 rintro V22 m21 ⟨z17, _, V25, hzx18, fz19, sm20, rfl, Q23, Q26, X28, -⟩
 have A29 := Ap.own X10.lt' Q23.fresh
 replace s1 := s1.mono hzx18.le
 replace Q13 := Q13.mono hzx18.le
 have X10n : Bx z17 e m21 k B9 _ _ := ⟨X28.blk, X28.lt, X28.dead, X10.fresh⟩
 have Q23 : OwF TWagon z17 e m21 k y16.1 V22 := Q23.up st.next
 replace hz := hz.trans (Zx.here st hzx18)
 replace st := st.call hzx18 fz19 sm20 X10.hq
 refine sx rfl (pAssign (v := V22) rfl rfl) ?_
 refine SeqW.done fun fr30 hf31 => ?_
 have h1 := (congrFun hf31 1).trans h1
 have h5 : fr30 5 = V22 := (congrFun hf31 5).trans rfl
 clear hf31
 refine thenQ.n (W.seq (W.region ?_))
 refine sx rfl (pMove (v := V22) rfl h5) ?_
 obtain ⟨z32, hz33, st, Q34, hl35⟩ := Q23.freeze st
 replace s1 := s1.mono hz33.le
 replace hz := hz.trans hz33
 obtain ⟨y36, hy36, hr⟩ := bind_some hr
 refine SeqW.consX rfl (StepX.call (gCallee rfl rfl (args1 rfl)) ((c_consist_Encode (z := z32) st.fz st.dead Q34 hy36).mono ?_))
 rintro _ m41 ⟨z37, V42, hzx38, fz39, sm40, rfl, Q43, -⟩
 replace s1 := s1.mono hzx38.le
 replace Q34 := Q34.mono hzx38.le
 replace hz := hz.trans (Zx.here st hzx38)
 replace st := st.call hzx38 fz39 sm40 no_hq
 refine sx rfl (pMove (v := (Value.tuple [V42, (vI y36.2)].toArray)) rfl rfl) ?_
 refine sx rfl (pExtract (vs := [V42, (vI y36.2)]) (v := V42) rfl rfl rfl) ?_
 refine sx rfl (pExtract (vs := [V42, (vI y36.2)]) (v := (vI y36.2)) rfl rfl rfl) ?_
 refine sx rfl (pAssign (v := V42) rfl rfl) ?_
 refine sx rfl (pAssign (v := (vI y36.2)) rfl rfl) ?_
 refine SeqW.done fun fr45 hf46 => ?_
 have h1 := (congrFun hf46 1).trans h1
 have h5 := (congrFun hf46 5).trans h5
 have h6 : fr45 6 = V42 := (congrFun hf46 6).trans rfl
 have h7 : fr45 7 = (vI y36.2) := (congrFun hf46 7).trans rfl
 clear hf46
 refine thenQ.n (W.seq (W.region ?_))
 refine sx rfl (pMove (v := V42) rfl h6) ?_
 obtain ⟨y47, hy47, hr⟩ := bind_some hr
 refine SeqW.consX rfl (StepX.call (gCallee rfl rfl (args1 rfl)) ((c_consist_Decode (z := z37) st.fz st.dead Q43 hy47).mono ?_))
 rintro _ m52 ⟨z48, V53, hzx49, fz50, sm51, rfl, Q54, -⟩
 replace s1 := s1.mono hzx49.le
 replace Q34 := Q34.mono hzx49.le
 replace Q43 := Q43.mono hzx49.le
 replace hz := hz.trans (Zx.here st hzx49)
 replace st := st.call hzx49 fz50 sm51 no_hq
 refine sx rfl (pMove (v := (Value.tuple [V53, (vI y47.2)].toArray)) rfl rfl) ?_
 refine sx rfl (pExtract (vs := [V53, (vI y47.2)]) (v := V53) rfl rfl rfl) ?_
 refine sx rfl (pExtract (vs := [V53, (vI y47.2)]) (v := (vI y47.2)) rfl rfl rfl) ?_
 refine sx rfl (pAssign (v := V53) rfl rfl) ?_
 refine sx rfl (pAssign (v := (vI y47.2)) rfl rfl) ?_
 refine SeqW.done fun fr56 hf57 => ?_
 have h1 := (congrFun hf57 1).trans h1
 have h5 := (congrFun hf57 5).trans h5
 have h7 := (congrFun hf57 7).trans h7
 have h8 : fr56 8 = V53 := (congrFun hf57 8).trans rfl
 have h9 : fr56 9 = (vI y47.2) := (congrFun hf57 9).trans rfl
 clear hf57
 refine thenQ.n (W.seq (W.seq ?_))
 obtain ⟨y69, hy69, hr⟩ := bind_some hr
 refine W.keep (u_l06_ConsistReturns_0 (Zx.refl _) st h5 Q34 h7 h8 Q54 h9 hy69) ?_
 rintro ex75 fr70 m71 hk73 ⟨z72, hz74, st, rfl, h40, -⟩
 replace s1 := s1.mono hz74.le
 have h1 := (hk73 1 rfl).trans h1
 replace hz := hz.trans hz74
 clear hk73
 refine thenQ.n ?_
 rcases if_some hr with ⟨hc76, hr⟩ | ⟨hc79, hr⟩
 ·refine W.condT h40 hc76 (W.seq (W.region ?_))
  refine sx rfl (pAssign (v := (vB false)) rfl rfl) ?_
  refine SeqW.done fun fr77 hf78 => ?_
  have h4 : fr77 4 = (vB false) := (congrFun hf78 4).trans rfl
  clear hf78
  refine thenQ.n ?_
  refine W.ret ?_
  refine thenQ.r ?_
  obtain rfl := Option.some.inj hr
  exact ⟨z72, hz, st, .inr rfl, h4, trivial⟩
 ·refine W.condF h40 hc79 (W.skip ?_)
  refine thenQ.n (W.seq ?_)
  refine W.seq (W.region ?_)
  refine sx rfl (pMove (v := v1) rfl h1) ?_
  refine sx rfl (pMove (v := v1) rfl h1) ?_
  obtain ⟨y80, hy80, hr⟩ := bind_some hr
  refine SeqW.consX rfl (StepX.call (gCallee rfl rfl (args1 rfl)) ((c_l06_fixed (z := z72) st.fz st.dead s1 hy80).mono ?_))
  rintro V86 m85 ⟨z81, _, hzx82, fz83, sm84, rfl, Q87, -⟩
  replace s1 := s1.mono hzx82.le
  replace hz := hz.trans (Zx.here st hzx82)
  replace st := st.call hzx82 fz83 sm84 no_hq
  refine SeqW.consX rfl (kBuild (T := (TSl 23 (TU8 5))) rfl Try.underlying35 Try.type23 rfl rfl rfl rfl ([x1, y80] : List (List UInt8)) [[v1], [V86]] rfl rfl rfl (BuildOk.mk (w := v1) rfl s1.stor.1 s1.stor.2 ⟨_, rfl, s1⟩ (BuildOk.mk (w := V86) rfl Q87.stor.1 Q87.stor.2 ⟨_, rfl, Q87⟩ trivial)) st ?_)
  intro V89 m90 st O91 sm92 hap93
  refine sx rfl (pLenO (xs := ([x1, y80] : List (List UInt8))) rfl Try.underlying35 rfl O91.ow) ?_
  refine sx rfl (pMove (v := (vI 0)) rfl rfl) ?_
  refine SeqW.done fun fr95 hf96 => ?_
  have h44 : fr95 44 = V89 := (congrFun hf96 44).trans rfl
  have h45 : fr95 45 = (vI (([x1, y80] : List (List UInt8)).length : Int)) := (congrFun hf96 45).trans rfl
  have h46 : fr95 46 = (vI 0) := (congrFun hf96 46).trans rfl
  clear hf96
  refine thenQ.n ?_
  refine W.block ?_
  obtain ⟨y176, hy176, hr⟩ := bind_some hr
  refine W.keep (u_l06_ConsistReturns_1 _ (Zx.refl _) st h44 O91 h45 h46 hy176) ?_
  rintro ex182 fr177 m178 hk180 ⟨z179, hz181, st, ⟨y183, rfl, rfl, -⟩ | ⟨y187, rfl, rfl, h4, -⟩⟩
  ·dsimp only at hr
   replace hz := hz.trans hz181
   clear hk180
   refine blockQ.hit ?_
   refine thenQ.n (W.seq (W.region ?_))
   obtain ⟨y184, hy184, hr⟩ := bind_some hr
   refine SeqW.consX rfl (StepX.call (gCallee rfl rfl args0) ((c_l06_sane (z := z179) st.fz st.dead  hy184).mono ?_))
   rintro _ _ ⟨rfl, rfl⟩
   refine sx rfl (pAssign (v := (vB y184)) rfl rfl) ?_
   refine SeqW.done fun fr185 hf186 => ?_
   have h4 : fr185 4 = (vB y184) := (congrFun hf186 4).trans rfl
   clear hf186
   refine thenQ.n ?_
   refine W.ret ?_
   obtain rfl := Option.some.inj hr
   exact ⟨z179, hz, st, .inr rfl, h4, trivial⟩
  ·dsimp only at hr
   replace hz := hz.trans hz181
   clear hk180
   refine blockQ.r ?_
   refine thenQ.r ?_
   obtain rfl := Option.some.inj hr
   exact ⟨z179, hz, st, .inr rfl, h4, trivial⟩

theorem c_l06_ConsistReturns {N : Nat} {z : Nat → Blk} {m : Mem} {x0 : List Int} {x1 : List UInt8} {v0 : Value} {v1 : Value} (fz : Fz z m) (hd : ∀ b, m.next ≤ b → m.blk b = .dead) (s0 : SlR (TInt 3 .i64) z x0 v0) (s1 : SlR (TU8 5) z x1 v1) {r : Bool} (hr : l06_ConsistReturns N x0 x1 = some r) : CallW Try.prog 3 #[v0, v1] m fun v m' => v = (vB r) ∧ m' = m := by
 refine CallW.flat Try.func3 rfl (by kernel_rfl) (Nat.le_of_ble_eq_true rfl) rfl (z := z) (fun fr hf => ?_)
 have h0 : fr 0 = _ := hf 0 _ rfl
 have h1 : fr 1 = _ := hf 1 _ rfl
 refine (u_l06_ConsistReturns (k := none) (Zx.refl _) (St.start fz hd) h0 s0 h1 s1 hr).mono ?_
 rintro ex fr' m' ⟨z', hz, st, he, h4, -⟩
 exact ⟨he, z', st, [(vB r)], ⟨h4.symm, trivial⟩, .inl rfl, rfl⟩

end Go.W
