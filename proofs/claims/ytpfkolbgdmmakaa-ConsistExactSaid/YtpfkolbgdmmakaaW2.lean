/- The models are what the program computes. -/
import Derived.Test.YtpfkolbgdmmakaaW1
set_option linter.unusedVariables false
set_option linter.unusedSimpArgs false
set_option maxRecDepth 100000
set_option maxHeartbeats 4000000
namespace Go.W
open Go.AM Go.Proofs


/-! ### (*humpyard/consist.reader).two -/

theorem u_reader_two {N : Nat}  {z0 z : Nat → Blk} {e m : Mem} {k : Option Nat} {fr : Nat → Value} {x0 : Reader} {v0_0 : Value} {b0 : Nat} (hz : Zx e.next z0 z) (st : St z e m k) (h0 : fr 0 = (vP b0)) (s0_0 : SlR (TU8 5) z x0.b v0_0) (bx0 : Bx z e m k b0 [v0_0, (vI x0.at_)] 61) {r : Int × Reader} (hr : reader_two N x0 = some r) : W Try.prog (sub (bodyOf Try.f30) []) (fun ex fr' m' => ∃ z', Zx e.next z0 z' ∧ St z' e m' k ∧ (ex = .normal ∨ ex = .ret) ∧ ∃ (wr_0 : Value), fr' 2 = (vI r.1) ∧ SlR (TU8 5) z' r.2.b wr_0 ∧ Bx z' e m' k b0 [wr_0, (vI r.2.at_)] 61 ∧ True) fr m := by
 unfold reader_two at hr
 refine W.seq (W.region ?_)
 refine sx rfl (pAssign (v := (vI 0)) rfl rfl) ?_
 refine SeqW.done fun fr1 hf2 => ?_
 have h0 := (congrFun hf2 0).trans h0
 clear hf2
 refine thenQ.n (W.seq (W.region ?_))
 refine sx rfl (pMove (v := (vP b0)) rfl h0) ?_
 obtain ⟨y3, hy3, hr⟩ := bind_some hr
 refine SeqW.consX rfl (StepX.call (gCallee rfl rfl (args1 rfl)) ((c_reader_one (x0 := x0) (z := z) st.fz st.dead s0_0 ⟨bx0.blk, bx0.lt, bx0.dead, .inr rfl⟩ hy3).mono ?_))
 rintro _ m8 ⟨z4, V9, hzx5, fz6, sm7, rfl, Q10, X12, -⟩
 replace s0_0 := s0_0.mono hzx5.le
 have bx0n : Bx z4 e m8 k b0 _ _ := ⟨X12.blk, X12.lt, X12.dead, bx0.fresh⟩
 replace hz := hz.trans (Zx.here st hzx5)
 replace st := st.call hzx5 fz6 sm7 bx0.hq
 refine sx rfl (pAssign (v := (vI y3.1)) rfl rfl) ?_
 refine SeqW.done fun fr13 hf14 => ?_
 have h0 := (congrFun hf14 0).trans h0
 have h3 : fr13 3 = (vI y3.1) := (congrFun hf14 3).trans rfl
 clear hf14
 refine thenQ.n (W.seq (W.region ?_))
 refine sx rfl (pMove (v := (vI y3.1)) rfl h3) ?_
 refine sx rfl (pShlL (k := .i64) (a := y3.1) (n := 8) (p := 256) rfl rfl rfl rfl rfl) ?_
 refine sx rfl (pMove (v := (vP b0)) rfl h0) ?_
 obtain ⟨y15, hy15, hr⟩ := bind_some hr
 refine SeqW.consX rfl (StepX.call (gCallee rfl rfl (args1 rfl)) ((c_reader_one (x0 := y3.2) (z := z4) st.fz st.dead Q10 ⟨bx0n.blk, bx0n.lt, bx0n.dead, .inr rfl⟩ hy15).mono ?_))
 rintro _ m20 ⟨z16, V21, hzx17, fz18, sm19, rfl, Q22, X24, -⟩
 replace Q10 := Q10.mono hzx17.le
 have bx0nn : Bx z16 e m20 k b0 _ _ := ⟨X24.blk, X24.lt, X24.dead, bx0n.fresh⟩
 replace hz := hz.trans (Zx.here st hzx17)
 replace st := st.call hzx17 fz18 sm19 bx0n.hq
 refine sx rfl (pOr (k := .i64) (a := (IntKind.wrap .i64 (y3.1 * 256))) (b := y15.1) rfl rfl rfl) ?_
 obtain ⟨y25, hy25, hr⟩ := lt_some hr
 refine sx rfl (pAssign rfl (congrArg (Value.int .i64) hy25)) ?_
 refine SeqW.done fun fr26 hf27 => ?_
 have h0 := (congrFun hf27 0).trans h0
 have h2 : fr26 2 = (vI y25) := (congrFun hf27 2).trans rfl
 clear hf27
 refine thenQ.n ?_
 refine W.ret ?_
 obtain rfl := Option.some.inj hr
 exact ⟨z16, hz, st, .inr rfl, V21, h2, Q22, bx0nn, trivial⟩

theorem c_reader_two {N : Nat} {z : Nat → Blk} {m : Mem} {x0 : Reader} {v0_0 : Value} {b0 : Nat} (fz : Fz z m) (hd : ∀ b, m.next ≤ b → m.blk b = .dead) (s0_0 : SlR (TU8 5) z x0.b v0_0) (bx0 : Bx z m m (some b0) b0 [v0_0, (vI x0.at_)] 61) {r : Int × Reader} (hr : reader_two N x0 = some r) : CallW Try.prog 30 #[(vP b0)] m fun v m' => ∃ z' wr_0, Zx m.next z z' ∧ Fz z' m' ∧ Same m m' (some b0) ∧ v = (vI r.1) ∧ SlR (TU8 5) z' r.2.b wr_0 ∧ Bx z' m m' (some b0) b0 [wr_0, (vI r.2.at_)] 61 ∧ True := by
 refine CallW.any Try.func30 rfl (by kernel_rfl) (Nat.le_of_ble_eq_true rfl) (fun fr hf => ?_)
 have h0 : fr 0 = _ := hf 0 _ rfl
 refine (u_reader_two (k := (some b0)) (Zx.refl _) (St.start fz hd) h0 s0_0 bx0 hr).mono ?_
 rintro ex fr' m' ⟨z', hz, st, he, wr_0, h2, sr_0, bxr, -⟩
 exact ⟨he, [(vI r.1)], ⟨h2.symm, trivial⟩, .inl rfl, z', wr_0, hz, st.fz, st.toSame, rfl, sr_0, bxr, trivial⟩

/-! ### (*humpyard/consist.reader).wagon -/

theorem u_reader_wagon_1 {N : Nat}  {z0 z : Nat → Blk} {e m : Mem} {k : Option Nat} {fr : Nat → Value} {x6 : Bool} {x8 : Int} {x0 : Reader} {v0_0 : Value} {b0 : Nat} {x2 : Wagon} {b2 : Nat} {x4 : Wagon} {b4 : Nat} {x5 : List UInt8} {v5 : Value} (hz : Zx e.next z0 z) (st : St z e m k) (h0 : fr 0 = (vP b0)) (s0_0 : SlR (TU8 5) z x0.b v0_0) (bx0 : Bx z e m k b0 [v0_0, (vI x0.at_)] 61) (h2 : fr 2 = (vP b2)) (bx2 : Bx z e m k b2 [(str x2.number), (vI x2.length), (vI x2.axles), (vI x2.mass), (vI x2.brake), (vI x2.goods), (vB x2.gentle), (str x2.dest)] 42) (h4 : fr 4 = (vP b4)) (bx4 : Bx z e m k b4 [(str x4.number), (vI x4.length), (vI x4.axles), (vI x4.mass), (vI x4.brake), (vI x4.goods), (vB x4.gentle), (str x4.dest)] 42) (h5 : fr 5 = v5) (o5 : OwF (TU8 5) z e m k x5 v5) (h6 : fr 6 = (vB x6)) (h8 : fr 8 = (vI x8)) (ao0_o2 : Ap (some b0) (some b2)) (ao0_o4 : Ap (some b0) (some b4)) (ao2_o4 : Ap (some b2) (some b4)) (ao0_o5 : Ap (some b0) (blkOf v5)) (ao2_o5 : Ap (some b2) (blkOf v5)) (ao4_o5 : Ap (some b4) (blkOf v5)) {r : Bool} (hr : reader_wagon_1 N x6 x8 = some r) : W Try.prog (sub (bodyOf Try.f31) [1, 1, 1, 1, 0, 1, 0, 0, 1, 0, 0, 1, 0]) (fun ex fr' m' => ∃ z', Zx e.next z0 z' ∧ St z' e m' k ∧ ex = AExit.normal ∧ fr' 6 = (vB r) ∧ Bx z' e m' k b0 [v0_0, (vI x0.at_)] 61 ∧ Bx z' e m' k b2 [(str x2.number), (vI x2.length), (vI x2.axles), (vI x2.mass), (vI x2.brake), (vI x2.goods), (vB x2.gentle), (str x2.dest)] 42 ∧ Bx z' e m' k b4 [(str x4.number), (vI x4.length), (vI x4.axles), (vI x4.mass), (vI x4.brake), (vI x4.goods), (vB x4.gentle), (str x4.dest)] 42 ∧ OwF (TU8 5) z' e m' k x5 v5 ∧ Ap (some b0) (some b2) ∧ Ap (some b0) (some b4) ∧ Ap (some b2) (some b4) ∧ Ap (some b0) (blkOf v5) ∧ Ap (some b2) (blkOf v5) ∧ Ap (some b4) (blkOf v5) ∧ True) fr m := by
 unfold reader_wagon_1 at hr
 refine W.region ?_
 refine sx rfl (pMove (v := (vB x6)) rfl h6) ?_
 refine sx rfl (pMove (v := (vB x6)) rfl rfl) ?_
 rcases if_some hr with ⟨hc41, hr⟩ | ⟨hc49, hr⟩
 ·refine SeqW.consG rfl rfl rfl hc41 (StepX.pure (pMove (v := (vI x8)) rfl h8) ?_)
  refine SeqW.consG rfl rfl rfl hc41 (StepX.pure (pShrL (k := .i64) (a := x8) (n := 4) (p := 16) rfl rfl rfl rfl rfl) ?_)
  refine SeqW.consG rfl rfl rfl hc41 (StepX.pure (pLeq (k := .i64) (a := (Int.fdiv x8 16)) (b := 9) rfl rfl rfl) ?_)
  refine sx rfl (pPick (t := true) (v := (vB (decide ((Int.fdiv x8 16) ≤ 9)))) rfl ((congrArg vB hc41)) rfl) ?_
  refine sx rfl (pMove (v := (vB (decide ((Int.fdiv x8 16) ≤ 9)))) rfl rfl) ?_
  rcases if_some hr with ⟨hc42, hr⟩ | ⟨hc46, hr⟩
  ·refine SeqW.consG rfl rfl rfl hc42 (StepX.pure (pMove (v := (vI x8)) rfl h8) ?_)
   refine SeqW.consG rfl rfl rfl hc42 (StepX.pure (pAnd (k := .i64) (a := x8) (b := 15) rfl rfl rfl) ?_)
   refine SeqW.consG rfl rfl rfl hc42 (StepX.pure (pLeq (k := .i64) (a := (bitsV .and .i64 x8 15)) (b := 9) rfl rfl rfl) ?_)
   refine sx rfl (pPick (t := true) (v := (vB (decide ((bitsV .and .i64 x8 15) ≤ 9)))) rfl ((congrArg vB hc42)) rfl) ?_
   obtain ⟨y43, hy43, hr⟩ := lt_some hr
   refine sx rfl (pAssign rfl (congrArg vB hy43)) ?_
   refine SeqW.done fun fr44 hf45 => ?_
   have h0 := (congrFun hf45 0).trans h0
   have h2 := (congrFun hf45 2).trans h2
   have h4 := (congrFun hf45 4).trans h4
   have h5 := (congrFun hf45 5).trans h5
   have h6 : fr44 6 = (vB y43) := (congrFun hf45 6).trans rfl
   have h8 := (congrFun hf45 8).trans h8
   clear hf45
   obtain rfl := Option.some.inj hr
   exact ⟨z, hz, st, rfl, h6, bx0, bx2, bx4, o5, ao0_o2, ao0_o4, ao2_o4, ao0_o5, ao2_o5, ao4_o5, trivial⟩
  ·refine kx rfl rfl rfl hc46 ?_
   iterate 2 refine kx rfl rfl rfl hc46 ?_
   refine sx rfl (pPick (t := false) (v := (vB false)) rfl ((congrArg vB hc46)) rfl) ?_
   refine sx rfl (pAssign (v := (vB false)) rfl rfl) ?_
   refine SeqW.done fun fr47 hf48 => ?_
   have h0 := (congrFun hf48 0).trans h0
   have h2 := (congrFun hf48 2).trans h2
   have h4 := (congrFun hf48 4).trans h4
   have h5 := (congrFun hf48 5).trans h5
   have h6 : fr47 6 = (vB false) := (congrFun hf48 6).trans rfl
   have h8 := (congrFun hf48 8).trans h8
   clear hf48
   obtain rfl := Option.some.inj hr
   exact ⟨z, hz, st, rfl, h6, bx0, bx2, bx4, o5, ao0_o2, ao0_o4, ao2_o4, ao0_o5, ao2_o5, ao4_o5, trivial⟩
 ·refine kx rfl rfl rfl hc49 ?_
  iterate 2 refine kx rfl rfl rfl hc49 ?_
  refine sx rfl (pPick (t := false) (v := (vB false)) rfl ((congrArg vB hc49)) rfl) ?_
  refine sx rfl (pMove (v := (vB false)) rfl rfl) ?_
  iterate 3 refine kx rfl rfl rfl rfl ?_
  refine sx rfl (pPick (t := false) (v := (vB false)) rfl ((congrArg vB (rfl : false = false))) rfl) ?_
  refine sx rfl (pAssign (v := (vB false)) rfl rfl) ?_
  refine SeqW.done fun fr50 hf51 => ?_
  have h0 := (congrFun hf51 0).trans h0
  have h2 := (congrFun hf51 2).trans h2
  have h4 := (congrFun hf51 4).trans h4
  have h5 := (congrFun hf51 5).trans h5
  have h6 : fr50 6 = (vB false) := (congrFun hf51 6).trans rfl
  have h8 := (congrFun hf51 8).trans h8
  clear hf51
  obtain rfl := Option.some.inj hr
  exact ⟨z, hz, st, rfl, h6, bx0, bx2, bx4, o5, ao0_o2, ao0_o4, ao2_o4, ao0_o5, ao2_o5, ao4_o5, trivial⟩

theorem u_reader_wagon_0 : ∀ (n : Nat) {N : Nat}  {z0 z : Nat → Blk} {e m : Mem} {k : Option Nat} {fr : Nat → Value} {x0 : Reader} {x5 : List UInt8} {x6 : Bool} {x7 : Int} {v0_0 : Value} {b0 : Nat} {x2 : Wagon} {b2 : Nat} {x4 : Wagon} {b4 : Nat} {v5 : Value} (hz : Zx e.next z0 z) (st : St z e m k) (h0 : fr 0 = (vP b0)) (s0_0 : SlR (TU8 5) z x0.b v0_0) (bx0 : Bx z e m k b0 [v0_0, (vI x0.at_)] 61) (h2 : fr 2 = (vP b2)) (bx2 : Bx z e m k b2 [(str x2.number), (vI x2.length), (vI x2.axles), (vI x2.mass), (vI x2.brake), (vI x2.goods), (vB x2.gentle), (str x2.dest)] 42) (h4 : fr 4 = (vP b4)) (bx4 : Bx z e m k b4 [(str x4.number), (vI x4.length), (vI x4.axles), (vI x4.mass), (vI x4.brake), (vI x4.goods), (vB x4.gentle), (str x4.dest)] 42) (h5 : fr 5 = v5) (o5 : OwF (TU8 5) z e m k x5 v5) (h6 : fr 6 = (vB x6)) (h7 : fr 7 = (vI x7)) (ao0_o2 : Ap (some b0) (some b2)) (ao0_o4 : Ap (some b0) (some b4)) (ao2_o4 : Ap (some b2) (some b4)) (ao0_o5 : Ap (some b0) (blkOf v5)) (ao2_o5 : Ap (some b2) (blkOf v5)) (ao4_o5 : Ap (some b4) (blkOf v5)) {r : Reader × List UInt8 × Bool} (hr : reader_wagon_0 N n x0 x5 x6 x7 = some r), W Try.prog (sub (bodyOf Try.f31) [1, 1, 1, 1, 0, 1, 0]) (fun ex fr' m' => ∃ z', Zx e.next z0 z' ∧ St z' e m' k ∧ ex = AExit.exit 0 ∧ ∃ (w0_0 : Value) (w5 : Value), fr' 0 = (vP b0) ∧ SlR (TU8 5) z' r.1.b w0_0 ∧ Bx z' e m' k b0 [w0_0, (vI r.1.at_)] 61 ∧ fr' 5 = w5 ∧ OwF (TU8 5) z' e m' k r.2.1 w5 ∧ fr' 6 = (vB r.2.2) ∧ Bx z' e m' k b2 [(str x2.number), (vI x2.length), (vI x2.axles), (vI x2.mass), (vI x2.brake), (vI x2.goods), (vB x2.gentle), (str x2.dest)] 42 ∧ Bx z' e m' k b4 [(str x4.number), (vI x4.length), (vI x4.axles), (vI x4.mass), (vI x4.brake), (vI x4.goods), (vB x4.gentle), (str x4.dest)] 42 ∧ Ap (some b0) (blkOf w5) ∧ Ap (some b0) (some b2) ∧ Ap (blkOf w5) (some b2) ∧ Ap (some b0) (some b4) ∧ Ap (blkOf w5) (some b4) ∧ Ap (some b2) (some b4) ∧ True) fr m := by
 intro n
 induction n with
 | zero => intro N z0 z e m k fr x0 x5 x6 x7 v0_0 b0 x2 b2 x4 b4 v5 hz st h0 s0_0 bx0 h2 bx2 h4 bx4 h5 o5 h6 h7 ao0_o2 ao0_o4 ao2_o4 ao0_o5 ao2_o5 ao4_o5 r hr; cases (show (none : Option _) = some r from hr)
 | succ n ih =>
  intro N z0 z e m k fr x0 x5 x6 x7 v0_0 b0 x2 b2 x4 b4 v5 hz st h0 s0_0 bx0 h2 bx2 h4 bx4 h5 o5 h6 h7 ao0_o2 ao0_o4 ao2_o4 ao0_o5 ao2_o5 ao4_o5 r hr
  unfold reader_wagon_0 at hr
  refine W.loop1 ?_
  refine W.seq (W.seq (W.region ?_))
  refine sx rfl (pMove (v := (vI x7)) rfl h7) ?_
  refine sx rfl (pLss (k := .i64) (a := x7) (b := 12) rfl rfl rfl) ?_
  refine SeqW.done fun fr26 hf27 => ?_
  have h0 := (congrFun hf27 0).trans h0
  have h2 := (congrFun hf27 2).trans h2
  have h4 := (congrFun hf27 4).trans h4
  have h5 := (congrFun hf27 5).trans h5
  have h6 := (congrFun hf27 6).trans h6
  have h7 := (congrFun hf27 7).trans h7
  have h12 : fr26 12 = (vB (decide (x7 < 12))) := (congrFun hf27 12).trans rfl
  clear hf27
  refine thenQ.n ?_
  rcases if_some hr with ⟨hc28, hr⟩ | ⟨hc97, hr⟩
  ·refine W.condT h12 hc28 (W.skip ?_)
   refine thenQ.n (W.seq ?_)
   refine W.block ?_
   refine W.seq (W.region ?_)
   refine sx rfl (pMove (v := (vP b0)) rfl h0) ?_
   obtain ⟨y29, hy29, hr⟩ := bind_some hr
   refine SeqW.consX rfl (StepX.call (gCallee rfl rfl (args1 rfl)) ((c_reader_one (x0 := x0) (z := z) st.fz st.dead s0_0 ⟨bx0.blk, bx0.lt, bx0.dead, .inr rfl⟩ hy29).mono ?_))
   rintro _ m34 ⟨z30, V35, hzx31, fz32, sm33, rfl, Q36, X38, -⟩
   replace s0_0 := s0_0.mono hzx31.le
   replace bx2 := bx2.call hzx31 sm33 (Ap.symm ao0_o2)
   replace bx4 := bx4.call hzx31 sm33 (Ap.symm ao0_o4)
   replace o5 := o5.call hzx31 sm33 (Ap.symm ao0_o5)
   have bx0n : Bx z30 e m34 k b0 _ _ := ⟨X38.blk, X38.lt, X38.dead, bx0.fresh⟩
   replace hz := hz.trans (Zx.here st hzx31)
   replace st := st.call hzx31 fz32 sm33 bx0.hq
   refine sx rfl (pAssign (v := (vI y29.1)) rfl rfl) ?_
   refine SeqW.done fun fr39 hf40 => ?_
   have h0 := (congrFun hf40 0).trans h0
   have h2 := (congrFun hf40 2).trans h2
   have h4 := (congrFun hf40 4).trans h4
   have h5 := (congrFun hf40 5).trans h5
   have h6 := (congrFun hf40 6).trans h6
   have h7 := (congrFun hf40 7).trans h7
   have h8 : fr39 8 = (vI y29.1) := (congrFun hf40 8).trans rfl
   clear hf40
   refine thenQ.n (W.seq ?_)
   obtain ⟨y52, hy52, hr⟩ := bind_some hr
   refine W.keep (u_reader_wagon_1 (x0 := y29.2) (x2 := x2) (x4 := x4) (Zx.refl _) st h0 Q36 bx0n h2 bx2 h4 bx4 h5 o5 h6 h8 ao0_o2 ao0_o4 ao2_o4 ao0_o5 ao2_o5 ao4_o5 hy52) ?_
   rintro ex58 fr53 m54 hk56 ⟨z55, hz57, st, rfl, h6, O59, O60, O61, O62, A63, A64, A65, A66, A67, A68, -⟩
   replace Q36 := Q36.mono hz57.le
   have h0 := (hk56 0 rfl).trans h0
   have h2 := (hk56 2 rfl).trans h2
   have h4 := (hk56 4 rfl).trans h4
   have h5 := (hk56 5 rfl).trans h5
   have h7 := (hk56 7 rfl).trans h7
   have h8 := (hk56 8 rfl).trans h8
   replace hz := hz.trans hz57
   clear hk56
   refine thenQ.n (W.region ?_)
   refine sx rfl (pMove (v := v5) rfl h5) ?_
   refine sx rfl (pMove (v := (vI y29.1)) rfl h8) ?_
   refine sx rfl (pShrL (k := .i64) (a := y29.1) (n := 4) (p := 16) rfl rfl rfl rfl rfl) ?_
   refine sx rfl (pAdd (k := .i64) (a := 48) (b := (Int.fdiv y29.1 16)) rfl rfl rfl) ?_
   refine sx rfl (pConv (k := .i64) (a := (IntKind.wrap .i64 (48 + (Int.fdiv y29.1 16)))) rfl Try.underlying3 Try.underlying5 rfl) ?_
   refine sx rfl (pMove (v := (vI y29.1)) rfl h8) ?_
   refine sx rfl (pAnd (k := .i64) (a := y29.1) (b := 15) rfl rfl rfl) ?_
   refine sx rfl (pAdd (k := .i64) (a := 48) (b := (bitsV .and .i64 y29.1 15)) rfl rfl rfl) ?_
   refine sx rfl (pConv (k := .i64) (a := (IntKind.wrap .i64 (48 + (bitsV .and .i64 y29.1 15)))) rfl Try.underlying3 Try.underlying5 rfl) ?_
   obtain ⟨y69, hy69, hr⟩ := bind_some hr
   obtain ⟨y70, hy70, hr⟩ := bind_some hr
   refine SeqW.consX rfl (kBuild (T := (TU8 5)) rfl Try.underlying23 Try.type5 rfl rfl rfl rfl ([y69, y70] : List UInt8) [[Value.int .u8 (UInt8.toNat y69 : Int)], [Value.int .u8 (UInt8.toNat y70 : Int)]] rfl rfl rfl (BuildOk.mk (w := (Value.int .u8 (UInt8.toNat y69 : Int))) (by rw [← toU8_some hy69]; exact rfl) rfl rfl rfl (BuildOk.mk (w := (Value.int .u8 (UInt8.toNat y70 : Int))) (by rw [← toU8_some hy70]; exact rfl) rfl rfl rfl trivial)) st ?_)
   intro V71 m72 st O73 sm74 hap75
   have A77 := hap75 _ O59.lt'
   have A78 := hap75 _ O60.lt'
   have A79 := hap75 _ O61.lt'
   have A80 := hap75 _ O62.lt
   replace O59 := O59.same sm74 Ap.none'
   replace O60 := O60.same sm74 Ap.none'
   replace O61 := O61.same sm74 Ap.none'
   replace O62 := O62.same sm74 Ap.none'
   obtain ⟨y81, hy81, hr⟩ := bind_some hr
   refine SeqW.consX rfl (kAppend (T := (TU8 5)) (xs := x5) (ys := ([y69, y70] : List UInt8)) rfl Try.underlying23 Try.type5 rfl rfl rfl rfl rfl rfl (.inl ⟨_, Try.underlying23⟩) rfl O62 rfl O73.ow.src st hy81 ?_)
   intro V82 m83 st O84 sm85 hap86
   have A88 := hap86 _ O59.lt' A66
   have A89 := hap86 _ O60.lt' A67
   have A90 := hap86 _ O61.lt' A68
   have A91 := hap86 _ O73.lt (Ap.symm A80)
   replace O59 := O59.same sm85 A66
   replace O60 := O60.same sm85 A67
   replace O61 := O61.same sm85 A68
   replace O73 := O73.same sm85 (Ap.symm A80)
   refine sx rfl (pAssign (v := V82) rfl rfl) ?_
   refine SeqW.done fun fr92 hf93 => ?_
   have h0 := (congrFun hf93 0).trans h0
   have h2 := (congrFun hf93 2).trans h2
   have h4 := (congrFun hf93 4).trans h4
   have h5 : fr92 5 = V82 := (congrFun hf93 5).trans rfl
   have h6 := (congrFun hf93 6).trans h6
   have h7 := (congrFun hf93 7).trans h7
   clear hf93
   refine blockQ.n ?_
   refine thenQ.n (W.region ?_)
   refine sx rfl (pMove (v := (vI x7)) rfl h7) ?_
   refine sx rfl (pAdd (k := .i64) (a := x7) (b := 2) rfl rfl rfl) ?_
   obtain ⟨y94, hy94, hr⟩ := lt_some hr
   refine sx rfl (pAssign rfl (congrArg (Value.int .i64) hy94)) ?_
   refine SeqW.done fun fr95 hf96 => ?_
   have h0 := (congrFun hf96 0).trans h0
   have h2 := (congrFun hf96 2).trans h2
   have h4 := (congrFun hf96 4).trans h4
   have h5 := (congrFun hf96 5).trans h5
   have h6 := (congrFun hf96 6).trans h6
   have h7 : fr95 7 = (vI y94) := (congrFun hf96 7).trans rfl
   clear hf96
   refine thenQ.n ?_
   exact ih (x0 := y29.2) (x2 := x2) (x4 := x4) hz st h0 Q36 O59 h2 O60 h4 O61 h5 O84 h6 h7 A63 A64 A65 A88 A89 A90 hr
  ·refine W.condF h12 hc97 ?_
   refine W.exit ?_
   refine thenQ.x ?_
   refine thenQ.x ?_
   obtain rfl := Option.some.inj hr
   exact ⟨z, hz, st, rfl, v0_0, v5, h0, s0_0, bx0, h5, o5, h6, bx2, bx4, ao0_o5, ao0_o2, (Ap.symm ao2_o5), ao0_o4, (Ap.symm ao4_o5), ao2_o4, trivial⟩

theorem u_reader_wagon_2 {N : Nat}  {z0 z : Nat → Blk} {e m : Mem} {k : Option Nat} {fr : Nat → Value} {x4 : Wagon} {x6 : Bool} {x9 : Int} {x0 : Reader} {v0_0 : Value} {b0 : Nat} {x2 : Wagon} {b2 : Nat} {b4 : Nat} (hz : Zx e.next z0 z) (st : St z e m k) (h0 : fr 0 = (vP b0)) (s0_0 : SlR (TU8 5) z x0.b v0_0) (bx0 : Bx z e m k b0 [v0_0, (vI x0.at_)] 61) (h2 : fr 2 = (vP b2)) (bx2 : Bx z e m k b2 [(str x2.number), (vI x2.length), (vI x2.axles), (vI x2.mass), (vI x2.brake), (vI x2.goods), (vB x2.gentle), (str x2.dest)] 42) (h4 : fr 4 = (vP b4)) (bx4 : Bx z e m k b4 [(str x4.number), (vI x4.length), (vI x4.axles), (vI x4.mass), (vI x4.brake), (vI x4.goods), (vB x4.gentle), (str x4.dest)] 42) (h6 : fr 6 = (vB x6)) (h9 : fr 9 = (vI x9)) (ao0_o2 : Ap (some b0) (some b2)) (ao0_o4 : Ap (some b0) (some b4)) (ao2_o4 : Ap (some b2) (some b4)) {r : Bool} (hr : reader_wagon_2 N x4 x6 x9 = some r) : W Try.prog (sub (bodyOf Try.f31) [1, 1, 1, 1, 1, 1, 1, 1, 1, 1, 1, 1, 0]) (fun ex fr' m' => ∃ z', Zx e.next z0 z' ∧ St z' e m' k ∧ ex = AExit.normal ∧ fr' 6 = (vB r) ∧ Bx z' e m' k b0 [v0_0, (vI x0.at_)] 61 ∧ Bx z' e m' k b2 [(str x2.number), (vI x2.length), (vI x2.axles), (vI x2.mass), (vI x2.brake), (vI x2.goods), (vB x2.gentle), (str x2.dest)] 42 ∧ Bx z' e m' k b4 [(str x4.number), (vI x4.length), (vI x4.axles), (vI x4.mass), (vI x4.brake), (vI x4.goods), (vB x4.gentle), (str x4.dest)] 42 ∧ Ap (some b0) (some b2) ∧ Ap (some b0) (some b4) ∧ Ap (some b2) (some b4) ∧ True) fr m := by
 unfold reader_wagon_2 at hr
 refine W.region ?_
 refine sx rfl (pMove (v := (vB x6)) rfl h6) ?_
 refine sx rfl (pMove (v := (vB x6)) rfl rfl) ?_
 rcases if_some hr with ⟨hc199, hr⟩ | ⟨hc207, hr⟩
 ·refine SeqW.consG rfl rfl rfl hc199 (StepX.pure (pMove (v := (vI x9)) rfl h9) ?_)
  refine SeqW.consG rfl rfl rfl hc199 (StepX.pure (pLeq (k := .i64) (a := x9) (b := 25) rfl rfl rfl) ?_)
  refine sx rfl (pPick (t := true) (v := (vB (decide (x9 ≤ 25)))) rfl ((congrArg vB hc199)) rfl) ?_
  refine sx rfl (pMove (v := (vB (decide (x9 ≤ 25)))) rfl rfl) ?_
  rcases if_some hr with ⟨hc200, hr⟩ | ⟨hc204, hr⟩
  ·refine SeqW.consG rfl rfl rfl hc200 (kField rfl Try.underlying42 rfl Try.type3 rfl h4 rfl ?_)
   refine SeqW.consG rfl rfl rfl hc200 (kLoad rfl Try.underlying3 rfl rfl (bx4.load (v := (vI x4.goods)) rfl) ?_)
   refine SeqW.consG rfl rfl rfl hc200 (StepX.pure (pLeq (k := .i64) (a := x4.goods) (b := 9) rfl rfl rfl) ?_)
   refine sx rfl (pPick (t := true) (v := (vB (decide (x4.goods ≤ 9)))) rfl ((congrArg vB hc200)) rfl) ?_
   obtain ⟨y201, hy201, hr⟩ := lt_some hr
   refine sx rfl (pAssign rfl (congrArg vB hy201)) ?_
   refine SeqW.done fun fr202 hf203 => ?_
   have h0 := (congrFun hf203 0).trans h0
   have h2 := (congrFun hf203 2).trans h2
   have h4 := (congrFun hf203 4).trans h4
   have h6 : fr202 6 = (vB y201) := (congrFun hf203 6).trans rfl
   clear hf203
   obtain rfl := Option.some.inj hr
   exact ⟨z, hz, st, rfl, h6, bx0, bx2, bx4, ao0_o2, ao0_o4, ao2_o4, trivial⟩
  ·refine kx rfl rfl rfl hc204 ?_
   iterate 2 refine kx rfl rfl rfl hc204 ?_
   refine sx rfl (pPick (t := false) (v := (vB false)) rfl ((congrArg vB hc204)) rfl) ?_
   refine sx rfl (pAssign (v := (vB false)) rfl rfl) ?_
   refine SeqW.done fun fr205 hf206 => ?_
   have h0 := (congrFun hf206 0).trans h0
   have h2 := (congrFun hf206 2).trans h2
   have h4 := (congrFun hf206 4).trans h4
   have h6 : fr205 6 = (vB false) := (congrFun hf206 6).trans rfl
   clear hf206
   obtain rfl := Option.some.inj hr
   exact ⟨z, hz, st, rfl, h6, bx0, bx2, bx4, ao0_o2, ao0_o4, ao2_o4, trivial⟩
 ·refine kx rfl rfl rfl hc207 ?_
  refine kx rfl rfl rfl hc207 ?_
  refine sx rfl (pPick (t := false) (v := (vB false)) rfl ((congrArg vB hc207)) rfl) ?_
  refine sx rfl (pMove (v := (vB false)) rfl rfl) ?_
  iterate 3 refine kx rfl rfl rfl rfl ?_
  refine sx rfl (pPick (t := false) (v := (vB false)) rfl ((congrArg vB (rfl : false = false))) rfl) ?_
  refine sx rfl (pAssign (v := (vB false)) rfl rfl) ?_
  refine SeqW.done fun fr208 hf209 => ?_
  have h0 := (congrFun hf209 0).trans h0
  have h2 := (congrFun hf209 2).trans h2
  have h4 := (congrFun hf209 4).trans h4
  have h6 : fr208 6 = (vB false) := (congrFun hf209 6).trans rfl
  clear hf209
  obtain rfl := Option.some.inj hr
  exact ⟨z, hz, st, rfl, h6, bx0, bx2, bx4, ao0_o2, ao0_o4, ao2_o4, trivial⟩

theorem u_reader_wagon {N : Nat}  {z0 z : Nat → Blk} {e m : Mem} {k : Option Nat} {fr : Nat → Value} {x0 : Reader} {v0_0 : Value} {b0 : Nat} (hz : Zx e.next z0 z) (st : St z e m k) (h0 : fr 0 = (vP b0)) (s0_0 : SlR (TU8 5) z x0.b v0_0) (bx0 : Bx z e m k b0 [v0_0, (vI x0.at_)] 61) {r : Wagon × Bool × Reader} (hr : reader_wagon N x0 = some r) : W Try.prog (sub (bodyOf Try.f31) []) (fun ex fr' m' => ∃ z', Zx e.next z0 z' ∧ St z' e m' k ∧ (ex = .normal ∨ ex = .ret) ∧ ∃ (c2 : Nat) (wr_0 : Value), fr' 2 = (vP c2) ∧ Bx z' e m' k c2 [(str r.1.number), (vI r.1.length), (vI r.1.axles), (vI r.1.mass), (vI r.1.brake), (vI r.1.goods), (vB r.1.gentle), (str r.1.dest)] 42 ∧ (e.next ≤ c2 ∨ k = some c2) ∧ fr' 3 = (vB r.2.1) ∧ SlR (TU8 5) z' r.2.2.b wr_0 ∧ Bx z' e m' k b0 [wr_0, (vI r.2.2.at_)] 61 ∧ True) fr m := by
 unfold reader_wagon at hr
 refine W.seq (W.region ?_)
 refine SeqW.consX rfl (kAlloc rfl Try.type42 rfl rfl rfl [(str []), (vI 0), (vI 0), (vI 0), (vI 0), (vI 0), (vB false), (str [])] rfl st ?_)
 intro B1 m2 st X3 sm4 hap5
 have A7 := hap5 _ bx0.lt'
 replace bx0 := bx0.same sm4 Ap.none'
 refine sx rfl (pAssign (v := (vB false)) rfl rfl) ?_
 refine SeqW.done fun fr8 hf9 => ?_
 have h0 := (congrFun hf9 0).trans h0
 have h2 : fr8 2 = (vP B1) := (congrFun hf9 2).trans rfl
 clear hf9
 refine thenQ.n (W.seq (W.region ?_))
 refine SeqW.consX rfl (kAlloc rfl Try.type42 rfl rfl rfl [(str []), (vI 0), (vI 0), (vI 0), (vI 0), (vI 0), (vB false), (str [])] rfl st ?_)
 intro B10 m11 st X12 sm13 hap14
 have A16 := hap14 _ bx0.lt'
 have A17 := hap14 _ X3.lt'
 replace bx0 := bx0.same sm13 Ap.none'
 replace X3 := X3.same sm13 Ap.none'
 refine SeqW.done fun fr18 hf19 => ?_
 have h0 := (congrFun hf19 0).trans h0
 have h2 := (congrFun hf19 2).trans h2
 have h4 : fr18 4 = (vP B10) := (congrFun hf19 4).trans rfl
 clear hf19
 refine thenQ.n (W.seq (W.region ?_))
 refine sx rfl (pAssign (v := (Value.slice none 0 0)) rfl rfl) ?_
 refine SeqW.done fun fr20 hf21 => ?_
 have h0 := (congrFun hf21 0).trans h0
 have h2 := (congrFun hf21 2).trans h2
 have h4 := (congrFun hf21 4).trans h4
 have h5 : fr20 5 = (Value.slice none 0 0) := (congrFun hf21 5).trans rfl
 clear hf21
 refine thenQ.n (W.seq (W.region ?_))
 refine sx rfl (pAssign (v := (vB true)) rfl rfl) ?_
 refine SeqW.done fun fr22 hf23 => ?_
 have h0 := (congrFun hf23 0).trans h0
 have h2 := (congrFun hf23 2).trans h2
 have h4 := (congrFun hf23 4).trans h4
 have h5 := (congrFun hf23 5).trans h5
 have h6 : fr22 6 = (vB true) := (congrFun hf23 6).trans rfl
 clear hf23
 refine thenQ.n (W.seq ?_)
 refine W.seq (W.region ?_)
 refine sx rfl (pAssign (v := (vI 0)) rfl rfl) ?_
 refine SeqW.done fun fr24 hf25 => ?_
 have h0 := (congrFun hf25 0).trans h0
 have h2 := (congrFun hf25 2).trans h2
 have h4 := (congrFun hf25 4).trans h4
 have h5 := (congrFun hf25 5).trans h5
 have h6 := (congrFun hf25 6).trans h6
 have h7 : fr24 7 = (vI 0) := (congrFun hf25 7).trans rfl
 clear hf25
 refine thenQ.n ?_
 refine W.block ?_
 obtain ⟨y98, hy98, hr⟩ := bind_some hr
 refine W.keep (u_reader_wagon_0 (x0 := x0) (x2 := (Wagon.mk [] 0 0 0 0 0 false [])) (x4 := (Wagon.mk [] 0 0 0 0 0 false [])) _ (Zx.refl _) st h0 s0_0 bx0 h2 X3 h4 X12 h5 OwF.nil h6 h7 A7 A16 A17 Ap.none' Ap.none' Ap.none' hy98) ?_
 rintro ex104 fr99 m100 hk102 ⟨z101, hz103, st, rfl, w105, w106, h0, Q108, X110, h5, O112, h6, O113, O114, A115, A116, A117, A118, A119, A120, -⟩
 have h2 := (hk102 2 rfl).trans h2
 have h4 := (hk102 4 rfl).trans h4
 replace hz := hz.trans hz103
 clear hk102
 refine blockQ.hit ?_
 refine thenQ.n (W.seq (W.region ?_))
 refine sx rfl (pMove (v := w106) rfl h5) ?_
 refine SeqW.consX rfl (kStrO (s := y98.2.1) rfl Try.underlying23 Try.underlying5 Try.underlying9 rfl O112 ?_)
 refine SeqW.consX rfl (kField rfl Try.underlying42 rfl Try.type9 rfl h4 rfl ?_)
 refine SeqW.consX rfl (kPut (off := 0) (w := (str y98.2.1)) (new := [(str y98.2.1)]) rfl Try.type9 rfl rfl rfl rfl rfl O114 rfl [(str y98.2.1), (vI 0), (vI 0), (vI 0), (vI 0), (vI 0), (vB false), (str [])] rfl st ?_)
 intro m121 st O114 sm122
 replace O113 := O113.same sm122 A120
 replace X110 := X110.same sm122 A118
 refine SeqW.done fun fr123 hf124 => ?_
 have h0 := (congrFun hf124 0).trans h0
 have h2 := (congrFun hf124 2).trans h2
 have h4 := (congrFun hf124 4).trans h4
 have h6 := (congrFun hf124 6).trans h6
 clear hf124
 refine thenQ.n (W.seq (W.region ?_))
 refine sx rfl (pMove (v := (vP b0)) rfl h0) ?_
 obtain ⟨y125, hy125, hr⟩ := bind_some hr
 refine SeqW.consX rfl (StepX.call (gCallee rfl rfl (args1 rfl)) ((c_reader_two (x0 := y98.1) (z := z101) st.fz st.dead Q108 ⟨X110.blk, X110.lt, X110.dead, .inr rfl⟩ hy125).mono ?_))
 rintro _ m130 ⟨z126, V131, hzx127, fz128, sm129, rfl, Q132, X134, -⟩
 replace O113 := O113.call hzx127 sm129 (Ap.symm A116)
 replace O114 := O114.call hzx127 sm129 (Ap.symm A118)
 replace Q108 := Q108.mono hzx127.le
 have X110n : Bx z126 e m130 k b0 _ _ := ⟨X134.blk, X134.lt, X134.dead, X110.fresh⟩
 replace hz := hz.trans (Zx.here st hzx127)
 replace st := st.call hzx127 fz128 sm129 X110.hq
 refine SeqW.consX rfl (kField rfl Try.underlying42 rfl Try.type3 rfl h4 rfl ?_)
 refine SeqW.consX rfl (kPut (off := 1) (w := (vI y125.1)) (new := [(vI y125.1)]) rfl Try.type3 rfl rfl rfl rfl rfl O114 rfl [(str y98.2.1), (vI y125.1), (vI 0), (vI 0), (vI 0), (vI 0), (vB false), (str [])] rfl st ?_)
 intro m135 st O114 sm136
 replace O113 := O113.same sm136 A120
 replace X110n := X110n.same sm136 A118
 refine SeqW.done fun fr137 hf138 => ?_
 have h0 := (congrFun hf138 0).trans h0
 have h2 := (congrFun hf138 2).trans h2
 have h4 := (congrFun hf138 4).trans h4
 have h6 := (congrFun hf138 6).trans h6
 clear hf138
 refine thenQ.n (W.seq (W.region ?_))
 refine sx rfl (pMove (v := (vP b0)) rfl h0) ?_
 obtain ⟨y139, hy139, hr⟩ := bind_some hr
 refine SeqW.consX rfl (StepX.call (gCallee rfl rfl (args1 rfl)) ((c_reader_one (x0 := y125.2) (z := z126) st.fz st.dead Q132 ⟨X110n.blk, X110n.lt, X110n.dead, .inr rfl⟩ hy139).mono ?_))
 rintro _ m144 ⟨z140, V145, hzx141, fz142, sm143, rfl, Q146, X148, -⟩
 replace O113 := O113.call hzx141 sm143 (Ap.symm A116)
 replace O114 := O114.call hzx141 sm143 (Ap.symm A118)
 replace Q132 := Q132.mono hzx141.le
 have X110nn : Bx z140 e m144 k b0 _ _ := ⟨X148.blk, X148.lt, X148.dead, X110n.fresh⟩
 replace hz := hz.trans (Zx.here st hzx141)
 replace st := st.call hzx141 fz142 sm143 X110n.hq
 refine SeqW.consX rfl (kField rfl Try.underlying42 rfl Try.type3 rfl h4 rfl ?_)
 refine SeqW.consX rfl (kPut (off := 2) (w := (vI y139.1)) (new := [(vI y139.1)]) rfl Try.type3 rfl rfl rfl rfl rfl O114 rfl [(str y98.2.1), (vI y125.1), (vI y139.1), (vI 0), (vI 0), (vI 0), (vB false), (str [])] rfl st ?_)
 intro m149 st O114 sm150
 replace O113 := O113.same sm150 A120
 replace X110nn := X110nn.same sm150 A118
 refine SeqW.done fun fr151 hf152 => ?_
 have h0 := (congrFun hf152 0).trans h0
 have h2 := (congrFun hf152 2).trans h2
 have h4 := (congrFun hf152 4).trans h4
 have h6 := (congrFun hf152 6).trans h6
 clear hf152
 refine thenQ.n (W.seq (W.region ?_))
 refine sx rfl (pMove (v := (vP b0)) rfl h0) ?_
 obtain ⟨y153, hy153, hr⟩ := bind_some hr
 refine SeqW.consX rfl (StepX.call (gCallee rfl rfl (args1 rfl)) ((c_reader_two (x0 := y139.2) (z := z140) st.fz st.dead Q146 ⟨X110nn.blk, X110nn.lt, X110nn.dead, .inr rfl⟩ hy153).mono ?_))
 rintro _ m158 ⟨z154, V159, hzx155, fz156, sm157, rfl, Q160, X162, -⟩
 replace O113 := O113.call hzx155 sm157 (Ap.symm A116)
 replace O114 := O114.call hzx155 sm157 (Ap.symm A118)
 replace Q146 := Q146.mono hzx155.le
 have X110nnn : Bx z154 e m158 k b0 _ _ := ⟨X162.blk, X162.lt, X162.dead, X110nn.fresh⟩
 replace hz := hz.trans (Zx.here st hzx155)
 replace st := st.call hzx155 fz156 sm157 X110nn.hq
 refine SeqW.consX rfl (kField rfl Try.underlying42 rfl Try.type3 rfl h4 rfl ?_)
 refine SeqW.consX rfl (kPut (off := 3) (w := (vI y153.1)) (new := [(vI y153.1)]) rfl Try.type3 rfl rfl rfl rfl rfl O114 rfl [(str y98.2.1), (vI y125.1), (vI y139.1), (vI y153.1), (vI 0), (vI 0), (vB false), (str [])] rfl st ?_)
 intro m163 st O114 sm164
 replace O113 := O113.same sm164 A120
 replace X110nnn := X110nnn.same sm164 A118
 refine SeqW.done fun fr165 hf166 => ?_
 have h0 := (congrFun hf166 0).trans h0
 have h2 := (congrFun hf166 2).trans h2
 have h4 := (congrFun hf166 4).trans h4
 have h6 := (congrFun hf166 6).trans h6
 clear hf166
 refine thenQ.n (W.seq (W.region ?_))
 refine sx rfl (pMove (v := (vP b0)) rfl h0) ?_
 obtain ⟨y167, hy167, hr⟩ := bind_some hr
 refine SeqW.consX rfl (StepX.call (gCallee rfl rfl (args1 rfl)) ((c_reader_two (x0 := y153.2) (z := z154) st.fz st.dead Q160 ⟨X110nnn.blk, X110nnn.lt, X110nnn.dead, .inr rfl⟩ hy167).mono ?_))
 rintro _ m172 ⟨z168, V173, hzx169, fz170, sm171, rfl, Q174, X176, -⟩
 replace O113 := O113.call hzx169 sm171 (Ap.symm A116)
 replace O114 := O114.call hzx169 sm171 (Ap.symm A118)
 replace Q160 := Q160.mono hzx169.le
 have X110nnnn : Bx z168 e m172 k b0 _ _ := ⟨X176.blk, X176.lt, X176.dead, X110nnn.fresh⟩
 replace hz := hz.trans (Zx.here st hzx169)
 replace st := st.call hzx169 fz170 sm171 X110nnn.hq
 refine SeqW.consX rfl (kField rfl Try.underlying42 rfl Try.type3 rfl h4 rfl ?_)
 refine SeqW.consX rfl (kPut (off := 4) (w := (vI y167.1)) (new := [(vI y167.1)]) rfl Try.type3 rfl rfl rfl rfl rfl O114 rfl [(str y98.2.1), (vI y125.1), (vI y139.1), (vI y153.1), (vI y167.1), (vI 0), (vB false), (str [])] rfl st ?_)
 intro m177 st O114 sm178
 replace O113 := O113.same sm178 A120
 replace X110nnnn := X110nnnn.same sm178 A118
 refine SeqW.done fun fr179 hf180 => ?_
 have h0 := (congrFun hf180 0).trans h0
 have h2 := (congrFun hf180 2).trans h2
 have h4 := (congrFun hf180 4).trans h4
 have h6 := (congrFun hf180 6).trans h6
 clear hf180
 refine thenQ.n (W.seq (W.region ?_))
 refine sx rfl (pMove (v := (vP b0)) rfl h0) ?_
 obtain ⟨y181, hy181, hr⟩ := bind_some hr
 refine SeqW.consX rfl (StepX.call (gCallee rfl rfl (args1 rfl)) ((c_reader_one (x0 := y167.2) (z := z168) st.fz st.dead Q174 ⟨X110nnnn.blk, X110nnnn.lt, X110nnnn.dead, .inr rfl⟩ hy181).mono ?_))
 rintro _ m186 ⟨z182, V187, hzx183, fz184, sm185, rfl, Q188, X190, -⟩
 replace O113 := O113.call hzx183 sm185 (Ap.symm A116)
 replace O114 := O114.call hzx183 sm185 (Ap.symm A118)
 replace Q174 := Q174.mono hzx183.le
 have X110nnnnn : Bx z182 e m186 k b0 _ _ := ⟨X190.blk, X190.lt, X190.dead, X110nnnn.fresh⟩
 replace hz := hz.trans (Zx.here st hzx183)
 replace st := st.call hzx183 fz184 sm185 X110nnnn.hq
 refine sx rfl (pAssign (v := (vI y181.1)) rfl rfl) ?_
 refine SeqW.done fun fr191 hf192 => ?_
 have h0 := (congrFun hf192 0).trans h0
 have h2 := (congrFun hf192 2).trans h2
 have h4 := (congrFun hf192 4).trans h4
 have h6 := (congrFun hf192 6).trans h6
 have h9 : fr191 9 = (vI y181.1) := (congrFun hf192 9).trans rfl
 clear hf192
 refine thenQ.n (W.seq (W.region ?_))
 refine sx rfl (pMove (v := (vI y181.1)) rfl h9) ?_
 refine sx rfl (pRem (k := .i64) (a := y181.1) (b := 16) rfl rfl rfl (by decide)) ?_
 refine sx rfl (pMove (v := (vI y181.1)) rfl h9) ?_
 refine sx rfl (pGeq (k := .i64) (a := y181.1) (b := 16) rfl rfl rfl) ?_
 refine SeqW.consX rfl (kField rfl Try.underlying42 rfl Try.type3 rfl h4 rfl ?_)
 refine SeqW.consX rfl (kPut (off := 5) (w := (vI (Int.tmod y181.1 16))) (new := [(vI (Int.tmod y181.1 16))]) rfl Try.type3 rfl rfl rfl rfl rfl O114 rfl [(str y98.2.1), (vI y125.1), (vI y139.1), (vI y153.1), (vI y167.1), (vI (Int.tmod y181.1 16)), (vB false), (str [])] rfl st ?_)
 intro m193 st O114 sm194
 replace O113 := O113.same sm194 A120
 replace X110nnnnn := X110nnnnn.same sm194 A118
 refine SeqW.consX rfl (kField rfl Try.underlying42 rfl Try.type4 rfl h4 rfl ?_)
 refine SeqW.consX rfl (kPut (off := 6) (w := (vB (decide (16 ≤ y181.1)))) (new := [(vB (decide (16 ≤ y181.1)))]) rfl Try.type4 rfl rfl rfl rfl rfl O114 rfl [(str y98.2.1), (vI y125.1), (vI y139.1), (vI y153.1), (vI y167.1), (vI (Int.tmod y181.1 16)), (vB (decide (16 ≤ y181.1))), (str [])] rfl st ?_)
 intro m195 st O114 sm196
 replace O113 := O113.same sm196 A120
 replace X110nnnnn := X110nnnnn.same sm196 A118
 refine SeqW.done fun fr197 hf198 => ?_
 have h0 := (congrFun hf198 0).trans h0
 have h2 := (congrFun hf198 2).trans h2
 have h4 := (congrFun hf198 4).trans h4
 have h6 := (congrFun hf198 6).trans h6
 have h9 := (congrFun hf198 9).trans h9
 clear hf198
 refine thenQ.n (W.seq ?_)
 obtain ⟨y210, hy210, hr⟩ := bind_some hr
 refine W.keep (u_reader_wagon_2 (x0 := y181.2) (x2 := (Wagon.mk [] 0 0 0 0 0 false [])) (x4 := (Wagon.mk y98.2.1 y125.1 y139.1 y153.1 y167.1 (Int.tmod y181.1 16) (decide (16 ≤ y181.1)) [])) (Zx.refl _) st h0 Q188 X110nnnnn h2 O113 h4 O114 h6 h9 A116 A118 A120 hy210) ?_
 rintro ex216 fr211 m212 hk214 ⟨z213, hz215, st, rfl, h6, O217, O218, O219, A220, A221, A222, -⟩
 replace Q188 := Q188.mono hz215.le
 have h0 := (hk214 0 rfl).trans h0
 have h2 := (hk214 2 rfl).trans h2
 have h4 := (hk214 4 rfl).trans h4
 replace hz := hz.trans hz215
 clear hk214
 refine thenQ.n (W.seq (W.region ?_))
 refine sx rfl (pMove (v := (vP b0)) rfl h0) ?_
 obtain ⟨y223, hy223, hr⟩ := bind_some hr
 refine SeqW.consX rfl (StepX.call (gCallee rfl rfl (args1 rfl)) ((c_reader_one (x0 := y181.2) (z := z213) st.fz st.dead Q188 ⟨O217.blk, O217.lt, O217.dead, .inr rfl⟩ hy223).mono ?_))
 rintro _ m228 ⟨z224, V229, hzx225, fz226, sm227, rfl, Q230, X232, -⟩
 replace O218 := O218.call hzx225 sm227 (Ap.symm A220)
 replace O219 := O219.call hzx225 sm227 (Ap.symm A221)
 replace Q188 := Q188.mono hzx225.le
 have O217n : Bx z224 e m228 k b0 _ _ := ⟨X232.blk, X232.lt, X232.dead, O217.fresh⟩
 replace hz := hz.trans (Zx.here st hzx225)
 replace st := st.call hzx225 fz226 sm227 O217.hq
 refine sx rfl (pAssign (v := (vI y223.1)) rfl rfl) ?_
 refine SeqW.done fun fr233 hf234 => ?_
 have h0 := (congrFun hf234 0).trans h0
 have h2 := (congrFun hf234 2).trans h2
 have h4 := (congrFun hf234 4).trans h4
 have h6 := (congrFun hf234 6).trans h6
 have h10 : fr233 10 = (vI y223.1) := (congrFun hf234 10).trans rfl
 clear hf234
 refine thenQ.n (W.seq ?_)
 refine W.draw ?_
 refine DrawW.cons rfl (StepX.pure (pMove (v := (vP b0)) rfl h0) ?_)
 refine ⟨trivial, ?_⟩
 refine DrawW.cons rfl (StepX.pure (PureR.nilCheck _ _ rfl rfl) ?_)
 refine ⟨trivial, ?_⟩
 refine DrawW.cons rfl (kField rfl Try.underlying61 rfl Try.type23 rfl rfl rfl ?_)
 refine ⟨trivial, ?_⟩
 refine DrawW.cons rfl (kLoad rfl Try.underlying23 rfl rfl (O217n.load (v := V229) rfl) ?_)
 refine ⟨?_, ?_⟩
 ·exact demN
 refine DrawW.cons rfl (StepX.pure (pMove (v := (vP b0)) rfl h0) ?_)
 refine ⟨trivial, ?_⟩
 refine DrawW.cons rfl (StepX.pure (PureR.nilCheck _ _ rfl rfl) ?_)
 refine ⟨trivial, ?_⟩
 refine DrawW.cons rfl (kField rfl Try.underlying61 rfl Try.type3 rfl rfl rfl ?_)
 refine ⟨trivial, ?_⟩
 refine DrawW.cons rfl (kLoad rfl Try.underlying3 rfl rfl (O217n.load (v := (vI y223.2.at_)) rfl) ?_)
 refine ⟨?_, ?_⟩
 ·exact demN
 refine DrawW.cons rfl (StepX.pure (pMove (v := (vP b0)) rfl h0) ?_)
 refine ⟨trivial, ?_⟩
 refine DrawW.cons rfl (StepX.pure (PureR.nilCheck _ _ rfl rfl) ?_)
 refine ⟨trivial, ?_⟩
 refine DrawW.cons rfl (kField rfl Try.underlying61 rfl Try.type3 rfl rfl rfl ?_)
 refine ⟨trivial, ?_⟩
 refine DrawW.cons rfl (kLoad rfl Try.underlying3 rfl rfl (O217n.load (v := (vI y223.2.at_)) rfl) ?_)
 refine ⟨?_, ?_⟩
 ·exact demN
 refine DrawW.cons rfl (StepX.pure (pMove (v := (vI y223.1)) rfl h10) ?_)
 refine ⟨trivial, ?_⟩
 refine DrawW.cons rfl (StepX.pure (pAdd (k := .i64) (a := y223.2.at_) (b := y223.1) rfl rfl rfl) ?_)
 refine ⟨trivial, ?_⟩
 obtain ⟨y235, hy235, hr⟩ := bind_some hr
 refine DrawW.cons rfl (kCut (T := (TU8 5)) (xs := y223.2.b) (a := y223.2.at_) (b := (IntKind.wrap .i64 (y223.2.at_ + y223.1))) rfl Try.underlying23 Try.type5 rfl rfl ⟨_, rfl⟩ ⟨_, rfl⟩ Q230 st hy235 ?_)
 intro V236 _ hI238 Q237
 refine ⟨?_, ?_⟩
 ·exact demN
 refine DrawW.cons rfl (kStrR (s := y235) rfl Try.underlying23 Try.underlying5 Try.underlying9 rfl Q237 st ?_)
 refine ⟨?_, ?_⟩
 ·exact demN
 refine DrawW.cons rfl (kField rfl Try.underlying42 rfl Try.type9 rfl h4 rfl ?_)
 refine ⟨trivial, ?_⟩
 have sto240 := st
 have old241 := O218
 have old242 := O219
 have old243 := O217n
 refine DrawW.cons rfl (kPut (off := 7) (w := (str y235)) (new := [(str y235)]) rfl Try.type9 rfl rfl rfl rfl rfl O219 rfl [(str y98.2.1), (vI y125.1), (vI y139.1), (vI y153.1), (vI y167.1), (vI (Int.tmod y181.1 16)), (vB (decide (16 ≤ y181.1))), (str y235)] rfl st ?_)
 intro m244 st O219 sm245
 replace O218 := O218.same sm245 A222
 replace O217n := O217n.same sm245 A221
 refine ⟨⟨?_, ?_⟩, ?_⟩
 ·first | refine demP (rStr rfl Try.underlying23 Try.underlying5 Try.underlying9 rfl (Q237.src st.fz) (by obtain ⟨a, c, rfl⟩ := Q237.len; exact ⟨_, _, _, rfl⟩)) ?_ | refine demA (by decide) ?_
  first | refine demP (hI238 _ st.fz) ?_ | refine demA (by decide) ?_
  first | refine demP (gLoad rfl Try.underlying3 rfl rfl (O217n.load (v := (vI y223.2.at_)) rfl)) ?_ | refine demA (by decide) ?_
  first | refine demP (gLoad rfl Try.underlying3 rfl rfl (O217n.load (v := (vI y223.2.at_)) rfl)) ?_ | refine demA (by decide) ?_
  first | refine demP (gLoad rfl Try.underlying23 rfl rfl (O217n.load (v := V229) rfl)) ?_ | refine demA (by decide) ?_
  exact demN
 ·exact demN
 refine DrawW.done fun fr246 hf247 => ?_
 have h0 := (congrFun hf247 0).trans h0
 have h2 := (congrFun hf247 2).trans h2
 have h4 := (congrFun hf247 4).trans h4
 have h6 := (congrFun hf247 6).trans h6
 have h10 := (congrFun hf247 10).trans h10
 clear hf247
 refine thenQ.n (W.seq (W.region ?_))
 refine sx rfl (pMove (v := (vP b0)) rfl h0) ?_
 refine sx rfl (PureR.nilCheck _ _ rfl rfl) ?_
 refine SeqW.consX rfl (kField rfl Try.underlying61 rfl Try.type3 rfl rfl rfl ?_)
 refine SeqW.consX rfl (kLoad rfl Try.underlying3 rfl rfl (O217n.load (v := (vI y223.2.at_)) rfl) ?_)
 refine sx rfl (pMove (v := (vI y223.1)) rfl h10) ?_
 refine sx rfl (pAdd (k := .i64) (a := y223.2.at_) (b := y223.1) rfl rfl rfl) ?_
 refine sx rfl (PureR.nilCheck _ _ rfl rfl) ?_
 refine SeqW.consX rfl (kField rfl Try.underlying61 rfl Try.type3 rfl rfl rfl ?_)
 refine SeqW.consX rfl (kPut (off := 1) (w := (vI (IntKind.wrap .i64 (y223.2.at_ + y223.1)))) (new := [(vI (IntKind.wrap .i64 (y223.2.at_ + y223.1)))]) rfl Try.type3 rfl rfl rfl rfl rfl O217n rfl [V229, (vI (IntKind.wrap .i64 (y223.2.at_ + y223.1)))] rfl st ?_)
 intro m248 st O217n sm249
 replace O218 := O218.same sm249 (Ap.symm A220)
 replace O219 := O219.same sm249 (Ap.symm A221)
 refine SeqW.done fun fr250 hf251 => ?_
 have h0 := (congrFun hf251 0).trans h0
 have h2 := (congrFun hf251 2).trans h2
 have h4 := (congrFun hf251 4).trans h4
 have h6 := (congrFun hf251 6).trans h6
 clear hf251
 refine thenQ.n (W.seq (W.region ?_))
 refine SeqW.consX rfl (kLoadA rfl Try.underlying42 rfl Try.type42 rfl h4 O219.loads ?_)
 refine sx rfl (pMove (v := (vB y210)) rfl h6) ?_
 refine SeqW.consX rfl (kPut (off := 0) (w := (Value.agg [(str y98.2.1), (vI y125.1), (vI y139.1), (vI y153.1), (vI y167.1), (vI (Int.tmod y181.1 16)), (vB (decide (16 ≤ y181.1))), (str y235)].toArray)) (new := [(str y98.2.1), (vI y125.1), (vI y139.1), (vI y153.1), (vI y167.1), (vI (Int.tmod y181.1 16)), (vB (decide (16 ≤ y181.1))), (str y235)]) rfl Try.type42 h2 rfl rfl rfl rfl O218 rfl [(str y98.2.1), (vI y125.1), (vI y139.1), (vI y153.1), (vI y167.1), (vI (Int.tmod y181.1 16)), (vB (decide (16 ≤ y181.1))), (str y235)] rfl st ?_)
 intro m252 st O218 sm253
 replace O217n := O217n.same sm253 A220
 refine sx rfl (pAssign (v := (vB y210)) rfl rfl) ?_
 refine SeqW.done fun fr254 hf255 => ?_
 have h0 := (congrFun hf255 0).trans h0
 have h2 := (congrFun hf255 2).trans h2
 have h3 : fr254 3 = (vB y210) := (congrFun hf255 3).trans rfl
 clear hf255
 refine thenQ.n ?_
 refine W.ret ?_
 obtain rfl := Option.some.inj hr
 exact ⟨z224, hz, st, .inr rfl, B1, V229, h2, O218, O218.fresh, h3, Q230, O217n, trivial⟩

theorem c_reader_wagon {N : Nat} {z : Nat → Blk} {m : Mem} {x0 : Reader} {v0_0 : Value} {b0 : Nat} (fz : Fz z m) (hd : ∀ b, m.next ≤ b → m.blk b = .dead) (s0_0 : SlR (TU8 5) z x0.b v0_0) (bx0 : Bx z m m (some b0) b0 [v0_0, (vI x0.at_)] 61) {r : Wagon × Bool × Reader} (hr : reader_wagon N x0 = some r) : CallW Try.prog 31 #[(vP b0)] m fun v m' => ∃ z' wr_0, Zx m.next z z' ∧ Fz z' m' ∧ Same m m' (some b0) ∧ v = (Value.tuple [(Value.agg [(str r.1.number), (vI r.1.length), (vI r.1.axles), (vI r.1.mass), (vI r.1.brake), (vI r.1.goods), (vB r.1.gentle), (str r.1.dest)].toArray), (vB r.2.1)].toArray) ∧ SlR (TU8 5) z' r.2.2.b wr_0 ∧ Bx z' m m' (some b0) b0 [wr_0, (vI r.2.2.at_)] 61 ∧ True := by
 refine CallW.any Try.func31 rfl (by kernel_rfl) (Nat.le_of_ble_eq_true rfl) (fun fr hf => ?_)
 have h0 : fr 0 = _ := hf 0 _ rfl
 refine (u_reader_wagon (k := (some b0)) (Zx.refl _) (St.start fz hd) h0 s0_0 bx0 hr).mono ?_
 rintro ex fr' m' ⟨z', hz, st, he, c2, wr_0, h2, bx2, fx2, h3, sr_0, bxr, -⟩
 exact ⟨he, [(Value.agg [(str r.1.number), (vI r.1.length), (vI r.1.axles), (vI r.1.mass), (vI r.1.brake), (vI r.1.goods), (vB r.1.gentle), (str r.1.dest)].toArray), (vB r.2.1)], ⟨resCell h2 bx2 Try.underlying42 rfl Try.type42 rfl, h3.symm, trivial⟩, .inr (List.forall_mem_cons.2 ⟨rfl, List.forall_mem_cons.2 ⟨rfl, fun _ h => nomatch h⟩⟩), z', wr_0, hz, st.fz, st.toSame, rfl, sr_0, bxr, trivial⟩

/-! ### humpyard/consist.Decode -/

theorem u_consist_Decode_1 {N : Nat}  {z0 z : Nat → Blk} {e m : Mem} {k : Option Nat} {fr : Nat → Value} {x8 : Bool} {x11 : Bool} {x6 : Reader} {v6_0 : Value} {b6 : Nat} {x7 : List Wagon} {v7 : Value} {x10 : Wagon} {b10 : Nat} (hz : Zx e.next z0 z) (st : St z e m k) (h6 : fr 6 = (vP b6)) (s6_0 : SlR (TU8 5) z x6.b v6_0) (bx6 : Bx z e m k b6 [v6_0, (vI x6.at_)] 61) (h7 : fr 7 = v7) (o7 : OwF TWagon z e m k x7 v7) (h8 : fr 8 = (vB x8)) (h10 : fr 10 = (vP b10)) (bx10 : Bx z e m k b10 [(str x10.number), (vI x10.length), (vI x10.axles), (vI x10.mass), (vI x10.brake), (vI x10.goods), (vB x10.gentle), (str x10.dest)] 42) (h11 : fr 11 = (vB x11)) (ao6_o7 : Ap (some b6) (blkOf v7)) (ao6_o10 : Ap (some b6) (some b10)) (ao7_o10 : Ap (blkOf v7) (some b10)) {r : Bool} (hr : consist_Decode_1 N x8 x11 = some r) : W Try.prog (sub (bodyOf Try.f12) [1, 1, 1, 1, 1, 1, 1, 1, 0, 1, 0, 0, 1, 0, 0, 1, 0]) (fun ex fr' m' => ∃ z', Zx e.next z0 z' ∧ St z' e m' k ∧ ex = AExit.normal ∧ fr' 8 = (vB r) ∧ Bx z' e m' k b6 [v6_0, (vI x6.at_)] 61 ∧ OwF TWagon z' e m' k x7 v7 ∧ Bx z' e m' k b10 [(str x10.number), (vI x10.length), (vI x10.axles), (vI x10.mass), (vI x10.brake), (vI x10.goods), (vB x10.gentle), (str x10.dest)] 42 ∧ Ap (some b6) (blkOf v7) ∧ Ap (some b6) (some b10) ∧ Ap (blkOf v7) (some b10) ∧ True) fr m := by
 unfold consist_Decode_1 at hr
 refine W.region ?_
 refine sx rfl (pMove (v := (vB x8)) rfl h8) ?_
 refine sx rfl (pMove (v := (vB x8)) rfl rfl) ?_
 rcases if_some hr with ⟨hc99, hr⟩ | ⟨hc102, hr⟩
 ·refine SeqW.consG rfl rfl rfl hc99 (StepX.pure (pMove (v := (vB x11)) rfl h11) ?_)
  refine sx rfl (pPick (t := true) (v := (vB x11)) rfl ((congrArg vB hc99)) rfl) ?_
  refine sx rfl (pAssign (v := (vB x11)) rfl rfl) ?_
  refine SeqW.done fun fr100 hf101 => ?_
  have h6 := (congrFun hf101 6).trans h6
  have h7 := (congrFun hf101 7).trans h7
  have h8 : fr100 8 = (vB x11) := (congrFun hf101 8).trans rfl
  have h10 := (congrFun hf101 10).trans h10
  clear hf101
  obtain rfl := Option.some.inj hr
  exact ⟨z, hz, st, rfl, h8, bx6, o7, bx10, ao6_o7, ao6_o10, ao7_o10, trivial⟩
 ·refine kx rfl rfl rfl hc102 ?_
  refine sx rfl (pPick (t := false) (v := (vB false)) rfl ((congrArg vB hc102)) rfl) ?_
  refine sx rfl (pAssign (v := (vB false)) rfl rfl) ?_
  refine SeqW.done fun fr103 hf104 => ?_
  have h6 := (congrFun hf104 6).trans h6
  have h7 := (congrFun hf104 7).trans h7
  have h8 : fr103 8 = (vB false) := (congrFun hf104 8).trans rfl
  have h10 := (congrFun hf104 10).trans h10
  clear hf104
  obtain rfl := Option.some.inj hr
  exact ⟨z, hz, st, rfl, h8, bx6, o7, bx10, ao6_o7, ao6_o10, ao7_o10, trivial⟩

theorem u_consist_Decode_0 : ∀ (n : Nat) {N : Nat}  {z0 z : Nat → Blk} {e m : Mem} {k : Option Nat} {fr : Nat → Value} {x0 : List UInt8} {x6 : Reader} {x7 : List Wagon} {x8 : Bool} {x9 : Int} {v0 : Value} {v6_0 : Value} {b6 : Nat} {v7 : Value} (hz : Zx e.next z0 z) (st : St z e m k) (h0 : fr 0 = v0) (s0 : SlR (TU8 5) z x0 v0) (h6 : fr 6 = (vP b6)) (s6_0 : SlR (TU8 5) z x6.b v6_0) (bx6 : Bx z e m k b6 [v6_0, (vI x6.at_)] 61) (h7 : fr 7 = v7) (o7 : OwF TWagon z e m k x7 v7) (h8 : fr 8 = (vB x8)) (h9 : fr 9 = (vI x9)) (ao6_o7 : Ap (some b6) (blkOf v7)) {r : List Wagon × Bool} (hr : consist_Decode_0 N x0 n x6 x7 x8 x9 = some r), W Try.prog (sub (bodyOf Try.f12) [1, 1, 1, 1, 1, 1, 1, 1, 0, 1, 0]) (fun ex fr' m' => ∃ z', Zx e.next z0 z' ∧ St z' e m' k ∧ ex = AExit.exit 1 ∧ ∃ (w7 : Value), fr' 7 = w7 ∧ OwF TWagon z' e m' k r.1 w7 ∧ fr' 8 = (vB r.2) ∧ True) fr m := by
 intro n
 induction n with
 | zero => intro N z0 z e m k fr x0 x6 x7 x8 x9 v0 v6_0 b6 v7 hz st h0 s0 h6 s6_0 bx6 h7 o7 h8 h9 ao6_o7 r hr; cases (show (none : Option _) = some r from hr)
 | succ n ih =>
  intro N z0 z e m k fr x0 x6 x7 x8 x9 v0 v6_0 b6 v7 hz st h0 s0 h6 s6_0 bx6 h7 o7 h8 h9 ao6_o7 r hr
  unfold consist_Decode_0 at hr
  refine W.loop1 ?_
  refine W.seq (W.seq (W.region ?_))
  refine sx rfl (pMove (v := (vI x9)) rfl h9) ?_
  refine sx rfl (pMove (v := v0) rfl h0) ?_
  obtain ⟨y68, hy68, hr⟩ := bind_some hr
  refine SeqW.consX rfl (kIdxR (T := (TU8 5)) (xs := x0) (n := 0) rfl Try.underlying23 Try.type5 rfl rfl rfl s0 hy68 ?_)
  intro B69 f70 cs71 hd72 hc73
  obtain rfl := hd72
  refine SeqW.consX rfl (kLoad (v := (Value.int .u8 (UInt8.toNat y68 : Int))) rfl Try.underlying5 rfl rfl (ldz_load st.fz (hc73 0 _ rfl)) ?_)
  refine sx rfl (pConv (k := .u8) (a := (UInt8.toNat y68 : Int)) rfl Try.underlying5 Try.underlying3 rfl) ?_
  refine sx rfl (pLss (k := .i64) (a := x9) (b := (IntKind.wrap .i64 (UInt8.toNat y68 : Int))) rfl rfl rfl) ?_
  refine SeqW.done fun fr74 hf75 => ?_
  have h0 := (congrFun hf75 0).trans h0
  have h6 := (congrFun hf75 6).trans h6
  have h7 := (congrFun hf75 7).trans h7
  have h8 := (congrFun hf75 8).trans h8
  have h9 := (congrFun hf75 9).trans h9
  have h47 : fr74 47 = (vB (decide (x9 < (IntKind.wrap .i64 (UInt8.toNat y68 : Int))))) := (congrFun hf75 47).trans rfl
  clear hf75
  refine thenQ.n ?_
  rcases if_some hr with ⟨hc76, hr⟩ | ⟨hc140, hr⟩
  ·refine W.condT h47 hc76 (W.skip ?_)
   refine thenQ.n (W.seq ?_)
   refine W.block ?_
   refine W.seq (W.region ?_)
   refine sx rfl (pMove (v := (vP b6)) rfl h6) ?_
   obtain ⟨y77, hy77, hr⟩ := bind_some hr
   refine SeqW.consX rfl (StepX.call (gCallee rfl rfl (args1 rfl)) ((c_reader_wagon (x0 := x6) (z := z) st.fz st.dead s6_0 ⟨bx6.blk, bx6.lt, bx6.dead, .inr rfl⟩ hy77).mono ?_))
   rintro _ m82 ⟨z78, V83, hzx79, fz80, sm81, rfl, Q84, X86, -⟩
   replace s0 := s0.mono hzx79.le
   replace s6_0 := s6_0.mono hzx79.le
   replace o7 := o7.call hzx79 sm81 (Ap.symm ao6_o7)
   have bx6n : Bx z78 e m82 k b6 _ _ := ⟨X86.blk, X86.lt, X86.dead, bx6.fresh⟩
   replace hz := hz.trans (Zx.here st hzx79)
   replace st := st.call hzx79 fz80 sm81 bx6.hq
   refine sx rfl (pMove (v := (Value.tuple [(Value.agg [(str y77.1.number), (vI y77.1.length), (vI y77.1.axles), (vI y77.1.mass), (vI y77.1.brake), (vI y77.1.goods), (vB y77.1.gentle), (str y77.1.dest)].toArray), (vB y77.2.1)].toArray)) rfl rfl) ?_
   refine sx rfl (pExtract (vs := [(Value.agg [(str y77.1.number), (vI y77.1.length), (vI y77.1.axles), (vI y77.1.mass), (vI y77.1.brake), (vI y77.1.goods), (vB y77.1.gentle), (str y77.1.dest)].toArray), (vB y77.2.1)]) (v := (Value.agg [(str y77.1.number), (vI y77.1.length), (vI y77.1.axles), (vI y77.1.mass), (vI y77.1.brake), (vI y77.1.goods), (vB y77.1.gentle), (str y77.1.dest)].toArray)) rfl rfl rfl) ?_
   refine sx rfl (pExtract (vs := [(Value.agg [(str y77.1.number), (vI y77.1.length), (vI y77.1.axles), (vI y77.1.mass), (vI y77.1.brake), (vI y77.1.goods), (vB y77.1.gentle), (str y77.1.dest)].toArray), (vB y77.2.1)]) (v := (vB y77.2.1)) rfl rfl rfl) ?_
   refine SeqW.consX rfl (kAlloc rfl Try.type42 rfl rfl rfl [(str []), (vI 0), (vI 0), (vI 0), (vI 0), (vI 0), (vB false), (str [])] rfl st ?_)
   intro B87 m88 st X89 sm90 hap91
   have A93 := hap91 _ bx6n.lt'
   have A94 := hap91 _ o7.lt
   replace bx6n := bx6n.same sm90 Ap.none'
   replace o7 := o7.same sm90 Ap.none'
   refine SeqW.consX rfl (kPut (off := 0) (w := (Value.agg [(str y77.1.number), (vI y77.1.length), (vI y77.1.axles), (vI y77.1.mass), (vI y77.1.brake), (vI y77.1.goods), (vB y77.1.gentle), (str y77.1.dest)].toArray)) (new := [(str y77.1.number), (vI y77.1.length), (vI y77.1.axles), (vI y77.1.mass), (vI y77.1.brake), (vI y77.1.goods), (vB y77.1.gentle), (str y77.1.dest)]) rfl Try.type42 rfl rfl rfl rfl rfl X89 rfl [(str y77.1.number), (vI y77.1.length), (vI y77.1.axles), (vI y77.1.mass), (vI y77.1.brake), (vI y77.1.goods), (vB y77.1.gentle), (str y77.1.dest)] rfl st ?_)
   intro m95 st X89 sm96
   replace bx6n := bx6n.same sm96 A93
   replace o7 := o7.same sm96 A94
   refine sx rfl (pAssign (v := (vB y77.2.1)) rfl rfl) ?_
   refine SeqW.done fun fr97 hf98 => ?_
   have h0 := (congrFun hf98 0).trans h0
   have h6 := (congrFun hf98 6).trans h6
   have h7 := (congrFun hf98 7).trans h7
   have h8 := (congrFun hf98 8).trans h8
   have h9 := (congrFun hf98 9).trans h9
   have h10 : fr97 10 = (vP B87) := (congrFun hf98 10).trans rfl
   have h11 : fr97 11 = (vB y77.2.1) := (congrFun hf98 11).trans rfl
   clear hf98
   refine thenQ.n (W.seq ?_)
   obtain ⟨y105, hy105, hr⟩ := bind_some hr
   refine W.keep (u_consist_Decode_1 (x6 := y77.2.2) (x10 := y77.1) (Zx.refl _) st h6 Q84 bx6n h7 o7 h8 h10 X89 h11 ao6_o7 A93 A94 hy105) ?_
   rintro ex111 fr106 m107 hk109 ⟨z108, hz110, st, rfl, h8, O112, O113, O114, A115, A116, A117, -⟩
   replace s0 := s0.mono hz110.le
   replace Q84 := Q84.mono hz110.le
   have h0 := (hk109 0 rfl).trans h0
   have h6 := (hk109 6 rfl).trans h6
   have h7 := (hk109 7 rfl).trans h7
   have h9 := (hk109 9 rfl).trans h9
   have h10 := (hk109 10 rfl).trans h10
   replace hz := hz.trans hz110
   clear hk109
   refine thenQ.n (W.region ?_)
   refine sx rfl (pMove (v := v7) rfl h7) ?_
   refine SeqW.consX rfl (kLoadA rfl Try.underlying42 rfl Try.type42 rfl h10 O114.loads ?_)
   refine SeqW.consX rfl (kBuild (T := TWagon) rfl Try.underlying24 Try.type42 rfl rfl rfl rfl ([y77.1] : List Wagon) [[(str y77.1.number), (vI y77.1.length), (vI y77.1.axles), (vI y77.1.mass), (vI y77.1.brake), (vI y77.1.goods), (vB y77.1.gentle), (str y77.1.dest)]] rfl rfl rfl (BuildOk.mk (w := (Value.agg [(str y77.1.number), (vI y77.1.length), (vI y77.1.axles), (vI y77.1.mass), (vI y77.1.brake), (vI y77.1.goods), (vB y77.1.gentle), (str y77.1.dest)].toArray)) rfl rfl rfl rfl trivial) st ?_)
   intro V118 m119 st O120 sm121 hap122
   have A124 := hap122 _ O112.lt'
   have A125 := hap122 _ O113.lt
   replace O112 := O112.same sm121 Ap.none'
   replace O113 := O113.same sm121 Ap.none'
   obtain ⟨y126, hy126, hr⟩ := bind_some hr
   refine SeqW.consX rfl (kAppend (T := TWagon) (xs := x7) (ys := ([y77.1] : List Wagon)) rfl Try.underlying24 Try.type42 rfl rfl rfl rfl rfl rfl (.inl ⟨_, Try.underlying24⟩) rfl O113 rfl O120.ow.src st hy126 ?_)
   intro V127 m128 st O129 sm130 hap131
   have A133 := hap131 _ O112.lt' A115
   have A134 := hap131 _ O120.lt (Ap.symm A125)
   replace O112 := O112.same sm130 A115
   replace O120 := O120.same sm130 (Ap.symm A125)
   refine sx rfl (pAssign (v := V127) rfl rfl) ?_
   refine SeqW.done fun fr135 hf136 => ?_
   have h0 := (congrFun hf136 0).trans h0
   have h6 := (congrFun hf136 6).trans h6
   have h7 : fr135 7 = V127 := (congrFun hf136 7).trans rfl
   have h8 := (congrFun hf136 8).trans h8
   have h9 := (congrFun hf136 9).trans h9
   clear hf136
   refine blockQ.n ?_
   refine thenQ.n (W.region ?_)
   refine sx rfl (pMove (v := (vI x9)) rfl h9) ?_
   refine sx rfl (pAdd (k := .i64) (a := x9) (b := 1) rfl rfl rfl) ?_
   obtain ⟨y137, hy137, hr⟩ := lt_some hr
   refine sx rfl (pAssign rfl (congrArg (Value.int .i64) hy137)) ?_
   refine SeqW.done fun fr138 hf139 => ?_
   have h0 := (congrFun hf139 0).trans h0
   have h6 := (congrFun hf139 6).trans h6
   have h7 := (congrFun hf139 7).trans h7
   have h8 := (congrFun hf139 8).trans h8
   have h9 : fr138 9 = (vI y137) := (congrFun hf139 9).trans rfl
   clear hf139
   refine thenQ.n ?_
   exact ih (x6 := y77.2.2) hz st h0 s0 h6 Q84 O112 h7 O129 h8 h9 A133 hr
  ·refine W.condF h47 hc140 ?_
   refine W.exit ?_
   refine thenQ.x ?_
   refine thenQ.x ?_
   obtain rfl := Option.some.inj hr
   exact ⟨z, hz, st, rfl, v7, h7, o7, h8, trivial⟩

theorem u_consist_Decode {N : Nat}  {z0 z : Nat → Blk} {e m : Mem} {k : Option Nat} {fr : Nat → Value} {x0 : List UInt8} {v0 : Value} (hz : Zx e.next z0 z) (st : St z e m k) (h0 : fr 0 = v0) (s0 : SlR (TU8 5) z x0 v0) {r : List Wagon × Int} (hr : consist_Decode N x0 = some r) : W Try.prog (sub (bodyOf Try.f12) []) (fun ex fr' m' => ∃ z', Zx e.next z0 z' ∧ St z' e m' k ∧ (ex = .normal ∨ ex = .ret) ∧ ∃ (w2 : Value), fr' 2 = w2 ∧ SlR TWagon z' r.1 w2 ∧ fr' 3 = (vI r.2) ∧ True) fr m := by
 unfold consist_Decode at hr
 refine W.seq (W.region ?_)
 refine sx rfl (pAssign (v := (Value.slice none 0 0)) rfl rfl) ?_
 refine sx rfl (pAssign (v := (vI 0)) rfl rfl) ?_
 refine SeqW.done fun fr1 hf2 => ?_
 have h0 := (congrFun hf2 0).trans h0
 clear hf2
 refine thenQ.n (W.seq (W.region ?_))
 refine sx rfl (pMove (v := v0) rfl h0) ?_
 obtain ⟨y3, hy3, hr⟩ := bind_some hr
 refine SeqW.consX rfl (StepX.call (gCallee rfl rfl (args1 rfl)) ((c_consist_end (z := z) st.fz st.dead s0 hy3).mono ?_))
 rintro _ _ ⟨rfl, rfl⟩
 refine sx rfl (pMove (v := (Value.tuple [(vI y3.1), (vB y3.2)].toArray)) rfl rfl) ?_
 refine sx rfl (pExtract (vs := [(vI y3.1), (vB y3.2)]) (v := (vI y3.1)) rfl rfl rfl) ?_
 refine sx rfl (pExtract (vs := [(vI y3.1), (vB y3.2)]) (v := (vB y3.2)) rfl rfl rfl) ?_
 refine sx rfl (pAssign (v := (vI y3.1)) rfl rfl) ?_
 refine sx rfl (pAssign (v := (vB y3.2)) rfl rfl) ?_
 refine SeqW.done fun fr4 hf5 => ?_
 have h0 := (congrFun hf5 0).trans h0
 have h4 : fr4 4 = (vI y3.1) := (congrFun hf5 4).trans rfl
 have h5 : fr4 5 = (vB y3.2) := (congrFun hf5 5).trans rfl
 clear hf5
 refine thenQ.n (W.seq ?_)
 refine W.block ?_
 refine W.seq (W.region ?_)
 refine sx rfl (pMove (v := (vB y3.2)) rfl h5) ?_
 refine sx rfl (pNot (b := y3.2) rfl rfl) ?_
 obtain ⟨y6, hy6, hr⟩ := lt_some hr
 refine sx rfl (pAssign rfl (congrArg vB hy6)) ?_
 refine SeqW.done fun fr7 hf8 => ?_
 have h0 := (congrFun hf8 0).trans h0
 have h4 := (congrFun hf8 4).trans h4
 have h18 : fr7 18 = (vB y6) := (congrFun hf8 18).trans rfl
 clear hf8
 refine thenQ.n ?_
 rcases if_some hr with ⟨hc9, hr⟩ | ⟨hc12, hr⟩
 ·refine W.condT h18 hc9 (W.seq (W.region ?_))
  refine sx rfl (pAssign (v := (Value.slice none 0 0)) rfl rfl) ?_
  refine sx rfl (pAssign (v := (vI 10)) rfl rfl) ?_
  refine SeqW.done fun fr10 hf11 => ?_
  have h2 : fr10 2 = (Value.slice none 0 0) := (congrFun hf11 2).trans rfl
  have h3 : fr10 3 = (vI 10) := (congrFun hf11 3).trans rfl
  clear hf11
  refine thenQ.n ?_
  refine W.ret ?_
  refine blockQ.r ?_
  refine thenQ.r ?_
  obtain rfl := Option.some.inj hr
  exact ⟨z, hz, st, .inr rfl, (Value.slice none 0 0), h2, SlR.nil, h3, trivial⟩
 ·refine W.condF h18 hc12 (W.seq (W.region ?_))
  refine sx rfl (pMove (v := (vI y3.1)) rfl h4) ?_
  refine sx rfl (pMove (v := v0) rfl h0) ?_
  refine sx rfl (pLenR (xs := x0) rfl Try.underlying23 rfl s0) ?_
  refine sx rfl (pLss (k := .i64) (a := y3.1) (b := (x0.length : Int)) rfl rfl rfl) ?_
  obtain ⟨y13, hy13, hr⟩ := lt_some hr
  refine sx rfl (pAssign rfl (congrArg vB hy13)) ?_
  refine SeqW.done fun fr14 hf15 => ?_
  have h0 := (congrFun hf15 0).trans h0
  have h4 := (congrFun hf15 4).trans h4
  have h21 : fr14 21 = (vB y13) := (congrFun hf15 21).trans rfl
  clear hf15
  refine thenQ.n ?_
  rcases if_some hr with ⟨hc16, hr⟩ | ⟨hc19, hr⟩
  ·refine W.condT h21 hc16 (W.seq (W.region ?_))
   refine sx rfl (pAssign (v := (Value.slice none 0 0)) rfl rfl) ?_
   refine sx rfl (pAssign (v := (vI 11)) rfl rfl) ?_
   refine SeqW.done fun fr17 hf18 => ?_
   have h2 : fr17 2 = (Value.slice none 0 0) := (congrFun hf18 2).trans rfl
   have h3 : fr17 3 = (vI 11) := (congrFun hf18 3).trans rfl
   clear hf18
   refine thenQ.n ?_
   refine W.ret ?_
   refine blockQ.r ?_
   refine thenQ.r ?_
   obtain rfl := Option.some.inj hr
   exact ⟨z, hz, st, .inr rfl, (Value.slice none 0 0), h2, SlR.nil, h3, trivial⟩
  ·refine W.condF h21 hc19 (W.skip ?_)
   refine blockQ.n ?_
   refine thenQ.n (W.seq (W.region ?_))
   refine sx rfl (pMove (v := v0) rfl h0) ?_
   refine sx rfl (pMove (v := (vI y3.1)) rfl h4) ?_
   refine sx rfl (pSub (k := .i64) (a := y3.1) (b := 2) rfl rfl rfl) ?_
   obtain ⟨A20, c21, eA20⟩ := s0.len
   subst eA20
   refine SeqW.consX rfl (kBuildS [(0, (Value.slice A20 (x0).length c21)), (1, (vI (IntKind.wrap .i64 (y3.1 - 2))))] [(Value.slice A20 (x0).length c21), (vI (IntKind.wrap .i64 (y3.1 - 2)))] rfl Try.underlying61 Try.type61 rfl rfl (places61 Try.underlying61) rfl (rfl) rfl ?_)
   refine SeqW.consX rfl (kBox (v := (Value.agg [(Value.slice A20 (x0).length c21), (vI (IntKind.wrap .i64 (y3.1 - 2)))].toArray)) rfl Try.type61 rfl rfl [(Value.slice A20 (x0).length c21), (vI (IntKind.wrap .i64 (y3.1 - 2)))] rfl rfl st ?_)
   intro B22 m23 st X24 sm25 hap26
   refine sx rfl (pAssign (v := (vP B22)) rfl rfl) ?_
   refine SeqW.done fun fr28 hf29 => ?_
   have h0 := (congrFun hf29 0).trans h0
   have h4 := (congrFun hf29 4).trans h4
   have h6 : fr28 6 = (vP B22) := (congrFun hf29 6).trans rfl
   clear hf29
   refine thenQ.n (W.seq (W.seq ?_))
   refine W.draw ?_
   refine DrawW.cons rfl (StepX.pure (pMove (v := (vP B22)) rfl h6) ?_)
   refine ⟨trivial, ?_⟩
   have sto30 := st
   have old31 := X24
   obtain ⟨y32, hy32, hr⟩ := bind_some hr
   refine DrawW.cons rfl (StepX.call (gCallee rfl rfl (args1 rfl)) ((c_reader_two (x0 := (Reader.mk x0 (IntKind.wrap .i64 (y3.1 - 2)))) (z := z) st.fz st.dead s0 ⟨X24.blk, X24.lt, X24.dead, .inr rfl⟩ hy32).mono ?_))
   rintro _ m37 ⟨z33, V38, hzx34, fz35, sm36, rfl, Q39, X41, -⟩
   have sr42 := s0
   replace s0 := s0.mono hzx34.le
   have X24n : Bx z33 e m37 k B22 _ _ := ⟨X41.blk, X41.lt, X41.dead, X24.fresh⟩
   replace hz := hz.trans (Zx.here st hzx34)
   replace st := st.call hzx34 fz35 sm36 X24.hq
   refine ⟨⟨?_, ?_⟩, ?_⟩
   ·exact demN
   ·exact demN
   refine DrawW.cons rfl (StepX.pure (pMove (v := (Value.slice A20 (x0).length c21)) rfl h0) ?_)
   refine ⟨trivial, ?_⟩
   refine DrawW.cons rfl (StepX.pure (pMove (v := (vI y3.1)) rfl h4) ?_)
   refine ⟨trivial, ?_⟩
   refine DrawW.cons rfl (StepX.pure (pSub (k := .i64) (a := y3.1) (b := 2) rfl rfl rfl) ?_)
   refine ⟨trivial, ?_⟩
   obtain ⟨y43, hy43, hr⟩ := bind_some hr
   have stc46 : St z e _ k := st.zle hzx34.le
   refine DrawW.cons rfl (kCut (T := (TU8 5)) (xs := x0) (a := 0) (b := (IntKind.wrap .i64 (y3.1 - 2))) rfl Try.underlying23 Try.type5 rfl rfl rfl ⟨_, rfl⟩ sr42 stc46 hy43 ?_)
   intro V44 _ hI47 Q45
   replace Q45 := Q45.mono hzx34.le
   refine ⟨?_, ?_⟩
   ·first | refine demP (hI47 _ (by first | exact sto30.fz | exact sto30.fz.le hzx34.le)) ?_ | refine demA (by decide) ?_
    exact demN
   have sto49 := st
   have old50 := X24n
   obtain ⟨y51, hy51, hr⟩ := bind_some hr
   refine DrawW.cons rfl (StepX.call (gCallee rfl rfl (args1 rfl)) ((c_consist_Check (z := z33) st.fz st.dead Q45 hy51).mono ?_))
   rintro _ _ ⟨rfl, rfl⟩
   refine ⟨⟨?_, ?_⟩, ?_⟩
   ·first | refine demP (hI47 _ (by first | exact st.fz | exact st.fz.le hzx34.le)) ?_ | refine demA (by decide) ?_
    exact demN
   ·exact demN
   refine DrawW.cons rfl (StepX.pure (pNeq (k := .i64) (a := y32.1) (b := y51) rfl rfl rfl) ?_)
   refine ⟨trivial, ?_⟩
   refine DrawW.done fun fr52 hf53 => ?_
   have h0 := (congrFun hf53 0).trans h0
   have h6 := (congrFun hf53 6).trans h6
   have h38 : fr52 38 = (vB (y32.1 != y51)) := (congrFun hf53 38).trans rfl
   clear hf53
   refine thenQ.n ?_
   rcases if_some hr with ⟨hc54, hr⟩ | ⟨hc57, hr⟩
   ·refine W.condT h38 hc54 (W.seq (W.region ?_))
    refine sx rfl (pAssign (v := (Value.slice none 0 0)) rfl rfl) ?_
    refine sx rfl (pAssign (v := (vI 9)) rfl rfl) ?_
    refine SeqW.done fun fr55 hf56 => ?_
    have h2 : fr55 2 = (Value.slice none 0 0) := (congrFun hf56 2).trans rfl
    have h3 : fr55 3 = (vI 9) := (congrFun hf56 3).trans rfl
    clear hf56
    refine thenQ.n ?_
    refine W.ret ?_
    refine thenQ.r ?_
    obtain rfl := Option.some.inj hr
    exact ⟨z33, hz, st, .inr rfl, (Value.slice none 0 0), h2, SlR.nil, h3, trivial⟩
   ·refine W.condF h38 hc57 (W.skip ?_)
    refine thenQ.n (W.seq (W.region ?_))
    refine sx rfl (pMove (v := (vP B22)) rfl h6) ?_
    refine sx rfl (PureR.nilCheck _ _ rfl rfl) ?_
    refine SeqW.consX rfl (kField rfl Try.underlying61 rfl Try.type3 rfl rfl rfl ?_)
    refine SeqW.consX rfl (kPut (off := 1) (w := (vI 1)) (new := [(vI 1)]) rfl Try.type3 rfl rfl rfl rfl rfl X24n rfl [V38, (vI 1)] rfl st ?_)
    intro m58 st X24n sm59
    refine SeqW.done fun fr60 hf61 => ?_
    have h0 := (congrFun hf61 0).trans h0
    have h6 := (congrFun hf61 6).trans h6
    clear hf61
    refine thenQ.n (W.seq (W.region ?_))
    refine sx rfl (pAssign (v := (Value.slice none 0 0)) rfl rfl) ?_
    refine SeqW.done fun fr62 hf63 => ?_
    have h0 := (congrFun hf63 0).trans h0
    have h6 := (congrFun hf63 6).trans h6
    have h7 : fr62 7 = (Value.slice none 0 0) := (congrFun hf63 7).trans rfl
    clear hf63
    refine thenQ.n (W.seq (W.region ?_))
    refine sx rfl (pAssign (v := (vB true)) rfl rfl) ?_
    refine SeqW.done fun fr64 hf65 => ?_
    have h0 := (congrFun hf65 0).trans h0
    have h6 := (congrFun hf65 6).trans h6
    have h7 := (congrFun hf65 7).trans h7
    have h8 : fr64 8 = (vB true) := (congrFun hf65 8).trans rfl
    clear hf65
    refine thenQ.n (W.seq ?_)
    refine W.seq (W.region ?_)
    refine sx rfl (pAssign (v := (vI 0)) rfl rfl) ?_
    refine SeqW.done fun fr66 hf67 => ?_
    have h0 := (congrFun hf67 0).trans h0
    have h6 := (congrFun hf67 6).trans h6
    have h7 := (congrFun hf67 7).trans h7
    have h8 := (congrFun hf67 8).trans h8
    have h9 : fr66 9 = (vI 0) := (congrFun hf67 9).trans rfl
    clear hf67
    refine thenQ.n ?_
    refine W.block ?_
    obtain ⟨y141, hy141, hr⟩ := bind_some hr
    refine W.keep (u_consist_Decode_0 (x6 := (Reader.mk y32.2.b 1)) _ (Zx.refl _) st h0 s0 h6 Q39 X24n h7 OwF.nil h8 h9 Ap.none' hy141) ?_
    rintro ex147 fr142 m143 hk145 ⟨z144, hz146, st, rfl, w148, h7, O150, h8, -⟩
    replace hz := hz.trans hz146
    clear hk145
    refine blockQ.hit ?_
    refine thenQ.n (W.seq ?_)
    refine W.seq (W.region ?_)
    refine sx rfl (pMove (v := (vB y141.2)) rfl h8) ?_
    refine sx rfl (pNot (b := y141.2) rfl rfl) ?_
    refine SeqW.done fun fr151 hf152 => ?_
    have h7 := (congrFun hf152 7).trans h7
    have h64 : fr151 64 = (vB (!y141.2)) := (congrFun hf152 64).trans rfl
    clear hf152
    refine thenQ.n ?_
    rcases if_some hr with ⟨hc153, hr⟩ | ⟨hc156, hr⟩
    ·refine W.condT h64 hc153 (W.seq (W.region ?_))
     refine sx rfl (pAssign (v := (Value.slice none 0 0)) rfl rfl) ?_
     refine sx rfl (pAssign (v := (vI 11)) rfl rfl) ?_
     refine SeqW.done fun fr154 hf155 => ?_
     have h2 : fr154 2 = (Value.slice none 0 0) := (congrFun hf155 2).trans rfl
     have h3 : fr154 3 = (vI 11) := (congrFun hf155 3).trans rfl
     clear hf155
     refine thenQ.n ?_
     refine W.ret ?_
     refine thenQ.r ?_
     obtain rfl := Option.some.inj hr
     exact ⟨z144, hz, st, .inr rfl, (Value.slice none 0 0), h2, SlR.nil, h3, trivial⟩
    ·refine W.condF h64 hc156 (W.skip ?_)
     refine thenQ.n (W.seq ?_)
     refine W.seq (W.region ?_)
     refine sx rfl (pMove (v := w148) rfl h7) ?_
     obtain ⟨z157, hz158, st161, Q159, hl160⟩ := O150.freeze st
     obtain ⟨y162, hy162, hr⟩ := bind_some hr
     refine SeqW.consX rfl (StepX.call (gCallee rfl rfl (args1 rfl)) ((c_consist_check (z := z157) st161.fz st.dead Q159 hy162).mono ?_))
     rintro _ _ ⟨rfl, rfl⟩
     refine sx rfl (pAssign (v := (vI y162)) rfl rfl) ?_
     refine SeqW.done fun fr163 hf164 => ?_
     have h7 := (congrFun hf164 7).trans h7
     have h12 : fr163 12 = (vI y162) := (congrFun hf164 12).trans rfl
     clear hf164
     refine thenQ.n (W.seq (W.region ?_))
     refine sx rfl (pMove (v := (vI y162)) rfl h12) ?_
     refine sx rfl (pNeq (k := .i64) (a := y162) (b := 0) rfl rfl rfl) ?_
     refine SeqW.done fun fr165 hf166 => ?_
     have h7 := (congrFun hf166 7).trans h7
     have h12 := (congrFun hf166 12).trans h12
     have h68 : fr165 68 = (vB (y162 != 0)) := (congrFun hf166 68).trans rfl
     clear hf166
     refine thenQ.n ?_
     rcases if_some hr with ⟨hc167, hr⟩ | ⟨hc170, hr⟩
     ·refine W.condT h68 hc167 (W.seq (W.region ?_))
      refine sx rfl (pMove (v := (vI y162)) rfl h12) ?_
      refine sx rfl (pAssign (v := (Value.slice none 0 0)) rfl rfl) ?_
      refine sx rfl (pAssign (v := (vI y162)) rfl rfl) ?_
      refine SeqW.done fun fr168 hf169 => ?_
      have h2 : fr168 2 = (Value.slice none 0 0) := (congrFun hf169 2).trans rfl
      have h3 : fr168 3 = (vI y162) := (congrFun hf169 3).trans rfl
      clear hf169
      refine thenQ.n ?_
      refine W.ret ?_
      refine thenQ.r ?_
      obtain rfl := Option.some.inj hr
      exact ⟨z144, hz, st, .inr rfl, (Value.slice none 0 0), h2, SlR.nil, h3, trivial⟩
     ·refine W.condF h68 hc170 (W.skip ?_)
      refine thenQ.n (W.seq (W.region ?_))
      refine sx rfl (pMove (v := w148) rfl h7) ?_
      refine sx rfl (pAssign (v := w148) rfl rfl) ?_
      refine sx rfl (pAssign (v := (vI 0)) rfl rfl) ?_
      refine SeqW.done fun fr171 hf172 => ?_
      have h2 : fr171 2 = w148 := (congrFun hf172 2).trans rfl
      have h3 : fr171 3 = (vI 0) := (congrFun hf172 3).trans rfl
      clear hf172
      refine thenQ.n ?_
      refine W.ret ?_
      obtain ⟨z173, hz174, st, Q175, hl176⟩ := O150.freeze st
      replace hz := hz.trans hz174
      obtain rfl := Option.some.inj hr
      exact ⟨z173, hz, st, .inr rfl, w148, h2, Q175, h3, trivial⟩

theorem c_consist_Decode {N : Nat} {z : Nat → Blk} {m : Mem} {x0 : List UInt8} {v0 : Value} (fz : Fz z m) (hd : ∀ b, m.next ≤ b → m.blk b = .dead) (s0 : SlR (TU8 5) z x0 v0) {r : List Wagon × Int} (hr : consist_Decode N x0 = some r) : CallW Try.prog 12 #[v0] m fun v m' => ∃ z' w2, Zx m.next z z' ∧ Fz z' m' ∧ Same m m' none ∧ v = (Value.tuple [w2, (vI r.2)].toArray) ∧ SlR TWagon z' r.1 w2 ∧ True := by
 refine CallW.any Try.func12 rfl (by kernel_rfl) (Nat.le_of_ble_eq_true rfl) (fun fr hf => ?_)
 have h0 : fr 0 = _ := hf 0 _ rfl
 refine (u_consist_Decode (k := none) (Zx.refl _) (St.start fz hd) h0 s0 hr).mono ?_
 rintro ex fr' m' ⟨z', hz, st, he, w2, h2, s2, h3, -⟩
 exact ⟨he, [w2, (vI r.2)], ⟨h2.symm, h3.symm, trivial⟩, .inr (List.forall_mem_cons.2 ⟨s2.stor.1, List.forall_mem_cons.2 ⟨rfl, fun _ h => nomatch h⟩⟩), z', w2, hz, st.fz, st.toSame, rfl, s2, trivial⟩

/-! ### humpyard/humpgen.Bytes -/

theorem u_gen_Bytes_0 : ∀ (n : Nat) {N : Nat}  {z0 z : Nat → Blk} {e m : Mem} {k : Option Nat} {fr : Nat → Value} {x0 : List UInt8} {x1 : List UInt8} {x5 : Int} {v0 : Value} {v1 : Value} (hz : Zx e.next z0 z) (st : St z e m k) (h0 : fr 0 = v0) (s0 : SlR (TU8 5) z x0 v0) (h1 : fr 1 = v1) (s1 : SlR (TU8 5) z x1 v1) (h5 : fr 5 = (vI x5)) {r : Sum (Unit) (Bool)} (hr : gen_Bytes_0 N x0 x1 n x5 = some r), W Try.prog (sub (bodyOf Try.f15) [1, 1, 0, 1, 0]) (fun ex fr' m' => ∃ z', Zx e.next z0 z' ∧ St z' e m' k ∧ ((∃ q, r = Sum.inl q ∧ ex = AExit.exit 0 ∧ True) ∨ (∃ q, r = Sum.inr q ∧ ex = AExit.ret ∧ fr' 4 = (vB q) ∧ True))) fr m := by
 intro n
 induction n with
 | zero => intro N z0 z e m k fr x0 x1 x5 v0 v1 hz st h0 s0 h1 s1 h5 r hr; cases (show (none : Option _) = some r from hr)
 | succ n ih =>
  intro N z0 z e m k fr x0 x1 x5 v0 v1 hz st h0 s0 h1 s1 h5 r hr
  unfold gen_Bytes_0 at hr
  refine W.loop1 ?_
  refine W.seq (W.seq (W.region ?_))
  refine sx rfl (pMove (v := (vI x5)) rfl h5) ?_
  refine sx rfl (pMove (v := v0) rfl h0) ?_
  refine sx rfl (pLenR (xs := x0) rfl Try.underlying23 rfl s0) ?_
  refine sx rfl (pLss (k := .i64) (a := x5) (b := (x0.length : Int)) rfl rfl rfl) ?_
  refine SeqW.done fun fr11 hf12 => ?_
  have h0 := (congrFun hf12 0).trans h0
  have h1 := (congrFun hf12 1).trans h1
  have h5 := (congrFun hf12 5).trans h5
  have h14 : fr11 14 = (vB (decide (x5 < (x0.length : Int)))) := (congrFun hf12 14).trans rfl
  clear hf12
  refine thenQ.n ?_
  rcases if_some hr with ⟨hc13, hr⟩ | ⟨hc35, hr⟩
  ·refine W.condT h14 hc13 (W.skip ?_)
   refine thenQ.n (W.seq ?_)
   refine W.block ?_
   refine W.seq ?_
   refine W.calm (by decide) ?_
   refine sx rfl (pMove (v := v0) rfl h0) ?_
   refine sx rfl (pMove (v := (vI x5)) rfl h5) ?_
   obtain ⟨y14, hy14, hr⟩ := bind_some hr
   refine SeqW.consX rfl (kIdxR (T := (TU8 5)) (xs := x0) (n := x5) rfl Try.underlying23 Try.type5 rfl rfl rfl s0 hy14 ?_)
   intro B15 f16 cs17 hd18 hc19
   obtain rfl := hd18
   refine SeqW.consX rfl (kLoad (v := (Value.int .u8 (UInt8.toNat y14 : Int))) rfl Try.underlying5 rfl rfl (ldz_load st.fz (hc19 0 _ rfl)) ?_)
   refine sx rfl (pMove (v := v1) rfl h1) ?_
   refine sx rfl (pMove (v := (vI x5)) rfl h5) ?_
   obtain ⟨y20, hy20, hr⟩ := bind_some hr
   refine SeqW.consX rfl (kIdxR (T := (TU8 5)) (xs := x1) (n := x5) rfl Try.underlying23 Try.type5 rfl rfl rfl s1 hy20 ?_)
   intro B21 f22 cs23 hd24 hc25
   obtain rfl := hd24
   refine SeqW.consX rfl (kLoad (v := (Value.int .u8 (UInt8.toNat y20 : Int))) rfl Try.underlying5 rfl rfl (ldz_load st.fz (hc25 0 _ rfl)) ?_)
   refine sx rfl (pNeq (k := .u8) (a := (UInt8.toNat y14 : Int)) (b := (UInt8.toNat y20 : Int)) rfl rfl rfl) ?_
   refine SeqW.done fun fr26 hf27 => ?_
   have h0 := (congrFun hf27 0).trans h0
   have h1 := (congrFun hf27 1).trans h1
   have h5 := (congrFun hf27 5).trans h5
   have h25 : fr26 25 = (vB ((UInt8.toNat y14 : Int) != (UInt8.toNat y20 : Int))) := (congrFun hf27 25).trans rfl
   clear hf27
   refine thenQ.n ?_
   rcases if_some hr with ⟨hc28, hr⟩ | ⟨hc31, hr⟩
   ·refine W.condT h25 hc28 (W.seq (W.region ?_))
    refine sx rfl (pAssign (v := (vB false)) rfl rfl) ?_
    refine SeqW.done fun fr29 hf30 => ?_
    have h4 : fr29 4 = (vB false) := (congrFun hf30 4).trans rfl
    clear hf30
    refine thenQ.n ?_
    refine W.ret ?_
    refine blockQ.r ?_
    refine thenQ.r ?_
    refine thenQ.r ?_
    obtain rfl := Option.some.inj hr
    exact ⟨z, hz, st, .inr ⟨_, rfl, rfl, h4, trivial⟩⟩
   ·refine W.condF h25 hc31 (W.skip ?_)
    refine blockQ.n ?_
    refine thenQ.n (W.region ?_)
    refine sx rfl (pMove (v := (vI x5)) rfl h5) ?_
    refine sx rfl (pAdd (k := .i64) (a := x5) (b := 1) rfl rfl rfl) ?_
    obtain ⟨y32, hy32, hr⟩ := lt_some hr
    refine sx rfl (pAssign rfl (congrArg (Value.int .i64) hy32)) ?_
    refine SeqW.done fun fr33 hf34 => ?_
    have h0 := (congrFun hf34 0).trans h0
    have h1 := (congrFun hf34 1).trans h1
    have h5 : fr33 5 = (vI y32) := (congrFun hf34 5).trans rfl
    clear hf34
    refine thenQ.n ?_
    exact ih hz st h0 s0 h1 s1 h5 hr
  ·refine W.condF h14 hc35 ?_
   refine W.exit ?_
   refine thenQ.x ?_
   refine thenQ.x ?_
   obtain rfl := Option.some.inj hr
   exact ⟨z, hz, st, .inl ⟨_, rfl, rfl, trivial⟩⟩

theorem u_gen_Bytes {N : Nat}  {z0 z : Nat → Blk} {e m : Mem} {k : Option Nat} {fr : Nat → Value} {x0 : List UInt8} {x1 : List UInt8} {v0 : Value} {v1 : Value} (hz : Zx e.next z0 z) (st : St z e m k) (h0 : fr 0 = v0) (s0 : SlR (TU8 5) z x0 v0) (h1 : fr 1 = v1) (s1 : SlR (TU8 5) z x1 v1) {r : Bool} (hr : gen_Bytes N x0 x1 = some r) : W Try.prog (sub (bodyOf Try.f15) []) (fun ex fr' m' => ∃ z', Zx e.next z0 z' ∧ St z' e m' k ∧ (ex = .normal ∨ ex = .ret) ∧ fr' 4 = (vB r) ∧ True) fr m := by
 unfold gen_Bytes at hr
 refine W.seq (W.region ?_)
 refine sx rfl (pAssign (v := (vB false)) rfl rfl) ?_
 refine SeqW.done fun fr1 hf2 => ?_
 have h0 := (congrFun hf2 0).trans h0
 have h1 := (congrFun hf2 1).trans h1
 clear hf2
 refine thenQ.n (W.seq ?_)
 refine W.seq (W.region ?_)
 refine sx rfl (pMove (v := v0) rfl h0) ?_
 refine sx rfl (pLenR (xs := x0) rfl Try.underlying23 rfl s0) ?_
 refine sx rfl (pMove (v := v1) rfl h1) ?_
 refine sx rfl (pLenR (xs := x1) rfl Try.underlying23 rfl s1) ?_
 refine sx rfl (pNeq (k := .i64) (a := (x0.length : Int)) (b := (x1.length : Int)) rfl rfl rfl) ?_
 refine SeqW.done fun fr3 hf4 => ?_
 have h0 := (congrFun hf4 0).trans h0
 have h1 := (congrFun hf4 1).trans h1
 have h10 : fr3 10 = (vB ((x0.length : Int) != (x1.length : Int))) := (congrFun hf4 10).trans rfl
 clear hf4
 refine thenQ.n ?_
 rcases if_some hr with ⟨hc5, hr⟩ | ⟨hc8, hr⟩
 ·refine W.condT h10 hc5 (W.seq (W.region ?_))
  refine sx rfl (pAssign (v := (vB false)) rfl rfl) ?_
  refine SeqW.done fun fr6 hf7 => ?_
  have h4 : fr6 4 = (vB false) := (congrFun hf7 4).trans rfl
  clear hf7
  refine thenQ.n ?_
  refine W.ret ?_
  refine thenQ.r ?_
  obtain rfl := Option.some.inj hr
  exact ⟨z, hz, st, .inr rfl, h4, trivial⟩
 ·refine W.condF h10 hc8 (W.skip ?_)
  refine thenQ.n (W.seq ?_)
  refine W.seq (W.region ?_)
  refine sx rfl (pAssign (v := (vI 0)) rfl rfl) ?_
  refine SeqW.done fun fr9 hf10 => ?_
  have h0 := (congrFun hf10 0).trans h0
  have h1 := (congrFun hf10 1).trans h1
  have h5 : fr9 5 = (vI 0) := (congrFun hf10 5).trans rfl
  clear hf10
  refine thenQ.n ?_
  refine W.block ?_
  obtain ⟨y36, hy36, hr⟩ := bind_some hr
  refine W.keep (u_gen_Bytes_0 _ (Zx.refl _) st h0 s0 h1 s1 h5 hy36) ?_
  rintro ex42 fr37 m38 hk40 ⟨z39, hz41, st, ⟨y43, rfl, rfl, -⟩ | ⟨y46, rfl, rfl, h4, -⟩⟩
  ·dsimp only at hr
   replace hz := hz.trans hz41
   clear hk40
   refine blockQ.hit ?_
   refine thenQ.n (W.seq (W.region ?_))
   refine sx rfl (pAssign (v := (vB true)) rfl rfl) ?_
   refine SeqW.done fun fr44 hf45 => ?_
   have h4 : fr44 4 = (vB true) := (congrFun hf45 4).trans rfl
   clear hf45
   refine thenQ.n ?_
   refine W.ret ?_
   obtain rfl := Option.some.inj hr
   exact ⟨z39, hz, st, .inr rfl, h4, trivial⟩
  ·dsimp only at hr
   replace hz := hz.trans hz41
   clear hk40
   refine blockQ.r ?_
   refine thenQ.r ?_
   obtain rfl := Option.some.inj hr
   exact ⟨z39, hz, st, .inr rfl, h4, trivial⟩

theorem c_gen_Bytes {N : Nat} {z : Nat → Blk} {m : Mem} {x0 : List UInt8} {x1 : List UInt8} {v0 : Value} {v1 : Value} (fz : Fz z m) (hd : ∀ b, m.next ≤ b → m.blk b = .dead) (s0 : SlR (TU8 5) z x0 v0) (s1 : SlR (TU8 5) z x1 v1) {r : Bool} (hr : gen_Bytes N x0 x1 = some r) : CallW Try.prog 15 #[v0, v1] m fun v m' => v = (vB r) ∧ m' = m := by
 refine CallW.flat Try.func15 rfl (by kernel_rfl) (Nat.le_of_ble_eq_true rfl) rfl (z := z) (fun fr hf => ?_)
 have h0 : fr 0 = _ := hf 0 _ rfl
 have h1 : fr 1 = _ := hf 1 _ rfl
 refine (u_gen_Bytes (k := none) (Zx.refl _) (St.start fz hd) h0 s0 h1 s1 hr).mono ?_
 rintro ex fr' m' ⟨z', hz, st, he, h4, -⟩
 exact ⟨he, z', st, [(vB r)], ⟨h4.symm, trivial⟩, .inl rfl, rfl⟩

/-! ### humpyard/humpyardlaw06.sane -/

theorem u_l06_sane_0 {N : Nat}  {z0 z : Nat → Blk} {e m : Mem} {k : Option Nat} {fr : Nat → Value} {x1 : List UInt8} {x2 : Int} {x4 : Int} {x6 : Int} {v1 : Value} (hz : Zx e.next z0 z) (st : St z e m k) (h1 : fr 1 = v1) (s1 : SlR (TU8 5) z x1 v1) (h2 : fr 2 = (vI x2)) (h4 : fr 4 = (vI x4)) (h6 : fr 6 = (vI x6)) {r : Bool} (hr : l06_sane_0 N x1 x2 x4 x6 = some r) : W Try.prog (sub (bodyOf Try.f16) [1, 1, 1, 1, 0]) (fun ex fr' m' => ∃ z', Zx e.next z0 z' ∧ St z' e m' k ∧ ex = AExit.normal ∧ fr' 0 = (vB r) ∧ True) fr m := by
 unfold l06_sane_0 at hr
 refine W.region ?_
 refine sx rfl (pMove (v := (vI x2)) rfl h2) ?_
 refine sx rfl (pEql (k := .i64) (a := x2) (b := 0) rfl rfl rfl) ?_
 refine sx rfl (pMove (v := (vB (x2 == 0))) rfl rfl) ?_
 rcases if_some hr with ⟨hc62, hr⟩ | ⟨hc109, hr⟩
 ·refine SeqW.consG rfl rfl rfl hc62 (StepX.pure (pMove (v := v1) rfl h1) ?_)
  obtain ⟨y63, hy63, hr⟩ := bind_some hr
  obtain ⟨y64, hy64, hr⟩ := bind_some hr
  obtain ⟨y65, hy65, hr⟩ := bind_some hr
  refine SeqW.consG rfl rfl rfl hc62 (kBuild (T := (TU8 5)) rfl Try.underlying23 Try.type5 rfl rfl rfl rfl ([y63, y64, y65] : List UInt8) [[Value.int .u8 (UInt8.toNat y63 : Int)], [Value.int .u8 (UInt8.toNat y64 : Int)], [Value.int .u8 (UInt8.toNat y65 : Int)]] rfl rfl rfl (BuildOk.mk (w := (Value.int .u8 (UInt8.toNat y63 : Int))) (by rw [← toU8_some hy63]; exact rfl) rfl rfl rfl (BuildOk.mk (w := (Value.int .u8 (UInt8.toNat y64 : Int))) (by rw [← toU8_some hy64]; exact rfl) rfl rfl rfl (BuildOk.mk (w := (Value.int .u8 (UInt8.toNat y65 : Int))) (by rw [← toU8_some hy65]; exact rfl) rfl rfl rfl trivial))) st ?_)
  intro V66 m67 st O68 sm69 hap70
  obtain ⟨z72, hz73, st76, Q74, hl75⟩ := O68.freeze st
  have Q77 := s1.mono hz73.le
  obtain ⟨y78, hy78, hr⟩ := bind_some hr
  refine SeqW.consG rfl rfl rfl hc62 (StepX.call (gCallee rfl rfl (args2 rfl rfl)) ((c_gen_Bytes (z := z72) st76.fz st.dead Q77 Q74 hy78).mono ?_))
  rintro _ _ ⟨rfl, rfl⟩
  refine sx rfl (pPick (t := true) (v := (vB y78)) rfl ((congrArg vB hc62)) rfl) ?_
  refine sx rfl (pMove (v := (vB y78)) rfl rfl) ?_
  rcases if_some hr with ⟨hc79, hr⟩ | ⟨hc106, hr⟩
  ·obtain ⟨y80, hy80, hr⟩ := bind_some hr
   obtain ⟨y81, hy81, hr⟩ := bind_some hr
   obtain ⟨y82, hy82, hr⟩ := bind_some hr
   refine SeqW.consG rfl rfl rfl hc79 (kBuild (T := (TU8 5)) rfl Try.underlying23 Try.type5 rfl rfl rfl rfl ([y80, y81, y82] : List UInt8) [[Value.int .u8 (UInt8.toNat y80 : Int)], [Value.int .u8 (UInt8.toNat y81 : Int)], [Value.int .u8 (UInt8.toNat y82 : Int)]] rfl rfl rfl (BuildOk.mk (w := (Value.int .u8 (UInt8.toNat y80 : Int))) (by rw [← toU8_some hy80]; exact rfl) rfl rfl rfl (BuildOk.mk (w := (Value.int .u8 (UInt8.toNat y81 : Int))) (by rw [← toU8_some hy81]; exact rfl) rfl rfl rfl (BuildOk.mk (w := (Value.int .u8 (UInt8.toNat y82 : Int))) (by rw [← toU8_some hy82]; exact rfl) rfl rfl rfl trivial))) st ?_)
   intro V83 m84 st O85 sm86 hap87
   obtain ⟨z89, hz90, st93, Q91, hl92⟩ := O85.freeze st
   obtain ⟨y94, hy94, hr⟩ := bind_some hr
   refine SeqW.consG rfl rfl rfl hc79 (StepX.call (gCallee rfl rfl (args1 rfl)) ((c_consist_Check (z := z89) st93.fz st.dead Q91 hy94).mono ?_))
   rintro _ _ ⟨rfl, rfl⟩
   refine SeqW.consG rfl rfl rfl hc79 (StepX.pure (pEql (k := .i64) (a := y94) (b := 14) rfl rfl rfl) ?_)
   refine sx rfl (pPick (t := true) (v := (vB (y94 == 14))) rfl ((congrArg vB hc79)) rfl) ?_
   refine sx rfl (pMove (v := (vB (y94 == 14))) rfl rfl) ?_
   rcases if_some hr with ⟨hc95, hr⟩ | ⟨hc103, hr⟩
   ·refine SeqW.consG rfl rfl rfl hc95 (StepX.pure (pMove (v := (vI x4)) rfl h4) ?_)
    refine SeqW.consG rfl rfl rfl hc95 (StepX.pure (pEql (k := .i64) (a := x4) (b := 11) rfl rfl rfl) ?_)
    refine sx rfl (pPick (t := true) (v := (vB (x4 == 11))) rfl ((congrArg vB hc95)) rfl) ?_
    refine sx rfl (pMove (v := (vB (x4 == 11))) rfl rfl) ?_
    rcases if_some hr with ⟨hc96, hr⟩ | ⟨hc100, hr⟩
    ·refine SeqW.consG rfl rfl rfl hc96 (StepX.pure (pMove (v := (vI x6)) rfl h6) ?_)
     refine SeqW.consG rfl rfl rfl hc96 (StepX.pure (pEql (k := .i64) (a := x6) (b := 10) rfl rfl rfl) ?_)
     refine sx rfl (pPick (t := true) (v := (vB (x6 == 10))) rfl ((congrArg vB hc96)) rfl) ?_
     obtain ⟨y97, hy97, hr⟩ := lt_some hr
     refine sx rfl (pAssign rfl (congrArg vB hy97)) ?_
     refine SeqW.done fun fr98 hf99 => ?_
     have h0 : fr98 0 = (vB y97) := (congrFun hf99 0).trans rfl
     clear hf99
     obtain rfl := Option.some.inj hr
     exact ⟨z, hz, st, rfl, h0, trivial⟩
    ·refine kx rfl rfl rfl hc100 ?_
     refine kx rfl rfl rfl hc100 ?_
     refine sx rfl (pPick (t := false) (v := (vB false)) rfl ((congrArg vB hc100)) rfl) ?_
     refine sx rfl (pAssign (v := (vB false)) rfl rfl) ?_
     refine SeqW.done fun fr101 hf102 => ?_
     have h0 : fr101 0 = (vB false) := (congrFun hf102 0).trans rfl
     clear hf102
     obtain rfl := Option.some.inj hr
     exact ⟨z, hz, st, rfl, h0, trivial⟩
   ·refine kx rfl rfl rfl hc103 ?_
    refine kx rfl rfl rfl hc103 ?_
    refine sx rfl (pPick (t := false) (v := (vB false)) rfl ((congrArg vB hc103)) rfl) ?_
    refine sx rfl (pMove (v := (vB false)) rfl rfl) ?_
    iterate 2 refine kx rfl rfl rfl rfl ?_
    refine sx rfl (pPick (t := false) (v := (vB false)) rfl ((congrArg vB (rfl : false = false))) rfl) ?_
    refine sx rfl (pAssign (v := (vB false)) rfl rfl) ?_
    refine SeqW.done fun fr104 hf105 => ?_
    have h0 : fr104 0 = (vB false) := (congrFun hf105 0).trans rfl
    clear hf105
    obtain rfl := Option.some.inj hr
    exact ⟨z, hz, st, rfl, h0, trivial⟩
  ·refine kx rfl rfl rfl hc106 ?_
   iterate 2 refine kx rfl rfl rfl hc106 ?_
   refine sx rfl (pPick (t := false) (v := (vB false)) rfl ((congrArg vB hc106)) rfl) ?_
   refine sx rfl (pMove (v := (vB false)) rfl rfl) ?_
   iterate 2 refine kx rfl rfl rfl rfl ?_
   refine sx rfl (pPick (t := false) (v := (vB false)) rfl ((congrArg vB (rfl : false = false))) rfl) ?_
   refine sx rfl (pMove (v := (vB false)) rfl rfl) ?_
   iterate 2 refine kx rfl rfl rfl rfl ?_
   refine sx rfl (pPick (t := false) (v := (vB false)) rfl ((congrArg vB (rfl : false = false))) rfl) ?_
   refine sx rfl (pAssign (v := (vB false)) rfl rfl) ?_
   refine SeqW.done fun fr107 hf108 => ?_
   have h0 : fr107 0 = (vB false) := (congrFun hf108 0).trans rfl
   clear hf108
   obtain rfl := Option.some.inj hr
   exact ⟨z, hz, st, rfl, h0, trivial⟩
 ·refine kx rfl rfl rfl hc109 ?_
  iterate 2 refine kx rfl rfl rfl hc109 ?_
  refine sx rfl (pPick (t := false) (v := (vB false)) rfl ((congrArg vB hc109)) rfl) ?_
  refine sx rfl (pMove (v := (vB false)) rfl rfl) ?_
  iterate 3 refine kx rfl rfl rfl rfl ?_
  refine sx rfl (pPick (t := false) (v := (vB false)) rfl ((congrArg vB (rfl : false = false))) rfl) ?_
  refine sx rfl (pMove (v := (vB false)) rfl rfl) ?_
  iterate 2 refine kx rfl rfl rfl rfl ?_
  refine sx rfl (pPick (t := false) (v := (vB false)) rfl ((congrArg vB (rfl : false = false))) rfl) ?_
  refine sx rfl (pMove (v := (vB false)) rfl rfl) ?_
  iterate 2 refine kx rfl rfl rfl rfl ?_
  refine sx rfl (pPick (t := false) (v := (vB false)) rfl ((congrArg vB (rfl : false = false))) rfl) ?_
  refine sx rfl (pAssign (v := (vB false)) rfl rfl) ?_
  refine SeqW.done fun fr110 hf111 => ?_
  have h0 : fr110 0 = (vB false) := (congrFun hf111 0).trans rfl
  clear hf111
  obtain rfl := Option.some.inj hr
  exact ⟨z, hz, st, rfl, h0, trivial⟩

theorem u_l06_sane {N : Nat}  {z0 z : Nat → Blk} {e m : Mem} {k : Option Nat} {fr : Nat → Value} (hz : Zx e.next z0 z) (st : St z e m k)  {r : Bool} (hr : l06_sane N  = some r) : W Try.prog (sub (bodyOf Try.f16) []) (fun ex fr' m' => ∃ z', Zx e.next z0 z' ∧ St z' e m' k ∧ (ex = .normal ∨ ex = .ret) ∧ fr' 0 = (vB r) ∧ True) fr m := by
 unfold l06_sane at hr
 refine W.seq (W.region ?_)
 refine sx rfl (pAssign (v := (vB false)) rfl rfl) ?_
 refine SeqW.done fun fr1 hf2 => ?_
 clear hf2
 refine thenQ.n (W.seq (W.region ?_))
 obtain ⟨y3, hy3, hr⟩ := bind_some hr
 refine SeqW.consX rfl (StepX.call (gCallee rfl rfl (args1 rfl)) ((c_consist_Encode (z := z) st.fz st.dead (SlR.nil (T := TWagon)) hy3).mono ?_))
 rintro _ m8 ⟨z4, V9, hzx5, fz6, sm7, rfl, Q10, -⟩
 replace hz := hz.trans (Zx.here st hzx5)
 replace st := st.call hzx5 fz6 sm7 no_hq
 refine sx rfl (pMove (v := (Value.tuple [V9, (vI y3.2)].toArray)) rfl rfl) ?_
 refine sx rfl (pExtract (vs := [V9, (vI y3.2)]) (v := V9) rfl rfl rfl) ?_
 refine sx rfl (pExtract (vs := [V9, (vI y3.2)]) (v := (vI y3.2)) rfl rfl rfl) ?_
 refine sx rfl (pAssign (v := V9) rfl rfl) ?_
 refine sx rfl (pAssign (v := (vI y3.2)) rfl rfl) ?_
 refine SeqW.done fun fr12 hf13 => ?_
 have h1 : fr12 1 = V9 := (congrFun hf13 1).trans rfl
 have h2 : fr12 2 = (vI y3.2) := (congrFun hf13 2).trans rfl
 clear hf13
 refine thenQ.n (W.seq (W.region ?_))
 obtain ⟨y14, hy14, hr⟩ := bind_some hr
 obtain ⟨y15, hy15, hr⟩ := bind_some hr
 obtain ⟨y16, hy16, hr⟩ := bind_some hr
 obtain ⟨y17, hy17, hr⟩ := bind_some hr
 refine SeqW.consX rfl (kBuild (T := (TU8 5)) rfl Try.underlying23 Try.type5 rfl rfl rfl rfl ([y14, y15, y16, y17] : List UInt8) [[Value.int .u8 (UInt8.toNat y14 : Int)], [Value.int .u8 (UInt8.toNat y15 : Int)], [Value.int .u8 (UInt8.toNat y16 : Int)], [Value.int .u8 (UInt8.toNat y17 : Int)]] rfl rfl rfl (BuildOk.mk (w := (Value.int .u8 (UInt8.toNat y14 : Int))) (by rw [← toU8_some hy14]; exact rfl) rfl rfl rfl (BuildOk.mk (w := (Value.int .u8 (UInt8.toNat y15 : Int))) (by rw [← toU8_some hy15]; exact rfl) rfl rfl rfl (BuildOk.mk (w := (Value.int .u8 (UInt8.toNat y16 : Int))) (by rw [← toU8_some hy16]; exact rfl) rfl rfl rfl (BuildOk.mk (w := (Value.int .u8 (UInt8.toNat y17 : Int))) (by rw [← toU8_some hy17]; exact rfl) rfl rfl rfl trivial)))) st ?_)
 intro V18 m19 st O20 sm21 hap22
 obtain ⟨z24, hz25, st, Q26, hl27⟩ := O20.freeze st
 replace Q10 := Q10.mono hz25.le
 replace hz := hz.trans hz25
 obtain ⟨y28, hy28, hr⟩ := bind_some hr
 refine SeqW.consX rfl (StepX.call (gCallee rfl rfl (args1 rfl)) ((c_consist_Decode (z := z24) st.fz st.dead Q26 hy28).mono ?_))
 rintro _ m33 ⟨z29, V34, hzx30, fz31, sm32, rfl, Q35, -⟩
 replace Q10 := Q10.mono hzx30.le
 replace Q26 := Q26.mono hzx30.le
 replace hz := hz.trans (Zx.here st hzx30)
 replace st := st.call hzx30 fz31 sm32 no_hq
 refine sx rfl (pMove (v := (Value.tuple [V34, (vI y28.2)].toArray)) rfl rfl) ?_
 refine sx rfl (pExtract (vs := [V34, (vI y28.2)]) (v := V34) rfl rfl rfl) ?_
 refine sx rfl (pExtract (vs := [V34, (vI y28.2)]) (v := (vI y28.2)) rfl rfl rfl) ?_
 refine sx rfl (pAssign (v := V34) rfl rfl) ?_
 refine sx rfl (pAssign (v := (vI y28.2)) rfl rfl) ?_
 refine SeqW.done fun fr37 hf38 => ?_
 have h1 := (congrFun hf38 1).trans h1
 have h2 := (congrFun hf38 2).trans h2
 have h4 : fr37 4 = (vI y28.2) := (congrFun hf38 4).trans rfl
 clear hf38
 refine thenQ.n (W.seq (W.region ?_))
 obtain ⟨y39, hy39, hr⟩ := bind_some hr
 obtain ⟨y40, hy40, hr⟩ := bind_some hr
 refine SeqW.consX rfl (kBuild (T := (TU8 5)) rfl Try.underlying23 Try.type5 rfl rfl rfl rfl ([y39, y40] : List UInt8) [[Value.int .u8 (UInt8.toNat y39 : Int)], [Value.int .u8 (UInt8.toNat y40 : Int)]] rfl rfl rfl (BuildOk.mk (w := (Value.int .u8 (UInt8.toNat y39 : Int))) (by rw [← toU8_some hy39]; exact rfl) rfl rfl rfl (BuildOk.mk (w := (Value.int .u8 (UInt8.toNat y40 : Int))) (by rw [← toU8_some hy40]; exact rfl) rfl rfl rfl trivial)) st ?_)
 intro V41 m42 st O43 sm44 hap45
 obtain ⟨z47, hz48, st, Q49, hl50⟩ := O43.freeze st
 replace Q10 := Q10.mono hz48.le
 replace hz := hz.trans hz48
 obtain ⟨y51, hy51, hr⟩ := bind_some hr
 refine SeqW.consX rfl (StepX.call (gCallee rfl rfl (args1 rfl)) ((c_consist_Decode (z := z47) st.fz st.dead Q49 hy51).mono ?_))
 rintro _ m56 ⟨z52, V57, hzx53, fz54, sm55, rfl, Q58, -⟩
 replace Q10 := Q10.mono hzx53.le
 replace Q49 := Q49.mono hzx53.le
 replace hz := hz.trans (Zx.here st hzx53)
 replace st := st.call hzx53 fz54 sm55 no_hq
 refine sx rfl (pMove (v := (Value.tuple [V57, (vI y51.2)].toArray)) rfl rfl) ?_
 refine sx rfl (pExtract (vs := [V57, (vI y51.2)]) (v := V57) rfl rfl rfl) ?_
 refine sx rfl (pExtract (vs := [V57, (vI y51.2)]) (v := (vI y51.2)) rfl rfl rfl) ?_
 refine sx rfl (pAssign (v := V57) rfl rfl) ?_
 refine sx rfl (pAssign (v := (vI y51.2)) rfl rfl) ?_
 refine SeqW.done fun fr60 hf61 => ?_
 have h1 := (congrFun hf61 1).trans h1
 have h2 := (congrFun hf61 2).trans h2
 have h4 := (congrFun hf61 4).trans h4
 have h6 : fr60 6 = (vI y51.2) := (congrFun hf61 6).trans rfl
 clear hf61
 refine thenQ.n (W.seq ?_)
 obtain ⟨y112, hy112, hr⟩ := bind_some hr
 refine W.keep (u_l06_sane_0 (Zx.refl _) st h1 Q10 h2 h4 h6 hy112) ?_
 rintro ex118 fr113 m114 hk116 ⟨z115, hz117, st, rfl, h0, -⟩
 replace hz := hz.trans hz117
 clear hk116
 refine thenQ.n ?_
 refine W.ret ?_
 obtain rfl := Option.some.inj hr
 exact ⟨z115, hz, st, .inr rfl, h0, trivial⟩

theorem c_l06_sane {N : Nat} {z : Nat → Blk} {m : Mem} (fz : Fz z m) (hd : ∀ b, m.next ≤ b → m.blk b = .dead)  {r : Bool} (hr : l06_sane N  = some r) : CallW Try.prog 16 #[] m fun v m' => v = (vB r) ∧ m' = m := by
 refine CallW.flat Try.func16 rfl (by kernel_rfl) (Nat.le_of_ble_eq_true rfl) rfl (z := z) (fun fr hf => ?_)
 refine (u_l06_sane (k := none) (Zx.refl _) (St.start fz hd)  hr).mono ?_
 rintro ex fr' m' ⟨z', hz, st, he, h0, -⟩
 exact ⟨he, z', st, [(vB r)], ⟨h0.symm, trivial⟩, .inl rfl, rfl⟩

/-! ### (*humpyard/humpgen.Maker).Spoil -/

theorem u_Maker_Spoil {N : Nat}  {z0 z : Nat → Blk} {e m : Mem} {k : Option Nat} {fr : Nat → Value} {x0 : Maker} {x1 : List UInt8} {v0_0 : Value} {b0 : Nat} (hz : Zx e.next z0 z) (st : St z e m k) (h0 : fr 0 = (vP b0)) (s0_0 : SlR (TInt 3 .i64) z x0.l v0_0) (bx0 : Bx z e m k b0 [v0_0, (vI x0.n)] 53) (h1 : fr 1 = (str x1)) {r : List UInt8 × Maker} (hr : Maker_Spoil N x0 x1 = some r) : W Try.prog (sub (bodyOf Try.f36) []) (fun ex fr' m' => ∃ z', Zx e.next z0 z' ∧ St z' e m' k ∧ (ex = .normal ∨ ex = .ret) ∧ ∃ (wr_0 : Value), fr' 4 = (str r.1) ∧ SlR (TInt 3 .i64) z' r.2.l wr_0 ∧ Bx z' e m' k b0 [wr_0, (vI r.2.n)] 53 ∧ True) fr m := by
 unfold Maker_Spoil at hr
 refine W.seq (W.region ?_)
 refine sx rfl (pAssign (v := (str [])) rfl rfl) ?_
 refine SeqW.done fun fr1 hf2 => ?_
 have h0 := (congrFun hf2 0).trans h0
 have h1 := (congrFun hf2 1).trans h1
 clear hf2
 refine thenQ.n (W.seq ?_)
 refine W.seq (W.region ?_)
 refine sx rfl (pMove (v := (str x1)) rfl h1) ?_
 refine sx rfl (pEqlS (s := x1) (r := []) rfl rfl rfl) ?_
 refine SeqW.done fun fr3 hf4 => ?_
 have h0 := (congrFun hf4 0).trans h0
 have h1 := (congrFun hf4 1).trans h1
 have h7 : fr3 7 = (vB (x1 == [])) := (congrFun hf4 7).trans rfl
 clear hf4
 refine thenQ.n ?_
 rcases if_some hr with ⟨hc5, hr⟩ | ⟨hc27, hr⟩
 ·refine W.condT h7 hc5 (W.seq (W.region ?_))
  refine sx rfl (pMove (v := (vP b0)) rfl h0) ?_
  obtain ⟨y6, hy6, hr⟩ := bind_some hr
  refine SeqW.consX rfl (StepX.call (gCallee rfl rfl (args2 rfl rfl)) ((c_Maker_Next (x0 := x0) (z := z) st.fz st.dead s0_0 ⟨bx0.blk, bx0.lt, bx0.dead, .inr rfl⟩ hy6).mono ?_))
  rintro _ m11 ⟨z7, V12, hzx8, fz9, sm10, rfl, Q13, X15, -⟩
  replace s0_0 := s0_0.mono hzx8.le
  have bx0n : Bx z7 e m11 k b0 _ _ := ⟨X15.blk, X15.lt, X15.dead, bx0.fresh⟩
  replace hz := hz.trans (Zx.here st hzx8)
  replace st := st.call hzx8 fz9 sm10 bx0.hq
  refine sx rfl (pConv (k := .i64) (a := y6.1) rfl Try.underlying3 Try.underlying5 rfl) ?_
  obtain ⟨y16, hy16, hr⟩ := bind_some hr
  refine SeqW.consX rfl (kBuild (T := (TU8 5)) rfl Try.underlying23 Try.type5 rfl rfl rfl rfl ([y16] : List UInt8) [[Value.int .u8 (UInt8.toNat y16 : Int)]] rfl rfl rfl (BuildOk.mk (w := (Value.int .u8 (UInt8.toNat y16 : Int))) (by rw [← toU8_some hy16]; exact rfl) rfl rfl rfl trivial) st ?_)
  intro V17 m18 st O19 sm20 hap21
  have A23 := hap21 _ bx0n.lt'
  replace bx0n := bx0n.same sm20 Ap.none'
  refine SeqW.consX rfl (kStrO (s := ([y16] : List UInt8)) rfl Try.underlying23 Try.underlying5 Try.underlying9 rfl O19 ?_)
  obtain ⟨y24, hy24, hr⟩ := lt_some hr
  refine sx rfl (pAssign rfl (congrArg str hy24)) ?_
  refine SeqW.done fun fr25 hf26 => ?_
  have h0 := (congrFun hf26 0).trans h0
  have h4 : fr25 4 = (str y24) := (congrFun hf26 4).trans rfl
  clear hf26
  refine thenQ.n ?_
  refine W.ret ?_
  refine thenQ.r ?_
  obtain rfl := Option.some.inj hr
  exact ⟨z7, hz, st, .inr rfl, V12, h4, Q13, bx0n, trivial⟩
 ·refine W.condF h7 hc27 (W.skip ?_)
  refine thenQ.n (W.seq (W.region ?_))
  refine sx rfl (pMove (v := (vP b0)) rfl h0) ?_
  refine sx rfl (pMove (v := (str x1)) rfl h1) ?_
  refine sx rfl (pLenS (s := x1) rfl rfl Try.underlying9 rfl) ?_
  obtain ⟨y28, hy28, hr⟩ := bind_some hr
  refine SeqW.consX rfl (StepX.call (gCallee rfl rfl (args2 rfl rfl)) ((c_Maker_Next (x0 := x0) (z := z) st.fz st.dead s0_0 ⟨bx0.blk, bx0.lt, bx0.dead, .inr rfl⟩ hy28).mono ?_))
  rintro _ m33 ⟨z29, V34, hzx30, fz31, sm32, rfl, Q35, X37, -⟩
  replace s0_0 := s0_0.mono hzx30.le
  have bx0n : Bx z29 e m33 k b0 _ _ := ⟨X37.blk, X37.lt, X37.dead, bx0.fresh⟩
  replace hz := hz.trans (Zx.here st hzx30)
  replace st := st.call hzx30 fz31 sm32 bx0.hq
  refine sx rfl (pAssign (v := (vI y28.1)) rfl rfl) ?_
  refine SeqW.done fun fr38 hf39 => ?_
  have h0 := (congrFun hf39 0).trans h0
  have h1 := (congrFun hf39 1).trans h1
  have h5 : fr38 5 = (vI y28.1) := (congrFun hf39 5).trans rfl
  clear hf39
  refine thenQ.n (W.seq ?_)
  refine W.seq (W.region ?_)
  refine sx rfl (pMove (v := (vP b0)) rfl h0) ?_
  obtain ⟨y40, hy40, hr⟩ := bind_some hr
  refine SeqW.consX rfl (StepX.call (gCallee rfl rfl (args2 rfl rfl)) ((c_Maker_Next (x0 := y28.2) (z := z29) st.fz st.dead Q35 ⟨bx0n.blk, bx0n.lt, bx0n.dead, .inr rfl⟩ hy40).mono ?_))
  rintro _ m45 ⟨z41, V46, hzx42, fz43, sm44, rfl, Q47, X49, -⟩
  replace Q35 := Q35.mono hzx42.le
  have bx0nn : Bx z41 e m45 k b0 _ _ := ⟨X49.blk, X49.lt, X49.dead, bx0n.fresh⟩
  replace hz := hz.trans (Zx.here st hzx42)
  replace st := st.call hzx42 fz43 sm44 bx0n.hq
  refine SeqW.done fun fr50 hf51 => ?_
  have h0 := (congrFun hf51 0).trans h0
  have h1 := (congrFun hf51 1).trans h1
  have h5 := (congrFun hf51 5).trans h5
  have h18 : fr50 18 = (vI y40.1) := (congrFun hf51 18).trans rfl
  clear hf51
  refine thenQ.n ?_
  refine W.block ?_
  refine W.seq (W.region ?_)
  refine sx rfl (pEql (k := .i64) (a := y40.1) (b := 0) rfl h18 rfl) ?_
  obtain ⟨y52, hy52, hr⟩ := lt_some hr
  refine sx rfl (pAssign rfl (congrArg vB hy52)) ?_
  refine SeqW.done fun fr53 hf54 => ?_
  have h0 := (congrFun hf54 0).trans h0
  have h1 := (congrFun hf54 1).trans h1
  have h5 := (congrFun hf54 5).trans h5
  have h18 := (congrFun hf54 18).trans h18
  have h19 : fr53 19 = (vB y52) := (congrFun hf54 19).trans rfl
  clear hf54
  refine thenQ.n ?_
  rcases if_some hr with ⟨hc55, hr⟩ | ⟨hc61, hr⟩
  ·refine W.condT h19 hc55 (W.seq ?_)
   refine W.calm (by decide) ?_
   refine sx rfl (pMove (v := (str x1)) rfl h1) ?_
   refine sx rfl (pMove (v := (vI y28.1)) rfl h5) ?_
   obtain ⟨y56, hy56, hr⟩ := bind_some hr
   refine SeqW.consX rfl (kCutS (s := x1) (a := 0) (b := y28.1) rfl Try.underlying9 rfl rfl ⟨_, rfl⟩ hy56 ?_)
   refine sx rfl (pMove (v := (str x1)) rfl h1) ?_
   refine sx rfl (pMove (v := (vI y28.1)) rfl h5) ?_
   refine sx rfl (pAdd (k := .i64) (a := y28.1) (b := 1) rfl rfl rfl) ?_
   obtain ⟨y57, hy57, hr⟩ := bind_some hr
   refine SeqW.consX rfl (kCutS (s := x1) (a := (IntKind.wrap .i64 (y28.1 + 1))) (b := (x1.length : Int)) rfl Try.underlying9 rfl ⟨_, rfl⟩ rfl hy57 ?_)
   obtain ⟨y58, hy58, hr⟩ := bind_some hr
   refine SeqW.consX rfl (kAddS (s := y56) (r := y57) rfl rfl rfl hy58 ?_)
   refine sx rfl (pAssign (v := (str y58)) rfl rfl) ?_
   refine SeqW.done fun fr59 hf60 => ?_
   have h0 := (congrFun hf60 0).trans h0
   have h4 : fr59 4 = (str y58) := (congrFun hf60 4).trans rfl
   clear hf60
   refine thenQ.n ?_
   refine W.ret ?_
   refine blockQ.r ?_
   refine thenQ.r ?_
   obtain rfl := Option.some.inj hr
   exact ⟨z41, hz, st, .inr rfl, V46, h4, Q47, bx0nn, trivial⟩
  ·refine W.condF h19 hc61 (W.seq (W.region ?_))
   refine sx rfl (pEql (k := .i64) (a := y40.1) (b := 1) rfl h18 rfl) ?_
   obtain ⟨y62, hy62, hr⟩ := lt_some hr
   refine sx rfl (pAssign rfl (congrArg vB hy62)) ?_
   refine SeqW.done fun fr63 hf64 => ?_
   have h0 := (congrFun hf64 0).trans h0
   have h1 := (congrFun hf64 1).trans h1
   have h5 := (congrFun hf64 5).trans h5
   have h18 := (congrFun hf64 18).trans h18
   have h29 : fr63 29 = (vB y62) := (congrFun hf64 29).trans rfl
   clear hf64
   refine thenQ.n ?_
   rcases if_some hr with ⟨hc65, hr⟩ | ⟨hc93, hr⟩
   ·refine W.condT h29 hc65 (W.seq ?_)
    refine W.draw ?_
    refine DrawW.cons rfl (StepX.pure (pMove (v := (str x1)) rfl h1) ?_)
    refine ⟨trivial, ?_⟩
    refine DrawW.cons rfl (StepX.pure (pMove (v := (vI y28.1)) rfl h5) ?_)
    refine ⟨trivial, ?_⟩
    obtain ⟨y66, hy66, hr⟩ := bind_some hr
    refine DrawW.cons rfl (kCutS (s := x1) (a := 0) (b := y28.1) rfl Try.underlying9 rfl rfl ⟨_, rfl⟩ hy66 ?_)
    refine ⟨trivial, ?_⟩
    refine DrawW.cons rfl (StepX.pure (pMove (v := (vP b0)) rfl h0) ?_)
    refine ⟨trivial, ?_⟩
    have sto67 := st
    have old68 := bx0nn
    obtain ⟨y69, hy69, hr⟩ := bind_some hr
    refine DrawW.cons rfl (StepX.call (gCallee rfl rfl (args2 rfl rfl)) ((c_Maker_Next (x0 := y40.2) (z := z41) st.fz st.dead Q47 ⟨bx0nn.blk, bx0nn.lt, bx0nn.dead, .inr rfl⟩ hy69).mono ?_))
    rintro _ m74 ⟨z70, V75, hzx71, fz72, sm73, rfl, Q76, X78, -⟩
    have sr79 := Q47
    replace Q47 := Q47.mono hzx71.le
    have bx0nnn : Bx z70 e m74 k b0 _ _ := ⟨X78.blk, X78.lt, X78.dead, bx0nn.fresh⟩
    replace hz := hz.trans (Zx.here st hzx71)
    replace st := st.call hzx71 fz72 sm73 bx0nn.hq
    refine ⟨⟨?_, ?_⟩, ?_⟩
    ·exact demN
    ·exact demN
    refine DrawW.cons rfl (StepX.pure (pConv (k := .i64) (a := y69.1) rfl Try.underlying3 Try.underlying5 rfl) ?_)
    refine ⟨trivial, ?_⟩
    obtain ⟨y80, hy80, hr⟩ := bind_some hr
    refine DrawW.cons rfl (kBuild (T := (TU8 5)) rfl Try.underlying23 Try.type5 rfl rfl rfl rfl ([y80] : List UInt8) [[Value.int .u8 (UInt8.toNat y80 : Int)]] rfl rfl rfl (BuildOk.mk (w := (Value.int .u8 (UInt8.toNat y80 : Int))) (by rw [← toU8_some hy80]; exact rfl) rfl rfl rfl trivial) st ?_)
    intro V81 m82 st O83 sm84 hap85
    have A87 := hap85 _ bx0nnn.lt'
    replace bx0nnn := bx0nnn.same sm84 Ap.none'
    refine ⟨trivial, ?_⟩
    refine DrawW.cons rfl (kStrO (s := ([y80] : List UInt8)) rfl Try.underlying23 Try.underlying5 Try.underlying9 rfl O83 ?_)
    refine ⟨?_, ?_⟩
    ·first | refine demP (rStr rfl Try.underlying23 Try.underlying5 Try.underlying9 rfl (O83.ow.src) (by obtain ⟨a, c, rfl⟩ := O83.ow.len; exact ⟨_, _, _, rfl⟩)) ?_ | refine demA (by decide) ?_
     exact demN
    obtain ⟨y88, hy88, hr⟩ := bind_some hr
    refine DrawW.cons rfl (kAddS (s := y66) (r := ([y80] : List UInt8)) rfl rfl rfl hy88 ?_)
    refine ⟨trivial, ?_⟩
    refine DrawW.cons rfl (StepX.pure (pMove (v := (str x1)) rfl h1) ?_)
    refine ⟨trivial, ?_⟩
    refine DrawW.cons rfl (StepX.pure (pMove (v := (vI y28.1)) rfl h5) ?_)
    refine ⟨trivial, ?_⟩
    obtain ⟨y89, hy89, hr⟩ := bind_some hr
    refine DrawW.cons rfl (kCutS (s := x1) (a := y28.1) (b := (x1.length : Int)) rfl Try.underlying9 rfl ⟨_, rfl⟩ rfl hy89 ?_)
    refine ⟨trivial, ?_⟩
    obtain ⟨y90, hy90, hr⟩ := bind_some hr
    refine DrawW.cons rfl (kAddS (s := y88) (r := y89) rfl rfl rfl hy90 ?_)
    refine ⟨trivial, ?_⟩
    refine DrawW.cons rfl (StepX.pure (pAssign (v := (str y90)) rfl rfl) ?_)
    refine ⟨trivial, ?_⟩
    refine DrawW.done fun fr91 hf92 => ?_
    have h0 := (congrFun hf92 0).trans h0
    have h4 : fr91 4 = (str y90) := (congrFun hf92 4).trans rfl
    clear hf92
    refine thenQ.n ?_
    refine W.ret ?_
    refine blockQ.r ?_
    refine thenQ.r ?_
    obtain rfl := Option.some.inj hr
    exact ⟨z70, hz, st, .inr rfl, V75, h4, Q76, bx0nnn, trivial⟩
   ·refine W.condF h29 hc93 (W.seq (W.region ?_))
    refine sx rfl (pEql (k := .i64) (a := y40.1) (b := 2) rfl h18 rfl) ?_
    obtain ⟨y94, hy94, hr⟩ := lt_some hr
    refine sx rfl (pAssign rfl (congrArg vB hy94)) ?_
    refine SeqW.done fun fr95 hf96 => ?_
    have h0 := (congrFun hf96 0).trans h0
    have h1 := (congrFun hf96 1).trans h1
    have h5 := (congrFun hf96 5).trans h5
    have h44 : fr95 44 = (vB y94) := (congrFun hf96 44).trans rfl
    clear hf96
    refine thenQ.n ?_
    rcases if_some hr with ⟨hc97, hr⟩ | ⟨hc125, hr⟩
    ·refine W.condT h44 hc97 (W.seq ?_)
     refine W.draw ?_
     refine DrawW.cons rfl (StepX.pure (pMove (v := (str x1)) rfl h1) ?_)
     refine ⟨trivial, ?_⟩
     refine DrawW.cons rfl (StepX.pure (pMove (v := (vI y28.1)) rfl h5) ?_)
     refine ⟨trivial, ?_⟩
     obtain ⟨y98, hy98, hr⟩ := bind_some hr
     refine DrawW.cons rfl (kCutS (s := x1) (a := 0) (b := y28.1) rfl Try.underlying9 rfl rfl ⟨_, rfl⟩ hy98 ?_)
     refine ⟨trivial, ?_⟩
     refine DrawW.cons rfl (StepX.pure (pMove (v := (vP b0)) rfl h0) ?_)
     refine ⟨trivial, ?_⟩
     have sto99 := st
     have old100 := bx0nn
     obtain ⟨y101, hy101, hr⟩ := bind_some hr
     refine DrawW.cons rfl (StepX.call (gCallee rfl rfl (args2 rfl rfl)) ((c_Maker_Next (x0 := y40.2) (z := z41) st.fz st.dead Q47 ⟨bx0nn.blk, bx0nn.lt, bx0nn.dead, .inr rfl⟩ hy101).mono ?_))
     rintro _ m106 ⟨z102, V107, hzx103, fz104, sm105, rfl, Q108, X110, -⟩
     have sr111 := Q47
     replace Q47 := Q47.mono hzx103.le
     have bx0nnn : Bx z102 e m106 k b0 _ _ := ⟨X110.blk, X110.lt, X110.dead, bx0nn.fresh⟩
     replace hz := hz.trans (Zx.here st hzx103)
     replace st := st.call hzx103 fz104 sm105 bx0nn.hq
     refine ⟨⟨?_, ?_⟩, ?_⟩
     ·exact demN
     ·exact demN
     refine DrawW.cons rfl (StepX.pure (pAdd (k := .i64) (a := 48) (b := y101.1) rfl rfl rfl) ?_)
     refine ⟨trivial, ?_⟩
     refine DrawW.cons rfl (StepX.pure (pConv (k := .i64) (a := (IntKind.wrap .i64 (48 + y101.1))) rfl Try.underlying3 Try.underlying5 rfl) ?_)
     refine ⟨trivial, ?_⟩
     obtain ⟨y112, hy112, hr⟩ := bind_some hr
     refine DrawW.cons rfl (kBuild (T := (TU8 5)) rfl Try.underlying23 Try.type5 rfl rfl rfl rfl ([y112] : List UInt8) [[Value.int .u8 (UInt8.toNat y112 : Int)]] rfl rfl rfl (BuildOk.mk (w := (Value.int .u8 (UInt8.toNat y112 : Int))) (by rw [← toU8_some hy112]; exact rfl) rfl rfl rfl trivial) st ?_)
     intro V113 m114 st O115 sm116 hap117
     have A119 := hap117 _ bx0nnn.lt'
     replace bx0nnn := bx0nnn.same sm116 Ap.none'
     refine ⟨trivial, ?_⟩
     refine DrawW.cons rfl (kStrO (s := ([y112] : List UInt8)) rfl Try.underlying23 Try.underlying5 Try.underlying9 rfl O115 ?_)
     refine ⟨?_, ?_⟩
     ·first | refine demP (rStr rfl Try.underlying23 Try.underlying5 Try.underlying9 rfl (O115.ow.src) (by obtain ⟨a, c, rfl⟩ := O115.ow.len; exact ⟨_, _, _, rfl⟩)) ?_ | refine demA (by decide) ?_
      exact demN
     obtain ⟨y120, hy120, hr⟩ := bind_some hr
     refine DrawW.cons rfl (kAddS (s := y98) (r := ([y112] : List UInt8)) rfl rfl rfl hy120 ?_)
     refine ⟨trivial, ?_⟩
     refine DrawW.cons rfl (StepX.pure (pMove (v := (str x1)) rfl h1) ?_)
     refine ⟨trivial, ?_⟩
     refine DrawW.cons rfl (StepX.pure (pMove (v := (vI y28.1)) rfl h5) ?_)
     refine ⟨trivial, ?_⟩
     refine DrawW.cons rfl (StepX.pure (pAdd (k := .i64) (a := y28.1) (b := 1) rfl rfl rfl) ?_)
     refine ⟨trivial, ?_⟩
     obtain ⟨y121, hy121, hr⟩ := bind_some hr
     refine DrawW.cons rfl (kCutS (s := x1) (a := (IntKind.wrap .i64 (y28.1 + 1))) (b := (x1.length : Int)) rfl Try.underlying9 rfl ⟨_, rfl⟩ rfl hy121 ?_)
     refine ⟨trivial, ?_⟩
     obtain ⟨y122, hy122, hr⟩ := bind_some hr
     refine DrawW.cons rfl (kAddS (s := y120) (r := y121) rfl rfl rfl hy122 ?_)
     refine ⟨trivial, ?_⟩
     refine DrawW.cons rfl (StepX.pure (pAssign (v := (str y122)) rfl rfl) ?_)
     refine ⟨trivial, ?_⟩
     refine DrawW.done fun fr123 hf124 => ?_
     have h0 := (congrFun hf124 0).trans h0
     have h4 : fr123 4 = (str y122) := (congrFun hf124 4).trans rfl
     clear hf124
     refine thenQ.n ?_
     refine W.ret ?_
     refine blockQ.r ?_
     refine thenQ.r ?_
     obtain rfl := Option.some.inj hr
     exact ⟨z102, hz, st, .inr rfl, V107, h4, Q108, bx0nnn, trivial⟩
    ·refine W.condF h44 hc125 (W.skip ?_)
     refine blockQ.n ?_
     refine thenQ.n (W.seq ?_)
     refine W.draw ?_
     refine DrawW.cons rfl (StepX.pure (pMove (v := (str x1)) rfl h1) ?_)
     refine ⟨trivial, ?_⟩
     refine DrawW.cons rfl (StepX.pure (pMove (v := (vI y28.1)) rfl h5) ?_)
     refine ⟨trivial, ?_⟩
     obtain ⟨y126, hy126, hr⟩ := bind_some hr
     refine DrawW.cons rfl (kCutS (s := x1) (a := 0) (b := y28.1) rfl Try.underlying9 rfl rfl ⟨_, rfl⟩ hy126 ?_)
     refine ⟨trivial, ?_⟩
     refine DrawW.cons rfl (StepX.pure (pMove (v := (vP b0)) rfl h0) ?_)
     refine ⟨trivial, ?_⟩
     have sto127 := st
     have old128 := bx0nn
     obtain ⟨y129, hy129, hr⟩ := bind_some hr
     refine DrawW.cons rfl (StepX.call (gCallee rfl rfl (args2 rfl rfl)) ((c_Maker_Next (x0 := y40.2) (z := z41) st.fz st.dead Q47 ⟨bx0nn.blk, bx0nn.lt, bx0nn.dead, .inr rfl⟩ hy129).mono ?_))
     rintro _ m134 ⟨z130, V135, hzx131, fz132, sm133, rfl, Q136, X138, -⟩
     have sr139 := Q47
     replace Q47 := Q47.mono hzx131.le
     have bx0nnn : Bx z130 e m134 k b0 _ _ := ⟨X138.blk, X138.lt, X138.dead, bx0nn.fresh⟩
     replace hz := hz.trans (Zx.here st hzx131)
     replace st := st.call hzx131 fz132 sm133 bx0nn.hq
     refine ⟨⟨?_, ?_⟩, ?_⟩
     ·exact demN
     ·exact demN
     refine DrawW.cons rfl (StepX.pure (pConv (k := .i64) (a := y129.1) rfl Try.underlying3 Try.underlying5 rfl) ?_)
     refine ⟨trivial, ?_⟩
     obtain ⟨y140, hy140, hr⟩ := bind_some hr
     refine DrawW.cons rfl (kBuild (T := (TU8 5)) rfl Try.underlying23 Try.type5 rfl rfl rfl rfl ([y140] : List UInt8) [[Value.int .u8 (UInt8.toNat y140 : Int)]] rfl rfl rfl (BuildOk.mk (w := (Value.int .u8 (UInt8.toNat y140 : Int))) (by rw [← toU8_some hy140]; exact rfl) rfl rfl rfl trivial) st ?_)
     intro V141 m142 st O143 sm144 hap145
     have A147 := hap145 _ bx0nnn.lt'
     replace bx0nnn := bx0nnn.same sm144 Ap.none'
     refine ⟨trivial, ?_⟩
     refine DrawW.cons rfl (kStrO (s := ([y140] : List UInt8)) rfl Try.underlying23 Try.underlying5 Try.underlying9 rfl O143 ?_)
     refine ⟨?_, ?_⟩
     ·first | refine demP (rStr rfl Try.underlying23 Try.underlying5 Try.underlying9 rfl (O143.ow.src) (by obtain ⟨a, c, rfl⟩ := O143.ow.len; exact ⟨_, _, _, rfl⟩)) ?_ | refine demA (by decide) ?_
      exact demN
     obtain ⟨y148, hy148, hr⟩ := bind_some hr
     refine DrawW.cons rfl (kAddS (s := y126) (r := ([y140] : List UInt8)) rfl rfl rfl hy148 ?_)
     refine ⟨trivial, ?_⟩
     refine DrawW.cons rfl (StepX.pure (pMove (v := (str x1)) rfl h1) ?_)
     refine ⟨trivial, ?_⟩
     refine DrawW.cons rfl (StepX.pure (pMove (v := (vI y28.1)) rfl h5) ?_)
     refine ⟨trivial, ?_⟩
     refine DrawW.cons rfl (StepX.pure (pAdd (k := .i64) (a := y28.1) (b := 1) rfl rfl rfl) ?_)
     refine ⟨trivial, ?_⟩
     obtain ⟨y149, hy149, hr⟩ := bind_some hr
     refine DrawW.cons rfl (kCutS (s := x1) (a := (IntKind.wrap .i64 (y28.1 + 1))) (b := (x1.length : Int)) rfl Try.underlying9 rfl ⟨_, rfl⟩ rfl hy149 ?_)
     refine ⟨trivial, ?_⟩
     obtain ⟨y150, hy150, hr⟩ := bind_some hr
     refine DrawW.cons rfl (kAddS (s := y148) (r := y149) rfl rfl rfl hy150 ?_)
     refine ⟨trivial, ?_⟩
     refine DrawW.cons rfl (StepX.pure (pAssign (v := (str y150)) rfl rfl) ?_)
     refine ⟨trivial, ?_⟩
     refine DrawW.done fun fr151 hf152 => ?_
     have h0 := (congrFun hf152 0).trans h0
     have h4 : fr151 4 = (str y150) := (congrFun hf152 4).trans rfl
     clear hf152
     refine thenQ.n ?_
     refine W.ret ?_
     obtain rfl := Option.some.inj hr
     exact ⟨z130, hz, st, .inr rfl, V135, h4, Q136, bx0nnn, trivial⟩

theorem c_Maker_Spoil {N : Nat} {z : Nat → Blk} {m : Mem} {x0 : Maker} {x1 : List UInt8} {v0_0 : Value} {b0 : Nat} (fz : Fz z m) (hd : ∀ b, m.next ≤ b → m.blk b = .dead) (s0_0 : SlR (TInt 3 .i64) z x0.l v0_0) (bx0 : Bx z m m (some b0) b0 [v0_0, (vI x0.n)] 53) {r : List UInt8 × Maker} (hr : Maker_Spoil N x0 x1 = some r) : CallW Try.prog 36 #[(vP b0), (str x1)] m fun v m' => ∃ z' wr_0, Zx m.next z z' ∧ Fz z' m' ∧ Same m m' (some b0) ∧ v = (str r.1) ∧ SlR (TInt 3 .i64) z' r.2.l wr_0 ∧ Bx z' m m' (some b0) b0 [wr_0, (vI r.2.n)] 53 ∧ True := by
 refine CallW.any Try.func36 rfl (by kernel_rfl) (Nat.le_of_ble_eq_true rfl) (fun fr hf => ?_)
 have h0 : fr 0 = _ := hf 0 _ rfl
 have h1 : fr 1 = _ := hf 1 _ rfl
 refine (u_Maker_Spoil (k := (some b0)) (Zx.refl _) (St.start fz hd) h0 s0_0 bx0 h1 hr).mono ?_
 rintro ex fr' m' ⟨z', hz, st, he, wr_0, h4, sr_0, bxr, -⟩
 exact ⟨he, [(str r.1)], ⟨h4.symm, trivial⟩, .inl rfl, z', wr_0, hz, st.fz, st.toSame, rfl, sr_0, bxr, trivial⟩

/-! ### (*humpyard/humpgen.Maker).SpoilWagon -/

theorem u_Maker_SpoilWagon_0 {N : Nat}  {z0 z : Nat → Blk} {e m : Mem} {k : Option Nat} {fr : Nat → Value} {x0 : Maker} {x3 : Wagon} {x6 : Int} {v0_0 : Value} {b0 : Nat} {b3 : Nat} {x4 : Wagon} {b4 : Nat} (hz : Zx e.next z0 z) (st : St z e m k) (h0 : fr 0 = (vP b0)) (s0_0 : SlR (TInt 3 .i64) z x0.l v0_0) (bx0 : Bx z e m k b0 [v0_0, (vI x0.n)] 53) (h3 : fr 3 = (vP b3)) (bx3 : Bx z e m k b3 [(str x3.number), (vI x3.length), (vI x3.axles), (vI x3.mass), (vI x3.brake), (vI x3.goods), (vB x3.gentle), (str x3.dest)] 42) (h4 : fr 4 = (vP b4)) (bx4 : Bx z e m k b4 [(str x4.number), (vI x4.length), (vI x4.axles), (vI x4.mass), (vI x4.brake), (vI x4.goods), (vB x4.gentle), (str x4.dest)] 42) (h6 : fr 6 = (vI x6)) (ao0_o3 : Ap (some b0) (some b3)) (ao0_o4 : Ap (some b0) (some b4)) (ao3_o4 : Ap (some b3) (some b4)) {r : Maker × Wagon} (hr : Maker_SpoilWagon_0 N x0 x3 x6 = some r) : W Try.prog (sub (bodyOf Try.f20) [1, 0, 1]) (fun ex fr' m' => ∃ z', Zx e.next z0 z' ∧ St z' e m' k ∧ ex = AExit.normal ∧ ∃ (w0_0 : Value), fr' 0 = (vP b0) ∧ SlR (TInt 3 .i64) z' r.1.l w0_0 ∧ Bx z' e m' k b0 [w0_0, (vI r.1.n)] 53 ∧ fr' 3 = (vP b3) ∧ Bx z' e m' k b3 [(str r.2.number), (vI r.2.length), (vI r.2.axles), (vI r.2.mass), (vI r.2.brake), (vI r.2.goods), (vB r.2.gentle), (str r.2.dest)] 42 ∧ Bx z' e m' k b4 [(str x4.number), (vI x4.length), (vI x4.axles), (vI x4.mass), (vI x4.brake), (vI x4.goods), (vB x4.gentle), (str x4.dest)] 42 ∧ Ap (some b0) (some b3) ∧ Ap (some b0) (some b4) ∧ Ap (some b3) (some b4) ∧ True) fr m := by
 unfold Maker_SpoilWagon_0 at hr
 refine W.block ?_
 refine W.seq (W.region ?_)
 refine sx rfl (pEql (k := .i64) (a := x6) (b := 0) rfl h6 rfl) ?_
 obtain ⟨y30, hy30, hr⟩ := lt_some hr
 refine sx rfl (pAssign rfl (congrArg vB hy30)) ?_
 refine SeqW.done fun fr31 hf32 => ?_
 have h0 := (congrFun hf32 0).trans h0
 have h3 := (congrFun hf32 3).trans h3
 have h4 := (congrFun hf32 4).trans h4
 have h6 := (congrFun hf32 6).trans h6
 have h7 : fr31 7 = (vB y30) := (congrFun hf32 7).trans rfl
 clear hf32
 refine thenQ.n ?_
 rcases if_some hr with ⟨hc33, hr⟩ | ⟨hc48, hr⟩
 ·refine W.condT h7 hc33 (W.region ?_)
  refine sx rfl (pMove (v := (vP b0)) rfl h0) ?_
  refine SeqW.consX rfl (kField rfl Try.underlying42 rfl Try.type9 rfl h3 rfl ?_)
  refine SeqW.consX rfl (kLoad rfl Try.underlying9 rfl rfl (bx3.load (v := (str x3.number)) rfl) ?_)
  obtain ⟨y34, hy34, hr⟩ := bind_some hr
  refine SeqW.consX rfl (StepX.call (gCallee rfl rfl (args2 rfl rfl)) ((c_Maker_Spoil (x0 := x0) (z := z) st.fz st.dead s0_0 ⟨bx0.blk, bx0.lt, bx0.dead, .inr rfl⟩ hy34).mono ?_))
  rintro _ m39 ⟨z35, V40, hzx36, fz37, sm38, rfl, Q41, X43, -⟩
  replace s0_0 := s0_0.mono hzx36.le
  replace bx3 := bx3.call hzx36 sm38 (Ap.symm ao0_o3)
  replace bx4 := bx4.call hzx36 sm38 (Ap.symm ao0_o4)
  have bx0n : Bx z35 e m39 k b0 _ _ := ⟨X43.blk, X43.lt, X43.dead, bx0.fresh⟩
  replace hz := hz.trans (Zx.here st hzx36)
  replace st := st.call hzx36 fz37 sm38 bx0.hq
  refine SeqW.consX rfl (kField rfl Try.underlying42 rfl Try.type9 rfl h3 rfl ?_)
  refine SeqW.consX rfl (kPut (off := 0) (w := (str y34.1)) (new := [(str y34.1)]) rfl Try.type9 rfl rfl rfl rfl rfl bx3 rfl [(str y34.1), (vI x3.length), (vI x3.axles), (vI x3.mass), (vI x3.brake), (vI x3.goods), (vB x3.gentle), (str x3.dest)] rfl st ?_)
  intro m44 st bx3 sm45
  replace bx0n := bx0n.same sm45 ao0_o3
  replace bx4 := bx4.same sm45 (Ap.symm ao3_o4)
  refine SeqW.done fun fr46 hf47 => ?_
  have h0 := (congrFun hf47 0).trans h0
  have h3 := (congrFun hf47 3).trans h3
  have h4 := (congrFun hf47 4).trans h4
  clear hf47
  refine blockQ.n ?_
  obtain rfl := Option.some.inj hr
  exact ⟨z35, hz, st, rfl, V40, h0, Q41, bx0n, h3, bx3, bx4, ao0_o3, ao0_o4, ao3_o4, trivial⟩
 ·refine W.condF h7 hc48 (W.seq (W.region ?_))
  refine sx rfl (pEql (k := .i64) (a := x6) (b := 1) rfl h6 rfl) ?_
  obtain ⟨y49, hy49, hr⟩ := lt_some hr
  refine sx rfl (pAssign rfl (congrArg vB hy49)) ?_
  refine SeqW.done fun fr50 hf51 => ?_
  have h0 := (congrFun hf51 0).trans h0
  have h3 := (congrFun hf51 3).trans h3
  have h4 := (congrFun hf51 4).trans h4
  have h6 := (congrFun hf51 6).trans h6
  have h14 : fr50 14 = (vB y49) := (congrFun hf51 14).trans rfl
  clear hf51
  refine thenQ.n ?_
  rcases if_some hr with ⟨hc52, hr⟩ | ⟨hc80, hr⟩
  ·refine W.condT h14 hc52 (W.region ?_)
   refine sx rfl (pMove (v := (vP b0)) rfl h0) ?_
   refine SeqW.consX rfl (kBuild (T := (TInt 3 .i64)) rfl Try.underlying22 Try.type3 rfl rfl rfl rfl ([0, 2, 4, 6, 8, (-1)] : List Int) [[(vI 0)], [(vI 2)], [(vI 4)], [(vI 6)], [(vI 8)], [(vI (-1))]] rfl rfl rfl (BuildOk.mk (w := (vI 0)) rfl rfl rfl rfl (BuildOk.mk (w := (vI 2)) rfl rfl rfl rfl (BuildOk.mk (w := (vI 4)) rfl rfl rfl rfl (BuildOk.mk (w := (vI 6)) rfl rfl rfl rfl (BuildOk.mk (w := (vI 8)) rfl rfl rfl rfl (BuildOk.mk (w := (vI (-1))) rfl rfl rfl rfl trivial)))))) st ?_)
   intro V53 m54 st O55 sm56 hap57
   have A59 := hap57 _ bx0.lt'
   have A60 := hap57 _ bx3.lt'
   have A61 := hap57 _ bx4.lt'
   replace bx0 := bx0.same sm56 Ap.none'
   replace bx3 := bx3.same sm56 Ap.none'
   replace bx4 := bx4.same sm56 Ap.none'
   obtain ⟨z62, hz63, st, Q64, hl65⟩ := O55.freeze st
   replace s0_0 := s0_0.mono hz63.le
   replace bx0 := bx0.zle (hl65 _ A59)
   replace bx3 := bx3.zle (hl65 _ A60)
   replace bx4 := bx4.zle (hl65 _ A61)
   replace hz := hz.trans hz63
   obtain ⟨y66, hy66, hr⟩ := bind_some hr
   refine SeqW.consX rfl (StepX.call (gCallee rfl rfl (args2 rfl rfl)) ((c_Maker_Pick (x0 := x0) (z := z62) st.fz st.dead s0_0 ⟨bx0.blk, bx0.lt, bx0.dead, .inr rfl⟩ Q64 hy66).mono ?_))
   rintro _ m71 ⟨z67, V72, hzx68, fz69, sm70, rfl, Q73, X75, -⟩
   replace s0_0 := s0_0.mono hzx68.le
   replace bx3 := bx3.call hzx68 sm70 (Ap.symm ao0_o3)
   replace bx4 := bx4.call hzx68 sm70 (Ap.symm ao0_o4)
   replace Q64 := Q64.mono hzx68.le
   have bx0n : Bx z67 e m71 k b0 _ _ := ⟨X75.blk, X75.lt, X75.dead, bx0.fresh⟩
   replace hz := hz.trans (Zx.here st hzx68)
   replace st := st.call hzx68 fz69 sm70 bx0.hq
   refine SeqW.consX rfl (kField rfl Try.underlying42 rfl Try.type3 rfl h3 rfl ?_)
   refine SeqW.consX rfl (kPut (off := 2) (w := (vI y66.1)) (new := [(vI y66.1)]) rfl Try.type3 rfl rfl rfl rfl rfl bx3 rfl [(str x3.number), (vI x3.length), (vI y66.1), (vI x3.mass), (vI x3.brake), (vI x3.goods), (vB x3.gentle), (str x3.dest)] rfl st ?_)
   intro m76 st bx3 sm77
   replace bx0n := bx0n.same sm77 ao0_o3
   replace bx4 := bx4.same sm77 (Ap.symm ao3_o4)
   refine SeqW.done fun fr78 hf79 => ?_
   have h0 := (congrFun hf79 0).trans h0
   have h3 := (congrFun hf79 3).trans h3
   have h4 := (congrFun hf79 4).trans h4
   clear hf79
   refine blockQ.n ?_
   obtain rfl := Option.some.inj hr
   exact ⟨z67, hz, st, rfl, V72, h0, Q73, bx0n, h3, bx3, bx4, ao0_o3, ao0_o4, ao3_o4, trivial⟩
  ·refine W.condF h14 hc80 (W.seq (W.region ?_))
   refine sx rfl (pEql (k := .i64) (a := x6) (b := 2) rfl h6 rfl) ?_
   obtain ⟨y81, hy81, hr⟩ := lt_some hr
   refine sx rfl (pAssign rfl (congrArg vB hy81)) ?_
   refine SeqW.done fun fr82 hf83 => ?_
   have h0 := (congrFun hf83 0).trans h0
   have h3 := (congrFun hf83 3).trans h3
   have h4 := (congrFun hf83 4).trans h4
   have h6 := (congrFun hf83 6).trans h6
   have h20 : fr82 20 = (vB y81) := (congrFun hf83 20).trans rfl
   clear hf83
   refine thenQ.n ?_
   rcases if_some hr with ⟨hc84, hr⟩ | ⟨hc112, hr⟩
   ·refine W.condT h20 hc84 (W.region ?_)
    refine sx rfl (pMove (v := (vP b0)) rfl h0) ?_
    refine SeqW.consX rfl (kBuild (T := (TInt 3 .i64)) rfl Try.underlying22 Try.type3 rfl rfl rfl rfl ([79, 80, 119, 401, 0, (-5)] : List Int) [[(vI 79)], [(vI 80)], [(vI 119)], [(vI 401)], [(vI 0)], [(vI (-5))]] rfl rfl rfl (BuildOk.mk (w := (vI 79)) rfl rfl rfl rfl (BuildOk.mk (w := (vI 80)) rfl rfl rfl rfl (BuildOk.mk (w := (vI 119)) rfl rfl rfl rfl (BuildOk.mk (w := (vI 401)) rfl rfl rfl rfl (BuildOk.mk (w := (vI 0)) rfl rfl rfl rfl (BuildOk.mk (w := (vI (-5))) rfl rfl rfl rfl trivial)))))) st ?_)
    intro V85 m86 st O87 sm88 hap89
    have A91 := hap89 _ bx0.lt'
    have A92 := hap89 _ bx3.lt'
    have A93 := hap89 _ bx4.lt'
    replace bx0 := bx0.same sm88 Ap.none'
    replace bx3 := bx3.same sm88 Ap.none'
    replace bx4 := bx4.same sm88 Ap.none'
    obtain ⟨z94, hz95, st, Q96, hl97⟩ := O87.freeze st
    replace s0_0 := s0_0.mono hz95.le
    replace bx0 := bx0.zle (hl97 _ A91)
    replace bx3 := bx3.zle (hl97 _ A92)
    replace bx4 := bx4.zle (hl97 _ A93)
    replace hz := hz.trans hz95
    obtain ⟨y98, hy98, hr⟩ := bind_some hr
    refine SeqW.consX rfl (StepX.call (gCallee rfl rfl (args2 rfl rfl)) ((c_Maker_Pick (x0 := x0) (z := z94) st.fz st.dead s0_0 ⟨bx0.blk, bx0.lt, bx0.dead, .inr rfl⟩ Q96 hy98).mono ?_))
    rintro _ m103 ⟨z99, V104, hzx100, fz101, sm102, rfl, Q105, X107, -⟩
    replace s0_0 := s0_0.mono hzx100.le
    replace bx3 := bx3.call hzx100 sm102 (Ap.symm ao0_o3)
    replace bx4 := bx4.call hzx100 sm102 (Ap.symm ao0_o4)
    replace Q96 := Q96.mono hzx100.le
    have bx0n : Bx z99 e m103 k b0 _ _ := ⟨X107.blk, X107.lt, X107.dead, bx0.fresh⟩
    replace hz := hz.trans (Zx.here st hzx100)
    replace st := st.call hzx100 fz101 sm102 bx0.hq
    refine SeqW.consX rfl (kField rfl Try.underlying42 rfl Try.type3 rfl h3 rfl ?_)
    refine SeqW.consX rfl (kPut (off := 1) (w := (vI y98.1)) (new := [(vI y98.1)]) rfl Try.type3 rfl rfl rfl rfl rfl bx3 rfl [(str x3.number), (vI y98.1), (vI x3.axles), (vI x3.mass), (vI x3.brake), (vI x3.goods), (vB x3.gentle), (str x3.dest)] rfl st ?_)
    intro m108 st bx3 sm109
    replace bx0n := bx0n.same sm109 ao0_o3
    replace bx4 := bx4.same sm109 (Ap.symm ao3_o4)
    refine SeqW.done fun fr110 hf111 => ?_
    have h0 := (congrFun hf111 0).trans h0
    have h3 := (congrFun hf111 3).trans h3
    have h4 := (congrFun hf111 4).trans h4
    clear hf111
    refine blockQ.n ?_
    obtain rfl := Option.some.inj hr
    exact ⟨z99, hz, st, rfl, V104, h0, Q105, bx0n, h3, bx3, bx4, ao0_o3, ao0_o4, ao3_o4, trivial⟩
   ·refine W.condF h20 hc112 (W.seq (W.region ?_))
    refine sx rfl (pEql (k := .i64) (a := x6) (b := 3) rfl h6 rfl) ?_
    obtain ⟨y113, hy113, hr⟩ := lt_some hr
    refine sx rfl (pAssign rfl (congrArg vB hy113)) ?_
    refine SeqW.done fun fr114 hf115 => ?_
    have h0 := (congrFun hf115 0).trans h0
    have h3 := (congrFun hf115 3).trans h3
    have h4 := (congrFun hf115 4).trans h4
    have h6 := (congrFun hf115 6).trans h6
    have h26 : fr114 26 = (vB y113) := (congrFun hf115 26).trans rfl
    clear hf115
    refine thenQ.n ?_
    rcases if_some hr with ⟨hc116, hr⟩ | ⟨hc144, hr⟩
    ·refine W.condT h26 hc116 (W.region ?_)
     refine sx rfl (pMove (v := (vP b0)) rfl h0) ?_
     refine SeqW.consX rfl (kBuild (T := (TInt 3 .i64)) rfl Try.underlying22 Try.type3 rfl rfl rfl rfl ([49, 50, 2001, (-1)] : List Int) [[(vI 49)], [(vI 50)], [(vI 2001)], [(vI (-1))]] rfl rfl rfl (BuildOk.mk (w := (vI 49)) rfl rfl rfl rfl (BuildOk.mk (w := (vI 50)) rfl rfl rfl rfl (BuildOk.mk (w := (vI 2001)) rfl rfl rfl rfl (BuildOk.mk (w := (vI (-1))) rfl rfl rfl rfl trivial)))) st ?_)
     intro V117 m118 st O119 sm120 hap121
     have A123 := hap121 _ bx0.lt'
     have A124 := hap121 _ bx3.lt'
     have A125 := hap121 _ bx4.lt'
     replace bx0 := bx0.same sm120 Ap.none'
     replace bx3 := bx3.same sm120 Ap.none'
     replace bx4 := bx4.same sm120 Ap.none'
     obtain ⟨z126, hz127, st, Q128, hl129⟩ := O119.freeze st
     replace s0_0 := s0_0.mono hz127.le
     replace bx0 := bx0.zle (hl129 _ A123)
     replace bx3 := bx3.zle (hl129 _ A124)
     replace bx4 := bx4.zle (hl129 _ A125)
     replace hz := hz.trans hz127
     obtain ⟨y130, hy130, hr⟩ := bind_some hr
     refine SeqW.consX rfl (StepX.call (gCallee rfl rfl (args2 rfl rfl)) ((c_Maker_Pick (x0 := x0) (z := z126) st.fz st.dead s0_0 ⟨bx0.blk, bx0.lt, bx0.dead, .inr rfl⟩ Q128 hy130).mono ?_))
     rintro _ m135 ⟨z131, V136, hzx132, fz133, sm134, rfl, Q137, X139, -⟩
     replace s0_0 := s0_0.mono hzx132.le
     replace bx3 := bx3.call hzx132 sm134 (Ap.symm ao0_o3)
     replace bx4 := bx4.call hzx132 sm134 (Ap.symm ao0_o4)
     replace Q128 := Q128.mono hzx132.le
     have bx0n : Bx z131 e m135 k b0 _ _ := ⟨X139.blk, X139.lt, X139.dead, bx0.fresh⟩
     replace hz := hz.trans (Zx.here st hzx132)
     replace st := st.call hzx132 fz133 sm134 bx0.hq
     refine SeqW.consX rfl (kField rfl Try.underlying42 rfl Try.type3 rfl h3 rfl ?_)
     refine SeqW.consX rfl (kPut (off := 3) (w := (vI y130.1)) (new := [(vI y130.1)]) rfl Try.type3 rfl rfl rfl rfl rfl bx3 rfl [(str x3.number), (vI x3.length), (vI x3.axles), (vI y130.1), (vI x3.brake), (vI x3.goods), (vB x3.gentle), (str x3.dest)] rfl st ?_)
     intro m140 st bx3 sm141
     replace bx0n := bx0n.same sm141 ao0_o3
     replace bx4 := bx4.same sm141 (Ap.symm ao3_o4)
     refine SeqW.done fun fr142 hf143 => ?_
     have h0 := (congrFun hf143 0).trans h0
     have h3 := (congrFun hf143 3).trans h3
     have h4 := (congrFun hf143 4).trans h4
     clear hf143
     refine blockQ.n ?_
     obtain rfl := Option.some.inj hr
     exact ⟨z131, hz, st, rfl, V136, h0, Q137, bx0n, h3, bx3, bx4, ao0_o3, ao0_o4, ao3_o4, trivial⟩
    ·refine W.condF h26 hc144 (W.seq (W.region ?_))
     refine sx rfl (pEql (k := .i64) (a := x6) (b := 4) rfl h6 rfl) ?_
     obtain ⟨y145, hy145, hr⟩ := lt_some hr
     refine sx rfl (pAssign rfl (congrArg vB hy145)) ?_
     refine SeqW.done fun fr146 hf147 => ?_
     have h0 := (congrFun hf147 0).trans h0
     have h3 := (congrFun hf147 3).trans h3
     have h4 := (congrFun hf147 4).trans h4
     have h6 := (congrFun hf147 6).trans h6
     have h32 : fr146 32 = (vB y145) := (congrFun hf147 32).trans rfl
     clear hf147
     refine thenQ.n ?_
     rcases if_some hr with ⟨hc148, hr⟩ | ⟨hc176, hr⟩
     ·refine W.condT h32 hc148 (W.region ?_)
      refine sx rfl (pMove (v := (vP b0)) rfl h0) ?_
      refine SeqW.consX rfl (kField rfl Try.underlying42 rfl Try.type3 rfl h3 rfl ?_)
      refine SeqW.consX rfl (kLoad rfl Try.underlying3 rfl rfl (bx3.load (v := (vI x3.mass)) rfl) ?_)
      refine SeqW.consX rfl (kField rfl Try.underlying42 rfl Try.type3 rfl h3 rfl ?_)
      refine SeqW.consX rfl (kLoad rfl Try.underlying3 rfl rfl (bx3.load (v := (vI x3.mass)) rfl) ?_)
      refine sx rfl (pAdd (k := .i64) (a := x3.mass) (b := 1) rfl rfl rfl) ?_
      refine SeqW.consX rfl (kBuild (T := (TInt 3 .i64)) rfl Try.underlying22 Try.type3 rfl rfl rfl rfl ([(-1), x3.mass, (IntKind.wrap .i64 (x3.mass + 1))] : List Int) [[(vI (-1))], [(vI x3.mass)], [(vI (IntKind.wrap .i64 (x3.mass + 1)))]] rfl rfl rfl (BuildOk.mk (w := (vI (-1))) rfl rfl rfl rfl (BuildOk.mk (w := (vI x3.mass)) rfl rfl rfl rfl (BuildOk.mk (w := (vI (IntKind.wrap .i64 (x3.mass + 1)))) rfl rfl rfl rfl trivial))) st ?_)
      intro V149 m150 st O151 sm152 hap153
      have A155 := hap153 _ bx0.lt'
      have A156 := hap153 _ bx3.lt'
      have A157 := hap153 _ bx4.lt'
      replace bx0 := bx0.same sm152 Ap.none'
      replace bx3 := bx3.same sm152 Ap.none'
      replace bx4 := bx4.same sm152 Ap.none'
      obtain ⟨z158, hz159, st, Q160, hl161⟩ := O151.freeze st
      replace s0_0 := s0_0.mono hz159.le
      replace bx0 := bx0.zle (hl161 _ A155)
      replace bx3 := bx3.zle (hl161 _ A156)
      replace bx4 := bx4.zle (hl161 _ A157)
      replace hz := hz.trans hz159
      obtain ⟨y162, hy162, hr⟩ := bind_some hr
      refine SeqW.consX rfl (StepX.call (gCallee rfl rfl (args2 rfl rfl)) ((c_Maker_Pick (x0 := x0) (z := z158) st.fz st.dead s0_0 ⟨bx0.blk, bx0.lt, bx0.dead, .inr rfl⟩ Q160 hy162).mono ?_))
      rintro _ m167 ⟨z163, V168, hzx164, fz165, sm166, rfl, Q169, X171, -⟩
      replace s0_0 := s0_0.mono hzx164.le
      replace bx3 := bx3.call hzx164 sm166 (Ap.symm ao0_o3)
      replace bx4 := bx4.call hzx164 sm166 (Ap.symm ao0_o4)
      replace Q160 := Q160.mono hzx164.le
      have bx0n : Bx z163 e m167 k b0 _ _ := ⟨X171.blk, X171.lt, X171.dead, bx0.fresh⟩
      replace hz := hz.trans (Zx.here st hzx164)
      replace st := st.call hzx164 fz165 sm166 bx0.hq
      refine SeqW.consX rfl (kField rfl Try.underlying42 rfl Try.type3 rfl h3 rfl ?_)
      refine SeqW.consX rfl (kPut (off := 4) (w := (vI y162.1)) (new := [(vI y162.1)]) rfl Try.type3 rfl rfl rfl rfl rfl bx3 rfl [(str x3.number), (vI x3.length), (vI x3.axles), (vI x3.mass), (vI y162.1), (vI x3.goods), (vB x3.gentle), (str x3.dest)] rfl st ?_)
      intro m172 st bx3 sm173
      replace bx0n := bx0n.same sm173 ao0_o3
      replace bx4 := bx4.same sm173 (Ap.symm ao3_o4)
      refine SeqW.done fun fr174 hf175 => ?_
      have h0 := (congrFun hf175 0).trans h0
      have h3 := (congrFun hf175 3).trans h3
      have h4 := (congrFun hf175 4).trans h4
      clear hf175
      refine blockQ.n ?_
      obtain rfl := Option.some.inj hr
      exact ⟨z163, hz, st, rfl, V168, h0, Q169, bx0n, h3, bx3, bx4, ao0_o3, ao0_o4, ao3_o4, trivial⟩
     ·refine W.condF h32 hc176 (W.seq (W.region ?_))
      refine sx rfl (pEql (k := .i64) (a := x6) (b := 5) rfl h6 rfl) ?_
      obtain ⟨y177, hy177, hr⟩ := lt_some hr
      refine sx rfl (pAssign rfl (congrArg vB hy177)) ?_
      refine SeqW.done fun fr178 hf179 => ?_
      have h0 := (congrFun hf179 0).trans h0
      have h3 := (congrFun hf179 3).trans h3
      have h4 := (congrFun hf179 4).trans h4
      have h6 := (congrFun hf179 6).trans h6
      have h43 : fr178 43 = (vB y177) := (congrFun hf179 43).trans rfl
      clear hf179
      refine thenQ.n ?_
      rcases if_some hr with ⟨hc180, hr⟩ | ⟨hc208, hr⟩
      ·refine W.condT h43 hc180 (W.region ?_)
       refine sx rfl (pMove (v := (vP b0)) rfl h0) ?_
       refine SeqW.consX rfl (kBuild (T := (TInt 3 .i64)) rfl Try.underlying22 Try.type3 rfl rfl rfl rfl ([(-1), 9, 10] : List Int) [[(vI (-1))], [(vI 9)], [(vI 10)]] rfl rfl rfl (BuildOk.mk (w := (vI (-1))) rfl rfl rfl rfl (BuildOk.mk (w := (vI 9)) rfl rfl rfl rfl (BuildOk.mk (w := (vI 10)) rfl rfl rfl rfl trivial))) st ?_)
       intro V181 m182 st O183 sm184 hap185
       have A187 := hap185 _ bx0.lt'
       have A188 := hap185 _ bx3.lt'
       have A189 := hap185 _ bx4.lt'
       replace bx0 := bx0.same sm184 Ap.none'
       replace bx3 := bx3.same sm184 Ap.none'
       replace bx4 := bx4.same sm184 Ap.none'
       obtain ⟨z190, hz191, st, Q192, hl193⟩ := O183.freeze st
       replace s0_0 := s0_0.mono hz191.le
       replace bx0 := bx0.zle (hl193 _ A187)
       replace bx3 := bx3.zle (hl193 _ A188)
       replace bx4 := bx4.zle (hl193 _ A189)
       replace hz := hz.trans hz191
       obtain ⟨y194, hy194, hr⟩ := bind_some hr
       refine SeqW.consX rfl (StepX.call (gCallee rfl rfl (args2 rfl rfl)) ((c_Maker_Pick (x0 := x0) (z := z190) st.fz st.dead s0_0 ⟨bx0.blk, bx0.lt, bx0.dead, .inr rfl⟩ Q192 hy194).mono ?_))
       rintro _ m199 ⟨z195, V200, hzx196, fz197, sm198, rfl, Q201, X203, -⟩
       replace s0_0 := s0_0.mono hzx196.le
       replace bx3 := bx3.call hzx196 sm198 (Ap.symm ao0_o3)
       replace bx4 := bx4.call hzx196 sm198 (Ap.symm ao0_o4)
       replace Q192 := Q192.mono hzx196.le
       have bx0n : Bx z195 e m199 k b0 _ _ := ⟨X203.blk, X203.lt, X203.dead, bx0.fresh⟩
       replace hz := hz.trans (Zx.here st hzx196)
       replace st := st.call hzx196 fz197 sm198 bx0.hq
       refine SeqW.consX rfl (kField rfl Try.underlying42 rfl Try.type3 rfl h3 rfl ?_)
       refine SeqW.consX rfl (kPut (off := 5) (w := (vI y194.1)) (new := [(vI y194.1)]) rfl Try.type3 rfl rfl rfl rfl rfl bx3 rfl [(str x3.number), (vI x3.length), (vI x3.axles), (vI x3.mass), (vI x3.brake), (vI y194.1), (vB x3.gentle), (str x3.dest)] rfl st ?_)
       intro m204 st bx3 sm205
       replace bx0n := bx0n.same sm205 ao0_o3
       replace bx4 := bx4.same sm205 (Ap.symm ao3_o4)
       refine SeqW.done fun fr206 hf207 => ?_
       have h0 := (congrFun hf207 0).trans h0
       have h3 := (congrFun hf207 3).trans h3
       have h4 := (congrFun hf207 4).trans h4
       clear hf207
       refine blockQ.n ?_
       obtain rfl := Option.some.inj hr
       exact ⟨z195, hz, st, rfl, V200, h0, Q201, bx0n, h3, bx3, bx4, ao0_o3, ao0_o4, ao3_o4, trivial⟩
      ·refine W.condF h43 hc208 (W.seq (W.region ?_))
       refine sx rfl (pEql (k := .i64) (a := x6) (b := 6) rfl h6 rfl) ?_
       obtain ⟨y209, hy209, hr⟩ := lt_some hr
       refine sx rfl (pAssign rfl (congrArg vB hy209)) ?_
       refine SeqW.done fun fr210 hf211 => ?_
       have h0 := (congrFun hf211 0).trans h0
       have h3 := (congrFun hf211 3).trans h3
       have h4 := (congrFun hf211 4).trans h4
       have h49 : fr210 49 = (vB y209) := (congrFun hf211 49).trans rfl
       clear hf211
       refine thenQ.n ?_
       rcases if_some hr with ⟨hc212, hr⟩ | ⟨hc245, hr⟩
       ·refine W.condT h49 hc212 (W.region ?_)
        refine SeqW.consX rfl (kBuild (T := (TStr 9)) rfl Try.underlying69 Try.type9 rfl rfl rfl rfl ([[], [65], [97, 32, 98], [97, 98, 99, 100, 101, 102, 103, 104, 105, 106, 107, 108, 109], [45]] : List (List UInt8)) [[(str [])], [(str [65])], [(str [97, 32, 98])], [(str [97, 98, 99, 100, 101, 102, 103, 104, 105, 106, 107, 108, 109])], [(str [45])]] rfl rfl rfl (BuildOk.mk (w := (str [])) rfl rfl rfl rfl (BuildOk.mk (w := (str [65])) rfl rfl rfl rfl (BuildOk.mk (w := (str [97, 32, 98])) rfl rfl rfl rfl (BuildOk.mk (w := (str [97, 98, 99, 100, 101, 102, 103, 104, 105, 106, 107, 108, 109])) rfl rfl rfl rfl (BuildOk.mk (w := (str [45])) rfl rfl rfl rfl trivial))))) st ?_)
        intro V213 m214 st O215 sm216 hap217
        have A219 := hap217 _ bx0.lt'
        have A220 := hap217 _ bx3.lt'
        have A221 := hap217 _ bx4.lt'
        replace bx0 := bx0.same sm216 Ap.none'
        replace bx3 := bx3.same sm216 Ap.none'
        replace bx4 := bx4.same sm216 Ap.none'
        refine sx rfl (pMove (v := (vP b0)) rfl h0) ?_
        obtain ⟨y222, hy222, hr⟩ := bind_some hr
        refine SeqW.consX rfl (StepX.call (gCallee rfl rfl (args2 rfl rfl)) ((c_Maker_Next (x0 := x0) (z := z) st.fz st.dead s0_0 ⟨bx0.blk, bx0.lt, bx0.dead, .inr rfl⟩ hy222).mono ?_))
        rintro _ m227 ⟨z223, V228, hzx224, fz225, sm226, rfl, Q229, X231, -⟩
        replace s0_0 := s0_0.mono hzx224.le
        replace bx3 := bx3.call hzx224 sm226 (Ap.symm ao0_o3)
        replace bx4 := bx4.call hzx224 sm226 (Ap.symm ao0_o4)
        replace O215 := O215.call hzx224 sm226 (Ap.symm A219)
        have bx0n : Bx z223 e m227 k b0 _ _ := ⟨X231.blk, X231.lt, X231.dead, bx0.fresh⟩
        replace hz := hz.trans (Zx.here st hzx224)
        replace st := st.call hzx224 fz225 sm226 bx0.hq
        obtain ⟨y232, hy232, hr⟩ := bind_some hr
        refine SeqW.consX rfl (kIdxO (T := (TStr 9)) (xs := ([[], [65], [97, 32, 98], [97, 98, 99, 100, 101, 102, 103, 104, 105, 106, 107, 108, 109], [45]] : List (List UInt8))) (n := y222.1) rfl Try.underlying69 Try.type9 rfl rfl rfl O215 hy232 ?_)
        intro B233 l234 c235 cs236 hv237 hd238 hg239 hc240
        have hd2380 := hd238
        obtain rfl := hd2380
        refine SeqW.consX rfl (kLoad (v := (str y232)) rfl Try.underlying9 rfl rfl (hc240 0 _ rfl) ?_)
        refine SeqW.consX rfl (kField rfl Try.underlying42 rfl Try.type9 rfl h3 rfl ?_)
        refine SeqW.consX rfl (kPut (off := 7) (w := (str y232)) (new := [(str y232)]) rfl Try.type9 rfl rfl rfl rfl rfl bx3 rfl [(str x3.number), (vI x3.length), (vI x3.axles), (vI x3.mass), (vI x3.brake), (vI x3.goods), (vB x3.gentle), (str y232)] rfl st ?_)
        intro m241 st bx3 sm242
        replace bx0n := bx0n.same sm242 ao0_o3
        replace bx4 := bx4.same sm242 (Ap.symm ao3_o4)
        refine SeqW.done fun fr243 hf244 => ?_
        have h0 := (congrFun hf244 0).trans h0
        have h3 := (congrFun hf244 3).trans h3
        have h4 := (congrFun hf244 4).trans h4
        clear hf244
        refine blockQ.n ?_
        obtain rfl := Option.some.inj hr
        exact ⟨z223, hz, st, rfl, V228, h0, Q229, bx0n, h3, bx3, bx4, ao0_o3, ao0_o4, ao3_o4, trivial⟩
       ·refine W.condF h49 hc245 (W.skip ?_)
        refine blockQ.n ?_
        obtain rfl := Option.some.inj hr
        exact ⟨z, hz, st, rfl, v0_0, h0, s0_0, bx0, h3, bx3, bx4, ao0_o3, ao0_o4, ao3_o4, trivial⟩

theorem u_Maker_SpoilWagon {N : Nat}  {z0 z : Nat → Blk} {e m : Mem} {k : Option Nat} {fr : Nat → Value} {x0 : Maker} {x1 : Wagon} {v0_0 : Value} {b0 : Nat} (hz : Zx e.next z0 z) (st : St z e m k) (h0 : fr 0 = (vP b0)) (s0_0 : SlR (TInt 3 .i64) z x0.l v0_0) (bx0 : Bx z e m k b0 [v0_0, (vI x0.n)] 53) (h1 : fr 1 = (Value.agg [(str x1.number), (vI x1.length), (vI x1.axles), (vI x1.mass), (vI x1.brake), (vI x1.goods), (vB x1.gentle), (str x1.dest)].toArray)) {r : Wagon × Maker} (hr : Maker_SpoilWagon N x0 x1 = some r) : W Try.prog (sub (bodyOf Try.f20) []) (fun ex fr' m' => ∃ z', Zx e.next z0 z' ∧ St z' e m' k ∧ (ex = .normal ∨ ex = .ret) ∧ ∃ (c4 : Nat) (wr_0 : Value), fr' 4 = (vP c4) ∧ Bx z' e m' k c4 [(str r.1.number), (vI r.1.length), (vI r.1.axles), (vI r.1.mass), (vI r.1.brake), (vI r.1.goods), (vB r.1.gentle), (str r.1.dest)] 42 ∧ (e.next ≤ c4 ∨ k = some c4) ∧ SlR (TInt 3 .i64) z' r.2.l wr_0 ∧ Bx z' e m' k b0 [wr_0, (vI r.2.n)] 53 ∧ True) fr m := by
 unfold Maker_SpoilWagon at hr
 refine W.seq (W.region ?_)
 refine SeqW.consX rfl (kBox (v := (Value.agg [(str x1.number), (vI x1.length), (vI x1.axles), (vI x1.mass), (vI x1.brake), (vI x1.goods), (vB x1.gentle), (str x1.dest)].toArray)) rfl Try.type42 h1 rfl [(str x1.number), (vI x1.length), (vI x1.axles), (vI x1.mass), (vI x1.brake), (vI x1.goods), (vB x1.gentle), (str x1.dest)] rfl rfl st ?_)
 intro B1 m2 st X3 sm4 hap5
 have A7 := hap5 _ bx0.lt'
 replace bx0 := bx0.same sm4 Ap.none'
 refine SeqW.consX rfl (kAlloc rfl Try.type42 rfl rfl rfl [(str []), (vI 0), (vI 0), (vI 0), (vI 0), (vI 0), (vB false), (str [])] rfl st ?_)
 intro B8 m9 st X10 sm11 hap12
 have A14 := hap12 _ bx0.lt'
 have A15 := hap12 _ X3.lt'
 replace bx0 := bx0.same sm11 Ap.none'
 replace X3 := X3.same sm11 Ap.none'
 refine SeqW.done fun fr16 hf17 => ?_
 have h0 := (congrFun hf17 0).trans h0
 have h3 : fr16 3 = (vP B1) := (congrFun hf17 3).trans rfl
 have h4 : fr16 4 = (vP B8) := (congrFun hf17 4).trans rfl
 clear hf17
 refine thenQ.n (W.seq ?_)
 refine W.seq (W.region ?_)
 refine sx rfl (pMove (v := (vP b0)) rfl h0) ?_
 obtain ⟨y18, hy18, hr⟩ := bind_some hr
 refine SeqW.consX rfl (StepX.call (gCallee rfl rfl (args2 rfl rfl)) ((c_Maker_Next (x0 := x0) (z := z) st.fz st.dead s0_0 ⟨bx0.blk, bx0.lt, bx0.dead, .inr rfl⟩ hy18).mono ?_))
 rintro _ m23 ⟨z19, V24, hzx20, fz21, sm22, rfl, Q25, X27, -⟩
 replace s0_0 := s0_0.mono hzx20.le
 replace X3 := X3.call hzx20 sm22 (Ap.symm A7)
 replace X10 := X10.call hzx20 sm22 (Ap.symm A14)
 have bx0n : Bx z19 e m23 k b0 _ _ := ⟨X27.blk, X27.lt, X27.dead, bx0.fresh⟩
 replace hz := hz.trans (Zx.here st hzx20)
 replace st := st.call hzx20 fz21 sm22 bx0.hq
 refine SeqW.done fun fr28 hf29 => ?_
 have h0 := (congrFun hf29 0).trans h0
 have h3 := (congrFun hf29 3).trans h3
 have h4 := (congrFun hf29 4).trans h4
 have h6 : fr28 6 = (vI y18.1) := (congrFun hf29 6).trans rfl
 clear hf29
 refine thenQ.n ?_
 obtain ⟨y246, hy246, hr⟩ := bind_some hr
 refine W.keep (u_Maker_SpoilWagon_0 (x0 := y18.2) (x3 := x1) (x4 := (Wagon.mk [] 0 0 0 0 0 false [])) (Zx.refl _) st h0 Q25 bx0n h3 X3 h4 X10 h6 A7 A14 A15 hy246) ?_
 rintro ex252 fr247 m248 hk250 ⟨z249, hz251, st, rfl, w253, h0, Q255, X257, h3, X259, O260, A261, A262, A263, -⟩
 have h4 := (hk250 4 rfl).trans h4
 replace hz := hz.trans hz251
 clear hk250
 refine thenQ.n (W.seq (W.region ?_))
 refine SeqW.consX rfl (kLoadA rfl Try.underlying42 rfl Try.type42 rfl h3 X259.loads ?_)
 refine SeqW.consX rfl (kPut (off := 0) (w := (Value.agg [(str y246.2.number), (vI y246.2.length), (vI y246.2.axles), (vI y246.2.mass), (vI y246.2.brake), (vI y246.2.goods), (vB y246.2.gentle), (str y246.2.dest)].toArray)) (new := [(str y246.2.number), (vI y246.2.length), (vI y246.2.axles), (vI y246.2.mass), (vI y246.2.brake), (vI y246.2.goods), (vB y246.2.gentle), (str y246.2.dest)]) rfl Try.type42 h4 rfl rfl rfl rfl O260 rfl [(str y246.2.number), (vI y246.2.length), (vI y246.2.axles), (vI y246.2.mass), (vI y246.2.brake), (vI y246.2.goods), (vB y246.2.gentle), (str y246.2.dest)] rfl st ?_)
 intro m264 st O260 sm265
 replace X257 := X257.same sm265 A262
 refine SeqW.done fun fr266 hf267 => ?_
 have h0 := (congrFun hf267 0).trans h0
 have h4 := (congrFun hf267 4).trans h4
 clear hf267
 refine thenQ.n ?_
 refine W.ret ?_
 obtain rfl := Option.some.inj hr
 exact ⟨z249, hz, st, .inr rfl, B8, w253, h4, O260, O260.fresh, Q255, X257, trivial⟩

theorem c_Maker_SpoilWagon {N : Nat} {z : Nat → Blk} {m : Mem} {x0 : Maker} {x1 : Wagon} {v0_0 : Value} {b0 : Nat} (fz : Fz z m) (hd : ∀ b, m.next ≤ b → m.blk b = .dead) (s0_0 : SlR (TInt 3 .i64) z x0.l v0_0) (bx0 : Bx z m m (some b0) b0 [v0_0, (vI x0.n)] 53) {r : Wagon × Maker} (hr : Maker_SpoilWagon N x0 x1 = some r) : CallW Try.prog 20 #[(vP b0), (Value.agg [(str x1.number), (vI x1.length), (vI x1.axles), (vI x1.mass), (vI x1.brake), (vI x1.goods), (vB x1.gentle), (str x1.dest)].toArray)] m fun v m' => ∃ z' wr_0, Zx m.next z z' ∧ Fz z' m' ∧ Same m m' (some b0) ∧ v = (Value.agg [(str r.1.number), (vI r.1.length), (vI r.1.axles), (vI r.1.mass), (vI r.1.brake), (vI r.1.goods), (vB r.1.gentle), (str r.1.dest)].toArray) ∧ SlR (TInt 3 .i64) z' r.2.l wr_0 ∧ Bx z' m m' (some b0) b0 [wr_0, (vI r.2.n)] 53 ∧ True := by
 refine CallW.any Try.func20 rfl (by kernel_rfl) (Nat.le_of_ble_eq_true rfl) (fun fr hf => ?_)
 have h0 : fr 0 = _ := hf 0 _ rfl
 have h1 : fr 1 = _ := hf 1 _ rfl
 refine (u_Maker_SpoilWagon (k := (some b0)) (Zx.refl _) (St.start fz hd) h0 s0_0 bx0 h1 hr).mono ?_
 rintro ex fr' m' ⟨z', hz, st, he, c4, wr_0, h4, bx4, fx4, sr_0, bxr, -⟩
 exact ⟨he, [(Value.agg [(str r.1.number), (vI r.1.length), (vI r.1.axles), (vI r.1.mass), (vI r.1.brake), (vI r.1.goods), (vB r.1.gentle), (str r.1.dest)].toArray)], ⟨resCell h4 bx4 Try.underlying42 rfl Try.type42 rfl, trivial⟩, .inl rfl, z', wr_0, hz, st.fz, st.toSame, rfl, sr_0, bxr, trivial⟩

/-! ### humpyard/humpyardref02.Valid -/

theorem u_r02_Valid {N : Nat}  {z0 z : Nat → Blk} {e m : Mem} {k : Option Nat} {fr : Nat → Value} {x0 : List UInt8} (hz : Zx e.next z0 z) (st : St z e m k) (h0 : fr 0 = (str x0)) {r : Int} (hr : r02_Valid N x0 = some r) : W Try.prog (sub (bodyOf Try.f54) []) (fun ex fr' m' => ∃ z', Zx e.next z0 z' ∧ St z' e m' k ∧ (ex = .normal ∨ ex = .ret) ∧ fr' 2 = (vI r) ∧ True) fr m := by
 unfold r02_Valid at hr
 refine W.seq (W.region ?_)
 refine sx rfl (pAssign (v := (vI 0)) rfl rfl) ?_
 refine SeqW.done fun fr1 hf2 => ?_
 have h0 := (congrFun hf2 0).trans h0
 clear hf2
 refine thenQ.n (W.seq ?_)
 refine W.seq (W.region ?_)
 refine sx rfl (pMove (v := (str x0)) rfl h0) ?_
 obtain ⟨y3, hy3, hr⟩ := bind_some hr
 refine SeqW.consX rfl (StepX.call (gCallee rfl rfl (args2 rfl rfl)) ((c_r02_digits (z := z) st.fz st.dead  hy3).mono ?_))
 rintro _ _ ⟨rfl, rfl⟩
 refine sx rfl (pNot (b := y3) rfl rfl) ?_
 refine SeqW.done fun fr4 hf5 => ?_
 have h0 := (congrFun hf5 0).trans h0
 have h5 : fr4 5 = (vB (!y3)) := (congrFun hf5 5).trans rfl
 clear hf5
 refine thenQ.n ?_
 rcases if_some hr with ⟨hc6, hr⟩ | ⟨hc9, hr⟩
 ·refine W.condT h5 hc6 (W.seq (W.region ?_))
  refine sx rfl (pAssign (v := (vI 11)) rfl rfl) ?_
  refine SeqW.done fun fr7 hf8 => ?_
  have h2 : fr7 2 = (vI 11) := (congrFun hf8 2).trans rfl
  clear hf8
  refine thenQ.n ?_
  refine W.ret ?_
  refine thenQ.r ?_
  obtain rfl := Option.some.inj hr
  exact ⟨z, hz, st, .inr rfl, h2, trivial⟩
 ·refine W.condF h5 hc9 (W.skip ?_)
  refine thenQ.n (W.seq (W.seq ?_))
  refine W.draw ?_
  refine DrawW.cons rfl (StepX.pure (pMove (v := (str x0)) rfl h0) ?_)
  refine ⟨trivial, ?_⟩
  have sto10 := st
  obtain ⟨y11, hy11, hr⟩ := bind_some hr
  refine DrawW.cons rfl (StepX.call (gCallee rfl rfl (args2 rfl rfl)) ((c_r02_sum (z := z) st.fz st.dead  hy11).mono ?_))
  rintro _ _ ⟨rfl, rfl⟩
  refine ⟨⟨?_, ?_⟩, ?_⟩
  ·exact demN
  ·exact demN
  refine DrawW.cons rfl (StepX.pure (pMove (v := (str x0)) rfl h0) ?_)
  refine ⟨trivial, ?_⟩
  obtain ⟨y12, hy12, hr⟩ := bind_some hr
  refine DrawW.cons rfl (kIndexS (s := x0) (n := 11) rfl Try.underlying9 rfl rfl hy12 ?_)
  refine ⟨trivial, ?_⟩
  refine DrawW.cons rfl (StepX.pure (pSub (k := .u8) (a := (UInt8.toNat y12 : Int)) (b := 48) rfl rfl rfl) ?_)
  refine ⟨trivial, ?_⟩
  refine DrawW.cons rfl (StepX.pure (pConv (k := .u8) (a := (IntKind.wrap .u8 ((UInt8.toNat y12 : Int) - 48))) rfl Try.underlying5 Try.underlying3 rfl) ?_)
  refine ⟨trivial, ?_⟩
  refine DrawW.cons rfl (StepX.pure (pAdd (k := .i64) (a := y11) (b := (IntKind.wrap .i64 (IntKind.wrap .u8 ((UInt8.toNat y12 : Int) - 48)))) rfl rfl rfl) ?_)
  refine ⟨trivial, ?_⟩
  refine DrawW.cons rfl (StepX.pure (pRem (k := .i64) (a := (IntKind.wrap .i64 (y11 + (IntKind.wrap .i64 (IntKind.wrap .u8 ((UInt8.toNat y12 : Int) - 48)))))) (b := 10) rfl rfl rfl (by decide)) ?_)
  refine ⟨trivial, ?_⟩
  refine DrawW.cons rfl (StepX.pure (pNeq (k := .i64) (a := (Int.tmod (IntKind.wrap .i64 (y11 + (IntKind.wrap .i64 (IntKind.wrap .u8 ((UInt8.toNat y12 : Int) - 48))))) 10)) (b := 0) rfl rfl rfl) ?_)
  refine ⟨trivial, ?_⟩
  refine DrawW.done fun fr13 hf14 => ?_
  have h14 : fr13 14 = (vB ((Int.tmod (IntKind.wrap .i64 (y11 + (IntKind.wrap .i64 (IntKind.wrap .u8 ((UInt8.toNat y12 : Int) - 48))))) 10) != 0)) := (congrFun hf14 14).trans rfl
  clear hf14
  refine thenQ.n ?_
  rcases if_some hr with ⟨hc15, hr⟩ | ⟨hc18, hr⟩
  ·refine W.condT h14 hc15 (W.seq (W.region ?_))
   refine sx rfl (pAssign (v := (vI 9)) rfl rfl) ?_
   refine SeqW.done fun fr16 hf17 => ?_
   have h2 : fr16 2 = (vI 9) := (congrFun hf17 2).trans rfl
   clear hf17
   refine thenQ.n ?_
   refine W.ret ?_
   refine thenQ.r ?_
   obtain rfl := Option.some.inj hr
   exact ⟨z, hz, st, .inr rfl, h2, trivial⟩
  ·refine W.condF h14 hc18 (W.skip ?_)
   refine thenQ.n (W.seq (W.region ?_))
   refine sx rfl (pAssign (v := (vI 0)) rfl rfl) ?_
   refine SeqW.done fun fr19 hf20 => ?_
   have h2 : fr19 2 = (vI 0) := (congrFun hf20 2).trans rfl
   clear hf20
   refine thenQ.n ?_
   refine W.ret ?_
   obtain rfl := Option.some.inj hr
   exact ⟨z, hz, st, .inr rfl, h2, trivial⟩

theorem c_r02_Valid {N : Nat} {z : Nat → Blk} {m : Mem} {x0 : List UInt8} (fz : Fz z m) (hd : ∀ b, m.next ≤ b → m.blk b = .dead)  {r : Int} (hr : r02_Valid N x0 = some r) : CallW Try.prog 54 #[(str x0)] m fun v m' => v = (vI r) ∧ m' = m := by
 refine CallW.flat Try.func54 rfl (by kernel_rfl) (Nat.le_of_ble_eq_true rfl) rfl (z := z) (fun fr hf => ?_)
 have h0 : fr 0 = _ := hf 0 _ rfl
 refine (u_r02_Valid (k := none) (Zx.refl _) (St.start fz hd) h0 hr).mono ?_
 rintro ex fr' m' ⟨z', hz, st, he, h2, -⟩
 exact ⟨he, z', st, [(vI r)], ⟨h2.symm, trivial⟩, .inl rfl, rfl⟩

/-! ### humpyard/humpyardref02.Kind -/

theorem u_r02_Kind_0 {N : Nat}  {z0 z : Nat → Blk} {e m : Mem} {k : Option Nat} {fr : Nat → Value} {x11 : Int} {x12 : Bool} (hz : Zx e.next z0 z) (st : St z e m k) (h11 : fr 11 = (Value.int .u8 x11)) (h12 : fr 12 = (vB x12)) {r : Bool} (hr : r02_Kind_0 N x11 x12 = some r) : W Try.prog (sub (bodyOf Try.f48) [1, 1, 0, 1, 0, 0, 1]) (fun ex fr' m' => ∃ z', Zx e.next z0 z' ∧ St z' e m' k ∧ ex = AExit.normal ∧ fr' 12 = (vB r) ∧ True) fr m := by
 unfold r02_Kind_0 at hr
 rcases if_some hr with ⟨hc18, hr⟩ | ⟨hc19, hr⟩
 ·refine W.condT h12 hc18 (W.skip ?_)
  obtain rfl := Option.some.inj hr
  exact ⟨z, hz, st, rfl, h12, trivial⟩
 ·refine W.condF h12 hc19 (W.region ?_)
  refine sx rfl (pEql (k := .u8) (a := x11) (b := 56) rfl h11 rfl) ?_
  obtain ⟨y20, hy20, hr⟩ := lt_some hr
  refine sx rfl (pAssign rfl (congrArg vB hy20)) ?_
  refine SeqW.done fun fr21 hf22 => ?_
  have h11 := (congrFun hf22 11).trans h11
  have h12 : fr21 12 = (vB y20) := (congrFun hf22 12).trans rfl
  clear hf22
  obtain rfl := Option.some.inj hr
  exact ⟨z, hz, st, rfl, h12, trivial⟩

theorem u_r02_Kind_1 {N : Nat}  {z0 z : Nat → Blk} {e m : Mem} {k : Option Nat} {fr : Nat → Value} {x11 : Int} {x15 : Bool} (hz : Zx e.next z0 z) (st : St z e m k) (h11 : fr 11 = (Value.int .u8 x11)) (h15 : fr 15 = (vB x15)) {r : Bool} (hr : r02_Kind_1 N x11 x15 = some r) : W Try.prog (sub (bodyOf Try.f48) [1, 1, 0, 1, 0, 1, 1, 0, 1]) (fun ex fr' m' => ∃ z', Zx e.next z0 z' ∧ St z' e m' k ∧ ex = AExit.normal ∧ fr' 15 = (vB r) ∧ True) fr m := by
 unfold r02_Kind_1 at hr
 rcases if_some hr with ⟨hc37, hr⟩ | ⟨hc38, hr⟩
 ·refine W.condT h15 hc37 (W.skip ?_)
  obtain rfl := Option.some.inj hr
  exact ⟨z, hz, st, rfl, h15, trivial⟩
 ·refine W.condF h15 hc38 (W.region ?_)
  refine sx rfl (pEql (k := .u8) (a := x11) (b := 52) rfl h11 rfl) ?_
  obtain ⟨y39, hy39, hr⟩ := lt_some hr
  refine sx rfl (pAssign rfl (congrArg vB hy39)) ?_
  refine SeqW.done fun fr40 hf41 => ?_
  have h11 := (congrFun hf41 11).trans h11
  have h15 : fr40 15 = (vB y39) := (congrFun hf41 15).trans rfl
  clear hf41
  obtain rfl := Option.some.inj hr
  exact ⟨z, hz, st, rfl, h15, trivial⟩

theorem u_r02_Kind {N : Nat}  {z0 z : Nat → Blk} {e m : Mem} {k : Option Nat} {fr : Nat → Value} {x0 : List UInt8} (hz : Zx e.next z0 z) (st : St z e m k) (h0 : fr 0 = (str x0)) {r : Int × Int} (hr : r02_Kind N x0 = some r) : W Try.prog (sub (bodyOf Try.f48) []) (fun ex fr' m' => ∃ z', Zx e.next z0 z' ∧ St z' e m' k ∧ (ex = .normal ∨ ex = .ret) ∧ fr' 2 = (vI r.1) ∧ fr' 3 = (vI r.2) ∧ True) fr m := by
 unfold r02_Kind at hr
 refine W.seq (W.region ?_)
 refine sx rfl (pAssign (v := (vI 0)) rfl rfl) ?_
 refine sx rfl (pAssign (v := (vI 0)) rfl rfl) ?_
 refine SeqW.done fun fr1 hf2 => ?_
 have h0 := (congrFun hf2 0).trans h0
 clear hf2
 refine thenQ.n (W.seq ?_)
 refine W.seq (W.region ?_)
 refine sx rfl (pMove (v := (str x0)) rfl h0) ?_
 obtain ⟨y3, hy3, hr⟩ := bind_some hr
 refine SeqW.consX rfl (StepX.call (gCallee rfl rfl (args1 rfl)) ((c_r02_Valid (z := z) st.fz st.dead  hy3).mono ?_))
 rintro _ _ ⟨rfl, rfl⟩
 refine sx rfl (pAssign (v := (vI y3)) rfl rfl) ?_
 refine SeqW.done fun fr4 hf5 => ?_
 have h0 := (congrFun hf5 0).trans h0
 have h4 : fr4 4 = (vI y3) := (congrFun hf5 4).trans rfl
 clear hf5
 refine thenQ.n (W.seq (W.region ?_))
 refine sx rfl (pMove (v := (vI y3)) rfl h4) ?_
 refine sx rfl (pNeq (k := .i64) (a := y3) (b := 0) rfl rfl rfl) ?_
 refine SeqW.done fun fr6 hf7 => ?_
 have h0 := (congrFun hf7 0).trans h0
 have h4 := (congrFun hf7 4).trans h4
 have h8 : fr6 8 = (vB (y3 != 0)) := (congrFun hf7 8).trans rfl
 clear hf7
 refine thenQ.n ?_
 rcases if_some hr with ⟨hc8, hr⟩ | ⟨hc11, hr⟩
 ·refine W.condT h8 hc8 (W.seq (W.region ?_))
  refine sx rfl (pMove (v := (vI y3)) rfl h4) ?_
  refine sx rfl (pAssign (v := (vI 0)) rfl rfl) ?_
  refine sx rfl (pAssign (v := (vI y3)) rfl rfl) ?_
  refine SeqW.done fun fr9 hf10 => ?_
  have h2 : fr9 2 = (vI 0) := (congrFun hf10 2).trans rfl
  have h3 : fr9 3 = (vI y3) := (congrFun hf10 3).trans rfl
  clear hf10
  refine thenQ.n ?_
  refine W.ret ?_
  refine thenQ.r ?_
  obtain rfl := Option.some.inj hr
  exact ⟨z, hz, st, .inr rfl, h2, h3, trivial⟩
 ·refine W.condF h8 hc11 (W.skip ?_)
  refine thenQ.n (W.seq ?_)
  refine W.seq (W.region ?_)
  refine sx rfl (pMove (v := (str x0)) rfl h0) ?_
  obtain ⟨y12, hy12, hr⟩ := bind_some hr
  refine SeqW.consX rfl (kIndexS (s := x0) (n := 4) rfl Try.underlying9 rfl rfl hy12 ?_)
  refine SeqW.done fun fr13 hf14 => ?_
  have h11 : fr13 11 = (Value.int .u8 (UInt8.toNat y12 : Int)) := (congrFun hf14 11).trans rfl
  clear hf14
  refine thenQ.n ?_
  refine W.block ?_
  refine W.seq (W.seq (W.region ?_))
  refine sx rfl (pEql (k := .u8) (a := (UInt8.toNat y12 : Int)) (b := 55) rfl h11 rfl) ?_
  obtain ⟨y15, hy15, hr⟩ := lt_some hr
  refine sx rfl (pAssign rfl (congrArg vB hy15)) ?_
  refine SeqW.done fun fr16 hf17 => ?_
  have h11 := (congrFun hf17 11).trans h11
  have h12 : fr16 12 = (vB y15) := (congrFun hf17 12).trans rfl
  clear hf17
  refine thenQ.n ?_
  obtain ⟨y23, hy23, hr⟩ := bind_some hr
  refine W.keep (u_r02_Kind_0 (Zx.refl _) st h11 h12 hy23) ?_
  rintro ex29 fr24 m25 hk27 ⟨z26, hz28, st, rfl, h12, -⟩
  have h11 := (hk27 11 rfl).trans h11
  replace hz := hz.trans hz28
  clear hk27
  refine thenQ.n ?_
  rcases if_some hr with ⟨hc30, hr⟩ | ⟨hc33, hr⟩
  ·refine W.condT h12 hc30 (W.seq (W.region ?_))
   refine sx rfl (pAssign (v := (vI 1)) rfl rfl) ?_
   refine sx rfl (pAssign (v := (vI 0)) rfl rfl) ?_
   refine SeqW.done fun fr31 hf32 => ?_
   have h2 : fr31 2 = (vI 1) := (congrFun hf32 2).trans rfl
   have h3 : fr31 3 = (vI 0) := (congrFun hf32 3).trans rfl
   clear hf32
   refine thenQ.n ?_
   refine W.ret ?_
   refine blockQ.r ?_
   refine thenQ.r ?_
   obtain rfl := Option.some.inj hr
   exact ⟨z26, hz, st, .inr rfl, h2, h3, trivial⟩
  ·refine W.condF h12 hc33 (W.seq ?_)
   refine W.seq (W.region ?_)
   refine sx rfl (pEql (k := .u8) (a := (UInt8.toNat y12 : Int)) (b := 50) rfl h11 rfl) ?_
   obtain ⟨y34, hy34, hr⟩ := lt_some hr
   refine sx rfl (pAssign rfl (congrArg vB hy34)) ?_
   refine SeqW.done fun fr35 hf36 => ?_
   have h11 := (congrFun hf36 11).trans h11
   have h15 : fr35 15 = (vB y34) := (congrFun hf36 15).trans rfl
   clear hf36
   refine thenQ.n ?_
   obtain ⟨y42, hy42, hr⟩ := bind_some hr
   refine W.keep (u_r02_Kind_1 (Zx.refl _) st h11 h15 hy42) ?_
   rintro ex48 fr43 m44 hk46 ⟨z45, hz47, st, rfl, h15, -⟩
   have h11 := (hk46 11 rfl).trans h11
   replace hz := hz.trans hz47
   clear hk46
   refine thenQ.n ?_
   rcases if_some hr with ⟨hc49, hr⟩ | ⟨hc52, hr⟩
   ·refine W.condT h15 hc49 (W.seq (W.region ?_))
    refine sx rfl (pAssign (v := (vI 2)) rfl rfl) ?_
    refine sx rfl (pAssign (v := (vI 0)) rfl rfl) ?_
    refine SeqW.done fun fr50 hf51 => ?_
    have h2 : fr50 2 = (vI 2) := (congrFun hf51 2).trans rfl
    have h3 : fr50 3 = (vI 0) := (congrFun hf51 3).trans rfl
    clear hf51
    refine thenQ.n ?_
    refine W.ret ?_
    refine blockQ.r ?_
    refine thenQ.r ?_
    obtain rfl := Option.some.inj hr
    exact ⟨z45, hz, st, .inr rfl, h2, h3, trivial⟩
   ·refine W.condF h15 hc52 (W.seq (W.region ?_))
    refine sx rfl (pEql (k := .u8) (a := (UInt8.toNat y12 : Int)) (b := 57) rfl h11 rfl) ?_
    obtain ⟨y53, hy53, hr⟩ := lt_some hr
    refine sx rfl (pAssign rfl (congrArg vB hy53)) ?_
    refine SeqW.done fun fr54 hf55 => ?_
    have h18 : fr54 18 = (vB y53) := (congrFun hf55 18).trans rfl
    clear hf55
    refine thenQ.n ?_
    rcases if_some hr with ⟨hc56, hr⟩ | ⟨hc59, hr⟩
    ·refine W.condT h18 hc56 (W.seq (W.region ?_))
     refine sx rfl (pAssign (v := (vI 3)) rfl rfl) ?_
     refine sx rfl (pAssign (v := (vI 0)) rfl rfl) ?_
     refine SeqW.done fun fr57 hf58 => ?_
     have h2 : fr57 2 = (vI 3) := (congrFun hf58 2).trans rfl
     have h3 : fr57 3 = (vI 0) := (congrFun hf58 3).trans rfl
     clear hf58
     refine thenQ.n ?_
     refine W.ret ?_
     refine blockQ.r ?_
     refine thenQ.r ?_
     obtain rfl := Option.some.inj hr
     exact ⟨z45, hz, st, .inr rfl, h2, h3, trivial⟩
    ·refine W.condF h18 hc59 (W.skip ?_)
     refine blockQ.n ?_
     refine thenQ.n (W.seq (W.region ?_))
     refine sx rfl (pAssign (v := (vI 0)) rfl rfl) ?_
     refine sx rfl (pAssign (v := (vI 0)) rfl rfl) ?_
     refine SeqW.done fun fr60 hf61 => ?_
     have h2 : fr60 2 = (vI 0) := (congrFun hf61 2).trans rfl
     have h3 : fr60 3 = (vI 0) := (congrFun hf61 3).trans rfl
     clear hf61
     refine thenQ.n ?_
     refine W.ret ?_
     obtain rfl := Option.some.inj hr
     exact ⟨z45, hz, st, .inr rfl, h2, h3, trivial⟩

theorem c_r02_Kind {N : Nat} {z : Nat → Blk} {m : Mem} {x0 : List UInt8} (fz : Fz z m) (hd : ∀ b, m.next ≤ b → m.blk b = .dead)  {r : Int × Int} (hr : r02_Kind N x0 = some r) : CallW Try.prog 48 #[(str x0)] m fun v m' => v = (Value.tuple [(vI r.1), (vI r.2)].toArray) ∧ m' = m := by
 refine CallW.flat Try.func48 rfl (by kernel_rfl) (Nat.le_of_ble_eq_true rfl) rfl (z := z) (fun fr hf => ?_)
 have h0 : fr 0 = _ := hf 0 _ rfl
 refine (u_r02_Kind (k := none) (Zx.refl _) (St.start fz hd) h0 hr).mono ?_
 rintro ex fr' m' ⟨z', hz, st, he, h2, h3, -⟩
 exact ⟨he, z', st, [(vI r.1), (vI r.2)], ⟨h2.symm, h3.symm, trivial⟩, .inr (List.forall_mem_cons.2 ⟨rfl, List.forall_mem_cons.2 ⟨rfl, fun _ h => nomatch h⟩⟩), rfl⟩

/-! ### humpyard/humpyardref06.Name -/

theorem u_r06_Name_1 {N : Nat}  {z0 z : Nat → Blk} {e m : Mem} {k : Option Nat} {fr : Nat → Value} {x0 : List UInt8} {x3 : Int} (hz : Zx e.next z0 z) (st : St z e m k) (h0 : fr 0 = (str x0)) (h3 : fr 3 = (vI x3)) {r : Bool} (hr : r06_Name_1 N x0 x3 = some r) : W Try.prog (sub (bodyOf Try.f49) [1, 0, 1, 0, 0, 1, 0, 0, 0]) (fun ex fr' m' => ∃ z', Zx e.next z0 z' ∧ St z' e m' k ∧ ex = AExit.normal ∧ fr' 32 = (vB r) ∧ True) fr m := by
 unfold r06_Name_1 at hr
 refine W.region ?_
 refine sx rfl (pMove (v := (str x0)) rfl h0) ?_
 refine sx rfl (pMove (v := (vI x3)) rfl h3) ?_
 obtain ⟨y8, hy8, hr⟩ := bind_some hr
 refine SeqW.consX rfl (kIndexS (s := x0) (n := x3) rfl Try.underlying9 rfl rfl hy8 ?_)
 refine sx rfl (pGeq (k := .u8) (a := (UInt8.toNat y8 : Int)) (b := 97) rfl rfl rfl) ?_
 refine sx rfl (pMove (v := (vB (decide (97 ≤ (UInt8.toNat y8 : Int))))) rfl rfl) ?_
 rcases if_some hr with ⟨hc9, hr⟩ | ⟨hc23, hr⟩
 ·refine SeqW.consG rfl rfl rfl hc9 (StepX.pure (pMove (v := (str x0)) rfl h0) ?_)
  refine SeqW.consG rfl rfl rfl hc9 (StepX.pure (pMove (v := (vI x3)) rfl h3) ?_)
  obtain ⟨y10, hy10, hr⟩ := bind_some hr
  refine SeqW.consG rfl rfl rfl hc9 (kIndexS (s := x0) (n := x3) rfl Try.underlying9 rfl rfl hy10 ?_)
  refine SeqW.consG rfl rfl rfl hc9 (StepX.pure (pLeq (k := .u8) (a := (UInt8.toNat y10 : Int)) (b := 122) rfl rfl rfl) ?_)
  refine sx rfl (pPick (t := true) (v := (vB (decide ((UInt8.toNat y10 : Int) ≤ 122)))) rfl ((congrArg vB hc9)) rfl) ?_
  refine sx rfl (pMove (v := (vB (decide ((UInt8.toNat y10 : Int) ≤ 122)))) rfl rfl) ?_
  rcases if_some hr with ⟨hc11, hr⟩ | ⟨hc14, hr⟩
  ·refine kx rfl rfl rfl hc11 ?_
   iterate 4 refine kx rfl rfl rfl hc11 ?_
   refine SeqW.skipU rfl rfl rfl ?_
   refine SeqW.skipU rfl rfl rfl ?_
   refine SeqW.skipU rfl rfl rfl ?_
   refine SeqW.skipU rfl rfl rfl ?_
   refine kx rfl rfl rfl hc11 ?_
   refine sx rfl (pPick (t := true) (v := (vB true)) rfl ((congrArg vB hc11)) rfl) ?_
   refine sx rfl (pNot (b := true) rfl rfl) ?_
   refine SeqW.done fun fr12 hf13 => ?_
   have h0 := (congrFun hf13 0).trans h0
   have h3 := (congrFun hf13 3).trans h3
   have h32 : fr12 32 = (vB (!true)) := (congrFun hf13 32).trans rfl
   clear hf13
   obtain rfl := Option.some.inj hr
   exact ⟨z, hz, st, rfl, h32, trivial⟩
  ·refine SeqW.consG rfl rfl rfl hc14 (StepX.pure (pMove (v := (str x0)) rfl h0) ?_)
   refine SeqW.consG rfl rfl rfl hc14 (StepX.pure (pMove (v := (vI x3)) rfl h3) ?_)
   obtain ⟨y15, hy15, hr⟩ := bind_some hr
   refine SeqW.consG rfl rfl rfl hc14 (kIndexS (s := x0) (n := x3) rfl Try.underlying9 rfl rfl hy15 ?_)
   refine SeqW.consG rfl rfl rfl hc14 (StepX.pure (pGeq (k := .u8) (a := (UInt8.toNat y15 : Int)) (b := 48) rfl rfl rfl) ?_)
   refine SeqW.consG rfl rfl rfl hc14 (StepX.pure (pMove (v := (vB (decide (48 ≤ (UInt8.toNat y15 : Int))))) rfl rfl) ?_)
   rcases if_some hr with ⟨hc16, hr⟩ | ⟨hc20, hr⟩
   ·refine SeqW.consG rfl rfl rfl hc16 (StepX.pure (pMove (v := (str x0)) rfl h0) ?_)
    refine SeqW.consG rfl rfl rfl hc16 (StepX.pure (pMove (v := (vI x3)) rfl h3) ?_)
    obtain ⟨y17, hy17, hr⟩ := bind_some hr
    refine SeqW.consG rfl rfl rfl hc16 (kIndexS (s := x0) (n := x3) rfl Try.underlying9 rfl rfl hy17 ?_)
    refine SeqW.consG rfl rfl rfl hc16 (StepX.pure (pLeq (k := .u8) (a := (UInt8.toNat y17 : Int)) (b := 57) rfl rfl rfl) ?_)
    refine SeqW.consG rfl rfl rfl hc14 (StepX.pure (pPick (t := true) (v := (vB (decide ((UInt8.toNat y17 : Int) ≤ 57)))) rfl ((congrArg vB hc16)) rfl) ?_)
    refine sx rfl (pPick (t := false) (v := (vB (decide ((UInt8.toNat y17 : Int) ≤ 57)))) rfl ((congrArg vB hc14)) rfl) ?_
    refine sx rfl (pNot (b := (decide ((UInt8.toNat y17 : Int) ≤ 57))) rfl rfl) ?_
    refine SeqW.done fun fr18 hf19 => ?_
    have h0 := (congrFun hf19 0).trans h0
    have h3 := (congrFun hf19 3).trans h3
    have h32 : fr18 32 = (vB (!(decide ((UInt8.toNat y17 : Int) ≤ 57)))) := (congrFun hf19 32).trans rfl
    clear hf19
    obtain rfl := Option.some.inj hr
    exact ⟨z, hz, st, rfl, h32, trivial⟩
   ·refine kx rfl rfl rfl hc20 ?_
    iterate 3 refine kx rfl rfl rfl hc20 ?_
    refine SeqW.consG rfl rfl rfl hc14 (StepX.pure (pPick (t := false) (v := (vB false)) rfl ((congrArg vB hc20)) rfl) ?_)
    refine sx rfl (pPick (t := false) (v := (vB false)) rfl ((congrArg vB hc14)) rfl) ?_
    refine sx rfl (pNot (b := false) rfl rfl) ?_
    refine SeqW.done fun fr21 hf22 => ?_
    have h0 := (congrFun hf22 0).trans h0
    have h3 := (congrFun hf22 3).trans h3
    have h32 : fr21 32 = (vB (!false)) := (congrFun hf22 32).trans rfl
    clear hf22
    obtain rfl := Option.some.inj hr
    exact ⟨z, hz, st, rfl, h32, trivial⟩
 ·refine kx rfl rfl rfl hc23 ?_
  iterate 3 refine kx rfl rfl rfl hc23 ?_
  refine sx rfl (pPick (t := false) (v := (vB false)) rfl ((congrArg vB hc23)) rfl) ?_
  refine sx rfl (pMove (v := (vB false)) rfl rfl) ?_
  refine SeqW.consG rfl rfl rfl rfl (StepX.pure (pMove (v := (str x0)) rfl h0) ?_)
  refine SeqW.consG rfl rfl rfl rfl (StepX.pure (pMove (v := (vI x3)) rfl h3) ?_)
  obtain ⟨y24, hy24, hr⟩ := bind_some hr
  refine SeqW.consG rfl rfl rfl rfl (kIndexS (s := x0) (n := x3) rfl Try.underlying9 rfl rfl hy24 ?_)
  refine SeqW.consG rfl rfl rfl rfl (StepX.pure (pGeq (k := .u8) (a := (UInt8.toNat y24 : Int)) (b := 48) rfl rfl rfl) ?_)
  refine SeqW.consG rfl rfl rfl rfl (StepX.pure (pMove (v := (vB (decide (48 ≤ (UInt8.toNat y24 : Int))))) rfl rfl) ?_)
  rcases if_some hr with ⟨hc25, hr⟩ | ⟨hc29, hr⟩
  ·refine SeqW.consG rfl rfl rfl hc25 (StepX.pure (pMove (v := (str x0)) rfl h0) ?_)
   refine SeqW.consG rfl rfl rfl hc25 (StepX.pure (pMove (v := (vI x3)) rfl h3) ?_)
   obtain ⟨y26, hy26, hr⟩ := bind_some hr
   refine SeqW.consG rfl rfl rfl hc25 (kIndexS (s := x0) (n := x3) rfl Try.underlying9 rfl rfl hy26 ?_)
   refine SeqW.consG rfl rfl rfl hc25 (StepX.pure (pLeq (k := .u8) (a := (UInt8.toNat y26 : Int)) (b := 57) rfl rfl rfl) ?_)
   refine SeqW.consG rfl rfl rfl rfl (StepX.pure (pPick (t := true) (v := (vB (decide ((UInt8.toNat y26 : Int) ≤ 57)))) rfl ((congrArg vB hc25)) rfl) ?_)
   refine sx rfl (pPick (t := false) (v := (vB (decide ((UInt8.toNat y26 : Int) ≤ 57)))) rfl ((congrArg vB (rfl : false = false))) rfl) ?_
   refine sx rfl (pNot (b := (decide ((UInt8.toNat y26 : Int) ≤ 57))) rfl rfl) ?_
   refine SeqW.done fun fr27 hf28 => ?_
   have h0 := (congrFun hf28 0).trans h0
   have h3 := (congrFun hf28 3).trans h3
   have h32 : fr27 32 = (vB (!(decide ((UInt8.toNat y26 : Int) ≤ 57)))) := (congrFun hf28 32).trans rfl
   clear hf28
   obtain rfl := Option.some.inj hr
   exact ⟨z, hz, st, rfl, h32, trivial⟩
  ·refine kx rfl rfl rfl hc29 ?_
   iterate 3 refine kx rfl rfl rfl hc29 ?_
   refine SeqW.consG rfl rfl rfl rfl (StepX.pure (pPick (t := false) (v := (vB false)) rfl ((congrArg vB hc29)) rfl) ?_)
   refine sx rfl (pPick (t := false) (v := (vB false)) rfl ((congrArg vB (rfl : false = false))) rfl) ?_
   refine sx rfl (pNot (b := false) rfl rfl) ?_
   refine SeqW.done fun fr30 hf31 => ?_
   have h0 := (congrFun hf31 0).trans h0
   have h3 := (congrFun hf31 3).trans h3
   have h32 : fr30 32 = (vB (!false)) := (congrFun hf31 32).trans rfl
   clear hf31
   obtain rfl := Option.some.inj hr
   exact ⟨z, hz, st, rfl, h32, trivial⟩

theorem u_r06_Name_0 : ∀ (n : Nat) {N : Nat}  {z0 z : Nat → Blk} {e m : Mem} {k : Option Nat} {fr : Nat → Value} {x0 : List UInt8} {x3 : Int} (hz : Zx e.next z0 z) (st : St z e m k) (h0 : fr 0 = (str x0)) (h3 : fr 3 = (vI x3)) {r : Sum (Unit) (Bool)} (hr : r06_Name_0 N x0 n x3 = some r), W Try.prog (sub (bodyOf Try.f49) [1, 0, 1, 0]) (fun ex fr' m' => ∃ z', Zx e.next z0 z' ∧ St z' e m' k ∧ ((∃ q, r = Sum.inl q ∧ ex = AExit.exit 0 ∧ True) ∨ (∃ q, r = Sum.inr q ∧ ex = AExit.ret ∧ fr' 2 = (vB q) ∧ True))) fr m := by
 intro n
 induction n with
 | zero => intro N z0 z e m k fr x0 x3 hz st h0 h3 r hr; cases (show (none : Option _) = some r from hr)
 | succ n ih =>
  intro N z0 z e m k fr x0 x3 hz st h0 h3 r hr
  unfold r06_Name_0 at hr
  refine W.loop1 ?_
  refine W.seq (W.seq (W.region ?_))
  refine sx rfl (pMove (v := (vI x3)) rfl h3) ?_
  refine sx rfl (pMove (v := (str x0)) rfl h0) ?_
  refine sx rfl (pLenS (s := x0) rfl rfl Try.underlying9 rfl) ?_
  refine sx rfl (pLss (k := .i64) (a := x3) (b := (x0.length : Int)) rfl rfl rfl) ?_
  refine SeqW.done fun fr5 hf6 => ?_
  have h0 := (congrFun hf6 0).trans h0
  have h3 := (congrFun hf6 3).trans h3
  have h7 : fr5 7 = (vB (decide (x3 < (x0.length : Int)))) := (congrFun hf6 7).trans rfl
  clear hf6
  refine thenQ.n ?_
  rcases if_some hr with ⟨hc7, hr⟩ | ⟨hc46, hr⟩
  ·refine W.condT h7 hc7 (W.skip ?_)
   refine thenQ.n (W.seq ?_)
   refine W.block ?_
   refine W.seq ?_
   obtain ⟨y32, hy32, hr⟩ := bind_some hr
   refine W.keep (u_r06_Name_1 (Zx.refl _) st h0 h3 hy32) ?_
   rintro ex38 fr33 m34 hk36 ⟨z35, hz37, st, rfl, h32, -⟩
   have h0 := (hk36 0 rfl).trans h0
   have h3 := (hk36 3 rfl).trans h3
   replace hz := hz.trans hz37
   clear hk36
   refine thenQ.n ?_
   rcases if_some hr with ⟨hc39, hr⟩ | ⟨hc42, hr⟩
   ·refine W.condT h32 hc39 (W.seq (W.region ?_))
    refine sx rfl (pAssign (v := (vB false)) rfl rfl) ?_
    refine SeqW.done fun fr40 hf41 => ?_
    have h2 : fr40 2 = (vB false) := (congrFun hf41 2).trans rfl
    clear hf41
    refine thenQ.n ?_
    refine W.ret ?_
    refine blockQ.r ?_
    refine thenQ.r ?_
    refine thenQ.r ?_
    obtain rfl := Option.some.inj hr
    exact ⟨z35, hz, st, .inr ⟨_, rfl, rfl, h2, trivial⟩⟩
   ·refine W.condF h32 hc42 (W.skip ?_)
    refine blockQ.n ?_
    refine thenQ.n (W.region ?_)
    refine sx rfl (pMove (v := (vI x3)) rfl h3) ?_
    refine sx rfl (pAdd (k := .i64) (a := x3) (b := 1) rfl rfl rfl) ?_
    obtain ⟨y43, hy43, hr⟩ := lt_some hr
    refine sx rfl (pAssign rfl (congrArg (Value.int .i64) hy43)) ?_
    refine SeqW.done fun fr44 hf45 => ?_
    have h0 := (congrFun hf45 0).trans h0
    have h3 : fr44 3 = (vI y43) := (congrFun hf45 3).trans rfl
    clear hf45
    refine thenQ.n ?_
    exact ih hz st h0 h3 hr
  ·refine W.condF h7 hc46 ?_
   refine W.exit ?_
   refine thenQ.x ?_
   refine thenQ.x ?_
   obtain rfl := Option.some.inj hr
   exact ⟨z, hz, st, .inl ⟨_, rfl, rfl, trivial⟩⟩

theorem u_r06_Name_2 {N : Nat}  {z0 z : Nat → Blk} {e m : Mem} {k : Option Nat} {fr : Nat → Value} {x0 : List UInt8} (hz : Zx e.next z0 z) (st : St z e m k) (h0 : fr 0 = (str x0)) {r : Bool} (hr : r06_Name_2 N x0 = some r) : W Try.prog (sub (bodyOf Try.f49) [1, 1, 0]) (fun ex fr' m' => ∃ z', Zx e.next z0 z' ∧ St z' e m' k ∧ ex = AExit.normal ∧ fr' 2 = (vB r) ∧ True) fr m := by
 unfold r06_Name_2 at hr
 refine W.region ?_
 refine sx rfl (pMove (v := (str x0)) rfl h0) ?_
 refine sx rfl (pLenS (s := x0) rfl rfl Try.underlying9 rfl) ?_
 refine sx rfl (pGeq (k := .i64) (a := (x0.length : Int)) (b := 1) rfl rfl rfl) ?_
 refine sx rfl (pMove (v := (vB (decide (1 ≤ (x0.length : Int))))) rfl rfl) ?_
 rcases if_some hr with ⟨hc55, hr⟩ | ⟨hc59, hr⟩
 ·refine SeqW.consG rfl rfl rfl hc55 (StepX.pure (pMove (v := (str x0)) rfl h0) ?_)
  refine SeqW.consG rfl rfl rfl hc55 (StepX.pure (pLenS (s := x0) rfl rfl Try.underlying9 rfl) ?_)
  refine SeqW.consG rfl rfl rfl hc55 (StepX.pure (pLeq (k := .i64) (a := (x0.length : Int)) (b := 12) rfl rfl rfl) ?_)
  refine sx rfl (pPick (t := true) (v := (vB (decide ((x0.length : Int) ≤ 12)))) rfl ((congrArg vB hc55)) rfl) ?_
  obtain ⟨y56, hy56, hr⟩ := lt_some hr
  refine sx rfl (pAssign rfl (congrArg vB hy56)) ?_
  refine SeqW.done fun fr57 hf58 => ?_
  have h2 : fr57 2 = (vB y56) := (congrFun hf58 2).trans rfl
  clear hf58
  obtain rfl := Option.some.inj hr
  exact ⟨z, hz, st, rfl, h2, trivial⟩
 ·refine kx rfl rfl rfl hc59 ?_
  iterate 2 refine kx rfl rfl rfl hc59 ?_
  refine sx rfl (pPick (t := false) (v := (vB false)) rfl ((congrArg vB hc59)) rfl) ?_
  refine sx rfl (pAssign (v := (vB false)) rfl rfl) ?_
  refine SeqW.done fun fr60 hf61 => ?_
  have h2 : fr60 2 = (vB false) := (congrFun hf61 2).trans rfl
  clear hf61
  obtain rfl := Option.some.inj hr
  exact ⟨z, hz, st, rfl, h2, trivial⟩

theorem u_r06_Name {N : Nat}  {z0 z : Nat → Blk} {e m : Mem} {k : Option Nat} {fr : Nat → Value} {x0 : List UInt8} (hz : Zx e.next z0 z) (st : St z e m k) (h0 : fr 0 = (str x0)) {r : Bool} (hr : r06_Name N x0 = some r) : W Try.prog (sub (bodyOf Try.f49) []) (fun ex fr' m' => ∃ z', Zx e.next z0 z' ∧ St z' e m' k ∧ (ex = .normal ∨ ex = .ret) ∧ fr' 2 = (vB r) ∧ True) fr m := by
 unfold r06_Name at hr
 refine W.seq (W.region ?_)
 refine sx rfl (pAssign (v := (vB false)) rfl rfl) ?_
 refine SeqW.done fun fr1 hf2 => ?_
 have h0 := (congrFun hf2 0).trans h0
 clear hf2
 refine thenQ.n (W.seq ?_)
 refine W.seq (W.region ?_)
 refine sx rfl (pAssign (v := (vI 0)) rfl rfl) ?_
 refine SeqW.done fun fr3 hf4 => ?_
 have h0 := (congrFun hf4 0).trans h0
 have h3 : fr3 3 = (vI 0) := (congrFun hf4 3).trans rfl
 clear hf4
 refine thenQ.n ?_
 refine W.block ?_
 obtain ⟨y47, hy47, hr⟩ := bind_some hr
 refine W.keep (u_r06_Name_0 _ (Zx.refl _) st h0 h3 hy47) ?_
 rintro ex53 fr48 m49 hk51 ⟨z50, hz52, st, ⟨y54, rfl, rfl, -⟩ | ⟨y69, rfl, rfl, h2, -⟩⟩
 ·dsimp only at hr
  have h0 := (hk51 0 rfl).trans h0
  replace hz := hz.trans hz52
  clear hk51
  refine blockQ.hit ?_
  refine thenQ.n (W.seq ?_)
  obtain ⟨y62, hy62, hr⟩ := bind_some hr
  refine W.keep (u_r06_Name_2 (Zx.refl _) st h0 hy62) ?_
  rintro ex68 fr63 m64 hk66 ⟨z65, hz67, st, rfl, h2, -⟩
  replace hz := hz.trans hz67
  clear hk66
  refine thenQ.n ?_
  refine W.ret ?_
  obtain rfl := Option.some.inj hr
  exact ⟨z65, hz, st, .inr rfl, h2, trivial⟩
 ·dsimp only at hr
  replace hz := hz.trans hz52
  clear hk51
  refine blockQ.r ?_
  refine thenQ.r ?_
  obtain rfl := Option.some.inj hr
  exact ⟨z50, hz, st, .inr rfl, h2, trivial⟩

theorem c_r06_Name {N : Nat} {z : Nat → Blk} {m : Mem} {x0 : List UInt8} (fz : Fz z m) (hd : ∀ b, m.next ≤ b → m.blk b = .dead)  {r : Bool} (hr : r06_Name N x0 = some r) : CallW Try.prog 49 #[(str x0)] m fun v m' => v = (vB r) ∧ m' = m := by
 refine CallW.flat Try.func49 rfl (by kernel_rfl) (Nat.le_of_ble_eq_true rfl) rfl (z := z) (fun fr hf => ?_)
 have h0 : fr 0 = _ := hf 0 _ rfl
 refine (u_r06_Name (k := none) (Zx.refl _) (St.start fz hd) h0 hr).mono ?_
 rintro ex fr' m' ⟨z', hz, st, he, h2, -⟩
 exact ⟨he, z', st, [(vB r)], ⟨h2.symm, trivial⟩, .inl rfl, rfl⟩

/-! ### humpyard/humpyardref06.Valid -/

theorem u_r06_Valid_0 {N : Nat}  {z0 z : Nat → Blk} {e m : Mem} {k : Option Nat} {fr : Nat → Value} {x5 : Int} {x6 : Int} {x16 : Int} {x1 : Wagon} {b1 : Nat} (hz : Zx e.next z0 z) (st : St z e m k) (h1 : fr 1 = (vP b1)) (bx1 : Bx z e m k b1 [(str x1.number), (vI x1.length), (vI x1.axles), (vI x1.mass), (vI x1.brake), (vI x1.goods), (vB x1.gentle), (str x1.dest)] 42) (h5 : fr 5 = (vI x5)) (h6 : fr 6 = (vI x6)) (h16 : fr 16 = (vI x16)) {r : Int × Int} (hr : r06_Valid_0 N x5 x6 x16 = some r) : W Try.prog (sub (bodyOf Try.f40) [1, 1, 1, 1, 0, 1]) (fun ex fr' m' => ∃ z', Zx e.next z0 z' ∧ St z' e m' k ∧ ex = AExit.normal ∧ fr' 5 = (vI r.1) ∧ fr' 6 = (vI r.2) ∧ Bx z' e m' k b1 [(str x1.number), (vI x1.length), (vI x1.axles), (vI x1.mass), (vI x1.brake), (vI x1.goods), (vB x1.gentle), (str x1.dest)] 42 ∧ True) fr m := by
 unfold r06_Valid_0 at hr
 refine W.block ?_
 refine W.seq (W.region ?_)
 refine sx rfl (pEql (k := .i64) (a := x16) (b := 2) rfl h16 rfl) ?_
 obtain ⟨y22, hy22, hr⟩ := lt_some hr
 refine sx rfl (pAssign rfl (congrArg vB hy22)) ?_
 refine SeqW.done fun fr23 hf24 => ?_
 have h1 := (congrFun hf24 1).trans h1
 have h5 := (congrFun hf24 5).trans h5
 have h6 := (congrFun hf24 6).trans h6
 have h16 := (congrFun hf24 16).trans h16
 have h17 : fr23 17 = (vB y22) := (congrFun hf24 17).trans rfl
 clear hf24
 refine thenQ.n ?_
 rcases if_some hr with ⟨hc25, hr⟩ | ⟨hc28, hr⟩
 ·refine W.condT h17 hc25 (W.region ?_)
  refine sx rfl (pAssign (v := (vI 2)) rfl rfl) ?_
  refine SeqW.done fun fr26 hf27 => ?_
  have h1 := (congrFun hf27 1).trans h1
  have h5 : fr26 5 = (vI 2) := (congrFun hf27 5).trans rfl
  have h6 := (congrFun hf27 6).trans h6
  clear hf27
  refine blockQ.n ?_
  obtain rfl := Option.some.inj hr
  exact ⟨z, hz, st, rfl, h5, h6, bx1, trivial⟩
 ·refine W.condF h17 hc28 (W.seq (W.region ?_))
  refine sx rfl (pEql (k := .i64) (a := x16) (b := 3) rfl h16 rfl) ?_
  obtain ⟨y29, hy29, hr⟩ := lt_some hr
  refine sx rfl (pAssign rfl (congrArg vB hy29)) ?_
  refine SeqW.done fun fr30 hf31 => ?_
  have h1 := (congrFun hf31 1).trans h1
  have h5 := (congrFun hf31 5).trans h5
  have h6 := (congrFun hf31 6).trans h6
  have h19 : fr30 19 = (vB y29) := (congrFun hf31 19).trans rfl
  clear hf31
  refine thenQ.n ?_
  rcases if_some hr with ⟨hc32, hr⟩ | ⟨hc35, hr⟩
  ·refine W.condT h19 hc32 (W.region ?_)
   refine sx rfl (pAssign (v := (vI 6)) rfl rfl) ?_
   refine sx rfl (pAssign (v := (vI 120)) rfl rfl) ?_
   refine SeqW.done fun fr33 hf34 => ?_
   have h1 := (congrFun hf34 1).trans h1
   have h5 : fr33 5 = (vI 6) := (congrFun hf34 5).trans rfl
   have h6 : fr33 6 = (vI 120) := (congrFun hf34 6).trans rfl
   clear hf34
   refine blockQ.n ?_
   obtain rfl := Option.some.inj hr
   exact ⟨z, hz, st, rfl, h5, h6, bx1, trivial⟩
  ·refine W.condF h19 hc35 (W.skip ?_)
   refine blockQ.n ?_
   obtain rfl := Option.some.inj hr
   exact ⟨z, hz, st, rfl, h5, h6, bx1, trivial⟩

theorem u_r06_Valid_1 {N : Nat}  {z0 z : Nat → Blk} {e m : Mem} {k : Option Nat} {fr : Nat → Value} {x1 : Wagon} {x6 : Int} {b1 : Nat} (hz : Zx e.next z0 z) (st : St z e m k) (h1 : fr 1 = (vP b1)) (bx1 : Bx z e m k b1 [(str x1.number), (vI x1.length), (vI x1.axles), (vI x1.mass), (vI x1.brake), (vI x1.goods), (vB x1.gentle), (str x1.dest)] 42) (h6 : fr 6 = (vI x6)) {r : Bool} (hr : r06_Valid_1 N x1 x6 = some r) : W Try.prog (sub (bodyOf Try.f40) [1, 1, 1, 1, 1, 0, 0, 1, 1, 0]) (fun ex fr' m' => ∃ z', Zx e.next z0 z' ∧ St z' e m' k ∧ ex = AExit.normal ∧ fr' 26 = (vB r) ∧ Bx z' e m' k b1 [(str x1.number), (vI x1.length), (vI x1.axles), (vI x1.mass), (vI x1.brake), (vI x1.goods), (vB x1.gentle), (str x1.dest)] 42 ∧ True) fr m := by
 unfold r06_Valid_1 at hr
 refine W.region ?_
 refine SeqW.consX rfl (kField rfl Try.underlying42 rfl Try.type3 rfl h1 rfl ?_)
 refine SeqW.consX rfl (kLoad rfl Try.underlying3 rfl rfl (bx1.load (v := (vI x1.length)) rfl) ?_)
 refine sx rfl (pMove (v := (vI x6)) rfl h6) ?_
 refine sx rfl (pLss (k := .i64) (a := x1.length) (b := x6) rfl rfl rfl) ?_
 refine sx rfl (pMove (v := (vB (decide (x1.length < x6)))) rfl rfl) ?_
 rcases if_some hr with ⟨hc51, hr⟩ | ⟨hc54, hr⟩
 ·refine kx rfl rfl rfl hc51 ?_
  iterate 2 refine kx rfl rfl rfl hc51 ?_
  refine sx rfl (pPick (t := true) (v := (vB true)) rfl ((congrArg vB hc51)) rfl) ?_
  refine sx rfl (pMove (v := (vB true)) rfl rfl) ?_
  iterate 3 refine kx rfl rfl rfl rfl ?_
  refine sx rfl (pPick (t := true) (v := (vB true)) rfl ((congrArg vB (rfl : true = true))) rfl) ?_
  refine sx rfl (pMove (v := (vB true)) rfl rfl) ?_
  iterate 3 refine kx rfl rfl rfl rfl ?_
  refine sx rfl (pPick (t := true) (v := (vB true)) rfl ((congrArg vB (rfl : true = true))) rfl) ?_
  refine sx rfl (pMove (v := (vB true)) rfl rfl) ?_
  iterate 3 refine kx rfl rfl rfl rfl ?_
  refine sx rfl (pPick (t := true) (v := (vB true)) rfl ((congrArg vB (rfl : true = true))) rfl) ?_
  refine sx rfl (pMove (v := (vB true)) rfl rfl) ?_
  iterate 5 refine kx rfl rfl rfl rfl ?_
  refine sx rfl (pPick (t := true) (v := (vB true)) rfl ((congrArg vB (rfl : true = true))) rfl) ?_
  refine sx rfl (pMove (v := (vB true)) rfl rfl) ?_
  iterate 3 refine kx rfl rfl rfl rfl ?_
  refine sx rfl (pPick (t := true) (v := (vB true)) rfl ((congrArg vB (rfl : true = true))) rfl) ?_
  refine sx rfl (pMove (v := (vB true)) rfl rfl) ?_
  iterate 3 refine kx rfl rfl rfl rfl ?_
  refine sx rfl (pPick (t := true) (v := (vB true)) rfl ((congrArg vB (rfl : true = true))) rfl) ?_
  refine sx rfl (pAssign (v := (vB true)) rfl rfl) ?_
  refine SeqW.done fun fr52 hf53 => ?_
  have h1 := (congrFun hf53 1).trans h1
  have h26 : fr52 26 = (vB true) := (congrFun hf53 26).trans rfl
  clear hf53
  obtain rfl := Option.some.inj hr
  exact ⟨z, hz, st, rfl, h26, bx1, trivial⟩
 ·refine SeqW.consG rfl rfl rfl hc54 (kField rfl Try.underlying42 rfl Try.type3 rfl h1 rfl ?_)
  refine SeqW.consG rfl rfl rfl hc54 (kLoad rfl Try.underlying3 rfl rfl (bx1.load (v := (vI x1.length)) rfl) ?_)
  refine SeqW.consG rfl rfl rfl hc54 (StepX.pure (pGtr (k := .i64) (a := x1.length) (b := 400) rfl rfl rfl) ?_)
  refine sx rfl (pPick (t := false) (v := (vB (decide (400 < x1.length)))) rfl ((congrArg vB hc54)) rfl) ?_
  refine sx rfl (pMove (v := (vB (decide (400 < x1.length)))) rfl rfl) ?_
  rcases if_some hr with ⟨hc55, hr⟩ | ⟨hc58, hr⟩
  ·refine kx rfl rfl rfl hc55 ?_
   iterate 2 refine kx rfl rfl rfl hc55 ?_
   refine sx rfl (pPick (t := true) (v := (vB true)) rfl ((congrArg vB hc55)) rfl) ?_
   refine sx rfl (pMove (v := (vB true)) rfl rfl) ?_
   iterate 3 refine kx rfl rfl rfl rfl ?_
   refine sx rfl (pPick (t := true) (v := (vB true)) rfl ((congrArg vB (rfl : true = true))) rfl) ?_
   refine sx rfl (pMove (v := (vB true)) rfl rfl) ?_
   iterate 3 refine kx rfl rfl rfl rfl ?_
   refine sx rfl (pPick (t := true) (v := (vB true)) rfl ((congrArg vB (rfl : true = true))) rfl) ?_
   refine sx rfl (pMove (v := (vB true)) rfl rfl) ?_
   iterate 5 refine kx rfl rfl rfl rfl ?_
   refine sx rfl (pPick (t := true) (v := (vB true)) rfl ((congrArg vB (rfl : true = true))) rfl) ?_
   refine sx rfl (pMove (v := (vB true)) rfl rfl) ?_
   iterate 3 refine kx rfl rfl rfl rfl ?_
   refine sx rfl (pPick (t := true) (v := (vB true)) rfl ((congrArg vB (rfl : true = true))) rfl) ?_
   refine sx rfl (pMove (v := (vB true)) rfl rfl) ?_
   iterate 3 refine kx rfl rfl rfl rfl ?_
   refine sx rfl (pPick (t := true) (v := (vB true)) rfl ((congrArg vB (rfl : true = true))) rfl) ?_
   refine sx rfl (pAssign (v := (vB true)) rfl rfl) ?_
   refine SeqW.done fun fr56 hf57 => ?_
   have h1 := (congrFun hf57 1).trans h1
   have h26 : fr56 26 = (vB true) := (congrFun hf57 26).trans rfl
   clear hf57
   obtain rfl := Option.some.inj hr
   exact ⟨z, hz, st, rfl, h26, bx1, trivial⟩
  ·refine SeqW.consG rfl rfl rfl hc58 (kField rfl Try.underlying42 rfl Try.type3 rfl h1 rfl ?_)
   refine SeqW.consG rfl rfl rfl hc58 (kLoad rfl Try.underlying3 rfl rfl (bx1.load (v := (vI x1.mass)) rfl) ?_)
   refine SeqW.consG rfl rfl rfl hc58 (StepX.pure (pLss (k := .i64) (a := x1.mass) (b := 50) rfl rfl rfl) ?_)
   refine sx rfl (pPick (t := false) (v := (vB (decide (x1.mass < 50)))) rfl ((congrArg vB hc58)) rfl) ?_
   refine sx rfl (pMove (v := (vB (decide (x1.mass < 50)))) rfl rfl) ?_
   rcases if_some hr with ⟨hc59, hr⟩ | ⟨hc62, hr⟩
   ·refine kx rfl rfl rfl hc59 ?_
    iterate 2 refine kx rfl rfl rfl hc59 ?_
    refine sx rfl (pPick (t := true) (v := (vB true)) rfl ((congrArg vB hc59)) rfl) ?_
    refine sx rfl (pMove (v := (vB true)) rfl rfl) ?_
    iterate 3 refine kx rfl rfl rfl rfl ?_
    refine sx rfl (pPick (t := true) (v := (vB true)) rfl ((congrArg vB (rfl : true = true))) rfl) ?_
    refine sx rfl (pMove (v := (vB true)) rfl rfl) ?_
    iterate 5 refine kx rfl rfl rfl rfl ?_
    refine sx rfl (pPick (t := true) (v := (vB true)) rfl ((congrArg vB (rfl : true = true))) rfl) ?_
    refine sx rfl (pMove (v := (vB true)) rfl rfl) ?_
    iterate 3 refine kx rfl rfl rfl rfl ?_
    refine sx rfl (pPick (t := true) (v := (vB true)) rfl ((congrArg vB (rfl : true = true))) rfl) ?_
    refine sx rfl (pMove (v := (vB true)) rfl rfl) ?_
    iterate 3 refine kx rfl rfl rfl rfl ?_
    refine sx rfl (pPick (t := true) (v := (vB true)) rfl ((congrArg vB (rfl : true = true))) rfl) ?_
    refine sx rfl (pAssign (v := (vB true)) rfl rfl) ?_
    refine SeqW.done fun fr60 hf61 => ?_
    have h1 := (congrFun hf61 1).trans h1
    have h26 : fr60 26 = (vB true) := (congrFun hf61 26).trans rfl
    clear hf61
    obtain rfl := Option.some.inj hr
    exact ⟨z, hz, st, rfl, h26, bx1, trivial⟩
   ·refine SeqW.consG rfl rfl rfl hc62 (kField rfl Try.underlying42 rfl Try.type3 rfl h1 rfl ?_)
    refine SeqW.consG rfl rfl rfl hc62 (kLoad rfl Try.underlying3 rfl rfl (bx1.load (v := (vI x1.mass)) rfl) ?_)
    refine SeqW.consG rfl rfl rfl hc62 (StepX.pure (pGtr (k := .i64) (a := x1.mass) (b := 2000) rfl rfl rfl) ?_)
    refine sx rfl (pPick (t := false) (v := (vB (decide (2000 < x1.mass)))) rfl ((congrArg vB hc62)) rfl) ?_
    refine sx rfl (pMove (v := (vB (decide (2000 < x1.mass)))) rfl rfl) ?_
    rcases if_some hr with ⟨hc63, hr⟩ | ⟨hc66, hr⟩
    ·refine kx rfl rfl rfl hc63 ?_
     iterate 2 refine kx rfl rfl rfl hc63 ?_
     refine sx rfl (pPick (t := true) (v := (vB true)) rfl ((congrArg vB hc63)) rfl) ?_
     refine sx rfl (pMove (v := (vB true)) rfl rfl) ?_
     iterate 5 refine kx rfl rfl rfl rfl ?_
     refine sx rfl (pPick (t := true) (v := (vB true)) rfl ((congrArg vB (rfl : true = true))) rfl) ?_
     refine sx rfl (pMove (v := (vB true)) rfl rfl) ?_
     iterate 3 refine kx rfl rfl rfl rfl ?_
     refine sx rfl (pPick (t := true) (v := (vB true)) rfl ((congrArg vB (rfl : true = true))) rfl) ?_
     refine sx rfl (pMove (v := (vB true)) rfl rfl) ?_
     iterate 3 refine kx rfl rfl rfl rfl ?_
     refine sx rfl (pPick (t := true) (v := (vB true)) rfl ((congrArg vB (rfl : true = true))) rfl) ?_
     refine sx rfl (pAssign (v := (vB true)) rfl rfl) ?_
     refine SeqW.done fun fr64 hf65 => ?_
     have h1 := (congrFun hf65 1).trans h1
     have h26 : fr64 26 = (vB true) := (congrFun hf65 26).trans rfl
     clear hf65
     obtain rfl := Option.some.inj hr
     exact ⟨z, hz, st, rfl, h26, bx1, trivial⟩
    ·refine SeqW.consG rfl rfl rfl hc66 (kField rfl Try.underlying42 rfl Try.type3 rfl h1 rfl ?_)
     refine SeqW.consG rfl rfl rfl hc66 (kLoad rfl Try.underlying3 rfl rfl (bx1.load (v := (vI x1.brake)) rfl) ?_)
     refine SeqW.consG rfl rfl rfl hc66 (StepX.pure (pLss (k := .i64) (a := x1.brake) (b := 0) rfl rfl rfl) ?_)
     refine sx rfl (pPick (t := false) (v := (vB (decide (x1.brake < 0)))) rfl ((congrArg vB hc66)) rfl) ?_
     refine sx rfl (pMove (v := (vB (decide (x1.brake < 0)))) rfl rfl) ?_
     rcases if_some hr with ⟨hc67, hr⟩ | ⟨hc70, hr⟩
     ·refine kx rfl rfl rfl hc67 ?_
      iterate 4 refine kx rfl rfl rfl hc67 ?_
      refine sx rfl (pPick (t := true) (v := (vB true)) rfl ((congrArg vB hc67)) rfl) ?_
      refine sx rfl (pMove (v := (vB true)) rfl rfl) ?_
      iterate 3 refine kx rfl rfl rfl rfl ?_
      refine sx rfl (pPick (t := true) (v := (vB true)) rfl ((congrArg vB (rfl : true = true))) rfl) ?_
      refine sx rfl (pMove (v := (vB true)) rfl rfl) ?_
      iterate 3 refine kx rfl rfl rfl rfl ?_
      refine sx rfl (pPick (t := true) (v := (vB true)) rfl ((congrArg vB (rfl : true = true))) rfl) ?_
      refine sx rfl (pAssign (v := (vB true)) rfl rfl) ?_
      refine SeqW.done fun fr68 hf69 => ?_
      have h1 := (congrFun hf69 1).trans h1
      have h26 : fr68 26 = (vB true) := (congrFun hf69 26).trans rfl
      clear hf69
      obtain rfl := Option.some.inj hr
      exact ⟨z, hz, st, rfl, h26, bx1, trivial⟩
     ·refine SeqW.consG rfl rfl rfl hc70 (kField rfl Try.underlying42 rfl Try.type3 rfl h1 rfl ?_)
      refine SeqW.consG rfl rfl rfl hc70 (kLoad rfl Try.underlying3 rfl rfl (bx1.load (v := (vI x1.brake)) rfl) ?_)
      refine SeqW.consG rfl rfl rfl hc70 (kField rfl Try.underlying42 rfl Try.type3 rfl h1 rfl ?_)
      refine SeqW.consG rfl rfl rfl hc70 (kLoad rfl Try.underlying3 rfl rfl (bx1.load (v := (vI x1.mass)) rfl) ?_)
      refine SeqW.consG rfl rfl rfl hc70 (StepX.pure (pGtr (k := .i64) (a := x1.brake) (b := x1.mass) rfl rfl rfl) ?_)
      refine sx rfl (pPick (t := false) (v := (vB (decide (x1.mass < x1.brake)))) rfl ((congrArg vB hc70)) rfl) ?_
      refine sx rfl (pMove (v := (vB (decide (x1.mass < x1.brake)))) rfl rfl) ?_
      rcases if_some hr with ⟨hc71, hr⟩ | ⟨hc74, hr⟩
      ·refine kx rfl rfl rfl hc71 ?_
       iterate 2 refine kx rfl rfl rfl hc71 ?_
       refine sx rfl (pPick (t := true) (v := (vB true)) rfl ((congrArg vB hc71)) rfl) ?_
       refine sx rfl (pMove (v := (vB true)) rfl rfl) ?_
       iterate 3 refine kx rfl rfl rfl rfl ?_
       refine sx rfl (pPick (t := true) (v := (vB true)) rfl ((congrArg vB (rfl : true = true))) rfl) ?_
       refine sx rfl (pAssign (v := (vB true)) rfl rfl) ?_
       refine SeqW.done fun fr72 hf73 => ?_
       have h1 := (congrFun hf73 1).trans h1
       have h26 : fr72 26 = (vB true) := (congrFun hf73 26).trans rfl
       clear hf73
       obtain rfl := Option.some.inj hr
       exact ⟨z, hz, st, rfl, h26, bx1, trivial⟩
      ·refine SeqW.consG rfl rfl rfl hc74 (kField rfl Try.underlying42 rfl Try.type3 rfl h1 rfl ?_)
       refine SeqW.consG rfl rfl rfl hc74 (kLoad rfl Try.underlying3 rfl rfl (bx1.load (v := (vI x1.goods)) rfl) ?_)
       refine SeqW.consG rfl rfl rfl hc74 (StepX.pure (pLss (k := .i64) (a := x1.goods) (b := 0) rfl rfl rfl) ?_)
       refine sx rfl (pPick (t := false) (v := (vB (decide (x1.goods < 0)))) rfl ((congrArg vB hc74)) rfl) ?_
       refine sx rfl (pMove (v := (vB (decide (x1.goods < 0)))) rfl rfl) ?_
       rcases if_some hr with ⟨hc75, hr⟩ | ⟨hc78, hr⟩
       ·refine kx rfl rfl rfl hc75 ?_
        iterate 2 refine kx rfl rfl rfl hc75 ?_
        refine sx rfl (pPick (t := true) (v := (vB true)) rfl ((congrArg vB hc75)) rfl) ?_
        refine sx rfl (pAssign (v := (vB true)) rfl rfl) ?_
        refine SeqW.done fun fr76 hf77 => ?_
        have h1 := (congrFun hf77 1).trans h1
        have h26 : fr76 26 = (vB true) := (congrFun hf77 26).trans rfl
        clear hf77
        obtain rfl := Option.some.inj hr
        exact ⟨z, hz, st, rfl, h26, bx1, trivial⟩
       ·refine SeqW.consG rfl rfl rfl hc78 (kField rfl Try.underlying42 rfl Try.type3 rfl h1 rfl ?_)
        refine SeqW.consG rfl rfl rfl hc78 (kLoad rfl Try.underlying3 rfl rfl (bx1.load (v := (vI x1.goods)) rfl) ?_)
        refine SeqW.consG rfl rfl rfl hc78 (StepX.pure (pGtr (k := .i64) (a := x1.goods) (b := 9) rfl rfl rfl) ?_)
        refine sx rfl (pPick (t := false) (v := (vB (decide (9 < x1.goods)))) rfl ((congrArg vB hc78)) rfl) ?_
        obtain ⟨y79, hy79, hr⟩ := lt_some hr
        refine sx rfl (pAssign rfl (congrArg vB hy79)) ?_
        refine SeqW.done fun fr80 hf81 => ?_
        have h1 := (congrFun hf81 1).trans h1
        have h26 : fr80 26 = (vB y79) := (congrFun hf81 26).trans rfl
        clear hf81
        obtain rfl := Option.some.inj hr
        exact ⟨z, hz, st, rfl, h26, bx1, trivial⟩

theorem u_r06_Valid {N : Nat}  {z0 z : Nat → Blk} {e m : Mem} {k : Option Nat} {fr : Nat → Value} {x0 : Wagon} (hz : Zx e.next z0 z) (st : St z e m k) (h0 : fr 0 = (Value.agg [(str x0.number), (vI x0.length), (vI x0.axles), (vI x0.mass), (vI x0.brake), (vI x0.goods), (vB x0.gentle), (str x0.dest)].toArray)) {r : Int} (hr : r06_Valid N x0 = some r) : W Try.prog (sub (bodyOf Try.f40) []) (fun ex fr' m' => ∃ z', Zx e.next z0 z' ∧ St z' e m' k ∧ (ex = .normal ∨ ex = .ret) ∧ fr' 2 = (vI r) ∧ True) fr m := by
 unfold r06_Valid at hr
 refine W.seq (W.region ?_)
 refine SeqW.consX rfl (kBox (v := (Value.agg [(str x0.number), (vI x0.length), (vI x0.axles), (vI x0.mass), (vI x0.brake), (vI x0.goods), (vB x0.gentle), (str x0.dest)].toArray)) rfl Try.type42 h0 rfl [(str x0.number), (vI x0.length), (vI x0.axles), (vI x0.mass), (vI x0.brake), (vI x0.goods), (vB x0.gentle), (str x0.dest)] rfl rfl st ?_)
 intro B1 m2 st X3 sm4 hap5
 refine sx rfl (pAssign (v := (vI 0)) rfl rfl) ?_
 refine SeqW.done fun fr7 hf8 => ?_
 have h1 : fr7 1 = (vP B1) := (congrFun hf8 1).trans rfl
 clear hf8
 refine thenQ.n (W.seq (W.region ?_))
 refine SeqW.consX rfl (kField rfl Try.underlying42 rfl Try.type9 rfl h1 rfl ?_)
 refine SeqW.consX rfl (kLoad rfl Try.underlying9 rfl rfl (X3.load (v := (str x0.number)) rfl) ?_)
 obtain ⟨y9, hy9, hr⟩ := bind_some hr
 refine SeqW.consX rfl (StepX.call (gCallee rfl rfl (args1 rfl)) ((c_r02_Kind (z := z) st.fz st.dead  hy9).mono ?_))
 rintro _ _ ⟨rfl, rfl⟩
 refine sx rfl (pMove (v := (Value.tuple [(vI y9.1), (vI y9.2)].toArray)) rfl rfl) ?_
 refine sx rfl (pExtract (vs := [(vI y9.1), (vI y9.2)]) (v := (vI y9.1)) rfl rfl rfl) ?_
 refine sx rfl (pExtract (vs := [(vI y9.1), (vI y9.2)]) (v := (vI y9.2)) rfl rfl rfl) ?_
 refine sx rfl (pAssign (v := (vI y9.1)) rfl rfl) ?_
 refine sx rfl (pAssign (v := (vI y9.2)) rfl rfl) ?_
 refine SeqW.done fun fr10 hf11 => ?_
 have h1 := (congrFun hf11 1).trans h1
 have h3 : fr10 3 = (vI y9.1) := (congrFun hf11 3).trans rfl
 have h4 : fr10 4 = (vI y9.2) := (congrFun hf11 4).trans rfl
 clear hf11
 refine thenQ.n (W.seq ?_)
 refine W.seq (W.region ?_)
 refine sx rfl (pMove (v := (vI y9.2)) rfl h4) ?_
 refine sx rfl (pNeq (k := .i64) (a := y9.2) (b := 0) rfl rfl rfl) ?_
 refine SeqW.done fun fr12 hf13 => ?_
 have h1 := (congrFun hf13 1).trans h1
 have h3 := (congrFun hf13 3).trans h3
 have h4 := (congrFun hf13 4).trans h4
 have h14 : fr12 14 = (vB (y9.2 != 0)) := (congrFun hf13 14).trans rfl
 clear hf13
 refine thenQ.n ?_
 rcases if_some hr with ⟨hc14, hr⟩ | ⟨hc17, hr⟩
 ·refine W.condT h14 hc14 (W.seq (W.region ?_))
  refine sx rfl (pMove (v := (vI y9.2)) rfl h4) ?_
  refine sx rfl (pAssign (v := (vI y9.2)) rfl rfl) ?_
  refine SeqW.done fun fr15 hf16 => ?_
  have h2 : fr15 2 = (vI y9.2) := (congrFun hf16 2).trans rfl
  clear hf16
  refine thenQ.n ?_
  refine W.ret ?_
  refine thenQ.r ?_
  obtain rfl := Option.some.inj hr
  exact ⟨z, hz, st, .inr rfl, h2, trivial⟩
 ·refine W.condF h14 hc17 (W.skip ?_)
  refine thenQ.n (W.seq (W.region ?_))
  refine sx rfl (pAssign (v := (vI 4)) rfl rfl) ?_
  refine sx rfl (pAssign (v := (vI 80)) rfl rfl) ?_
  refine SeqW.done fun fr18 hf19 => ?_
  have h1 := (congrFun hf19 1).trans h1
  have h3 := (congrFun hf19 3).trans h3
  have h5 : fr18 5 = (vI 4) := (congrFun hf19 5).trans rfl
  have h6 : fr18 6 = (vI 80) := (congrFun hf19 6).trans rfl
  clear hf19
  refine thenQ.n (W.seq ?_)
  refine W.seq (W.region ?_)
  refine sx rfl (pMove (v := (vI y9.1)) rfl h3) ?_
  refine SeqW.done fun fr20 hf21 => ?_
  have h1 := (congrFun hf21 1).trans h1
  have h5 := (congrFun hf21 5).trans h5
  have h6 := (congrFun hf21 6).trans h6
  have h16 : fr20 16 = (vI y9.1) := (congrFun hf21 16).trans rfl
  clear hf21
  refine thenQ.n ?_
  obtain ⟨y36, hy36, hr⟩ := bind_some hr
  refine W.keep (u_r06_Valid_0 (x1 := x0) (Zx.refl _) st h1 X3 h5 h6 h16 hy36) ?_
  rintro ex42 fr37 m38 hk40 ⟨z39, hz41, st, rfl, h5, h6, O43, -⟩
  have h1 := (hk40 1 rfl).trans h1
  replace hz := hz.trans hz41
  clear hk40
  refine thenQ.n (W.seq ?_)
  refine W.block ?_
  refine W.seq (W.region ?_)
  refine SeqW.consX rfl (kField rfl Try.underlying42 rfl Try.type3 rfl h1 rfl ?_)
  refine SeqW.consX rfl (kLoad rfl Try.underlying3 rfl rfl (O43.load (v := (vI x0.axles)) rfl) ?_)
  refine sx rfl (pMove (v := (vI y36.1)) rfl h5) ?_
  refine sx rfl (pNeq (k := .i64) (a := x0.axles) (b := y36.1) rfl rfl rfl) ?_
  obtain ⟨y44, hy44, hr⟩ := lt_some hr
  refine sx rfl (pAssign rfl (congrArg vB hy44)) ?_
  refine SeqW.done fun fr45 hf46 => ?_
  have h1 := (congrFun hf46 1).trans h1
  have h6 := (congrFun hf46 6).trans h6
  have h21 : fr45 21 = (vB y44) := (congrFun hf46 21).trans rfl
  clear hf46
  refine thenQ.n ?_
  rcases if_some hr with ⟨hc47, hr⟩ | ⟨hc50, hr⟩
  ·refine W.condT h21 hc47 (W.seq (W.region ?_))
   refine sx rfl (pAssign (v := (vI 1)) rfl rfl) ?_
   refine SeqW.done fun fr48 hf49 => ?_
   have h2 : fr48 2 = (vI 1) := (congrFun hf49 2).trans rfl
   clear hf49
   refine thenQ.n ?_
   refine W.ret ?_
   refine blockQ.r ?_
   refine thenQ.r ?_
   obtain rfl := Option.some.inj hr
   exact ⟨z39, hz, st, .inr rfl, h2, trivial⟩
  ·refine W.condF h21 hc50 (W.seq ?_)
   obtain ⟨y82, hy82, hr⟩ := bind_some hr
   refine W.keep (u_r06_Valid_1 (x1 := x0) (Zx.refl _) st h1 O43 h6 hy82) ?_
   rintro ex88 fr83 m84 hk86 ⟨z85, hz87, st, rfl, h26, O89, -⟩
   have h1 := (hk86 1 rfl).trans h1
   replace hz := hz.trans hz87
   clear hk86
   refine thenQ.n ?_
   rcases if_some hr with ⟨hc90, hr⟩ | ⟨hc93, hr⟩
   ·refine W.condT h26 hc90 (W.seq (W.region ?_))
    refine sx rfl (pAssign (v := (vI 2)) rfl rfl) ?_
    refine SeqW.done fun fr91 hf92 => ?_
    have h2 : fr91 2 = (vI 2) := (congrFun hf92 2).trans rfl
    clear hf92
    refine thenQ.n ?_
    refine W.ret ?_
    refine blockQ.r ?_
    refine thenQ.r ?_
    obtain rfl := Option.some.inj hr
    exact ⟨z85, hz, st, .inr rfl, h2, trivial⟩
   ·refine W.condF h26 hc93 (W.seq (W.region ?_))
    refine SeqW.consX rfl (kField rfl Try.underlying42 rfl Try.type9 rfl h1 rfl ?_)
    refine SeqW.consX rfl (kLoad rfl Try.underlying9 rfl rfl (O89.load (v := (str x0.dest)) rfl) ?_)
    obtain ⟨y94, hy94, hr⟩ := bind_some hr
    refine SeqW.consX rfl (StepX.call (gCallee rfl rfl (args1 rfl)) ((c_r06_Name (z := z85) st.fz st.dead  hy94).mono ?_))
    rintro _ _ ⟨rfl, rfl⟩
    refine sx rfl (pNot (b := y94) rfl rfl) ?_
    obtain ⟨y95, hy95, hr⟩ := lt_some hr
    refine sx rfl (pAssign rfl (congrArg vB hy95)) ?_
    refine SeqW.done fun fr96 hf97 => ?_
    have h68 : fr96 68 = (vB y95) := (congrFun hf97 68).trans rfl
    clear hf97
    refine thenQ.n ?_
    rcases if_some hr with ⟨hc98, hr⟩ | ⟨hc101, hr⟩
    ·refine W.condT h68 hc98 (W.seq (W.region ?_))
     refine sx rfl (pAssign (v := (vI 7)) rfl rfl) ?_
     refine SeqW.done fun fr99 hf100 => ?_
     have h2 : fr99 2 = (vI 7) := (congrFun hf100 2).trans rfl
     clear hf100
     refine thenQ.n ?_
     refine W.ret ?_
     refine blockQ.r ?_
     refine thenQ.r ?_
     obtain rfl := Option.some.inj hr
     exact ⟨z85, hz, st, .inr rfl, h2, trivial⟩
    ·refine W.condF h68 hc101 (W.skip ?_)
     refine blockQ.n ?_
     refine thenQ.n (W.seq (W.region ?_))
     refine sx rfl (pAssign (v := (vI 0)) rfl rfl) ?_
     refine SeqW.done fun fr102 hf103 => ?_
     have h2 : fr102 2 = (vI 0) := (congrFun hf103 2).trans rfl
     clear hf103
     refine thenQ.n ?_
     refine W.ret ?_
     obtain rfl := Option.some.inj hr
     exact ⟨z85, hz, st, .inr rfl, h2, trivial⟩

theorem c_r06_Valid {N : Nat} {z : Nat → Blk} {m : Mem} {x0 : Wagon} (fz : Fz z m) (hd : ∀ b, m.next ≤ b → m.blk b = .dead)  {r : Int} (hr : r06_Valid N x0 = some r) : CallW Try.prog 40 #[(Value.agg [(str x0.number), (vI x0.length), (vI x0.axles), (vI x0.mass), (vI x0.brake), (vI x0.goods), (vB x0.gentle), (str x0.dest)].toArray)] m fun v m' => v = (vI r) ∧ m' = m := by
 refine CallW.flat Try.func40 rfl (by kernel_rfl) (Nat.le_of_ble_eq_true rfl) rfl (z := z) (fun fr hf => ?_)
 have h0 : fr 0 = _ := hf 0 _ rfl
 refine (u_r06_Valid (k := none) (Zx.refl _) (St.start fz hd) h0 hr).mono ?_
 rintro ex fr' m' ⟨z', hz, st, he, h2, -⟩
 exact ⟨he, z', st, [(vI r)], ⟨h2.symm, trivial⟩, .inl rfl, rfl⟩

/-! ### humpyard/humpyardref06.ValidList -/

theorem u_r06_ValidList_1 : ∀ (n : Nat) {N : Nat}  {z0 z : Nat → Blk} {e m : Mem} {k : Option Nat} {fr : Nat → Value} {x0 : List Wagon} {x3 : Int} {x5 : Int} {v0 : Value} (hz : Zx e.next z0 z) (st : St z e m k) (h0 : fr 0 = v0) (s0 : SlR TWagon z x0 v0) (h3 : fr 3 = (vI x3)) (h5 : fr 5 = (vI x5)) {r : Sum (Unit) (Int)} (hr : r06_ValidList_1 N x0 x3 n x5 = some r), W Try.prog (sub (bodyOf Try.f37) [1, 1, 0, 1, 0, 0, 1, 0, 0, 1, 1, 0]) (fun ex fr' m' => ∃ z', Zx e.next z0 z' ∧ St z' e m' k ∧ ((∃ q, r = Sum.inl q ∧ ex = AExit.exit 2 ∧ True) ∨ (∃ q, r = Sum.inr q ∧ ex = AExit.ret ∧ fr' 2 = (vI q) ∧ True))) fr m := by
 intro n
 induction n with
 | zero => intro N z0 z e m k fr x0 x3 x5 v0 hz st h0 s0 h3 h5 r hr; cases (show (none : Option _) = some r from hr)
 | succ n ih =>
  intro N z0 z e m k fr x0 x3 x5 v0 hz st h0 s0 h3 h5 r hr
  unfold r06_ValidList_1 at hr
  refine W.loop1 ?_
  refine W.seq (W.seq (W.region ?_))
  refine sx rfl (pMove (v := (vI x5)) rfl h5) ?_
  refine sx rfl (pMove (v := (vI x3)) rfl h3) ?_
  refine sx rfl (pLss (k := .i64) (a := x5) (b := x3) rfl rfl rfl) ?_
  refine SeqW.done fun fr31 hf32 => ?_
  have h0 := (congrFun hf32 0).trans h0
  have h3 := (congrFun hf32 3).trans h3
  have h5 := (congrFun hf32 5).trans h5
  have h25 : fr31 25 = (vB (decide (x5 < x3))) := (congrFun hf32 25).trans rfl
  clear hf32
  refine thenQ.n ?_
  rcases if_some hr with ⟨hc33, hr⟩ | ⟨hc55, hr⟩
  ·refine W.condT h25 hc33 (W.skip ?_)
   refine thenQ.n (W.seq ?_)
   refine W.block ?_
   refine W.seq ?_
   refine W.calm (by decide) ?_
   refine sx rfl (pMove (v := v0) rfl h0) ?_
   refine sx rfl (pMove (v := (vI x5)) rfl h5) ?_
   obtain ⟨y34, hy34, hr⟩ := bind_some hr
   refine SeqW.consX rfl (kIdxR (T := TWagon) (xs := x0) (n := x5) rfl Try.underlying24 Try.type42 rfl rfl rfl s0 hy34 ?_)
   intro B35 f36 cs37 hd38 hc39
   obtain rfl := hd38
   refine SeqW.consX rfl (kField rfl Try.underlying42 rfl Try.type9 rfl rfl rfl ?_)
   refine SeqW.consX rfl (kLoad (v := (str y34.number)) rfl Try.underlying9 rfl rfl (ldz_load st.fz (hc39 0 _ rfl)) ?_)
   refine sx rfl (pMove (v := v0) rfl h0) ?_
   refine sx rfl (pMove (v := (vI x3)) rfl h3) ?_
   obtain ⟨y40, hy40, hr⟩ := bind_some hr
   refine SeqW.consX rfl (kIdxR (T := TWagon) (xs := x0) (n := x3) rfl Try.underlying24 Try.type42 rfl rfl rfl s0 hy40 ?_)
   intro B41 f42 cs43 hd44 hc45
   obtain rfl := hd44
   refine SeqW.consX rfl (kField rfl Try.underlying42 rfl Try.type9 rfl rfl rfl ?_)
   refine SeqW.consX rfl (kLoad (v := (str y40.number)) rfl Try.underlying9 rfl rfl (ldz_load st.fz (hc45 0 _ rfl)) ?_)
   refine sx rfl (pEqlS (s := y34.number) (r := y40.number) rfl rfl rfl) ?_
   refine SeqW.done fun fr46 hf47 => ?_
   have h0 := (congrFun hf47 0).trans h0
   have h3 := (congrFun hf47 3).trans h3
   have h5 := (congrFun hf47 5).trans h5
   have h38 : fr46 38 = (vB (y34.number == y40.number)) := (congrFun hf47 38).trans rfl
   clear hf47
   refine thenQ.n ?_
   rcases if_some hr with ⟨hc48, hr⟩ | ⟨hc51, hr⟩
   ·refine W.condT h38 hc48 (W.seq (W.region ?_))
    refine sx rfl (pAssign (v := (vI 8)) rfl rfl) ?_
    refine SeqW.done fun fr49 hf50 => ?_
    have h2 : fr49 2 = (vI 8) := (congrFun hf50 2).trans rfl
    clear hf50
    refine thenQ.n ?_
    refine W.ret ?_
    refine blockQ.r ?_
    refine thenQ.r ?_
    refine thenQ.r ?_
    obtain rfl := Option.some.inj hr
    exact ⟨z, hz, st, .inr ⟨_, rfl, rfl, h2, trivial⟩⟩
   ·refine W.condF h38 hc51 (W.skip ?_)
    refine blockQ.n ?_
    refine thenQ.n (W.region ?_)
    refine sx rfl (pMove (v := (vI x5)) rfl h5) ?_
    refine sx rfl (pAdd (k := .i64) (a := x5) (b := 1) rfl rfl rfl) ?_
    obtain ⟨y52, hy52, hr⟩ := lt_some hr
    refine sx rfl (pAssign rfl (congrArg (Value.int .i64) hy52)) ?_
    refine SeqW.done fun fr53 hf54 => ?_
    have h0 := (congrFun hf54 0).trans h0
    have h3 := (congrFun hf54 3).trans h3
    have h5 : fr53 5 = (vI y52) := (congrFun hf54 5).trans rfl
    clear hf54
    refine thenQ.n ?_
    exact ih hz st h0 s0 h3 h5 hr
  ·refine W.condF h25 hc55 ?_
   refine W.exit ?_
   refine thenQ.x ?_
   refine thenQ.x ?_
   obtain rfl := Option.some.inj hr
   exact ⟨z, hz, st, .inl ⟨_, rfl, rfl, trivial⟩⟩

theorem u_r06_ValidList_0 : ∀ (n : Nat) {N : Nat}  {z0 z : Nat → Blk} {e m : Mem} {k : Option Nat} {fr : Nat → Value} {x0 : List Wagon} {x3 : Int} {v0 : Value} (hz : Zx e.next z0 z) (st : St z e m k) (h0 : fr 0 = v0) (s0 : SlR TWagon z x0 v0) (h3 : fr 3 = (vI x3)) {r : Sum (Unit) (Int)} (hr : r06_ValidList_0 N x0 n x3 = some r), W Try.prog (sub (bodyOf Try.f37) [1, 1, 0, 1, 0]) (fun ex fr' m' => ∃ z', Zx e.next z0 z' ∧ St z' e m' k ∧ ((∃ q, r = Sum.inl q ∧ ex = AExit.exit 0 ∧ True) ∨ (∃ q, r = Sum.inr q ∧ ex = AExit.ret ∧ fr' 2 = (vI q) ∧ True))) fr m := by
 intro n
 induction n with
 | zero => intro N z0 z e m k fr x0 x3 v0 hz st h0 s0 h3 r hr; cases (show (none : Option _) = some r from hr)
 | succ n ih =>
  intro N z0 z e m k fr x0 x3 v0 hz st h0 s0 h3 r hr
  unfold r06_ValidList_0 at hr
  refine W.loop1 ?_
  refine W.seq (W.seq (W.region ?_))
  refine sx rfl (pMove (v := (vI x3)) rfl h3) ?_
  refine sx rfl (pMove (v := v0) rfl h0) ?_
  refine sx rfl (pLenR (xs := x0) rfl Try.underlying24 rfl s0) ?_
  refine sx rfl (pLss (k := .i64) (a := x3) (b := (x0.length : Int)) rfl rfl rfl) ?_
  refine SeqW.done fun fr11 hf12 => ?_
  have h0 := (congrFun hf12 0).trans h0
  have h3 := (congrFun hf12 3).trans h3
  have h12 : fr11 12 = (vB (decide (x3 < (x0.length : Int)))) := (congrFun hf12 12).trans rfl
  clear hf12
  refine thenQ.n ?_
  rcases if_some hr with ⟨hc13, hr⟩ | ⟨hc68, hr⟩
  ·refine W.condT h12 hc13 (W.skip ?_)
   refine thenQ.n (W.seq ?_)
   refine W.block ?_
   refine W.seq (W.seq (W.region ?_))
   refine sx rfl (pMove (v := v0) rfl h0) ?_
   refine sx rfl (pMove (v := (vI x3)) rfl h3) ?_
   obtain ⟨y14, hy14, hr⟩ := bind_some hr
   refine SeqW.consX rfl (kIdxR (T := TWagon) (xs := x0) (n := x3) rfl Try.underlying24 Try.type42 rfl rfl rfl s0 hy14 ?_)
   intro B15 f16 cs17 hd18 hc19
   obtain rfl := hd18
   refine SeqW.consX rfl (kLoadA rfl Try.underlying42 rfl Try.type42 rfl rfl (st.loads hc19) ?_)
   obtain ⟨y20, hy20, hr⟩ := bind_some hr
   refine SeqW.consX rfl (StepX.call (gCallee rfl rfl (args1 rfl)) ((c_r06_Valid (x0 := y14) (z := z) st.fz st.dead  hy20).mono ?_))
   rintro _ _ ⟨rfl, rfl⟩
   refine sx rfl (pAssign (v := (vI y20)) rfl rfl) ?_
   refine SeqW.done fun fr21 hf22 => ?_
   have h0 := (congrFun hf22 0).trans h0
   have h3 := (congrFun hf22 3).trans h3
   have h4 : fr21 4 = (vI y20) := (congrFun hf22 4).trans rfl
   clear hf22
   refine thenQ.n (W.seq (W.region ?_))
   refine sx rfl (pMove (v := (vI y20)) rfl h4) ?_
   refine sx rfl (pNeq (k := .i64) (a := y20) (b := 0) rfl rfl rfl) ?_
   refine SeqW.done fun fr23 hf24 => ?_
   have h0 := (congrFun hf24 0).trans h0
   have h3 := (congrFun hf24 3).trans h3
   have h4 := (congrFun hf24 4).trans h4
   have h21 : fr23 21 = (vB (y20 != 0)) := (congrFun hf24 21).trans rfl
   clear hf24
   refine thenQ.n ?_
   rcases if_some hr with ⟨hc25, hr⟩ | ⟨hc28, hr⟩
   ·refine W.condT h21 hc25 (W.seq (W.region ?_))
    refine sx rfl (pMove (v := (vI y20)) rfl h4) ?_
    refine sx rfl (pAssign (v := (vI y20)) rfl rfl) ?_
    refine SeqW.done fun fr26 hf27 => ?_
    have h2 : fr26 2 = (vI y20) := (congrFun hf27 2).trans rfl
    clear hf27
    refine thenQ.n ?_
    refine W.ret ?_
    refine thenQ.r ?_
    refine blockQ.r ?_
    refine thenQ.r ?_
    refine thenQ.r ?_
    obtain rfl := Option.some.inj hr
    exact ⟨z, hz, st, .inr ⟨_, rfl, rfl, h2, trivial⟩⟩
   ·refine W.condF h21 hc28 (W.skip ?_)
    refine thenQ.n (W.seq (W.region ?_))
    refine sx rfl (pAssign (v := (vI 0)) rfl rfl) ?_
    refine SeqW.done fun fr29 hf30 => ?_
    have h0 := (congrFun hf30 0).trans h0
    have h3 := (congrFun hf30 3).trans h3
    have h5 : fr29 5 = (vI 0) := (congrFun hf30 5).trans rfl
    clear hf30
    refine thenQ.n ?_
    refine W.block ?_
    obtain ⟨y56, hy56, hr⟩ := bind_some hr
    refine W.keep (u_r06_ValidList_1 _ (Zx.refl _) st h0 s0 h3 h5 hy56) ?_
    rintro ex62 fr57 m58 hk60 ⟨z59, hz61, st, ⟨y63, rfl, rfl, -⟩ | ⟨y67, rfl, rfl, h2, -⟩⟩
    ·dsimp only at hr
     replace s0 := s0.mono hz61.le
     have h0 := (hk60 0 rfl).trans h0
     have h3 := (hk60 3 rfl).trans h3
     replace hz := hz.trans hz61
     clear hk60
     refine blockQ.hit ?_
     refine blockQ.n ?_
     refine thenQ.n (W.region ?_)
     refine sx rfl (pMove (v := (vI x3)) rfl h3) ?_
     refine sx rfl (pAdd (k := .i64) (a := x3) (b := 1) rfl rfl rfl) ?_
     obtain ⟨y64, hy64, hr⟩ := lt_some hr
     refine sx rfl (pAssign rfl (congrArg (Value.int .i64) hy64)) ?_
     refine SeqW.done fun fr65 hf66 => ?_
     have h0 := (congrFun hf66 0).trans h0
     have h3 : fr65 3 = (vI y64) := (congrFun hf66 3).trans rfl
     clear hf66
     refine thenQ.n ?_
     exact ih hz st h0 s0 h3 hr
    ·dsimp only at hr
     replace hz := hz.trans hz61
     clear hk60
     refine blockQ.r ?_
     refine blockQ.r ?_
     refine thenQ.r ?_
     refine thenQ.r ?_
     obtain rfl := Option.some.inj hr
     exact ⟨z59, hz, st, .inr ⟨_, rfl, rfl, h2, trivial⟩⟩
  ·refine W.condF h12 hc68 ?_
   refine W.exit ?_
   refine thenQ.x ?_
   refine thenQ.x ?_
   obtain rfl := Option.some.inj hr
   exact ⟨z, hz, st, .inl ⟨_, rfl, rfl, trivial⟩⟩

theorem u_r06_ValidList {N : Nat}  {z0 z : Nat → Blk} {e m : Mem} {k : Option Nat} {fr : Nat → Value} {x0 : List Wagon} {v0 : Value} (hz : Zx e.next z0 z) (st : St z e m k) (h0 : fr 0 = v0) (s0 : SlR TWagon z x0 v0) {r : Int} (hr : r06_ValidList N x0 = some r) : W Try.prog (sub (bodyOf Try.f37) []) (fun ex fr' m' => ∃ z', Zx e.next z0 z' ∧ St z' e m' k ∧ (ex = .normal ∨ ex = .ret) ∧ fr' 2 = (vI r) ∧ True) fr m := by
 unfold r06_ValidList at hr
 refine W.seq (W.region ?_)
 refine sx rfl (pAssign (v := (vI 0)) rfl rfl) ?_
 refine SeqW.done fun fr1 hf2 => ?_
 have h0 := (congrFun hf2 0).trans h0
 clear hf2
 refine thenQ.n (W.seq ?_)
 refine W.seq (W.region ?_)
 refine sx rfl (pMove (v := v0) rfl h0) ?_
 refine sx rfl (pLenR (xs := x0) rfl Try.underlying24 rfl s0) ?_
 refine sx rfl (pGtr (k := .i64) (a := (x0.length : Int)) (b := 96) rfl rfl rfl) ?_
 refine SeqW.done fun fr3 hf4 => ?_
 have h0 := (congrFun hf4 0).trans h0
 have h8 : fr3 8 = (vB (decide (96 < (x0.length : Int)))) := (congrFun hf4 8).trans rfl
 clear hf4
 refine thenQ.n ?_
 rcases if_some hr with ⟨hc5, hr⟩ | ⟨hc8, hr⟩
 ·refine W.condT h8 hc5 (W.seq (W.region ?_))
  refine sx rfl (pAssign (v := (vI 3)) rfl rfl) ?_
  refine SeqW.done fun fr6 hf7 => ?_
  have h2 : fr6 2 = (vI 3) := (congrFun hf7 2).trans rfl
  clear hf7
  refine thenQ.n ?_
  refine W.ret ?_
  refine thenQ.r ?_
  obtain rfl := Option.some.inj hr
  exact ⟨z, hz, st, .inr rfl, h2, trivial⟩
 ·refine W.condF h8 hc8 (W.skip ?_)
  refine thenQ.n (W.seq ?_)
  refine W.seq (W.region ?_)
  refine sx rfl (pAssign (v := (vI 0)) rfl rfl) ?_
  refine SeqW.done fun fr9 hf10 => ?_
  have h0 := (congrFun hf10 0).trans h0
  have h3 : fr9 3 = (vI 0) := (congrFun hf10 3).trans rfl
  clear hf10
  refine thenQ.n ?_
  refine W.block ?_
  obtain ⟨y69, hy69, hr⟩ := bind_some hr
  refine W.keep (u_r06_ValidList_0 _ (Zx.refl _) st h0 s0 h3 hy69) ?_
  rintro ex75 fr70 m71 hk73 ⟨z72, hz74, st, ⟨y76, rfl, rfl, -⟩ | ⟨y79, rfl, rfl, h2, -⟩⟩
  ·dsimp only at hr
   replace hz := hz.trans hz74
   clear hk73
   refine blockQ.hit ?_
   refine thenQ.n (W.seq (W.region ?_))
   refine sx rfl (pAssign (v := (vI 0)) rfl rfl) ?_
   refine SeqW.done fun fr77 hf78 => ?_
   have h2 : fr77 2 = (vI 0) := (congrFun hf78 2).trans rfl
   clear hf78
   refine thenQ.n ?_
   refine W.ret ?_
   obtain rfl := Option.some.inj hr
   exact ⟨z72, hz, st, .inr rfl, h2, trivial⟩
  ·dsimp only at hr
   replace hz := hz.trans hz74
   clear hk73
   refine blockQ.r ?_
   refine thenQ.r ?_
   obtain rfl := Option.some.inj hr
   exact ⟨z72, hz, st, .inr rfl, h2, trivial⟩

theorem c_r06_ValidList {N : Nat} {z : Nat → Blk} {m : Mem} {x0 : List Wagon} {v0 : Value} (fz : Fz z m) (hd : ∀ b, m.next ≤ b → m.blk b = .dead) (s0 : SlR TWagon z x0 v0) {r : Int} (hr : r06_ValidList N x0 = some r) : CallW Try.prog 37 #[v0] m fun v m' => v = (vI r) ∧ m' = m := by
 refine CallW.flat Try.func37 rfl (by kernel_rfl) (Nat.le_of_ble_eq_true rfl) rfl (z := z) (fun fr hf => ?_)
 have h0 : fr 0 = _ := hf 0 _ rfl
 refine (u_r06_ValidList (k := none) (Zx.refl _) (St.start fz hd) h0 s0 hr).mono ?_
 rintro ex fr' m' ⟨z', hz, st, he, h2, -⟩
 exact ⟨he, z', st, [(vI r)], ⟨h2.symm, trivial⟩, .inl rfl, rfl⟩

/-! ### humpyard/humpyardref06.Encode -/

theorem u_r06_Encode_1 : ∀ (n : Nat) {N : Nat}  {z0 z : Nat → Blk} {e m : Mem} {k : Option Nat} {fr : Nat → Value} {x5 : List UInt8} {x7 : Wagon} {x8 : Int} {v5 : Value} {b7 : Nat} (hz : Zx e.next z0 z) (st : St z e m k) (h5 : fr 5 = v5) (o5 : OwF (TU8 5) z e m k x5 v5) (h7 : fr 7 = (vP b7)) (bx7 : Bx z e m k b7 [(str x7.number), (vI x7.length), (vI x7.axles), (vI x7.mass), (vI x7.brake), (vI x7.goods), (vB x7.gentle), (str x7.dest)] 42) (h8 : fr 8 = (vI x8)) (ao5_o7 : Ap (blkOf v5) (some b7)) {r : List UInt8} (hr : r06_Encode_1 N x7 n x5 x8 = some r), W Try.prog (sub (bodyOf Try.f21) [1, 1, 1, 0, 1, 0, 0, 1, 0, 0, 1, 0, 1, 0]) (fun ex fr' m' => ∃ z', Zx e.next z0 z' ∧ St z' e m' k ∧ ex = AExit.exit 2 ∧ ∃ (w5 : Value), fr' 5 = w5 ∧ OwF (TU8 5) z' e m' k r w5 ∧ Bx z' e m' k b7 [(str x7.number), (vI x7.length), (vI x7.axles), (vI x7.mass), (vI x7.brake), (vI x7.goods), (vB x7.gentle), (str x7.dest)] 42 ∧ Ap (blkOf w5) (some b7) ∧ True) fr m := by
 intro n
 induction n with
 | zero => intro N z0 z e m k fr x5 x7 x8 v5 b7 hz st h5 o5 h7 bx7 h8 ao5_o7 r hr; cases (show (none : Option _) = some r from hr)
 | succ n ih =>
  intro N z0 z e m k fr x5 x7 x8 v5 b7 hz st h5 o5 h7 bx7 h8 ao5_o7 r hr
  unfold r06_Encode_1 at hr
  refine W.loop1 ?_
  refine W.seq (W.seq (W.region ?_))
  refine sx rfl (pMove (v := (vI x8)) rfl h8) ?_
  refine sx rfl (pLss (k := .i64) (a := x8) (b := 12) rfl rfl rfl) ?_
  refine SeqW.done fun fr45 hf46 => ?_
  have h5 := (congrFun hf46 5).trans h5
  have h7 := (congrFun hf46 7).trans h7
  have h8 := (congrFun hf46 8).trans h8
  have h31 : fr45 31 = (vB (decide (x8 < 12))) := (congrFun hf46 31).trans rfl
  clear hf46
  refine thenQ.n ?_
  rcases if_some hr with ⟨hc47, hr⟩ | ⟨hc77, hr⟩
  ·refine W.condT h31 hc47 (W.skip ?_)
   refine thenQ.n (W.seq ?_)
   refine W.block ?_
   refine W.draw ?_
   refine DrawW.cons rfl (StepX.pure (pMove (v := v5) rfl h5) ?_)
   refine ⟨trivial, ?_⟩
   refine DrawW.cons rfl (kField rfl Try.underlying42 rfl Try.type9 rfl h7 rfl ?_)
   refine ⟨trivial, ?_⟩
   refine DrawW.cons rfl (kLoad rfl Try.underlying9 rfl rfl (bx7.load (v := (str x7.number)) rfl) ?_)
   refine ⟨?_, ?_⟩
   ·exact demN
   refine DrawW.cons rfl (StepX.pure (pMove (v := (vI x8)) rfl h8) ?_)
   refine ⟨trivial, ?_⟩
   obtain ⟨y48, hy48, hr⟩ := bind_some hr
   refine DrawW.cons rfl (kIndexS (s := x7.number) (n := x8) rfl Try.underlying9 rfl rfl hy48 ?_)
   refine ⟨trivial, ?_⟩
   refine DrawW.cons rfl (StepX.pure (pSub (k := .u8) (a := (UInt8.toNat y48 : Int)) (b := 48) rfl rfl rfl) ?_)
   refine ⟨trivial, ?_⟩
   refine DrawW.cons rfl (StepX.pure (pMul (k := .u8) (a := (IntKind.wrap .u8 ((UInt8.toNat y48 : Int) - 48))) (b := 16) rfl rfl rfl) ?_)
   refine ⟨trivial, ?_⟩
   refine DrawW.cons rfl (kField rfl Try.underlying42 rfl Try.type9 rfl h7 rfl ?_)
   refine ⟨trivial, ?_⟩
   refine DrawW.cons rfl (kLoad rfl Try.underlying9 rfl rfl (bx7.load (v := (str x7.number)) rfl) ?_)
   refine ⟨?_, ?_⟩
   ·exact demN
   refine DrawW.cons rfl (StepX.pure (pMove (v := (vI x8)) rfl h8) ?_)
   refine ⟨trivial, ?_⟩
   refine DrawW.cons rfl (StepX.pure (pAdd (k := .i64) (a := x8) (b := 1) rfl rfl rfl) ?_)
   refine ⟨trivial, ?_⟩
   obtain ⟨y49, hy49, hr⟩ := bind_some hr
   refine DrawW.cons rfl (kIndexS (s := x7.number) (n := (IntKind.wrap .i64 (x8 + 1))) rfl Try.underlying9 rfl rfl hy49 ?_)
   refine ⟨trivial, ?_⟩
   refine DrawW.cons rfl (StepX.pure (pAdd (k := .u8) (a := (IntKind.wrap .u8 ((IntKind.wrap .u8 ((UInt8.toNat y48 : Int) - 48)) * 16))) (b := (UInt8.toNat y49 : Int)) rfl rfl rfl) ?_)
   refine ⟨trivial, ?_⟩
   refine DrawW.cons rfl (StepX.pure (pSub (k := .u8) (a := (IntKind.wrap .u8 ((IntKind.wrap .u8 ((IntKind.wrap .u8 ((UInt8.toNat y48 : Int) - 48)) * 16)) + (UInt8.toNat y49 : Int)))) (b := 48) rfl rfl rfl) ?_)
   refine ⟨trivial, ?_⟩
   obtain ⟨y50, hy50, hr⟩ := bind_some hr
   refine DrawW.cons rfl (kBuild (T := (TU8 5)) rfl Try.underlying23 Try.type5 rfl rfl rfl rfl ([y50] : List UInt8) [[Value.int .u8 (UInt8.toNat y50 : Int)]] rfl rfl rfl (BuildOk.mk (w := (Value.int .u8 (UInt8.toNat y50 : Int))) (by rw [← toU8_some hy50]; exact rfl) rfl rfl rfl trivial) st ?_)
   intro V51 m52 st O53 sm54 hap55
   have A57 := hap55 _ o5.lt
   have A58 := hap55 _ bx7.lt'
   replace o5 := o5.same sm54 Ap.none'
   replace bx7 := bx7.same sm54 Ap.none'
   refine ⟨trivial, ?_⟩
   have sto59 := st
   have old60 := o5
   have old61 := bx7
   have old62 := O53
   obtain ⟨y63, hy63, hr⟩ := bind_some hr
   refine DrawW.cons rfl (kAppend (T := (TU8 5)) (xs := x5) (ys := ([y50] : List UInt8)) rfl Try.underlying23 Try.type5 rfl rfl rfl rfl rfl rfl (.inl ⟨_, Try.underlying23⟩) rfl o5 rfl O53.ow.src st hy63 ?_)
   intro V64 m65 st O66 sm67 hap68
   have A70 := hap68 _ bx7.lt' (Ap.symm ao5_o7)
   have A71 := hap68 _ O53.lt (Ap.symm A57)
   replace bx7 := bx7.same sm67 (Ap.symm ao5_o7)
   replace O53 := O53.same sm67 (Ap.symm A57)
   refine ⟨⟨?_, ?_⟩, ?_⟩
   ·first | refine demP (gLoad rfl Try.underlying9 rfl rfl (bx7.load (v := (str x7.number)) rfl)) ?_ | refine demA (by decide) ?_
    first | refine demP (gLoad rfl Try.underlying9 rfl rfl (bx7.load (v := (str x7.number)) rfl)) ?_ | refine demA (by decide) ?_
    exact demN
   ·first | refine demP (rfl) ?_ | refine demA (by decide) ?_
    exact demN
   refine DrawW.cons rfl (StepX.pure (pAssign (v := V64) rfl rfl) ?_)
   refine ⟨trivial, ?_⟩
   refine DrawW.done fun fr72 hf73 => ?_
   have h5 : fr72 5 = V64 := (congrFun hf73 5).trans rfl
   have h7 := (congrFun hf73 7).trans h7
   have h8 := (congrFun hf73 8).trans h8
   clear hf73
   refine blockQ.n ?_
   refine thenQ.n (W.region ?_)
   refine sx rfl (pMove (v := (vI x8)) rfl h8) ?_
   refine sx rfl (pAdd (k := .i64) (a := x8) (b := 2) rfl rfl rfl) ?_
   obtain ⟨y74, hy74, hr⟩ := lt_some hr
   refine sx rfl (pAssign rfl (congrArg (Value.int .i64) hy74)) ?_
   refine SeqW.done fun fr75 hf76 => ?_
   have h5 := (congrFun hf76 5).trans h5
   have h7 := (congrFun hf76 7).trans h7
   have h8 : fr75 8 = (vI y74) := (congrFun hf76 8).trans rfl
   clear hf76
   refine thenQ.n ?_
   exact ih (x7 := x7) hz st h5 O66 h7 bx7 h8 (Ap.symm A70) hr
  ·refine W.condF h31 hc77 ?_
   refine W.exit ?_
   refine thenQ.x ?_
   refine thenQ.x ?_
   obtain rfl := Option.some.inj hr
   exact ⟨z, hz, st, rfl, v5, h5, o5, bx7, ao5_o7, trivial⟩

theorem u_r06_Encode_2 {N : Nat}  {z0 z : Nat → Blk} {e m : Mem} {k : Option Nat} {fr : Nat → Value} {x9 : Int} {x54 : Bool} {x5 : List UInt8} {v5 : Value} {x7 : Wagon} {b7 : Nat} (hz : Zx e.next z0 z) (st : St z e m k) (h5 : fr 5 = v5) (o5 : OwF (TU8 5) z e m k x5 v5) (h7 : fr 7 = (vP b7)) (bx7 : Bx z e m k b7 [(str x7.number), (vI x7.length), (vI x7.axles), (vI x7.mass), (vI x7.brake), (vI x7.goods), (vB x7.gentle), (str x7.dest)] 42) (h9 : fr 9 = (Value.int .u8 x9)) (h54 : fr 54 = (vB x54)) (ao5_o7 : Ap (blkOf v5) (some b7)) {r : Int} (hr : r06_Encode_2 N x9 x54 = some r) : W Try.prog (sub (bodyOf Try.f21) [1, 1, 1, 0, 1, 0, 0, 1, 0, 0, 1, 1, 1, 0, 1]) (fun ex fr' m' => ∃ z', Zx e.next z0 z' ∧ St z' e m' k ∧ ex = AExit.normal ∧ fr' 9 = (Value.int .u8 r) ∧ OwF (TU8 5) z' e m' k x5 v5 ∧ Bx z' e m' k b7 [(str x7.number), (vI x7.length), (vI x7.axles), (vI x7.mass), (vI x7.brake), (vI x7.goods), (vB x7.gentle), (str x7.dest)] 42 ∧ Ap (blkOf v5) (some b7) ∧ True) fr m := by
 unfold r06_Encode_2 at hr
 rcases if_some hr with ⟨hc95, hr⟩ | ⟨hc99, hr⟩
 ·refine W.condT h54 hc95 (W.region ?_)
  refine sx rfl (pMove (v := (Value.int .u8 x9)) rfl h9) ?_
  refine sx rfl (pAdd (k := .u8) (a := x9) (b := 16) rfl rfl rfl) ?_
  obtain ⟨y96, hy96, hr⟩ := lt_some hr
  refine sx rfl (pAssign rfl (congrArg (Value.int .u8) hy96)) ?_
  refine SeqW.done fun fr97 hf98 => ?_
  have h5 := (congrFun hf98 5).trans h5
  have h7 := (congrFun hf98 7).trans h7
  have h9 : fr97 9 = (Value.int .u8 y96) := (congrFun hf98 9).trans rfl
  clear hf98
  obtain rfl := Option.some.inj hr
  exact ⟨z, hz, st, rfl, h9, o5, bx7, ao5_o7, trivial⟩
 ·refine W.condF h54 hc99 (W.skip ?_)
  obtain rfl := Option.some.inj hr
  exact ⟨z, hz, st, rfl, h9, o5, bx7, ao5_o7, trivial⟩

theorem u_r06_Encode_0 : ∀ (n : Nat) {N : Nat}  {z0 z : Nat → Blk} {e m : Mem} {k : Option Nat} {fr : Nat → Value} {x0 : List Wagon} {x5 : List UInt8} {x6 : Int} {v0 : Value} {v5 : Value} (hz : Zx e.next z0 z) (st : St z e m k) (h0 : fr 0 = v0) (s0 : SlR TWagon z x0 v0) (h5 : fr 5 = v5) (o5 : OwF (TU8 5) z e m k x5 v5) (h6 : fr 6 = (vI x6)) {r : List UInt8} (hr : r06_Encode_0 N x0 n x5 x6 = some r), W Try.prog (sub (bodyOf Try.f21) [1, 1, 1, 0, 1, 0]) (fun ex fr' m' => ∃ z', Zx e.next z0 z' ∧ St z' e m' k ∧ ex = AExit.exit 0 ∧ ∃ (w5 : Value), fr' 5 = w5 ∧ OwF (TU8 5) z' e m' k r w5 ∧ True) fr m := by
 intro n
 induction n with
 | zero => intro N z0 z e m k fr x0 x5 x6 v0 v5 hz st h0 s0 h5 o5 h6 r hr; cases (show (none : Option _) = some r from hr)
 | succ n ih =>
  intro N z0 z e m k fr x0 x5 x6 v0 v5 hz st h0 s0 h5 o5 h6 r hr
  unfold r06_Encode_0 at hr
  refine W.loop1 ?_
  refine W.seq (W.seq (W.region ?_))
  refine sx rfl (pMove (v := (vI x6)) rfl h6) ?_
  refine sx rfl (pMove (v := v0) rfl h0) ?_
  refine sx rfl (pLenR (xs := x0) rfl Try.underlying24 rfl s0) ?_
  refine sx rfl (pLss (k := .i64) (a := x6) (b := (x0.length : Int)) rfl rfl rfl) ?_
  refine SeqW.done fun fr23 hf24 => ?_
  have h0 := (congrFun hf24 0).trans h0
  have h5 := (congrFun hf24 5).trans h5
  have h6 := (congrFun hf24 6).trans h6
  have h23 : fr23 23 = (vB (decide (x6 < (x0.length : Int)))) := (congrFun hf24 23).trans rfl
  clear hf24
  refine thenQ.n ?_
  rcases if_some hr with ⟨hc25, hr⟩ | ⟨hc150, hr⟩
  ·refine W.condT h23 hc25 (W.skip ?_)
   refine thenQ.n (W.seq ?_)
   refine W.block ?_
   refine W.seq (W.region ?_)
   refine sx rfl (pMove (v := v0) rfl h0) ?_
   refine sx rfl (pMove (v := (vI x6)) rfl h6) ?_
   obtain ⟨y26, hy26, hr⟩ := bind_some hr
   refine SeqW.consX rfl (kIdxR (T := TWagon) (xs := x0) (n := x6) rfl Try.underlying24 Try.type42 rfl rfl rfl s0 hy26 ?_)
   intro B27 f28 cs29 hd30 hc31
   obtain rfl := hd30
   refine SeqW.consX rfl (kLoadA rfl Try.underlying42 rfl Try.type42 rfl rfl (st.loads hc31) ?_)
   refine SeqW.consX rfl (kAlloc rfl Try.type42 rfl rfl rfl [(str []), (vI 0), (vI 0), (vI 0), (vI 0), (vI 0), (vB false), (str [])] rfl st ?_)
   intro B32 m33 st X34 sm35 hap36
   have A38 := hap36 _ o5.lt
   replace o5 := o5.same sm35 Ap.none'
   refine SeqW.consX rfl (kPut (off := 0) (w := (Value.agg [(str y26.number), (vI y26.length), (vI y26.axles), (vI y26.mass), (vI y26.brake), (vI y26.goods), (vB y26.gentle), (str y26.dest)].toArray)) (new := [(str y26.number), (vI y26.length), (vI y26.axles), (vI y26.mass), (vI y26.brake), (vI y26.goods), (vB y26.gentle), (str y26.dest)]) rfl Try.type42 rfl rfl rfl rfl rfl X34 rfl [(str y26.number), (vI y26.length), (vI y26.axles), (vI y26.mass), (vI y26.brake), (vI y26.goods), (vB y26.gentle), (str y26.dest)] rfl st ?_)
   intro m39 st X34 sm40
   replace o5 := o5.same sm40 A38
   refine SeqW.done fun fr41 hf42 => ?_
   have h0 := (congrFun hf42 0).trans h0
   have h5 := (congrFun hf42 5).trans h5
   have h6 := (congrFun hf42 6).trans h6
   have h7 : fr41 7 = (vP B32) := (congrFun hf42 7).trans rfl
   clear hf42
   refine thenQ.n (W.seq ?_)
   refine W.seq (W.region ?_)
   refine sx rfl (pAssign (v := (vI 0)) rfl rfl) ?_
   refine SeqW.done fun fr43 hf44 => ?_
   have h0 := (congrFun hf44 0).trans h0
   have h5 := (congrFun hf44 5).trans h5
   have h6 := (congrFun hf44 6).trans h6
   have h7 := (congrFun hf44 7).trans h7
   have h8 : fr43 8 = (vI 0) := (congrFun hf44 8).trans rfl
   clear hf44
   refine thenQ.n ?_
   refine W.block ?_
   obtain ⟨y78, hy78, hr⟩ := bind_some hr
   refine W.keep (u_r06_Encode_1 (x7 := y26) _ (Zx.refl _) st h5 o5 h7 X34 h8 A38 hy78) ?_
   rintro ex84 fr79 m80 hk82 ⟨z81, hz83, st, rfl, w85, h5, O87, O88, A89, -⟩
   replace s0 := s0.mono hz83.le
   have h0 := (hk82 0 rfl).trans h0
   have h6 := (hk82 6 rfl).trans h6
   have h7 := (hk82 7 rfl).trans h7
   replace hz := hz.trans hz83
   clear hk82
   refine blockQ.hit ?_
   refine thenQ.n (W.seq (W.region ?_))
   refine SeqW.consX rfl (kField rfl Try.underlying42 rfl Try.type3 rfl h7 rfl ?_)
   refine SeqW.consX rfl (kLoad rfl Try.underlying3 rfl rfl (O88.load (v := (vI y26.goods)) rfl) ?_)
   refine sx rfl (pConv (k := .i64) (a := y26.goods) rfl Try.underlying3 Try.underlying5 rfl) ?_
   obtain ⟨y90, hy90, hr⟩ := lt_some hr
   refine sx rfl (pAssign rfl (congrArg (Value.int .u8) hy90)) ?_
   refine SeqW.done fun fr91 hf92 => ?_
   have h0 := (congrFun hf92 0).trans h0
   have h5 := (congrFun hf92 5).trans h5
   have h6 := (congrFun hf92 6).trans h6
   have h7 := (congrFun hf92 7).trans h7
   have h9 : fr91 9 = (Value.int .u8 y90) := (congrFun hf92 9).trans rfl
   clear hf92
   refine thenQ.n (W.seq ?_)
   refine W.seq (W.region ?_)
   refine SeqW.consX rfl (kField rfl Try.underlying42 rfl Try.type4 rfl h7 rfl ?_)
   refine SeqW.consX rfl (kLoad rfl Try.underlying4 rfl rfl (O88.load (v := (vB y26.gentle)) rfl) ?_)
   refine SeqW.done fun fr93 hf94 => ?_
   have h0 := (congrFun hf94 0).trans h0
   have h5 := (congrFun hf94 5).trans h5
   have h6 := (congrFun hf94 6).trans h6
   have h7 := (congrFun hf94 7).trans h7
   have h9 := (congrFun hf94 9).trans h9
   have h54 : fr93 54 = (vB y26.gentle) := (congrFun hf94 54).trans rfl
   clear hf94
   refine thenQ.n ?_
   obtain ⟨y100, hy100, hr⟩ := bind_some hr
   refine W.keep (u_r06_Encode_2 (x7 := y26) (Zx.refl _) st h5 O87 h7 O88 h9 h54 A89 hy100) ?_
   rintro ex106 fr101 m102 hk104 ⟨z103, hz105, st, rfl, h9, O107, O108, A109, -⟩
   replace s0 := s0.mono hz105.le
   have h0 := (hk104 0 rfl).trans h0
   have h5 := (hk104 5 rfl).trans h5
   have h6 := (hk104 6 rfl).trans h6
   have h7 := (hk104 7 rfl).trans h7
   replace hz := hz.trans hz105
   clear hk104
   refine thenQ.n (W.seq (W.region ?_))
   refine sx rfl (pMove (v := w85) rfl h5) ?_
   refine SeqW.consX rfl (kField rfl Try.underlying42 rfl Try.type3 rfl h7 rfl ?_)
   refine SeqW.consX rfl (kLoad rfl Try.underlying3 rfl rfl (O108.load (v := (vI y26.length)) rfl) ?_)
   refine sx rfl (pQuo (k := .i64) (a := y26.length) (b := 256) rfl rfl rfl (by decide)) ?_
   refine sx rfl (pConv (k := .i64) (a := (IntKind.wrap .i64 (Int.tdiv y26.length 256))) rfl Try.underlying3 Try.underlying5 rfl) ?_
   refine SeqW.consX rfl (kField rfl Try.underlying42 rfl Try.type3 rfl h7 rfl ?_)
   refine SeqW.consX rfl (kLoad rfl Try.underlying3 rfl rfl (O108.load (v := (vI y26.length)) rfl) ?_)
   refine sx rfl (pRem (k := .i64) (a := y26.length) (b := 256) rfl rfl rfl (by decide)) ?_
   refine sx rfl (pConv (k := .i64) (a := (Int.tmod y26.length 256)) rfl Try.underlying3 Try.underlying5 rfl) ?_
   refine SeqW.consX rfl (kField rfl Try.underlying42 rfl Try.type3 rfl h7 rfl ?_)
   refine SeqW.consX rfl (kLoad rfl Try.underlying3 rfl rfl (O108.load (v := (vI y26.axles)) rfl) ?_)
   refine sx rfl (pConv (k := .i64) (a := y26.axles) rfl Try.underlying3 Try.underlying5 rfl) ?_
   refine SeqW.consX rfl (kField rfl Try.underlying42 rfl Try.type3 rfl h7 rfl ?_)
   refine SeqW.consX rfl (kLoad rfl Try.underlying3 rfl rfl (O108.load (v := (vI y26.mass)) rfl) ?_)
   refine sx rfl (pQuo (k := .i64) (a := y26.mass) (b := 256) rfl rfl rfl (by decide)) ?_
   refine sx rfl (pConv (k := .i64) (a := (IntKind.wrap .i64 (Int.tdiv y26.mass 256))) rfl Try.underlying3 Try.underlying5 rfl) ?_
   refine SeqW.consX rfl (kField rfl Try.underlying42 rfl Try.type3 rfl h7 rfl ?_)
   refine SeqW.consX rfl (kLoad rfl Try.underlying3 rfl rfl (O108.load (v := (vI y26.mass)) rfl) ?_)
   refine sx rfl (pRem (k := .i64) (a := y26.mass) (b := 256) rfl rfl rfl (by decide)) ?_
   refine sx rfl (pConv (k := .i64) (a := (Int.tmod y26.mass 256)) rfl Try.underlying3 Try.underlying5 rfl) ?_
   refine SeqW.consX rfl (kField rfl Try.underlying42 rfl Try.type3 rfl h7 rfl ?_)
   refine SeqW.consX rfl (kLoad rfl Try.underlying3 rfl rfl (O108.load (v := (vI y26.brake)) rfl) ?_)
   refine sx rfl (pQuo (k := .i64) (a := y26.brake) (b := 256) rfl rfl rfl (by decide)) ?_
   refine sx rfl (pConv (k := .i64) (a := (IntKind.wrap .i64 (Int.tdiv y26.brake 256))) rfl Try.underlying3 Try.underlying5 rfl) ?_
   refine SeqW.consX rfl (kField rfl Try.underlying42 rfl Try.type3 rfl h7 rfl ?_)
   refine SeqW.consX rfl (kLoad rfl Try.underlying3 rfl rfl (O108.load (v := (vI y26.brake)) rfl) ?_)
   refine sx rfl (pRem (k := .i64) (a := y26.brake) (b := 256) rfl rfl rfl (by decide)) ?_
   refine sx rfl (pConv (k := .i64) (a := (Int.tmod y26.brake 256)) rfl Try.underlying3 Try.underlying5 rfl) ?_
   refine sx rfl (pMove (v := (Value.int .u8 y100)) rfl h9) ?_
   refine SeqW.consX rfl (kField rfl Try.underlying42 rfl Try.type9 rfl h7 rfl ?_)
   refine SeqW.consX rfl (kLoad rfl Try.underlying9 rfl rfl (O108.load (v := (str y26.dest)) rfl) ?_)
   refine sx rfl (pLenS (s := y26.dest) rfl rfl Try.underlying9 rfl) ?_
   refine sx rfl (pConv (k := .i64) (a := (y26.dest.length : Int)) rfl Try.underlying3 Try.underlying5 rfl) ?_
   obtain ⟨y110, hy110, hr⟩ := bind_some hr
   obtain ⟨y111, hy111, hr⟩ := bind_some hr
   obtain ⟨y112, hy112, hr⟩ := bind_some hr
   obtain ⟨y113, hy113, hr⟩ := bind_some hr
   obtain ⟨y114, hy114, hr⟩ := bind_some hr
   obtain ⟨y115, hy115, hr⟩ := bind_some hr
   obtain ⟨y116, hy116, hr⟩ := bind_some hr
   obtain ⟨y117, hy117, hr⟩ := bind_some hr
   obtain ⟨y118, hy118, hr⟩ := bind_some hr
   refine SeqW.consX rfl (kBuild (T := (TU8 5)) rfl Try.underlying23 Try.type5 rfl rfl rfl rfl ([y110, y111, y112, y113, y114, y115, y116, y117, y118] : List UInt8) [[Value.int .u8 (UInt8.toNat y110 : Int)], [Value.int .u8 (UInt8.toNat y111 : Int)], [Value.int .u8 (UInt8.toNat y112 : Int)], [Value.int .u8 (UInt8.toNat y113 : Int)], [Value.int .u8 (UInt8.toNat y114 : Int)], [Value.int .u8 (UInt8.toNat y115 : Int)], [Value.int .u8 (UInt8.toNat y116 : Int)], [Value.int .u8 (UInt8.toNat y117 : Int)], [Value.int .u8 (UInt8.toNat y118 : Int)]] rfl rfl rfl (BuildOk.mk (w := (Value.int .u8 (UInt8.toNat y110 : Int))) (by rw [← toU8_some hy110]; exact rfl) rfl rfl rfl (BuildOk.mk (w := (Value.int .u8 (UInt8.toNat y111 : Int))) (by rw [← toU8_some hy111]; exact rfl) rfl rfl rfl (BuildOk.mk (w := (Value.int .u8 (UInt8.toNat y112 : Int))) (by rw [← toU8_some hy112]; exact rfl) rfl rfl rfl (BuildOk.mk (w := (Value.int .u8 (UInt8.toNat y113 : Int))) (by rw [← toU8_some hy113]; exact rfl) rfl rfl rfl (BuildOk.mk (w := (Value.int .u8 (UInt8.toNat y114 : Int))) (by rw [← toU8_some hy114]; exact rfl) rfl rfl rfl (BuildOk.mk (w := (Value.int .u8 (UInt8.toNat y115 : Int))) (by rw [← toU8_some hy115]; exact rfl) rfl rfl rfl (BuildOk.mk (w := (Value.int .u8 (UInt8.toNat y116 : Int))) (by rw [← toU8_some hy116]; exact rfl) rfl rfl rfl (BuildOk.mk (w := (Value.int .u8 (UInt8.toNat y117 : Int))) (by rw [← toU8_some hy117]; exact rfl) rfl rfl rfl (BuildOk.mk (w := (Value.int .u8 (UInt8.toNat y118 : Int))) (by rw [← toU8_some hy118]; exact rfl) rfl rfl rfl trivial))))))))) st ?_)
   intro V119 m120 st O121 sm122 hap123
   have A125 := hap123 _ O108.lt'
   have A126 := hap123 _ O107.lt
   replace O108 := O108.same sm122 Ap.none'
   replace O107 := O107.same sm122 Ap.none'
   obtain ⟨y127, hy127, hr⟩ := bind_some hr
   refine SeqW.consX rfl (kAppend (T := (TU8 5)) (xs := y78) (ys := ([y110, y111, y112, y113, y114, y115, y116, y117, y118] : List UInt8)) rfl Try.underlying23 Try.type5 rfl rfl rfl rfl rfl rfl (.inl ⟨_, Try.underlying23⟩) rfl O107 rfl O121.ow.src st hy127 ?_)
   intro V128 m129 st O130 sm131 hap132
   have A134 := hap132 _ O108.lt' (Ap.symm A109)
   have A135 := hap132 _ O121.lt (Ap.symm A126)
   replace O108 := O108.same sm131 (Ap.symm A109)
   replace O121 := O121.same sm131 (Ap.symm A126)
   refine sx rfl (pAssign (v := V128) rfl rfl) ?_
   refine SeqW.done fun fr136 hf137 => ?_
   have h0 := (congrFun hf137 0).trans h0
   have h5 : fr136 5 = V128 := (congrFun hf137 5).trans rfl
   have h6 := (congrFun hf137 6).trans h6
   have h7 := (congrFun hf137 7).trans h7
   clear hf137
   refine thenQ.n (W.region ?_)
   refine sx rfl (pMove (v := V128) rfl h5) ?_
   refine SeqW.consX rfl (kField rfl Try.underlying42 rfl Try.type9 rfl h7 rfl ?_)
   refine SeqW.consX rfl (kLoad rfl Try.underlying9 rfl rfl (O108.load (v := (str y26.dest)) rfl) ?_)
   obtain ⟨y138, hy138, hr⟩ := bind_some hr
   refine SeqW.consX rfl (kAppend (T := (TU8 5)) (xs := y127) (ys := y26.dest) rfl Try.underlying23 Try.type5 rfl rfl rfl rfl rfl rfl (.inr Try.underlying9) rfl O130 rfl (str_src _) st hy138 ?_)
   intro V139 m140 st O141 sm142 hap143
   refine sx rfl (pAssign (v := V139) rfl rfl) ?_
   refine SeqW.done fun fr145 hf146 => ?_
   have h0 := (congrFun hf146 0).trans h0
   have h5 : fr145 5 = V139 := (congrFun hf146 5).trans rfl
   have h6 := (congrFun hf146 6).trans h6
   clear hf146
   refine blockQ.n ?_
   refine thenQ.n (W.region ?_)
   refine sx rfl (pMove (v := (vI x6)) rfl h6) ?_
   refine sx rfl (pAdd (k := .i64) (a := x6) (b := 1) rfl rfl rfl) ?_
   obtain ⟨y147, hy147, hr⟩ := lt_some hr
   refine sx rfl (pAssign rfl (congrArg (Value.int .i64) hy147)) ?_
   refine SeqW.done fun fr148 hf149 => ?_
   have h0 := (congrFun hf149 0).trans h0
   have h5 := (congrFun hf149 5).trans h5
   have h6 : fr148 6 = (vI y147) := (congrFun hf149 6).trans rfl
   clear hf149
   refine thenQ.n ?_
   exact ih hz st h0 s0 h5 O141 h6 hr
  ·refine W.condF h23 hc150 ?_
   refine W.exit ?_
   refine thenQ.x ?_
   refine thenQ.x ?_
   obtain rfl := Option.some.inj hr
   exact ⟨z, hz, st, rfl, v5, h5, o5, trivial⟩

theorem u_r06_Encode {N : Nat}  {z0 z : Nat → Blk} {e m : Mem} {k : Option Nat} {fr : Nat → Value} {x0 : List Wagon} {v0 : Value} (hz : Zx e.next z0 z) (st : St z e m k) (h0 : fr 0 = v0) (s0 : SlR TWagon z x0 v0) {r : List UInt8 × Int} (hr : r06_Encode N x0 = some r) : W Try.prog (sub (bodyOf Try.f21) []) (fun ex fr' m' => ∃ z', Zx e.next z0 z' ∧ St z' e m' k ∧ (ex = .normal ∨ ex = .ret) ∧ ∃ (w2 : Value), fr' 2 = w2 ∧ SlR (TU8 5) z' r.1 w2 ∧ fr' 3 = (vI r.2) ∧ True) fr m := by
 unfold r06_Encode at hr
 refine W.seq (W.region ?_)
 refine sx rfl (pAssign (v := (Value.slice none 0 0)) rfl rfl) ?_
 refine sx rfl (pAssign (v := (vI 0)) rfl rfl) ?_
 refine SeqW.done fun fr1 hf2 => ?_
 have h0 := (congrFun hf2 0).trans h0
 clear hf2
 refine thenQ.n (W.seq ?_)
 refine W.seq (W.region ?_)
 refine sx rfl (pMove (v := v0) rfl h0) ?_
 obtain ⟨y3, hy3, hr⟩ := bind_some hr
 refine SeqW.consX rfl (StepX.call (gCallee rfl rfl (args1 rfl)) ((c_r06_ValidList (z := z) st.fz st.dead s0 hy3).mono ?_))
 rintro _ _ ⟨rfl, rfl⟩
 refine sx rfl (pAssign (v := (vI y3)) rfl rfl) ?_
 refine SeqW.done fun fr4 hf5 => ?_
 have h0 := (congrFun hf5 0).trans h0
 have h4 : fr4 4 = (vI y3) := (congrFun hf5 4).trans rfl
 clear hf5
 refine thenQ.n (W.seq (W.region ?_))
 refine sx rfl (pMove (v := (vI y3)) rfl h4) ?_
 refine sx rfl (pNeq (k := .i64) (a := y3) (b := 0) rfl rfl rfl) ?_
 refine SeqW.done fun fr6 hf7 => ?_
 have h0 := (congrFun hf7 0).trans h0
 have h4 := (congrFun hf7 4).trans h4
 have h14 : fr6 14 = (vB (y3 != 0)) := (congrFun hf7 14).trans rfl
 clear hf7
 refine thenQ.n ?_
 rcases if_some hr with ⟨hc8, hr⟩ | ⟨hc11, hr⟩
 ·refine W.condT h14 hc8 (W.seq (W.region ?_))
  refine sx rfl (pMove (v := (vI y3)) rfl h4) ?_
  refine sx rfl (pAssign (v := (Value.slice none 0 0)) rfl rfl) ?_
  refine sx rfl (pAssign (v := (vI y3)) rfl rfl) ?_
  refine SeqW.done fun fr9 hf10 => ?_
  have h2 : fr9 2 = (Value.slice none 0 0) := (congrFun hf10 2).trans rfl
  have h3 : fr9 3 = (vI y3) := (congrFun hf10 3).trans rfl
  clear hf10
  refine thenQ.n ?_
  refine W.ret ?_
  refine thenQ.r ?_
  obtain rfl := Option.some.inj hr
  exact ⟨z, hz, st, .inr rfl, (Value.slice none 0 0), h2, SlR.nil, h3, trivial⟩
 ·refine W.condF h14 hc11 (W.skip ?_)
  refine thenQ.n (W.seq (W.region ?_))
  refine sx rfl (pMove (v := v0) rfl h0) ?_
  refine sx rfl (pLenR (xs := x0) rfl Try.underlying24 rfl s0) ?_
  refine sx rfl (pConv (k := .i64) (a := (x0.length : Int)) rfl Try.underlying3 Try.underlying5 rfl) ?_
  obtain ⟨y12, hy12, hr⟩ := bind_some hr
  refine SeqW.consX rfl (kBuild (T := (TU8 5)) rfl Try.underlying23 Try.type5 rfl rfl rfl rfl ([y12] : List UInt8) [[Value.int .u8 (UInt8.toNat y12 : Int)]] rfl rfl rfl (BuildOk.mk (w := (Value.int .u8 (UInt8.toNat y12 : Int))) (by rw [← toU8_some hy12]; exact rfl) rfl rfl rfl trivial) st ?_)
  intro V13 m14 st O15 sm16 hap17
  refine sx rfl (pAssign (v := V13) rfl rfl) ?_
  refine SeqW.done fun fr19 hf20 => ?_
  have h0 := (congrFun hf20 0).trans h0
  have h5 : fr19 5 = V13 := (congrFun hf20 5).trans rfl
  clear hf20
  refine thenQ.n (W.seq ?_)
  refine W.seq (W.region ?_)
  refine sx rfl (pAssign (v := (vI 0)) rfl rfl) ?_
  refine SeqW.done fun fr21 hf22 => ?_
  have h0 := (congrFun hf22 0).trans h0
  have h5 := (congrFun hf22 5).trans h5
  have h6 : fr21 6 = (vI 0) := (congrFun hf22 6).trans rfl
  clear hf22
  refine thenQ.n ?_
  refine W.block ?_
  obtain ⟨y151, hy151, hr⟩ := bind_some hr
  refine W.keep (u_r06_Encode_0 _ (Zx.refl _) st h0 s0 h5 O15 h6 hy151) ?_
  rintro ex157 fr152 m153 hk155 ⟨z154, hz156, st, rfl, w158, h5, O160, -⟩
  replace hz := hz.trans hz156
  clear hk155
  refine blockQ.hit ?_
  refine thenQ.n (W.seq (W.region ?_))
  refine sx rfl (pMove (v := w158) rfl h5) ?_
  obtain ⟨z161, hz162, st165, Q163, hl164⟩ := O160.freeze st
  obtain ⟨y166, hy166, hr⟩ := bind_some hr
  refine SeqW.consX rfl (StepX.call (gCallee rfl rfl (args1 rfl)) ((c_r06_Check (z := z161) st165.fz st.dead Q163 hy166).mono ?_))
  rintro _ _ ⟨rfl, rfl⟩
  refine sx rfl (pAssign (v := (vI y166)) rfl rfl) ?_
  refine SeqW.done fun fr167 hf168 => ?_
  have h5 := (congrFun hf168 5).trans h5
  have h10 : fr167 10 = (vI y166) := (congrFun hf168 10).trans rfl
  clear hf168
  refine thenQ.n (W.seq (W.region ?_))
  refine sx rfl (pMove (v := w158) rfl h5) ?_
  refine sx rfl (pMove (v := (vI y166)) rfl h10) ?_
  refine sx rfl (pQuo (k := .i64) (a := y166) (b := 256) rfl rfl rfl (by decide)) ?_
  refine sx rfl (pConv (k := .i64) (a := (IntKind.wrap .i64 (Int.tdiv y166 256))) rfl Try.underlying3 Try.underlying5 rfl) ?_
  refine sx rfl (pMove (v := (vI y166)) rfl h10) ?_
  refine sx rfl (pRem (k := .i64) (a := y166) (b := 256) rfl rfl rfl (by decide)) ?_
  refine sx rfl (pConv (k := .i64) (a := (Int.tmod y166 256)) rfl Try.underlying3 Try.underlying5 rfl) ?_
  obtain ⟨y169, hy169, hr⟩ := bind_some hr
  obtain ⟨y170, hy170, hr⟩ := bind_some hr
  refine SeqW.consX rfl (kBuild (T := (TU8 5)) rfl Try.underlying23 Try.type5 rfl rfl rfl rfl ([y169, y170] : List UInt8) [[Value.int .u8 (UInt8.toNat y169 : Int)], [Value.int .u8 (UInt8.toNat y170 : Int)]] rfl rfl rfl (BuildOk.mk (w := (Value.int .u8 (UInt8.toNat y169 : Int))) (by rw [← toU8_some hy169]; exact rfl) rfl rfl rfl (BuildOk.mk (w := (Value.int .u8 (UInt8.toNat y170 : Int))) (by rw [← toU8_some hy170]; exact rfl) rfl rfl rfl trivial)) st ?_)
  intro V171 m172 st O173 sm174 hap175
  have A177 := hap175 _ O160.lt
  replace O160 := O160.same sm174 Ap.none'
  obtain ⟨y178, hy178, hr⟩ := bind_some hr
  refine SeqW.consX rfl (kAppend (T := (TU8 5)) (xs := y151) (ys := ([y169, y170] : List UInt8)) rfl Try.underlying23 Try.type5 rfl rfl rfl rfl rfl rfl (.inl ⟨_, Try.underlying23⟩) rfl O160 rfl O173.ow.src st hy178 ?_)
  intro V179 m180 st O181 sm182 hap183
  have A185 := hap183 _ O173.lt (Ap.symm A177)
  replace O173 := O173.same sm182 (Ap.symm A177)
  refine sx rfl (pAssign (v := V179) rfl rfl) ?_
  refine sx rfl (pAssign (v := (vI 0)) rfl rfl) ?_
  refine SeqW.done fun fr186 hf187 => ?_
  have h2 : fr186 2 = V179 := (congrFun hf187 2).trans rfl
  have h3 : fr186 3 = (vI 0) := (congrFun hf187 3).trans rfl
  clear hf187
  refine thenQ.n ?_
  refine W.ret ?_
  obtain ⟨z188, hz189, st, Q190, hl191⟩ := O181.freeze st
  replace hz := hz.trans hz189
  obtain rfl := Option.some.inj hr
  exact ⟨z188, hz, st, .inr rfl, V179, h2, Q190, h3, trivial⟩

theorem c_r06_Encode {N : Nat} {z : Nat → Blk} {m : Mem} {x0 : List Wagon} {v0 : Value} (fz : Fz z m) (hd : ∀ b, m.next ≤ b → m.blk b = .dead) (s0 : SlR TWagon z x0 v0) {r : List UInt8 × Int} (hr : r06_Encode N x0 = some r) : CallW Try.prog 21 #[v0] m fun v m' => ∃ z' w2, Zx m.next z z' ∧ Fz z' m' ∧ Same m m' none ∧ v = (Value.tuple [w2, (vI r.2)].toArray) ∧ SlR (TU8 5) z' r.1 w2 ∧ True := by
 refine CallW.any Try.func21 rfl (by kernel_rfl) (Nat.le_of_ble_eq_true rfl) (fun fr hf => ?_)
 have h0 : fr 0 = _ := hf 0 _ rfl
 refine (u_r06_Encode (k := none) (Zx.refl _) (St.start fz hd) h0 s0 hr).mono ?_
 rintro ex fr' m' ⟨z', hz, st, he, w2, h2, s2, h3, -⟩
 exact ⟨he, [w2, (vI r.2)], ⟨h2.symm, h3.symm, trivial⟩, .inr (List.forall_mem_cons.2 ⟨s2.stor.1, List.forall_mem_cons.2 ⟨rfl, fun _ h => nomatch h⟩⟩), z', w2, hz, st.fz, st.toSame, rfl, s2, trivial⟩

/-! ### humpyard/consist.Total -/

theorem u_consist_Total_0 : ∀ (n : Nat) {N : Nat}  {z0 z : Nat → Blk} {e m : Mem} {k : Option Nat} {fr : Nat → Value} {x2 : Int} {x3 : Int} {x4 : Int} {x14 : List Wagon} {x15 : Int} {x16 : Int} {v14 : Value} (hz : Zx e.next z0 z) (st : St z e m k) (h2 : fr 2 = (vI x2)) (h3 : fr 3 = (vI x3)) (h4 : fr 4 = (vI x4)) (h14 : fr 14 = v14) (s14 : SlR TWagon z x14 v14) (h15 : fr 15 = (vI x15)) (h16 : fr 16 = (vI x16)) {r : Int × Int × Int} (hr : consist_Total_0 N x14 x15 n x2 x3 x4 x16 = some r), W Try.prog (sub (bodyOf Try.f25) [1, 1, 0, 1, 0]) (fun ex fr' m' => ∃ z', Zx e.next z0 z' ∧ St z' e m' k ∧ ex = AExit.exit 0 ∧ fr' 2 = (vI r.1) ∧ fr' 3 = (vI r.2.1) ∧ fr' 4 = (vI r.2.2) ∧ True) fr m := by
 intro n
 induction n with
 | zero => intro N z0 z e m k fr x2 x3 x4 x14 x15 x16 v14 hz st h2 h3 h4 h14 s14 h15 h16 r hr; cases (show (none : Option _) = some r from hr)
 | succ n ih =>
  intro N z0 z e m k fr x2 x3 x4 x14 x15 x16 v14 hz st h2 h3 h4 h14 s14 h15 h16 r hr
  unfold consist_Total_0 at hr
  refine W.loop1 ?_
  refine W.seq (W.region ?_)
  refine sx rfl (pLss (k := .i64) (a := x16) (b := x15) rfl h16 h15) ?_
  refine SeqW.done fun fr14 hf15 => ?_
  have h2 := (congrFun hf15 2).trans h2
  have h3 := (congrFun hf15 3).trans h3
  have h4 := (congrFun hf15 4).trans h4
  have h14 := (congrFun hf15 14).trans h14
  have h15 := (congrFun hf15 15).trans h15
  have h16 := (congrFun hf15 16).trans h16
  have h17 : fr14 17 = (vB (decide (x16 < x15))) := (congrFun hf15 17).trans rfl
  clear hf15
  refine thenQ.n (W.seq ?_)
  rcases if_some hr with ⟨hc16, hr⟩ | ⟨hc44, hr⟩
  ·refine W.condT h17 hc16 (W.skip ?_)
   refine thenQ.n (W.seq ?_)
   refine W.block ?_
   refine W.seq (W.region ?_)
   obtain ⟨y17, hy17, hr⟩ := bind_some hr
   refine SeqW.consX rfl (kIdxR (T := TWagon) (xs := x14) (n := x16) rfl Try.underlying24 Try.type42 rfl h14 h16 s14 hy17 ?_)
   intro B18 f19 cs20 hd21 hc22
   obtain rfl := hd21
   refine SeqW.consX rfl (kLoadA rfl Try.underlying42 rfl Try.type42 rfl rfl (st.loads hc22) ?_)
   refine SeqW.consX rfl (kAlloc rfl Try.type42 rfl rfl rfl [(str []), (vI 0), (vI 0), (vI 0), (vI 0), (vI 0), (vB false), (str [])] rfl st ?_)
   intro B23 m24 st X25 sm26 hap27
   refine SeqW.consX rfl (kPut (off := 0) (w := (Value.agg [(str y17.number), (vI y17.length), (vI y17.axles), (vI y17.mass), (vI y17.brake), (vI y17.goods), (vB y17.gentle), (str y17.dest)].toArray)) (new := [(str y17.number), (vI y17.length), (vI y17.axles), (vI y17.mass), (vI y17.brake), (vI y17.goods), (vB y17.gentle), (str y17.dest)]) rfl Try.type42 rfl rfl rfl rfl rfl X25 rfl [(str y17.number), (vI y17.length), (vI y17.axles), (vI y17.mass), (vI y17.brake), (vI y17.goods), (vB y17.gentle), (str y17.dest)] rfl st ?_)
   intro m29 st X25 sm30
   refine SeqW.done fun fr31 hf32 => ?_
   have h2 := (congrFun hf32 2).trans h2
   have h3 := (congrFun hf32 3).trans h3
   have h4 := (congrFun hf32 4).trans h4
   have h8 : fr31 8 = (vP B23) := (congrFun hf32 8).trans rfl
   have h14 := (congrFun hf32 14).trans h14
   have h15 := (congrFun hf32 15).trans h15
   have h16 := (congrFun hf32 16).trans h16
   clear hf32
   refine thenQ.n (W.seq (W.region ?_))
   refine sx rfl (pMove (v := (vI x2)) rfl h2) ?_
   refine SeqW.consX rfl (kField rfl Try.underlying42 rfl Try.type3 rfl h8 rfl ?_)
   refine SeqW.consX rfl (kLoad rfl Try.underlying3 rfl rfl (X25.load (v := (vI y17.length)) rfl) ?_)
   refine sx rfl (pAdd (k := .i64) (a := x2) (b := y17.length) rfl rfl rfl) ?_
   obtain ⟨y33, hy33, hr⟩ := lt_some hr
   refine sx rfl (pAssign rfl (congrArg (Value.int .i64) hy33)) ?_
   refine SeqW.done fun fr34 hf35 => ?_
   have h2 : fr34 2 = (vI y33) := (congrFun hf35 2).trans rfl
   have h3 := (congrFun hf35 3).trans h3
   have h4 := (congrFun hf35 4).trans h4
   have h8 := (congrFun hf35 8).trans h8
   have h14 := (congrFun hf35 14).trans h14
   have h15 := (congrFun hf35 15).trans h15
   have h16 := (congrFun hf35 16).trans h16
   clear hf35
   refine thenQ.n (W.seq (W.region ?_))
   refine sx rfl (pMove (v := (vI x3)) rfl h3) ?_
   refine SeqW.consX rfl (kField rfl Try.underlying42 rfl Try.type3 rfl h8 rfl ?_)
   refine SeqW.consX rfl (kLoad rfl Try.underlying3 rfl rfl (X25.load (v := (vI y17.mass)) rfl) ?_)
   refine sx rfl (pAdd (k := .i64) (a := x3) (b := y17.mass) rfl rfl rfl) ?_
   obtain ⟨y36, hy36, hr⟩ := lt_some hr
   refine sx rfl (pAssign rfl (congrArg (Value.int .i64) hy36)) ?_
   refine SeqW.done fun fr37 hf38 => ?_
   have h2 := (congrFun hf38 2).trans h2
   have h3 : fr37 3 = (vI y36) := (congrFun hf38 3).trans rfl
   have h4 := (congrFun hf38 4).trans h4
   have h8 := (congrFun hf38 8).trans h8
   have h14 := (congrFun hf38 14).trans h14
   have h15 := (congrFun hf38 15).trans h15
   have h16 := (congrFun hf38 16).trans h16
   clear hf38
   refine thenQ.n (W.region ?_)
   refine sx rfl (pMove (v := (vI x4)) rfl h4) ?_
   refine SeqW.consX rfl (kField rfl Try.underlying42 rfl Try.type3 rfl h8 rfl ?_)
   refine SeqW.consX rfl (kLoad rfl Try.underlying3 rfl rfl (X25.load (v := (vI y17.axles)) rfl) ?_)
   refine sx rfl (pAdd (k := .i64) (a := x4) (b := y17.axles) rfl rfl rfl) ?_
   obtain ⟨y39, hy39, hr⟩ := lt_some hr
   refine sx rfl (pAssign rfl (congrArg (Value.int .i64) hy39)) ?_
   refine SeqW.done fun fr40 hf41 => ?_
   have h2 := (congrFun hf41 2).trans h2
   have h3 := (congrFun hf41 3).trans h3
   have h4 : fr40 4 = (vI y39) := (congrFun hf41 4).trans rfl
   have h14 := (congrFun hf41 14).trans h14
   have h15 := (congrFun hf41 15).trans h15
   have h16 := (congrFun hf41 16).trans h16
   clear hf41
   refine blockQ.n ?_
   refine thenQ.n (W.region ?_)
   refine sx rfl (pAdd (k := .i64) (a := x16) (b := 1) rfl h16 rfl) ?_
   refine sx rfl (pMove (v := (vI (IntKind.wrap .i64 (x16 + 1)))) rfl rfl) ?_
   refine SeqW.done fun fr42 hf43 => ?_
   have h2 := (congrFun hf43 2).trans h2
   have h3 := (congrFun hf43 3).trans h3
   have h4 := (congrFun hf43 4).trans h4
   have h14 := (congrFun hf43 14).trans h14
   have h15 := (congrFun hf43 15).trans h15
   have h16 : fr42 16 = (vI (IntKind.wrap .i64 (x16 + 1))) := (congrFun hf43 16).trans rfl
   clear hf43
   refine thenQ.n ?_
   exact ih hz st h2 h3 h4 h14 s14 h15 h16 hr
  ·refine W.condF h17 hc44 ?_
   refine W.exit ?_
   refine thenQ.x ?_
   refine thenQ.x ?_
   obtain rfl := Option.some.inj hr
   exact ⟨z, hz, st, rfl, h2, h3, h4, trivial⟩

theorem u_consist_Total {N : Nat}  {z0 z : Nat → Blk} {e m : Mem} {k : Option Nat} {fr : Nat → Value} {x0 : List Wagon} {v0 : Value} (hz : Zx e.next z0 z) (st : St z e m k) (h0 : fr 0 = v0) (s0 : SlR TWagon z x0 v0) {r : Int × Int × Int × Int} (hr : consist_Total N x0 = some r) : W Try.prog (sub (bodyOf Try.f25) []) (fun ex fr' m' => ∃ z', Zx e.next z0 z' ∧ St z' e m' k ∧ (ex = .normal ∨ ex = .ret) ∧ fr' 2 = (vI r.1) ∧ fr' 3 = (vI r.2.1) ∧ fr' 4 = (vI r.2.2.1) ∧ fr' 5 = (vI r.2.2.2) ∧ True) fr m := by
 unfold consist_Total at hr
 refine W.seq (W.region ?_)
 refine sx rfl (pAssign (v := (vI 0)) rfl rfl) ?_
 refine sx rfl (pAssign (v := (vI 0)) rfl rfl) ?_
 refine sx rfl (pAssign (v := (vI 0)) rfl rfl) ?_
 refine sx rfl (pAssign (v := (vI 0)) rfl rfl) ?_
 refine SeqW.done fun fr1 hf2 => ?_
 have h0 := (congrFun hf2 0).trans h0
 have h2 : fr1 2 = (vI 0) := (congrFun hf2 2).trans rfl
 have h3 : fr1 3 = (vI 0) := (congrFun hf2 3).trans rfl
 have h4 : fr1 4 = (vI 0) := (congrFun hf2 4).trans rfl
 clear hf2
 refine thenQ.n (W.seq ?_)
 refine W.seq (W.region ?_)
 refine sx rfl (pMove (v := v0) rfl h0) ?_
 obtain ⟨y3, hy3, hr⟩ := bind_some hr
 refine SeqW.consX rfl (StepX.call (gCallee rfl rfl (args1 rfl)) ((c_consist_check (z := z) st.fz st.dead s0 hy3).mono ?_))
 rintro _ _ ⟨rfl, rfl⟩
 refine sx rfl (pAssign (v := (vI y3)) rfl rfl) ?_
 refine SeqW.done fun fr4 hf5 => ?_
 have h0 := (congrFun hf5 0).trans h0
 have h2 := (congrFun hf5 2).trans h2
 have h3 := (congrFun hf5 3).trans h3
 have h4 := (congrFun hf5 4).trans h4
 have h6 : fr4 6 = (vI y3) := (congrFun hf5 6).trans rfl
 clear hf5
 refine thenQ.n (W.seq (W.region ?_))
 refine sx rfl (pMove (v := (vI y3)) rfl h6) ?_
 refine sx rfl (pNeq (k := .i64) (a := y3) (b := 0) rfl rfl rfl) ?_
 refine SeqW.done fun fr6 hf7 => ?_
 have h0 := (congrFun hf7 0).trans h0
 have h2 := (congrFun hf7 2).trans h2
 have h3 := (congrFun hf7 3).trans h3
 have h4 := (congrFun hf7 4).trans h4
 have h6 := (congrFun hf7 6).trans h6
 have h12 : fr6 12 = (vB (y3 != 0)) := (congrFun hf7 12).trans rfl
 clear hf7
 refine thenQ.n ?_
 rcases if_some hr with ⟨hc8, hr⟩ | ⟨hc11, hr⟩
 ·refine W.condT h12 hc8 (W.seq (W.region ?_))
  refine sx rfl (pMove (v := (vI y3)) rfl h6) ?_
  refine sx rfl (pAssign (v := (vI 0)) rfl rfl) ?_
  refine sx rfl (pAssign (v := (vI 0)) rfl rfl) ?_
  refine sx rfl (pAssign (v := (vI 0)) rfl rfl) ?_
  refine sx rfl (pAssign (v := (vI y3)) rfl rfl) ?_
  refine SeqW.done fun fr9 hf10 => ?_
  have h2 : fr9 2 = (vI 0) := (congrFun hf10 2).trans rfl
  have h3 : fr9 3 = (vI 0) := (congrFun hf10 3).trans rfl
  have h4 : fr9 4 = (vI 0) := (congrFun hf10 4).trans rfl
  have h5 : fr9 5 = (vI y3) := (congrFun hf10 5).trans rfl
  clear hf10
  refine thenQ.n ?_
  refine W.ret ?_
  refine thenQ.r ?_
  obtain rfl := Option.some.inj hr
  exact ⟨z, hz, st, .inr rfl, h2, h3, h4, h5, trivial⟩
 ·refine W.condF h12 hc11 (W.skip ?_)
  refine thenQ.n (W.seq ?_)
  refine W.seq (W.region ?_)
  refine sx rfl (pMove (v := v0) rfl h0) ?_
  refine sx rfl (pLenR (xs := x0) rfl Try.underlying24 rfl s0) ?_
  refine sx rfl (pMove (v := (vI 0)) rfl rfl) ?_
  refine SeqW.done fun fr12 hf13 => ?_
  have h2 := (congrFun hf13 2).trans h2
  have h3 := (congrFun hf13 3).trans h3
  have h4 := (congrFun hf13 4).trans h4
  have h14 : fr12 14 = v0 := (congrFun hf13 14).trans rfl
  have h15 : fr12 15 = (vI (x0.length : Int)) := (congrFun hf13 15).trans rfl
  have h16 : fr12 16 = (vI 0) := (congrFun hf13 16).trans rfl
  clear hf13
  refine thenQ.n ?_
  refine W.block ?_
  obtain ⟨y45, hy45, hr⟩ := bind_some hr
  refine W.keep (u_consist_Total_0 _ (Zx.refl _) st h2 h3 h4 h14 s0 h15 h16 hy45) ?_
  rintro ex51 fr46 m47 hk49 ⟨z48, hz50, st, rfl, h2, h3, h4, -⟩
  replace hz := hz.trans hz50
  clear hk49
  refine blockQ.hit ?_
  refine thenQ.n (W.seq (W.region ?_))
  refine sx rfl (pMove (v := (vI y45.1)) rfl h2) ?_
  refine sx rfl (pMove (v := (vI y45.2.1)) rfl h3) ?_
  refine sx rfl (pMove (v := (vI y45.2.2)) rfl h4) ?_
  refine sx rfl (pAssign (v := (vI y45.1)) rfl rfl) ?_
  refine sx rfl (pAssign (v := (vI y45.2.1)) rfl rfl) ?_
  refine sx rfl (pAssign (v := (vI y45.2.2)) rfl rfl) ?_
  refine sx rfl (pAssign (v := (vI 0)) rfl rfl) ?_
  refine SeqW.done fun fr52 hf53 => ?_
  have h2 : fr52 2 = (vI y45.1) := (congrFun hf53 2).trans rfl
  have h3 : fr52 3 = (vI y45.2.1) := (congrFun hf53 3).trans rfl
  have h4 : fr52 4 = (vI y45.2.2) := (congrFun hf53 4).trans rfl
  have h5 : fr52 5 = (vI 0) := (congrFun hf53 5).trans rfl
  clear hf53
  refine thenQ.n ?_
  refine W.ret ?_
  obtain rfl := Option.some.inj hr
  exact ⟨z48, hz, st, .inr rfl, h2, h3, h4, h5, trivial⟩

theorem c_consist_Total {N : Nat} {z : Nat → Blk} {m : Mem} {x0 : List Wagon} {v0 : Value} (fz : Fz z m) (hd : ∀ b, m.next ≤ b → m.blk b = .dead) (s0 : SlR TWagon z x0 v0) {r : Int × Int × Int × Int} (hr : consist_Total N x0 = some r) : CallW Try.prog 25 #[v0] m fun v m' => v = (Value.tuple [(vI r.1), (vI r.2.1), (vI r.2.2.1), (vI r.2.2.2)].toArray) ∧ m' = m := by
 refine CallW.flat Try.func25 rfl (by kernel_rfl) (Nat.le_of_ble_eq_true rfl) rfl (z := z) (fun fr hf => ?_)
 have h0 : fr 0 = _ := hf 0 _ rfl
 refine (u_consist_Total (k := none) (Zx.refl _) (St.start fz hd) h0 s0 hr).mono ?_
 rintro ex fr' m' ⟨z', hz, st, he, h2, h3, h4, h5, -⟩
 exact ⟨he, z', st, [(vI r.1), (vI r.2.1), (vI r.2.2.1), (vI r.2.2.2)], ⟨h2.symm, h3.symm, h4.symm, h5.symm, trivial⟩, .inr (List.forall_mem_cons.2 ⟨rfl, List.forall_mem_cons.2 ⟨rfl, List.forall_mem_cons.2 ⟨rfl, List.forall_mem_cons.2 ⟨rfl, fun _ h => nomatch h⟩⟩⟩⟩), rfl⟩

end Go.W
