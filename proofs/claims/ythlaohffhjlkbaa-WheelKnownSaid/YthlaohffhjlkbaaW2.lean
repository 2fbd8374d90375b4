/- The models are what the program computes. -/
import Derived.Test.YthlaohffhjlkbaaW1
set_option linter.unusedVariables false
set_option linter.unusedSimpArgs false
set_option maxRecDepth 100000
set_option maxHeartbeats 4000000
namespace Go.W
open Go.AM Go.Proofs


/-! ### (*humpyard/humpgen.Maker).Number -/

theorem u_Maker_Number {N : Nat}  {z0 z : Nat → Blk} {e m : Mem} {k : Option Nat} {fr : Nat → Value} {x0 : Maker} {x1 : Int} {v0_0 : Value} {b0 : Nat} (hz : Zx e.next z0 z) (st : St z e m k) (h0 : fr 0 = (vP b0)) (s0_0 : SlR (TInt 3 .i64) z x0.l v0_0) (bx0 : Bx z e m k b0 [v0_0, (vI x0.n)] 56) (h1 : fr 1 = (vI x1)) {r : List UInt8 × Maker} (hr : Maker_Number N x0 x1 = some r) : W Try.prog (sub (bodyOf Try.f31) []) (fun ex fr' m' => ∃ z', Zx e.next z0 z' ∧ St z' e m' k ∧ (ex = .normal ∨ ex = .ret) ∧ ∃ (wr_0 : Value), fr' 4 = (str r.1) ∧ SlR (TInt 3 .i64) z' r.2.l wr_0 ∧ Bx z' e m' k b0 [wr_0, (vI r.2.n)] 56 ∧ True) fr m := by
 unfold Maker_Number at hr
 refine W.seq (W.region ?_)
 refine sx rfl (pAssign (v := (str [])) rfl rfl) ?_
 refine SeqW.done fun fr1 hf2 => ?_
 have h0 := (congrFun hf2 0).trans h0
 have h1 := (congrFun hf2 1).trans h1
 clear hf2
 refine thenQ.n (W.seq (W.region ?_))
 refine sx rfl (pMove (v := (vP b0)) rfl h0) ?_
 obtain ⟨y3, hy3, hr⟩ := bind_some hr
 refine SeqW.consX rfl (StepX.call (gCallee rfl rfl (args2 rfl rfl)) ((c_Maker_Digits (x0 := x0) (z := z) st.fz st.dead s0_0 ⟨bx0.blk, bx0.lt, bx0.dead, .inr rfl⟩ hy3).mono ?_))
 rintro _ m8 ⟨z4, V9, hzx5, fz6, sm7, rfl, Q10, X12, -⟩
 replace s0_0 := s0_0.mono hzx5.le
 have bx0n : Bx z4 e m8 k b0 _ _ := ⟨X12.blk, X12.lt, X12.dead, bx0.fresh⟩
 replace hz := hz.trans (Zx.here st hzx5)
 replace st := st.call hzx5 fz6 sm7 bx0.hq
 obtain ⟨y13, hy13, hr⟩ := bind_some hr
 refine SeqW.consX rfl (kBytes (s := y3.1) rfl Try.underlying9 Try.underlying66 Try.underlying5 Try.type5 rfl rfl hy13 st ?_)
 intro V14 m15 st O16 sm17 hap18
 have A20 := hap18 _ bx0n.lt'
 replace bx0n := bx0n.same sm17 Ap.none'
 refine sx rfl (pAssign (v := V14) rfl rfl) ?_
 refine SeqW.done fun fr21 hf22 => ?_
 have h0 := (congrFun hf22 0).trans h0
 have h1 := (congrFun hf22 1).trans h1
 have h5 : fr21 5 = V14 := (congrFun hf22 5).trans rfl
 clear hf22
 refine thenQ.n (W.seq (W.region ?_))
 refine sx rfl (pMove (v := V14) rfl h5) ?_
 refine sx rfl (pMove (v := V14) rfl h5) ?_
 refine sx rfl (pMove (v := V14) rfl h5) ?_
 refine sx rfl (pMove (v := (vI x1)) rfl h1) ?_
 refine sx rfl (pQuo (k := .i64) (a := x1) (b := 100) rfl rfl rfl (by decide)) ?_
 refine sx rfl (pRem (k := .i64) (a := (IntKind.wrap .i64 (Int.tdiv x1 100))) (b := 10) rfl rfl rfl (by decide)) ?_
 refine sx rfl (pAdd (k := .i64) (a := 48) (b := (Int.tmod (IntKind.wrap .i64 (Int.tdiv x1 100)) 10)) rfl rfl rfl) ?_
 refine sx rfl (pConv (k := .i64) (a := (IntKind.wrap .i64 (48 + (Int.tmod (IntKind.wrap .i64 (Int.tdiv x1 100)) 10)))) rfl Try.underlying3 Try.underlying5 rfl) ?_
 refine sx rfl (pMove (v := (vI x1)) rfl h1) ?_
 refine sx rfl (pQuo (k := .i64) (a := x1) (b := 10) rfl rfl rfl (by decide)) ?_
 refine sx rfl (pRem (k := .i64) (a := (IntKind.wrap .i64 (Int.tdiv x1 10))) (b := 10) rfl rfl rfl (by decide)) ?_
 refine sx rfl (pAdd (k := .i64) (a := 48) (b := (Int.tmod (IntKind.wrap .i64 (Int.tdiv x1 10)) 10)) rfl rfl rfl) ?_
 refine sx rfl (pConv (k := .i64) (a := (IntKind.wrap .i64 (48 + (Int.tmod (IntKind.wrap .i64 (Int.tdiv x1 10)) 10)))) rfl Try.underlying3 Try.underlying5 rfl) ?_
 refine sx rfl (pMove (v := (vI x1)) rfl h1) ?_
 refine sx rfl (pRem (k := .i64) (a := x1) (b := 10) rfl rfl rfl (by decide)) ?_
 refine sx rfl (pAdd (k := .i64) (a := 48) (b := (Int.tmod x1 10)) rfl rfl rfl) ?_
 refine sx rfl (pConv (k := .i64) (a := (IntKind.wrap .i64 (48 + (Int.tmod x1 10)))) rfl Try.underlying3 Try.underlying5 rfl) ?_
 obtain ⟨y23, hy23, hr⟩ := bind_some hr
 refine SeqW.consX rfl (kIdxO (T := (TU8 5)) (xs := y13) (n := 8) rfl Try.underlying66 Try.type5 rfl rfl rfl O16 hy23 ?_)
 intro B24 l25 c26 cs27 hv28 hd29 hg30 hc31
 have hd290 := hd29
 obtain rfl := hd290
 obtain ⟨y34, hy34, hr⟩ := bind_some hr
 refine SeqW.consX rfl (kSet (T := (TU8 5)) (off := (8 : Int).toNat * ((TU8 5)).sz) (n := (8 : Int).toNat) (f := 0) (w := (Value.int .u8 (UInt8.toNat y34 : Int))) (new := [(Value.int .u8 (UInt8.toNat y34 : Int))]) (ecs := [(Value.int .u8 (UInt8.toNat y23 : Int))]) (ecs' := [(Value.int .u8 (UInt8.toNat y34 : Int))]) (a := y23) (a' := y34) rfl Try.type5 rfl rfl (by rw [← toU8_some hy34]; exact rfl) rfl rfl rfl O16 hv28 hg30 hd29 hc31 rfl rfl rfl st ?_)
 intro m32 st O16 sm33
 obtain ⟨y35, hy35, hr⟩ := lt_some hr
 rw [hy35] at O16
 replace bx0n := bx0n.same sm33 A20
 obtain ⟨y36, hy36, hr⟩ := bind_some hr
 refine SeqW.consX rfl (kIdxO (T := (TU8 5)) (xs := y35) (n := 9) rfl Try.underlying66 Try.type5 rfl rfl rfl O16 hy36 ?_)
 intro B37 l38 c39 cs40 hv41 hd42 hg43 hc44
 have hd420 := hd42
 obtain rfl := hd420
 obtain ⟨y47, hy47, hr⟩ := bind_some hr
 refine SeqW.consX rfl (kSet (T := (TU8 5)) (off := (9 : Int).toNat * ((TU8 5)).sz) (n := (9 : Int).toNat) (f := 0) (w := (Value.int .u8 (UInt8.toNat y47 : Int))) (new := [(Value.int .u8 (UInt8.toNat y47 : Int))]) (ecs := [(Value.int .u8 (UInt8.toNat y36 : Int))]) (ecs' := [(Value.int .u8 (UInt8.toNat y47 : Int))]) (a := y36) (a' := y47) rfl Try.type5 rfl rfl (by rw [← toU8_some hy47]; exact rfl) rfl rfl rfl O16 hv41 hg43 hd42 hc44 rfl rfl rfl st ?_)
 intro m45 st O16 sm46
 obtain ⟨y48, hy48, hr⟩ := lt_some hr
 rw [hy48] at O16
 replace bx0n := bx0n.same sm46 A20
 obtain ⟨y49, hy49, hr⟩ := bind_some hr
 refine SeqW.consX rfl (kIdxO (T := (TU8 5)) (xs := y48) (n := 10) rfl Try.underlying66 Try.type5 rfl rfl rfl O16 hy49 ?_)
 intro B50 l51 c52 cs53 hv54 hd55 hg56 hc57
 have hd550 := hd55
 obtain rfl := hd550
 obtain ⟨y60, hy60, hr⟩ := bind_some hr
 refine SeqW.consX rfl (kSet (T := (TU8 5)) (off := (10 : Int).toNat * ((TU8 5)).sz) (n := (10 : Int).toNat) (f := 0) (w := (Value.int .u8 (UInt8.toNat y60 : Int))) (new := [(Value.int .u8 (UInt8.toNat y60 : Int))]) (ecs := [(Value.int .u8 (UInt8.toNat y49 : Int))]) (ecs' := [(Value.int .u8 (UInt8.toNat y60 : Int))]) (a := y49) (a' := y60) rfl Try.type5 rfl rfl (by rw [← toU8_some hy60]; exact rfl) rfl rfl rfl O16 hv54 hg56 hd55 hc57 rfl rfl rfl st ?_)
 intro m58 st O16 sm59
 obtain ⟨y61, hy61, hr⟩ := lt_some hr
 rw [hy61] at O16
 replace bx0n := bx0n.same sm59 A20
 refine SeqW.done fun fr62 hf63 => ?_
 have h0 := (congrFun hf63 0).trans h0
 have h5 := (congrFun hf63 5).trans h5
 clear hf63
 refine thenQ.n (W.seq (W.region ?_))
 refine sx rfl (pMove (v := V14) rfl h5) ?_
 refine SeqW.consX rfl (kStrO (s := y61) rfl Try.underlying66 Try.underlying5 Try.underlying9 rfl O16 ?_)
 obtain ⟨y64, hy64, hr⟩ := bind_some hr
 refine SeqW.consX rfl (StepX.call (gCallee rfl rfl (args1 rfl)) ((c_r02_Digit (z := z4) st.fz st.dead  hy64).mono ?_))
 rintro _ _ ⟨rfl, rfl⟩
 refine sx rfl (pMove (v := (Value.tuple [(vI y64.1), (vI y64.2)].toArray)) rfl rfl) ?_
 refine sx rfl (pExtract (vs := [(vI y64.1), (vI y64.2)]) (v := (vI y64.1)) rfl rfl rfl) ?_
 refine sx rfl (pExtract (vs := [(vI y64.1), (vI y64.2)]) (v := (vI y64.2)) rfl rfl rfl) ?_
 refine sx rfl (pAssign (v := (vI y64.1)) rfl rfl) ?_
 refine sx rfl (pAssign (v := (vI y64.2)) rfl rfl) ?_
 refine SeqW.done fun fr65 hf66 => ?_
 have h0 := (congrFun hf66 0).trans h0
 have h5 := (congrFun hf66 5).trans h5
 have h6 : fr65 6 = (vI y64.1) := (congrFun hf66 6).trans rfl
 clear hf66
 refine thenQ.n (W.seq (W.region ?_))
 refine sx rfl (pMove (v := V14) rfl h5) ?_
 refine SeqW.consX rfl (kStrO (s := y61) rfl Try.underlying66 Try.underlying5 Try.underlying9 rfl O16 ?_)
 refine sx rfl (pMove (v := (vI y64.1)) rfl h6) ?_
 refine sx rfl (pAdd (k := .i64) (a := 48) (b := y64.1) rfl rfl rfl) ?_
 refine sx rfl (pConv (k := .i64) (a := (IntKind.wrap .i64 (48 + y64.1))) rfl Try.underlying3 Try.underlying5 rfl) ?_
 obtain ⟨y67, hy67, hr⟩ := bind_some hr
 refine SeqW.consX rfl (kBuild (T := (TU8 5)) rfl Try.underlying66 Try.type5 rfl rfl rfl rfl ([y67] : List UInt8) [[Value.int .u8 (UInt8.toNat y67 : Int)]] rfl rfl rfl (BuildOk.mk (w := (Value.int .u8 (UInt8.toNat y67 : Int))) (by rw [← toU8_some hy67]; exact rfl) rfl rfl rfl trivial) st ?_)
 intro V68 m69 st O70 sm71 hap72
 have A74 := hap72 _ bx0n.lt'
 replace bx0n := bx0n.same sm71 Ap.none'
 refine SeqW.consX rfl (kStrO (s := ([y67] : List UInt8)) rfl Try.underlying66 Try.underlying5 Try.underlying9 rfl O70 ?_)
 obtain ⟨y75, hy75, hr⟩ := bind_some hr
 refine SeqW.consX rfl (kAddS (s := y61) (r := ([y67] : List UInt8)) rfl rfl rfl hy75 ?_)
 refine sx rfl (pAssign (v := (str y75)) rfl rfl) ?_
 refine SeqW.done fun fr76 hf77 => ?_
 have h0 := (congrFun hf77 0).trans h0
 have h4 : fr76 4 = (str y75) := (congrFun hf77 4).trans rfl
 clear hf77
 refine thenQ.n ?_
 refine W.ret ?_
 obtain rfl := Option.some.inj hr
 exact ⟨z4, hz, st, .inr rfl, V9, h4, Q10, bx0n, trivial⟩

theorem c_Maker_Number {N : Nat} {z : Nat → Blk} {m : Mem} {x0 : Maker} {x1 : Int} {v0_0 : Value} {b0 : Nat} (fz : Fz z m) (hd : ∀ b, m.next ≤ b → m.blk b = .dead) (s0_0 : SlR (TInt 3 .i64) z x0.l v0_0) (bx0 : Bx z m m (some b0) b0 [v0_0, (vI x0.n)] 56) {r : List UInt8 × Maker} (hr : Maker_Number N x0 x1 = some r) : CallW Try.prog 31 #[(vP b0), (vI x1)] m fun v m' => ∃ z' wr_0, Zx m.next z z' ∧ Fz z' m' ∧ Same m m' (some b0) ∧ v = (str r.1) ∧ SlR (TInt 3 .i64) z' r.2.l wr_0 ∧ Bx z' m m' (some b0) b0 [wr_0, (vI r.2.n)] 56 ∧ True := by
 refine CallW.any Try.func31 rfl (by kernel_rfl) (Nat.le_of_ble_eq_true rfl) (fun fr hf => ?_)
 have h0 : fr 0 = _ := hf 0 _ rfl
 have h1 : fr 1 = _ := hf 1 _ rfl
 refine (u_Maker_Number (k := (some b0)) (Zx.refl _) (St.start fz hd) h0 s0_0 bx0 h1 hr).mono ?_
 rintro ex fr' m' ⟨z', hz, st, he, wr_0, h4, sr_0, bxr, -⟩
 exact ⟨he, [(str r.1)], ⟨h4.symm, trivial⟩, .inl rfl, z', wr_0, hz, st.fz, st.toSame, rfl, sr_0, bxr, trivial⟩

/-! ### (*humpyard/humpgen.Maker).Name -/

theorem u_Maker_Name {N : Nat}  {z0 z : Nat → Blk} {e m : Mem} {k : Option Nat} {fr : Nat → Value} {x0 : Maker} {v0_0 : Value} {b0 : Nat} (hz : Zx e.next z0 z) (st : St z e m k) (h0 : fr 0 = (vP b0)) (s0_0 : SlR (TInt 3 .i64) z x0.l v0_0) (bx0 : Bx z e m k b0 [v0_0, (vI x0.n)] 56) {r : List UInt8 × Maker} (hr : Maker_Name N x0 = some r) : W Try.prog (sub (bodyOf Try.f32) []) (fun ex fr' m' => ∃ z', Zx e.next z0 z' ∧ St z' e m' k ∧ (ex = .normal ∨ ex = .ret) ∧ ∃ (wr_0 : Value), fr' 2 = (str r.1) ∧ SlR (TInt 3 .i64) z' r.2.l wr_0 ∧ Bx z' e m' k b0 [wr_0, (vI r.2.n)] 56 ∧ True) fr m := by
 unfold Maker_Name at hr
 refine W.seq (W.region ?_)
 refine sx rfl (pAssign (v := (str [])) rfl rfl) ?_
 refine SeqW.done fun fr1 hf2 => ?_
 have h0 := (congrFun hf2 0).trans h0
 clear hf2
 refine thenQ.n (W.seq (W.region ?_))
 refine SeqW.consX rfl (kBuild (T := (TStr 9)) rfl Try.underlying62 Try.type9 rfl rfl rfl rfl ([[97], [98], [99], [100], [101], [110, 111, 114, 116, 104], [115, 111, 117, 116, 104], [112, 111, 114, 116, 49], [120, 57], [97, 98, 99, 100, 101, 102, 103, 104, 105, 106, 107, 108]] : List (List UInt8)) [[(str [97])], [(str [98])], [(str [99])], [(str [100])], [(str [101])], [(str [110, 111, 114, 116, 104])], [(str [115, 111, 117, 116, 104])], [(str [112, 111, 114, 116, 49])], [(str [120, 57])], [(str [97, 98, 99, 100, 101, 102, 103, 104, 105, 106, 107, 108])]] rfl rfl rfl (BuildOk.mk (w := (str [97])) rfl rfl rfl rfl (BuildOk.mk (w := (str [98])) rfl rfl rfl rfl (BuildOk.mk (w := (str [99])) rfl rfl rfl rfl (BuildOk.mk (w := (str [100])) rfl rfl rfl rfl (BuildOk.mk (w := (str [101])) rfl rfl rfl rfl (BuildOk.mk (w := (str [110, 111, 114, 116, 104])) rfl rfl rfl rfl (BuildOk.mk (w := (str [115, 111, 117, 116, 104])) rfl rfl rfl rfl (BuildOk.mk (w := (str [112, 111, 114, 116, 49])) rfl rfl rfl rfl (BuildOk.mk (w := (str [120, 57])) rfl rfl rfl rfl (BuildOk.mk (w := (str [97, 98, 99, 100, 101, 102, 103, 104, 105, 106, 107, 108])) rfl rfl rfl rfl trivial)))))))))) st ?_)
 intro V3 m4 st O5 sm6 hap7
 have A9 := hap7 _ bx0.lt'
 replace bx0 := bx0.same sm6 Ap.none'
 refine sx rfl (pMove (v := (vP b0)) rfl h0) ?_
 obtain ⟨y10, hy10, hr⟩ := bind_some hr
 refine SeqW.consX rfl (StepX.call (gCallee rfl rfl (args2 rfl rfl)) ((c_Maker_Next (x0 := x0) (z := z) st.fz st.dead s0_0 ⟨bx0.blk, bx0.lt, bx0.dead, .inr rfl⟩ hy10).mono ?_))
 rintro _ m15 ⟨z11, V16, hzx12, fz13, sm14, rfl, Q17, X19, -⟩
 replace s0_0 := s0_0.mono hzx12.le
 replace O5 := O5.call hzx12 sm14 (Ap.symm A9)
 have bx0n : Bx z11 e m15 k b0 _ _ := ⟨X19.blk, X19.lt, X19.dead, bx0.fresh⟩
 replace hz := hz.trans (Zx.here st hzx12)
 replace st := st.call hzx12 fz13 sm14 bx0.hq
 obtain ⟨y20, hy20, hr⟩ := bind_some hr
 refine SeqW.consX rfl (kIdxO (T := (TStr 9)) (xs := ([[97], [98], [99], [100], [101], [110, 111, 114, 116, 104], [115, 111, 117, 116, 104], [112, 111, 114, 116, 49], [120, 57], [97, 98, 99, 100, 101, 102, 103, 104, 105, 106, 107, 108]] : List (List UInt8))) (n := y10.1) rfl Try.underlying62 Try.type9 rfl rfl rfl O5 hy20 ?_)
 intro B21 l22 c23 cs24 hv25 hd26 hg27 hc28
 have hd260 := hd26
 obtain rfl := hd260
 refine SeqW.consX rfl (kLoad (v := (str y20)) rfl Try.underlying9 rfl rfl (hc28 0 _ rfl) ?_)
 refine sx rfl (pAssign (v := (str y20)) rfl rfl) ?_
 refine SeqW.done fun fr29 hf30 => ?_
 have h0 := (congrFun hf30 0).trans h0
 have h2 : fr29 2 = (str y20) := (congrFun hf30 2).trans rfl
 clear hf30
 refine thenQ.n ?_
 refine W.ret ?_
 obtain rfl := Option.some.inj hr
 exact ⟨z11, hz, st, .inr rfl, V16, h2, Q17, bx0n, trivial⟩

theorem c_Maker_Name {N : Nat} {z : Nat → Blk} {m : Mem} {x0 : Maker} {v0_0 : Value} {b0 : Nat} (fz : Fz z m) (hd : ∀ b, m.next ≤ b → m.blk b = .dead) (s0_0 : SlR (TInt 3 .i64) z x0.l v0_0) (bx0 : Bx z m m (some b0) b0 [v0_0, (vI x0.n)] 56) {r : List UInt8 × Maker} (hr : Maker_Name N x0 = some r) : CallW Try.prog 32 #[(vP b0)] m fun v m' => ∃ z' wr_0, Zx m.next z z' ∧ Fz z' m' ∧ Same m m' (some b0) ∧ v = (str r.1) ∧ SlR (TInt 3 .i64) z' r.2.l wr_0 ∧ Bx z' m m' (some b0) b0 [wr_0, (vI r.2.n)] 56 ∧ True := by
 refine CallW.any Try.func32 rfl (by kernel_rfl) (Nat.le_of_ble_eq_true rfl) (fun fr hf => ?_)
 have h0 : fr 0 = _ := hf 0 _ rfl
 refine (u_Maker_Name (k := (some b0)) (Zx.refl _) (St.start fz hd) h0 s0_0 bx0 hr).mono ?_
 rintro ex fr' m' ⟨z', hz, st, he, wr_0, h2, sr_0, bxr, -⟩
 exact ⟨he, [(str r.1)], ⟨h2.symm, trivial⟩, .inl rfl, z', wr_0, hz, st.fz, st.toSame, rfl, sr_0, bxr, trivial⟩

/-! ### (*humpyard/humpgen.Maker).Wagon -/

theorem u_Maker_Wagon_1 {N : Nat}  {z0 z : Nat → Blk} {e m : Mem} {k : Option Nat} {fr : Nat → Value} {x26 : Int} {x27 : Bool} {x0 : Maker} {v0_0 : Value} {b0 : Nat} {x4 : Wagon} {b4 : Nat} {x5 : Wagon} {b5 : Nat} (hz : Zx e.next z0 z) (st : St z e m k) (h0 : fr 0 = (vP b0)) (s0_0 : SlR (TInt 3 .i64) z x0.l v0_0) (bx0 : Bx z e m k b0 [v0_0, (vI x0.n)] 56) (h4 : fr 4 = (vP b4)) (bx4 : Bx z e m k b4 [(str x4.number), (vI x4.length), (vI x4.axles), (vI x4.mass), (vI x4.brake), (vI x4.goods), (vB x4.gentle), (str x4.dest)] 30) (h5 : fr 5 = (vP b5)) (bx5 : Bx z e m k b5 [(str x5.number), (vI x5.length), (vI x5.axles), (vI x5.mass), (vI x5.brake), (vI x5.goods), (vB x5.gentle), (str x5.dest)] 30) (h26 : fr 26 = (Value.int .u8 x26)) (h27 : fr 27 = (vB x27)) (ao0_o4 : Ap (some b0) (some b4)) (ao0_o5 : Ap (some b0) (some b5)) (ao4_o5 : Ap (some b4) (some b5)) {r : Bool} (hr : Maker_Wagon_1 N x26 x27 = some r) : W Try.prog (sub (bodyOf Try.f13) [1, 1, 0, 1, 0, 0, 1]) (fun ex fr' m' => ∃ z', Zx e.next z0 z' ∧ St z' e m' k ∧ ex = AExit.normal ∧ fr' 27 = (vB r) ∧ Bx z' e m' k b0 [v0_0, (vI x0.n)] 56 ∧ Bx z' e m' k b4 [(str x4.number), (vI x4.length), (vI x4.axles), (vI x4.mass), (vI x4.brake), (vI x4.goods), (vB x4.gentle), (str x4.dest)] 30 ∧ Bx z' e m' k b5 [(str x5.number), (vI x5.length), (vI x5.axles), (vI x5.mass), (vI x5.brake), (vI x5.goods), (vB x5.gentle), (str x5.dest)] 30 ∧ Ap (some b0) (some b4) ∧ Ap (some b0) (some b5) ∧ Ap (some b4) (some b5) ∧ True) fr m := by
 unfold Maker_Wagon_1 at hr
 rcases if_some hr with ⟨hc124, hr⟩ | ⟨hc125, hr⟩
 ·refine W.condT h27 hc124 (W.skip ?_)
  obtain rfl := Option.some.inj hr
  exact ⟨z, hz, st, rfl, h27, bx0, bx4, bx5, ao0_o4, ao0_o5, ao4_o5, trivial⟩
 ·refine W.condF h27 hc125 (W.region ?_)
  refine sx rfl (pEql (k := .u8) (a := x26) (b := 52) rfl h26 rfl) ?_
  obtain ⟨y126, hy126, hr⟩ := lt_some hr
  refine sx rfl (pAssign rfl (congrArg vB hy126)) ?_
  refine SeqW.done fun fr127 hf128 => ?_
  have h0 := (congrFun hf128 0).trans h0
  have h4 := (congrFun hf128 4).trans h4
  have h5 := (congrFun hf128 5).trans h5
  have h26 := (congrFun hf128 26).trans h26
  have h27 : fr127 27 = (vB y126) := (congrFun hf128 27).trans rfl
  clear hf128
  obtain rfl := Option.some.inj hr
  exact ⟨z, hz, st, rfl, h27, bx0, bx4, bx5, ao0_o4, ao0_o5, ao4_o5, trivial⟩

theorem u_Maker_Wagon_0 {N : Nat}  {z0 z : Nat → Blk} {e m : Mem} {k : Option Nat} {fr : Nat → Value} {x5 : Wagon} {x26 : Int} {x0 : Maker} {v0_0 : Value} {b0 : Nat} {x4 : Wagon} {b4 : Nat} {b5 : Nat} (hz : Zx e.next z0 z) (st : St z e m k) (h0 : fr 0 = (vP b0)) (s0_0 : SlR (TInt 3 .i64) z x0.l v0_0) (bx0 : Bx z e m k b0 [v0_0, (vI x0.n)] 56) (h4 : fr 4 = (vP b4)) (bx4 : Bx z e m k b4 [(str x4.number), (vI x4.length), (vI x4.axles), (vI x4.mass), (vI x4.brake), (vI x4.goods), (vB x4.gentle), (str x4.dest)] 30) (h5 : fr 5 = (vP b5)) (bx5 : Bx z e m k b5 [(str x5.number), (vI x5.length), (vI x5.axles), (vI x5.mass), (vI x5.brake), (vI x5.goods), (vB x5.gentle), (str x5.dest)] 30) (h26 : fr 26 = (Value.int .u8 x26)) (ao0_o4 : Ap (some b0) (some b4)) (ao0_o5 : Ap (some b0) (some b5)) (ao4_o5 : Ap (some b4) (some b5)) {r : Wagon} (hr : Maker_Wagon_0 N x5 x26 = some r) : W Try.prog (sub (bodyOf Try.f13) [1, 1, 0, 1]) (fun ex fr' m' => ∃ z', Zx e.next z0 z' ∧ St z' e m' k ∧ ex = AExit.normal ∧ fr' 5 = (vP b5) ∧ Bx z' e m' k b5 [(str r.number), (vI r.length), (vI r.axles), (vI r.mass), (vI r.brake), (vI r.goods), (vB r.gentle), (str r.dest)] 30 ∧ Bx z' e m' k b0 [v0_0, (vI x0.n)] 56 ∧ Bx z' e m' k b4 [(str x4.number), (vI x4.length), (vI x4.axles), (vI x4.mass), (vI x4.brake), (vI x4.goods), (vB x4.gentle), (str x4.dest)] 30 ∧ Ap (some b5) (some b0) ∧ Ap (some b5) (some b4) ∧ Ap (some b0) (some b4) ∧ True) fr m := by
 unfold Maker_Wagon_0 at hr
 refine W.block ?_
 refine W.seq (W.seq (W.region ?_))
 refine sx rfl (pEql (k := .u8) (a := x26) (b := 50) rfl h26 rfl) ?_
 obtain ⟨y121, hy121, hr⟩ := lt_some hr
 refine sx rfl (pAssign rfl (congrArg vB hy121)) ?_
 refine SeqW.done fun fr122 hf123 => ?_
 have h0 := (congrFun hf123 0).trans h0
 have h4 := (congrFun hf123 4).trans h4
 have h5 := (congrFun hf123 5).trans h5
 have h26 := (congrFun hf123 26).trans h26
 have h27 : fr122 27 = (vB y121) := (congrFun hf123 27).trans rfl
 clear hf123
 refine thenQ.n ?_
 obtain ⟨y129, hy129, hr⟩ := bind_some hr
 refine W.keep (u_Maker_Wagon_1 (x0 := x0) (x4 := x4) (x5 := x5) (Zx.refl _) st h0 s0_0 bx0 h4 bx4 h5 bx5 h26 h27 ao0_o4 ao0_o5 ao4_o5 hy129) ?_
 rintro ex135 fr130 m131 hk133 ⟨z132, hz134, st, rfl, h27, O136, O137, O138, A139, A140, A141, -⟩
 replace s0_0 := s0_0.mono hz134.le
 have h0 := (hk133 0 rfl).trans h0
 have h4 := (hk133 4 rfl).trans h4
 have h5 := (hk133 5 rfl).trans h5
 have h26 := (hk133 26 rfl).trans h26
 replace hz := hz.trans hz134
 clear hk133
 refine thenQ.n ?_
 rcases if_some hr with ⟨hc142, hr⟩ | ⟨hc147, hr⟩
 ·refine W.condT h27 hc142 (W.region ?_)
  refine SeqW.consX rfl (kField rfl Try.underlying30 rfl Try.type3 rfl h5 rfl ?_)
  refine SeqW.consX rfl (kPut (off := 2) (w := (vI 2)) (new := [(vI 2)]) rfl Try.type3 rfl rfl rfl rfl rfl O138 rfl [(str x5.number), (vI x5.length), (vI 2), (vI x5.mass), (vI x5.brake), (vI x5.goods), (vB x5.gentle), (str x5.dest)] rfl st ?_)
  intro m143 st O138 sm144
  replace O136 := O136.same sm144 A140
  replace O137 := O137.same sm144 A141
  refine SeqW.done fun fr145 hf146 => ?_
  have h0 := (congrFun hf146 0).trans h0
  have h4 := (congrFun hf146 4).trans h4
  have h5 := (congrFun hf146 5).trans h5
  clear hf146
  refine blockQ.n ?_
  obtain rfl := Option.some.inj hr
  exact ⟨z132, hz, st, rfl, h5, O138, O136, O137, (Ap.symm A140), (Ap.symm A141), A139, trivial⟩
 ·refine W.condF h27 hc147 (W.seq (W.region ?_))
  refine sx rfl (pEql (k := .u8) (a := x26) (b := 57) rfl h26 rfl) ?_
  obtain ⟨y148, hy148, hr⟩ := lt_some hr
  refine sx rfl (pAssign rfl (congrArg vB hy148)) ?_
  refine SeqW.done fun fr149 hf150 => ?_
  have h0 := (congrFun hf150 0).trans h0
  have h4 := (congrFun hf150 4).trans h4
  have h5 := (congrFun hf150 5).trans h5
  have h31 : fr149 31 = (vB y148) := (congrFun hf150 31).trans rfl
  clear hf150
  refine thenQ.n ?_
  rcases if_some hr with ⟨hc151, hr⟩ | ⟨hc160, hr⟩
  ·refine W.condT h31 hc151 (W.seq (W.region ?_))
   refine SeqW.consX rfl (kField rfl Try.underlying30 rfl Try.type3 rfl h5 rfl ?_)
   refine SeqW.consX rfl (kPut (off := 2) (w := (vI 6)) (new := [(vI 6)]) rfl Try.type3 rfl rfl rfl rfl rfl O138 rfl [(str x5.number), (vI x5.length), (vI 6), (vI x5.mass), (vI x5.brake), (vI x5.goods), (vB x5.gentle), (str x5.dest)] rfl st ?_)
   intro m152 st O138 sm153
   replace O136 := O136.same sm153 A140
   replace O137 := O137.same sm153 A141
   refine SeqW.done fun fr154 hf155 => ?_
   have h0 := (congrFun hf155 0).trans h0
   have h4 := (congrFun hf155 4).trans h4
   have h5 := (congrFun hf155 5).trans h5
   clear hf155
   refine thenQ.n (W.region ?_)
   refine SeqW.consX rfl (kField rfl Try.underlying30 rfl Try.type3 rfl h5 rfl ?_)
   refine SeqW.consX rfl (kLoad rfl Try.underlying3 rfl rfl (O138.load (v := (vI x5.length)) rfl) ?_)
   refine sx rfl (pMax2 (k := .i64) (a := x5.length) (b := 120) rfl rfl rfl) ?_
   refine SeqW.consX rfl (kField rfl Try.underlying30 rfl Try.type3 rfl h5 rfl ?_)
   refine SeqW.consX rfl (kPut (off := 1) (w := (vI (max x5.length 120))) (new := [(vI (max x5.length 120))]) rfl Try.type3 rfl rfl rfl rfl rfl O138 rfl [(str x5.number), (vI (max x5.length 120)), (vI 6), (vI x5.mass), (vI x5.brake), (vI x5.goods), (vB x5.gentle), (str x5.dest)] rfl st ?_)
   intro m156 st O138 sm157
   replace O136 := O136.same sm157 A140
   replace O137 := O137.same sm157 A141
   refine SeqW.done fun fr158 hf159 => ?_
   have h0 := (congrFun hf159 0).trans h0
   have h4 := (congrFun hf159 4).trans h4
   have h5 := (congrFun hf159 5).trans h5
   clear hf159
   refine blockQ.n ?_
   obtain rfl := Option.some.inj hr
   exact ⟨z132, hz, st, rfl, h5, O138, O136, O137, (Ap.symm A140), (Ap.symm A141), A139, trivial⟩
  ·refine W.condF h31 hc160 (W.skip ?_)
   refine blockQ.n ?_
   obtain rfl := Option.some.inj hr
   exact ⟨z132, hz, st, rfl, h5, O138, O136, O137, (Ap.symm A140), (Ap.symm A141), A139, trivial⟩

theorem u_Maker_Wagon {N : Nat}  {z0 z : Nat → Blk} {e m : Mem} {k : Option Nat} {fr : Nat → Value} {x0 : Maker} {x1 : Int} {v0_0 : Value} {b0 : Nat} (hz : Zx e.next z0 z) (st : St z e m k) (h0 : fr 0 = (vP b0)) (s0_0 : SlR (TInt 3 .i64) z x0.l v0_0) (bx0 : Bx z e m k b0 [v0_0, (vI x0.n)] 56) (h1 : fr 1 = (vI x1)) {r : Wagon × Maker} (hr : Maker_Wagon N x0 x1 = some r) : W Try.prog (sub (bodyOf Try.f13) []) (fun ex fr' m' => ∃ z', Zx e.next z0 z' ∧ St z' e m' k ∧ (ex = .normal ∨ ex = .ret) ∧ ∃ (c4 : Nat) (wr_0 : Value), fr' 4 = (vP c4) ∧ Bx z' e m' k c4 [(str r.1.number), (vI r.1.length), (vI r.1.axles), (vI r.1.mass), (vI r.1.brake), (vI r.1.goods), (vB r.1.gentle), (str r.1.dest)] 30 ∧ (e.next ≤ c4 ∨ k = some c4) ∧ SlR (TInt 3 .i64) z' r.2.l wr_0 ∧ Bx z' e m' k b0 [wr_0, (vI r.2.n)] 56 ∧ True) fr m := by
 unfold Maker_Wagon at hr
 refine W.seq (W.region ?_)
 refine SeqW.consX rfl (kAlloc rfl Try.type30 rfl rfl rfl [(str []), (vI 0), (vI 0), (vI 0), (vI 0), (vI 0), (vB false), (str [])] rfl st ?_)
 intro B1 m2 st X3 sm4 hap5
 have A7 := hap5 _ bx0.lt'
 replace bx0 := bx0.same sm4 Ap.none'
 refine SeqW.done fun fr8 hf9 => ?_
 have h0 := (congrFun hf9 0).trans h0
 have h1 := (congrFun hf9 1).trans h1
 have h4 : fr8 4 = (vP B1) := (congrFun hf9 4).trans rfl
 clear hf9
 refine thenQ.n (W.seq (W.region ?_))
 refine sx rfl (pMove (v := (vP b0)) rfl h0) ?_
 refine sx rfl (pMove (v := (vI x1)) rfl h1) ?_
 obtain ⟨y10, hy10, hr⟩ := bind_some hr
 refine SeqW.consX rfl (StepX.call (gCallee rfl rfl (args2 rfl rfl)) ((c_Maker_Number (x0 := x0) (z := z) st.fz st.dead s0_0 ⟨bx0.blk, bx0.lt, bx0.dead, .inr rfl⟩ hy10).mono ?_))
 rintro _ m15 ⟨z11, V16, hzx12, fz13, sm14, rfl, Q17, X19, -⟩
 replace s0_0 := s0_0.mono hzx12.le
 replace X3 := X3.call hzx12 sm14 (Ap.symm A7)
 have bx0n : Bx z11 e m15 k b0 _ _ := ⟨X19.blk, X19.lt, X19.dead, bx0.fresh⟩
 replace hz := hz.trans (Zx.here st hzx12)
 replace st := st.call hzx12 fz13 sm14 bx0.hq
 refine sx rfl (pMove (v := (vP b0)) rfl h0) ?_
 refine SeqW.consX rfl (kBuild (T := (TInt 3 .i64)) rfl Try.underlying22 Try.type3 rfl rfl rfl rfl ([80, 120, 142, 199, 262, 400] : List Int) [[(vI 80)], [(vI 120)], [(vI 142)], [(vI 199)], [(vI 262)], [(vI 400)]] rfl rfl rfl (BuildOk.mk (w := (vI 80)) rfl rfl rfl rfl (BuildOk.mk (w := (vI 120)) rfl rfl rfl rfl (BuildOk.mk (w := (vI 142)) rfl rfl rfl rfl (BuildOk.mk (w := (vI 199)) rfl rfl rfl rfl (BuildOk.mk (w := (vI 262)) rfl rfl rfl rfl (BuildOk.mk (w := (vI 400)) rfl rfl rfl rfl trivial)))))) st ?_)
 intro V20 m21 st O22 sm23 hap24
 have A26 := hap24 _ bx0n.lt'
 have A27 := hap24 _ X3.lt'
 replace bx0n := bx0n.same sm23 Ap.none'
 replace X3 := X3.same sm23 Ap.none'
 obtain ⟨z28, hz29, st, Q30, hl31⟩ := O22.freeze st
 replace bx0n := bx0n.zle (hl31 _ A26)
 replace X3 := X3.zle (hl31 _ A27)
 replace Q17 := Q17.mono hz29.le
 replace hz := hz.trans hz29
 obtain ⟨y32, hy32, hr⟩ := bind_some hr
 refine SeqW.consX rfl (StepX.call (gCallee rfl rfl (args2 rfl rfl)) ((c_Maker_Pick (x0 := y10.2) (z := z28) st.fz st.dead Q17 ⟨bx0n.blk, bx0n.lt, bx0n.dead, .inr rfl⟩ Q30 hy32).mono ?_))
 rintro _ m37 ⟨z33, V38, hzx34, fz35, sm36, rfl, Q39, X41, -⟩
 replace X3 := X3.call hzx34 sm36 (Ap.symm A7)
 replace Q17 := Q17.mono hzx34.le
 replace Q30 := Q30.mono hzx34.le
 have bx0nn : Bx z33 e m37 k b0 _ _ := ⟨X41.blk, X41.lt, X41.dead, bx0n.fresh⟩
 replace hz := hz.trans (Zx.here st hzx34)
 replace st := st.call hzx34 fz35 sm36 bx0n.hq
 refine sx rfl (pMove (v := (vP b0)) rfl h0) ?_
 refine SeqW.consX rfl (kBuild (T := (TInt 3 .i64)) rfl Try.underlying22 Try.type3 rfl rfl rfl rfl ([50, 120, 400, 800, 2000] : List Int) [[(vI 50)], [(vI 120)], [(vI 400)], [(vI 800)], [(vI 2000)]] rfl rfl rfl (BuildOk.mk (w := (vI 50)) rfl rfl rfl rfl (BuildOk.mk (w := (vI 120)) rfl rfl rfl rfl (BuildOk.mk (w := (vI 400)) rfl rfl rfl rfl (BuildOk.mk (w := (vI 800)) rfl rfl rfl rfl (BuildOk.mk (w := (vI 2000)) rfl rfl rfl rfl trivial))))) st ?_)
 intro V42 m43 st O44 sm45 hap46
 have A48 := hap46 _ bx0nn.lt'
 have A49 := hap46 _ X3.lt'
 replace bx0nn := bx0nn.same sm45 Ap.none'
 replace X3 := X3.same sm45 Ap.none'
 obtain ⟨z50, hz51, st, Q52, hl53⟩ := O44.freeze st
 replace bx0nn := bx0nn.zle (hl53 _ A48)
 replace X3 := X3.zle (hl53 _ A49)
 replace Q39 := Q39.mono hz51.le
 replace hz := hz.trans hz51
 obtain ⟨y54, hy54, hr⟩ := bind_some hr
 refine SeqW.consX rfl (StepX.call (gCallee rfl rfl (args2 rfl rfl)) ((c_Maker_Pick (x0 := y32.2) (z := z50) st.fz st.dead Q39 ⟨bx0nn.blk, bx0nn.lt, bx0nn.dead, .inr rfl⟩ Q52 hy54).mono ?_))
 rintro _ m59 ⟨z55, V60, hzx56, fz57, sm58, rfl, Q61, X63, -⟩
 replace X3 := X3.call hzx56 sm58 (Ap.symm A7)
 replace Q39 := Q39.mono hzx56.le
 replace Q52 := Q52.mono hzx56.le
 have bx0nnn : Bx z55 e m59 k b0 _ _ := ⟨X63.blk, X63.lt, X63.dead, bx0nn.fresh⟩
 replace hz := hz.trans (Zx.here st hzx56)
 replace st := st.call hzx56 fz57 sm58 bx0nn.hq
 refine sx rfl (pMove (v := (vP b0)) rfl h0) ?_
 refine SeqW.consX rfl (kBuild (T := (TInt 3 .i64)) rfl Try.underlying22 Try.type3 rfl rfl rfl rfl ([0, 0, 0, 1, 3, 9] : List Int) [[(vI 0)], [(vI 0)], [(vI 0)], [(vI 1)], [(vI 3)], [(vI 9)]] rfl rfl rfl (BuildOk.mk (w := (vI 0)) rfl rfl rfl rfl (BuildOk.mk (w := (vI 0)) rfl rfl rfl rfl (BuildOk.mk (w := (vI 0)) rfl rfl rfl rfl (BuildOk.mk (w := (vI 1)) rfl rfl rfl rfl (BuildOk.mk (w := (vI 3)) rfl rfl rfl rfl (BuildOk.mk (w := (vI 9)) rfl rfl rfl rfl trivial)))))) st ?_)
 intro V64 m65 st O66 sm67 hap68
 have A70 := hap68 _ bx0nnn.lt'
 have A71 := hap68 _ X3.lt'
 replace bx0nnn := bx0nnn.same sm67 Ap.none'
 replace X3 := X3.same sm67 Ap.none'
 obtain ⟨z72, hz73, st, Q74, hl75⟩ := O66.freeze st
 replace bx0nnn := bx0nnn.zle (hl75 _ A70)
 replace X3 := X3.zle (hl75 _ A71)
 replace Q61 := Q61.mono hz73.le
 replace hz := hz.trans hz73
 obtain ⟨y76, hy76, hr⟩ := bind_some hr
 refine SeqW.consX rfl (StepX.call (gCallee rfl rfl (args2 rfl rfl)) ((c_Maker_Pick (x0 := y54.2) (z := z72) st.fz st.dead Q61 ⟨bx0nnn.blk, bx0nnn.lt, bx0nnn.dead, .inr rfl⟩ Q74 hy76).mono ?_))
 rintro _ m81 ⟨z77, V82, hzx78, fz79, sm80, rfl, Q83, X85, -⟩
 replace X3 := X3.call hzx78 sm80 (Ap.symm A7)
 replace Q61 := Q61.mono hzx78.le
 replace Q74 := Q74.mono hzx78.le
 have bx0nnnn : Bx z77 e m81 k b0 _ _ := ⟨X85.blk, X85.lt, X85.dead, bx0nnn.fresh⟩
 replace hz := hz.trans (Zx.here st hzx78)
 replace st := st.call hzx78 fz79 sm80 bx0nnn.hq
 refine sx rfl (pMove (v := (vP b0)) rfl h0) ?_
 obtain ⟨y86, hy86, hr⟩ := bind_some hr
 refine SeqW.consX rfl (StepX.call (gCallee rfl rfl (args2 rfl rfl)) ((c_Maker_Next (x0 := y76.2) (z := z77) st.fz st.dead Q83 ⟨bx0nnnn.blk, bx0nnnn.lt, bx0nnnn.dead, .inr rfl⟩ hy86).mono ?_))
 rintro _ m91 ⟨z87, V92, hzx88, fz89, sm90, rfl, Q93, X95, -⟩
 replace X3 := X3.call hzx88 sm90 (Ap.symm A7)
 replace Q83 := Q83.mono hzx88.le
 have bx0nnnnn : Bx z87 e m91 k b0 _ _ := ⟨X95.blk, X95.lt, X95.dead, bx0nnnn.fresh⟩
 replace hz := hz.trans (Zx.here st hzx88)
 replace st := st.call hzx88 fz89 sm90 bx0nnnn.hq
 refine sx rfl (pEql (k := .i64) (a := y86.1) (b := 0) rfl rfl rfl) ?_
 refine sx rfl (pMove (v := (vP b0)) rfl h0) ?_
 obtain ⟨y96, hy96, hr⟩ := bind_some hr
 refine SeqW.consX rfl (StepX.call (gCallee rfl rfl (args1 rfl)) ((c_Maker_Name (x0 := y86.2) (z := z87) st.fz st.dead Q93 ⟨bx0nnnnn.blk, bx0nnnnn.lt, bx0nnnnn.dead, .inr rfl⟩ hy96).mono ?_))
 rintro _ m101 ⟨z97, V102, hzx98, fz99, sm100, rfl, Q103, X105, -⟩
 replace X3 := X3.call hzx98 sm100 (Ap.symm A7)
 replace Q93 := Q93.mono hzx98.le
 have bx0nnnnnn : Bx z97 e m101 k b0 _ _ := ⟨X105.blk, X105.lt, X105.dead, bx0nnnnn.fresh⟩
 replace hz := hz.trans (Zx.here st hzx98)
 replace st := st.call hzx98 fz99 sm100 bx0nnnnn.hq
 refine SeqW.consX rfl (kBuildS [(0, (str y10.1)), (2, (vI 4)), (1, (vI y32.1)), (3, (vI y54.1)), (5, (vI y76.1)), (6, (vB (y86.1 == 0))), (7, (str y96.1))] [(str y10.1), (vI y32.1), (vI 4), (vI y54.1), (vI 0), (vI y76.1), (vB (y86.1 == 0)), (str y96.1)] rfl Try.underlying30 Try.type30 rfl rfl (places30 Try.underlying30) rfl (rfl) rfl ?_)
 refine SeqW.consX rfl (kAlloc rfl Try.type30 rfl rfl rfl [(str []), (vI 0), (vI 0), (vI 0), (vI 0), (vI 0), (vB false), (str [])] rfl st ?_)
 intro B106 m107 st X108 sm109 hap110
 have A112 := hap110 _ bx0nnnnnn.lt'
 have A113 := hap110 _ X3.lt'
 replace bx0nnnnnn := bx0nnnnnn.same sm109 Ap.none'
 replace X3 := X3.same sm109 Ap.none'
 refine SeqW.consX rfl (kPut (off := 0) (w := (Value.agg [(str y10.1), (vI y32.1), (vI 4), (vI y54.1), (vI 0), (vI y76.1), (vB (y86.1 == 0)), (str y96.1)].toArray)) (new := [(str y10.1), (vI y32.1), (vI 4), (vI y54.1), (vI 0), (vI y76.1), (vB (y86.1 == 0)), (str y96.1)]) rfl Try.type30 rfl rfl rfl rfl rfl X108 rfl [(str y10.1), (vI y32.1), (vI 4), (vI y54.1), (vI 0), (vI y76.1), (vB (y86.1 == 0)), (str y96.1)] rfl st ?_)
 intro m114 st X108 sm115
 replace bx0nnnnnn := bx0nnnnnn.same sm115 A112
 replace X3 := X3.same sm115 A113
 refine SeqW.done fun fr116 hf117 => ?_
 have h0 := (congrFun hf117 0).trans h0
 have h4 := (congrFun hf117 4).trans h4
 have h5 : fr116 5 = (vP B106) := (congrFun hf117 5).trans rfl
 clear hf117
 refine thenQ.n (W.seq ?_)
 refine W.seq (W.region ?_)
 refine SeqW.consX rfl (kField rfl Try.underlying30 rfl Try.type9 rfl h5 rfl ?_)
 refine SeqW.consX rfl (kLoad rfl Try.underlying9 rfl rfl (X108.load (v := (str y10.1)) rfl) ?_)
 obtain ⟨y118, hy118, hr⟩ := bind_some hr
 refine SeqW.consX rfl (kIndexS (s := y10.1) (n := 4) rfl Try.underlying9 rfl rfl hy118 ?_)
 refine SeqW.done fun fr119 hf120 => ?_
 have h0 := (congrFun hf120 0).trans h0
 have h4 := (congrFun hf120 4).trans h4
 have h5 := (congrFun hf120 5).trans h5
 have h26 : fr119 26 = (Value.int .u8 (UInt8.toNat y118 : Int)) := (congrFun hf120 26).trans rfl
 clear hf120
 refine thenQ.n ?_
 obtain ⟨y161, hy161, hr⟩ := bind_some hr
 refine W.keep (u_Maker_Wagon_0 (x0 := y96.2) (x4 := (Wagon.mk [] 0 0 0 0 0 false [])) (x5 := (Wagon.mk y10.1 y32.1 4 y54.1 0 y76.1 (y86.1 == 0) y96.1)) (Zx.refl _) st h0 Q103 bx0nnnnnn h4 X3 h5 X108 h26 A7 A112 A113 hy161) ?_
 rintro ex167 fr162 m163 hk165 ⟨z164, hz166, st, rfl, h5, X169, O170, O171, A172, A173, A174, -⟩
 replace Q103 := Q103.mono hz166.le
 have h0 := (hk165 0 rfl).trans h0
 have h4 := (hk165 4 rfl).trans h4
 replace hz := hz.trans hz166
 clear hk165
 refine thenQ.n (W.seq ?_)
 refine W.draw ?_
 refine DrawW.cons rfl (kField rfl Try.underlying30 rfl Try.type3 rfl h5 rfl ?_)
 refine ⟨trivial, ?_⟩
 refine DrawW.cons rfl (kLoad rfl Try.underlying3 rfl rfl (X169.load (v := (vI y161.mass)) rfl) ?_)
 refine ⟨?_, ?_⟩
 ·exact demN
 refine DrawW.cons rfl (StepX.pure (pMove (v := (vP b0)) rfl h0) ?_)
 refine ⟨trivial, ?_⟩
 have sto175 := st
 have old176 := O170
 have old177 := O171
 have old178 := X169
 obtain ⟨y179, hy179, hr⟩ := bind_some hr
 refine DrawW.cons rfl (StepX.call (gCallee rfl rfl (args2 rfl rfl)) ((c_Maker_Next (x0 := y96.2) (z := z164) st.fz st.dead Q103 ⟨O170.blk, O170.lt, O170.dead, .inr rfl⟩ hy179).mono ?_))
 rintro _ m184 ⟨z180, V185, hzx181, fz182, sm183, rfl, Q186, X188, -⟩
 have sr189 := Q103
 replace O171 := O171.call hzx181 sm183 (Ap.symm A174)
 replace Q103 := Q103.mono hzx181.le
 replace X169 := X169.call hzx181 sm183 A172
 have O170n : Bx z180 e m184 k b0 _ _ := ⟨X188.blk, X188.lt, X188.dead, O170.fresh⟩
 replace hz := hz.trans (Zx.here st hzx181)
 replace st := st.call hzx181 fz182 sm183 O170.hq
 refine ⟨⟨?_, ?_⟩, ?_⟩
 ·first | refine demP (gLoad rfl Try.underlying3 rfl rfl (X169.load (v := (vI y161.mass)) rfl)) ?_ | refine demA (by decide) ?_
  exact demN
 ·exact demN
 refine DrawW.cons rfl (StepX.pure (pMul (k := .i64) (a := y161.mass) (b := y179.1) rfl rfl rfl) ?_)
 refine ⟨trivial, ?_⟩
 refine DrawW.cons rfl (StepX.pure (pQuo (k := .i64) (a := (IntKind.wrap .i64 (y161.mass * y179.1))) (b := 4) rfl rfl rfl (by decide)) ?_)
 refine ⟨trivial, ?_⟩
 refine DrawW.cons rfl (kField rfl Try.underlying30 rfl Try.type3 rfl h5 rfl ?_)
 refine ⟨trivial, ?_⟩
 have sto190 := st
 have old191 := O170n
 have old192 := O171
 have old193 := X169
 refine DrawW.cons rfl (kPut (off := 4) (w := (vI (IntKind.wrap .i64 (Int.tdiv (IntKind.wrap .i64 (y161.mass * y179.1)) 4)))) (new := [(vI (IntKind.wrap .i64 (Int.tdiv (IntKind.wrap .i64 (y161.mass * y179.1)) 4)))]) rfl Try.type3 rfl rfl rfl rfl rfl X169 rfl [(str y161.number), (vI y161.length), (vI y161.axles), (vI y161.mass), (vI (IntKind.wrap .i64 (Int.tdiv (IntKind.wrap .i64 (y161.mass * y179.1)) 4))), (vI y161.goods), (vB y161.gentle), (str y161.dest)] rfl st ?_)
 intro m194 st X169 sm195
 replace O170n := O170n.same sm195 (Ap.symm A172)
 replace O171 := O171.same sm195 (Ap.symm A173)
 refine ⟨⟨?_, ?_⟩, ?_⟩
 ·first | refine demP (gLoad rfl Try.underlying3 rfl rfl (X169.load (v := (vI y161.mass)) rfl)) ?_ | refine demA (by decide) ?_
  exact demN
 ·exact demN
 refine DrawW.done fun fr196 hf197 => ?_
 have h0 := (congrFun hf197 0).trans h0
 have h4 := (congrFun hf197 4).trans h4
 have h5 := (congrFun hf197 5).trans h5
 clear hf197
 refine thenQ.n (W.seq (W.region ?_))
 refine SeqW.consX rfl (kLoadA rfl Try.underlying30 rfl Try.type30 rfl h5 X169.loads ?_)
 refine SeqW.consX rfl (kPut (off := 0) (w := (Value.agg [(str y161.number), (vI y161.length), (vI y161.axles), (vI y161.mass), (vI (IntKind.wrap .i64 (Int.tdiv (IntKind.wrap .i64 (y161.mass * y179.1)) 4))), (vI y161.goods), (vB y161.gentle), (str y161.dest)].toArray)) (new := [(str y161.number), (vI y161.length), (vI y161.axles), (vI y161.mass), (vI (IntKind.wrap .i64 (Int.tdiv (IntKind.wrap .i64 (y161.mass * y179.1)) 4))), (vI y161.goods), (vB y161.gentle), (str y161.dest)]) rfl Try.type30 h4 rfl rfl rfl rfl O171 rfl [(str y161.number), (vI y161.length), (vI y161.axles), (vI y161.mass), (vI (IntKind.wrap .i64 (Int.tdiv (IntKind.wrap .i64 (y161.mass * y179.1)) 4))), (vI y161.goods), (vB y161.gentle), (str y161.dest)] rfl st ?_)
 intro m198 st O171 sm199
 replace O170n := O170n.same sm199 A174
 refine SeqW.done fun fr200 hf201 => ?_
 have h0 := (congrFun hf201 0).trans h0
 have h4 := (congrFun hf201 4).trans h4
 clear hf201
 refine thenQ.n ?_
 refine W.ret ?_
 obtain rfl := Option.some.inj hr
 exact ⟨z180, hz, st, .inr rfl, B1, V185, h4, O171, O171.fresh, Q186, O170n, trivial⟩

theorem c_Maker_Wagon {N : Nat} {z : Nat → Blk} {m : Mem} {x0 : Maker} {x1 : Int} {v0_0 : Value} {b0 : Nat} (fz : Fz z m) (hd : ∀ b, m.next ≤ b → m.blk b = .dead) (s0_0 : SlR (TInt 3 .i64) z x0.l v0_0) (bx0 : Bx z m m (some b0) b0 [v0_0, (vI x0.n)] 56) {r : Wagon × Maker} (hr : Maker_Wagon N x0 x1 = some r) : CallW Try.prog 13 #[(vP b0), (vI x1)] m fun v m' => ∃ z' wr_0, Zx m.next z z' ∧ Fz z' m' ∧ Same m m' (some b0) ∧ v = (Value.agg [(str r.1.number), (vI r.1.length), (vI r.1.axles), (vI r.1.mass), (vI r.1.brake), (vI r.1.goods), (vB r.1.gentle), (str r.1.dest)].toArray) ∧ SlR (TInt 3 .i64) z' r.2.l wr_0 ∧ Bx z' m m' (some b0) b0 [wr_0, (vI r.2.n)] 56 ∧ True := by
 refine CallW.any Try.func13 rfl (by kernel_rfl) (Nat.le_of_ble_eq_true rfl) (fun fr hf => ?_)
 have h0 : fr 0 = _ := hf 0 _ rfl
 have h1 : fr 1 = _ := hf 1 _ rfl
 refine (u_Maker_Wagon (k := (some b0)) (Zx.refl _) (St.start fz hd) h0 s0_0 bx0 h1 hr).mono ?_
 rintro ex fr' m' ⟨z', hz, st, he, c4, wr_0, h4, bx4, fx4, sr_0, bxr, -⟩
 exact ⟨he, [(Value.agg [(str r.1.number), (vI r.1.length), (vI r.1.axles), (vI r.1.mass), (vI r.1.brake), (vI r.1.goods), (vB r.1.gentle), (str r.1.dest)].toArray)], ⟨resCell h4 bx4 Try.underlying30 rfl Try.type30 rfl, trivial⟩, .inl rfl, z', wr_0, hz, st.fz, st.toSame, rfl, sr_0, bxr, trivial⟩

/-! ### (*humpyard/humpgen.Maker).Wagons -/

theorem u_Maker_Wagons_0 : ∀ (n : Nat) {N : Nat}  {z0 z : Nat → Blk} {e m : Mem} {k : Option Nat} {fr : Nat → Value} {x0 : Maker} {x5 : List Wagon} {x6 : Int} {v0_0 : Value} {b0 : Nat} {v5 : Value} (hz : Zx e.next z0 z) (st : St z e m k) (h0 : fr 0 = (vP b0)) (s0_0 : SlR (TInt 3 .i64) z x0.l v0_0) (bx0 : Bx z e m k b0 [v0_0, (vI x0.n)] 56) (h5 : fr 5 = v5) (o5 : OwF TWagon z e m k x5 v5) (h6 : fr 6 = (vI x6)) (ao0_o5 : Ap (some b0) (blkOf v5)) {r : Maker × List Wagon} (hr : Maker_Wagons_0 N n x0 x5 x6 = some r), W Try.prog (sub (bodyOf Try.f18) [1, 1, 0, 1, 0]) (fun ex fr' m' => ∃ z', Zx e.next z0 z' ∧ St z' e m' k ∧ ex = AExit.exit 0 ∧ ∃ (w0_0 : Value) (w5 : Value), fr' 0 = (vP b0) ∧ SlR (TInt 3 .i64) z' r.1.l w0_0 ∧ Bx z' e m' k b0 [w0_0, (vI r.1.n)] 56 ∧ fr' 5 = w5 ∧ OwF TWagon z' e m' k r.2 w5 ∧ Ap (some b0) (blkOf w5) ∧ True) fr m := by
 intro n
 induction n with
 | zero => intro N z0 z e m k fr x0 x5 x6 v0_0 b0 v5 hz st h0 s0_0 bx0 h5 o5 h6 ao0_o5 r hr; cases (show (none : Option _) = some r from hr)
 | succ n ih =>
  intro N z0 z e m k fr x0 x5 x6 v0_0 b0 v5 hz st h0 s0_0 bx0 h5 o5 h6 ao0_o5 r hr
  unfold Maker_Wagons_0 at hr
  refine W.loop1 ?_
  refine W.seq (W.seq (W.region ?_))
  refine sx rfl (pMove (v := (vI x6)) rfl h6) ?_
  refine sx rfl (pGtr (k := .i64) (a := x6) (b := 0) rfl rfl rfl) ?_
  refine SeqW.done fun fr17 hf18 => ?_
  have h0 := (congrFun hf18 0).trans h0
  have h5 := (congrFun hf18 5).trans h5
  have h6 := (congrFun hf18 6).trans h6
  have h12 : fr17 12 = (vB (decide (0 < x6))) := (congrFun hf18 12).trans rfl
  clear hf18
  refine thenQ.n ?_
  rcases if_some hr with ⟨hc19, hr⟩ | ⟨hc52, hr⟩
  ·refine W.condT h12 hc19 (W.skip ?_)
   refine thenQ.n (W.seq ?_)
   refine W.block ?_
   refine W.region ?_
   refine sx rfl (pMove (v := v5) rfl h5) ?_
   refine sx rfl (pMove (v := (vP b0)) rfl h0) ?_
   refine sx rfl (pMove (v := v5) rfl h5) ?_
   refine sx rfl (pLenO (xs := x5) rfl Try.underlying41 rfl o5.ow) ?_
   obtain ⟨y20, hy20, hr⟩ := bind_some hr
   refine SeqW.consX rfl (StepX.call (gCallee rfl rfl (args2 rfl rfl)) ((c_Maker_Wagon (x0 := x0) (z := z) st.fz st.dead s0_0 ⟨bx0.blk, bx0.lt, bx0.dead, .inr rfl⟩ hy20).mono ?_))
   rintro _ m25 ⟨z21, V26, hzx22, fz23, sm24, rfl, Q27, X29, -⟩
   replace s0_0 := s0_0.mono hzx22.le
   replace o5 := o5.call hzx22 sm24 (Ap.symm ao0_o5)
   have bx0n : Bx z21 e m25 k b0 _ _ := ⟨X29.blk, X29.lt, X29.dead, bx0.fresh⟩
   replace hz := hz.trans (Zx.here st hzx22)
   replace st := st.call hzx22 fz23 sm24 bx0.hq
   refine SeqW.consX rfl (kBuild (T := TWagon) rfl Try.underlying41 Try.type30 rfl rfl rfl rfl ([y20.1] : List Wagon) [[(str y20.1.number), (vI y20.1.length), (vI y20.1.axles), (vI y20.1.mass), (vI y20.1.brake), (vI y20.1.goods), (vB y20.1.gentle), (str y20.1.dest)]] rfl rfl rfl (BuildOk.mk (w := (Value.agg [(str y20.1.number), (vI y20.1.length), (vI y20.1.axles), (vI y20.1.mass), (vI y20.1.brake), (vI y20.1.goods), (vB y20.1.gentle), (str y20.1.dest)].toArray)) rfl rfl rfl rfl trivial) st ?_)
   intro V30 m31 st O32 sm33 hap34
   have A36 := hap34 _ bx0n.lt'
   have A37 := hap34 _ o5.lt
   replace bx0n := bx0n.same sm33 Ap.none'
   replace o5 := o5.same sm33 Ap.none'
   obtain ⟨y38, hy38, hr⟩ := bind_some hr
   refine SeqW.consX rfl (kAppend (T := TWagon) (xs := x5) (ys := ([y20.1] : List Wagon)) rfl Try.underlying41 Try.type30 rfl rfl rfl rfl rfl rfl (.inl ⟨_, Try.underlying41⟩) rfl o5 rfl O32.ow.src st hy38 ?_)
   intro V39 m40 st O41 sm42 hap43
   have A45 := hap43 _ bx0n.lt' ao0_o5
   have A46 := hap43 _ O32.lt (Ap.symm A37)
   replace bx0n := bx0n.same sm42 ao0_o5
   replace O32 := O32.same sm42 (Ap.symm A37)
   refine sx rfl (pAssign (v := V39) rfl rfl) ?_
   refine SeqW.done fun fr47 hf48 => ?_
   have h0 := (congrFun hf48 0).trans h0
   have h5 : fr47 5 = V39 := (congrFun hf48 5).trans rfl
   have h6 := (congrFun hf48 6).trans h6
   clear hf48
   refine blockQ.n ?_
   refine thenQ.n (W.region ?_)
   refine sx rfl (pMove (v := (vI x6)) rfl h6) ?_
   refine sx rfl (pSub (k := .i64) (a := x6) (b := 1) rfl rfl rfl) ?_
   obtain ⟨y49, hy49, hr⟩ := lt_some hr
   refine sx rfl (pAssign rfl (congrArg (Value.int .i64) hy49)) ?_
   refine SeqW.done fun fr50 hf51 => ?_
   have h0 := (congrFun hf51 0).trans h0
   have h5 := (congrFun hf51 5).trans h5
   have h6 : fr50 6 = (vI y49) := (congrFun hf51 6).trans rfl
   clear hf51
   refine thenQ.n ?_
   exact ih (x0 := y20.2) hz st h0 Q27 bx0n h5 O41 h6 A45 hr
  ·refine W.condF h12 hc52 ?_
   refine W.exit ?_
   refine thenQ.x ?_
   refine thenQ.x ?_
   obtain rfl := Option.some.inj hr
   exact ⟨z, hz, st, rfl, v0_0, v5, h0, s0_0, bx0, h5, o5, ao0_o5, trivial⟩

theorem u_Maker_Wagons {N : Nat}  {z0 z : Nat → Blk} {e m : Mem} {k : Option Nat} {fr : Nat → Value} {x0 : Maker} {x1 : Int} {v0_0 : Value} {b0 : Nat} (hz : Zx e.next z0 z) (st : St z e m k) (h0 : fr 0 = (vP b0)) (s0_0 : SlR (TInt 3 .i64) z x0.l v0_0) (bx0 : Bx z e m k b0 [v0_0, (vI x0.n)] 56) (h1 : fr 1 = (vI x1)) {r : List Wagon × Maker} (hr : Maker_Wagons N x0 x1 = some r) : W Try.prog (sub (bodyOf Try.f18) []) (fun ex fr' m' => ∃ z', Zx e.next z0 z' ∧ St z' e m' k ∧ (ex = .normal ∨ ex = .ret) ∧ ∃ (w4 : Value) (wr_0 : Value), fr' 4 = w4 ∧ OwF TWagon z' e m' k r.1 w4 ∧ SlR (TInt 3 .i64) z' r.2.l wr_0 ∧ Bx z' e m' k b0 [wr_0, (vI r.2.n)] 56 ∧ True) fr m := by
 unfold Maker_Wagons at hr
 refine W.seq (W.region ?_)
 refine sx rfl (pAssign (v := (Value.slice none 0 0)) rfl rfl) ?_
 refine SeqW.done fun fr1 hf2 => ?_
 have h0 := (congrFun hf2 0).trans h0
 have h1 := (congrFun hf2 1).trans h1
 clear hf2
 refine thenQ.n (W.seq (W.region ?_))
 refine sx rfl (pAssign (v := (Value.slice none 0 0)) rfl rfl) ?_
 refine SeqW.done fun fr3 hf4 => ?_
 have h0 := (congrFun hf4 0).trans h0
 have h1 := (congrFun hf4 1).trans h1
 have h5 : fr3 5 = (Value.slice none 0 0) := (congrFun hf4 5).trans rfl
 clear hf4
 refine thenQ.n (W.seq ?_)
 refine W.seq (W.region ?_)
 refine sx rfl (pMove (v := (vP b0)) rfl h0) ?_
 refine sx rfl (pMove (v := (vI x1)) rfl h1) ?_
 refine sx rfl (pAdd (k := .i64) (a := x1) (b := 1) rfl rfl rfl) ?_
 obtain ⟨y5, hy5, hr⟩ := bind_some hr
 refine SeqW.consX rfl (StepX.call (gCallee rfl rfl (args2 rfl rfl)) ((c_Maker_Next (x0 := x0) (z := z) st.fz st.dead s0_0 ⟨bx0.blk, bx0.lt, bx0.dead, .inr rfl⟩ hy5).mono ?_))
 rintro _ m10 ⟨z6, V11, hzx7, fz8, sm9, rfl, Q12, X14, -⟩
 replace s0_0 := s0_0.mono hzx7.le
 have bx0n : Bx z6 e m10 k b0 _ _ := ⟨X14.blk, X14.lt, X14.dead, bx0.fresh⟩
 replace hz := hz.trans (Zx.here st hzx7)
 replace st := st.call hzx7 fz8 sm9 bx0.hq
 refine sx rfl (pAssign (v := (vI y5.1)) rfl rfl) ?_
 refine SeqW.done fun fr15 hf16 => ?_
 have h0 := (congrFun hf16 0).trans h0
 have h5 := (congrFun hf16 5).trans h5
 have h6 : fr15 6 = (vI y5.1) := (congrFun hf16 6).trans rfl
 clear hf16
 refine thenQ.n ?_
 refine W.block ?_
 obtain ⟨y53, hy53, hr⟩ := bind_some hr
 refine W.keep (u_Maker_Wagons_0 (x0 := y5.2) _ (Zx.refl _) st h0 Q12 bx0n h5 OwF.nil h6 Ap.none' hy53) ?_
 rintro ex59 fr54 m55 hk57 ⟨z56, hz58, st, rfl, w60, w61, h0, Q63, X65, h5, O67, A68, -⟩
 replace hz := hz.trans hz58
 clear hk57
 refine blockQ.hit ?_
 refine thenQ.n (W.seq (W.region ?_))
 refine sx rfl (pMove (v := w61) rfl h5) ?_
 refine sx rfl (pAssign (v := w61) rfl rfl) ?_
 refine SeqW.done fun fr69 hf70 => ?_
 have h0 := (congrFun hf70 0).trans h0
 have h4 : fr69 4 = w61 := (congrFun hf70 4).trans rfl
 clear hf70
 refine thenQ.n ?_
 refine W.ret ?_
 obtain rfl := Option.some.inj hr
 exact ⟨z56, hz, st, .inr rfl, w61, w60, h4, O67, Q63, X65, trivial⟩

theorem c_Maker_Wagons {N : Nat} {z : Nat → Blk} {m : Mem} {x0 : Maker} {x1 : Int} {v0_0 : Value} {b0 : Nat} (fz : Fz z m) (hd : ∀ b, m.next ≤ b → m.blk b = .dead) (s0_0 : SlR (TInt 3 .i64) z x0.l v0_0) (bx0 : Bx z m m (some b0) b0 [v0_0, (vI x0.n)] 56) {r : List Wagon × Maker} (hr : Maker_Wagons N x0 x1 = some r) : CallW Try.prog 18 #[(vP b0), (vI x1)] m fun v m' => ∃ z' w4 wr_0, Zx m.next z z' ∧ Fz z' m' ∧ Same m m' (some b0) ∧ v = w4 ∧ OwF TWagon z' m m' none r.1 w4 ∧ SlR (TInt 3 .i64) z' r.2.l wr_0 ∧ Bx z' m m' (some b0) b0 [wr_0, (vI r.2.n)] 56 ∧ True := by
 refine CallW.any Try.func18 rfl (by kernel_rfl) (Nat.le_of_ble_eq_true rfl) (fun fr hf => ?_)
 have h0 : fr 0 = _ := hf 0 _ rfl
 have h1 : fr 1 = _ := hf 1 _ rfl
 refine (u_Maker_Wagons (k := (some b0)) (Zx.refl _) (St.start fz hd) h0 s0_0 bx0 h1 hr).mono ?_
 rintro ex fr' m' ⟨z', hz, st, he, w4, wr_0, h4, s4, sr_0, bxr, -⟩
 exact ⟨he, [w4], ⟨h4.symm, trivial⟩, .inl rfl, z', w4, wr_0, hz, st.fz, st.toSame, rfl, (s4.up (Nat.le_refl _)), sr_0, bxr, trivial⟩

/-! ### humpyard/humpyardref02.Valid -/

theorem u_r02_Valid {N : Nat}  {z0 z : Nat → Blk} {e m : Mem} {k : Option Nat} {fr : Nat → Value} {x0 : List UInt8} (hz : Zx e.next z0 z) (st : St z e m k) (h0 : fr 0 = (str x0)) {r : Int} (hr : r02_Valid N x0 = some r) : W Try.prog (sub (bodyOf Try.f48) []) (fun ex fr' m' => ∃ z', Zx e.next z0 z' ∧ St z' e m' k ∧ (ex = .normal ∨ ex = .ret) ∧ fr' 2 = (vI r) ∧ True) fr m := by
 unfold r02_Valid at hr
 refine W.seq (W.region ?_)
 refine sx rfl (pAssign (v := (vI 0)) rfl rfl) ?_
 refine SeqW.done fun fr1 hf2 => ?_
 have h0 := (congrFun hf2 0).trans h0
 clear hf2
 refine thenQ.n (W.seq ?_)
 refine W.seq (W.region ?_)
 refine sx rfl (pMove (v := (str x0)) rfl h0) ?_
 obtain ⟨y3, hy3, hr⟩ := bind_some hr
 refine SeqW.consX rfl (StepX.call (gCallee rfl rfl (args2 rfl rfl)) ((c_r02_digits (z := z) st.fz st.dead  hy3).mono ?_))
 rintro _ _ ⟨rfl, rfl⟩
 refine sx rfl (pNot (b := y3) rfl rfl) ?_
 refine SeqW.done fun fr4 hf5 => ?_
 have h0 := (congrFun hf5 0).trans h0
 have h5 : fr4 5 = (vB (!y3)) := (congrFun hf5 5).trans rfl
 clear hf5
 refine thenQ.n ?_
 rcases if_some hr with ⟨hc6, hr⟩ | ⟨hc9, hr⟩
 ·refine W.condT h5 hc6 (W.seq (W.region ?_))
  refine sx rfl (pAssign (v := (vI 11)) rfl rfl) ?_
  refine SeqW.done fun fr7 hf8 => ?_
  have h2 : fr7 2 = (vI 11) := (congrFun hf8 2).trans rfl
  clear hf8
  refine thenQ.n ?_
  refine W.ret ?_
  refine thenQ.r ?_
  obtain rfl := Option.some.inj hr
  exact ⟨z, hz, st, .inr rfl, h2, trivial⟩
 ·refine W.condF h5 hc9 (W.skip ?_)
  refine thenQ.n (W.seq (W.seq ?_))
  refine W.draw ?_
  refine DrawW.cons rfl (StepX.pure (pMove (v := (str x0)) rfl h0) ?_)
  refine ⟨trivial, ?_⟩
  have sto10 := st
  obtain ⟨y11, hy11, hr⟩ := bind_some hr
  refine DrawW.cons rfl (StepX.call (gCallee rfl rfl (args2 rfl rfl)) ((c_r02_sum (z := z) st.fz st.dead  hy11).mono ?_))
  rintro _ _ ⟨rfl, rfl⟩
  refine ⟨⟨?_, ?_⟩, ?_⟩
  ·exact demN
  ·exact demN
  refine DrawW.cons rfl (StepX.pure (pMove (v := (str x0)) rfl h0) ?_)
  refine ⟨trivial, ?_⟩
  obtain ⟨y12, hy12, hr⟩ := bind_some hr
  refine DrawW.cons rfl (kIndexS (s := x0) (n := 11) rfl Try.underlying9 rfl rfl hy12 ?_)
  refine ⟨trivial, ?_⟩
  refine DrawW.cons rfl (StepX.pure (pSub (k := .u8) (a := (UInt8.toNat y12 : Int)) (b := 48) rfl rfl rfl) ?_)
  refine ⟨trivial, ?_⟩
  refine DrawW.cons rfl (StepX.pure (pConv (k := .u8) (a := (IntKind.wrap .u8 ((UInt8.toNat y12 : Int) - 48))) rfl Try.underlying5 Try.underlying3 rfl) ?_)
  refine ⟨trivial, ?_⟩
  refine DrawW.cons rfl (StepX.pure (pAdd (k := .i64) (a := y11) (b := (IntKind.wrap .i64 (IntKind.wrap .u8 ((UInt8.toNat y12 : Int) - 48)))) rfl rfl rfl) ?_)
  refine ⟨trivial, ?_⟩
  refine DrawW.cons rfl (StepX.pure (pRem (k := .i64) (a := (IntKind.wrap .i64 (y11 + (IntKind.wrap .i64 (IntKind.wrap .u8 ((UInt8.toNat y12 : Int) - 48)))))) (b := 10) rfl rfl rfl (by decide)) ?_)
  refine ⟨trivial, ?_⟩
  refine DrawW.cons rfl (StepX.pure (pNeq (k := .i64) (a := (Int.tmod (IntKind.wrap .i64 (y11 + (IntKind.wrap .i64 (IntKind.wrap .u8 ((UInt8.toNat y12 : Int) - 48))))) 10)) (b := 0) rfl rfl rfl) ?_)
  refine ⟨trivial, ?_⟩
  refine DrawW.done fun fr13 hf14 => ?_
  have h14 : fr13 14 = (vB ((Int.tmod (IntKind.wrap .i64 (y11 + (IntKind.wrap .i64 (IntKind.wrap .u8 ((UInt8.toNat y12 : Int) - 48))))) 10) != 0)) := (congrFun hf14 14).trans rfl
  clear hf14
  refine thenQ.n ?_
  rcases if_some hr with ⟨hc15, hr⟩ | ⟨hc18, hr⟩
  ·refine W.condT h14 hc15 (W.seq (W.region ?_))
   refine sx rfl (pAssign (v := (vI 9)) rfl rfl) ?_
   refine SeqW.done fun fr16 hf17 => ?_
   have h2 : fr16 2 = (vI 9) := (congrFun hf17 2).trans rfl
   clear hf17
   refine thenQ.n ?_
   refine W.ret ?_
   refine thenQ.r ?_
   obtain rfl := Option.some.inj hr
   exact ⟨z, hz, st, .inr rfl, h2, trivial⟩
  ·refine W.condF h14 hc18 (W.skip ?_)
   refine thenQ.n (W.seq (W.region ?_))
   refine sx rfl (pAssign (v := (vI 0)) rfl rfl) ?_
   refine SeqW.done fun fr19 hf20 => ?_
   have h2 : fr19 2 = (vI 0) := (congrFun hf20 2).trans rfl
   clear hf20
   refine thenQ.n ?_
   refine W.ret ?_
   obtain rfl := Option.some.inj hr
   exact ⟨z, hz, st, .inr rfl, h2, trivial⟩

theorem c_r02_Valid {N : Nat} {z : Nat → Blk} {m : Mem} {x0 : List UInt8} (fz : Fz z m) (hd : ∀ b, m.next ≤ b → m.blk b = .dead)  {r : Int} (hr : r02_Valid N x0 = some r) : CallW Try.prog 48 #[(str x0)] m fun v m' => v = (vI r) ∧ m' = m := by
 refine CallW.flat Try.func48 rfl (by kernel_rfl) (Nat.le_of_ble_eq_true rfl) rfl (z := z) (fun fr hf => ?_)
 have h0 : fr 0 = _ := hf 0 _ rfl
 refine (u_r02_Valid (k := none) (Zx.refl _) (St.start fz hd) h0 hr).mono ?_
 rintro ex fr' m' ⟨z', hz, st, he, h2, -⟩
 exact ⟨he, z', st, [(vI r)], ⟨h2.symm, trivial⟩, .inl rfl, rfl⟩

/-! ### humpyard/humpyardref02.Kind -/

theorem u_r02_Kind_0 {N : Nat}  {z0 z : Nat → Blk} {e m : Mem} {k : Option Nat} {fr : Nat → Value} {x11 : Int} {x12 : Bool} (hz : Zx e.next z0 z) (st : St z e m k) (h11 : fr 11 = (Value.int .u8 x11)) (h12 : fr 12 = (vB x12)) {r : Bool} (hr : r02_Kind_0 N x11 x12 = some r) : W Try.prog (sub (bodyOf Try.f38) [1, 1, 0, 1, 0, 0, 1]) (fun ex fr' m' => ∃ z', Zx e.next z0 z' ∧ St z' e m' k ∧ ex = AExit.normal ∧ fr' 12 = (vB r) ∧ True) fr m := by
 unfold r02_Kind_0 at hr
 rcases if_some hr with ⟨hc18, hr⟩ | ⟨hc19, hr⟩
 ·refine W.condT h12 hc18 (W.skip ?_)
  obtain rfl := Option.some.inj hr
  exact ⟨z, hz, st, rfl, h12, trivial⟩
 ·refine W.condF h12 hc19 (W.region ?_)
  refine sx rfl (pEql (k := .u8) (a := x11) (b := 56) rfl h11 rfl) ?_
  obtain ⟨y20, hy20, hr⟩ := lt_some hr
  refine sx rfl (pAssign rfl (congrArg vB hy20)) ?_
  refine SeqW.done fun fr21 hf22 => ?_
  have h11 := (congrFun hf22 11).trans h11
  have h12 : fr21 12 = (vB y20) := (congrFun hf22 12).trans rfl
  clear hf22
  obtain rfl := Option.some.inj hr
  exact ⟨z, hz, st, rfl, h12, trivial⟩

theorem u_r02_Kind_1 {N : Nat}  {z0 z : Nat → Blk} {e m : Mem} {k : Option Nat} {fr : Nat → Value} {x11 : Int} {x15 : Bool} (hz : Zx e.next z0 z) (st : St z e m k) (h11 : fr 11 = (Value.int .u8 x11)) (h15 : fr 15 = (vB x15)) {r : Bool} (hr : r02_Kind_1 N x11 x15 = some r) : W Try.prog (sub (bodyOf Try.f38) [1, 1, 0, 1, 0, 1, 1, 0, 1]) (fun ex fr' m' => ∃ z', Zx e.next z0 z' ∧ St z' e m' k ∧ ex = AExit.normal ∧ fr' 15 = (vB r) ∧ True) fr m := by
 unfold r02_Kind_1 at hr
 rcases if_some hr with ⟨hc37, hr⟩ | ⟨hc38, hr⟩
 ·refine W.condT h15 hc37 (W.skip ?_)
  obtain rfl := Option.some.inj hr
  exact ⟨z, hz, st, rfl, h15, trivial⟩
 ·refine W.condF h15 hc38 (W.region ?_)
  refine sx rfl (pEql (k := .u8) (a := x11) (b := 52) rfl h11 rfl) ?_
  obtain ⟨y39, hy39, hr⟩ := lt_some hr
  refine sx rfl (pAssign rfl (congrArg vB hy39)) ?_
  refine SeqW.done fun fr40 hf41 => ?_
  have h11 := (congrFun hf41 11).trans h11
  have h15 : fr40 15 = (vB y39) := (congrFun hf41 15).trans rfl
  clear hf41
  obtain rfl := Option.some.inj hr
  exact ⟨z, hz, st, rfl, h15, trivial⟩

theorem u_r02_Kind {N : Nat}  {z0 z : Nat → Blk} {e m : Mem} {k : Option Nat} {fr : Nat → Value} {x0 : List UInt8} (hz : Zx e.next z0 z) (st : St z e m k) (h0 : fr 0 = (str x0)) {r : Int × Int} (hr : r02_Kind N x0 = some r) : W Try.prog (sub (bodyOf Try.f38) []) (fun ex fr' m' => ∃ z', Zx e.next z0 z' ∧ St z' e m' k ∧ (ex = .normal ∨ ex = .ret) ∧ fr' 2 = (vI r.1) ∧ fr' 3 = (vI r.2) ∧ True) fr m := by
 unfold r02_Kind at hr
 refine W.seq (W.region ?_)
 refine sx rfl (pAssign (v := (vI 0)) rfl rfl) ?_
 refine sx rfl (pAssign (v := (vI 0)) rfl rfl) ?_
 refine SeqW.done fun fr1 hf2 => ?_
 have h0 := (congrFun hf2 0).trans h0
 clear hf2
 refine thenQ.n (W.seq ?_)
 refine W.seq (W.region ?_)
 refine sx rfl (pMove (v := (str x0)) rfl h0) ?_
 obtain ⟨y3, hy3, hr⟩ := bind_some hr
 refine SeqW.consX rfl (StepX.call (gCallee rfl rfl (args1 rfl)) ((c_r02_Valid (z := z) st.fz st.dead  hy3).mono ?_))
 rintro _ _ ⟨rfl, rfl⟩
 refine sx rfl (pAssign (v := (vI y3)) rfl rfl) ?_
 refine SeqW.done fun fr4 hf5 => ?_
 have h0 := (congrFun hf5 0).trans h0
 have h4 : fr4 4 = (vI y3) := (congrFun hf5 4).trans rfl
 clear hf5
 refine thenQ.n (W.seq (W.region ?_))
 refine sx rfl (pMove (v := (vI y3)) rfl h4) ?_
 refine sx rfl (pNeq (k := .i64) (a := y3) (b := 0) rfl rfl rfl) ?_
 refine SeqW.done fun fr6 hf7 => ?_
 have h0 := (congrFun hf7 0).trans h0
 have h4 := (congrFun hf7 4).trans h4
 have h8 : fr6 8 = (vB (y3 != 0)) := (congrFun hf7 8).trans rfl
 clear hf7
 refine thenQ.n ?_
 rcases if_some hr with ⟨hc8, hr⟩ | ⟨hc11, hr⟩
 ·refine W.condT h8 hc8 (W.seq (W.region ?_))
  refine sx rfl (pMove (v := (vI y3)) rfl h4) ?_
  refine sx rfl (pAssign (v := (vI 0)) rfl rfl) ?_
  refine sx rfl (pAssign (v := (vI y3)) rfl rfl) ?_
  refine SeqW.done fun fr9 hf10 => ?_
  have h2 : fr9 2 = (vI 0) := (congrFun hf10 2).trans rfl
  have h3 : fr9 3 = (vI y3) := (congrFun hf10 3).trans rfl
  clear hf10
  refine thenQ.n ?_
  refine W.ret ?_
  refine thenQ.r ?_
  obtain rfl := Option.some.inj hr
  exact ⟨z, hz, st, .inr rfl, h2, h3, trivial⟩
 ·refine W.condF h8 hc11 (W.skip ?_)
  refine thenQ.n (W.seq ?_)
  refine W.seq (W.region ?_)
  refine sx rfl (pMove (v := (str x0)) rfl h0) ?_
  obtain ⟨y12, hy12, hr⟩ := bind_some hr
  refine SeqW.consX rfl (kIndexS (s := x0) (n := 4) rfl Try.underlying9 rfl rfl hy12 ?_)
  refine SeqW.done fun fr13 hf14 => ?_
  have h11 : fr13 11 = (Value.int .u8 (UInt8.toNat y12 : Int)) := (congrFun hf14 11).trans rfl
  clear hf14
  refine thenQ.n ?_
  refine W.block ?_
  refine W.seq (W.seq (W.region ?_))
  refine sx rfl (pEql (k := .u8) (a := (UInt8.toNat y12 : Int)) (b := 55) rfl h11 rfl) ?_
  obtain ⟨y15, hy15, hr⟩ := lt_some hr
  refine sx rfl (pAssign rfl (congrArg vB hy15)) ?_
  refine SeqW.done fun fr16 hf17 => ?_
  have h11 := (congrFun hf17 11).trans h11
  have h12 : fr16 12 = (vB y15) := (congrFun hf17 12).trans rfl
  clear hf17
  refine thenQ.n ?_
  obtain ⟨y23, hy23, hr⟩ := bind_some hr
  refine W.keep (u_r02_Kind_0 (Zx.refl _) st h11 h12 hy23) ?_
  rintro ex29 fr24 m25 hk27 ⟨z26, hz28, st, rfl, h12, -⟩
  have h11 := (hk27 11 rfl).trans h11
  replace hz := hz.trans hz28
  clear hk27
  refine thenQ.n ?_
  rcases if_some hr with ⟨hc30, hr⟩ | ⟨hc33, hr⟩
  ·refine W.condT h12 hc30 (W.seq (W.region ?_))
   refine sx rfl (pAssign (v := (vI 1)) rfl rfl) ?_
   refine sx rfl (pAssign (v := (vI 0)) rfl rfl) ?_
   refine SeqW.done fun fr31 hf32 => ?_
   have h2 : fr31 2 = (vI 1) := (congrFun hf32 2).trans rfl
   have h3 : fr31 3 = (vI 0) := (congrFun hf32 3).trans rfl
   clear hf32
   refine thenQ.n ?_
   refine W.ret ?_
   refine blockQ.r ?_
   refine thenQ.r ?_
   obtain rfl := Option.some.inj hr
   exact ⟨z26, hz, st, .inr rfl, h2, h3, trivial⟩
  ·refine W.condF h12 hc33 (W.seq ?_)
   refine W.seq (W.region ?_)
   refine sx rfl (pEql (k := .u8) (a := (UInt8.toNat y12 : Int)) (b := 50) rfl h11 rfl) ?_
   obtain ⟨y34, hy34, hr⟩ := lt_some hr
   refine sx rfl (pAssign rfl (congrArg vB hy34)) ?_
   refine SeqW.done fun fr35 hf36 => ?_
   have h11 := (congrFun hf36 11).trans h11
   have h15 : fr35 15 = (vB y34) := (congrFun hf36 15).trans rfl
   clear hf36
   refine thenQ.n ?_
   obtain ⟨y42, hy42, hr⟩ := bind_some hr
   refine W.keep (u_r02_Kind_1 (Zx.refl _) st h11 h15 hy42) ?_
   rintro ex48 fr43 m44 hk46 ⟨z45, hz47, st, rfl, h15, -⟩
   have h11 := (hk46 11 rfl).trans h11
   replace hz := hz.trans hz47
   clear hk46
   refine thenQ.n ?_
   rcases if_some hr with ⟨hc49, hr⟩ | ⟨hc52, hr⟩
   ·refine W.condT h15 hc49 (W.seq (W.region ?_))
    refine sx rfl (pAssign (v := (vI 2)) rfl rfl) ?_
    refine sx rfl (pAssign (v := (vI 0)) rfl rfl) ?_
    refine SeqW.done fun fr50 hf51 => ?_
    have h2 : fr50 2 = (vI 2) := (congrFun hf51 2).trans rfl
    have h3 : fr50 3 = (vI 0) := (congrFun hf51 3).trans rfl
    clear hf51
    refine thenQ.n ?_
    refine W.ret ?_
    refine blockQ.r ?_
    refine thenQ.r ?_
    obtain rfl := Option.some.inj hr
    exact ⟨z45, hz, st, .inr rfl, h2, h3, trivial⟩
   ·refine W.condF h15 hc52 (W.seq (W.region ?_))
    refine sx rfl (pEql (k := .u8) (a := (UInt8.toNat y12 : Int)) (b := 57) rfl h11 rfl) ?_
    obtain ⟨y53, hy53, hr⟩ := lt_some hr
    refine sx rfl (pAssign rfl (congrArg vB hy53)) ?_
    refine SeqW.done fun fr54 hf55 => ?_
    have h18 : fr54 18 = (vB y53) := (congrFun hf55 18).trans rfl
    clear hf55
    refine thenQ.n ?_
    rcases if_some hr with ⟨hc56, hr⟩ | ⟨hc59, hr⟩
    ·refine W.condT h18 hc56 (W.seq (W.region ?_))
     refine sx rfl (pAssign (v := (vI 3)) rfl rfl) ?_
     refine sx rfl (pAssign (v := (vI 0)) rfl rfl) ?_
     refine SeqW.done fun fr57 hf58 => ?_
     have h2 : fr57 2 = (vI 3) := (congrFun hf58 2).trans rfl
     have h3 : fr57 3 = (vI 0) := (congrFun hf58 3).trans rfl
     clear hf58
     refine thenQ.n ?_
     refine W.ret ?_
     refine blockQ.r ?_
     refine thenQ.r ?_
     obtain rfl := Option.some.inj hr
     exact ⟨z45, hz, st, .inr rfl, h2, h3, trivial⟩
    ·refine W.condF h18 hc59 (W.skip ?_)
     refine blockQ.n ?_
     refine thenQ.n (W.seq (W.region ?_))
     refine sx rfl (pAssign (v := (vI 0)) rfl rfl) ?_
     refine sx rfl (pAssign (v := (vI 0)) rfl rfl) ?_
     refine SeqW.done fun fr60 hf61 => ?_
     have h2 : fr60 2 = (vI 0) := (congrFun hf61 2).trans rfl
     have h3 : fr60 3 = (vI 0) := (congrFun hf61 3).trans rfl
     clear hf61
     refine thenQ.n ?_
     refine W.ret ?_
     obtain rfl := Option.some.inj hr
     exact ⟨z45, hz, st, .inr rfl, h2, h3, trivial⟩

theorem c_r02_Kind {N : Nat} {z : Nat → Blk} {m : Mem} {x0 : List UInt8} (fz : Fz z m) (hd : ∀ b, m.next ≤ b → m.blk b = .dead)  {r : Int × Int} (hr : r02_Kind N x0 = some r) : CallW Try.prog 38 #[(str x0)] m fun v m' => v = (Value.tuple [(vI r.1), (vI r.2)].toArray) ∧ m' = m := by
 refine CallW.flat Try.func38 rfl (by kernel_rfl) (Nat.le_of_ble_eq_true rfl) rfl (z := z) (fun fr hf => ?_)
 have h0 : fr 0 = _ := hf 0 _ rfl
 refine (u_r02_Kind (k := none) (Zx.refl _) (St.start fz hd) h0 hr).mono ?_
 rintro ex fr' m' ⟨z', hz, st, he, h2, h3, -⟩
 exact ⟨he, z', st, [(vI r.1), (vI r.2)], ⟨h2.symm, h3.symm, trivial⟩, .inr (List.forall_mem_cons.2 ⟨rfl, List.forall_mem_cons.2 ⟨rfl, fun _ h => nomatch h⟩⟩), rfl⟩

/-! ### humpyard/humpyardref06.Name -/

theorem u_r06_Name_1 {N : Nat}  {z0 z : Nat → Blk} {e m : Mem} {k : Option Nat} {fr : Nat → Value} {x0 : List UInt8} {x3 : Int} (hz : Zx e.next z0 z) (st : St z e m k) (h0 : fr 0 = (str x0)) (h3 : fr 3 = (vI x3)) {r : Bool} (hr : r06_Name_1 N x0 x3 = some r) : W Try.prog (sub (bodyOf Try.f47) [1, 0, 1, 0, 0, 1, 0, 0, 0]) (fun ex fr' m' => ∃ z', Zx e.next z0 z' ∧ St z' e m' k ∧ ex = AExit.normal ∧ fr' 32 = (vB r) ∧ True) fr m := by
 unfold r06_Name_1 at hr
 refine W.region ?_
 refine sx rfl (pMove (v := (str x0)) rfl h0) ?_
 refine sx rfl (pMove (v := (vI x3)) rfl h3) ?_
 obtain ⟨y8, hy8, hr⟩ := bind_some hr
 refine SeqW.consX rfl (kIndexS (s := x0) (n := x3) rfl Try.underlying9 rfl rfl hy8 ?_)
 refine sx rfl (pGeq (k := .u8) (a := (UInt8.toNat y8 : Int)) (b := 97) rfl rfl rfl) ?_
 refine sx rfl (pMove (v := (vB (decide (97 ≤ (UInt8.toNat y8 : Int))))) rfl rfl) ?_
 rcases if_some hr with ⟨hc9, hr⟩ | ⟨hc23, hr⟩
 ·refine SeqW.consG rfl rfl rfl hc9 (StepX.pure (pMove (v := (str x0)) rfl h0) ?_)
  refine SeqW.consG rfl rfl rfl hc9 (StepX.pure (pMove (v := (vI x3)) rfl h3) ?_)
  obtain ⟨y10, hy10, hr⟩ := bind_some hr
  refine SeqW.consG rfl rfl rfl hc9 (kIndexS (s := x0) (n := x3) rfl Try.underlying9 rfl rfl hy10 ?_)
  refine SeqW.consG rfl rfl rfl hc9 (StepX.pure (pLeq (k := .u8) (a := (UInt8.toNat y10 : Int)) (b := 122) rfl rfl rfl) ?_)
  refine sx rfl (pPick (t := true) (v := (vB (decide ((UInt8.toNat y10 : Int) ≤ 122)))) rfl ((congrArg vB hc9)) rfl) ?_
  refine sx rfl (pMove (v := (vB (decide ((UInt8.toNat y10 : Int) ≤ 122)))) rfl rfl) ?_
  rcases if_some hr with ⟨hc11, hr⟩ | ⟨hc14, hr⟩
  ·refine kx rfl rfl rfl hc11 ?_
   iterate 4 refine kx rfl rfl rfl hc11 ?_
   refine SeqW.skipU rfl rfl rfl ?_
   refine SeqW.skipU rfl rfl rfl ?_
   refine SeqW.skipU rfl rfl rfl ?_
   refine SeqW.skipU rfl rfl rfl ?_
   refine kx rfl rfl rfl hc11 ?_
   refine sx rfl (pPick (t := true) (v := (vB true)) rfl ((congrArg vB hc11)) rfl) ?_
   refine sx rfl (pNot (b := true) rfl rfl) ?_
   refine SeqW.done fun fr12 hf13 => ?_
   have h0 := (congrFun hf13 0).trans h0
   have h3 := (congrFun hf13 3).trans h3
   have h32 : fr12 32 = (vB (!true)) := (congrFun hf13 32).trans rfl
   clear hf13
   obtain rfl := Option.some.inj hr
   exact ⟨z, hz, st, rfl, h32, trivial⟩
  ·refine SeqW.consG rfl rfl rfl hc14 (StepX.pure (pMove (v := (str x0)) rfl h0) ?_)
   refine SeqW.consG rfl rfl rfl hc14 (StepX.pure (pMove (v := (vI x3)) rfl h3) ?_)
   obtain ⟨y15, hy15, hr⟩ := bind_some hr
   refine SeqW.consG rfl rfl rfl hc14 (kIndexS (s := x0) (n := x3) rfl Try.underlying9 rfl rfl hy15 ?_)
   refine SeqW.consG rfl rfl rfl hc14 (StepX.pure (pGeq (k := .u8) (a := (UInt8.toNat y15 : Int)) (b := 48) rfl rfl rfl) ?_)
   refine SeqW.consG rfl rfl rfl hc14 (StepX.pure (pMove (v := (vB (decide (48 ≤ (UInt8.toNat y15 : Int))))) rfl rfl) ?_)
   rcases if_some hr with ⟨hc16, hr⟩ | ⟨hc20, hr⟩
   ·refine SeqW.consG rfl rfl rfl hc16 (StepX.pure (pMove (v := (str x0)) rfl h0) ?_)
    refine SeqW.consG rfl rfl rfl hc16 (StepX.pure (pMove (v := (vI x3)) rfl h3) ?_)
    obtain ⟨y17, hy17, hr⟩ := bind_some hr
    refine SeqW.consG rfl rfl rfl hc16 (kIndexS (s := x0) (n := x3) rfl Try.underlying9 rfl rfl hy17 ?_)
    refine SeqW.consG rfl rfl rfl hc16 (StepX.pure (pLeq (k := .u8) (a := (UInt8.toNat y17 : Int)) (b := 57) rfl rfl rfl) ?_)
    refine SeqW.consG rfl rfl rfl hc14 (StepX.pure (pPick (t := true) (v := (vB (decide ((UInt8.toNat y17 : Int) ≤ 57)))) rfl ((congrArg vB hc16)) rfl) ?_)
    refine sx rfl (pPick (t := false) (v := (vB (decide ((UInt8.toNat y17 : Int) ≤ 57)))) rfl ((congrArg vB hc14)) rfl) ?_
    refine sx rfl (pNot (b := (decide ((UInt8.toNat y17 : Int) ≤ 57))) rfl rfl) ?_
    refine SeqW.done fun fr18 hf19 => ?_
    have h0 := (congrFun hf19 0).trans h0
    have h3 := (congrFun hf19 3).trans h3
    have h32 : fr18 32 = (vB (!(decide ((UInt8.toNat y17 : Int) ≤ 57)))) := (congrFun hf19 32).trans rfl
    clear hf19
    obtain rfl := Option.some.inj hr
    exact ⟨z, hz, st, rfl, h32, trivial⟩
   ·refine kx rfl rfl rfl hc20 ?_
    iterate 3 refine kx rfl rfl rfl hc20 ?_
    refine SeqW.consG rfl rfl rfl hc14 (StepX.pure (pPick (t := false) (v := (vB false)) rfl ((congrArg vB hc20)) rfl) ?_)
    refine sx rfl (pPick (t := false) (v := (vB false)) rfl ((congrArg vB hc14)) rfl) ?_
    refine sx rfl (pNot (b := false) rfl rfl) ?_
    refine SeqW.done fun fr21 hf22 => ?_
    have h0 := (congrFun hf22 0).trans h0
    have h3 := (congrFun hf22 3).trans h3
    have h32 : fr21 32 = (vB (!false)) := (congrFun hf22 32).trans rfl
    clear hf22
    obtain rfl := Option.some.inj hr
    exact ⟨z, hz, st, rfl, h32, trivial⟩
 ·refine kx rfl rfl rfl hc23 ?_
  iterate 3 refine kx rfl rfl rfl hc23 ?_
  refine sx rfl (pPick (t := false) (v := (vB false)) rfl ((congrArg vB hc23)) rfl) ?_
  refine sx rfl (pMove (v := (vB false)) rfl rfl) ?_
  refine SeqW.consG rfl rfl rfl rfl (StepX.pure (pMove (v := (str x0)) rfl h0) ?_)
  refine SeqW.consG rfl rfl rfl rfl (StepX.pure (pMove (v := (vI x3)) rfl h3) ?_)
  obtain ⟨y24, hy24, hr⟩ := bind_some hr
  refine SeqW.consG rfl rfl rfl rfl (kIndexS (s := x0) (n := x3) rfl Try.underlying9 rfl rfl hy24 ?_)
  refine SeqW.consG rfl rfl rfl rfl (StepX.pure (pGeq (k := .u8) (a := (UInt8.toNat y24 : Int)) (b := 48) rfl rfl rfl) ?_)
  refine SeqW.consG rfl rfl rfl rfl (StepX.pure (pMove (v := (vB (decide (48 ≤ (UInt8.toNat y24 : Int))))) rfl rfl) ?_)
  rcases if_some hr with ⟨hc25, hr⟩ | ⟨hc29, hr⟩
  ·refine SeqW.consG rfl rfl rfl hc25 (StepX.pure (pMove (v := (str x0)) rfl h0) ?_)
   refine SeqW.consG rfl rfl rfl hc25 (StepX.pure (pMove (v := (vI x3)) rfl h3) ?_)
   obtain ⟨y26, hy26, hr⟩ := bind_some hr
   refine SeqW.consG rfl rfl rfl hc25 (kIndexS (s := x0) (n := x3) rfl Try.underlying9 rfl rfl hy26 ?_)
   refine SeqW.consG rfl rfl rfl hc25 (StepX.pure (pLeq (k := .u8) (a := (UInt8.toNat y26 : Int)) (b := 57) rfl rfl rfl) ?_)
   refine SeqW.consG rfl rfl rfl rfl (StepX.pure (pPick (t := true) (v := (vB (decide ((UInt8.toNat y26 : Int) ≤ 57)))) rfl ((congrArg vB hc25)) rfl) ?_)
   refine sx rfl (pPick (t := false) (v := (vB (decide ((UInt8.toNat y26 : Int) ≤ 57)))) rfl ((congrArg vB (rfl : false = false))) rfl) ?_
   refine sx rfl (pNot (b := (decide ((UInt8.toNat y26 : Int) ≤ 57))) rfl rfl) ?_
   refine SeqW.done fun fr27 hf28 => ?_
   have h0 := (congrFun hf28 0).trans h0
   have h3 := (congrFun hf28 3).trans h3
   have h32 : fr27 32 = (vB (!(decide ((UInt8.toNat y26 : Int) ≤ 57)))) := (congrFun hf28 32).trans rfl
   clear hf28
   obtain rfl := Option.some.inj hr
   exact ⟨z, hz, st, rfl, h32, trivial⟩
  ·refine kx rfl rfl rfl hc29 ?_
   iterate 3 refine kx rfl rfl rfl hc29 ?_
   refine SeqW.consG rfl rfl rfl rfl (StepX.pure (pPick (t := false) (v := (vB false)) rfl ((congrArg vB hc29)) rfl) ?_)
   refine sx rfl (pPick (t := false) (v := (vB false)) rfl ((congrArg vB (rfl : false = false))) rfl) ?_
   refine sx rfl (pNot (b := false) rfl rfl) ?_
   refine SeqW.done fun fr30 hf31 => ?_
   have h0 := (congrFun hf31 0).trans h0
   have h3 := (congrFun hf31 3).trans h3
   have h32 : fr30 32 = (vB (!false)) := (congrFun hf31 32).trans rfl
   clear hf31
   obtain rfl := Option.some.inj hr
   exact ⟨z, hz, st, rfl, h32, trivial⟩

theorem u_r06_Name_0 : ∀ (n : Nat) {N : Nat}  {z0 z : Nat → Blk} {e m : Mem} {k : Option Nat} {fr : Nat → Value} {x0 : List UInt8} {x3 : Int} (hz : Zx e.next z0 z) (st : St z e m k) (h0 : fr 0 = (str x0)) (h3 : fr 3 = (vI x3)) {r : Sum (Unit) (Bool)} (hr : r06_Name_0 N x0 n x3 = some r), W Try.prog (sub (bodyOf Try.f47) [1, 0, 1, 0]) (fun ex fr' m' => ∃ z', Zx e.next z0 z' ∧ St z' e m' k ∧ ((∃ q, r = Sum.inl q ∧ ex = AExit.exit 0 ∧ True) ∨ (∃ q, r = Sum.inr q ∧ ex = AExit.ret ∧ fr' 2 = (vB q) ∧ True))) fr m := by
 intro n
 induction n with
 | zero => intro N z0 z e m k fr x0 x3 hz st h0 h3 r hr; cases (show (none : Option _) = some r from hr)
 | succ n ih =>
  intro N z0 z e m k fr x0 x3 hz st h0 h3 r hr
  unfold r06_Name_0 at hr
  refine W.loop1 ?_
  refine W.seq (W.seq (W.region ?_))
  refine sx rfl (pMove (v := (vI x3)) rfl h3) ?_
  refine sx rfl (pMove (v := (str x0)) rfl h0) ?_
  refine sx rfl (pLenS (s := x0) rfl rfl Try.underlying9 rfl) ?_
  refine sx rfl (pLss (k := .i64) (a := x3) (b := (x0.length : Int)) rfl rfl rfl) ?_
  refine SeqW.done fun fr5 hf6 => ?_
  have h0 := (congrFun hf6 0).trans h0
  have h3 := (congrFun hf6 3).trans h3
  have h7 : fr5 7 = (vB (decide (x3 < (x0.length : Int)))) := (congrFun hf6 7).trans rfl
  clear hf6
  refine thenQ.n ?_
  rcases if_some hr with ⟨hc7, hr⟩ | ⟨hc46, hr⟩
  ·refine W.condT h7 hc7 (W.skip ?_)
   refine thenQ.n (W.seq ?_)
   refine W.block ?_
   refine W.seq ?_
   obtain ⟨y32, hy32, hr⟩ := bind_some hr
   refine W.keep (u_r06_Name_1 (Zx.refl _) st h0 h3 hy32) ?_
   rintro ex38 fr33 m34 hk36 ⟨z35, hz37, st, rfl, h32, -⟩
   have h0 := (hk36 0 rfl).trans h0
   have h3 := (hk36 3 rfl).trans h3
   replace hz := hz.trans hz37
   clear hk36
   refine thenQ.n ?_
   rcases if_some hr with ⟨hc39, hr⟩ | ⟨hc42, hr⟩
   ·refine W.condT h32 hc39 (W.seq (W.region ?_))
    refine sx rfl (pAssign (v := (vB false)) rfl rfl) ?_
    refine SeqW.done fun fr40 hf41 => ?_
    have h2 : fr40 2 = (vB false) := (congrFun hf41 2).trans rfl
    clear hf41
    refine thenQ.n ?_
    refine W.ret ?_
    refine blockQ.r ?_
    refine thenQ.r ?_
    refine thenQ.r ?_
    obtain rfl := Option.some.inj hr
    exact ⟨z35, hz, st, .inr ⟨_, rfl, rfl, h2, trivial⟩⟩
   ·refine W.condF h32 hc42 (W.skip ?_)
    refine blockQ.n ?_
    refine thenQ.n (W.region ?_)
    refine sx rfl (pMove (v := (vI x3)) rfl h3) ?_
    refine sx rfl (pAdd (k := .i64) (a := x3) (b := 1) rfl rfl rfl) ?_
    obtain ⟨y43, hy43, hr⟩ := lt_some hr
    refine sx rfl (pAssign rfl (congrArg (Value.int .i64) hy43)) ?_
    refine SeqW.done fun fr44 hf45 => ?_
    have h0 := (congrFun hf45 0).trans h0
    have h3 : fr44 3 = (vI y43) := (congrFun hf45 3).trans rfl
    clear hf45
    refine thenQ.n ?_
    exact ih hz st h0 h3 hr
  ·refine W.condF h7 hc46 ?_
   refine W.exit ?_
   refine thenQ.x ?_
   refine thenQ.x ?_
   obtain rfl := Option.some.inj hr
   exact ⟨z, hz, st, .inl ⟨_, rfl, rfl, trivial⟩⟩

theorem u_r06_Name_2 {N : Nat}  {z0 z : Nat → Blk} {e m : Mem} {k : Option Nat} {fr : Nat → Value} {x0 : List UInt8} (hz : Zx e.next z0 z) (st : St z e m k) (h0 : fr 0 = (str x0)) {r : Bool} (hr : r06_Name_2 N x0 = some r) : W Try.prog (sub (bodyOf Try.f47) [1, 1, 0]) (fun ex fr' m' => ∃ z', Zx e.next z0 z' ∧ St z' e m' k ∧ ex = AExit.normal ∧ fr' 2 = (vB r) ∧ True) fr m := by
 unfold r06_Name_2 at hr
 refine W.region ?_
 refine sx rfl (pMove (v := (str x0)) rfl h0) ?_
 refine sx rfl (pLenS (s := x0) rfl rfl Try.underlying9 rfl) ?_
 refine sx rfl (pGeq (k := .i64) (a := (x0.length : Int)) (b := 1) rfl rfl rfl) ?_
 refine sx rfl (pMove (v := (vB (decide (1 ≤ (x0.length : Int))))) rfl rfl) ?_
 rcases if_some hr with ⟨hc55, hr⟩ | ⟨hc59, hr⟩
 ·refine SeqW.consG rfl rfl rfl hc55 (StepX.pure (pMove (v := (str x0)) rfl h0) ?_)
  refine SeqW.consG rfl rfl rfl hc55 (StepX.pure (pLenS (s := x0) rfl rfl Try.underlying9 rfl) ?_)
  refine SeqW.consG rfl rfl rfl hc55 (StepX.pure (pLeq (k := .i64) (a := (x0.length : Int)) (b := 12) rfl rfl rfl) ?_)
  refine sx rfl (pPick (t := true) (v := (vB (decide ((x0.length : Int) ≤ 12)))) rfl ((congrArg vB hc55)) rfl) ?_
  obtain ⟨y56, hy56, hr⟩ := lt_some hr
  refine sx rfl (pAssign rfl (congrArg vB hy56)) ?_
  refine SeqW.done fun fr57 hf58 => ?_
  have h2 : fr57 2 = (vB y56) := (congrFun hf58 2).trans rfl
  clear hf58
  obtain rfl := Option.some.inj hr
  exact ⟨z, hz, st, rfl, h2, trivial⟩
 ·refine kx rfl rfl rfl hc59 ?_
  iterate 2 refine kx rfl rfl rfl hc59 ?_
  refine sx rfl (pPick (t := false) (v := (vB false)) rfl ((congrArg vB hc59)) rfl) ?_
  refine sx rfl (pAssign (v := (vB false)) rfl rfl) ?_
  refine SeqW.done fun fr60 hf61 => ?_
  have h2 : fr60 2 = (vB false) := (congrFun hf61 2).trans rfl
  clear hf61
  obtain rfl := Option.some.inj hr
  exact ⟨z, hz, st, rfl, h2, trivial⟩

theorem u_r06_Name {N : Nat}  {z0 z : Nat → Blk} {e m : Mem} {k : Option Nat} {fr : Nat → Value} {x0 : List UInt8} (hz : Zx e.next z0 z) (st : St z e m k) (h0 : fr 0 = (str x0)) {r : Bool} (hr : r06_Name N x0 = some r) : W Try.prog (sub (bodyOf Try.f47) []) (fun ex fr' m' => ∃ z', Zx e.next z0 z' ∧ St z' e m' k ∧ (ex = .normal ∨ ex = .ret) ∧ fr' 2 = (vB r) ∧ True) fr m := by
 unfold r06_Name at hr
 refine W.seq (W.region ?_)
 refine sx rfl (pAssign (v := (vB false)) rfl rfl) ?_
 refine SeqW.done fun fr1 hf2 => ?_
 have h0 := (congrFun hf2 0).trans h0
 clear hf2
 refine thenQ.n (W.seq ?_)
 refine W.seq (W.region ?_)
 refine sx rfl (pAssign (v := (vI 0)) rfl rfl) ?_
 refine SeqW.done fun fr3 hf4 => ?_
 have h0 := (congrFun hf4 0).trans h0
 have h3 : fr3 3 = (vI 0) := (congrFun hf4 3).trans rfl
 clear hf4
 refine thenQ.n ?_
 refine W.block ?_
 obtain ⟨y47, hy47, hr⟩ := bind_some hr
 refine W.keep (u_r06_Name_0 _ (Zx.refl _) st h0 h3 hy47) ?_
 rintro ex53 fr48 m49 hk51 ⟨z50, hz52, st, ⟨y54, rfl, rfl, -⟩ | ⟨y69, rfl, rfl, h2, -⟩⟩
 ·dsimp only at hr
  have h0 := (hk51 0 rfl).trans h0
  replace hz := hz.trans hz52
  clear hk51
  refine blockQ.hit ?_
  refine thenQ.n (W.seq ?_)
  obtain ⟨y62, hy62, hr⟩ := bind_some hr
  refine W.keep (u_r06_Name_2 (Zx.refl _) st h0 hy62) ?_
  rintro ex68 fr63 m64 hk66 ⟨z65, hz67, st, rfl, h2, -⟩
  replace hz := hz.trans hz67
  clear hk66
  refine thenQ.n ?_
  refine W.ret ?_
  obtain rfl := Option.some.inj hr
  exact ⟨z65, hz, st, .inr rfl, h2, trivial⟩
 ·dsimp only at hr
  replace hz := hz.trans hz52
  clear hk51
  refine blockQ.r ?_
  refine thenQ.r ?_
  obtain rfl := Option.some.inj hr
  exact ⟨z50, hz, st, .inr rfl, h2, trivial⟩

theorem c_r06_Name {N : Nat} {z : Nat → Blk} {m : Mem} {x0 : List UInt8} (fz : Fz z m) (hd : ∀ b, m.next ≤ b → m.blk b = .dead)  {r : Bool} (hr : r06_Name N x0 = some r) : CallW Try.prog 47 #[(str x0)] m fun v m' => v = (vB r) ∧ m' = m := by
 refine CallW.flat Try.func47 rfl (by kernel_rfl) (Nat.le_of_ble_eq_true rfl) rfl (z := z) (fun fr hf => ?_)
 have h0 : fr 0 = _ := hf 0 _ rfl
 refine (u_r06_Name (k := none) (Zx.refl _) (St.start fz hd) h0 hr).mono ?_
 rintro ex fr' m' ⟨z', hz, st, he, h2, -⟩
 exact ⟨he, z', st, [(vB r)], ⟨h2.symm, trivial⟩, .inl rfl, rfl⟩

/-! ### humpyard/humpyardref06.Valid -/

theorem u_r06_Valid_0 {N : Nat}  {z0 z : Nat → Blk} {e m : Mem} {k : Option Nat} {fr : Nat → Value} {x5 : Int} {x6 : Int} {x16 : Int} {x1 : Wagon} {b1 : Nat} (hz : Zx e.next z0 z) (st : St z e m k) (h1 : fr 1 = (vP b1)) (bx1 : Bx z e m k b1 [(str x1.number), (vI x1.length), (vI x1.axles), (vI x1.mass), (vI x1.brake), (vI x1.goods), (vB x1.gentle), (str x1.dest)] 30) (h5 : fr 5 = (vI x5)) (h6 : fr 6 = (vI x6)) (h16 : fr 16 = (vI x16)) {r : Int × Int} (hr : r06_Valid_0 N x5 x6 x16 = some r) : W Try.prog (sub (bodyOf Try.f37) [1, 1, 1, 1, 0, 1]) (fun ex fr' m' => ∃ z', Zx e.next z0 z' ∧ St z' e m' k ∧ ex = AExit.normal ∧ fr' 5 = (vI r.1) ∧ fr' 6 = (vI r.2) ∧ Bx z' e m' k b1 [(str x1.number), (vI x1.length), (vI x1.axles), (vI x1.mass), (vI x1.brake), (vI x1.goods), (vB x1.gentle), (str x1.dest)] 30 ∧ True) fr m := by
 unfold r06_Valid_0 at hr
 refine W.block ?_
 refine W.seq (W.region ?_)
 refine sx rfl (pEql (k := .i64) (a := x16) (b := 2) rfl h16 rfl) ?_
 obtain ⟨y22, hy22, hr⟩ := lt_some hr
 refine sx rfl (pAssign rfl (congrArg vB hy22)) ?_
 refine SeqW.done fun fr23 hf24 => ?_
 have h1 := (congrFun hf24 1).trans h1
 have h5 := (congrFun hf24 5).trans h5
 have h6 := (congrFun hf24 6).trans h6
 have h16 := (congrFun hf24 16).trans h16
 have h17 : fr23 17 = (vB y22) := (congrFun hf24 17).trans rfl
 clear hf24
 refine thenQ.n ?_
 rcases if_some hr with ⟨hc25, hr⟩ | ⟨hc28, hr⟩
 ·refine W.condT h17 hc25 (W.region ?_)
  refine sx rfl (pAssign (v := (vI 2)) rfl rfl) ?_
  refine SeqW.done fun fr26 hf27 => ?_
  have h1 := (congrFun hf27 1).trans h1
  have h5 : fr26 5 = (vI 2) := (congrFun hf27 5).trans rfl
  have h6 := (congrFun hf27 6).trans h6
  clear hf27
  refine blockQ.n ?_
  obtain rfl := Option.some.inj hr
  exact ⟨z, hz, st, rfl, h5, h6, bx1, trivial⟩
 ·refine W.condF h17 hc28 (W.seq (W.region ?_))
  refine sx rfl (pEql (k := .i64) (a := x16) (b := 3) rfl h16 rfl) ?_
  obtain ⟨y29, hy29, hr⟩ := lt_some hr
  refine sx rfl (pAssign rfl (congrArg vB hy29)) ?_
  refine SeqW.done fun fr30 hf31 => ?_
  have h1 := (congrFun hf31 1).trans h1
  have h5 := (congrFun hf31 5).trans h5
  have h6 := (congrFun hf31 6).trans h6
  have h19 : fr30 19 = (vB y29) := (congrFun hf31 19).trans rfl
  clear hf31
  refine thenQ.n ?_
  rcases if_some hr with ⟨hc32, hr⟩ | ⟨hc35, hr⟩
  ·refine W.condT h19 hc32 (W.region ?_)
   refine sx rfl (pAssign (v := (vI 6)) rfl rfl) ?_
   refine sx rfl (pAssign (v := (vI 120)) rfl rfl) ?_
   refine SeqW.done fun fr33 hf34 => ?_
   have h1 := (congrFun hf34 1).trans h1
   have h5 : fr33 5 = (vI 6) := (congrFun hf34 5).trans rfl
   have h6 : fr33 6 = (vI 120) := (congrFun hf34 6).trans rfl
   clear hf34
   refine blockQ.n ?_
   obtain rfl := Option.some.inj hr
   exact ⟨z, hz, st, rfl, h5, h6, bx1, trivial⟩
  ·refine W.condF h19 hc35 (W.skip ?_)
   refine blockQ.n ?_
   obtain rfl := Option.some.inj hr
   exact ⟨z, hz, st, rfl, h5, h6, bx1, trivial⟩

theorem u_r06_Valid_1 {N : Nat}  {z0 z : Nat → Blk} {e m : Mem} {k : Option Nat} {fr : Nat → Value} {x1 : Wagon} {x6 : Int} {b1 : Nat} (hz : Zx e.next z0 z) (st : St z e m k) (h1 : fr 1 = (vP b1)) (bx1 : Bx z e m k b1 [(str x1.number), (vI x1.length), (vI x1.axles), (vI x1.mass), (vI x1.brake), (vI x1.goods), (vB x1.gentle), (str x1.dest)] 30) (h6 : fr 6 = (vI x6)) {r : Bool} (hr : r06_Valid_1 N x1 x6 = some r) : W Try.prog (sub (bodyOf Try.f37) [1, 1, 1, 1, 1, 0, 0, 1, 1, 0]) (fun ex fr' m' => ∃ z', Zx e.next z0 z' ∧ St z' e m' k ∧ ex = AExit.normal ∧ fr' 26 = (vB r) ∧ Bx z' e m' k b1 [(str x1.number), (vI x1.length), (vI x1.axles), (vI x1.mass), (vI x1.brake), (vI x1.goods), (vB x1.gentle), (str x1.dest)] 30 ∧ True) fr m := by
 unfold r06_Valid_1 at hr
 refine W.region ?_
 refine SeqW.consX rfl (kField rfl Try.underlying30 rfl Try.type3 rfl h1 rfl ?_)
 refine SeqW.consX rfl (kLoad rfl Try.underlying3 rfl rfl (bx1.load (v := (vI x1.length)) rfl) ?_)
 refine sx rfl (pMove (v := (vI x6)) rfl h6) ?_
 refine sx rfl (pLss (k := .i64) (a := x1.length) (b := x6) rfl rfl rfl) ?_
 refine sx rfl (pMove (v := (vB (decide (x1.length < x6)))) rfl rfl) ?_
 rcases if_some hr with ⟨hc51, hr⟩ | ⟨hc54, hr⟩
 ·refine kx rfl rfl rfl hc51 ?_
  iterate 2 refine kx rfl rfl rfl hc51 ?_
  refine sx rfl (pPick (t := true) (v := (vB true)) rfl ((congrArg vB hc51)) rfl) ?_
  refine sx rfl (pMove (v := (vB true)) rfl rfl) ?_
  iterate 3 refine kx rfl rfl rfl rfl ?_
  refine sx rfl (pPick (t := true) (v := (vB true)) rfl ((congrArg vB (rfl : true = true))) rfl) ?_
  refine sx rfl (pMove (v := (vB true)) rfl rfl) ?_
  iterate 3 refine kx rfl rfl rfl rfl ?_
  refine sx rfl (pPick (t := true) (v := (vB true)) rfl ((congrArg vB (rfl : true = true))) rfl) ?_
  refine sx rfl (pMove (v := (vB true)) rfl rfl) ?_
  iterate 3 refine kx rfl rfl rfl rfl ?_
  refine sx rfl (pPick (t := true) (v := (vB true)) rfl ((congrArg vB (rfl : true = true))) rfl) ?_
  refine sx rfl (pMove (v := (vB true)) rfl rfl) ?_
  iterate 5 refine kx rfl rfl rfl rfl ?_
  refine sx rfl (pPick (t := true) (v := (vB true)) rfl ((congrArg vB (rfl : true = true))) rfl) ?_
  refine sx rfl (pMove (v := (vB true)) rfl rfl) ?_
  iterate 3 refine kx rfl rfl rfl rfl ?_
  refine sx rfl (pPick (t := true) (v := (vB true)) rfl ((congrArg vB (rfl : true = true))) rfl) ?_
  refine sx rfl (pMove (v := (vB true)) rfl rfl) ?_
  iterate 3 refine kx rfl rfl rfl rfl ?_
  refine sx rfl (pPick (t := true) (v := (vB true)) rfl ((congrArg vB (rfl : true = true))) rfl) ?_
  refine sx rfl (pAssign (v := (vB true)) rfl rfl) ?_
  refine SeqW.done fun fr52 hf53 => ?_
  have h1 := (congrFun hf53 1).trans h1
  have h26 : fr52 26 = (vB true) := (congrFun hf53 26).trans rfl
  clear hf53
  obtain rfl := Option.some.inj hr
  exact ⟨z, hz, st, rfl, h26, bx1, trivial⟩
 ·refine SeqW.consG rfl rfl rfl hc54 (kField rfl Try.underlying30 rfl Try.type3 rfl h1 rfl ?_)
  refine SeqW.consG rfl rfl rfl hc54 (kLoad rfl Try.underlying3 rfl rfl (bx1.load (v := (vI x1.length)) rfl) ?_)
  refine SeqW.consG rfl rfl rfl hc54 (StepX.pure (pGtr (k := .i64) (a := x1.length) (b := 400) rfl rfl rfl) ?_)
  refine sx rfl (pPick (t := false) (v := (vB (decide (400 < x1.length)))) rfl ((congrArg vB hc54)) rfl) ?_
  refine sx rfl (pMove (v := (vB (decide (400 < x1.length)))) rfl rfl) ?_
  rcases if_some hr with ⟨hc55, hr⟩ | ⟨hc58, hr⟩
  ·refine kx rfl rfl rfl hc55 ?_
   iterate 2 refine kx rfl rfl rfl hc55 ?_
   refine sx rfl (pPick (t := true) (v := (vB true)) rfl ((congrArg vB hc55)) rfl) ?_
   refine sx rfl (pMove (v := (vB true)) rfl rfl) ?_
   iterate 3 refine kx rfl rfl rfl rfl ?_
   refine sx rfl (pPick (t := true) (v := (vB true)) rfl ((congrArg vB (rfl : true = true))) rfl) ?_
   refine sx rfl (pMove (v := (vB true)) rfl rfl) ?_
   iterate 3 refine kx rfl rfl rfl rfl ?_
   refine sx rfl (pPick (t := true) (v := (vB true)) rfl ((congrArg vB (rfl : true = true))) rfl) ?_
   refine sx rfl (pMove (v := (vB true)) rfl rfl) ?_
   iterate 5 refine kx rfl rfl rfl rfl ?_
   refine sx rfl (pPick (t := true) (v := (vB true)) rfl ((congrArg vB (rfl : true = true))) rfl) ?_
   refine sx rfl (pMove (v := (vB true)) rfl rfl) ?_
   iterate 3 refine kx rfl rfl rfl rfl ?_
   refine sx rfl (pPick (t := true) (v := (vB true)) rfl ((congrArg vB (rfl : true = true))) rfl) ?_
   refine sx rfl (pMove (v := (vB true)) rfl rfl) ?_
   iterate 3 refine kx rfl rfl rfl rfl ?_
   refine sx rfl (pPick (t := true) (v := (vB true)) rfl ((congrArg vB (rfl : true = true))) rfl) ?_
   refine sx rfl (pAssign (v := (vB true)) rfl rfl) ?_
   refine SeqW.done fun fr56 hf57 => ?_
   have h1 := (congrFun hf57 1).trans h1
   have h26 : fr56 26 = (vB true) := (congrFun hf57 26).trans rfl
   clear hf57
   obtain rfl := Option.some.inj hr
   exact ⟨z, hz, st, rfl, h26, bx1, trivial⟩
  ·refine SeqW.consG rfl rfl rfl hc58 (kField rfl Try.underlying30 rfl Try.type3 rfl h1 rfl ?_)
   refine SeqW.consG rfl rfl rfl hc58 (kLoad rfl Try.underlying3 rfl rfl (bx1.load (v := (vI x1.mass)) rfl) ?_)
   refine SeqW.consG rfl rfl rfl hc58 (StepX.pure (pLss (k := .i64) (a := x1.mass) (b := 50) rfl rfl rfl) ?_)
   refine sx rfl (pPick (t := false) (v := (vB (decide (x1.mass < 50)))) rfl ((congrArg vB hc58)) rfl) ?_
   refine sx rfl (pMove (v := (vB (decide (x1.mass < 50)))) rfl rfl) ?_
   rcases if_some hr with ⟨hc59, hr⟩ | ⟨hc62, hr⟩
   ·refine kx rfl rfl rfl hc59 ?_
    iterate 2 refine kx rfl rfl rfl hc59 ?_
    refine sx rfl (pPick (t := true) (v := (vB true)) rfl ((congrArg vB hc59)) rfl) ?_
    refine sx rfl (pMove (v := (vB true)) rfl rfl) ?_
    iterate 3 refine kx rfl rfl rfl rfl ?_
    refine sx rfl (pPick (t := true) (v := (vB true)) rfl ((congrArg vB (rfl : true = true))) rfl) ?_
    refine sx rfl (pMove (v := (vB true)) rfl rfl) ?_
    iterate 5 refine kx rfl rfl rfl rfl ?_
    refine sx rfl (pPick (t := true) (v := (vB true)) rfl ((congrArg vB (rfl : true = true))) rfl) ?_
    refine sx rfl (pMove (v := (vB true)) rfl rfl) ?_
    iterate 3 refine kx rfl rfl rfl rfl ?_
    refine sx rfl (pPick (t := true) (v := (vB true)) rfl ((congrArg vB (rfl : true = true))) rfl) ?_
    refine sx rfl (pMove (v := (vB true)) rfl rfl) ?_
    iterate 3 refine kx rfl rfl rfl rfl ?_
    refine sx rfl (pPick (t := true) (v := (vB true)) rfl ((congrArg vB (rfl : true = true))) rfl) ?_
    refine sx rfl (pAssign (v := (vB true)) rfl rfl) ?_
    refine SeqW.done fun fr60 hf61 => ?_
    have h1 := (congrFun hf61 1).trans h1
    have h26 : fr60 26 = (vB true) := (congrFun hf61 26).trans rfl
    clear hf61
    obtain rfl := Option.some.inj hr
    exact ⟨z, hz, st, rfl, h26, bx1, trivial⟩
   ·refine SeqW.consG rfl rfl rfl hc62 (kField rfl Try.underlying30 rfl Try.type3 rfl h1 rfl ?_)
    refine SeqW.consG rfl rfl rfl hc62 (kLoad rfl Try.underlying3 rfl rfl (bx1.load (v := (vI x1.mass)) rfl) ?_)
    refine SeqW.consG rfl rfl rfl hc62 (StepX.pure (pGtr (k := .i64) (a := x1.mass) (b := 2000) rfl rfl rfl) ?_)
    refine sx rfl (pPick (t := false) (v := (vB (decide (2000 < x1.mass)))) rfl ((congrArg vB hc62)) rfl) ?_
    refine sx rfl (pMove (v := (vB (decide (2000 < x1.mass)))) rfl rfl) ?_
    rcases if_some hr with ⟨hc63, hr⟩ | ⟨hc66, hr⟩
    ·refine kx rfl rfl rfl hc63 ?_
     iterate 2 refine kx rfl rfl rfl hc63 ?_
     refine sx rfl (pPick (t := true) (v := (vB true)) rfl ((congrArg vB hc63)) rfl) ?_
     refine sx rfl (pMove (v := (vB true)) rfl rfl) ?_
     iterate 5 refine kx rfl rfl rfl rfl ?_
     refine sx rfl (pPick (t := true) (v := (vB true)) rfl ((congrArg vB (rfl : true = true))) rfl) ?_
     refine sx rfl (pMove (v := (vB true)) rfl rfl) ?_
     iterate 3 refine kx rfl rfl rfl rfl ?_
     refine sx rfl (pPick (t := true) (v := (vB true)) rfl ((congrArg vB (rfl : true = true))) rfl) ?_
     refine sx rfl (pMove (v := (vB true)) rfl rfl) ?_
     iterate 3 refine kx rfl rfl rfl rfl ?_
     refine sx rfl (pPick (t := true) (v := (vB true)) rfl ((congrArg vB (rfl : true = true))) rfl) ?_
     refine sx rfl (pAssign (v := (vB true)) rfl rfl) ?_
     refine SeqW.done fun fr64 hf65 => ?_
     have h1 := (congrFun hf65 1).trans h1
     have h26 : fr64 26 = (vB true) := (congrFun hf65 26).trans rfl
     clear hf65
     obtain rfl := Option.some.inj hr
     exact ⟨z, hz, st, rfl, h26, bx1, trivial⟩
    ·refine SeqW.consG rfl rfl rfl hc66 (kField rfl Try.underlying30 rfl Try.type3 rfl h1 rfl ?_)
     refine SeqW.consG rfl rfl rfl hc66 (kLoad rfl Try.underlying3 rfl rfl (bx1.load (v := (vI x1.brake)) rfl) ?_)
     refine SeqW.consG rfl rfl rfl hc66 (StepX.pure (pLss (k := .i64) (a := x1.brake) (b := 0) rfl rfl rfl) ?_)
     refine sx rfl (pPick (t := false) (v := (vB (decide (x1.brake < 0)))) rfl ((congrArg vB hc66)) rfl) ?_
     refine sx rfl (pMove (v := (vB (decide (x1.brake < 0)))) rfl rfl) ?_
     rcases if_some hr with ⟨hc67, hr⟩ | ⟨hc70, hr⟩
     ·refine kx rfl rfl rfl hc67 ?_
      iterate 4 refine kx rfl rfl rfl hc67 ?_
      refine sx rfl (pPick (t := true) (v := (vB true)) rfl ((congrArg vB hc67)) rfl) ?_
      refine sx rfl (pMove (v := (vB true)) rfl rfl) ?_
      iterate 3 refine kx rfl rfl rfl rfl ?_
      refine sx rfl (pPick (t := true) (v := (vB true)) rfl ((congrArg vB (rfl : true = true))) rfl) ?_
      refine sx rfl (pMove (v := (vB true)) rfl rfl) ?_
      iterate 3 refine kx rfl rfl rfl rfl ?_
      refine sx rfl (pPick (t := true) (v := (vB true)) rfl ((congrArg vB (rfl : true = true))) rfl) ?_
      refine sx rfl (pAssign (v := (vB true)) rfl rfl) ?_
      refine SeqW.done fun fr68 hf69 => ?_
      have h1 := (congrFun hf69 1).trans h1
      have h26 : fr68 26 = (vB true) := (congrFun hf69 26).trans rfl
      clear hf69
      obtain rfl := Option.some.inj hr
      exact ⟨z, hz, st, rfl, h26, bx1, trivial⟩
     ·refine SeqW.consG rfl rfl rfl hc70 (kField rfl Try.underlying30 rfl Try.type3 rfl h1 rfl ?_)
      refine SeqW.consG rfl rfl rfl hc70 (kLoad rfl Try.underlying3 rfl rfl (bx1.load (v := (vI x1.brake)) rfl) ?_)
      refine SeqW.consG rfl rfl rfl hc70 (kField rfl Try.underlying30 rfl Try.type3 rfl h1 rfl ?_)
      refine SeqW.consG rfl rfl rfl hc70 (kLoad rfl Try.underlying3 rfl rfl (bx1.load (v := (vI x1.mass)) rfl) ?_)
      refine SeqW.consG rfl rfl rfl hc70 (StepX.pure (pGtr (k := .i64) (a := x1.brake) (b := x1.mass) rfl rfl rfl) ?_)
      refine sx rfl (pPick (t := false) (v := (vB (decide (x1.mass < x1.brake)))) rfl ((congrArg vB hc70)) rfl) ?_
      refine sx rfl (pMove (v := (vB (decide (x1.mass < x1.brake)))) rfl rfl) ?_
      rcases if_some hr with ⟨hc71, hr⟩ | ⟨hc74, hr⟩
      ·refine kx rfl rfl rfl hc71 ?_
       iterate 2 refine kx rfl rfl rfl hc71 ?_
       refine sx rfl (pPick (t := true) (v := (vB true)) rfl ((congrArg vB hc71)) rfl) ?_
       refine sx rfl (pMove (v := (vB true)) rfl rfl) ?_
       iterate 3 refine kx rfl rfl rfl rfl ?_
       refine sx rfl (pPick (t := true) (v := (vB true)) rfl ((congrArg vB (rfl : true = true))) rfl) ?_
       refine sx rfl (pAssign (v := (vB true)) rfl rfl) ?_
       refine SeqW.done fun fr72 hf73 => ?_
       have h1 := (congrFun hf73 1).trans h1
       have h26 : fr72 26 = (vB true) := (congrFun hf73 26).trans rfl
       clear hf73
       obtain rfl := Option.some.inj hr
       exact ⟨z, hz, st, rfl, h26, bx1, trivial⟩
      ·refine SeqW.consG rfl rfl rfl hc74 (kField rfl Try.underlying30 rfl Try.type3 rfl h1 rfl ?_)
       refine SeqW.consG rfl rfl rfl hc74 (kLoad rfl Try.underlying3 rfl rfl (bx1.load (v := (vI x1.goods)) rfl) ?_)
       refine SeqW.consG rfl rfl rfl hc74 (StepX.pure (pLss (k := .i64) (a := x1.goods) (b := 0) rfl rfl rfl) ?_)
       refine sx rfl (pPick (t := false) (v := (vB (decide (x1.goods < 0)))) rfl ((congrArg vB hc74)) rfl) ?_
       refine sx rfl (pMove (v := (vB (decide (x1.goods < 0)))) rfl rfl) ?_
       rcases if_some hr with ⟨hc75, hr⟩ | ⟨hc78, hr⟩
       ·refine kx rfl rfl rfl hc75 ?_
        iterate 2 refine kx rfl rfl rfl hc75 ?_
        refine sx rfl (pPick (t := true) (v := (vB true)) rfl ((congrArg vB hc75)) rfl) ?_
        refine sx rfl (pAssign (v := (vB true)) rfl rfl) ?_
        refine SeqW.done fun fr76 hf77 => ?_
        have h1 := (congrFun hf77 1).trans h1
        have h26 : fr76 26 = (vB true) := (congrFun hf77 26).trans rfl
        clear hf77
        obtain rfl := Option.some.inj hr
        exact ⟨z, hz, st, rfl, h26, bx1, trivial⟩
       ·refine SeqW.consG rfl rfl rfl hc78 (kField rfl Try.underlying30 rfl Try.type3 rfl h1 rfl ?_)
        refine SeqW.consG rfl rfl rfl hc78 (kLoad rfl Try.underlying3 rfl rfl (bx1.load (v := (vI x1.goods)) rfl) ?_)
        refine SeqW.consG rfl rfl rfl hc78 (StepX.pure (pGtr (k := .i64) (a := x1.goods) (b := 9) rfl rfl rfl) ?_)
        refine sx rfl (pPick (t := false) (v := (vB (decide (9 < x1.goods)))) rfl ((congrArg vB hc78)) rfl) ?_
        obtain ⟨y79, hy79, hr⟩ := lt_some hr
        refine sx rfl (pAssign rfl (congrArg vB hy79)) ?_
        refine SeqW.done fun fr80 hf81 => ?_
        have h1 := (congrFun hf81 1).trans h1
        have h26 : fr80 26 = (vB y79) := (congrFun hf81 26).trans rfl
        clear hf81
        obtain rfl := Option.some.inj hr
        exact ⟨z, hz, st, rfl, h26, bx1, trivial⟩

theorem u_r06_Valid {N : Nat}  {z0 z : Nat → Blk} {e m : Mem} {k : Option Nat} {fr : Nat → Value} {x0 : Wagon} (hz : Zx e.next z0 z) (st : St z e m k) (h0 : fr 0 = (Value.agg [(str x0.number), (vI x0.length), (vI x0.axles), (vI x0.mass), (vI x0.brake), (vI x0.goods), (vB x0.gentle), (str x0.dest)].toArray)) {r : Int} (hr : r06_Valid N x0 = some r) : W Try.prog (sub (bodyOf Try.f37) []) (fun ex fr' m' => ∃ z', Zx e.next z0 z' ∧ St z' e m' k ∧ (ex = .normal ∨ ex = .ret) ∧ fr' 2 = (vI r) ∧ True) fr m := by
 unfold r06_Valid at hr
 refine W.seq (W.region ?_)
 refine SeqW.consX rfl (kBox (v := (Value.agg [(str x0.number), (vI x0.length), (vI x0.axles), (vI x0.mass), (vI x0.brake), (vI x0.goods), (vB x0.gentle), (str x0.dest)].toArray)) rfl Try.type30 h0 rfl [(str x0.number), (vI x0.length), (vI x0.axles), (vI x0.mass), (vI x0.brake), (vI x0.goods), (vB x0.gentle), (str x0.dest)] rfl rfl st ?_)
 intro B1 m2 st X3 sm4 hap5
 refine sx rfl (pAssign (v := (vI 0)) rfl rfl) ?_
 refine SeqW.done fun fr7 hf8 => ?_
 have h1 : fr7 1 = (vP B1) := (congrFun hf8 1).trans rfl
 clear hf8
 refine thenQ.n (W.seq (W.region ?_))
 refine SeqW.consX rfl (kField rfl Try.underlying30 rfl Try.type9 rfl h1 rfl ?_)
 refine SeqW.consX rfl (kLoad rfl Try.underlying9 rfl rfl (X3.load (v := (str x0.number)) rfl) ?_)
 obtain ⟨y9, hy9, hr⟩ := bind_some hr
 refine SeqW.consX rfl (StepX.call (gCallee rfl rfl (args1 rfl)) ((c_r02_Kind (z := z) st.fz st.dead  hy9).mono ?_))
 rintro _ _ ⟨rfl, rfl⟩
 refine sx rfl (pMove (v := (Value.tuple [(vI y9.1), (vI y9.2)].toArray)) rfl rfl) ?_
 refine sx rfl (pExtract (vs := [(vI y9.1), (vI y9.2)]) (v := (vI y9.1)) rfl rfl rfl) ?_
 refine sx rfl (pExtract (vs := [(vI y9.1), (vI y9.2)]) (v := (vI y9.2)) rfl rfl rfl) ?_
 refine sx rfl (pAssign (v := (vI y9.1)) rfl rfl) ?_
 refine sx rfl (pAssign (v := (vI y9.2)) rfl rfl) ?_
 refine SeqW.done fun fr10 hf11 => ?_
 have h1 := (congrFun hf11 1).trans h1
 have h3 : fr10 3 = (vI y9.1) := (congrFun hf11 3).trans rfl
 have h4 : fr10 4 = (vI y9.2) := (congrFun hf11 4).trans rfl
 clear hf11
 refine thenQ.n (W.seq ?_)
 refine W.seq (W.region ?_)
 refine sx rfl (pMove (v := (vI y9.2)) rfl h4) ?_
 refine sx rfl (pNeq (k := .i64) (a := y9.2) (b := 0) rfl rfl rfl) ?_
 refine SeqW.done fun fr12 hf13 => ?_
 have h1 := (congrFun hf13 1).trans h1
 have h3 := (congrFun hf13 3).trans h3
 have h4 := (congrFun hf13 4).trans h4
 have h14 : fr12 14 = (vB (y9.2 != 0)) := (congrFun hf13 14).trans rfl
 clear hf13
 refine thenQ.n ?_
 rcases if_some hr with ⟨hc14, hr⟩ | ⟨hc17, hr⟩
 ·refine W.condT h14 hc14 (W.seq (W.region ?_))
  refine sx rfl (pMove (v := (vI y9.2)) rfl h4) ?_
  refine sx rfl (pAssign (v := (vI y9.2)) rfl rfl) ?_
  refine SeqW.done fun fr15 hf16 => ?_
  have h2 : fr15 2 = (vI y9.2) := (congrFun hf16 2).trans rfl
  clear hf16
  refine thenQ.n ?_
  refine W.ret ?_
  refine thenQ.r ?_
  obtain rfl := Option.some.inj hr
  exact ⟨z, hz, st, .inr rfl, h2, trivial⟩
 ·refine W.condF h14 hc17 (W.skip ?_)
  refine thenQ.n (W.seq (W.region ?_))
  refine sx rfl (pAssign (v := (vI 4)) rfl rfl) ?_
  refine sx rfl (pAssign (v := (vI 80)) rfl rfl) ?_
  refine SeqW.done fun fr18 hf19 => ?_
  have h1 := (congrFun hf19 1).trans h1
  have h3 := (congrFun hf19 3).trans h3
  have h5 : fr18 5 = (vI 4) := (congrFun hf19 5).trans rfl
  have h6 : fr18 6 = (vI 80) := (congrFun hf19 6).trans rfl
  clear hf19
  refine thenQ.n (W.seq ?_)
  refine W.seq (W.region ?_)
  refine sx rfl (pMove (v := (vI y9.1)) rfl h3) ?_
  refine SeqW.done fun fr20 hf21 => ?_
  have h1 := (congrFun hf21 1).trans h1
  have h5 := (congrFun hf21 5).trans h5
  have h6 := (congrFun hf21 6).trans h6
  have h16 : fr20 16 = (vI y9.1) := (congrFun hf21 16).trans rfl
  clear hf21
  refine thenQ.n ?_
  obtain ⟨y36, hy36, hr⟩ := bind_some hr
  refine W.keep (u_r06_Valid_0 (x1 := x0) (Zx.refl _) st h1 X3 h5 h6 h16 hy36) ?_
  rintro ex42 fr37 m38 hk40 ⟨z39, hz41, st, rfl, h5, h6, O43, -⟩
  have h1 := (hk40 1 rfl).trans h1
  replace hz := hz.trans hz41
  clear hk40
  refine thenQ.n (W.seq ?_)
  refine W.block ?_
  refine W.seq (W.region ?_)
  refine SeqW.consX rfl (kField rfl Try.underlying30 rfl Try.type3 rfl h1 rfl ?_)
  refine SeqW.consX rfl (kLoad rfl Try.underlying3 rfl rfl (O43.load (v := (vI x0.axles)) rfl) ?_)
  refine sx rfl (pMove (v := (vI y36.1)) rfl h5) ?_
  refine sx rfl (pNeq (k := .i64) (a := x0.axles) (b := y36.1) rfl rfl rfl) ?_
  obtain ⟨y44, hy44, hr⟩ := lt_some hr
  refine sx rfl (pAssign rfl (congrArg vB hy44)) ?_
  refine SeqW.done fun fr45 hf46 => ?_
  have h1 := (congrFun hf46 1).trans h1
  have h6 := (congrFun hf46 6).trans h6
  have h21 : fr45 21 = (vB y44) := (congrFun hf46 21).trans rfl
  clear hf46
  refine thenQ.n ?_
  rcases if_some hr with ⟨hc47, hr⟩ | ⟨hc50, hr⟩
  ·refine W.condT h21 hc47 (W.seq (W.region ?_))
   refine sx rfl (pAssign (v := (vI 1)) rfl rfl) ?_
   refine SeqW.done fun fr48 hf49 => ?_
   have h2 : fr48 2 = (vI 1) := (congrFun hf49 2).trans rfl
   clear hf49
   refine thenQ.n ?_
   refine W.ret ?_
   refine blockQ.r ?_
   refine thenQ.r ?_
   obtain rfl := Option.some.inj hr
   exact ⟨z39, hz, st, .inr rfl, h2, trivial⟩
  ·refine W.condF h21 hc50 (W.seq ?_)
   obtain ⟨y82, hy82, hr⟩ := bind_some hr
   refine W.keep (u_r06_Valid_1 (x1 := x0) (Zx.refl _) st h1 O43 h6 hy82) ?_
   rintro ex88 fr83 m84 hk86 ⟨z85, hz87, st, rfl, h26, O89, -⟩
   have h1 := (hk86 1 rfl).trans h1
   replace hz := hz.trans hz87
   clear hk86
   refine thenQ.n ?_
   rcases if_some hr with ⟨hc90, hr⟩ | ⟨hc93, hr⟩
   ·refine W.condT h26 hc90 (W.seq (W.region ?_))
    refine sx rfl (pAssign (v := (vI 2)) rfl rfl) ?_
    refine SeqW.done fun fr91 hf92 => ?_
    have h2 : fr91 2 = (vI 2) := (congrFun hf92 2).trans rfl
    clear hf92
    refine thenQ.n ?_
    refine W.ret ?_
    refine blockQ.r ?_
    refine thenQ.r ?_
    obtain rfl := Option.some.inj hr
    exact ⟨z85, hz, st, .inr rfl, h2, trivial⟩
   ·refine W.condF h26 hc93 (W.seq (W.region ?_))
    refine SeqW.consX rfl (kField rfl Try.underlying30 rfl Try.type9 rfl h1 rfl ?_)
    refine SeqW.consX rfl (kLoad rfl Try.underlying9 rfl rfl (O89.load (v := (str x0.dest)) rfl) ?_)
    obtain ⟨y94, hy94, hr⟩ := bind_some hr
    refine SeqW.consX rfl (StepX.call (gCallee rfl rfl (args1 rfl)) ((c_r06_Name (z := z85) st.fz st.dead  hy94).mono ?_))
    rintro _ _ ⟨rfl, rfl⟩
    refine sx rfl (pNot (b := y94) rfl rfl) ?_
    obtain ⟨y95, hy95, hr⟩ := lt_some hr
    refine sx rfl (pAssign rfl (congrArg vB hy95)) ?_
    refine SeqW.done fun fr96 hf97 => ?_
    have h68 : fr96 68 = (vB y95) := (congrFun hf97 68).trans rfl
    clear hf97
    refine thenQ.n ?_
    rcases if_some hr with ⟨hc98, hr⟩ | ⟨hc101, hr⟩
    ·refine W.condT h68 hc98 (W.seq (W.region ?_))
     refine sx rfl (pAssign (v := (vI 7)) rfl rfl) ?_
     refine SeqW.done fun fr99 hf100 => ?_
     have h2 : fr99 2 = (vI 7) := (congrFun hf100 2).trans rfl
     clear hf100
     refine thenQ.n ?_
     refine W.ret ?_
     refine blockQ.r ?_
     refine thenQ.r ?_
     obtain rfl := Option.some.inj hr
     exact ⟨z85, hz, st, .inr rfl, h2, trivial⟩
    ·refine W.condF h68 hc101 (W.skip ?_)
     refine blockQ.n ?_
     refine thenQ.n (W.seq (W.region ?_))
     refine sx rfl (pAssign (v := (vI 0)) rfl rfl) ?_
     refine SeqW.done fun fr102 hf103 => ?_
     have h2 : fr102 2 = (vI 0) := (congrFun hf103 2).trans rfl
     clear hf103
     refine thenQ.n ?_
     refine W.ret ?_
     obtain rfl := Option.some.inj hr
     exact ⟨z85, hz, st, .inr rfl, h2, trivial⟩

theorem c_r06_Valid {N : Nat} {z : Nat → Blk} {m : Mem} {x0 : Wagon} (fz : Fz z m) (hd : ∀ b, m.next ≤ b → m.blk b = .dead)  {r : Int} (hr : r06_Valid N x0 = some r) : CallW Try.prog 37 #[(Value.agg [(str x0.number), (vI x0.length), (vI x0.axles), (vI x0.mass), (vI x0.brake), (vI x0.goods), (vB x0.gentle), (str x0.dest)].toArray)] m fun v m' => v = (vI r) ∧ m' = m := by
 refine CallW.flat Try.func37 rfl (by kernel_rfl) (Nat.le_of_ble_eq_true rfl) rfl (z := z) (fun fr hf => ?_)
 have h0 : fr 0 = _ := hf 0 _ rfl
 refine (u_r06_Valid (k := none) (Zx.refl _) (St.start fz hd) h0 hr).mono ?_
 rintro ex fr' m' ⟨z', hz, st, he, h2, -⟩
 exact ⟨he, z', st, [(vI r)], ⟨h2.symm, trivial⟩, .inl rfl, rfl⟩

/-! ### humpyard/humpyardref07.Offsets -/

theorem u_r07_Offsets {N : Nat}  {z0 z : Nat → Blk} {e m : Mem} {k : Option Nat} {fr : Nat → Value} {x0 : Wagon} (hz : Zx e.next z0 z) (st : St z e m k) (h0 : fr 0 = (Value.agg [(str x0.number), (vI x0.length), (vI x0.axles), (vI x0.mass), (vI x0.brake), (vI x0.goods), (vB x0.gentle), (str x0.dest)].toArray)) {r : List Int × Int} (hr : r07_Offsets N x0 = some r) : W Try.prog (sub (bodyOf Try.f26) []) (fun ex fr' m' => ∃ z', Zx e.next z0 z' ∧ St z' e m' k ∧ (ex = .normal ∨ ex = .ret) ∧ ∃ (w2 : Value), fr' 2 = w2 ∧ SlR (TInt 3 .i64) z' r.1 w2 ∧ fr' 3 = (vI r.2) ∧ True) fr m := by
 unfold r07_Offsets at hr
 refine W.seq (W.region ?_)
 refine SeqW.consX rfl (kBox (v := (Value.agg [(str x0.number), (vI x0.length), (vI x0.axles), (vI x0.mass), (vI x0.brake), (vI x0.goods), (vB x0.gentle), (str x0.dest)].toArray)) rfl Try.type30 h0 rfl [(str x0.number), (vI x0.length), (vI x0.axles), (vI x0.mass), (vI x0.brake), (vI x0.goods), (vB x0.gentle), (str x0.dest)] rfl rfl st ?_)
 intro B1 m2 st X3 sm4 hap5
 refine sx rfl (pAssign (v := (Value.slice none 0 0)) rfl rfl) ?_
 refine sx rfl (pAssign (v := (vI 0)) rfl rfl) ?_
 refine SeqW.done fun fr7 hf8 => ?_
 have h1 : fr7 1 = (vP B1) := (congrFun hf8 1).trans rfl
 clear hf8
 refine thenQ.n (W.seq ?_)
 refine W.seq (W.region ?_)
 refine SeqW.consX rfl (kLoadA rfl Try.underlying30 rfl Try.type30 rfl h1 X3.loads ?_)
 obtain ⟨y9, hy9, hr⟩ := bind_some hr
 refine SeqW.consX rfl (StepX.call (gCallee rfl rfl (args1 rfl)) ((c_r06_Valid (x0 := x0) (z := z) st.fz st.dead  hy9).mono ?_))
 rintro _ _ ⟨rfl, rfl⟩
 refine sx rfl (pAssign (v := (vI y9)) rfl rfl) ?_
 refine SeqW.done fun fr10 hf11 => ?_
 have h1 := (congrFun hf11 1).trans h1
 have h4 : fr10 4 = (vI y9) := (congrFun hf11 4).trans rfl
 clear hf11
 refine thenQ.n (W.seq (W.region ?_))
 refine sx rfl (pMove (v := (vI y9)) rfl h4) ?_
 refine sx rfl (pNeq (k := .i64) (a := y9) (b := 0) rfl rfl rfl) ?_
 refine SeqW.done fun fr12 hf13 => ?_
 have h1 := (congrFun hf13 1).trans h1
 have h4 := (congrFun hf13 4).trans h4
 have h11 : fr12 11 = (vB (y9 != 0)) := (congrFun hf13 11).trans rfl
 clear hf13
 refine thenQ.n ?_
 rcases if_some hr with ⟨hc14, hr⟩ | ⟨hc17, hr⟩
 ·refine W.condT h11 hc14 (W.seq (W.region ?_))
  refine sx rfl (pMove (v := (vI y9)) rfl h4) ?_
  refine sx rfl (pAssign (v := (Value.slice none 0 0)) rfl rfl) ?_
  refine sx rfl (pAssign (v := (vI y9)) rfl rfl) ?_
  refine SeqW.done fun fr15 hf16 => ?_
  have h2 : fr15 2 = (Value.slice none 0 0) := (congrFun hf16 2).trans rfl
  have h3 : fr15 3 = (vI y9) := (congrFun hf16 3).trans rfl
  clear hf16
  refine thenQ.n ?_
  refine W.ret ?_
  refine thenQ.r ?_
  obtain rfl := Option.some.inj hr
  exact ⟨z, hz, st, .inr rfl, (Value.slice none 0 0), h2, SlR.nil, h3, trivial⟩
 ·refine W.condF h11 hc17 (W.skip ?_)
  refine thenQ.n (W.seq (W.region ?_))
  refine SeqW.consX rfl (kField rfl Try.underlying30 rfl Try.type3 rfl h1 rfl ?_)
  refine SeqW.consX rfl (kLoad rfl Try.underlying3 rfl rfl (X3.load (v := (vI x0.length)) rfl) ?_)
  refine sx rfl (pMul (k := .i64) (a := 10) (b := x0.length) rfl rfl rfl) ?_
  obtain ⟨y18, hy18, hr⟩ := lt_some hr
  refine sx rfl (pAssign rfl (congrArg (Value.int .i64) hy18)) ?_
  refine SeqW.done fun fr19 hf20 => ?_
  have h1 := (congrFun hf20 1).trans h1
  have h5 : fr19 5 = (vI y18) := (congrFun hf20 5).trans rfl
  clear hf20
  refine thenQ.n (W.seq (W.region ?_))
  refine SeqW.consX rfl (kField rfl Try.underlying30 rfl Try.type9 rfl h1 rfl ?_)
  refine SeqW.consX rfl (kLoad rfl Try.underlying9 rfl rfl (X3.load (v := (str x0.number)) rfl) ?_)
  obtain ⟨y21, hy21, hr⟩ := bind_some hr
  refine SeqW.consX rfl (StepX.call (gCallee rfl rfl (args1 rfl)) ((c_r02_Kind (z := z) st.fz st.dead  hy21).mono ?_))
  rintro _ _ ⟨rfl, rfl⟩
  refine sx rfl (pMove (v := (Value.tuple [(vI y21.1), (vI y21.2)].toArray)) rfl rfl) ?_
  refine sx rfl (pExtract (vs := [(vI y21.1), (vI y21.2)]) (v := (vI y21.1)) rfl rfl rfl) ?_
  refine sx rfl (pExtract (vs := [(vI y21.1), (vI y21.2)]) (v := (vI y21.2)) rfl rfl rfl) ?_
  refine sx rfl (pAssign (v := (vI y21.1)) rfl rfl) ?_
  refine sx rfl (pAssign (v := (vI y21.2)) rfl rfl) ?_
  refine SeqW.done fun fr22 hf23 => ?_
  have h5 := (congrFun hf23 5).trans h5
  have h6 : fr22 6 = (vI y21.1) := (congrFun hf23 6).trans rfl
  clear hf23
  refine thenQ.n (W.seq ?_)
  refine W.seq (W.region ?_)
  refine sx rfl (pMove (v := (vI y21.1)) rfl h6) ?_
  refine SeqW.done fun fr24 hf25 => ?_
  have h5 := (congrFun hf25 5).trans h5
  have h22 : fr24 22 = (vI y21.1) := (congrFun hf25 22).trans rfl
  clear hf25
  refine thenQ.n ?_
  refine W.block ?_
  refine W.seq (W.region ?_)
  refine sx rfl (pEql (k := .i64) (a := y21.1) (b := 1) rfl h22 rfl) ?_
  obtain ⟨y26, hy26, hr⟩ := lt_some hr
  refine sx rfl (pAssign rfl (congrArg vB hy26)) ?_
  refine SeqW.done fun fr27 hf28 => ?_
  have h5 := (congrFun hf28 5).trans h5
  have h22 := (congrFun hf28 22).trans h22
  have h23 : fr27 23 = (vB y26) := (congrFun hf28 23).trans rfl
  clear hf28
  refine thenQ.n ?_
  rcases if_some hr with ⟨hc29, hr⟩ | ⟨hc42, hr⟩
  ·refine W.condT h23 hc29 (W.seq (W.region ?_))
   refine sx rfl (pMove (v := (vI y18)) rfl h5) ?_
   refine sx rfl (pSub (k := .i64) (a := y18) (b := 330) rfl rfl rfl) ?_
   refine sx rfl (pMove (v := (vI y18)) rfl h5) ?_
   refine sx rfl (pSub (k := .i64) (a := y18) (b := 130) rfl rfl rfl) ?_
   refine SeqW.consX rfl (kBuild (T := (TInt 3 .i64)) rfl Try.underlying22 Try.type3 rfl rfl rfl rfl ([130, 330, (IntKind.wrap .i64 (y18 - 330)), (IntKind.wrap .i64 (y18 - 130))] : List Int) [[(vI 130)], [(vI 330)], [(vI (IntKind.wrap .i64 (y18 - 330)))], [(vI (IntKind.wrap .i64 (y18 - 130)))]] rfl rfl rfl (BuildOk.mk (w := (vI 130)) rfl rfl rfl rfl (BuildOk.mk (w := (vI 330)) rfl rfl rfl rfl (BuildOk.mk (w := (vI (IntKind.wrap .i64 (y18 - 330)))) rfl rfl rfl rfl (BuildOk.mk (w := (vI (IntKind.wrap .i64 (y18 - 130)))) rfl rfl rfl rfl trivial)))) st ?_)
   intro V30 m31 st O32 sm33 hap34
   refine sx rfl (pAssign (v := V30) rfl rfl) ?_
   refine sx rfl (pAssign (v := (vI 0)) rfl rfl) ?_
   refine SeqW.done fun fr36 hf37 => ?_
   have h2 : fr36 2 = V30 := (congrFun hf37 2).trans rfl
   have h3 : fr36 3 = (vI 0) := (congrFun hf37 3).trans rfl
   clear hf37
   refine thenQ.n ?_
   refine W.ret ?_
   refine blockQ.r ?_
   refine thenQ.r ?_
   obtain ⟨z38, hz39, st, Q40, hl41⟩ := O32.freeze st
   replace hz := hz.trans hz39
   obtain rfl := Option.some.inj hr
   exact ⟨z38, hz, st, .inr rfl, V30, h2, Q40, h3, trivial⟩
  ·refine W.condF h23 hc42 (W.seq (W.region ?_))
   refine sx rfl (pEql (k := .i64) (a := y21.1) (b := 2) rfl h22 rfl) ?_
   obtain ⟨y43, hy43, hr⟩ := lt_some hr
   refine sx rfl (pAssign rfl (congrArg vB hy43)) ?_
   refine SeqW.done fun fr44 hf45 => ?_
   have h5 := (congrFun hf45 5).trans h5
   have h22 := (congrFun hf45 22).trans h22
   have h30 : fr44 30 = (vB y43) := (congrFun hf45 30).trans rfl
   clear hf45
   refine thenQ.n ?_
   rcases if_some hr with ⟨hc46, hr⟩ | ⟨hc59, hr⟩
   ·refine W.condT h30 hc46 (W.seq (W.region ?_))
    refine sx rfl (pMove (v := (vI y18)) rfl h5) ?_
    refine sx rfl (pQuo (k := .i64) (a := y18) (b := 4) rfl rfl rfl (by decide)) ?_
    refine sx rfl (pMove (v := (vI y18)) rfl h5) ?_
    refine sx rfl (pMove (v := (vI y18)) rfl h5) ?_
    refine sx rfl (pQuo (k := .i64) (a := y18) (b := 4) rfl rfl rfl (by decide)) ?_
    refine sx rfl (pSub (k := .i64) (a := y18) (b := (IntKind.wrap .i64 (Int.tdiv y18 4))) rfl rfl rfl) ?_
    refine SeqW.consX rfl (kBuild (T := (TInt 3 .i64)) rfl Try.underlying22 Try.type3 rfl rfl rfl rfl ([(IntKind.wrap .i64 (Int.tdiv y18 4)), (IntKind.wrap .i64 (y18 - (IntKind.wrap .i64 (Int.tdiv y18 4))))] : List Int) [[(vI (IntKind.wrap .i64 (Int.tdiv y18 4)))], [(vI (IntKind.wrap .i64 (y18 - (IntKind.wrap .i64 (Int.tdiv y18 4)))))]] rfl rfl rfl (BuildOk.mk (w := (vI (IntKind.wrap .i64 (Int.tdiv y18 4)))) rfl rfl rfl rfl (BuildOk.mk (w := (vI (IntKind.wrap .i64 (y18 - (IntKind.wrap .i64 (Int.tdiv y18 4)))))) rfl rfl rfl rfl trivial)) st ?_)
    intro V47 m48 st O49 sm50 hap51
    refine sx rfl (pAssign (v := V47) rfl rfl) ?_
    refine sx rfl (pAssign (v := (vI 0)) rfl rfl) ?_
    refine SeqW.done fun fr53 hf54 => ?_
    have h2 : fr53 2 = V47 := (congrFun hf54 2).trans rfl
    have h3 : fr53 3 = (vI 0) := (congrFun hf54 3).trans rfl
    clear hf54
    refine thenQ.n ?_
    refine W.ret ?_
    refine blockQ.r ?_
    refine thenQ.r ?_
    obtain ⟨z55, hz56, st, Q57, hl58⟩ := O49.freeze st
    replace hz := hz.trans hz56
    obtain rfl := Option.some.inj hr
    exact ⟨z55, hz, st, .inr rfl, V47, h2, Q57, h3, trivial⟩
   ·refine W.condF h30 hc59 (W.seq (W.region ?_))
    refine sx rfl (pEql (k := .i64) (a := y21.1) (b := 3) rfl h22 rfl) ?_
    obtain ⟨y60, hy60, hr⟩ := lt_some hr
    refine sx rfl (pAssign rfl (congrArg vB hy60)) ?_
    refine SeqW.done fun fr61 hf62 => ?_
    have h5 := (congrFun hf62 5).trans h5
    have h39 : fr61 39 = (vB y60) := (congrFun hf62 39).trans rfl
    clear hf62
    refine thenQ.n ?_
    rcases if_some hr with ⟨hc63, hr⟩ | ⟨hc76, hr⟩
    ·refine W.condT h39 hc63 (W.seq (W.region ?_))
     refine sx rfl (pMove (v := (vI y18)) rfl h5) ?_
     refine sx rfl (pSub (k := .i64) (a := y18) (b := 440) rfl rfl rfl) ?_
     refine sx rfl (pMove (v := (vI y18)) rfl h5) ?_
     refine sx rfl (pSub (k := .i64) (a := y18) (b := 280) rfl rfl rfl) ?_
     refine sx rfl (pMove (v := (vI y18)) rfl h5) ?_
     refine sx rfl (pSub (k := .i64) (a := y18) (b := 120) rfl rfl rfl) ?_
     refine SeqW.consX rfl (kBuild (T := (TInt 3 .i64)) rfl Try.underlying22 Try.type3 rfl rfl rfl rfl ([120, 280, 440, (IntKind.wrap .i64 (y18 - 440)), (IntKind.wrap .i64 (y18 - 280)), (IntKind.wrap .i64 (y18 - 120))] : List Int) [[(vI 120)], [(vI 280)], [(vI 440)], [(vI (IntKind.wrap .i64 (y18 - 440)))], [(vI (IntKind.wrap .i64 (y18 - 280)))], [(vI (IntKind.wrap .i64 (y18 - 120)))]] rfl rfl rfl (BuildOk.mk (w := (vI 120)) rfl rfl rfl rfl (BuildOk.mk (w := (vI 280)) rfl rfl rfl rfl (BuildOk.mk (w := (vI 440)) rfl rfl rfl rfl (BuildOk.mk (w := (vI (IntKind.wrap .i64 (y18 - 440)))) rfl rfl rfl rfl (BuildOk.mk (w := (vI (IntKind.wrap .i64 (y18 - 280)))) rfl rfl rfl rfl (BuildOk.mk (w := (vI (IntKind.wrap .i64 (y18 - 120)))) rfl rfl rfl rfl trivial)))))) st ?_)
     intro V64 m65 st O66 sm67 hap68
     refine sx rfl (pAssign (v := V64) rfl rfl) ?_
     refine sx rfl (pAssign (v := (vI 0)) rfl rfl) ?_
     refine SeqW.done fun fr70 hf71 => ?_
     have h2 : fr70 2 = V64 := (congrFun hf71 2).trans rfl
     have h3 : fr70 3 = (vI 0) := (congrFun hf71 3).trans rfl
     clear hf71
     refine thenQ.n ?_
     refine W.ret ?_
     refine blockQ.r ?_
     refine thenQ.r ?_
     obtain ⟨z72, hz73, st, Q74, hl75⟩ := O66.freeze st
     replace hz := hz.trans hz73
     obtain rfl := Option.some.inj hr
     exact ⟨z72, hz, st, .inr rfl, V64, h2, Q74, h3, trivial⟩
    ·refine W.condF h39 hc76 (W.skip ?_)
     refine blockQ.n ?_
     refine thenQ.n (W.seq (W.region ?_))
     refine sx rfl (pMove (v := (vI y18)) rfl h5) ?_
     refine sx rfl (pSub (k := .i64) (a := y18) (b := 330) rfl rfl rfl) ?_
     refine sx rfl (pMove (v := (vI y18)) rfl h5) ?_
     refine sx rfl (pSub (k := .i64) (a := y18) (b := 150) rfl rfl rfl) ?_
     refine SeqW.consX rfl (kBuild (T := (TInt 3 .i64)) rfl Try.underlying22 Try.type3 rfl rfl rfl rfl ([150, 330, (IntKind.wrap .i64 (y18 - 330)), (IntKind.wrap .i64 (y18 - 150))] : List Int) [[(vI 150)], [(vI 330)], [(vI (IntKind.wrap .i64 (y18 - 330)))], [(vI (IntKind.wrap .i64 (y18 - 150)))]] rfl rfl rfl (BuildOk.mk (w := (vI 150)) rfl rfl rfl rfl (BuildOk.mk (w := (vI 330)) rfl rfl rfl rfl (BuildOk.mk (w := (vI (IntKind.wrap .i64 (y18 - 330)))) rfl rfl rfl rfl (BuildOk.mk (w := (vI (IntKind.wrap .i64 (y18 - 150)))) rfl rfl rfl rfl trivial)))) st ?_)
     intro V77 m78 st O79 sm80 hap81
     refine sx rfl (pAssign (v := V77) rfl rfl) ?_
     refine sx rfl (pAssign (v := (vI 0)) rfl rfl) ?_
     refine SeqW.done fun fr83 hf84 => ?_
     have h2 : fr83 2 = V77 := (congrFun hf84 2).trans rfl
     have h3 : fr83 3 = (vI 0) := (congrFun hf84 3).trans rfl
     clear hf84
     refine thenQ.n ?_
     refine W.ret ?_
     obtain ⟨z85, hz86, st, Q87, hl88⟩ := O79.freeze st
     replace hz := hz.trans hz86
     obtain rfl := Option.some.inj hr
     exact ⟨z85, hz, st, .inr rfl, V77, h2, Q87, h3, trivial⟩

theorem c_r07_Offsets {N : Nat} {z : Nat → Blk} {m : Mem} {x0 : Wagon} (fz : Fz z m) (hd : ∀ b, m.next ≤ b → m.blk b = .dead)  {r : List Int × Int} (hr : r07_Offsets N x0 = some r) : CallW Try.prog 26 #[(Value.agg [(str x0.number), (vI x0.length), (vI x0.axles), (vI x0.mass), (vI x0.brake), (vI x0.goods), (vB x0.gentle), (str x0.dest)].toArray)] m fun v m' => ∃ z' w2, Zx m.next z z' ∧ Fz z' m' ∧ Same m m' none ∧ v = (Value.tuple [w2, (vI r.2)].toArray) ∧ SlR (TInt 3 .i64) z' r.1 w2 ∧ True := by
 refine CallW.any Try.func26 rfl (by kernel_rfl) (Nat.le_of_ble_eq_true rfl) (fun fr hf => ?_)
 have h0 : fr 0 = _ := hf 0 _ rfl
 refine (u_r07_Offsets (k := none) (Zx.refl _) (St.start fz hd) h0 hr).mono ?_
 rintro ex fr' m' ⟨z', hz, st, he, w2, h2, s2, h3, -⟩
 exact ⟨he, [w2, (vI r.2)], ⟨h2.symm, h3.symm, trivial⟩, .inr (List.forall_mem_cons.2 ⟨s2.stor.1, List.forall_mem_cons.2 ⟨rfl, fun _ h => nomatch h⟩⟩), z', w2, hz, st.fz, st.toSame, rfl, s2, trivial⟩

/-! ### humpyard/humpyardref07.Distances -/

theorem u_r07_Distances_2 {N : Nat}  {z0 z : Nat → Blk} {e m : Mem} {k : Option Nat} {fr : Nat → Value} {x4 : List Int} {x5 : Int} {x6 : Int} {x8 : List Int} {x10 : Int} {x40 : Bool} {v4 : Value} {v8 : Value} (hz : Zx e.next z0 z) (st : St z e m k) (h4 : fr 4 = v4) (o4 : OwF (TInt 3 .i64) z e m k x4 v4) (h5 : fr 5 = (vI x5)) (h6 : fr 6 = (vI x6)) (h8 : fr 8 = v8) (s8 : SlR (TInt 3 .i64) z x8 v8) (h10 : fr 10 = (vI x10)) (h40 : fr 40 = (vB x40)) {r : List Int} (hr : r07_Distances_2 N x4 x5 x6 x8 x10 x40 = some r) : W Try.prog (sub (bodyOf Try.f19) [1, 1, 1, 1, 0, 1, 0, 0, 1, 0, 0, 1, 1, 0, 1, 0, 0, 1, 0, 0, 0, 1]) (fun ex fr' m' => ∃ z', Zx e.next z0 z' ∧ St z' e m' k ∧ ex = AExit.normal ∧ ∃ (w4 : Value), fr' 4 = w4 ∧ OwF (TInt 3 .i64) z' e m' k r w4 ∧ True) fr m := by
 unfold r07_Distances_2 at hr
 rcases if_some hr with ⟨hc48, hr⟩ | ⟨hc72, hr⟩
 ·refine W.condT h40 hc48 (W.region ?_)
  refine sx rfl (pMove (v := v4) rfl h4) ?_
  refine sx rfl (pMove (v := (vI x5)) rfl h5) ?_
  refine sx rfl (pMove (v := v8) rfl h8) ?_
  refine sx rfl (pMove (v := (vI x10)) rfl h10) ?_
  obtain ⟨y49, hy49, hr⟩ := bind_some hr
  refine SeqW.consX rfl (kIdxR (T := (TInt 3 .i64)) (xs := x8) (n := x10) rfl Try.underlying22 Try.type3 rfl rfl rfl s8 hy49 ?_)
  intro B50 f51 cs52 hd53 hc54
  obtain rfl := hd53
  refine SeqW.consX rfl (kLoad (v := (vI y49)) rfl Try.underlying3 rfl rfl (ldz_load st.fz (hc54 0 _ rfl)) ?_)
  refine sx rfl (pAdd (k := .i64) (a := x5) (b := y49) rfl rfl rfl) ?_
  refine sx rfl (pMove (v := (vI x6)) rfl h6) ?_
  refine sx rfl (pSub (k := .i64) (a := (IntKind.wrap .i64 (x5 + y49))) (b := x6) rfl rfl rfl) ?_
  refine SeqW.consX rfl (kBuild (T := (TInt 3 .i64)) rfl Try.underlying22 Try.type3 rfl rfl rfl rfl ([(IntKind.wrap .i64 ((IntKind.wrap .i64 (x5 + y49)) - x6))] : List Int) [[(vI (IntKind.wrap .i64 ((IntKind.wrap .i64 (x5 + y49)) - x6)))]] rfl rfl rfl (BuildOk.mk (w := (vI (IntKind.wrap .i64 ((IntKind.wrap .i64 (x5 + y49)) - x6)))) rfl rfl rfl rfl trivial) st ?_)
  intro V55 m56 st O57 sm58 hap59
  have A61 := hap59 _ o4.lt
  replace o4 := o4.same sm58 Ap.none'
  obtain ⟨y62, hy62, hr⟩ := bind_some hr
  refine SeqW.consX rfl (kAppend (T := (TInt 3 .i64)) (xs := x4) (ys := ([(IntKind.wrap .i64 ((IntKind.wrap .i64 (x5 + y49)) - x6))] : List Int)) rfl Try.underlying22 Try.type3 rfl rfl rfl rfl rfl rfl (.inl ⟨_, Try.underlying22⟩) rfl o4 rfl O57.ow.src st hy62 ?_)
  intro V63 m64 st O65 sm66 hap67
  have A69 := hap67 _ O57.lt (Ap.symm A61)
  replace O57 := O57.same sm66 (Ap.symm A61)
  refine sx rfl (pAssign (v := V63) rfl rfl) ?_
  refine SeqW.done fun fr70 hf71 => ?_
  have h4 : fr70 4 = V63 := (congrFun hf71 4).trans rfl
  have h5 := (congrFun hf71 5).trans h5
  have h8 := (congrFun hf71 8).trans h8
  have h10 := (congrFun hf71 10).trans h10
  clear hf71
  obtain rfl := Option.some.inj hr
  exact ⟨z, hz, st, rfl, V63, h4, O65, trivial⟩
 ·refine W.condF h40 hc72 (W.skip ?_)
  obtain rfl := Option.some.inj hr
  exact ⟨z, hz, st, rfl, v4, h4, o4, trivial⟩

theorem u_r07_Distances_1 : ∀ (n : Nat) {N : Nat}  {z0 z : Nat → Blk} {e m : Mem} {k : Option Nat} {fr : Nat → Value} {x4 : List Int} {x5 : Int} {x6 : Int} {x7 : Int} {x8 : List Int} {x10 : Int} {v4 : Value} {v8 : Value} (hz : Zx e.next z0 z) (st : St z e m k) (h4 : fr 4 = v4) (o4 : OwF (TInt 3 .i64) z e m k x4 v4) (h5 : fr 5 = (vI x5)) (h6 : fr 6 = (vI x6)) (h7 : fr 7 = (vI x7)) (h8 : fr 8 = v8) (s8 : SlR (TInt 3 .i64) z x8 v8) (h10 : fr 10 = (vI x10)) {r : List Int × Int} (hr : r07_Distances_1 N x5 x7 x8 n x4 x6 x10 = some r), W Try.prog (sub (bodyOf Try.f19) [1, 1, 1, 1, 0, 1, 0, 0, 1, 0, 0, 1, 1, 0, 1, 0]) (fun ex fr' m' => ∃ z', Zx e.next z0 z' ∧ St z' e m' k ∧ ex = AExit.exit 2 ∧ ∃ (w4 : Value), fr' 4 = w4 ∧ OwF (TInt 3 .i64) z' e m' k r.1 w4 ∧ fr' 6 = (vI r.2) ∧ True) fr m := by
 intro n
 induction n with
 | zero => intro N z0 z e m k fr x4 x5 x6 x7 x8 x10 v4 v8 hz st h4 o4 h5 h6 h7 h8 s8 h10 r hr; cases (show (none : Option _) = some r from hr)
 | succ n ih =>
  intro N z0 z e m k fr x4 x5 x6 x7 x8 x10 v4 v8 hz st h4 o4 h5 h6 h7 h8 s8 h10 r hr
  unfold r07_Distances_1 at hr
  refine W.loop1 ?_
  refine W.seq (W.seq (W.region ?_))
  refine sx rfl (pMove (v := (vI x10)) rfl h10) ?_
  refine sx rfl (pMove (v := v8) rfl h8) ?_
  refine sx rfl (pLenR (xs := x8) rfl Try.underlying22 rfl s8) ?_
  refine sx rfl (pLss (k := .i64) (a := x10) (b := (x8.length : Int)) rfl rfl rfl) ?_
  refine SeqW.done fun fr43 hf44 => ?_
  have h4 := (congrFun hf44 4).trans h4
  have h5 := (congrFun hf44 5).trans h5
  have h6 := (congrFun hf44 6).trans h6
  have h7 := (congrFun hf44 7).trans h7
  have h8 := (congrFun hf44 8).trans h8
  have h10 := (congrFun hf44 10).trans h10
  have h34 : fr43 34 = (vB (decide (x10 < (x8.length : Int)))) := (congrFun hf44 34).trans rfl
  clear hf44
  refine thenQ.n ?_
  rcases if_some hr with ⟨hc45, hr⟩ | ⟨hc95, hr⟩
  ·refine W.condT h34 hc45 (W.skip ?_)
   refine thenQ.n (W.seq ?_)
   refine W.block ?_
   refine W.seq (W.seq (W.region ?_))
   refine sx rfl (pMove (v := (vI x7)) rfl h7) ?_
   refine sx rfl (pMove (v := (vI x10)) rfl h10) ?_
   refine sx rfl (pAdd (k := .i64) (a := x7) (b := x10) rfl rfl rfl) ?_
   refine sx rfl (pGtr (k := .i64) (a := (IntKind.wrap .i64 (x7 + x10))) (b := 0) rfl rfl rfl) ?_
   refine SeqW.done fun fr46 hf47 => ?_
   have h4 := (congrFun hf47 4).trans h4
   have h5 := (congrFun hf47 5).trans h5
   have h6 := (congrFun hf47 6).trans h6
   have h7 := (congrFun hf47 7).trans h7
   have h8 := (congrFun hf47 8).trans h8
   have h10 := (congrFun hf47 10).trans h10
   have h40 : fr46 40 = (vB (decide (0 < (IntKind.wrap .i64 (x7 + x10))))) := (congrFun hf47 40).trans rfl
   clear hf47
   refine thenQ.n ?_
   obtain ⟨y73, hy73, hr⟩ := bind_some hr
   refine W.keep (u_r07_Distances_2 (Zx.refl _) st h4 o4 h5 h6 h8 s8 h10 h40 hy73) ?_
   rintro ex79 fr74 m75 hk77 ⟨z76, hz78, st, rfl, w80, h4, O82, -⟩
   replace s8 := s8.mono hz78.le
   have h5 := (hk77 5 rfl).trans h5
   have h7 := (hk77 7 rfl).trans h7
   have h8 := (hk77 8 rfl).trans h8
   have h10 := (hk77 10 rfl).trans h10
   replace hz := hz.trans hz78
   clear hk77
   refine thenQ.n (W.region ?_)
   refine sx rfl (pMove (v := (vI x5)) rfl h5) ?_
   refine sx rfl (pMove (v := v8) rfl h8) ?_
   refine sx rfl (pMove (v := (vI x10)) rfl h10) ?_
   obtain ⟨y83, hy83, hr⟩ := bind_some hr
   refine SeqW.consX rfl (kIdxR (T := (TInt 3 .i64)) (xs := x8) (n := x10) rfl Try.underlying22 Try.type3 rfl rfl rfl s8 hy83 ?_)
   intro B84 f85 cs86 hd87 hc88
   obtain rfl := hd87
   refine SeqW.consX rfl (kLoad (v := (vI y83)) rfl Try.underlying3 rfl rfl (ldz_load st.fz (hc88 0 _ rfl)) ?_)
   refine sx rfl (pAdd (k := .i64) (a := x5) (b := y83) rfl rfl rfl) ?_
   obtain ⟨y89, hy89, hr⟩ := lt_some hr
   refine sx rfl (pAssign rfl (congrArg (Value.int .i64) hy89)) ?_
   refine SeqW.done fun fr90 hf91 => ?_
   have h4 := (congrFun hf91 4).trans h4
   have h5 := (congrFun hf91 5).trans h5
   have h6 : fr90 6 = (vI y89) := (congrFun hf91 6).trans rfl
   have h7 := (congrFun hf91 7).trans h7
   have h8 := (congrFun hf91 8).trans h8
   have h10 := (congrFun hf91 10).trans h10
   clear hf91
   refine blockQ.n ?_
   refine thenQ.n (W.region ?_)
   refine sx rfl (pMove (v := (vI x10)) rfl h10) ?_
   refine sx rfl (pAdd (k := .i64) (a := x10) (b := 1) rfl rfl rfl) ?_
   obtain ⟨y92, hy92, hr⟩ := lt_some hr
   refine sx rfl (pAssign rfl (congrArg (Value.int .i64) hy92)) ?_
   refine SeqW.done fun fr93 hf94 => ?_
   have h4 := (congrFun hf94 4).trans h4
   have h5 := (congrFun hf94 5).trans h5
   have h6 := (congrFun hf94 6).trans h6
   have h7 := (congrFun hf94 7).trans h7
   have h8 := (congrFun hf94 8).trans h8
   have h10 : fr93 10 = (vI y92) := (congrFun hf94 10).trans rfl
   clear hf94
   refine thenQ.n ?_
   exact ih hz st h4 O82 h5 h6 h7 h8 s8 h10 hr
  ·refine W.condF h34 hc95 ?_
   refine W.exit ?_
   refine thenQ.x ?_
   refine thenQ.x ?_
   obtain rfl := Option.some.inj hr
   exact ⟨z, hz, st, rfl, v4, h4, o4, h6, trivial⟩

theorem u_r07_Distances_0 : ∀ (n : Nat) {N : Nat}  {z0 z : Nat → Blk} {e m : Mem} {k : Option Nat} {fr : Nat → Value} {x0 : List Wagon} {x4 : List Int} {x5 : Int} {x6 : Int} {x7 : Int} {v0 : Value} {v4 : Value} (hz : Zx e.next z0 z) (st : St z e m k) (h0 : fr 0 = v0) (s0 : SlR TWagon z x0 v0) (h4 : fr 4 = v4) (o4 : OwF (TInt 3 .i64) z e m k x4 v4) (h5 : fr 5 = (vI x5)) (h6 : fr 6 = (vI x6)) (h7 : fr 7 = (vI x7)) {r : Sum (List Int) (Int)} (hr : r07_Distances_0 N x0 n x4 x5 x6 x7 = some r), W Try.prog (sub (bodyOf Try.f19) [1, 1, 1, 1, 0, 1, 0]) (fun ex fr' m' => ∃ z', Zx e.next z0 z' ∧ St z' e m' k ∧ ((∃ q, r = Sum.inl q ∧ ex = AExit.exit 0 ∧ ∃ (w4 : Value), fr' 4 = w4 ∧ OwF (TInt 3 .i64) z' e m' k q w4 ∧ True) ∨ (∃ q, r = Sum.inr q ∧ ex = AExit.ret ∧ fr' 2 = (Value.slice none 0 0) ∧ fr' 3 = (vI q) ∧ True))) fr m := by
 intro n
 induction n with
 | zero => intro N z0 z e m k fr x0 x4 x5 x6 x7 v0 v4 hz st h0 s0 h4 o4 h5 h6 h7 r hr; cases (show (none : Option _) = some r from hr)
 | succ n ih =>
  intro N z0 z e m k fr x0 x4 x5 x6 x7 v0 v4 hz st h0 s0 h4 o4 h5 h6 h7 r hr
  unfold r07_Distances_0 at hr
  refine W.loop1 ?_
  refine W.seq (W.seq (W.region ?_))
  refine sx rfl (pMove (v := (vI x7)) rfl h7) ?_
  refine sx rfl (pMove (v := v0) rfl h0) ?_
  refine sx rfl (pLenR (xs := x0) rfl Try.underlying41 rfl s0) ?_
  refine sx rfl (pLss (k := .i64) (a := x7) (b := (x0.length : Int)) rfl rfl rfl) ?_
  refine SeqW.done fun fr15 hf16 => ?_
  have h0 := (congrFun hf16 0).trans h0
  have h4 := (congrFun hf16 4).trans h4
  have h5 := (congrFun hf16 5).trans h5
  have h6 := (congrFun hf16 6).trans h6
  have h7 := (congrFun hf16 7).trans h7
  have h17 : fr15 17 = (vB (decide (x7 < (x0.length : Int)))) := (congrFun hf16 17).trans rfl
  clear hf16
  refine thenQ.n ?_
  rcases if_some hr with ⟨hc17, hr⟩ | ⟨hc118, hr⟩
  ·refine W.condT h17 hc17 (W.skip ?_)
   refine thenQ.n (W.seq ?_)
   refine W.block ?_
   refine W.seq (W.region ?_)
   refine sx rfl (pMove (v := v0) rfl h0) ?_
   refine sx rfl (pMove (v := (vI x7)) rfl h7) ?_
   obtain ⟨y18, hy18, hr⟩ := bind_some hr
   refine SeqW.consX rfl (kIdxR (T := TWagon) (xs := x0) (n := x7) rfl Try.underlying41 Try.type30 rfl rfl rfl s0 hy18 ?_)
   intro B19 f20 cs21 hd22 hc23
   obtain rfl := hd22
   refine SeqW.consX rfl (kLoadA rfl Try.underlying30 rfl Try.type30 rfl rfl (st.loads hc23) ?_)
   obtain ⟨y24, hy24, hr⟩ := bind_some hr
   refine SeqW.consX rfl (StepX.call (gCallee rfl rfl (args1 rfl)) ((c_r07_Offsets (x0 := y18) (z := z) st.fz st.dead  hy24).mono ?_))
   rintro _ m29 ⟨z25, V30, hzx26, fz27, sm28, rfl, Q31, -⟩
   replace s0 := s0.mono hzx26.le
   replace o4 := o4.call hzx26 sm28 Ap.none'
   replace hz := hz.trans (Zx.here st hzx26)
   replace st := st.call hzx26 fz27 sm28 no_hq
   refine sx rfl (pMove (v := (Value.tuple [V30, (vI y24.2)].toArray)) rfl rfl) ?_
   refine sx rfl (pExtract (vs := [V30, (vI y24.2)]) (v := V30) rfl rfl rfl) ?_
   refine sx rfl (pExtract (vs := [V30, (vI y24.2)]) (v := (vI y24.2)) rfl rfl rfl) ?_
   refine sx rfl (pAssign (v := V30) rfl rfl) ?_
   refine sx rfl (pAssign (v := (vI y24.2)) rfl rfl) ?_
   refine SeqW.done fun fr33 hf34 => ?_
   have h0 := (congrFun hf34 0).trans h0
   have h4 := (congrFun hf34 4).trans h4
   have h5 := (congrFun hf34 5).trans h5
   have h6 := (congrFun hf34 6).trans h6
   have h7 := (congrFun hf34 7).trans h7
   have h8 : fr33 8 = V30 := (congrFun hf34 8).trans rfl
   have h9 : fr33 9 = (vI y24.2) := (congrFun hf34 9).trans rfl
   clear hf34
   refine thenQ.n (W.seq ?_)
   refine W.seq (W.region ?_)
   refine sx rfl (pMove (v := (vI y24.2)) rfl h9) ?_
   refine sx rfl (pNeq (k := .i64) (a := y24.2) (b := 0) rfl rfl rfl) ?_
   refine SeqW.done fun fr35 hf36 => ?_
   have h0 := (congrFun hf36 0).trans h0
   have h4 := (congrFun hf36 4).trans h4
   have h5 := (congrFun hf36 5).trans h5
   have h6 := (congrFun hf36 6).trans h6
   have h7 := (congrFun hf36 7).trans h7
   have h8 := (congrFun hf36 8).trans h8
   have h9 := (congrFun hf36 9).trans h9
   have h29 : fr35 29 = (vB (y24.2 != 0)) := (congrFun hf36 29).trans rfl
   clear hf36
   refine thenQ.n ?_
   rcases if_some hr with ⟨hc37, hr⟩ | ⟨hc40, hr⟩
   ·refine W.condT h29 hc37 (W.seq (W.region ?_))
    refine sx rfl (pMove (v := (vI y24.2)) rfl h9) ?_
    refine sx rfl (pAssign (v := (Value.slice none 0 0)) rfl rfl) ?_
    refine sx rfl (pAssign (v := (vI y24.2)) rfl rfl) ?_
    refine SeqW.done fun fr38 hf39 => ?_
    have h2 : fr38 2 = (Value.slice none 0 0) := (congrFun hf39 2).trans rfl
    have h3 : fr38 3 = (vI y24.2) := (congrFun hf39 3).trans rfl
    clear hf39
    refine thenQ.n ?_
    refine W.ret ?_
    refine thenQ.r ?_
    refine blockQ.r ?_
    refine thenQ.r ?_
    refine thenQ.r ?_
    obtain rfl := Option.some.inj hr
    exact ⟨z25, hz, st, .inr ⟨_, rfl, rfl, h2, h3, trivial⟩⟩
   ·refine W.condF h29 hc40 (W.skip ?_)
    refine thenQ.n (W.seq ?_)
    refine W.seq (W.region ?_)
    refine sx rfl (pAssign (v := (vI 0)) rfl rfl) ?_
    refine SeqW.done fun fr41 hf42 => ?_
    have h0 := (congrFun hf42 0).trans h0
    have h4 := (congrFun hf42 4).trans h4
    have h5 := (congrFun hf42 5).trans h5
    have h6 := (congrFun hf42 6).trans h6
    have h7 := (congrFun hf42 7).trans h7
    have h8 := (congrFun hf42 8).trans h8
    have h10 : fr41 10 = (vI 0) := (congrFun hf42 10).trans rfl
    clear hf42
    refine thenQ.n ?_
    refine W.block ?_
    obtain ⟨y96, hy96, hr⟩ := bind_some hr
    refine W.keep (u_r07_Distances_1 _ (Zx.refl _) st h4 o4 h5 h6 h7 h8 Q31 h10 hy96) ?_
    rintro ex102 fr97 m98 hk100 ⟨z99, hz101, st, rfl, w103, h4, O105, h6, -⟩
    replace s0 := s0.mono hz101.le
    have h0 := (hk100 0 rfl).trans h0
    have h5 := (hk100 5 rfl).trans h5
    have h7 := (hk100 7 rfl).trans h7
    replace hz := hz.trans hz101
    clear hk100
    refine blockQ.hit ?_
    refine thenQ.n (W.region ?_)
    refine sx rfl (pMove (v := (vI x5)) rfl h5) ?_
    refine sx rfl (pMove (v := v0) rfl h0) ?_
    refine sx rfl (pMove (v := (vI x7)) rfl h7) ?_
    obtain ⟨y106, hy106, hr⟩ := bind_some hr
    refine SeqW.consX rfl (kIdxR (T := TWagon) (xs := x0) (n := x7) rfl Try.underlying41 Try.type30 rfl rfl rfl s0 hy106 ?_)
    intro B107 f108 cs109 hd110 hc111
    obtain rfl := hd110
    refine SeqW.consX rfl (kField rfl Try.underlying30 rfl Try.type3 rfl rfl rfl ?_)
    refine SeqW.consX rfl (kLoad (v := (vI y106.length)) rfl Try.underlying3 rfl rfl (ldz_load st.fz (hc111 1 _ rfl)) ?_)
    refine sx rfl (pMul (k := .i64) (a := 10) (b := y106.length) rfl rfl rfl) ?_
    refine sx rfl (pAdd (k := .i64) (a := x5) (b := (IntKind.wrap .i64 (10 * y106.length))) rfl rfl rfl) ?_
    obtain ⟨y112, hy112, hr⟩ := lt_some hr
    refine sx rfl (pAssign rfl (congrArg (Value.int .i64) hy112)) ?_
    refine SeqW.done fun fr113 hf114 => ?_
    have h0 := (congrFun hf114 0).trans h0
    have h4 := (congrFun hf114 4).trans h4
    have h5 : fr113 5 = (vI y112) := (congrFun hf114 5).trans rfl
    have h6 := (congrFun hf114 6).trans h6
    have h7 := (congrFun hf114 7).trans h7
    clear hf114
    refine blockQ.n ?_
    refine thenQ.n (W.region ?_)
    refine sx rfl (pMove (v := (vI x7)) rfl h7) ?_
    refine sx rfl (pAdd (k := .i64) (a := x7) (b := 1) rfl rfl rfl) ?_
    obtain ⟨y115, hy115, hr⟩ := lt_some hr
    refine sx rfl (pAssign rfl (congrArg (Value.int .i64) hy115)) ?_
    refine SeqW.done fun fr116 hf117 => ?_
    have h0 := (congrFun hf117 0).trans h0
    have h4 := (congrFun hf117 4).trans h4
    have h5 := (congrFun hf117 5).trans h5
    have h6 := (congrFun hf117 6).trans h6
    have h7 : fr116 7 = (vI y115) := (congrFun hf117 7).trans rfl
    clear hf117
    refine thenQ.n ?_
    exact ih hz st h0 s0 h4 O105 h5 h6 h7 hr
  ·refine W.condF h17 hc118 ?_
   refine W.exit ?_
   refine thenQ.x ?_
   refine thenQ.x ?_
   obtain rfl := Option.some.inj hr
   exact ⟨z, hz, st, .inl ⟨_, rfl, rfl, v4, h4, o4, trivial⟩⟩

theorem u_r07_Distances {N : Nat}  {z0 z : Nat → Blk} {e m : Mem} {k : Option Nat} {fr : Nat → Value} {x0 : List Wagon} {v0 : Value} (hz : Zx e.next z0 z) (st : St z e m k) (h0 : fr 0 = v0) (s0 : SlR TWagon z x0 v0) {r : List Int × Int} (hr : r07_Distances N x0 = some r) : W Try.prog (sub (bodyOf Try.f19) []) (fun ex fr' m' => ∃ z', Zx e.next z0 z' ∧ St z' e m' k ∧ (ex = .normal ∨ ex = .ret) ∧ ∃ (w2 : Value), fr' 2 = w2 ∧ SlR (TInt 3 .i64) z' r.1 w2 ∧ fr' 3 = (vI r.2) ∧ True) fr m := by
 unfold r07_Distances at hr
 refine W.seq (W.region ?_)
 refine sx rfl (pAssign (v := (Value.slice none 0 0)) rfl rfl) ?_
 refine sx rfl (pAssign (v := (vI 0)) rfl rfl) ?_
 refine SeqW.done fun fr1 hf2 => ?_
 have h0 := (congrFun hf2 0).trans h0
 clear hf2
 refine thenQ.n (W.seq ?_)
 refine W.seq (W.region ?_)
 refine sx rfl (pMove (v := v0) rfl h0) ?_
 refine sx rfl (pLenR (xs := x0) rfl Try.underlying41 rfl s0) ?_
 refine sx rfl (pGtr (k := .i64) (a := (x0.length : Int)) (b := 96) rfl rfl rfl) ?_
 refine SeqW.done fun fr3 hf4 => ?_
 have h0 := (congrFun hf4 0).trans h0
 have h13 : fr3 13 = (vB (decide (96 < (x0.length : Int)))) := (congrFun hf4 13).trans rfl
 clear hf4
 refine thenQ.n ?_
 rcases if_some hr with ⟨hc5, hr⟩ | ⟨hc8, hr⟩
 ·refine W.condT h13 hc5 (W.seq (W.region ?_))
  refine sx rfl (pAssign (v := (Value.slice none 0 0)) rfl rfl) ?_
  refine sx rfl (pAssign (v := (vI 3)) rfl rfl) ?_
  refine SeqW.done fun fr6 hf7 => ?_
  have h2 : fr6 2 = (Value.slice none 0 0) := (congrFun hf7 2).trans rfl
  have h3 : fr6 3 = (vI 3) := (congrFun hf7 3).trans rfl
  clear hf7
  refine thenQ.n ?_
  refine W.ret ?_
  refine thenQ.r ?_
  obtain rfl := Option.some.inj hr
  exact ⟨z, hz, st, .inr rfl, (Value.slice none 0 0), h2, SlR.nil, h3, trivial⟩
 ·refine W.condF h13 hc8 (W.skip ?_)
  refine thenQ.n (W.seq (W.region ?_))
  refine sx rfl (pAssign (v := (Value.slice none 0 0)) rfl rfl) ?_
  refine SeqW.done fun fr9 hf10 => ?_
  have h0 := (congrFun hf10 0).trans h0
  have h4 : fr9 4 = (Value.slice none 0 0) := (congrFun hf10 4).trans rfl
  clear hf10
  refine thenQ.n (W.seq (W.region ?_))
  refine sx rfl (pAssign (v := (vI 0)) rfl rfl) ?_
  refine sx rfl (pAssign (v := (vI 0)) rfl rfl) ?_
  refine SeqW.done fun fr11 hf12 => ?_
  have h0 := (congrFun hf12 0).trans h0
  have h4 := (congrFun hf12 4).trans h4
  have h5 : fr11 5 = (vI 0) := (congrFun hf12 5).trans rfl
  have h6 : fr11 6 = (vI 0) := (congrFun hf12 6).trans rfl
  clear hf12
  refine thenQ.n (W.seq ?_)
  refine W.seq (W.region ?_)
  refine sx rfl (pAssign (v := (vI 0)) rfl rfl) ?_
  refine SeqW.done fun fr13 hf14 => ?_
  have h0 := (congrFun hf14 0).trans h0
  have h4 := (congrFun hf14 4).trans h4
  have h5 := (congrFun hf14 5).trans h5
  have h6 := (congrFun hf14 6).trans h6
  have h7 : fr13 7 = (vI 0) := (congrFun hf14 7).trans rfl
  clear hf14
  refine thenQ.n ?_
  refine W.block ?_
  obtain ⟨y119, hy119, hr⟩ := bind_some hr
  refine W.keep (u_r07_Distances_0 _ (Zx.refl _) st h0 s0 h4 OwF.nil h5 h6 h7 hy119) ?_
  rintro ex125 fr120 m121 hk123 ⟨z122, hz124, st, ⟨y126, rfl, rfl, w127, h4, O129, -⟩ | ⟨y136, rfl, rfl, h2, h3, -⟩⟩
  ·dsimp only at hr
   replace hz := hz.trans hz124
   clear hk123
   refine blockQ.hit ?_
   refine thenQ.n (W.seq (W.region ?_))
   refine sx rfl (pMove (v := w127) rfl h4) ?_
   refine sx rfl (pAssign (v := w127) rfl rfl) ?_
   refine sx rfl (pAssign (v := (vI 0)) rfl rfl) ?_
   refine SeqW.done fun fr130 hf131 => ?_
   have h2 : fr130 2 = w127 := (congrFun hf131 2).trans rfl
   have h3 : fr130 3 = (vI 0) := (congrFun hf131 3).trans rfl
   clear hf131
   refine thenQ.n ?_
   refine W.ret ?_
   obtain ⟨z132, hz133, st, Q134, hl135⟩ := O129.freeze st
   replace hz := hz.trans hz133
   obtain rfl := Option.some.inj hr
   exact ⟨z132, hz, st, .inr rfl, w127, h2, Q134, h3, trivial⟩
  ·dsimp only at hr
   replace hz := hz.trans hz124
   clear hk123
   refine blockQ.r ?_
   refine thenQ.r ?_
   obtain rfl := Option.some.inj hr
   exact ⟨z122, hz, st, .inr rfl, (Value.slice none 0 0), h2, SlR.nil, h3, trivial⟩

theorem c_r07_Distances {N : Nat} {z : Nat → Blk} {m : Mem} {x0 : List Wagon} {v0 : Value} (fz : Fz z m) (hd : ∀ b, m.next ≤ b → m.blk b = .dead) (s0 : SlR TWagon z x0 v0) {r : List Int × Int} (hr : r07_Distances N x0 = some r) : CallW Try.prog 19 #[v0] m fun v m' => ∃ z' w2, Zx m.next z z' ∧ Fz z' m' ∧ Same m m' none ∧ v = (Value.tuple [w2, (vI r.2)].toArray) ∧ SlR (TInt 3 .i64) z' r.1 w2 ∧ True := by
 refine CallW.any Try.func19 rfl (by kernel_rfl) (Nat.le_of_ble_eq_true rfl) (fun fr hf => ?_)
 have h0 : fr 0 = _ := hf 0 _ rfl
 refine (u_r07_Distances (k := none) (Zx.refl _) (St.start fz hd) h0 s0 hr).mono ?_
 rintro ex fr' m' ⟨z', hz, st, he, w2, h2, s2, h3, -⟩
 exact ⟨he, [w2, (vI r.2)], ⟨h2.symm, h3.symm, trivial⟩, .inr (List.forall_mem_cons.2 ⟨s2.stor.1, List.forall_mem_cons.2 ⟨rfl, fun _ h => nomatch h⟩⟩), z', w2, hz, st.fz, st.toSame, rfl, s2, trivial⟩

/-! ### humpyard/humpyardlaw07.patterns -/

theorem u_l07_patterns_1 : ∀ (n : Nat) {N : Nat}  {z0 z : Nat → Blk} {e m : Mem} {k : Option Nat} {fr : Nat → Value} {x5 : List Int} {x7 : List Int} {x8 : Int} {x3 : List (List Int)} {v3 : Value} {v5 : Value} {v7 : Value} (hz : Zx e.next z0 z) (st : St z e m k) (h3 : fr 3 = v3) (o3 : OwF (TSl 22 (TInt 3 .i64)) z e m k x3 v3) (h5 : fr 5 = v5) (s5 : SlR (TInt 3 .i64) z x5 v5) (h7 : fr 7 = v7) (o7 : OwF (TInt 3 .i64) z e m k x7 v7) (h8 : fr 8 = (vI x8)) (ao3_o7 : Ap (blkOf v3) (blkOf v7)) {r : List Int} (hr : l07_patterns_1 N x5 n x7 x8 = some r), W Try.prog (sub (bodyOf Try.f20) [1, 1, 0, 1, 0, 0, 1, 0, 0, 1, 1, 0, 1, 0]) (fun ex fr' m' => ∃ z', Zx e.next z0 z' ∧ St z' e m' k ∧ ex = AExit.exit 2 ∧ ∃ (w7 : Value), fr' 7 = w7 ∧ OwF (TInt 3 .i64) z' e m' k r w7 ∧ OwF (TSl 22 (TInt 3 .i64)) z' e m' k x3 v3 ∧ Ap (blkOf w7) (blkOf v3) ∧ True) fr m := by
 intro n
 induction n with
 | zero => intro N z0 z e m k fr x5 x7 x8 x3 v3 v5 v7 hz st h3 o3 h5 s5 h7 o7 h8 ao3_o7 r hr; cases (show (none : Option _) = some r from hr)
 | succ n ih =>
  intro N z0 z e m k fr x5 x7 x8 x3 v3 v5 v7 hz st h3 o3 h5 s5 h7 o7 h8 ao3_o7 r hr
  unfold l07_patterns_1 at hr
  refine W.loop1 ?_
  refine W.seq (W.seq (W.region ?_))
  refine sx rfl (pMove (v := (vI x8)) rfl h8) ?_
  refine sx rfl (pMove (v := v5) rfl h5) ?_
  refine sx rfl (pLenR (xs := x5) rfl Try.underlying22 rfl s5) ?_
  refine sx rfl (pLss (k := .i64) (a := x8) (b := (x5.length : Int)) rfl rfl rfl) ?_
  refine SeqW.done fun fr31 hf32 => ?_
  have h3 := (congrFun hf32 3).trans h3
  have h5 := (congrFun hf32 5).trans h5
  have h7 := (congrFun hf32 7).trans h7
  have h8 := (congrFun hf32 8).trans h8
  have h26 : fr31 26 = (vB (decide (x8 < (x5.length : Int)))) := (congrFun hf32 26).trans rfl
  clear hf32
  refine thenQ.n ?_
  rcases if_some hr with ⟨hc33, hr⟩ | ⟨hc72, hr⟩
  ·refine W.condT h26 hc33 (W.skip ?_)
   refine thenQ.n (W.seq ?_)
   refine W.block ?_
   refine W.draw ?_
   refine DrawW.cons rfl (StepX.pure (pMove (v := v7) rfl h7) ?_)
   refine ⟨trivial, ?_⟩
   refine DrawW.cons rfl (StepX.pure (pMove (v := v5) rfl h5) ?_)
   refine ⟨trivial, ?_⟩
   refine DrawW.cons rfl (StepX.pure (pMove (v := (vI x8)) rfl h8) ?_)
   refine ⟨trivial, ?_⟩
   obtain ⟨y34, hy34, hr⟩ := bind_some hr
   refine DrawW.cons rfl (kIdxR (T := (TInt 3 .i64)) (xs := x5) (n := x8) rfl Try.underlying22 Try.type3 rfl rfl rfl s5 hy34 ?_)
   intro B35 f36 cs37 hd38 hc39
   obtain rfl := hd38
   refine ⟨trivial, ?_⟩
   refine DrawW.cons rfl (kLoad (v := (vI y34)) rfl Try.underlying3 rfl rfl (ldz_load st.fz (hc39 0 _ rfl)) ?_)
   refine ⟨?_, ?_⟩
   ·exact demN
   refine DrawW.cons rfl (StepX.pure (pMove (v := v5) rfl h5) ?_)
   refine ⟨trivial, ?_⟩
   refine DrawW.cons rfl (StepX.pure (pMove (v := (vI x8)) rfl h8) ?_)
   refine ⟨trivial, ?_⟩
   refine DrawW.cons rfl (StepX.pure (pSub (k := .i64) (a := x8) (b := 1) rfl rfl rfl) ?_)
   refine ⟨trivial, ?_⟩
   obtain ⟨y40, hy40, hr⟩ := bind_some hr
   refine DrawW.cons rfl (kIdxR (T := (TInt 3 .i64)) (xs := x5) (n := (IntKind.wrap .i64 (x8 - 1))) rfl Try.underlying22 Try.type3 rfl rfl rfl s5 hy40 ?_)
   intro B41 f42 cs43 hd44 hc45
   obtain rfl := hd44
   refine ⟨trivial, ?_⟩
   refine DrawW.cons rfl (kLoad (v := (vI y40)) rfl Try.underlying3 rfl rfl (ldz_load st.fz (hc45 0 _ rfl)) ?_)
   refine ⟨?_, ?_⟩
   ·exact demN
   refine DrawW.cons rfl (StepX.pure (pSub (k := .i64) (a := y34) (b := y40) rfl rfl rfl) ?_)
   refine ⟨trivial, ?_⟩
   refine DrawW.cons rfl (kBuild (T := (TInt 3 .i64)) rfl Try.underlying22 Try.type3 rfl rfl rfl rfl ([(IntKind.wrap .i64 (y34 - y40))] : List Int) [[(vI (IntKind.wrap .i64 (y34 - y40)))]] rfl rfl rfl (BuildOk.mk (w := (vI (IntKind.wrap .i64 (y34 - y40)))) rfl rfl rfl rfl trivial) st ?_)
   intro V46 m47 st O48 sm49 hap50
   have A52 := hap50 _ o3.lt
   have A53 := hap50 _ o7.lt
   replace o3 := o3.same sm49 Ap.none'
   replace o7 := o7.same sm49 Ap.none'
   refine ⟨trivial, ?_⟩
   have sto54 := st
   have old55 := o3
   have old56 := o7
   have old57 := O48
   obtain ⟨y58, hy58, hr⟩ := bind_some hr
   refine DrawW.cons rfl (kAppend (T := (TInt 3 .i64)) (xs := x7) (ys := ([(IntKind.wrap .i64 (y34 - y40))] : List Int)) rfl Try.underlying22 Try.type3 rfl rfl rfl rfl rfl rfl (.inl ⟨_, Try.underlying22⟩) rfl o7 rfl O48.ow.src st hy58 ?_)
   intro V59 m60 st O61 sm62 hap63
   have A65 := hap63 _ o3.lt ao3_o7
   have A66 := hap63 _ O48.lt (Ap.symm A53)
   replace o3 := o3.same sm62 ao3_o7
   replace O48 := O48.same sm62 (Ap.symm A53)
   refine ⟨⟨?_, ?_⟩, ?_⟩
   ·first | refine demP (gLoad (v := (vI y40)) rfl Try.underlying3 rfl rfl (ldz_load st.fz (hc45 0 _ rfl))) ?_ | refine demA (by decide) ?_
    first | refine demP (gLoad (v := (vI y34)) rfl Try.underlying3 rfl rfl (ldz_load st.fz (hc39 0 _ rfl))) ?_ | refine demA (by decide) ?_
    exact demN
   ·first | refine demP (rfl) ?_ | refine demA (by decide) ?_
    exact demN
   refine DrawW.cons rfl (StepX.pure (pAssign (v := V59) rfl rfl) ?_)
   refine ⟨trivial, ?_⟩
   refine DrawW.done fun fr67 hf68 => ?_
   have h3 := (congrFun hf68 3).trans h3
   have h5 := (congrFun hf68 5).trans h5
   have h7 : fr67 7 = V59 := (congrFun hf68 7).trans rfl
   have h8 := (congrFun hf68 8).trans h8
   clear hf68
   refine blockQ.n ?_
   refine thenQ.n (W.region ?_)
   refine sx rfl (pMove (v := (vI x8)) rfl h8) ?_
   refine sx rfl (pAdd (k := .i64) (a := x8) (b := 1) rfl rfl rfl) ?_
   obtain ⟨y69, hy69, hr⟩ := lt_some hr
   refine sx rfl (pAssign rfl (congrArg (Value.int .i64) hy69)) ?_
   refine SeqW.done fun fr70 hf71 => ?_
   have h3 := (congrFun hf71 3).trans h3
   have h5 := (congrFun hf71 5).trans h5
   have h7 := (congrFun hf71 7).trans h7
   have h8 : fr70 8 = (vI y69) := (congrFun hf71 8).trans rfl
   clear hf71
   refine thenQ.n ?_
   exact ih hz st h3 o3 h5 s5 h7 O61 h8 A65 hr
  ·refine W.condF h26 hc72 ?_
   refine W.exit ?_
   refine thenQ.x ?_
   refine thenQ.x ?_
   obtain rfl := Option.some.inj hr
   exact ⟨z, hz, st, rfl, v7, h7, o7, o3, (Ap.symm ao3_o7), trivial⟩

theorem u_l07_patterns_0 : ∀ (n : Nat) {N : Nat}  {z0 z : Nat → Blk} {e m : Mem} {k : Option Nat} {fr : Nat → Value} {x0 : List Wagon} {x3 : List (List Int)} {x4 : Int} {v0 : Value} {v3 : Value} (hz : Zx e.next z0 z) (st : St z e m k) (h0 : fr 0 = v0) (s0 : SlR TWagon z x0 v0) (h3 : fr 3 = v3) (o3 : OwF (TSl 22 (TInt 3 .i64)) z e m k x3 v3) (h4 : fr 4 = (vI x4)) {r : List (List Int)} (hr : l07_patterns_0 N x0 n x3 x4 = some r), W Try.prog (sub (bodyOf Try.f20) [1, 1, 0, 1, 0]) (fun ex fr' m' => ∃ z', Zx e.next z0 z' ∧ St z' e m' k ∧ ex = AExit.exit 0 ∧ ∃ (w3 : Value), fr' 3 = w3 ∧ OwF (TSl 22 (TInt 3 .i64)) z' e m' k r w3 ∧ True) fr m := by
 intro n
 induction n with
 | zero => intro N z0 z e m k fr x0 x3 x4 v0 v3 hz st h0 s0 h3 o3 h4 r hr; cases (show (none : Option _) = some r from hr)
 | succ n ih =>
  intro N z0 z e m k fr x0 x3 x4 v0 v3 hz st h0 s0 h3 o3 h4 r hr
  unfold l07_patterns_0 at hr
  refine W.loop1 ?_
  refine W.seq (W.seq (W.region ?_))
  refine sx rfl (pMove (v := (vI x4)) rfl h4) ?_
  refine sx rfl (pMove (v := v0) rfl h0) ?_
  refine sx rfl (pLenR (xs := x0) rfl Try.underlying41 rfl s0) ?_
  refine sx rfl (pLss (k := .i64) (a := x4) (b := (x0.length : Int)) rfl rfl rfl) ?_
  refine SeqW.done fun fr7 hf8 => ?_
  have h0 := (congrFun hf8 0).trans h0
  have h3 := (congrFun hf8 3).trans h3
  have h4 := (congrFun hf8 4).trans h4
  have h12 : fr7 12 = (vB (decide (x4 < (x0.length : Int)))) := (congrFun hf8 12).trans rfl
  clear hf8
  refine thenQ.n ?_
  rcases if_some hr with ⟨hc9, hr⟩ | ⟨hc109, hr⟩
  ·refine W.condT h12 hc9 (W.skip ?_)
   refine thenQ.n (W.seq ?_)
   refine W.block ?_
   refine W.seq (W.region ?_)
   refine sx rfl (pMove (v := v0) rfl h0) ?_
   refine sx rfl (pMove (v := (vI x4)) rfl h4) ?_
   obtain ⟨y10, hy10, hr⟩ := bind_some hr
   refine SeqW.consX rfl (kIdxR (T := TWagon) (xs := x0) (n := x4) rfl Try.underlying41 Try.type30 rfl rfl rfl s0 hy10 ?_)
   intro B11 f12 cs13 hd14 hc15
   obtain rfl := hd14
   refine SeqW.consX rfl (kLoadA rfl Try.underlying30 rfl Try.type30 rfl rfl (st.loads hc15) ?_)
   obtain ⟨y16, hy16, hr⟩ := bind_some hr
   refine SeqW.consX rfl (StepX.call (gCallee rfl rfl (args1 rfl)) ((c_r07_Offsets (x0 := y10) (z := z) st.fz st.dead  hy16).mono ?_))
   rintro _ m21 ⟨z17, V22, hzx18, fz19, sm20, rfl, Q23, -⟩
   replace s0 := s0.mono hzx18.le
   replace o3 := o3.call hzx18 sm20 Ap.none'
   replace hz := hz.trans (Zx.here st hzx18)
   replace st := st.call hzx18 fz19 sm20 no_hq
   refine sx rfl (pMove (v := (Value.tuple [V22, (vI y16.2)].toArray)) rfl rfl) ?_
   refine sx rfl (pExtract (vs := [V22, (vI y16.2)]) (v := V22) rfl rfl rfl) ?_
   refine sx rfl (pExtract (vs := [V22, (vI y16.2)]) (v := (vI y16.2)) rfl rfl rfl) ?_
   refine sx rfl (pAssign (v := V22) rfl rfl) ?_
   refine sx rfl (pAssign (v := (vI y16.2)) rfl rfl) ?_
   refine SeqW.done fun fr25 hf26 => ?_
   have h0 := (congrFun hf26 0).trans h0
   have h3 := (congrFun hf26 3).trans h3
   have h4 := (congrFun hf26 4).trans h4
   have h5 : fr25 5 = V22 := (congrFun hf26 5).trans rfl
   clear hf26
   refine thenQ.n (W.seq (W.region ?_))
   refine sx rfl (pAssign (v := (Value.slice none 0 0)) rfl rfl) ?_
   refine SeqW.done fun fr27 hf28 => ?_
   have h0 := (congrFun hf28 0).trans h0
   have h3 := (congrFun hf28 3).trans h3
   have h4 := (congrFun hf28 4).trans h4
   have h5 := (congrFun hf28 5).trans h5
   have h7 : fr27 7 = (Value.slice none 0 0) := (congrFun hf28 7).trans rfl
   clear hf28
   refine thenQ.n (W.seq ?_)
   refine W.seq (W.region ?_)
   refine sx rfl (pAssign (v := (vI 1)) rfl rfl) ?_
   refine SeqW.done fun fr29 hf30 => ?_
   have h0 := (congrFun hf30 0).trans h0
   have h3 := (congrFun hf30 3).trans h3
   have h4 := (congrFun hf30 4).trans h4
   have h5 := (congrFun hf30 5).trans h5
   have h7 := (congrFun hf30 7).trans h7
   have h8 : fr29 8 = (vI 1) := (congrFun hf30 8).trans rfl
   clear hf30
   refine thenQ.n ?_
   refine W.block ?_
   obtain ⟨y73, hy73, hr⟩ := bind_some hr
   refine W.keep (u_l07_patterns_1 _ (Zx.refl _) st h3 o3 h5 Q23 h7 OwF.nil h8 Ap.none' hy73) ?_
   rintro ex79 fr74 m75 hk77 ⟨z76, hz78, st, rfl, w80, h7, O82, O83, A84, -⟩
   replace s0 := s0.mono hz78.le
   have h0 := (hk77 0 rfl).trans h0
   have h3 := (hk77 3 rfl).trans h3
   have h4 := (hk77 4 rfl).trans h4
   replace hz := hz.trans hz78
   clear hk77
   refine blockQ.hit ?_
   refine thenQ.n (W.region ?_)
   refine sx rfl (pMove (v := v3) rfl h3) ?_
   refine sx rfl (pMove (v := w80) rfl h7) ?_
   obtain ⟨z85, hz86, st, Q87, hl88⟩ := O82.freeze st
   replace s0 := s0.mono hz86.le
   replace O83 := O83.zle hz86.le (hl88 _ (Ap.symm A84))
   replace hz := hz.trans hz86
   refine SeqW.consX rfl (kBuild (T := (TSl 22 (TInt 3 .i64))) rfl Try.underlying23 Try.type22 rfl rfl rfl rfl ([y73] : List (List Int)) [[w80]] rfl rfl rfl (BuildOk.mk (w := w80) rfl Q87.stor.1 Q87.stor.2 ⟨_, rfl, Q87⟩ trivial) st ?_)
   intro V89 m90 st O91 sm92 hap93
   have A95 := hap93 _ O83.lt
   replace O83 := O83.same sm92 Ap.none'
   obtain ⟨y96, hy96, hr⟩ := bind_some hr
   refine SeqW.consX rfl (kAppend (T := (TSl 22 (TInt 3 .i64))) (xs := x3) (ys := ([y73] : List (List Int))) rfl Try.underlying23 Try.type22 rfl rfl rfl rfl rfl rfl (.inl ⟨_, Try.underlying23⟩) rfl O83 rfl O91.ow.src st hy96 ?_)
   intro V97 m98 st O99 sm100 hap101
   have A103 := hap101 _ O91.lt (Ap.symm A95)
   replace O91 := O91.same sm100 (Ap.symm A95)
   refine sx rfl (pAssign (v := V97) rfl rfl) ?_
   refine SeqW.done fun fr104 hf105 => ?_
   have h0 := (congrFun hf105 0).trans h0
   have h3 : fr104 3 = V97 := (congrFun hf105 3).trans rfl
   have h4 := (congrFun hf105 4).trans h4
   clear hf105
   refine blockQ.n ?_
   refine thenQ.n (W.region ?_)
   refine sx rfl (pMove (v := (vI x4)) rfl h4) ?_
   refine sx rfl (pAdd (k := .i64) (a := x4) (b := 1) rfl rfl rfl) ?_
   obtain ⟨y106, hy106, hr⟩ := lt_some hr
   refine sx rfl (pAssign rfl (congrArg (Value.int .i64) hy106)) ?_
   refine SeqW.done fun fr107 hf108 => ?_
   have h0 := (congrFun hf108 0).trans h0
   have h3 := (congrFun hf108 3).trans h3
   have h4 : fr107 4 = (vI y106) := (congrFun hf108 4).trans rfl
   clear hf108
   refine thenQ.n ?_
   exact ih hz st h0 s0 h3 O99 h4 hr
  ·refine W.condF h12 hc109 ?_
   refine W.exit ?_
   refine thenQ.x ?_
   refine thenQ.x ?_
   obtain rfl := Option.some.inj hr
   exact ⟨z, hz, st, rfl, v3, h3, o3, trivial⟩

theorem u_l07_patterns {N : Nat}  {z0 z : Nat → Blk} {e m : Mem} {k : Option Nat} {fr : Nat → Value} {x0 : List Wagon} {v0 : Value} (hz : Zx e.next z0 z) (st : St z e m k) (h0 : fr 0 = v0) (s0 : SlR TWagon z x0 v0) {r : List (List Int)} (hr : l07_patterns N x0 = some r) : W Try.prog (sub (bodyOf Try.f20) []) (fun ex fr' m' => ∃ z', Zx e.next z0 z' ∧ St z' e m' k ∧ (ex = .normal ∨ ex = .ret) ∧ ∃ (w2 : Value), fr' 2 = w2 ∧ SlR (TSl 22 (TInt 3 .i64)) z' r w2 ∧ True) fr m := by
 unfold l07_patterns at hr
 refine W.seq (W.region ?_)
 refine sx rfl (pAssign (v := (Value.slice none 0 0)) rfl rfl) ?_
 refine SeqW.done fun fr1 hf2 => ?_
 have h0 := (congrFun hf2 0).trans h0
 clear hf2
 refine thenQ.n (W.seq (W.region ?_))
 refine sx rfl (pAssign (v := (Value.slice none 0 0)) rfl rfl) ?_
 refine SeqW.done fun fr3 hf4 => ?_
 have h0 := (congrFun hf4 0).trans h0
 have h3 : fr3 3 = (Value.slice none 0 0) := (congrFun hf4 3).trans rfl
 clear hf4
 refine thenQ.n (W.seq ?_)
 refine W.seq (W.region ?_)
 refine sx rfl (pAssign (v := (vI 0)) rfl rfl) ?_
 refine SeqW.done fun fr5 hf6 => ?_
 have h0 := (congrFun hf6 0).trans h0
 have h3 := (congrFun hf6 3).trans h3
 have h4 : fr5 4 = (vI 0) := (congrFun hf6 4).trans rfl
 clear hf6
 refine thenQ.n ?_
 refine W.block ?_
 obtain ⟨y110, hy110, hr⟩ := bind_some hr
 refine W.keep (u_l07_patterns_0 _ (Zx.refl _) st h0 s0 h3 OwF.nil h4 hy110) ?_
 rintro ex116 fr111 m112 hk114 ⟨z113, hz115, st, rfl, w117, h3, O119, -⟩
 replace hz := hz.trans hz115
 clear hk114
 refine blockQ.hit ?_
 refine thenQ.n (W.seq (W.region ?_))
 refine sx rfl (pMove (v := w117) rfl h3) ?_
 refine sx rfl (pAssign (v := w117) rfl rfl) ?_
 refine SeqW.done fun fr120 hf121 => ?_
 have h2 : fr120 2 = w117 := (congrFun hf121 2).trans rfl
 clear hf121
 refine thenQ.n ?_
 refine W.ret ?_
 obtain ⟨z122, hz123, st, Q124, hl125⟩ := O119.freeze st
 replace hz := hz.trans hz123
 obtain rfl := Option.some.inj hr
 exact ⟨z122, hz, st, .inr rfl, w117, h2, Q124, trivial⟩

theorem c_l07_patterns {N : Nat} {z : Nat → Blk} {m : Mem} {x0 : List Wagon} {v0 : Value} (fz : Fz z m) (hd : ∀ b, m.next ≤ b → m.blk b = .dead) (s0 : SlR TWagon z x0 v0) {r : List (List Int)} (hr : l07_patterns N x0 = some r) : CallW Try.prog 20 #[v0] m fun v m' => ∃ z' w2, Zx m.next z z' ∧ Fz z' m' ∧ Same m m' none ∧ v = w2 ∧ SlR (TSl 22 (TInt 3 .i64)) z' r w2 ∧ True := by
 refine CallW.any Try.func20 rfl (by kernel_rfl) (Nat.le_of_ble_eq_true rfl) (fun fr hf => ?_)
 have h0 : fr 0 = _ := hf 0 _ rfl
 refine (u_l07_patterns (k := none) (Zx.refl _) (St.start fz hd) h0 s0 hr).mono ?_
 rintro ex fr' m' ⟨z', hz, st, he, w2, h2, s2, -⟩
 exact ⟨he, [w2], ⟨h2.symm, trivial⟩, .inl rfl, z', w2, hz, st.fz, st.toSame, rfl, s2, trivial⟩

/-! ### (*humpyard/humpgen.Maker).From -/

theorem u_Maker_From {N : Nat}  {z0 z : Nat → Blk} {e m : Mem} {k : Option Nat} {fr : Nat → Value} {x0 : Maker} {x1 : Int} {x2 : Int} {v0_0 : Value} {b0 : Nat} (hz : Zx e.next z0 z) (st : St z e m k) (h0 : fr 0 = (vP b0)) (s0_0 : SlR (TInt 3 .i64) z x0.l v0_0) (bx0 : Bx z e m k b0 [v0_0, (vI x0.n)] 56) (h1 : fr 1 = (vI x1)) (h2 : fr 2 = (vI x2)) {r : Int × Maker} (hr : Maker_From N x0 x1 x2 = some r) : W Try.prog (sub (bodyOf Try.f21) []) (fun ex fr' m' => ∃ z', Zx e.next z0 z' ∧ St z' e m' k ∧ (ex = .normal ∨ ex = .ret) ∧ ∃ (wr_0 : Value), fr' 6 = (vI r.1) ∧ SlR (TInt 3 .i64) z' r.2.l wr_0 ∧ Bx z' e m' k b0 [wr_0, (vI r.2.n)] 56 ∧ True) fr m := by
 unfold Maker_From at hr
 refine W.seq (W.region ?_)
 refine sx rfl (pAssign (v := (vI 0)) rfl rfl) ?_
 refine SeqW.done fun fr1 hf2 => ?_
 have h0 := (congrFun hf2 0).trans h0
 have h1 := (congrFun hf2 1).trans h1
 have h2 := (congrFun hf2 2).trans h2
 clear hf2
 refine thenQ.n (W.seq (W.region ?_))
 refine sx rfl (pMove (v := (vI x1)) rfl h1) ?_
 refine sx rfl (pMove (v := (vP b0)) rfl h0) ?_
 refine sx rfl (pMove (v := (vI x2)) rfl h2) ?_
 refine sx rfl (pMove (v := (vI x1)) rfl h1) ?_
 refine sx rfl (pSub (k := .i64) (a := x2) (b := x1) rfl rfl rfl) ?_
 refine sx rfl (pAdd (k := .i64) (a := (IntKind.wrap .i64 (x2 - x1))) (b := 1) rfl rfl rfl) ?_
 obtain ⟨y3, hy3, hr⟩ := bind_some hr
 refine SeqW.consX rfl (StepX.call (gCallee rfl rfl (args2 rfl rfl)) ((c_Maker_Next (x0 := x0) (z := z) st.fz st.dead s0_0 ⟨bx0.blk, bx0.lt, bx0.dead, .inr rfl⟩ hy3).mono ?_))
 rintro _ m8 ⟨z4, V9, hzx5, fz6, sm7, rfl, Q10, X12, -⟩
 replace s0_0 := s0_0.mono hzx5.le
 have bx0n : Bx z4 e m8 k b0 _ _ := ⟨X12.blk, X12.lt, X12.dead, bx0.fresh⟩
 replace hz := hz.trans (Zx.here st hzx5)
 replace st := st.call hzx5 fz6 sm7 bx0.hq
 refine sx rfl (pAdd (k := .i64) (a := x1) (b := y3.1) rfl rfl rfl) ?_
 obtain ⟨y13, hy13, hr⟩ := lt_some hr
 refine sx rfl (pAssign rfl (congrArg (Value.int .i64) hy13)) ?_
 refine SeqW.done fun fr14 hf15 => ?_
 have h0 := (congrFun hf15 0).trans h0
 have h6 : fr14 6 = (vI y13) := (congrFun hf15 6).trans rfl
 clear hf15
 refine thenQ.n ?_
 refine W.ret ?_
 obtain rfl := Option.some.inj hr
 exact ⟨z4, hz, st, .inr rfl, V9, h6, Q10, bx0n, trivial⟩

theorem c_Maker_From {N : Nat} {z : Nat → Blk} {m : Mem} {x0 : Maker} {x1 : Int} {x2 : Int} {v0_0 : Value} {b0 : Nat} (fz : Fz z m) (hd : ∀ b, m.next ≤ b → m.blk b = .dead) (s0_0 : SlR (TInt 3 .i64) z x0.l v0_0) (bx0 : Bx z m m (some b0) b0 [v0_0, (vI x0.n)] 56) {r : Int × Maker} (hr : Maker_From N x0 x1 x2 = some r) : CallW Try.prog 21 #[(vP b0), (vI x1), (vI x2)] m fun v m' => ∃ z' wr_0, Zx m.next z z' ∧ Fz z' m' ∧ Same m m' (some b0) ∧ v = (vI r.1) ∧ SlR (TInt 3 .i64) z' r.2.l wr_0 ∧ Bx z' m m' (some b0) b0 [wr_0, (vI r.2.n)] 56 ∧ True := by
 refine CallW.any Try.func21 rfl (by kernel_rfl) (Nat.le_of_ble_eq_true rfl) (fun fr hf => ?_)
 have h0 : fr 0 = _ := hf 0 _ rfl
 have h1 : fr 1 = _ := hf 1 _ rfl
 have h2 : fr 2 = _ := hf 2 _ rfl
 refine (u_Maker_From (k := (some b0)) (Zx.refl _) (St.start fz hd) h0 s0_0 bx0 h1 h2 hr).mono ?_
 rintro ex fr' m' ⟨z', hz, st, he, wr_0, h6, sr_0, bxr, -⟩
 exact ⟨he, [(vI r.1)], ⟨h6.symm, trivial⟩, .inl rfl, z', wr_0, hz, st.fz, st.toSame, rfl, sr_0, bxr, trivial⟩

/-! ### humpyard/humpyardlaw07.WheelKnown -/

theorem u_l07_WheelKnown_0 {N : Nat}  {z0 z : Nat → Blk} {e m : Mem} {k : Option Nat} {fr : Nat → Value} {x9 : Int} {x10 : Int} {x3 : Maker} {v3_0 : Value} {b3 : Nat} (hz : Zx e.next z0 z) (st : St z e m k) (h3 : fr 3 = (vP b3)) (s3_0 : SlR (TInt 3 .i64) z x3.l v3_0) (bx3 : Bx z e m k b3 [v3_0, (vI x3.n)] 56) (h9 : fr 9 = (vI x9)) (h10 : fr 10 = (vI x10)) {r : Bool} (hr : l07_WheelKnown_0 N x9 x10 = some r) : W Try.prog (sub (bodyOf Try.f6) [1, 1, 1, 1, 1, 1, 1, 0, 0]) (fun ex fr' m' => ∃ z', Zx e.next z0 z' ∧ St z' e m' k ∧ ex = AExit.normal ∧ fr' 49 = (vB r) ∧ Bx z' e m' k b3 [v3_0, (vI x3.n)] 56 ∧ True) fr m := by
 unfold l07_WheelKnown_0 at hr
 refine W.region ?_
 refine sx rfl (pMove (v := (vI x10)) rfl h10) ?_
 refine sx rfl (pNeq (k := .i64) (a := x10) (b := 0) rfl rfl rfl) ?_
 refine sx rfl (pMove (v := (vB (x10 != 0))) rfl rfl) ?_
 rcases if_some hr with ⟨hc78, hr⟩ | ⟨hc81, hr⟩
 ·refine kx rfl rfl rfl hc78 ?_
  refine kx rfl rfl rfl hc78 ?_
  refine sx rfl (pPick (t := true) (v := (vB true)) rfl ((congrArg vB hc78)) rfl) ?_
  refine SeqW.done fun fr79 hf80 => ?_
  have h3 := (congrFun hf80 3).trans h3
  have h49 : fr79 49 = (vB true) := (congrFun hf80 49).trans rfl
  clear hf80
  obtain rfl := Option.some.inj hr
  exact ⟨z, hz, st, rfl, h49, bx3, trivial⟩
 ·refine SeqW.consG rfl rfl rfl hc81 (StepX.pure (pMove (v := (vI x9)) rfl h9) ?_)
  refine SeqW.consG rfl rfl rfl hc81 (StepX.pure (pNeq (k := .i64) (a := x9) (b := 0) rfl rfl rfl) ?_)
  refine sx rfl (pPick (t := false) (v := (vB (x9 != 0))) rfl ((congrArg vB hc81)) rfl) ?_
  refine SeqW.done fun fr82 hf83 => ?_
  have h3 := (congrFun hf83 3).trans h3
  have h49 : fr82 49 = (vB (x9 != 0)) := (congrFun hf83 49).trans rfl
  clear hf83
  obtain rfl := Option.some.inj hr
  exact ⟨z, hz, st, rfl, h49, bx3, trivial⟩

theorem u_l07_WheelKnown_2 {N : Nat}  {z0 z : Nat → Blk} {e m : Mem} {k : Option Nat} {fr : Nat → Value} {x7 : List (List Int)} {x13 : Int} {x3 : Maker} {v3_0 : Value} {b3 : Nat} {v7 : Value} (hz : Zx e.next z0 z) (st : St z e m k) (h3 : fr 3 = (vP b3)) (s3_0 : SlR (TInt 3 .i64) z x3.l v3_0) (bx3 : Bx z e m k b3 [v3_0, (vI x3.n)] 56) (h7 : fr 7 = v7) (s7 : SlR (TSl 22 (TInt 3 .i64)) z x7 v7) (h13 : fr 13 = (vI x13)) {r : Bool} (hr : l07_WheelKnown_2 N x7 x13 = some r) : W Try.prog (sub (bodyOf Try.f6) [1, 1, 1, 1, 1, 1, 1, 1, 1, 0, 1, 0, 0, 1, 1, 0, 0, 1, 0, 0]) (fun ex fr' m' => ∃ z', Zx e.next z0 z' ∧ St z' e m' k ∧ ex = AExit.normal ∧ fr' 63 = (vB r) ∧ Bx z' e m' k b3 [v3_0, (vI x3.n)] 56 ∧ True) fr m := by
 unfold l07_WheelKnown_2 at hr
 refine W.region ?_
 refine sx rfl (pMove (v := (vI x13)) rfl h13) ?_
 refine sx rfl (pLss (k := .i64) (a := x13) (b := 0) rfl rfl rfl) ?_
 refine sx rfl (pMove (v := (vB (decide (x13 < 0)))) rfl rfl) ?_
 rcases if_some hr with ⟨hc111, hr⟩ | ⟨hc114, hr⟩
 ·refine kx rfl rfl rfl hc111 ?_
  iterate 3 refine kx rfl rfl rfl hc111 ?_
  refine sx rfl (pPick (t := true) (v := (vB true)) rfl ((congrArg vB hc111)) rfl) ?_
  refine SeqW.done fun fr112 hf113 => ?_
  have h3 := (congrFun hf113 3).trans h3
  have h7 := (congrFun hf113 7).trans h7
  have h13 := (congrFun hf113 13).trans h13
  have h63 : fr112 63 = (vB true) := (congrFun hf113 63).trans rfl
  clear hf113
  obtain rfl := Option.some.inj hr
  exact ⟨z, hz, st, rfl, h63, bx3, trivial⟩
 ·refine SeqW.consG rfl rfl rfl hc114 (StepX.pure (pMove (v := (vI x13)) rfl h13) ?_)
  refine SeqW.consG rfl rfl rfl hc114 (StepX.pure (pMove (v := v7) rfl h7) ?_)
  refine SeqW.consG rfl rfl rfl hc114 (StepX.pure (pLenR (xs := x7) rfl Try.underlying23 rfl s7) ?_)
  refine SeqW.consG rfl rfl rfl hc114 (StepX.pure (pGeq (k := .i64) (a := x13) (b := (x7.length : Int)) rfl rfl rfl) ?_)
  refine sx rfl (pPick (t := false) (v := (vB (decide ((x7.length : Int) ≤ x13)))) rfl ((congrArg vB hc114)) rfl) ?_
  refine SeqW.done fun fr115 hf116 => ?_
  have h3 := (congrFun hf116 3).trans h3
  have h7 := (congrFun hf116 7).trans h7
  have h13 := (congrFun hf116 13).trans h13
  have h63 : fr115 63 = (vB (decide ((x7.length : Int) ≤ x13))) := (congrFun hf116 63).trans rfl
  clear hf116
  obtain rfl := Option.some.inj hr
  exact ⟨z, hz, st, rfl, h63, bx3, trivial⟩

theorem u_l07_WheelKnown_1 : ∀ (n : Nat) {N : Nat}  {z0 z : Nat → Blk} {e m : Mem} {k : Option Nat} {fr : Nat → Value} {x7 : List (List Int)} {x11 : Int} {x50 : List Int} {x51 : Int} {x52 : Int} {x3 : Maker} {v3_0 : Value} {b3 : Nat} {v7 : Value} {v50 : Value} (hz : Zx e.next z0 z) (st : St z e m k) (h3 : fr 3 = (vP b3)) (s3_0 : SlR (TInt 3 .i64) z x3.l v3_0) (bx3 : Bx z e m k b3 [v3_0, (vI x3.n)] 56) (h7 : fr 7 = v7) (s7 : SlR (TSl 22 (TInt 3 .i64)) z x7 v7) (h11 : fr 11 = (vI x11)) (h50 : fr 50 = v50) (s50 : SlR (TInt 3 .i64) z x50 v50) (h51 : fr 51 = (vI x51)) (h52 : fr 52 = (vI x52)) {r : Sum (Int) (Bool)} (hr : l07_WheelKnown_1 N x7 x50 x51 n x11 x52 = some r), W Try.prog (sub (bodyOf Try.f6) [1, 1, 1, 1, 1, 1, 1, 1, 1, 0, 1, 0]) (fun ex fr' m' => ∃ z', Zx e.next z0 z' ∧ St z' e m' k ∧ ((∃ q, r = Sum.inl q ∧ ex = AExit.exit 0 ∧ fr' 11 = (vI q) ∧ Bx z' e m' k b3 [v3_0, (vI x3.n)] 56 ∧ True) ∨ (∃ q, r = Sum.inr q ∧ ex = AExit.ret ∧ fr' 2 = (vB q) ∧ True))) fr m := by
 intro n
 induction n with
 | zero => intro N z0 z e m k fr x7 x11 x50 x51 x52 x3 v3_0 b3 v7 v50 hz st h3 s3_0 bx3 h7 s7 h11 h50 s50 h51 h52 r hr; cases (show (none : Option _) = some r from hr)
 | succ n ih =>
  intro N z0 z e m k fr x7 x11 x50 x51 x52 x3 v3_0 b3 v7 v50 hz st h3 s3_0 bx3 h7 s7 h11 h50 s50 h51 h52 r hr
  unfold l07_WheelKnown_1 at hr
  refine W.loop1 ?_
  refine W.seq (W.region ?_)
  refine sx rfl (pLss (k := .i64) (a := x52) (b := x51) rfl h52 h51) ?_
  refine SeqW.done fun fr100 hf101 => ?_
  have h3 := (congrFun hf101 3).trans h3
  have h7 := (congrFun hf101 7).trans h7
  have h11 := (congrFun hf101 11).trans h11
  have h50 := (congrFun hf101 50).trans h50
  have h51 := (congrFun hf101 51).trans h51
  have h52 := (congrFun hf101 52).trans h52
  have h53 : fr100 53 = (vB (decide (x52 < x51))) := (congrFun hf101 53).trans rfl
  clear hf101
  refine thenQ.n (W.seq ?_)
  rcases if_some hr with ⟨hc102, hr⟩ | ⟨hc143, hr⟩
  ·refine W.condT h53 hc102 (W.skip ?_)
   refine thenQ.n (W.seq ?_)
   refine W.block ?_
   refine W.seq (W.region ?_)
   obtain ⟨y103, hy103, hr⟩ := bind_some hr
   refine SeqW.consX rfl (kIdxR (T := (TInt 3 .i64)) (xs := x50) (n := x52) rfl Try.underlying22 Try.type3 rfl h50 h52 s50 hy103 ?_)
   intro B104 f105 cs106 hd107 hc108
   obtain rfl := hd107
   refine SeqW.consX rfl (kLoad (v := (vI y103)) rfl Try.underlying3 rfl rfl (ldz_load st.fz (hc108 0 _ rfl)) ?_)
   refine sx rfl (pAssign (v := (vI y103)) rfl rfl) ?_
   refine SeqW.done fun fr109 hf110 => ?_
   have h3 := (congrFun hf110 3).trans h3
   have h7 := (congrFun hf110 7).trans h7
   have h11 := (congrFun hf110 11).trans h11
   have h13 : fr109 13 = (vI y103) := (congrFun hf110 13).trans rfl
   have h50 := (congrFun hf110 50).trans h50
   have h51 := (congrFun hf110 51).trans h51
   have h52 := (congrFun hf110 52).trans h52
   clear hf110
   refine thenQ.n (W.seq (W.seq ?_))
   obtain ⟨y117, hy117, hr⟩ := bind_some hr
   refine W.keep (u_l07_WheelKnown_2 (x3 := x3) (Zx.refl _) st h3 s3_0 bx3 h7 s7 h13 hy117) ?_
   rintro ex123 fr118 m119 hk121 ⟨z120, hz122, st, rfl, h63, O124, -⟩
   replace s3_0 := s3_0.mono hz122.le
   replace s7 := s7.mono hz122.le
   replace s50 := s50.mono hz122.le
   have h3 := (hk121 3 rfl).trans h3
   have h7 := (hk121 7 rfl).trans h7
   have h11 := (hk121 11 rfl).trans h11
   have h13 := (hk121 13 rfl).trans h13
   have h50 := (hk121 50 rfl).trans h50
   have h51 := (hk121 51 rfl).trans h51
   have h52 := (hk121 52 rfl).trans h52
   replace hz := hz.trans hz122
   clear hk121
   refine thenQ.n ?_
   rcases if_some hr with ⟨hc125, hr⟩ | ⟨hc128, hr⟩
   ·refine W.condT h63 hc125 (W.seq (W.region ?_))
    refine sx rfl (pAssign (v := (vB false)) rfl rfl) ?_
    refine SeqW.done fun fr126 hf127 => ?_
    have h2 : fr126 2 = (vB false) := (congrFun hf127 2).trans rfl
    clear hf127
    refine thenQ.n ?_
    refine W.ret ?_
    refine thenQ.r ?_
    refine blockQ.r ?_
    refine thenQ.r ?_
    refine thenQ.r ?_
    obtain rfl := Option.some.inj hr
    exact ⟨z120, hz, st, .inr ⟨_, rfl, rfl, h2, trivial⟩⟩
   ·refine W.condF h63 hc128 (W.skip ?_)
    refine thenQ.n (W.region ?_)
    refine sx rfl (pMove (v := (vI x11)) rfl h11) ?_
    refine sx rfl (pMove (v := v7) rfl h7) ?_
    refine sx rfl (pMove (v := (vI y103)) rfl h13) ?_
    obtain ⟨y129, hy129, hr⟩ := bind_some hr
    refine SeqW.consX rfl (kIdxR (T := (TSl 22 (TInt 3 .i64))) (xs := x7) (n := y103) rfl Try.underlying23 Try.type22 rfl rfl rfl s7 hy129 ?_)
    intro B130 f131 cs132 hd133 hc134
    obtain ⟨V135, rfl, Q136⟩ := hd133
    refine SeqW.consX rfl (kLoad (v := V135) rfl Try.underlying22 rfl rfl (ldz_load st.fz (hc134 0 _ rfl)) ?_)
    refine sx rfl (pLenR (xs := y129) rfl Try.underlying22 rfl Q136) ?_
    refine sx rfl (pAdd (k := .i64) (a := (y129.length : Int)) (b := 1) rfl rfl rfl) ?_
    refine sx rfl (pAdd (k := .i64) (a := x11) (b := (IntKind.wrap .i64 ((y129.length : Int) + 1))) rfl rfl rfl) ?_
    obtain ⟨y138, hy138, hr⟩ := lt_some hr
    refine sx rfl (pAssign rfl (congrArg (Value.int .i64) hy138)) ?_
    refine SeqW.done fun fr139 hf140 => ?_
    have h3 := (congrFun hf140 3).trans h3
    have h7 := (congrFun hf140 7).trans h7
    have h11 : fr139 11 = (vI y138) := (congrFun hf140 11).trans rfl
    have h50 := (congrFun hf140 50).trans h50
    have h51 := (congrFun hf140 51).trans h51
    have h52 := (congrFun hf140 52).trans h52
    clear hf140
    refine blockQ.n ?_
    refine thenQ.n (W.region ?_)
    refine sx rfl (pAdd (k := .i64) (a := x52) (b := 1) rfl h52 rfl) ?_
    refine sx rfl (pMove (v := (vI (IntKind.wrap .i64 (x52 + 1)))) rfl rfl) ?_
    refine SeqW.done fun fr141 hf142 => ?_
    have h3 := (congrFun hf142 3).trans h3
    have h7 := (congrFun hf142 7).trans h7
    have h11 := (congrFun hf142 11).trans h11
    have h50 := (congrFun hf142 50).trans h50
    have h51 := (congrFun hf142 51).trans h51
    have h52 : fr141 52 = (vI (IntKind.wrap .i64 (x52 + 1))) := (congrFun hf142 52).trans rfl
    clear hf142
    refine thenQ.n ?_
    exact ih (x3 := x3) hz st h3 s3_0 O124 h7 s7 h11 h50 s50 h51 h52 hr
  ·refine W.condF h53 hc143 ?_
   refine W.exit ?_
   refine thenQ.x ?_
   refine thenQ.x ?_
   obtain rfl := Option.some.inj hr
   exact ⟨z, hz, st, .inl ⟨_, rfl, rfl, h11, bx3, trivial⟩⟩

theorem u_l07_WheelKnown_3 : ∀ (n : Nat) {N : Nat}  {z0 z : Nat → Blk} {e m : Mem} {k : Option Nat} {fr : Nat → Value} {x3 : Maker} {x14 : List Int} {x15 : Int} {v3_0 : Value} {b3 : Nat} {v14 : Value} (hz : Zx e.next z0 z) (st : St z e m k) (h3 : fr 3 = (vP b3)) (s3_0 : SlR (TInt 3 .i64) z x3.l v3_0) (bx3 : Bx z e m k b3 [v3_0, (vI x3.n)] 56) (h14 : fr 14 = v14) (o14 : OwF (TInt 3 .i64) z e m k x14 v14) (h15 : fr 15 = (vI x15)) (ao3_o14 : Ap (some b3) (blkOf v14)) {r : List Int} (hr : l07_WheelKnown_3 N n x3 x14 x15 = some r), W Try.prog (sub (bodyOf Try.f6) [1, 1, 1, 1, 1, 1, 1, 1, 1, 1, 1, 0, 1, 0]) (fun ex fr' m' => ∃ z', Zx e.next z0 z' ∧ St z' e m' k ∧ ex = AExit.exit 2 ∧ fr' 14 = v14 ∧ OwF (TInt 3 .i64) z' e m' k r v14 ∧ True) fr m := by
 intro n
 induction n with
 | zero => intro N z0 z e m k fr x3 x14 x15 v3_0 b3 v14 hz st h3 s3_0 bx3 h14 o14 h15 ao3_o14 r hr; cases (show (none : Option _) = some r from hr)
 | succ n ih =>
  intro N z0 z e m k fr x3 x14 x15 v3_0 b3 v14 hz st h3 s3_0 bx3 h14 o14 h15 ao3_o14 r hr
  unfold l07_WheelKnown_3 at hr
  refine W.loop1 ?_
  refine W.seq (W.seq (W.region ?_))
  refine sx rfl (pMove (v := (vI x15)) rfl h15) ?_
  refine sx rfl (pMove (v := v14) rfl h14) ?_
  refine sx rfl (pLenO (xs := x14) rfl Try.underlying22 rfl o14.ow) ?_
  refine sx rfl (pLss (k := .i64) (a := x15) (b := (x14.length : Int)) rfl rfl rfl) ?_
  refine SeqW.done fun fr172 hf173 => ?_
  have h3 := (congrFun hf173 3).trans h3
  have h14 := (congrFun hf173 14).trans h14
  have h15 := (congrFun hf173 15).trans h15
  have h79 : fr172 79 = (vB (decide (x15 < (x14.length : Int)))) := (congrFun hf173 79).trans rfl
  clear hf173
  refine thenQ.n ?_
  rcases if_some hr with ⟨hc174, hr⟩ | ⟨hc221, hr⟩
  ·refine W.condT h79 hc174 (W.skip ?_)
   refine thenQ.n (W.seq ?_)
   refine W.block ?_
   refine W.draw ?_
   refine DrawW.cons rfl (StepX.pure (pMove (v := v14) rfl h14) ?_)
   refine ⟨trivial, ?_⟩
   refine DrawW.cons rfl (StepX.pure (pMove (v := (vI x15)) rfl h15) ?_)
   refine ⟨trivial, ?_⟩
   refine DrawW.cons rfl (StepX.pure (pMove (v := v14) rfl h14) ?_)
   refine ⟨trivial, ?_⟩
   refine DrawW.cons rfl (StepX.pure (pMove (v := (vI x15)) rfl h15) ?_)
   refine ⟨trivial, ?_⟩
   obtain ⟨y175, hy175, hr⟩ := bind_some hr
   refine DrawW.cons rfl (kIdxO (T := (TInt 3 .i64)) (xs := x14) (n := x15) rfl Try.underlying22 Try.type3 rfl rfl rfl o14 hy175 ?_)
   intro B176 l177 c178 cs179 hv180 hd181 hg182 hc183
   have hd1810 := hd181
   obtain rfl := hd1810
   refine ⟨trivial, ?_⟩
   refine DrawW.cons rfl (kLoad (v := (vI y175)) rfl Try.underlying3 rfl rfl (hc183 0 _ rfl) ?_)
   refine ⟨?_, ?_⟩
   ·exact demN
   refine DrawW.cons rfl (StepX.pure (pMove (v := (vP b3)) rfl h3) ?_)
   refine ⟨trivial, ?_⟩
   have sto184 := st
   have old185 := bx3
   have old186 := o14
   obtain ⟨y187, hy187, hr⟩ := bind_some hr
   refine DrawW.cons rfl (StepX.call (gCallee rfl rfl (args3 rfl rfl rfl)) ((c_Maker_From (x0 := x3) (z := z) st.fz st.dead s3_0 ⟨bx3.blk, bx3.lt, bx3.dead, .inr rfl⟩ hy187).mono ?_))
   rintro _ m192 ⟨z188, V193, hzx189, fz190, sm191, rfl, Q194, X196, -⟩
   have sr197 := s3_0
   replace s3_0 := s3_0.mono hzx189.le
   replace o14 := o14.call hzx189 sm191 (Ap.symm ao3_o14)
   have bx3n : Bx z188 e m192 k b3 _ _ := ⟨X196.blk, X196.lt, X196.dead, bx3.fresh⟩
   replace hz := hz.trans (Zx.here st hzx189)
   replace st := st.call hzx189 fz190 sm191 bx3.hq
   refine ⟨⟨?_, ?_⟩, ?_⟩
   ·first | refine demP (gLoad (v := (vI y175)) rfl Try.underlying3 rfl rfl (by rw [Same.ld sm191 old186 (Ap.symm ao3_o14) hv180]; exact (hc183 0 _ rfl))) ?_ | refine demA (by decide) ?_
    exact demN
   ·exact demN
   refine DrawW.cons rfl (StepX.pure (pAdd (k := .i64) (a := y175) (b := y187.1) rfl rfl rfl) ?_)
   refine ⟨trivial, ?_⟩
   have sto198 := st
   have old199 := bx3n
   have old200 := o14
   refine DrawW.cons rfl (StepX.pure (pMax2 (k := .i64) (a := 1) (b := (IntKind.wrap .i64 (y175 + y187.1))) rfl rfl rfl) ?_)
   refine ⟨trivial, ?_⟩
   obtain ⟨y201, hy201, hr⟩ := bind_some hr
   refine DrawW.cons rfl (kIdxO (T := (TInt 3 .i64)) (xs := x14) (n := x15) rfl Try.underlying22 Try.type3 rfl rfl rfl o14 hy201 ?_)
   intro B202 l203 c204 cs205 hv206 hd207 hg208 hc209
   have hd2070 := hd207
   obtain rfl := hd2070
   refine ⟨trivial, ?_⟩
   have sto210 := st
   have old211 := bx3n
   have old212 := o14
   refine DrawW.cons rfl (kSet (T := (TInt 3 .i64)) (off := (x15 : Int).toNat * ((TInt 3 .i64)).sz) (n := (x15 : Int).toNat) (f := 0) (w := (vI (max 1 (IntKind.wrap .i64 (y175 + y187.1))))) (new := [(vI (max 1 (IntKind.wrap .i64 (y175 + y187.1))))]) (ecs := [(vI y201)]) (ecs' := [(vI (max 1 (IntKind.wrap .i64 (y175 + y187.1))))]) (a := y201) (a' := (max 1 (IntKind.wrap .i64 (y175 + y187.1)))) rfl Try.type3 rfl rfl rfl rfl rfl rfl o14 hv206 hg208 hd207 hc209 rfl rfl rfl st ?_)
   intro m213 st o14 sm214
   obtain ⟨y215, hy215, hr⟩ := lt_some hr
   rw [hy215] at o14
   replace bx3n := bx3n.same sm214 ao3_o14
   refine ⟨⟨?_, ?_⟩, ?_⟩
   ·first | refine demP (gLoad (v := (vI y175)) rfl Try.underlying3 rfl rfl gone) ?_ | refine demA (by decide) ?_
    exact demN
   ·exact demN
   refine DrawW.done fun fr216 hf217 => ?_
   have h3 := (congrFun hf217 3).trans h3
   have h14 := (congrFun hf217 14).trans h14
   have h15 := (congrFun hf217 15).trans h15
   clear hf217
   refine blockQ.n ?_
   refine thenQ.n (W.region ?_)
   refine sx rfl (pMove (v := (vI x15)) rfl h15) ?_
   refine sx rfl (pAdd (k := .i64) (a := x15) (b := 1) rfl rfl rfl) ?_
   obtain ⟨y218, hy218, hr⟩ := lt_some hr
   refine sx rfl (pAssign rfl (congrArg (Value.int .i64) hy218)) ?_
   refine SeqW.done fun fr219 hf220 => ?_
   have h3 := (congrFun hf220 3).trans h3
   have h14 := (congrFun hf220 14).trans h14
   have h15 : fr219 15 = (vI y218) := (congrFun hf220 15).trans rfl
   clear hf220
   refine thenQ.n ?_
   exact ih (x3 := y187.2) hz st h3 Q194 bx3n h14 o14 h15 ao3_o14 hr
  ·refine W.condF h79 hc221 ?_
   refine W.exit ?_
   refine thenQ.x ?_
   refine thenQ.x ?_
   obtain rfl := Option.some.inj hr
   exact ⟨z, hz, st, rfl, h14, o14, trivial⟩

theorem u_l07_WheelKnown_4 {N : Nat}  {z0 z : Nat → Blk} {e m : Mem} {k : Option Nat} {fr : Nat → Value} {x5 : List Int} {x11 : Int} {x14 : List Int} {x17 : Int} {x18 : Int} {x20 : Int} {x21 : Int} {v5 : Value} {v14 : Value} (hz : Zx e.next z0 z) (st : St z e m k) (h5 : fr 5 = v5) (s5 : SlR (TInt 3 .i64) z x5 v5) (h11 : fr 11 = (vI x11)) (h14 : fr 14 = v14) (s14 : SlR (TInt 3 .i64) z x14 v14) (h17 : fr 17 = (vI x17)) (h18 : fr 18 = (vI x18)) (h20 : fr 20 = (vI x20)) (h21 : fr 21 = (vI x21)) {r : Bool} (hr : l07_WheelKnown_4 N x5 x11 x14 x17 x18 x20 x21 = some r) : W Try.prog (sub (bodyOf Try.f6) [1, 1, 1, 1, 1, 1, 1, 1, 1, 1, 1, 1, 1, 1, 0]) (fun ex fr' m' => ∃ z', Zx e.next z0 z' ∧ St z' e m' k ∧ ex = AExit.normal ∧ fr' 2 = (vB r) ∧ True) fr m := by
 unfold l07_WheelKnown_4 at hr
 refine W.region ?_
 refine sx rfl (pMove (v := (vI x11)) rfl h11) ?_
 refine sx rfl (pMove (v := v5) rfl h5) ?_
 refine sx rfl (pLenR (xs := x5) rfl Try.underlying22 rfl s5) ?_
 refine sx rfl (pAdd (k := .i64) (a := (x5.length : Int)) (b := 1) rfl rfl rfl) ?_
 refine sx rfl (pEql (k := .i64) (a := x11) (b := (IntKind.wrap .i64 ((x5.length : Int) + 1))) rfl rfl rfl) ?_
 refine sx rfl (pMove (v := (vB (x11 == (IntKind.wrap .i64 ((x5.length : Int) + 1))))) rfl rfl) ?_
 rcases if_some hr with ⟨hc257, hr⟩ | ⟨hc277, hr⟩
 ·refine SeqW.consG rfl rfl rfl hc257 (StepX.pure (pMove (v := (vI x18)) rfl h18) ?_)
  refine SeqW.consG rfl rfl rfl hc257 (StepX.pure (pEql (k := .i64) (a := x18) (b := 0) rfl rfl rfl) ?_)
  refine sx rfl (pPick (t := true) (v := (vB (x18 == 0))) rfl ((congrArg vB hc257)) rfl) ?_
  refine sx rfl (pMove (v := (vB (x18 == 0))) rfl rfl) ?_
  rcases if_some hr with ⟨hc258, hr⟩ | ⟨hc274, hr⟩
  ·refine SeqW.consG rfl rfl rfl hc258 (StepX.pure (pMove (v := (vI x21)) rfl h21) ?_)
   refine SeqW.consG rfl rfl rfl hc258 (StepX.pure (pEql (k := .i64) (a := x21) (b := 0) rfl rfl rfl) ?_)
   refine sx rfl (pPick (t := true) (v := (vB (x21 == 0))) rfl ((congrArg vB hc258)) rfl) ?_
   refine sx rfl (pMove (v := (vB (x21 == 0))) rfl rfl) ?_
   rcases if_some hr with ⟨hc259, hr⟩ | ⟨hc271, hr⟩
   ·refine SeqW.consG rfl rfl rfl hc259 (StepX.pure (pMove (v := (vI x20)) rfl h20) ?_)
    refine SeqW.consG rfl rfl rfl hc259 (StepX.pure (pMove (v := (vI x17)) rfl h17) ?_)
    refine SeqW.consG rfl rfl rfl hc259 (StepX.pure (pLeq (k := .i64) (a := x20) (b := x17) rfl rfl rfl) ?_)
    refine sx rfl (pPick (t := true) (v := (vB (decide (x20 ≤ x17)))) rfl ((congrArg vB hc259)) rfl) ?_
    refine sx rfl (pMove (v := (vB (decide (x20 ≤ x17)))) rfl rfl) ?_
    rcases if_some hr with ⟨hc260, hr⟩ | ⟨hc268, hr⟩
    ·refine SeqW.consG rfl rfl rfl hc260 (StepX.pure (pMove (v := (vI x17)) rfl h17) ?_)
     refine SeqW.consG rfl rfl rfl hc260 (StepX.pure (pMove (v := v14) rfl h14) ?_)
     refine SeqW.consG rfl rfl rfl hc260 (StepX.pure (pLenR (xs := x14) rfl Try.underlying22 rfl s14) ?_)
     refine SeqW.consG rfl rfl rfl hc260 (StepX.pure (pMul (k := .i64) (a := 8) (b := (x14.length : Int)) rfl rfl rfl) ?_)
     refine SeqW.consG rfl rfl rfl hc260 (StepX.pure (pLeq (k := .i64) (a := x17) (b := (IntKind.wrap .i64 (8 * (x14.length : Int)))) rfl rfl rfl) ?_)
     refine sx rfl (pPick (t := true) (v := (vB (decide (x17 ≤ (IntKind.wrap .i64 (8 * (x14.length : Int))))))) rfl ((congrArg vB hc260)) rfl) ?_
     refine sx rfl (pMove (v := (vB (decide (x17 ≤ (IntKind.wrap .i64 (8 * (x14.length : Int))))))) rfl rfl) ?_
     rcases if_some hr with ⟨hc261, hr⟩ | ⟨hc265, hr⟩
     ·obtain ⟨y262, hy262, hr⟩ := bind_some hr
      refine SeqW.consG rfl rfl rfl hc261 (StepX.call (gCallee rfl rfl args0) ((c_l07_sane (z := z) st.fz st.dead  hy262).mono ?_))
      rintro _ _ ⟨rfl, rfl⟩
      refine sx rfl (pPick (t := true) (v := (vB y262)) rfl ((congrArg vB hc261)) rfl) ?_
      refine sx rfl (pAssign (v := (vB y262)) rfl rfl) ?_
      refine SeqW.done fun fr263 hf264 => ?_
      have h2 : fr263 2 = (vB y262) := (congrFun hf264 2).trans rfl
      clear hf264
      obtain rfl := Option.some.inj hr
      exact ⟨z, hz, st, rfl, h2, trivial⟩
     ·refine kx rfl rfl rfl hc265 ?_
      refine sx rfl (pPick (t := false) (v := (vB false)) rfl ((congrArg vB hc265)) rfl) ?_
      refine sx rfl (pAssign (v := (vB false)) rfl rfl) ?_
      refine SeqW.done fun fr266 hf267 => ?_
      have h2 : fr266 2 = (vB false) := (congrFun hf267 2).trans rfl
      clear hf267
      obtain rfl := Option.some.inj hr
      exact ⟨z, hz, st, rfl, h2, trivial⟩
    ·refine kx rfl rfl rfl hc268 ?_
     iterate 4 refine kx rfl rfl rfl hc268 ?_
     refine sx rfl (pPick (t := false) (v := (vB false)) rfl ((congrArg vB hc268)) rfl) ?_
     refine sx rfl (pMove (v := (vB false)) rfl rfl) ?_
     refine kx rfl rfl rfl rfl ?_
     refine sx rfl (pPick (t := false) (v := (vB false)) rfl ((congrArg vB (rfl : false = false))) rfl) ?_
     refine sx rfl (pAssign (v := (vB false)) rfl rfl) ?_
     refine SeqW.done fun fr269 hf270 => ?_
     have h2 : fr269 2 = (vB false) := (congrFun hf270 2).trans rfl
     clear hf270
     obtain rfl := Option.some.inj hr
     exact ⟨z, hz, st, rfl, h2, trivial⟩
   ·refine kx rfl rfl rfl hc271 ?_
    iterate 2 refine kx rfl rfl rfl hc271 ?_
    refine sx rfl (pPick (t := false) (v := (vB false)) rfl ((congrArg vB hc271)) rfl) ?_
    refine sx rfl (pMove (v := (vB false)) rfl rfl) ?_
    iterate 5 refine kx rfl rfl rfl rfl ?_
    refine sx rfl (pPick (t := false) (v := (vB false)) rfl ((congrArg vB (rfl : false = false))) rfl) ?_
    refine sx rfl (pMove (v := (vB false)) rfl rfl) ?_
    refine kx rfl rfl rfl rfl ?_
    refine sx rfl (pPick (t := false) (v := (vB false)) rfl ((congrArg vB (rfl : false = false))) rfl) ?_
    refine sx rfl (pAssign (v := (vB false)) rfl rfl) ?_
    refine SeqW.done fun fr272 hf273 => ?_
    have h2 : fr272 2 = (vB false) := (congrFun hf273 2).trans rfl
    clear hf273
    obtain rfl := Option.some.inj hr
    exact ⟨z, hz, st, rfl, h2, trivial⟩
  ·refine kx rfl rfl rfl hc274 ?_
   refine kx rfl rfl rfl hc274 ?_
   refine sx rfl (pPick (t := false) (v := (vB false)) rfl ((congrArg vB hc274)) rfl) ?_
   refine sx rfl (pMove (v := (vB false)) rfl rfl) ?_
   iterate 3 refine kx rfl rfl rfl rfl ?_
   refine sx rfl (pPick (t := false) (v := (vB false)) rfl ((congrArg vB (rfl : false = false))) rfl) ?_
   refine sx rfl (pMove (v := (vB false)) rfl rfl) ?_
   iterate 5 refine kx rfl rfl rfl rfl ?_
   refine sx rfl (pPick (t := false) (v := (vB false)) rfl ((congrArg vB (rfl : false = false))) rfl) ?_
   refine sx rfl (pMove (v := (vB false)) rfl rfl) ?_
   refine kx rfl rfl rfl rfl ?_
   refine sx rfl (pPick (t := false) (v := (vB false)) rfl ((congrArg vB (rfl : false = false))) rfl) ?_
   refine sx rfl (pAssign (v := (vB false)) rfl rfl) ?_
   refine SeqW.done fun fr275 hf276 => ?_
   have h2 : fr275 2 = (vB false) := (congrFun hf276 2).trans rfl
   clear hf276
   obtain rfl := Option.some.inj hr
   exact ⟨z, hz, st, rfl, h2, trivial⟩
 ·refine kx rfl rfl rfl hc277 ?_
  refine kx rfl rfl rfl hc277 ?_
  refine sx rfl (pPick (t := false) (v := (vB false)) rfl ((congrArg vB hc277)) rfl) ?_
  refine sx rfl (pMove (v := (vB false)) rfl rfl) ?_
  iterate 2 refine kx rfl rfl rfl rfl ?_
  refine sx rfl (pPick (t := false) (v := (vB false)) rfl ((congrArg vB (rfl : false = false))) rfl) ?_
  refine sx rfl (pMove (v := (vB false)) rfl rfl) ?_
  iterate 3 refine kx rfl rfl rfl rfl ?_
  refine sx rfl (pPick (t := false) (v := (vB false)) rfl ((congrArg vB (rfl : false = false))) rfl) ?_
  refine sx rfl (pMove (v := (vB false)) rfl rfl) ?_
  iterate 5 refine kx rfl rfl rfl rfl ?_
  refine sx rfl (pPick (t := false) (v := (vB false)) rfl ((congrArg vB (rfl : false = false))) rfl) ?_
  refine sx rfl (pMove (v := (vB false)) rfl rfl) ?_
  refine kx rfl rfl rfl rfl ?_
  refine sx rfl (pPick (t := false) (v := (vB false)) rfl ((congrArg vB (rfl : false = false))) rfl) ?_
  refine sx rfl (pAssign (v := (vB false)) rfl rfl) ?_
  refine SeqW.done fun fr278 hf279 => ?_
  have h2 : fr278 2 = (vB false) := (congrFun hf279 2).trans rfl
  clear hf279
  obtain rfl := Option.some.inj hr
  exact ⟨z, hz, st, rfl, h2, trivial⟩

theorem u_l07_WheelKnown {N : Nat}  {z0 z : Nat → Blk} {e m : Mem} {k : Option Nat} {fr : Nat → Value} {x0 : List Int} {v0 : Value} (hz : Zx e.next z0 z) (st : St z e m k) (h0 : fr 0 = v0) (s0 : SlR (TInt 3 .i64) z x0 v0) {r : Bool} (hr : l07_WheelKnown N x0 = some r) : W Try.prog (sub (bodyOf Try.f6) []) (fun ex fr' m' => ∃ z', Zx e.next z0 z' ∧ St z' e m' k ∧ (ex = .normal ∨ ex = .ret) ∧ fr' 2 = (vB r) ∧ True) fr m := by
 unfold l07_WheelKnown at hr
 refine W.seq (W.region ?_)
 refine sx rfl (pAssign (v := (vB false)) rfl rfl) ?_
 refine SeqW.done fun fr1 hf2 => ?_
 have h0 := (congrFun hf2 0).trans h0
 clear hf2
 refine thenQ.n (W.seq (W.region ?_))
 refine sx rfl (pMove (v := v0) rfl h0) ?_
 obtain ⟨y3, hy3, hr⟩ := bind_some hr
 refine SeqW.consX rfl (StepX.call (gCallee rfl rfl (args1 rfl)) ((c_gen_New (z := z) st.fz st.dead s0 hy3).mono ?_))
 rintro _ m8 ⟨z4, B9, V12, hzx5, fz6, sm7, rfl, Q13, X10, hn15, -⟩
 replace s0 := s0.mono hzx5.le
 have X10 : Bx z4 e m8 k B9 _ _ := ⟨X10.blk, X10.lt, X10.dead, .inl (Nat.le_trans st.next hn15)⟩
 replace hz := hz.trans (Zx.here st hzx5)
 replace st := st.call hzx5 fz6 sm7 no_hq
 refine sx rfl (pAssign (v := (vP B9)) rfl rfl) ?_
 refine SeqW.done fun fr16 hf17 => ?_
 have h3 : fr16 3 = (vP B9) := (congrFun hf17 3).trans rfl
 clear hf17
 refine thenQ.n (W.seq (W.region ?_))
 refine sx rfl (pMove (v := (vP B9)) rfl h3) ?_
 obtain ⟨y18, hy18, hr⟩ := bind_some hr
 refine SeqW.consX rfl (StepX.call (gCallee rfl rfl (args2 rfl rfl)) ((c_Maker_Wagons (x0 := y3) (z := z4) st.fz st.dead Q13 ⟨X10.blk, X10.lt, X10.dead, .inr rfl⟩ hy18).mono ?_))
 rintro V24 m23 ⟨z19, _, V27, hzx20, fz21, sm22, rfl, Q25, Q28, X30, -⟩
 have A31 := Ap.own X10.lt' Q25.fresh
 replace Q13 := Q13.mono hzx20.le
 have X10n : Bx z19 e m23 k B9 _ _ := ⟨X30.blk, X30.lt, X30.dead, X10.fresh⟩
 have Q25 : OwF TWagon z19 e m23 k y18.1 V24 := Q25.up st.next
 replace hz := hz.trans (Zx.here st hzx20)
 replace st := st.call hzx20 fz21 sm22 X10.hq
 refine sx rfl (pAssign (v := V24) rfl rfl) ?_
 refine SeqW.done fun fr32 hf33 => ?_
 have h3 := (congrFun hf33 3).trans h3
 have h4 : fr32 4 = V24 := (congrFun hf33 4).trans rfl
 clear hf33
 refine thenQ.n (W.seq ?_)
 refine W.seq (W.region ?_)
 refine sx rfl (pMove (v := V24) rfl h4) ?_
 refine sx rfl (pLenO (xs := y18.1) rfl Try.underlying41 rfl Q25.ow) ?_
 refine sx rfl (pEql (k := .i64) (a := (y18.1.length : Int)) (b := 0) rfl rfl rfl) ?_
 refine SeqW.done fun fr34 hf35 => ?_
 have h3 := (congrFun hf35 3).trans h3
 have h4 := (congrFun hf35 4).trans h4
 have h28 : fr34 28 = (vB ((y18.1.length : Int) == 0)) := (congrFun hf35 28).trans rfl
 clear hf35
 refine thenQ.n ?_
 rcases if_some hr with ⟨hc36, hr⟩ | ⟨hc40, hr⟩
 ·refine W.condT h28 hc36 (W.seq (W.region ?_))
  obtain ⟨y37, hy37, hr⟩ := bind_some hr
  refine SeqW.consX rfl (StepX.call (gCallee rfl rfl args0) ((c_l07_sane (z := z19) st.fz st.dead  hy37).mono ?_))
  rintro _ _ ⟨rfl, rfl⟩
  refine sx rfl (pAssign (v := (vB y37)) rfl rfl) ?_
  refine SeqW.done fun fr38 hf39 => ?_
  have h2 : fr38 2 = (vB y37) := (congrFun hf39 2).trans rfl
  clear hf39
  refine thenQ.n ?_
  refine W.ret ?_
  refine thenQ.r ?_
  obtain rfl := Option.some.inj hr
  exact ⟨z19, hz, st, .inr rfl, h2, trivial⟩
 ·refine W.condF h28 hc40 (W.skip ?_)
  refine thenQ.n (W.seq (W.region ?_))
  refine sx rfl (pMove (v := V24) rfl h4) ?_
  obtain ⟨z41, hz42, st, Q43, hl44⟩ := Q25.freeze st
  replace X10n := X10n.zle (hl44 _ A31)
  replace Q28 := Q28.mono hz42.le
  replace hz := hz.trans hz42
  obtain ⟨y45, hy45, hr⟩ := bind_some hr
  refine SeqW.consX rfl (StepX.call (gCallee rfl rfl (args1 rfl)) ((c_r07_Distances (z := z41) st.fz st.dead Q43 hy45).mono ?_))
  rintro _ m50 ⟨z46, V51, hzx47, fz48, sm49, rfl, Q52, -⟩
  replace X10n := X10n.call hzx47 sm49 Ap.none'
  replace Q43 := Q43.mono hzx47.le
  replace Q28 := Q28.mono hzx47.le
  replace hz := hz.trans (Zx.here st hzx47)
  replace st := st.call hzx47 fz48 sm49 no_hq
  refine sx rfl (pMove (v := (Value.tuple [V51, (vI y45.2)].toArray)) rfl rfl) ?_
  refine sx rfl (pExtract (vs := [V51, (vI y45.2)]) (v := V51) rfl rfl rfl) ?_
  refine sx rfl (pExtract (vs := [V51, (vI y45.2)]) (v := (vI y45.2)) rfl rfl rfl) ?_
  refine sx rfl (pAssign (v := V51) rfl rfl) ?_
  refine sx rfl (pAssign (v := (vI y45.2)) rfl rfl) ?_
  refine SeqW.done fun fr54 hf55 => ?_
  have h3 := (congrFun hf55 3).trans h3
  have h4 := (congrFun hf55 4).trans h4
  have h5 : fr54 5 = V51 := (congrFun hf55 5).trans rfl
  clear hf55
  refine thenQ.n (W.seq (W.region ?_))
  refine sx rfl (pMove (v := V24) rfl h4) ?_
  obtain ⟨y56, hy56, hr⟩ := bind_some hr
  refine SeqW.consX rfl (StepX.call (gCallee rfl rfl (args1 rfl)) ((c_l07_patterns (z := z46) st.fz st.dead Q43 hy56).mono ?_))
  rintro V62 m61 ⟨z57, _, hzx58, fz59, sm60, rfl, Q63, -⟩
  replace X10n := X10n.call hzx58 sm60 Ap.none'
  replace Q43 := Q43.mono hzx58.le
  replace Q28 := Q28.mono hzx58.le
  replace Q52 := Q52.mono hzx58.le
  replace hz := hz.trans (Zx.here st hzx58)
  replace st := st.call hzx58 fz59 sm60 no_hq
  refine sx rfl (pAssign (v := V62) rfl rfl) ?_
  refine SeqW.done fun fr65 hf66 => ?_
  have h3 := (congrFun hf66 3).trans h3
  have h5 := (congrFun hf66 5).trans h5
  have h7 : fr65 7 = V62 := (congrFun hf66 7).trans rfl
  clear hf66
  refine thenQ.n (W.seq (W.region ?_))
  refine sx rfl (pMove (v := V51) rfl h5) ?_
  refine sx rfl (pMove (v := V62) rfl h7) ?_
  obtain ⟨y67, hy67, hr⟩ := bind_some hr
  refine SeqW.consX rfl (StepX.call (gCallee rfl rfl (args3 rfl rfl rfl)) ((c_wheel_Recognize (z := z57) st.fz st.dead Q52 Q63 hy67).mono ?_))
  rintro _ m72 ⟨z68, V73, hzx69, fz70, sm71, rfl, Q74, -⟩
  replace X10n := X10n.call hzx69 sm71 Ap.none'
  replace Q28 := Q28.mono hzx69.le
  replace Q52 := Q52.mono hzx69.le
  replace Q63 := Q63.mono hzx69.le
  replace hz := hz.trans (Zx.here st hzx69)
  replace st := st.call hzx69 fz70 sm71 no_hq
  refine sx rfl (pMove (v := (Value.tuple [V73, (vI y67.2.1), (vI y67.2.2)].toArray)) rfl rfl) ?_
  refine sx rfl (pExtract (vs := [V73, (vI y67.2.1), (vI y67.2.2)]) (v := V73) rfl rfl rfl) ?_
  refine sx rfl (pExtract (vs := [V73, (vI y67.2.1), (vI y67.2.2)]) (v := (vI y67.2.1)) rfl rfl rfl) ?_
  refine sx rfl (pExtract (vs := [V73, (vI y67.2.1), (vI y67.2.2)]) (v := (vI y67.2.2)) rfl rfl rfl) ?_
  refine sx rfl (pAssign (v := V73) rfl rfl) ?_
  refine sx rfl (pAssign (v := (vI y67.2.1)) rfl rfl) ?_
  refine sx rfl (pAssign (v := (vI y67.2.2)) rfl rfl) ?_
  refine SeqW.done fun fr76 hf77 => ?_
  have h3 := (congrFun hf77 3).trans h3
  have h5 := (congrFun hf77 5).trans h5
  have h7 := (congrFun hf77 7).trans h7
  have h8 : fr76 8 = V73 := (congrFun hf77 8).trans rfl
  have h9 : fr76 9 = (vI y67.2.1) := (congrFun hf77 9).trans rfl
  have h10 : fr76 10 = (vI y67.2.2) := (congrFun hf77 10).trans rfl
  clear hf77
  refine thenQ.n (W.seq (W.seq ?_))
  obtain ⟨y84, hy84, hr⟩ := bind_some hr
  refine W.keep (u_l07_WheelKnown_0 (x3 := y18.2) (Zx.refl _) st h3 Q28 X10n h9 h10 hy84) ?_
  rintro ex90 fr85 m86 hk88 ⟨z87, hz89, st, rfl, h49, O91, -⟩
  replace Q28 := Q28.mono hz89.le
  replace Q52 := Q52.mono hz89.le
  replace Q63 := Q63.mono hz89.le
  replace Q74 := Q74.mono hz89.le
  have h3 := (hk88 3 rfl).trans h3
  have h5 := (hk88 5 rfl).trans h5
  have h7 := (hk88 7 rfl).trans h7
  have h8 := (hk88 8 rfl).trans h8
  replace hz := hz.trans hz89
  clear hk88
  refine thenQ.n ?_
  rcases if_some hr with ⟨hc92, hr⟩ | ⟨hc95, hr⟩
  ·refine W.condT h49 hc92 (W.seq (W.region ?_))
   refine sx rfl (pAssign (v := (vB false)) rfl rfl) ?_
   refine SeqW.done fun fr93 hf94 => ?_
   have h2 : fr93 2 = (vB false) := (congrFun hf94 2).trans rfl
   clear hf94
   refine thenQ.n ?_
   refine W.ret ?_
   refine thenQ.r ?_
   obtain rfl := Option.some.inj hr
   exact ⟨z87, hz, st, .inr rfl, h2, trivial⟩
  ·refine W.condF h49 hc95 (W.skip ?_)
   refine thenQ.n (W.seq (W.region ?_))
   refine sx rfl (pAssign (v := (vI 0)) rfl rfl) ?_
   refine SeqW.done fun fr96 hf97 => ?_
   have h3 := (congrFun hf97 3).trans h3
   have h5 := (congrFun hf97 5).trans h5
   have h7 := (congrFun hf97 7).trans h7
   have h8 := (congrFun hf97 8).trans h8
   have h11 : fr96 11 = (vI 0) := (congrFun hf97 11).trans rfl
   clear hf97
   refine thenQ.n (W.seq ?_)
   refine W.seq (W.region ?_)
   refine sx rfl (pMove (v := V73) rfl h8) ?_
   refine sx rfl (pLenR (xs := y67.1) rfl Try.underlying22 rfl Q74) ?_
   refine sx rfl (pMove (v := (vI 0)) rfl rfl) ?_
   refine SeqW.done fun fr98 hf99 => ?_
   have h3 := (congrFun hf99 3).trans h3
   have h5 := (congrFun hf99 5).trans h5
   have h7 := (congrFun hf99 7).trans h7
   have h11 := (congrFun hf99 11).trans h11
   have h50 : fr98 50 = V73 := (congrFun hf99 50).trans rfl
   have h51 : fr98 51 = (vI (y67.1.length : Int)) := (congrFun hf99 51).trans rfl
   have h52 : fr98 52 = (vI 0) := (congrFun hf99 52).trans rfl
   clear hf99
   refine thenQ.n ?_
   refine W.block ?_
   obtain ⟨y144, hy144, hr⟩ := bind_some hr
   refine W.keep (u_l07_WheelKnown_1 (x3 := y18.2) _ (Zx.refl _) st h3 Q28 O91 h7 Q63 h11 h50 Q74 h51 h52 hy144) ?_
   rintro ex150 fr145 m146 hk148 ⟨z147, hz149, st, ⟨y151, rfl, rfl, h11, O152, -⟩ | ⟨y287, rfl, rfl, h2, -⟩⟩
   ·dsimp only at hr
    replace Q28 := Q28.mono hz149.le
    replace Q52 := Q52.mono hz149.le
    replace Q63 := Q63.mono hz149.le
    have h3 := (hk148 3 rfl).trans h3
    have h5 := (hk148 5 rfl).trans h5
    have h7 := (hk148 7 rfl).trans h7
    replace hz := hz.trans hz149
    clear hk148
    refine blockQ.hit ?_
    refine thenQ.n (W.seq (W.region ?_))
    refine SeqW.consX rfl (kBuild (T := (TInt 3 .i64)) rfl Try.underlying22 Try.type3 rfl rfl rfl rfl ([] : List Int) [] rfl rfl rfl trivial st ?_)
    intro V153 m154 st O155 sm156 hap157
    have A159 := hap157 _ O152.lt'
    replace O152 := O152.same sm156 Ap.none'
    refine sx rfl (pMove (v := V51) rfl h5) ?_
    obtain ⟨y160, hy160, hr⟩ := bind_some hr
    refine SeqW.consX rfl (kAppend (T := (TInt 3 .i64)) (xs := ([] : List Int)) (ys := y45.1) rfl Try.underlying22 Try.type3 rfl rfl rfl rfl rfl rfl (.inl ⟨_, Try.underlying22⟩) rfl O155 rfl (Q52.src st.fz) st hy160 ?_)
    intro V161 m162 st O163 sm164 hap165
    have A167 := hap165 _ O152.lt' A159
    replace O152 := O152.same sm164 A159
    refine sx rfl (pAssign (v := V161) rfl rfl) ?_
    refine SeqW.done fun fr168 hf169 => ?_
    have h3 := (congrFun hf169 3).trans h3
    have h5 := (congrFun hf169 5).trans h5
    have h7 := (congrFun hf169 7).trans h7
    have h11 := (congrFun hf169 11).trans h11
    have h14 : fr168 14 = V161 := (congrFun hf169 14).trans rfl
    clear hf169
    refine thenQ.n (W.seq ?_)
    refine W.seq (W.region ?_)
    refine sx rfl (pAssign (v := (vI 0)) rfl rfl) ?_
    refine SeqW.done fun fr170 hf171 => ?_
    have h3 := (congrFun hf171 3).trans h3
    have h5 := (congrFun hf171 5).trans h5
    have h7 := (congrFun hf171 7).trans h7
    have h11 := (congrFun hf171 11).trans h11
    have h14 := (congrFun hf171 14).trans h14
    have h15 : fr170 15 = (vI 0) := (congrFun hf171 15).trans rfl
    clear hf171
    refine thenQ.n ?_
    refine W.block ?_
    obtain ⟨y222, hy222, hr⟩ := bind_some hr
    refine W.keep (u_l07_WheelKnown_3 (x3 := y18.2) _ (Zx.refl _) st h3 Q28 O152 h14 O163 h15 A167 hy222) ?_
    rintro ex228 fr223 m224 hk226 ⟨z225, hz227, st, rfl, h14, O230, -⟩
    replace Q52 := Q52.mono hz227.le
    replace Q63 := Q63.mono hz227.le
    have h5 := (hk226 5 rfl).trans h5
    have h7 := (hk226 7 rfl).trans h7
    have h11 := (hk226 11 rfl).trans h11
    replace hz := hz.trans hz227
    clear hk226
    refine blockQ.hit ?_
    refine thenQ.n (W.seq (W.region ?_))
    refine sx rfl (pMove (v := V161) rfl h14) ?_
    refine sx rfl (pMove (v := V62) rfl h7) ?_
    obtain ⟨z231, hz232, st, Q233, hl234⟩ := O230.freeze st
    replace Q52 := Q52.mono hz232.le
    replace Q63 := Q63.mono hz232.le
    replace hz := hz.trans hz232
    obtain ⟨y235, hy235, hr⟩ := bind_some hr
    refine SeqW.consX rfl (StepX.call (gCallee rfl rfl (args3 rfl rfl rfl)) ((c_wheel_Recognize (z := z231) st.fz st.dead Q233 Q63 hy235).mono ?_))
    rintro _ m240 ⟨z236, V241, hzx237, fz238, sm239, rfl, Q242, -⟩
    replace Q52 := Q52.mono hzx237.le
    replace Q63 := Q63.mono hzx237.le
    replace Q233 := Q233.mono hzx237.le
    replace hz := hz.trans (Zx.here st hzx237)
    replace st := st.call hzx237 fz238 sm239 no_hq
    refine sx rfl (pMove (v := (Value.tuple [V241, (vI y235.2.1), (vI y235.2.2)].toArray)) rfl rfl) ?_
    refine sx rfl (pExtract (vs := [V241, (vI y235.2.1), (vI y235.2.2)]) (v := V241) rfl rfl rfl) ?_
    refine sx rfl (pExtract (vs := [V241, (vI y235.2.1), (vI y235.2.2)]) (v := (vI y235.2.1)) rfl rfl rfl) ?_
    refine sx rfl (pExtract (vs := [V241, (vI y235.2.1), (vI y235.2.2)]) (v := (vI y235.2.2)) rfl rfl rfl) ?_
    refine sx rfl (pAssign (v := V241) rfl rfl) ?_
    refine sx rfl (pAssign (v := (vI y235.2.1)) rfl rfl) ?_
    refine sx rfl (pAssign (v := (vI y235.2.2)) rfl rfl) ?_
    refine SeqW.done fun fr244 hf245 => ?_
    have h5 := (congrFun hf245 5).trans h5
    have h7 := (congrFun hf245 7).trans h7
    have h11 := (congrFun hf245 11).trans h11
    have h14 := (congrFun hf245 14).trans h14
    have h17 : fr244 17 = (vI y235.2.1) := (congrFun hf245 17).trans rfl
    have h18 : fr244 18 = (vI y235.2.2) := (congrFun hf245 18).trans rfl
    clear hf245
    refine thenQ.n (W.seq (W.region ?_))
    refine sx rfl (pMove (v := V161) rfl h14) ?_
    refine sx rfl (pMove (v := V62) rfl h7) ?_
    obtain ⟨y246, hy246, hr⟩ := bind_some hr
    refine SeqW.consX rfl (StepX.call (gCallee rfl rfl (args3 rfl rfl rfl)) ((c_wheel_Recognize (z := z236) st.fz st.dead Q233 Q63 hy246).mono ?_))
    rintro _ m251 ⟨z247, V252, hzx248, fz249, sm250, rfl, Q253, -⟩
    replace Q52 := Q52.mono hzx248.le
    replace Q63 := Q63.mono hzx248.le
    replace Q233 := Q233.mono hzx248.le
    replace hz := hz.trans (Zx.here st hzx248)
    replace st := st.call hzx248 fz249 sm250 no_hq
    refine sx rfl (pMove (v := (Value.tuple [V252, (vI y246.2.1), (vI y246.2.2)].toArray)) rfl rfl) ?_
    refine sx rfl (pExtract (vs := [V252, (vI y246.2.1), (vI y246.2.2)]) (v := V252) rfl rfl rfl) ?_
    refine sx rfl (pExtract (vs := [V252, (vI y246.2.1), (vI y246.2.2)]) (v := (vI y246.2.1)) rfl rfl rfl) ?_
    refine sx rfl (pExtract (vs := [V252, (vI y246.2.1), (vI y246.2.2)]) (v := (vI y246.2.2)) rfl rfl rfl) ?_
    refine sx rfl (pAssign (v := V252) rfl rfl) ?_
    refine sx rfl (pAssign (v := (vI y246.2.1)) rfl rfl) ?_
    refine sx rfl (pAssign (v := (vI y246.2.2)) rfl rfl) ?_
    refine SeqW.done fun fr255 hf256 => ?_
    have h5 := (congrFun hf256 5).trans h5
    have h11 := (congrFun hf256 11).trans h11
    have h14 := (congrFun hf256 14).trans h14
    have h17 := (congrFun hf256 17).trans h17
    have h18 := (congrFun hf256 18).trans h18
    have h20 : fr255 20 = (vI y246.2.1) := (congrFun hf256 20).trans rfl
    have h21 : fr255 21 = (vI y246.2.2) := (congrFun hf256 21).trans rfl
    clear hf256
    refine thenQ.n (W.seq ?_)
    obtain ⟨y280, hy280, hr⟩ := bind_some hr
    refine W.keep (u_l07_WheelKnown_4 (Zx.refl _) st h5 Q52 h11 h14 Q233 h17 h18 h20 h21 hy280) ?_
    rintro ex286 fr281 m282 hk284 ⟨z283, hz285, st, rfl, h2, -⟩
    replace hz := hz.trans hz285
    clear hk284
    refine thenQ.n ?_
    refine W.ret ?_
    obtain rfl := Option.some.inj hr
    exact ⟨z283, hz, st, .inr rfl, h2, trivial⟩
   ·dsimp only at hr
    replace hz := hz.trans hz149
    clear hk148
    refine blockQ.r ?_
    refine thenQ.r ?_
    obtain rfl := Option.some.inj hr
    exact ⟨z147, hz, st, .inr rfl, h2, trivial⟩

theorem c_l07_WheelKnown {N : Nat} {z : Nat → Blk} {m : Mem} {x0 : List Int} {v0 : Value} (fz : Fz z m) (hd : ∀ b, m.next ≤ b → m.blk b = .dead) (s0 : SlR (TInt 3 .i64) z x0 v0) {r : Bool} (hr : l07_WheelKnown N x0 = some r) : CallW Try.prog 6 #[v0] m fun v m' => v = (vB r) ∧ m' = m := by
 refine CallW.flat Try.func6 rfl (by kernel_rfl) (Nat.le_of_ble_eq_true rfl) rfl (z := z) (fun fr hf => ?_)
 have h0 : fr 0 = _ := hf 0 _ rfl
 refine (u_l07_WheelKnown (k := none) (Zx.refl _) (St.start fz hd) h0 s0 hr).mono ?_
 rintro ex fr' m' ⟨z', hz, st, he, h2, -⟩
 exact ⟨he, z', st, [(vB r)], ⟨h2.symm, trivial⟩, .inl rfl, rfl⟩

end Go.W
