/- The models are what the program computes. -/
import Derived.Test.YthlaohffhjlkbaaW1
set_option linter.unusedVariables false
set_option linter.unusedSimpArgs false
set_option maxRecDepth 100000
set_option maxHeartbeats 4000000
namespace Go.W
open Go.AM Go.Proofs


/-! ### (*humpyard/humpgen.Maker).Number -/

theorem u_Maker_Number {N : Nat}  {z0 z : Nat → Blk} {e m : Mem} {k : Option Nat} {fr : Nat → Value} {x0 : Maker} {x1 : Int} {v0_0 : Value} {b0 : Nat} (hz : Zx e.next z0 z) (st : St z e m k) (h0 : fr 0 = (vP b0)) (s0_0 : SlR (TInt 3 .i64) z x0.l v0_0) (bx0 : Bx z e m k b0 [v0_0, (vI x0.n)] 56) (h1 : fr 1 = (vI x1)) {r : List UInt8 × Maker} (hr : Maker_Number N x0 x1 = some r) : W Try.prog (sub (bodyOf Try.f31) []) (fun ex fr' m' => ∃ z', Zx e.next z0 z' ∧ St z' e m' k ∧ (ex = .normal ∨ ex = .ret) ∧ ∃ (wr_0 : Value), fr' 4 = (str r.1) ∧ SlR (TInt 3 .i64) z' r.2.l wr_0 ∧ Bx z' e m' k b0 [wr_0, (vI r.2.n)] 56 ∧ True) fr m := by
 unfold Maker_Number at hr
 refine W.seq (W.region ?_)
 refine sx rfl (pAssign (v := (str [])) rfl rfl) ?_
 refine SeqW.done fun fr1 hf2 => ?_
 have h0 := (congrFun hf2 0).trans h0
 have h1 := (congrFun hf2 1).trans h1
 clear hf2
 refine thenQ.n (W.seq (W.region ?_))
 refine sx rfl (pMove (v := (vP b0)) rfl h0) ?_
 obtain ⟨y3, hy3, hr⟩ := bind_some hr
 refine SeqW.consX rfl (StepX.call (gCallee rfl rfl (args2 rfl rfl)) ((c_Maker_Digits (x0 := x0) (z := z) st.fz st.dead s0_0 ⟨bx0.blk, bx0.lt, bx0.dead, .inr rfl⟩ hy3).mono ?_))
 rintro _ m8 ⟨z4, V9, hzx5, fz6, sm7, rfl, Q10, X12, -⟩
 replace s0_0 := s0_0.mono hzx5.le
 have bx0n : Bx z4 e m8 k b0 _ _ := ⟨X12.blk, X12.lt, X12.dead, bx0.fresh⟩
 replace hz := hz.trans (Zx.here st hzx5)
 replace st := st.call hzx5 fz6 sm7 bx0.hq
 obtain ⟨y13, hy13, hr⟩ := bind_some hr
 refine SeqW.consX rfl (kBytes (s := y3.1) rfl Try.underlying9 Try.underlying66 Try.underlying5 Try.type5 rfl rfl hy13 st ?_)
 intro V14 m15 st O16 sm17 hap18
 have A20 := hap18 _ bx0n.lt'
 replace bx0n := bx0n.same sm17 Ap.none'
 refine sx rfl (pAssign (v := V14) rfl rfl) ?_
 refine SeqW.done fun fr21 hf22 => ?_
 have h0 := (congrFun hf22 0).trans h0
 have h1 := (congrFun hf22 1).trans h1
 have h5 : fr21 5 = V14 := (congrFun hf22 5).trans rfl
 clear hf22
 refine thenQ.n (W.seq (W.region ?_))
 refine sx rfl (pMove (v := V14) rfl h5) ?_
 refine sx rfl (pMove (v := V14) rfl h5) ?_
 refine sx rfl (pMove (v := V14) rfl h5) ?_
 refine sx rfl (pMove (v := (vI x1)) rfl h1) ?_
 refine sx rfl (pQuo (k := .i64) (a := x1) (b := 100) rfl rfl rfl (by decide)) ?_
 refine sx rfl (pRem (k := .i64) (a := (IntKind.wrap .i64 (Int.tdiv x1 100))) (b := 10) rfl rfl rfl (by decide)) ?_
 refine sx rfl (pAdd (k := .i64) (a := 48) (b := (Int.tmod (IntKind.wrap .i64 (Int.tdiv x1 100)) 10)) rfl rfl rfl) ?_
 refine sx rfl (pConv (k := .i64) (a := (IntKind.wrap .i64 (48 + (Int.tmod (IntKind.wrap .i64 (Int.tdiv x1 100)) 10)))) rfl Try.underlying3 Try.underlying5 rfl) ?_
 refine sx rfl (pMove (v := (vI x1)) rfl h1) ?_
 refine sx rfl (pQuo (k := .i64) (a := x1) (b := 10) rfl rfl rfl (by decide)) ?_
 refine sx rfl (pRem (k := .i64) (a := (IntKind.wrap .i64 (Int.tdiv x1 10))) (b := 10) rfl rfl rfl (by decide)) ?_
 refine sx rfl (pAdd (k := .i64) (a := 48) (b := (Int.tmod (IntKind.wrap .i64 (Int.tdiv x1 10)) 10)) rfl rfl rfl) ?_
 refine sx rfl (pConv (k := .i64) (a := (IntKind.wrap .i64 (48 + (Int.tmod (IntKind.wrap .i64 (Int.tdiv x1 10)) 10)))) rfl Try.underlying3 Try.underlying5 rfl) ?_
 refine sx rfl (pMove (v := (vI x1)) rfl h1) ?_
 refine sx rfl (pRem (k := .i64) (a := x1) (b := 10) rfl rfl rfl (by decide)) ?_
 refine sx rfl (pAdd (k := .i64) (a := 48) (b := (Int.tmod x1 10)) rfl rfl rfl) ?_
 refine sx rfl (pConv (k := .i64) (a := (IntKind.wrap .i64 (48 + (Int.tmod x1 10)))) rfl Try.underlying3 Try.underlying5 rfl) ?_
 obtain ⟨y23, hy23, hr⟩ := bind_some hr
 refine SeqW.consX rfl (kIdxO (T := (TU8 5)) (xs := y13) (n := 8) rfl Try.underlying66 Try.type5 rfl rfl rfl O16 hy23 ?_)
 intro B24 l25 c26 cs27 hv28 hd29 hg30 hc31
 have hd290 := hd29
 obtain rfl := hd290
 obtain ⟨y34, hy34, hr⟩ := bind_some hr
 refine SeqW.consX rfl (kSet (T := (TU8 5)) (off := (8 : Int).toNat * ((TU8 5)).sz) (n := (8 : Int).toNat) (f := 0) (w := (Value.int .u8 (UInt8.toNat y34 : Int))) (new := [(Value.int .u8 (UInt8.toNat y34 : Int))]) (ecs := [(Value.int .u8 (UInt8.toNat y23 : Int))]) (ecs' := [(Value.int .u8 (UInt8.toNat y34 : Int))]) (a := y23) (a' := y34) rfl Try.type5 rfl rfl (by rw [← toU8_some hy34]; exact rfl) rfl rfl rfl O16 hv28 hg30 hd29 hc31 rfl rfl rfl st ?_)
 intro m32 st O16 sm33
 obtain ⟨y35, hy35, hr⟩ := lt_some hr
 rw [hy35] at O16
 replace bx0n := bx0n.same sm33 A20
 obtain ⟨y36, hy36, hr⟩ := bind_some hr
 refine SeqW.consX rfl (kIdxO (T := (TU8 5)) (xs := y35) (n := 9) rfl Try.underlying66 Try.type5 rfl rfl rfl O16 hy36 ?_)
 intro B37 l38 c39 cs40 hv41 hd42 hg43 hc44
 have hd420 := hd42
 obtain rfl := hd420
 obtain ⟨y47, hy47, hr⟩ := bind_some hr
 refine SeqW.consX rfl (kSet (T := (TU8 5)) (off := (9 : Int).toNat * ((TU8 5)).sz) (n := (9 : Int).toNat) (f := 0) (w := (Value.int .u8 (UInt8.toNat y47 : Int))) (new := [(Value.int .u8 (UInt8.toNat y47 : Int))]) (ecs := [(Value.int .u8 (UInt8.toNat y36 : Int))]) (ecs' := [(Value.int .u8 (UInt8.toNat y47 : Int))]) (a := y36) (a' := y47) rfl Try.type5 rfl rfl (by rw [← toU8_some hy47]; exact rfl) rfl rfl rfl O16 hv41 hg43 hd42 hc44 rfl rfl rfl st ?_)
 intro m45 st O16 sm46
 obtain ⟨y48, hy48, hr⟩ := lt_some hr
 rw [hy48] at O16
 replace bx0n := bx0n.same sm46 A20
 obtain ⟨y49, hy49, hr⟩ := bind_some hr
 refine SeqW.consX rfl (kIdxO (T := (TU8 5)) (xs := y48) (n := 10) rfl Try.underlying66 Try.type5 rfl rfl rfl O16 hy49 ?_)
 intro B50 l51 c52 cs53 hv54 hd55 hg56 hc57
 have hd550 := hd55
 obtain rfl := hd550
 obtain ⟨y60, hy60, hr⟩ := bind_some hr
 refine SeqW.consX rfl (kSet (T := (TU8 5)) (off := (10 : Int).toNat * ((TU8 5)).sz) (n := (10 : Int).toNat) (f := 0) (w := (Value.int .u8 (UInt8.toNat y60 : Int))) (new := [(Value.int .u8 (UInt8.toNat y60 : Int))]) (ecs := [(Value.int .u8 (UInt8.toNat y49 : Int))]) (ecs' := [(Value.int .u8 (UInt8.toNat y60 : Int))]) (a := y49) (a' := y60) rfl Try.type5 rfl rfl (by rw [← toU8_some hy60]; exact rfl) rfl rfl rfl O16 hv54 hg56 hd55 hc57 rfl rfl rfl st ?_)
 intro m58 st O16 sm59
 obtain ⟨y61, hy61, hr⟩ := lt_some hr
 rw [hy61] at O16
 replace bx0n := bx0n.same sm59 A20
 refine SeqW.done fun fr62 hf63 => ?_
 have h0 := (congrFun hf63 0).trans h0
 have h5 := (congrFun hf63 5).trans h5
 clear hf63
 refine thenQ.n (W.seq (W.region ?_))
 refine sx rfl (pMove (v := V14) rfl h5) ?_
 refine SeqW.consX rfl (kStrO (s := y61) rfl Try.underlying66 Try.underlying5 Try.underlying9 rfl O16 ?_)
 obtain ⟨y64, hy64, hr⟩ := bind_some hr
 refine SeqW.consX rfl (StepX.call (gCallee rfl rfl (args1 rfl)) ((c_r02_Digit (z := z4) st.fz st.dead  hy64).mono ?_))
 rintro _ _ ⟨rfl, rfl⟩
 refine sx rfl (pMove (v := (Value.tuple [(vI y64.1), (vI y64.2)].toArray)) rfl rfl) ?_
 refine sx rfl (pExtract (vs := [(vI y64.1), (vI y64.2)]) (v := (vI y64.1)) rfl rfl rfl) ?_
 refine sx rfl (pExtract (vs := [(vI y64.1), (vI y64.2)]) (v := (vI y64.2)) rfl rfl rfl) ?_
 refine sx rfl (pAssign (v := (vI y64.1)) rfl rfl) ?_
 refine sx rfl (pAssign (v := (vI y64.2)) rfl rfl) ?_
 refine SeqW.done fun fr65 hf66 => ?_
 have h0 := (congrFun hf66 0).trans h0
 have h5 := (congrFun hf66 5).trans h5
 have h6 : fr65 6 = (vI y64.1) := (congrFun hf66 6).trans rfl
 clear hf66
 refine thenQ.n (W.seq (W.region ?_))
 refine sx rfl (pMove (v := V14) rfl h5) ?_
 refine SeqW.consX rfl (kStrO (s := y61) rfl Try.underlying66 Try.underlying5 Try.underlying9 rfl O16 ?_)
 refine sx rfl (pMove (v := (vI y64.1)) rfl h6) ?_
 refine sx rfl (pAdd (k := .i64) (a := 48) (b := y64.1) rfl rfl rfl) ?_
 refine sx rfl (pConv (k := .i64) (a := (IntKind.wrap .i64 (48 + y64.1))) rfl Try.underlying3 Try.underlying5 rfl) ?_
 obtain ⟨y67, hy67, hr⟩ := bind_some hr
 refine SeqW.consX rfl (kBuild (T := (TU8 5)) rfl Try.underlying66 Try.type5 rfl rfl rfl rfl ([y67] : List UInt8) [[Value.int .u8 (UInt8.toNat y67 : Int)]] rfl rfl rfl (BuildOk.mk (w := (Value.int .u8 (UInt8.toNat y67 : Int))) (by rw [← toU8_some hy67]; exact rfl) rfl rfl rfl trivial) st ?_)
 intro V68 m69 st O70 sm71 hap72
 have A74 := hap72 _ bx0n.lt'
 replace bx0n := bx0n.same sm71 Ap.none'
 refine SeqW.consX rfl (kStrO (s := ([y67] : List UInt8)) rfl Try.underlying66 Try.underlying5 Try.underlying9 rfl O70 ?_)
 obtain ⟨y75, hy75, hr⟩ := bind_some hr
 refine SeqW.consX rfl (kAddS (s := y61) (r := ([y67] : List UInt8)) rfl rfl rfl hy75 ?_)
 refine sx rfl (pAssign (v := (str y75)) rfl rfl) ?_
 refine SeqW.done fun fr76 hf77 => ?_
 have h0 := (congrFun hf77 0).trans h0
 have h4 : fr76 4 = (str y75) := (congrFun hf77 4).trans rfl
 clear hf77
 refine thenQ.n ?_
 refine W.ret ?_
 obtain rfl := Option.some.inj hr
 exact ⟨z4, hz, st, .inr rfl, V9, h4, Q10, bx0n, trivial⟩

theorem c_Maker_Number {N : Nat} {z : Nat → Blk} {m : Mem} {x0 : Maker} {x1 : Int} {v0_0 : Value} {b0 : Nat} (fz : Fz z m) (hd : ∀ b, m.next ≤ b → m.blk b = .dead) (s0_0 : SlR (TInt 3 .i64) z x0.l v0_0) (bx0 : Bx z m m (some b0) b0 [v0_0, (vI x0.n)] 56) {r : List UInt8 × Maker} (hr : Maker_Number N x0 x1 = some r) : CallW Try.prog 31 #[(vP b0), (vI x1)] m fun v m' => ∃ z' wr_0, Zx m.next z z' ∧ Fz z' m' ∧ Same m m' (some b0) ∧ v = (str r.1) ∧ SlR (TInt 3 .i64) z' r.2.l wr_0 ∧ Bx z' m m' (some b0) b0 [wr_0, (vI r.2.n)] 56 ∧ True := by
 refine CallW.any Try.func31 rfl (by kernel_rfl) (Nat.le_of_ble_eq_true rfl) (fun fr hf => ?_)
 have h0 : fr 0 = _ := hf 0 _ rfl
 have h1 : fr 1 = _ := hf 1 _ rfl
 refine (u_Maker_Number (k := (some b0)) (Zx.refl _) (St.start fz hd) h0 s0_0 bx0 h1 hr).mono ?_
 rintro ex fr' m' ⟨z', hz, st, he, wr_0, h4, sr_0, bxr, -⟩
 exact ⟨he, [(str r.1)], ⟨h4.symm, trivial⟩, .inl rfl, z', wr_0, hz, st.fz, st.toSame, rfl, sr_0, bxr, trivial⟩

/-! ### (*humpyard/humpgen.Maker).Name -/

theorem u_Maker_Name {N : Nat}  {z0 z : Nat → Blk} {e m : Mem} {k : Option Nat} {fr : Nat → Value} {x0 : Maker} {v0_0 : Value} {b0 : Nat} (hz : Zx e.next z0 z) (st : St z e m k) (h0 : fr 0 = (vP b0)) (s0_0 : SlR (TInt 3 .i64) z x0.l v0_0) (bx0 : Bx z e m k b0 [v0_0, (vI x0.n)] 56) {r : List UInt8 × Maker} (hr : Maker_Name N x0 = some r) : W Try.prog (sub (bodyOf Try.f32) []) (fun ex fr' m' => ∃ z', Zx e.next z0 z' ∧ St z' e m' k ∧ (ex = .normal ∨ ex = .ret) ∧ ∃ (wr_0 : Value), fr' 2 = (str r.1) ∧ SlR (TInt 3 .i64) z' r.2.l wr_0 ∧ Bx z' e m' k b0 [wr_0, (vI r.2.n)] 56 ∧ True) fr m := by
 unfold Maker_Name at hr
 refine W.seq (W.region ?_)
 refine sx rfl (pAssign (v := (str [])) rfl rfl) ?_
 refine SeqW.done fun fr1 hf2 => ?_
 have h0 := (congrFun hf2 0).trans h0
 clear hf2
 refine thenQ.n (W.seq (W.region ?_))
 refine SeqW.consX rfl (kBuild (T := (TStr 9)) rfl Try.underlying62 Try.type9 rfl rfl rfl rfl ([[97], [98], [99], [100], [101], [110, 111, 114, 116, 104], [115, 111, 117, 116, 104], [112, 111, 114, 116, 49], [120, 57], [97, 98, 99, 100, 101, 102, 103, 104, 105, 106, 107, 108]] : List (List UInt8)) [[(str [97])], [(str [98])], [(str [99])], [(str [100])], [(str [101])], [(str [110, 111, 114, 116, 104])], [(str [115, 111, 117, 116, 104])], [(str [112, 111, 114, 116, 49])], [(str [120, 57])], [(str [97, 98, 99, 100, 101, 102, 103, 104, 105, 106, 107, 108])]] rfl rfl rfl (BuildOk.mk (w := (str [97])) rfl rfl rfl rfl (BuildOk.mk (w := (str [98])) rfl rfl rfl rfl (BuildOk.mk (w := (str [99])) rfl rfl rfl rfl (BuildOk.mk (w := (str [100])) rfl rfl rfl rfl (BuildOk.mk (w := (str [101])) rfl rfl rfl rfl (BuildOk.mk (w := (str [110, 111, 114, 116, 104])) rfl rfl rfl rfl (BuildOk.mk (w := (str [115, 111, 117, 116, 104])) rfl rfl rfl rfl (BuildOk.mk (w := (str [112, 111, 114, 116, 49])) rfl rfl rfl rfl (BuildOk.mk (w := (str [120, 57])) rfl rfl rfl rfl (BuildOk.mk (w := (str [97, 98, 99, 100, 101, 102, 103, 104, 105, 106, 107, 108])) rfl rfl rfl rfl trivial)))))))))) st ?_)
 intro V3 m4 st O5 sm6 hap7
 have A9 := hap7 _ bx0.lt'
 replace bx0 := bx0.same sm6 Ap.none'
 refine sx rfl (pMove (v := (vP b0)) rfl h0) ?_
 obtain ⟨y10, hy10, hr⟩ := bind_some hr
 refine SeqW.consX rfl (StepX.call (gCallee rfl rfl (args2 rfl rfl)) ((c_Maker_Next (x0 := x0) (z := z) st.fz st.dead s0_0 ⟨bx0.blk, bx0.lt, bx0.dead, .inr rfl⟩ hy10).mono ?_))
 rintro _ m15 ⟨z11, V16, hzx12, fz13, sm14, rfl, Q17, X19, -⟩
 replace s0_0 := s0_0.mono hzx12.le
 replace O5 := O5.call hzx12 sm14 (Ap.symm A9)
 have bx0n : Bx z11 e m15 k b0 _ _ := ⟨X19.blk, X19.lt, X19.dead, bx0.fresh⟩
 replace hz := hz.trans (Zx.here st hzx12)
 replace st := st.call hzx12 fz13 sm14 bx0.hq
 obtain ⟨y20, hy20, hr⟩ := bind_some hr
 refine SeqW.consX rfl (kIdxO (T := (TStr 9)) (xs := ([[97], [98], [99], [100], [101], [110, 111, 114, 116, 104], [115, 111, 117, 116, 104], [112, 111, 114, 116, 49], [120, 57], [97, 98, 99, 100, 101, 102, 103, 104, 105, 106, 107, 108]] : List (List UInt8))) (n := y10.1) rfl Try.underlying62 Try.type9 rfl rfl rfl O5 hy20 ?_)
 intro B21 l22 c23 cs24 hv25 hd26 hg27 hc28
 have hd260 := hd26
 obtain rfl := hd260
 refine SeqW.consX rfl (kLoad (v := (str y20)) rfl Try.underlying9 rfl rfl (hc28 0 _ rfl) ?_)
 refine sx rfl (pAssign (v := (str y20)) rfl rfl) ?_
 refine SeqW.done fun fr29 hf30 => ?_
 have h0 := (congrFun hf30 0).trans h0
 have h2 : fr29 2 = (str y20) := (congrFun hf30 2).trans rfl
 clear hf30
 refine thenQ.n ?_
 refine W.ret ?_
 obtain rfl := Option.some.inj hr
 exact ⟨z11, hz, st, .inr rfl, V16, h2, Q17, bx0n, trivial⟩

theorem c_Maker_Name {N : Nat} {z : Nat → Blk} {m : Mem} {x0 : Maker} {v0_0 : Value} {b0 : Nat} (fz : Fz z m) (hd : ∀ b, m.next ≤ b → m.blk b = .dead) (s0_0 : SlR (TInt 3 .i64) z x0.l v0_0) (bx0 : Bx z m m (some b0) b0 [v0_0, (vI x0.n)] 56) {r : List UInt8 × Maker} (hr : Maker_Name N x0 = some r) : CallW Try.prog 32 #[(vP b0)] m fun v m' => ∃ z' wr_0, Zx m.next z z' ∧ Fz z' m' ∧ Same m m' (some b0) ∧ v = (str r.1) ∧ SlR (TInt 3 .i64) z' r.2.l wr_0 ∧ Bx z' m m' (some b0) b0 [wr_0, (vI r.2.n)] 56 ∧ True := by
 refine CallW.any Try.func32 rfl (by kernel_rfl) (Nat.le_of_ble_eq_true rfl) (fun fr hf => ?_)
 have h0 : fr 0 = _ := hf 0 _ rfl
 refine (u_Maker_Name (k := (some b0)) (Zx.refl _) (St.start fz hd) h0 s0_0 bx0 hr).mono ?_
 rintro ex fr' m' ⟨z', hz, st, he, wr_0, h2, sr_0, bxr, -⟩
 exact ⟨he, [(str r.1)], ⟨h2.symm, trivial⟩, .inl rfl, z', wr_0, hz, st.fz, st.toSame, rfl, sr_0, bxr, trivial⟩

/-! ### (*humpyard/humpgen.Maker).Wagon -/

theorem u_Maker_Wagon_1 {N : Nat}  {z0 z : Nat → Blk} {e m : Mem} {k : Option Nat} {fr : Nat → Value} {x26 : Int} {x27 : Bool} {x0 : Maker} {v0_0 : Value} {b0 : Nat} {x4 : Wagon} {b4 : Nat} {x5 : Wagon} {b5 : Nat} (hz : Zx e.next z0 z) (st : St z e m k) (h0 : fr 0 = (vP b0)) (s0_0 : SlR (TInt 3 .i64) z x0.l v0_0) (bx0 : Bx z e m k b0 [v0_0, (vI x0.n)] 56) (h4 : fr 4 = (vP b4)) (bx4 : Bx z e m k b4 [(str x4.number), (vI x4.length), (vI x4.axles), (vI x4.mass), (vI x4.brake), (vI x4.goods), (vB x4.gentle), (str x4.dest)] 30) (h5 : fr 5 = (vP b5)) (bx5 : Bx z e m k b5 [(str x5.number), (vI x5.length), (vI x5.axles), (vI x5.mass), (vI x5.brake), (vI x5.goods), (vB x5.gentle), (str x5.dest)] 30) (h26 : fr 26 = (Value.int .u8 x26)) (h27 : fr 27 = (vB x27)) (ao0_o4 : Ap (some b0) (some b4)) (ao0_o5 : Ap (some b0) (some b5)) (ao4_o5 : Ap (some b4) (some b5)) {r : Bool} (hr : Maker_Wagon_1 N x26 x27 = some r) : W Try.prog (sub (bodyOf Try.f13) [1, 1, 0, 1, 0, 0, 1]) (fun ex fr' m' => ∃ z', Zx e.next z0 z' ∧ St z' e m' k ∧ ex = AExit.normal ∧ fr' 27 = (vB r) ∧ Bx z' e m' k b0 [v0_0, (vI x0.n)] 56 ∧ Bx z' e m' k b4 [(str x4.number), (vI x4.length), (vI x4.axles), (vI x4.mass), (vI x4.brake), (vI x4.goods), (vB x4.gentle), (str x4.dest)] 30 ∧ Bx z' e m' k b5 [(str x5.number), (vI x5.length), (vI x5.axles), (vI x5.mass), (vI x5.brake), (vI x5.goods), (vB x5.gentle), (str x5.dest)] 30 ∧ Ap (some b0) (some b4) ∧ Ap (some b0) (some b5) ∧ Ap (some b4) (some b5) ∧ True) fr m := by
 unfold Maker_Wagon_1 at hr
 rcases if_some hr with ⟨hc124, hr⟩ | ⟨hc125, hr⟩
 ·refine W.condT h27 hc124 (W.skip ?_)
  obtain rfl := Option.some.inj hr
  exact ⟨z, hz, st, rfl, h27, bx0, bx4, bx5, ao0_o4, ao0_o5, ao4_o5, trivial⟩
 ·refine W.condF h27 hc125 (W.region ?_)
  refine sx rfl (pEql (k := .u8) (a := x26) (b := 52) rfl h26 rfl) ?_
  obtain ⟨y126, hy126, hr⟩ := lt_some hr
  refine sx rfl (pAssign rfl (congrArg vB hy126)) ?_
  refine SeqW.done fun fr127 hf128 => ?_
  have h0 := (congrFun hf128 0).trans h0
  have h4 := (congrFun hf128 4).trans h4
  have h5 := (congrFun hf128 5).trans h5
  have h26 := (congrFun hf128 26).trans h26
  have h27 : fr127 27 = (vB y126) := (congrFun hf128 27).trans rfl
  clear hf128
  obtain rfl := Option.some.inj hr
  exact ⟨z, hz, st, rfl, h27, bx0, bx4, bx5, ao0_o4, ao0_o5, ao4_o5, trivial⟩

theorem u_Maker_Wagon_0 {N : Nat}  {z0 z : Nat → Blk} {e m : Mem} {k : Option Nat} {fr : Nat → Value} {x5 : Wagon} {x26 : Int} {x0 : Maker} {v0_0 : Value} {b0 : Nat} {x4 : Wagon} {b4 : Nat} {b5 : Nat} (hz : Zx e.next z0 z) (st : St z e m k) (h0 : fr 0 = (vP b0)) (s0_0 : SlR (TInt 3 .i64) z x0.l v0_0) (bx0 : Bx z e m k b0 [v0_0, (vI x0.n)] 56) (h4 : fr 4 = (vP b4)) (bx4 : Bx z e m k b4 [(str x4.number), (vI x4.length), (vI x4.axles), (vI x4.mass), (vI x4.brake), (vI x4.goods), (vB x4.gentle), (str x4.dest)] 30) (h5 : fr 5 = (vP b5)) (bx5 : Bx z e m k b5 [(str x5.number), (vI x5.length), (vI x5.axles), (vI x5.mass), (vI x5.brake), (vI x5.goods), (vB x5.gentle), (str x5.dest)] 30) (h26 : fr 26 = (Value.int .u8 x26)) (ao0_o4 : Ap (some b0) (some b4)) (ao0_o5 : Ap (some b0) (some b5)) (ao4_o5 : Ap (some b4) (some b5)) {r : Wagon} (hr : Maker_Wagon_0 N x5 x26 = some r) : W Try.prog (sub (bodyOf Try.f13) [1, 1, 0, 1]) (fun ex fr' m' => ∃ z', Zx e.next z0 z' ∧ St z' e m' k ∧ ex = AExit.normal ∧ fr' 5 = (vP b5) ∧ Bx z' e m' k b5 [(str r.number), (vI r.length), (vI r.axles), (vI r.mass), (vI r.brake), (vI r.goods), (vB r.gentle), (str r.dest)] 30 ∧ Bx z' e m' k b0 [v0_0, (vI x0.n)] 56 ∧ Bx z' e m' k b4 [(str x4.number), (vI x4.length), (vI x4.axles), (vI x4.mass), (vI x4.brake), (vI x4.goods), (vB x4.gentle), (str x4.dest)] 30 ∧ Ap (some b5) (some b0) ∧ Ap (some b5) (some b4) ∧ Ap (some b0) (some b4) ∧ True) fr m := by
 unfold Maker_Wagon_0 at hr
 refine W.block ?_
 refine W.seq (W.seq (W.region ?_))
 refine sx rfl (pEql (k := .u8) (a := x26) (b := 50) rfl h26 rfl) ?_
 obtain ⟨y121, hy121, hr⟩ := lt_some hr
 refine sx rfl (pAssign rfl (congrArg vB hy121)) ?_
 refine SeqW.done fun fr122 hf123 => ?_
 have h0 := (congrFun hf123 0).trans h0
 have h4 := (congrFun hf123 4).trans h4
 have h5 := (congrFun hf123 5).trans h5
 have h26 := (congrFun hf123 26).trans h26
 have h27 : fr122 27 = (vB y121) := (congrFun hf123 27).trans rfl
 clear hf123
 refine thenQ.n ?_
 obtain ⟨y129, hy129, hr⟩ := bind_some hr
 refine W.keep (u_Maker_Wagon_1 (x0 := x0) (x4 := x4) (x5 := x5) (Zx.refl _) st h0 s0_0 bx0 h4 bx4 h5 bx5 h26 h27 ao0_o4 ao0_o5 ao4_o5 hy129) ?_
 rintro ex135 fr130 m131 hk133 ⟨z132, hz134, st, rfl, h27, O136, O137, O138, A139, A140, A141, -⟩
 replace s0_0 := s0_0.mono hz134.le
 have h0 := (hk133 0 rfl).trans h0
 have h4 := (hk133 4 rfl).trans h4
 have h5 := (hk133 5 rfl).trans h5
 have h26 := (hk133 26 rfl).trans h26
 replace hz := hz.trans hz134
 clear hk133
 refine thenQ.n ?_
 rcases if_some hr with ⟨hc142, hr⟩ | ⟨hc147, hr⟩
 ·refine W.condT h27 hc142 (W.region ?_)
  refine SeqW.consX rfl (kField rfl Try.underlying30 rfl Try.type3 rfl h5 rfl ?_)
  refine SeqW.consX rfl (kPut (off := 2) (w := (vI 2)) (new := [(vI 2)]) rfl Try.type3 rfl rfl rfl rfl rfl O138 rfl [(str x5.number), (vI x5.length), (vI 2), (vI x5.mass), (vI x5.brake), (vI x5.goods), (vB x5.gentle), (str x5.dest)] rfl st ?_)
  intro m143 st O138 sm144
  replace O136 := O136.same sm144 A140
  replace O137 := O137.same sm144 A141
  refine SeqW.done fun fr145 hf146 => ?_
  have h0 := (congrFun hf146 0).trans h0
  have h4 := (congrFun hf146 4).trans h4
  have h5 := (congrFun hf146 5).trans h5
  clear hf146
  refine blockQ.n ?_
  obtain rfl := Option.some.inj hr
  exact ⟨z132, hz, st, rfl, h5, O138, O136, O137, (Ap.symm A140), (Ap.symm A141), A139, trivial⟩
 ·refine W.condF h27 hc147 (W.seq (W.region ?_))
  refine sx rfl (pEql (k := .u8) (a := x26) (b := 57) rfl h26 rfl) ?_
  obtain ⟨y148, hy148, hr⟩ := lt_some hr
  refine sx rfl (pAssign rfl (congrArg vB hy148)) ?_
  refine SeqW.done fun fr149 hf150 => ?_
  have h0 := (congrFun hf150 0).trans h0
  have h4 := (congrFun hf150 4).trans h4
  have h5 := (congrFun hf150 5).trans h5
  have h31 : fr149 31 = (vB y148) := (congrFun hf150 31).trans rfl
  clear hf150
  refine thenQ.n ?_
  rcases if_some hr with ⟨hc151, hr⟩ | ⟨hc160, hr⟩
  ·refine W.condT h31 hc151 (W.seq (W.region ?_))
   refine SeqW.consX rfl (kField rfl Try.underlying30 rfl Try.type3 rfl h5 rfl ?_)
   refine SeqW.consX rfl (kPut (off := 2) (w := (vI 6)) (new := [(vI 6)]) rfl Try.type3 rfl rfl rfl rfl rfl O138 rfl [(str x5.number), (vI x5.length), (vI 6), (vI x5.mass), (vI x5.brake), (vI x5.goods), (vB x5.gentle), (str x5.dest)] rfl st ?_)
   intro m152 st O138 sm153
   replace O136 := O136.same sm153 A140
   replace O137 := O137.same sm153 A141
   refine SeqW.done fun fr154 hf155 => ?_
   have h0 := (congrFun hf155 0).trans h0
   have h4 := (congrFun hf155 4).trans h4
   have h5 := (congrFun hf155 5).trans h5
   clear hf155
   refine thenQ.n (W.region ?_)
   refine SeqW.consX rfl (kField rfl Try.underlying30 rfl Try.type3 rfl h5 rfl ?_)
   refine SeqW.consX rfl (kLoad rfl Try.underlying3 rfl rfl (O138.load (v := (vI x5.length)) rfl) ?_)
   refine sx rfl (pMax2 (k := .i64) (a := x5.length) (b := 120) rfl rfl rfl) ?_
   refine SeqW.consX rfl (kField rfl Try.underlying30 rfl Try.type3 rfl h5 rfl ?_)
   refine SeqW.consX rfl (kPut (off := 1) (w := (vI (max x5.length 120))) (new := [(vI (max x5.length 120))]) rfl Try.type3 rfl rfl rfl rfl rfl O138 rfl [(str x5.number), (vI (max x5.length 120)), (vI 6), (vI x5.mass), (vI x5.brake), (vI x5.goods), (vB x5.gentle), (str x5.dest)] rfl st ?_)
   intro m156 st O138 sm157
   replace O136 := O136.same sm157 A140
   replace O137 := O137.same sm157 A141
   refine SeqW.done fun fr158 hf159 => ?_
   have h0 := (congrFun hf159 0).trans h0
   have h4 := (congrFun hf159 4).trans h4
   have h5 := (congrFun hf159 5).trans h5
   clear hf159
   refine blockQ.n ?_
   obtain rfl := Option.some.inj hr
   exact ⟨z132, hz, st, rfl, h5, O138, O136, O137, (Ap.symm A140), (Ap.symm A141), A139, trivial⟩
  ·refine W.condF h31 hc160 (W.skip ?_)
   refine blockQ.n ?_
   obtain rfl := Option.some.inj hr
   exact ⟨z132, hz, st, rfl, h5, O138, O136, O137, (Ap.symm A140), (Ap.symm A141), A139, trivial⟩

theorem u_Maker_Wagon {N : Nat}  {z0 z : Nat → Blk} {e m : Mem} {k : Option Nat} {fr : Nat → Value} {x0 : Maker} {x1 : Int} {v0_0 : Value} {b0 : Nat} (hz : Zx e.next z0 z) (st : St z e m k) (h0 : fr 0 = (vP b0)) (s0_0 : SlR (TInt 3 .i64) z x0.l v0_0) (bx0 : Bx z e m k b0 [v0_0, (vI x0.n)] 56) (h1 : fr 1 = (vI x1)) {r : Wagon × Maker} (hr : Maker_Wagon N x0 x1 = some r) : W Try.prog (sub (bodyOf Try.f13) []) (fun ex fr' m' => ∃ z', Zx e.next z0 z' ∧ St z' e m' k ∧ (ex = .normal ∨ ex = .ret) ∧ ∃ (c4 : Nat) (wr_0 : Value), fr' 4 = (vP c4) ∧ Bx z' e m' k c4 [(str r.1.number), (vI r.1.length), (vI r.1.axles), (vI r.1.mass), (vI r.1.brake), (vI r.1.goods), (vB r.1.gentle), (str r.1.dest)] 30 ∧ (e.next ≤ c4 ∨ k = some c4) ∧ SlR (TInt 3 .i64) z' r.2.l wr_0 ∧ Bx z' e m' k b0 [wr_0, (vI r.2.n)] 56 ∧ True) fr m := by
 unfold Maker_Wagon at hr
 refine W.seq (W.region ?_)
 refine SeqW.consX rfl (kAlloc rfl Try.type30 rfl rfl rfl [(str []), (vI 0), (vI 0), (vI 0), (vI 0), (vI 0), (vB false), (str [])] rfl st ?_)
 intro B1 m2 st X3 sm4 hap5
 have A7 := hap5 _ bx0.lt'
 replace bx0 := bx0.same sm4 Ap.none'
 refine SeqW.done fun fr8 hf9 => ?_
 have h0 := (congrFun hf9 0).trans h0
 have h1 := (congrFun hf9 1).trans h1
 have h4 : fr8 4 = (vP B1) := (congrFun hf9 4).trans rfl
 clear hf9
 refine thenQ.n (W.seq (W.region ?_))
 refine sx rfl (pMove (v := (vP b0)) rfl h0) ?_
 refine sx rfl (pMove (v := (vI x1)) rfl h1) ?_
 obtain ⟨y10, hy10, hr⟩ := bind_some hr
 refine SeqW.consX rfl (StepX.call (gCallee rfl rfl (args2 rfl rfl)) ((c_Maker_Number (x0 := x0) (z := z) st.fz st.dead s0_0 ⟨bx0.blk, bx0.lt, bx0.dead, .inr rfl⟩ hy10).mono ?_))
 rintro _ m15 ⟨z11, V16, hzx12, fz13, sm14, rfl, Q17, X19, -⟩
 replace s0_0 := s0_0.mono hzx12.le
 replace X3 := X3.call hzx12 sm14 (Ap.symm A7)
 have bx0n : Bx z11 e m15 k b0 _ _ := ⟨X19.blk, X19.lt, X19.dead, bx0.fresh⟩
 replace hz := hz.trans (Zx.here st hzx12)
 replace st := st.call hzx12 fz13 sm14 bx0.hq
 refine sx rfl (pMove (v := (vP b0)) rfl h0) ?_
 refine SeqW.consX rfl (kBuild (T := (TInt 3 .i64)) rfl Try.underlying22 Try.type3 rfl rfl rfl rfl ([80, 120, 142, 199, 262, 400] : List Int) [[(vI 80)], [(vI 120)], [(vI 142)], [(vI 199)], [(vI 262)], [(vI 400)]] rfl rfl rfl (BuildOk.mk (w := (vI 80)) rfl rfl rfl rfl (BuildOk.mk (w := (vI 120)) rfl rfl rfl rfl (BuildOk.mk (w := (vI 142)) rfl rfl rfl rfl (BuildOk.mk (w := (vI 199)) rfl rfl rfl rfl (BuildOk.mk (w := (vI 262)) rfl rfl rfl rfl (BuildOk.mk (w := (vI 400)) rfl rfl rfl rfl trivial)))))) st ?_)
 intro V20 m21 st O22 sm23 hap24
 have A26 := hap24 _ bx0n.lt'
 have A27 := hap24 _ X3.lt'
 replace bx0n := bx0n.same sm23 Ap.none'
 replace X3 := X3.same sm23 Ap.none'
 obtain ⟨z28, hz29, st, Q30, hl31⟩ := O22.freeze st
 replace bx0n := bx0n.zle (hl31 _ A26)
 replace X3 := X3.zle (hl31 _ A27)
 replace Q17 := Q17.mono hz29.le
 replace hz := hz.trans hz29
 obtain ⟨y32, hy32, hr⟩ := bind_some hr
 refine SeqW.consX rfl (StepX.call (gCallee rfl rfl (args2 rfl rfl)) ((c_Maker_Pick (x0 := y10.2) (z := z28) st.fz st.dead Q17 ⟨bx0n.blk, bx0n.lt, bx0n.dead, .inr rfl⟩ Q30 hy32).mono ?_))
 rintro _ m37 ⟨z33, V38, hzx34, fz35, sm36, rfl, Q39, X41, -⟩
 replace X3 := X3.call hzx34 sm36 (Ap.symm A7)
 replace Q17 := Q17.mono hzx34.le
 replace Q30 := Q30.mono hzx34.le
 have bx0nn : Bx z33 e m37 k b0 _ _ := ⟨X41.blk, X41.lt, X41.dead, bx0n.fresh⟩
 replace hz := hz.trans (Zx.here st hzx34)
 replace st := st.call hzx34 fz35 sm36 bx0n.hq
 refine sx rfl (pMove (v := (vP b0)) rfl h0) ?_
 refine SeqW.consX rfl (kBuild (T := (TInt 3 .i64)) rfl Try.underlying22 Try.type3 rfl rfl rfl rfl ([50, 120, 400, 800, 2000] : List Int) [[(vI 50)], [(vI 120)], [(vI 400)], [(vI 800)], [(vI 2000)]] rfl rfl rfl (BuildOk.mk (w := (vI 50)) rfl rfl rfl rfl (BuildOk.mk (w := (vI 120)) rfl rfl rfl rfl (BuildOk.mk (w := (vI 400)) rfl rfl rfl rfl (BuildOk.mk (w := (vI 800)) rfl rfl rfl rfl (BuildOk.mk (w := (vI 2000)) rfl rfl rfl rfl trivial))))) st ?_)
 intro V42 m43 st O44 sm45 hap46
 have A48 := hap46 _ bx0nn.lt'
 have A49 := hap46 _ X3.lt'
 replace bx0nn := bx0nn.same sm45 Ap.none'
 replace X3 := X3.same sm45 Ap.none'
 obtain ⟨z50, hz51, st, Q52, hl53⟩ := O44.freeze st
 replace bx0nn := bx0nn.zle (hl53 _ A48)
 replace X3 := X3.zle (hl53 _ A49)
 replace Q39 := Q39.mono hz51.le
 replace hz := hz.trans hz51
 obtain ⟨y54, hy54, hr⟩ := bind_some hr
 refine SeqW.consX rfl (StepX.call (gCallee rfl rfl (args2 rfl rfl)) ((c_Maker_Pick (x0 := y32.2) (z := z50) st.fz st.dead Q39 ⟨bx0nn.blk, bx0nn.lt, bx0nn.dead, .inr rfl⟩ Q52 hy54).mono ?_))
 rintro _ m59 ⟨z55, V60, hzx56, fz57, sm58, rfl, Q61, X63, -⟩
 replace X3 := X3.call hzx56 sm58 (Ap.symm A7)
 replace Q39 := Q39.mono hzx56.le
 replace Q52 := Q52.mono hzx56.le
 have bx0nnn : Bx z55 e m59 k b0 _ _ := ⟨X63.blk, X63.lt, X63.dead, bx0nn.fresh⟩
 replace hz := hz.trans (Zx.here st hzx56)
 replace st := st.call hzx56 fz57 sm58 bx0nn.hq
 refine sx rfl (pMove (v := (vP b0)) rfl h0) ?_
 refine SeqW.consX rfl (kBuild (T := (TInt 3 .i64)) rfl Try.underlying22 Try.type3 rfl rfl rfl rfl ([0, 0, 0, 1, 3, 9] : List Int) [[(vI 0)], [(vI 0)], [(vI 0)], [(vI 1)], [(vI 3)], [(vI 9)]] rfl rfl rfl (BuildOk.mk (w := (vI 0)) rfl rfl rfl rfl (BuildOk.mk (w := (vI 0)) rfl rfl rfl rfl (BuildOk.mk (w := (vI 0)) rfl rfl rfl rfl (BuildOk.mk (w := (vI 1)) rfl rfl rfl rfl (BuildOk.mk (w := (vI 3)) rfl rfl rfl rfl (BuildOk.mk (w := (vI 9)) rfl rfl rfl rfl trivial)))))) st ?_)
 intro V64 m65 st O66 sm67 hap68
 have A70 := hap68 _ bx0nnn.lt'
 have A71 := hap68 _ X3.lt'
 replace bx0nnn := bx0nnn.same sm67 Ap.none'
 replace X3 := X3.same sm67 Ap.none'
 obtain ⟨z72, hz73, st, Q74, hl75⟩ := O66.freeze st
 replace bx0nnn := bx0nnn.zle (hl75 _ A70)
 replace X3 := X3.zle (hl75 _ A71)
 replace Q61 := Q61.mono hz73.le
 replace hz := hz.trans hz73
 obtain ⟨y76, hy76, hr⟩ := bind_some hr
 refine SeqW.consX rfl (StepX.call (gCallee rfl rfl (args2 rfl rfl)) ((c_Maker_Pick (x0 := y54.2) (z := z72) st.fz st.dead Q61 ⟨bx0nnn.blk, bx0nnn.lt, bx0nnn.dead, .inr rfl⟩ Q74 hy76).mono ?_))
 rintro _ m81 ⟨z77, V82, hzx78, fz79, sm80, rfl, Q83, X85, -⟩
 replace X3 := X3.call hzx78 sm80 (Ap.symm A7)
 replace Q61 := Q61.mono hzx78.le
 replace Q74 := Q74.mono hzx78.le
 have bx0nnnn : Bx z77 e m81 k b0 _ _ := ⟨X85.blk, X85.lt, X85.dead, bx0nnn.fresh⟩
 replace hz := hz.trans (Zx.here st hzx78)
 replace st := st.call hzx78 fz79 sm80 bx0nnn.hq
 refine sx rfl (pMove (v := (vP b0)) rfl h0) ?_
 obtain ⟨y86, hy86, hr⟩ := bind_some hr
 refine SeqW.consX rfl (StepX.call (gCallee rfl rfl (args2 rfl rfl)) ((c_Maker_Next (x0 := y76.2) (z := z77) st.fz st.dead Q83 ⟨bx0nnnn.blk, bx0nnnn.lt, bx0nnnn.dead, .inr rfl⟩ hy86).mono ?_))
 rintro _ m91 ⟨z87, V92, hzx88, fz89, sm90, rfl, Q93, X95, -⟩
 replace X3 := X3.call hzx88 sm90 (Ap.symm A7)
 replace Q83 := Q83.mono hzx88.le
 have bx0nnnnn : Bx z87 e m91 k b0 _ _ := ⟨X95.blk, X95.lt, X95.dead, bx0nnnn.fresh⟩
 replace hz := hz.trans (Zx.here st hzx88)
 replace st := st.call hzx88 fz89 sm90 bx0nnnn.hq
 refine sx rfl (pEql (k := .i64) (a := y86.1) (b := 0) rfl rfl rfl) ?_
 refine sx rfl (pMove (v := (vP b0)) rfl h0) ?_
 obtain ⟨y96, hy96, hr⟩ := bind_some hr
 refine SeqW.consX rfl (StepX.call (gCallee rfl rfl (args1 rfl)) ((c_Maker_Name (x0 := y86.2) (z := z87) st.fz st.dead Q93 ⟨bx0nnnnn.blk, bx0nnnnn.lt, bx0nnnnn.dead, .inr rfl⟩ hy96).mono ?_))
 rintro _ m101 ⟨z97, V102, hzx98, fz99, sm100, rfl, Q103, X105, -⟩
 replace X3 := X3.call hzx98 sm100 (Ap.symm A7)
 replace Q93 := Q93.mono hzx98.le
 have bx0nnnnnn : Bx z97 e m101 k b0 _ _ := ⟨X105.blk, X105.lt, X105.dead, bx0nnnnn.fresh⟩
 replace hz := hz.trans (Zx.here st hzx98)
 replace st := st.call hzx98 fz99 sm100 bx0nnnnn.hq
 refine SeqW.consX rfl (kBuildS [(0, (str y10.1)), (2, (vI 4)), (1, (vI y32.1)), (3, (vI y54.1)), (5, (vI y76.1)), (6, (vB (y86.1 == 0))), (7, (str y96.1))] [(str y10.1), (vI y32.1), (vI 4), (vI y54.1), (vI 0), (vI y76.1), (vB (y86.1 == 0)), (str y96.1)] rfl Try.underlying30 Try.type30 rfl rfl (places30 Try.underlying30) rfl (rfl) rfl ?_)
 refine SeqW.consX rfl (kAlloc rfl Try.type30 rfl rfl rfl [(str []), (vI 0), (vI 0), (vI 0), (vI 0), (vI 0), (vB false), (str [])] rfl st ?_)
 intro B106 m107 st X108 sm109 hap110
 have A112 := hap110 _ bx0nnnnnn.lt'
 have A113 := hap110 _ X3.lt'
 replace bx0nnnnnn := bx0nnnnnn.same sm109 Ap.none'
 replace X3 := X3.same sm109 Ap.none'
 refine SeqW.consX rfl (kPut (off := 0) (w := (Value.agg [(str y10.1), (vI y32.1), (vI 4), (vI y54.1), (vI 0), (vI y76.1), (vB (y86.1 == 0)), (str y96.1)].toArray)) (new := [(str y10.1), (vI y32.1), (vI 4), (vI y54.1), (vI 0), (vI y76.1), (vB (y86.1 == 0)), (str y96.1)]) rfl Try.type30 rfl rfl rfl rfl rfl X108 rfl [(str y10.1), (vI y32.1), (vI 4), (vI y54.1), (vI 0), (vI y76.1), (vB (y86.1 == 0)), (str y96.1)] rfl st ?_)
 intro m114 st X108 sm115
 replace bx0nnnnnn := bx0nnnnnn.same sm115 A112
 replace X3 := X3.same sm115 A113
 refine SeqW.done fun fr116 hf117 => ?_
 have h0 := (congrFun hf117 0).trans h0
 have h4 := (congrFun hf117 4).trans h4
 have h5 : fr116 5 = (vP B106) := (congrFun hf117 5).trans rfl
 clear hf117
 refine thenQ.n (W.seq ?_)
 refine W.seq (W.region ?_)
 refine SeqW.consX rfl (kField rfl Try.underlying30 rfl Try.type9 rfl h5 rfl ?_)
 refine SeqW.consX rfl (kLoad rfl Try.underlying9 rfl rfl (X108.load (v := (str y10.1)) rfl) ?_)
 obtain ⟨y118, hy118, hr⟩ := bind_some hr
 refine SeqW.consX rfl (kIndexS (s := y10.1) (n := 4) rfl Try.underlying9 rfl rfl hy118 ?_)
 refine SeqW.done fun fr119 hf120 => ?_
 have h0 := (congrFun hf120 0).trans h0
 have h4 := (congrFun hf120 4).trans h4
 have h5 := (congrFun hf120 5).trans h5
 have h26 : fr119 26 = (Value.int .u8 (UInt8.toNat y118 : Int)) := (congrFun hf120 26).trans rfl
 clear hf120
 refine thenQ.n ?_
 obtain ⟨y161, hy161, hr⟩ := bind_some hr
 refine W.keep (u_Maker_Wagon_0 (x0 := y96.2) (x4 := (Wagon.mk [] 0 0 0 0 0 false [])) (x5 := (Wagon.mk y10.1 y32.1 4 y54.1 0 y76.1 (y86.1 == 0) y96.1)) (Zx.refl _) st h0 Q103 bx0nnnnnn h4 X3 h5 X108 h26 A7 A112 A113 hy161) ?_
 rintro ex167 fr162 m163 hk165 ⟨z164, hz166, st, rfl, h5, X169, O170, O171, A172, A173, A174, -⟩
 replace Q103 := Q103.mono hz166.le
 have h0 := (hk165 0 rfl).trans h0
 have h4 := (hk165 4 rfl).trans h4
 replace hz := hz.trans hz166
 clear hk165
 refine thenQ.n (W.seq ?_)
 refine W.draw ?_
 refine DrawW.cons rfl (kField rfl Try.underlying30 rfl Try.type3 rfl h5 rfl ?_)
 refine ⟨trivial, ?_⟩
 refine DrawW.cons rfl (kLoad rfl Try.underlying3 rfl rfl (X169.load (v := (vI y161.mass)) rfl) ?_)
 refine ⟨?_, ?_⟩
 ·exact demN
 refine DrawW.cons rfl (StepX.pure (pMove (v := (vP b0)) rfl h0) ?_)
 refine ⟨trivial, ?_⟩
 have sto175 := st
 have old176 := O170
 have old177 := O171
 have old178 := X169
 obtain ⟨y179, hy179, hr⟩ := bind_some hr
 refine DrawW.cons rfl (StepX.call (gCallee rfl rfl (args2 rfl rfl)) ((c_Maker_Next (x0 := y96.2) (z := z164) st.fz st.dead Q103 ⟨O170.blk, O170.lt, O170.dead, .inr rfl⟩ hy179).mono ?_))
 rintro _ m184 ⟨z180, V185, hzx181, fz182, sm183, rfl, Q186, X188, -⟩
 have sr189 := Q103
 replace O171 := O171.call hzx181 sm183 (Ap.symm A174)
 replace Q103 := Q103.mono hzx181.le
 replace X169 := X169.call hzx181 sm183 A172
 have O170n : Bx z180 e m184 k b0 _ _ := ⟨X188.blk, X188.lt, X188.dead, O170.fresh⟩
 replace hz := hz.trans (Zx.here st hzx181)
 replace st := st.call hzx181 fz182 sm183 O170.hq
 refine ⟨⟨?_, ?_⟩, ?_⟩
 ·first | refine demP (gLoad rfl Try.underlying3 rfl rfl (X169.load (v := (vI y161.mass)) rfl)) ?_ | refine demA (by decide) ?_
  exact demN
 ·exact demN
 refine DrawW.cons rfl (StepX.pure (pMul (k := .i64) (a := y161.mass) (b := y179.1) rfl rfl rfl) ?_)
 refine ⟨trivial, ?_⟩
 refine DrawW.cons rfl (StepX.pure (pQuo (k := .i64) (a := (IntKind.wrap .i64 (y161.mass * y179.1))) (b := 4) rfl rfl rfl (by decide)) ?_)
 refine ⟨trivial, ?_⟩
 refine DrawW.cons rfl (kField rfl Try.underlying30 rfl Try.type3 rfl h5 rfl ?_)
 refine ⟨trivial, ?_⟩
 have sto190 := st
 have old191 := O170n
 have old192 := O171
 have old193 := X169
 refine DrawW.cons rfl (kPut (off := 4) (w := (vI (IntKind.wrap .i64 (Int.tdiv (IntKind.wrap .i64 (y161.mass * y179.1)) 4)))) (new := [(vI (IntKind.wrap .i64 (Int.tdiv (IntKind.wrap .i64 (y161.mass * y179.1)) 4)))]) rfl Try.type3 rfl rfl rfl rfl rfl X169 rfl [(str y161.number), (vI y161.length), (vI y161.axles), (vI y161.mass), (vI (IntKind.wrap .i64 (Int.tdiv (IntKind.wrap .i64 (y161.mass * y179.1)) 4))), (vI y161.goods), (vB y161.gentle), (str y161.dest)] rfl st ?_)
 intro m194 st X169 sm195
 replace O170n := O170n.same sm195 (Ap.symm A172)
 replace O171 := O171.same sm195 (Ap.symm A173)
 refine ⟨⟨?_, ?_⟩, ?_⟩
 ·first | refine demP (gLoad rfl Try.underlying3 rfl rfl (X169.load (v := (vI y161.mass)) rfl)) ?_ | refine demA (by decide) ?_
  exact demN
 ·exact demN
 refine DrawW.done fun fr196 hf197 => ?_
 have h0 := (congrFun hf197 0).trans h0
 have h4 := (congrFun hf197 4).trans h4
 have h5 := (congrFun hf197 5).trans h5
 clear hf197
 refine thenQ.n (W.seq (W.region ?_))
 refine SeqW.consX rfl (kLoadA rfl Try.underlying30 rfl Try.type30 rfl h5 X169.loads ?_)
 refine SeqW.consX rfl (kPut (off := 0) (w := (Value.agg [(str y161.number), (vI y161.length), (vI y161.axles), (vI y161.mass), (vI (IntKind.wrap .i64 (Int.tdiv (IntKind.wrap .i64 (y161.mass * y179.1)) 4))), (vI y161.goods), (vB y161.gentle), (str y161.dest)].toArray)) (new := [(str y161.number), (vI y161.length), (vI y161.axles), (vI y161.mass), (vI (IntKind.wrap .i64 (Int.tdiv (IntKind.wrap .i64 (y161.mass * y179.1)) 4))), (vI y161.goods), (vB y161.gentle), (str y161.dest)]) rfl Try.type30 h4 rfl rfl rfl rfl O171 rfl [(str y161.number), (vI y161.length), (vI y161.axles), (vI y161.mass), (vI (IntKind.wrap .i64 (Int.tdiv (IntKind.wrap .i64 (y161.mass * y179.1)) 4))), (vI y161.goods), (vB y161.gentle), (str y161.dest)] rfl st ?_)
 intro m198 st O171 sm199
 replace O170n := O170n.same sm199 A174
 refine SeqW.done fun fr200 hf201 => ?_
 have h0 := (congrFun hf201 0).trans h0
 have h4 := (congrFun hf201 4).trans h4
 clear hf201
 refine thenQ.n ?_
 refine W.ret ?_
 obtain rfl := Option.some.inj hr
 exact ⟨z180, hz, st, .inr rfl, B1, V185, h4, O171, O171.fresh, Q186, O170n, trivial⟩

theorem c_Maker_Wagon {N : Nat} {z : Nat → Blk} {m : Mem} {x0 : Maker} {x1 : Int} {v0_0 : Value} {b0 : Nat} (fz : Fz z m) (hd : ∀ b, m.next ≤ b → m.blk b = .dead) (s0_0 : SlR (TInt 3 .i64) z x0.l v0_0) (bx0 : Bx z m m (some b0) b0 [v0_0, (vI x0.n)] 56) {r : Wagon × Maker} (hr : Maker_Wagon N x0 x1 = some r) : CallW Try.prog 13 #[(vP b0), (vI x1)] m fun v m' => ∃ z' wr_0, Zx m.next z z' ∧ Fz z' m' ∧ Same m m' (some b0) ∧ v = (Value.agg [(str r.1.number), (vI r.1.length), (vI r.1.axles), (vI r.1.mass), (vI r.1.brake), (vI r.1.goods), (vB r.1.gentle), (str r.1.dest)].toArray) ∧ SlR (TInt 3 .i64) z' r.2.l wr_0 ∧ Bx z' m m' (some b0) b0 [wr_0, (vI r.2.n)] 56 ∧ True := by
 refine CallW.any Try.func13 rfl (by kernel_rfl) (Nat.le_of_ble_eq_true rfl) (fun fr hf => ?_)
 have h0 : fr 0 = _ := hf 0 _ rfl
 have h1 : fr 1 = _ := hf 1 _ rfl
 refine (u_Maker_Wagon (k := (some b0)) (Zx.refl _) (St.start fz hd) h0 s0_0 bx0 h1 hr).mono ?_
 rintro ex fr' m' ⟨z', hz, st, he, c4, wr_0, h4, bx4, fx4, sr_0, bxr, -⟩
 exact ⟨he, [(Value.agg [(str r.1.number), (vI r.1.length), (vI r.1.axles), (vI r.1.mass), (vI r.1.brake), (vI r.1.goods), (vB r.1.gentle), (str r.1.dest)].toArray)], ⟨resCell h4 bx4 Try.underlying30 rfl Try.type30 rfl, trivial⟩, .inl rfl, z', wr_0, hz, st.fz, st.toSame, rfl, sr_0, bxr, trivial⟩

/-! ### (*humpyard/humpgen.Maker).Wagons -/

theorem u_Maker_Wagons_0 : ∀ (n : Nat) {N : Nat}  {z0 z : Nat → Blk} {e m : Mem} {k : Option Nat} {fr : Nat → Value} {x0 : Maker} {x5 : List Wagon} {x6 : Int} {v0_0 : Value} {b0 : Nat} {v5 : Value} (hz : Zx e.next z0 z) (st : St z e m k) (h0 : fr 0 = (vP b0)) (s0_0 : SlR (TInt 3 .i64) z x0.l v0_0) (bx0 : Bx z e m k b0 [v0_0, (vI x0.n)] 56) (h5 : fr 5 = v5) (o5 : OwF TWagon z e m k x5 v5) (h6 : fr 6 = (vI x6)) (ao0_o5 : Ap (some b0) (blkOf v5)) {r : Maker × List Wagon} (hr : Maker_Wagons_0 N n x0 x5 x6 = some r), W Try.prog (sub (bodyOf Try.f18) [1, 1, 0, 1, 0]) (fun ex fr' m' => ∃ z', Zx e.next z0 z' ∧ St z' e m' k ∧ ex = AExit.exit 0 ∧ ∃ (w0_0 : Value) (w5 : Value), fr' 0 = (vP b0) ∧ SlR (TInt 3 .i64) z' r.1.l w0_0 ∧ Bx z' e m' k b0 [w0_0, (vI r.1.n)] 56 ∧ fr' 5 = w5 ∧ OwF TWagon z' e m' k r.2 w5 ∧ Ap (some b0) (blkOf w5) ∧ True) fr m := by
 intro n
 induction n with
 | zero => intro N z0 z e m k fr x0 x5 x6 v0_0 b0 v5 hz st h0 s0_0 bx0 h5 o5 h6 ao0_o5 r hr; cases (show (none : Option _) = some r from hr)
 | succ n ih =>
  intro N z0 z e m k fr x0 x5 x6 v0_0 b0 v5 hz st h0 s0_0 bx0 h5 o5 h6 ao0_o5 r hr
  unfold Maker_Wagons_0 at hr
  refine W.loop1 ?_
  refine W.seq (W.seq (W.region ?_))
  refine sx rfl (pMove (v := (vI x6)) rfl h6) ?_
  refine sx rfl (pGtr (k := .i64) (a := x6) (b := 0) rfl rfl rfl) ?_
  refine SeqW.done fun fr17 hf18 => ?_
  have h0 := (congrFun hf18 0).trans h0
  have h5 := (congrFun hf18 5).trans h5
  have h6 := (congrFun hf18 6).trans h6
  have h12 : fr17 12 = (vB (decide (0 < x6))) := (congrFun hf18 12).trans rfl
  clear hf18
  refine thenQ.n ?_
  rcases if_some hr with ⟨hc19, hr⟩ | ⟨hc52, hr⟩
  ·refine W.condT h12 hc19 (W.skip ?_)
   refine thenQ.n (W.seq ?_)
   refine W.block ?_
   refine W.region ?_
   refine sx rfl (pMove (v := v5) rfl h5) ?_
   refine sx rfl (pMove (v := (vP b0)) rfl h0) ?_
   refine sx rfl (pMove (v := v5) rfl h5) ?_
   refine sx rfl (pLenO (xs := x5) rfl Try.underlying41 rfl o5.ow) ?_
   obtain ⟨y20, hy20, hr⟩ := bind_some hr
   refine SeqW.consX rfl (StepX.call (gCallee rfl rfl (args2 rfl rfl)) ((c_Maker_Wagon (x0 := x0) (z := z) st.fz st.dead s0_0 ⟨bx0.blk, bx0.lt, bx0.dead, .inr rfl⟩ hy20).mono ?_))
   rintro _ m25 ⟨z21, V26, hzx22, fz23, sm24, rfl, Q27, X29, -⟩
   replace s0_0 := s0_0.mono hzx22.le
   replace o5 := o5.call hzx22 sm24 (Ap.symm ao0_o5)
   have bx0n : Bx z21 e m25 k b0 _ _ := ⟨X29.blk, X29.lt, X29.dead, bx0.fresh⟩
   replace hz := hz.trans (Zx.here st hzx22)
   replace st := st.call hzx22 fz23 sm24 bx0.hq
   refine SeqW.consX rfl (kBuild (T := TWagon) rfl Try.underlying41 Try.type30 rfl rfl rfl rfl ([y20.1] : List Wagon) [[(str y20.1.number), (vI y20.1.length), (vI y20.1.axles), (vI y20.1.mass), (vI y20.1.brake), (vI y20.1.goods), (vB y20.1.gentle), (str y20.1.dest)]] rfl rfl rfl (BuildOk.mk (w := (Value.agg [(str y20.1.number), (vI y20.1.length), (vI y20.1.axles), (vI y20.1.mass), (vI y20.1.brake), (vI y20.1.goods), (vB y20.1.gentle), (str y20.1.dest)].toArray)) rfl rfl rfl rfl trivial) st ?_)
   intro V30 m31 st O32 sm33 hap34
   have A36 := hap34 _ bx0n.lt'
   have A37 := hap34 _ o5.lt
   replace bx0n := bx0n.same sm33 Ap.none'
   replace o5 := o5.same sm33 Ap.none'
   obtain ⟨y38, hy38, hr⟩ := bind_some hr
   refine SeqW.consX rfl (kAppend (T := TWagon) (xs := x5) (ys := ([y20.1] : List Wagon)) rfl Try.underlying41 Try.type30 rfl rfl rfl rfl rfl rfl (.inl ⟨_, Try.underlying41⟩) rfl o5 rfl O32.ow.src st hy38 ?_)
   intro V39 m40 st O41 sm42 hap43
   have A45 := hap43 _ bx0n.lt' ao0_o5
   have A46 := hap43 _ O32.lt (Ap.symm A37)
   replace bx0n := bx0n.same sm42 ao0_o5
   replace O32 := O32.same sm42 (Ap.symm A37)
   refine sx rfl (pAssign (v := V39) rfl rfl) ?_
   refine SeqW.done fun fr47 hf48 => ?_
   have h0 := (congrFun hf48 0).trans h0
   have h5 : fr47 5 = V39 := (congrFun hf48 5).trans rfl
   have h6 := (congrFun hf48 6).trans h6
   clear hf48
   refine blockQ.n ?_
   refine thenQ.n (W.region ?_)
   refine sx rfl (pMove (v := (vI x6)) rfl h6) ?_
   refine sx rfl (pSub (k := .i64) (a := x6) (b := 1) rfl rfl rfl) ?_
   obtain ⟨y49, hy49, hr⟩ := lt_some hr
   refine sx rfl (pAssign rfl (congrArg (Value.int .i64) hy49)) ?_
   refine SeqW.done fun fr50 hf51 => ?_
   have h0 := (congrFun hf51 0).trans h0
   have h5 := (congrFun hf51 5).trans h5
   have h6 : fr50 6 = (vI y49) := (congrFun hf51 6).trans rfl
   clear hf51
   refine thenQ.n ?_
   exact ih (x0 := y20.2) hz st h0 Q27 bx0n h5 O41 h6 A45 hr
  ·refine W.condF h12 hc52 ?_
   refine W.exit ?_
   refine thenQ.x ?_
   refine thenQ.x ?_
   obtain rfl := Option.some.inj hr
   exact ⟨z, hz, st, rfl, v0_0, v5, h0, s0_0, bx0, h5, o5, ao0_o5, trivial⟩

theorem u_Maker_Wagons {N : Nat}  {z0 z : Nat → Blk} {e m : Mem} {k : Option Nat} {fr : Nat → Value} {x0 : Maker} {x1 : Int} {v0_0 : Value} {b0 : Nat} (hz : Zx e.next z0 z) (st : St z e m k) (h0 : fr 0 = (vP b0)) (s0_0 : SlR (TInt 3 .i64) z x0.l v0_0) (bx0 : Bx z e m k b0 [v0_0, (vI x0.n)] 56) (h1 : fr 1 = (vI x1)) {r : List Wagon × Maker} (hr : Maker_Wagons N x0 x1 = some r) : W Try.prog (sub (bodyOf Try.f18) []) (fun ex fr' m' => ∃ z', Zx e.next z0 z' ∧ St z' e m' k ∧ (ex = .normal ∨ ex = .ret) ∧ ∃ (w4 : Value) (wr_0 : Value), fr' 4 = w4 ∧ OwF TWagon z' e m' k r.1 w4 ∧ SlR (TInt 3 .i64) z' r.2.l wr_0 ∧ Bx z' e m' k b0 [wr_0, (vI r.2.n)] 56 ∧ True) fr m := by
 unfold Maker_Wagons at hr
 refine W.seq (W.region ?_)
 refine sx rfl (pAssign (v := (Value.slice none 0 0)) rfl rfl) ?_
 refine SeqW.done fun fr1 hf2 => ?_
 have h0 := (congrFun hf2 0).trans h0
 have h1 := (congrFun hf2 1).trans h1
 clear hf2
 refine thenQ.n (W.seq (W.region ?_))
 refine sx rfl (pAssign (v := (Value.slice none 0 0)) rfl rfl) ?_
 refine SeqW.done fun fr3 hf4 => ?_
 have h0 := (congrFun hf4 0).trans h0
 have h1 := (congrFun hf4 1).trans h1
 have h5 : fr3 5 = (Value.slice none 0 0) := (congrFun hf4 5).trans rfl
 clear hf4
 refine thenQ.n (W.seq ?_)
 refine W.seq (W.region ?_)
 refine sx rfl (pMove (v := (vP b0)) rfl h0) ?_
 refine sx rfl (pMove (v := (vI x1)) rfl h1) ?_
 refine sx rfl (pAdd (k := .i64) (a := x1) (b := 1) rfl rfl rfl) ?_
 obtain ⟨y5, hy5, hr⟩ := bind_some hr
 refine SeqW.consX rfl (StepX.call (gCallee rfl rfl (args2 rfl rfl)) ((c_Maker_Next (x0 := x0) (z := z) st.fz st.dead s0_0 ⟨bx0.blk, bx0.lt, bx0.dead, .inr rfl⟩ hy5).mono ?_))
 rintro _ m10 ⟨z6, V11, hzx7, fz8, sm9, rfl, Q12, X14, -⟩
 replace s0_0 := s0_0.mono hzx7.le
 have bx0n : Bx z6 e m10 k b0 _ _ := ⟨X14.blk, X14.lt, X14.dead, bx0.fresh⟩
 replace hz := hz.trans (Zx.here st hzx7)
 replace st := st.call hzx7 fz8 sm9 bx0.hq
 refine sx rfl (pAssign (v := (vI y5.1)) rfl rfl) ?_
 refine SeqW.done fun fr15 hf16 => ?_
 have h0 := (congrFun hf16 0).trans h0
 have h5 := (congrFun hf16 5).trans h5
 have h6 : fr15 6 = (vI y5.1) := (congrFun hf16 6).trans rfl
 clear hf16
 refine thenQ.n ?_
 refine W.block ?_
 obtain ⟨y53, hy53, hr⟩ := bind_some hr
 refine W.keep (u_Maker_Wagons_0 (x0 := y5.2) _ (Zx.refl _) st h0 Q12 bx0n h5 OwF.nil h6 Ap.none' hy53) ?_
 rintro ex59 fr54 m55 hk57 ⟨z56, hz58, st, rfl, w60, w61, h0, Q63, X65, h5, O67, A68, -⟩
 replace hz := hz.trans hz58
 clear hk57
 refine blockQ.hit ?_
 refine thenQ.n (W.seq (W.region ?_))
 refine sx rfl (pMove (v := w61) rfl h5) ?_
 refine sx rfl (pAssign (v := w61) rfl rfl) ?_
 refine SeqW.done fun fr69 hf70 => ?_
 have h0 := (congrFun hf70 0).trans h0
 have h4 : fr69 4 = w61 := (congrFun hf70 4).trans rfl
 clear hf70
 refine thenQ.n ?_
 refine W.ret ?_
 obtain rfl := Option.some.inj hr
 exact ⟨z56, hz, st, .inr rfl, w61, w60, h4, O67, Q63, X65, trivial⟩

theorem c_Maker_Wagons {N : Nat} {z : Nat → Blk} {m : Mem} {x0 : Maker} {x1 : Int} {v0_0 : Value} {b0 : Nat} (fz : Fz z m) (hd : ∀ b, m.next ≤ b → m.blk b = .dead) (s0_0 : SlR (TInt 3 .i64) z x0.l v0_0) (bx0 : Bx z m m (some b0) b0 [v0_0, (vI x0.n)] 56) {r : List Wagon × Maker} (hr : Maker_Wagons N x0 x1 = some r) : CallW Try.prog 18 #[(vP b0), (vI x1)] m fun v m' => ∃ z' w4 wr_0, Zx m.next z z' ∧ Fz z' m' ∧ Same m m' (some b0) ∧ v = w4 ∧ OwF TWagon z' m m' none r.1 w4 ∧ SlR (TInt 3 .i64) z' r.2.l wr_0 ∧ Bx z' m m' (some b0) b0 [wr_0, (vI r.2.n)] 56 ∧ True := by
 refine CallW.any Try.func18 rfl (by kernel_rfl) (Nat.le_of_ble_eq_true rfl) (fun fr hf => ?_)
 have h0 : fr 0 = _ := hf 0 _ rfl
 have h1 : fr 1 = _ := hf 1 _ rfl
 refine (u_Maker_Wagons (k := (some b0)) (Zx.refl _) (St.start fz hd) h0 s0_0 bx0 h1 hr).mono ?_
 rintro ex fr' m' ⟨z', hz, st, he, w4, wr_0, h4, s4, sr_0, bxr, -⟩
 exact ⟨he, [w4], ⟨h4.symm, trivial⟩, .inl rfl, z', w4, wr_0, hz, st.fz, st.toSame, rfl, (s4.up (Nat.le_refl _)), sr_0, bxr, trivial⟩

/-! ### humpyard/wheel.Distances -/

theorem u_wheel_Distances_0 : ∀ (n : Nat) {N : Nat}  {z0 z : Nat → Blk} {e m : Mem} {k : Option Nat} {fr : Nat → Value} {x17 : List Wagon} {x18 : Int} {x19 : Int} {v17 : Value} (hz : Zx e.next z0 z) (st : St z e m k) (h17 : fr 17 = v17) (s17 : SlR TWagon z x17 v17) (h18 : fr 18 = (vI x18)) (h19 : fr 19 = (vI x19)) {r : Sum (Unit) (Int)} (hr : wheel_Distances_0 N x17 x18 n x19 = some r), W Try.prog (sub (bodyOf Try.f24) [1, 1, 0, 1, 0]) (fun ex fr' m' => ∃ z', Zx e.next z0 z' ∧ St z' e m' k ∧ ((∃ q, r = Sum.inl q ∧ ex = AExit.exit 0 ∧ True) ∨ (∃ q, r = Sum.inr q ∧ ex = AExit.ret ∧ fr' 2 = (Value.slice none 0 0) ∧ fr' 3 = (vI q) ∧ True))) fr m := by
 intro n
 induction n with
 | zero => intro N z0 z e m k fr x17 x18 x19 v17 hz st h17 s17 h18 h19 r hr; cases (show (none : Option _) = some r from hr)
 | succ n ih =>
  intro N z0 z e m k fr x17 x18 x19 v17 hz st h17 s17 h18 h19 r hr
  unfold wheel_Distances_0 at hr
  refine W.loop1 ?_
  refine W.seq (W.region ?_)
  refine sx rfl (pLss (k := .i64) (a := x19) (b := x18) rfl h19 h18) ?_
  refine SeqW.done fun fr11 hf12 => ?_
  have h17 := (congrFun hf12 17).trans h17
  have h18 := (congrFun hf12 18).trans h18
  have h19 := (congrFun hf12 19).trans h19
  have h20 : fr11 20 = (vB (decide (x19 < x18))) := (congrFun hf12 20).trans rfl
  clear hf12
  refine thenQ.n (W.seq ?_)
  rcases if_some hr with ⟨hc13, hr⟩ | ⟨hc41, hr⟩
  ·refine W.condT h20 hc13 (W.skip ?_)
   refine thenQ.n (W.seq ?_)
   refine W.block ?_
   refine W.seq (W.region ?_)
   obtain ⟨y14, hy14, hr⟩ := bind_some hr
   refine SeqW.consX rfl (kIdxR (T := TWagon) (xs := x17) (n := x19) rfl Try.underlying41 Try.type30 rfl h17 h19 s17 hy14 ?_)
   intro B15 f16 cs17 hd18 hc19
   obtain rfl := hd18
   refine SeqW.consX rfl (kLoadA rfl Try.underlying30 rfl Try.type30 rfl rfl (st.loads hc19) ?_)
   refine SeqW.consX rfl (kAlloc rfl Try.type30 rfl rfl rfl [(str []), (vI 0), (vI 0), (vI 0), (vI 0), (vI 0), (vB false), (str [])] rfl st ?_)
   intro B20 m21 st X22 sm23 hap24
   refine SeqW.consX rfl (kPut (off := 0) (w := (Value.agg [(str y14.number), (vI y14.length), (vI y14.axles), (vI y14.mass), (vI y14.brake), (vI y14.goods), (vB y14.gentle), (str y14.dest)].toArray)) (new := [(str y14.number), (vI y14.length), (vI y14.axles), (vI y14.mass), (vI y14.brake), (vI y14.goods), (vB y14.gentle), (str y14.dest)]) rfl Try.type30 rfl rfl rfl rfl rfl X22 rfl [(str y14.number), (vI y14.length), (vI y14.axles), (vI y14.mass), (vI y14.brake), (vI y14.goods), (vB y14.gentle), (str y14.dest)] rfl st ?_)
   intro m26 st X22 sm27
   refine SeqW.done fun fr28 hf29 => ?_
   have h5 : fr28 5 = (vP B20) := (congrFun hf29 5).trans rfl
   have h17 := (congrFun hf29 17).trans h17
   have h18 := (congrFun hf29 18).trans h18
   have h19 := (congrFun hf29 19).trans h19
   clear hf29
   refine thenQ.n (W.seq (W.region ?_))
   refine SeqW.consX rfl (kLoadA rfl Try.underlying30 rfl Try.type30 rfl h5 X22.loads ?_)
   obtain ⟨y30, hy30, hr⟩ := bind_some hr
   refine SeqW.consX rfl (StepX.call (gCallee rfl rfl (args1 rfl)) ((c_consist_Valid (x0 := y14) (z := z) st.fz st.dead  hy30).mono ?_))
   rintro _ _ ⟨rfl, rfl⟩
   refine sx rfl (pAssign (v := (vI y30)) rfl rfl) ?_
   refine SeqW.done fun fr31 hf32 => ?_
   have h6 : fr31 6 = (vI y30) := (congrFun hf32 6).trans rfl
   have h17 := (congrFun hf32 17).trans h17
   have h18 := (congrFun hf32 18).trans h18
   have h19 := (congrFun hf32 19).trans h19
   clear hf32
   refine thenQ.n (W.seq (W.region ?_))
   refine sx rfl (pMove (v := (vI y30)) rfl h6) ?_
   refine sx rfl (pNeq (k := .i64) (a := y30) (b := 0) rfl rfl rfl) ?_
   refine SeqW.done fun fr33 hf34 => ?_
   have h6 := (congrFun hf34 6).trans h6
   have h17 := (congrFun hf34 17).trans h17
   have h18 := (congrFun hf34 18).trans h18
   have h19 := (congrFun hf34 19).trans h19
   have h26 : fr33 26 = (vB (y30 != 0)) := (congrFun hf34 26).trans rfl
   clear hf34
   refine thenQ.n ?_
   rcases if_some hr with ⟨hc35, hr⟩ | ⟨hc38, hr⟩
   ·refine W.condT h26 hc35 (W.seq (W.region ?_))
    refine sx rfl (pMove (v := (vI y30)) rfl h6) ?_
    refine sx rfl (pAssign (v := (Value.slice none 0 0)) rfl rfl) ?_
    refine sx rfl (pAssign (v := (vI y30)) rfl rfl) ?_
    refine SeqW.done fun fr36 hf37 => ?_
    have h2 : fr36 2 = (Value.slice none 0 0) := (congrFun hf37 2).trans rfl
    have h3 : fr36 3 = (vI y30) := (congrFun hf37 3).trans rfl
    clear hf37
    refine thenQ.n ?_
    refine W.ret ?_
    refine blockQ.r ?_
    refine thenQ.r ?_
    refine thenQ.r ?_
    obtain rfl := Option.some.inj hr
    exact ⟨z, hz, st, .inr ⟨_, rfl, rfl, h2, h3, trivial⟩⟩
   ·refine W.condF h26 hc38 (W.skip ?_)
    refine blockQ.n ?_
    refine thenQ.n (W.region ?_)
    refine sx rfl (pAdd (k := .i64) (a := x19) (b := 1) rfl h19 rfl) ?_
    refine sx rfl (pMove (v := (vI (IntKind.wrap .i64 (x19 + 1)))) rfl rfl) ?_
    refine SeqW.done fun fr39 hf40 => ?_
    have h17 := (congrFun hf40 17).trans h17
    have h18 := (congrFun hf40 18).trans h18
    have h19 : fr39 19 = (vI (IntKind.wrap .i64 (x19 + 1))) := (congrFun hf40 19).trans rfl
    clear hf40
    refine thenQ.n ?_
    exact ih hz st h17 s17 h18 h19 hr
  ·refine W.condF h20 hc41 ?_
   refine W.exit ?_
   refine thenQ.x ?_
   refine thenQ.x ?_
   obtain rfl := Option.some.inj hr
   exact ⟨z, hz, st, .inl ⟨_, rfl, rfl, trivial⟩⟩

theorem u_wheel_Distances_3 {N : Nat}  {z0 z : Nat → Blk} {e m : Mem} {k : Option Nat} {fr : Nat → Value} {x7 : List Int} {x8 : Int} {x9 : Int} {x13 : Int} {x43 : Bool} {v7 : Value} {x11 : Wagon} {b11 : Nat} {x36 : List Int} {v36 : Value} (hz : Zx e.next z0 z) (st : St z e m k) (h7 : fr 7 = v7) (o7 : OwF (TInt 3 .i64) z e m k x7 v7) (h8 : fr 8 = (vI x8)) (h9 : fr 9 = (vI x9)) (h11 : fr 11 = (vP b11)) (bx11 : Bx z e m k b11 [(str x11.number), (vI x11.length), (vI x11.axles), (vI x11.mass), (vI x11.brake), (vI x11.goods), (vB x11.gentle), (str x11.dest)] 30) (h13 : fr 13 = (vI x13)) (h36 : fr 36 = v36) (o36 : OwF (TInt 3 .i64) z e m k x36 v36) (h43 : fr 43 = (vB x43)) (ao7_o11 : Ap (blkOf v7) (some b11)) (ao7_o36 : Ap (blkOf v7) (blkOf v36)) (ao11_o36 : Ap (some b11) (blkOf v36)) {r : List Int} (hr : wheel_Distances_3 N x7 x8 x9 x13 x43 = some r) : W Try.prog (sub (bodyOf Try.f24) [1, 1, 1, 1, 1, 0, 1, 0, 0, 1, 1, 0, 0, 1, 0, 1, 0, 0, 1, 1, 0, 0, 1, 0, 1]) (fun ex fr' m' => ∃ z', Zx e.next z0 z' ∧ St z' e m' k ∧ ex = AExit.normal ∧ ∃ (w7 : Value), fr' 7 = w7 ∧ OwF (TInt 3 .i64) z' e m' k r w7 ∧ Bx z' e m' k b11 [(str x11.number), (vI x11.length), (vI x11.axles), (vI x11.mass), (vI x11.brake), (vI x11.goods), (vB x11.gentle), (str x11.dest)] 30 ∧ OwF (TInt 3 .i64) z' e m' k x36 v36 ∧ Ap (blkOf w7) (some b11) ∧ Ap (blkOf w7) (blkOf v36) ∧ Ap (some b11) (blkOf v36) ∧ True) fr m := by
 unfold wheel_Distances_3 at hr
 rcases if_some hr with ⟨hc105, hr⟩ | ⟨hc127, hr⟩
 ·refine W.condT h43 hc105 (W.region ?_)
  refine sx rfl (pMove (v := v7) rfl h7) ?_
  refine sx rfl (pMove (v := (vI x8)) rfl h8) ?_
  refine sx rfl (pMove (v := (vI x13)) rfl h13) ?_
  refine sx rfl (pAdd (k := .i64) (a := x8) (b := x13) rfl rfl rfl) ?_
  refine sx rfl (pMove (v := (vI x9)) rfl h9) ?_
  refine sx rfl (pSub (k := .i64) (a := (IntKind.wrap .i64 (x8 + x13))) (b := x9) rfl rfl rfl) ?_
  refine SeqW.consX rfl (kBuild (T := (TInt 3 .i64)) rfl Try.underlying22 Try.type3 rfl rfl rfl rfl ([(IntKind.wrap .i64 ((IntKind.wrap .i64 (x8 + x13)) - x9))] : List Int) [[(vI (IntKind.wrap .i64 ((IntKind.wrap .i64 (x8 + x13)) - x9)))]] rfl rfl rfl (BuildOk.mk (w := (vI (IntKind.wrap .i64 ((IntKind.wrap .i64 (x8 + x13)) - x9)))) rfl rfl rfl rfl trivial) st ?_)
  intro V106 m107 st O108 sm109 hap110
  have A112 := hap110 _ o7.lt
  have A113 := hap110 _ bx11.lt'
  have A114 := hap110 _ o36.lt
  replace o7 := o7.same sm109 Ap.none'
  replace bx11 := bx11.same sm109 Ap.none'
  replace o36 := o36.same sm109 Ap.none'
  obtain ⟨y115, hy115, hr⟩ := bind_some hr
  refine SeqW.consX rfl (kAppend (T := (TInt 3 .i64)) (xs := x7) (ys := ([(IntKind.wrap .i64 ((IntKind.wrap .i64 (x8 + x13)) - x9))] : List Int)) rfl Try.underlying22 Try.type3 rfl rfl rfl rfl rfl rfl (.inl ⟨_, Try.underlying22⟩) rfl o7 rfl O108.ow.src st hy115 ?_)
  intro V116 m117 st O118 sm119 hap120
  have A122 := hap120 _ bx11.lt' (Ap.symm ao7_o11)
  have A123 := hap120 _ o36.lt (Ap.symm ao7_o36)
  have A124 := hap120 _ O108.lt (Ap.symm A112)
  replace bx11 := bx11.same sm119 (Ap.symm ao7_o11)
  replace o36 := o36.same sm119 (Ap.symm ao7_o36)
  replace O108 := O108.same sm119 (Ap.symm A112)
  refine sx rfl (pAssign (v := V116) rfl rfl) ?_
  refine SeqW.done fun fr125 hf126 => ?_
  have h7 : fr125 7 = V116 := (congrFun hf126 7).trans rfl
  have h8 := (congrFun hf126 8).trans h8
  have h11 := (congrFun hf126 11).trans h11
  have h13 := (congrFun hf126 13).trans h13
  have h36 := (congrFun hf126 36).trans h36
  clear hf126
  obtain rfl := Option.some.inj hr
  exact ⟨z, hz, st, rfl, V116, h7, O118, bx11, o36, (Ap.symm A122), (Ap.symm A123), ao11_o36, trivial⟩
 ·refine W.condF h43 hc127 (W.skip ?_)
  obtain rfl := Option.some.inj hr
  exact ⟨z, hz, st, rfl, v7, h7, o7, bx11, o36, ao7_o11, ao7_o36, ao11_o36, trivial⟩

theorem u_wheel_Distances_2 : ∀ (n : Nat) {N : Nat}  {z0 z : Nat → Blk} {e m : Mem} {k : Option Nat} {fr : Nat → Value} {x7 : List Int} {x8 : Int} {x9 : Int} {x36 : List Int} {x37 : Int} {x38 : Int} {v7 : Value} {x11 : Wagon} {b11 : Nat} {v36 : Value} (hz : Zx e.next z0 z) (st : St z e m k) (h7 : fr 7 = v7) (o7 : OwF (TInt 3 .i64) z e m k x7 v7) (h8 : fr 8 = (vI x8)) (h9 : fr 9 = (vI x9)) (h11 : fr 11 = (vP b11)) (bx11 : Bx z e m k b11 [(str x11.number), (vI x11.length), (vI x11.axles), (vI x11.mass), (vI x11.brake), (vI x11.goods), (vB x11.gentle), (str x11.dest)] 30) (h36 : fr 36 = v36) (o36 : OwF (TInt 3 .i64) z e m k x36 v36) (h37 : fr 37 = (vI x37)) (h38 : fr 38 = (vI x38)) (ao7_o11 : Ap (blkOf v7) (some b11)) (ao7_o36 : Ap (blkOf v7) (blkOf v36)) (ao11_o36 : Ap (some b11) (blkOf v36)) {r : List Int × Int} (hr : wheel_Distances_2 N x8 x36 x37 n x7 x9 x38 = some r), W Try.prog (sub (bodyOf Try.f24) [1, 1, 1, 1, 1, 0, 1, 0, 0, 1, 1, 0, 0, 1, 0, 1, 0]) (fun ex fr' m' => ∃ z', Zx e.next z0 z' ∧ St z' e m' k ∧ ex = AExit.exit 4 ∧ ∃ (w7 : Value), fr' 7 = w7 ∧ OwF (TInt 3 .i64) z' e m' k r.1 w7 ∧ fr' 9 = (vI r.2) ∧ Bx z' e m' k b11 [(str x11.number), (vI x11.length), (vI x11.axles), (vI x11.mass), (vI x11.brake), (vI x11.goods), (vB x11.gentle), (str x11.dest)] 30 ∧ Ap (blkOf w7) (some b11) ∧ True) fr m := by
 intro n
 induction n with
 | zero => intro N z0 z e m k fr x7 x8 x9 x36 x37 x38 v7 x11 b11 v36 hz st h7 o7 h8 h9 h11 bx11 h36 o36 h37 h38 ao7_o11 ao7_o36 ao11_o36 r hr; cases (show (none : Option _) = some r from hr)
 | succ n ih =>
  intro N z0 z e m k fr x7 x8 x9 x36 x37 x38 v7 x11 b11 v36 hz st h7 o7 h8 h9 h11 bx11 h36 o36 h37 h38 ao7_o11 ao7_o36 ao11_o36 r hr
  unfold wheel_Distances_2 at hr
  refine W.loop1 ?_
  refine W.seq (W.region ?_)
  refine sx rfl (pLss (k := .i64) (a := x38) (b := x37) rfl h38 h37) ?_
  refine SeqW.done fun fr89 hf90 => ?_
  have h7 := (congrFun hf90 7).trans h7
  have h8 := (congrFun hf90 8).trans h8
  have h9 := (congrFun hf90 9).trans h9
  have h11 := (congrFun hf90 11).trans h11
  have h36 := (congrFun hf90 36).trans h36
  have h37 := (congrFun hf90 37).trans h37
  have h38 := (congrFun hf90 38).trans h38
  have h39 : fr89 39 = (vB (decide (x38 < x37))) := (congrFun hf90 39).trans rfl
  clear hf90
  refine thenQ.n (W.seq ?_)
  rcases if_some hr with ⟨hc91, hr⟩ | ⟨hc148, hr⟩
  ·refine W.condT h39 hc91 (W.skip ?_)
   refine thenQ.n (W.seq ?_)
   refine W.block ?_
   refine W.seq (W.region ?_)
   obtain ⟨y92, hy92, hr⟩ := bind_some hr
   refine SeqW.consX rfl (kIdxO (T := (TInt 3 .i64)) (xs := x36) (n := x38) rfl Try.underlying22 Try.type3 rfl h36 h38 o36 hy92 ?_)
   intro B93 l94 c95 cs96 hv97 hd98 hg99 hc100
   have hd980 := hd98
   obtain rfl := hd980
   refine SeqW.consX rfl (kLoad (v := (vI y92)) rfl Try.underlying3 rfl rfl (hc100 0 _ rfl) ?_)
   refine sx rfl (pAssign (v := (vI y92)) rfl rfl) ?_
   refine SeqW.done fun fr101 hf102 => ?_
   have h7 := (congrFun hf102 7).trans h7
   have h8 := (congrFun hf102 8).trans h8
   have h9 := (congrFun hf102 9).trans h9
   have h11 := (congrFun hf102 11).trans h11
   have h13 : fr101 13 = (vI y92) := (congrFun hf102 13).trans rfl
   have h36 := (congrFun hf102 36).trans h36
   have h37 := (congrFun hf102 37).trans h37
   have h38 := (congrFun hf102 38).trans h38
   clear hf102
   refine thenQ.n (W.seq ?_)
   refine W.seq (W.region ?_)
   refine sx rfl (pMove (v := (vI x9)) rfl h9) ?_
   refine sx rfl (pGeq (k := .i64) (a := x9) (b := 0) rfl rfl rfl) ?_
   refine SeqW.done fun fr103 hf104 => ?_
   have h7 := (congrFun hf104 7).trans h7
   have h8 := (congrFun hf104 8).trans h8
   have h9 := (congrFun hf104 9).trans h9
   have h11 := (congrFun hf104 11).trans h11
   have h13 := (congrFun hf104 13).trans h13
   have h36 := (congrFun hf104 36).trans h36
   have h37 := (congrFun hf104 37).trans h37
   have h38 := (congrFun hf104 38).trans h38
   have h43 : fr103 43 = (vB (decide (0 ≤ x9))) := (congrFun hf104 43).trans rfl
   clear hf104
   refine thenQ.n ?_
   obtain ⟨y128, hy128, hr⟩ := bind_some hr
   refine W.keep (u_wheel_Distances_3 (x11 := x11) (Zx.refl _) st h7 o7 h8 h9 h11 bx11 h13 h36 o36 h43 ao7_o11 ao7_o36 ao11_o36 hy128) ?_
   rintro ex134 fr129 m130 hk132 ⟨z131, hz133, st, rfl, w135, h7, O137, O138, O139, A140, A141, A142, -⟩
   have h8 := (hk132 8 rfl).trans h8
   have h11 := (hk132 11 rfl).trans h11
   have h13 := (hk132 13 rfl).trans h13
   have h36 := (hk132 36 rfl).trans h36
   have h37 := (hk132 37 rfl).trans h37
   have h38 := (hk132 38 rfl).trans h38
   replace hz := hz.trans hz133
   clear hk132
   refine thenQ.n (W.region ?_)
   refine sx rfl (pMove (v := (vI x8)) rfl h8) ?_
   refine sx rfl (pMove (v := (vI y92)) rfl h13) ?_
   refine sx rfl (pAdd (k := .i64) (a := x8) (b := y92) rfl rfl rfl) ?_
   obtain ⟨y143, hy143, hr⟩ := lt_some hr
   refine sx rfl (pAssign rfl (congrArg (Value.int .i64) hy143)) ?_
   refine SeqW.done fun fr144 hf145 => ?_
   have h7 := (congrFun hf145 7).trans h7
   have h8 := (congrFun hf145 8).trans h8
   have h9 : fr144 9 = (vI y143) := (congrFun hf145 9).trans rfl
   have h11 := (congrFun hf145 11).trans h11
   have h36 := (congrFun hf145 36).trans h36
   have h37 := (congrFun hf145 37).trans h37
   have h38 := (congrFun hf145 38).trans h38
   clear hf145
   refine blockQ.n ?_
   refine thenQ.n (W.region ?_)
   refine sx rfl (pAdd (k := .i64) (a := x38) (b := 1) rfl h38 rfl) ?_
   refine sx rfl (pMove (v := (vI (IntKind.wrap .i64 (x38 + 1)))) rfl rfl) ?_
   refine SeqW.done fun fr146 hf147 => ?_
   have h7 := (congrFun hf147 7).trans h7
   have h8 := (congrFun hf147 8).trans h8
   have h9 := (congrFun hf147 9).trans h9
   have h11 := (congrFun hf147 11).trans h11
   have h36 := (congrFun hf147 36).trans h36
   have h37 := (congrFun hf147 37).trans h37
   have h38 : fr146 38 = (vI (IntKind.wrap .i64 (x38 + 1))) := (congrFun hf147 38).trans rfl
   clear hf147
   refine thenQ.n ?_
   exact ih (x11 := x11) hz st h7 O137 h8 h9 h11 O138 h36 O139 h37 h38 A140 A141 A142 hr
  ·refine W.condF h39 hc148 ?_
   refine W.exit ?_
   refine thenQ.x ?_
   refine thenQ.x ?_
   obtain rfl := Option.some.inj hr
   exact ⟨z, hz, st, rfl, v7, h7, o7, h9, bx11, ao7_o11, trivial⟩

theorem u_wheel_Distances_1 : ∀ (n : Nat) {N : Nat}  {z0 z : Nat → Blk} {e m : Mem} {k : Option Nat} {fr : Nat → Value} {x7 : List Int} {x8 : Int} {x9 : Int} {x29 : List Wagon} {x30 : Int} {x31 : Int} {v7 : Value} {v29 : Value} (hz : Zx e.next z0 z) (st : St z e m k) (h7 : fr 7 = v7) (o7 : OwF (TInt 3 .i64) z e m k x7 v7) (h8 : fr 8 = (vI x8)) (h9 : fr 9 = (vI x9)) (h29 : fr 29 = v29) (s29 : SlR TWagon z x29 v29) (h30 : fr 30 = (vI x30)) (h31 : fr 31 = (vI x31)) {r : List Int} (hr : wheel_Distances_1 N x29 x30 n x7 x8 x9 x31 = some r), W Try.prog (sub (bodyOf Try.f24) [1, 1, 1, 1, 1, 0, 1, 0]) (fun ex fr' m' => ∃ z', Zx e.next z0 z' ∧ St z' e m' k ∧ ex = AExit.exit 2 ∧ ∃ (w7 : Value), fr' 7 = w7 ∧ OwF (TInt 3 .i64) z' e m' k r w7 ∧ True) fr m := by
 intro n
 induction n with
 | zero => intro N z0 z e m k fr x7 x8 x9 x29 x30 x31 v7 v29 hz st h7 o7 h8 h9 h29 s29 h30 h31 r hr; cases (show (none : Option _) = some r from hr)
 | succ n ih =>
  intro N z0 z e m k fr x7 x8 x9 x29 x30 x31 v7 v29 hz st h7 o7 h8 h9 h29 s29 h30 h31 r hr
  unfold wheel_Distances_1 at hr
  refine W.loop1 ?_
  refine W.seq (W.region ?_)
  refine sx rfl (pLss (k := .i64) (a := x31) (b := x30) rfl h31 h30) ?_
  refine SeqW.done fun fr56 hf57 => ?_
  have h7 := (congrFun hf57 7).trans h7
  have h8 := (congrFun hf57 8).trans h8
  have h9 := (congrFun hf57 9).trans h9
  have h29 := (congrFun hf57 29).trans h29
  have h30 := (congrFun hf57 30).trans h30
  have h31 := (congrFun hf57 31).trans h31
  have h32 : fr56 32 = (vB (decide (x31 < x30))) := (congrFun hf57 32).trans rfl
  clear hf57
  refine thenQ.n (W.seq ?_)
  rcases if_some hr with ⟨hc58, hr⟩ | ⟨hc166, hr⟩
  ·refine W.condT h32 hc58 (W.skip ?_)
   refine thenQ.n (W.seq ?_)
   refine W.block ?_
   refine W.seq (W.region ?_)
   obtain ⟨y59, hy59, hr⟩ := bind_some hr
   refine SeqW.consX rfl (kIdxR (T := TWagon) (xs := x29) (n := x31) rfl Try.underlying41 Try.type30 rfl h29 h31 s29 hy59 ?_)
   intro B60 f61 cs62 hd63 hc64
   obtain rfl := hd63
   refine SeqW.consX rfl (kLoadA rfl Try.underlying30 rfl Try.type30 rfl rfl (st.loads hc64) ?_)
   refine SeqW.consX rfl (kAlloc rfl Try.type30 rfl rfl rfl [(str []), (vI 0), (vI 0), (vI 0), (vI 0), (vI 0), (vB false), (str [])] rfl st ?_)
   intro B65 m66 st X67 sm68 hap69
   have A71 := hap69 _ o7.lt
   replace o7 := o7.same sm68 Ap.none'
   refine SeqW.consX rfl (kPut (off := 0) (w := (Value.agg [(str y59.number), (vI y59.length), (vI y59.axles), (vI y59.mass), (vI y59.brake), (vI y59.goods), (vB y59.gentle), (str y59.dest)].toArray)) (new := [(str y59.number), (vI y59.length), (vI y59.axles), (vI y59.mass), (vI y59.brake), (vI y59.goods), (vB y59.gentle), (str y59.dest)]) rfl Try.type30 rfl rfl rfl rfl rfl X67 rfl [(str y59.number), (vI y59.length), (vI y59.axles), (vI y59.mass), (vI y59.brake), (vI y59.goods), (vB y59.gentle), (str y59.dest)] rfl st ?_)
   intro m72 st X67 sm73
   replace o7 := o7.same sm73 A71
   refine SeqW.done fun fr74 hf75 => ?_
   have h7 := (congrFun hf75 7).trans h7
   have h8 := (congrFun hf75 8).trans h8
   have h9 := (congrFun hf75 9).trans h9
   have h11 : fr74 11 = (vP B65) := (congrFun hf75 11).trans rfl
   have h29 := (congrFun hf75 29).trans h29
   have h30 := (congrFun hf75 30).trans h30
   have h31 := (congrFun hf75 31).trans h31
   clear hf75
   refine thenQ.n (W.seq ?_)
   refine W.seq (W.region ?_)
   refine SeqW.consX rfl (kLoadA rfl Try.underlying30 rfl Try.type30 rfl h11 X67.loads ?_)
   obtain ⟨y76, hy76, hr⟩ := bind_some hr
   refine SeqW.consX rfl (StepX.call (gCallee rfl rfl (args1 rfl)) ((c_wheel_offsets (x0 := y59) (z := z) st.fz st.dead  hy76).mono ?_))
   rintro V82 m81 ⟨z77, _, hzx78, fz79, sm80, rfl, Q83, -⟩
   have A85 := Ap.own o7.lt Q83.fresh
   have A86 := Ap.own X67.lt' Q83.fresh
   replace o7 := o7.call hzx78 sm80 Ap.none'
   replace s29 := s29.mono hzx78.le
   replace X67 := X67.call hzx78 sm80 Ap.none'
   have Q83 : OwF (TInt 3 .i64) z77 e m81 k y76 V82 := Q83.up st.next
   replace hz := hz.trans (Zx.here st hzx78)
   replace st := st.call hzx78 fz79 sm80 no_hq
   refine sx rfl (pLenO (xs := y76) rfl Try.underlying22 rfl Q83.ow) ?_
   refine sx rfl (pMove (v := (vI 0)) rfl rfl) ?_
   refine SeqW.done fun fr87 hf88 => ?_
   have h7 := (congrFun hf88 7).trans h7
   have h8 := (congrFun hf88 8).trans h8
   have h9 := (congrFun hf88 9).trans h9
   have h11 := (congrFun hf88 11).trans h11
   have h29 := (congrFun hf88 29).trans h29
   have h30 := (congrFun hf88 30).trans h30
   have h31 := (congrFun hf88 31).trans h31
   have h36 : fr87 36 = V82 := (congrFun hf88 36).trans rfl
   have h37 : fr87 37 = (vI (y76.length : Int)) := (congrFun hf88 37).trans rfl
   have h38 : fr87 38 = (vI 0) := (congrFun hf88 38).trans rfl
   clear hf88
   refine thenQ.n ?_
   refine W.block ?_
   obtain ⟨y149, hy149, hr⟩ := bind_some hr
   refine W.keep (u_wheel_Distances_2 (x11 := y59) _ (Zx.refl _) st h7 o7 h8 h9 h11 X67 h36 Q83 h37 h38 A71 A85 A86 hy149) ?_
   rintro ex155 fr150 m151 hk153 ⟨z152, hz154, st, rfl, w156, h7, O158, h9, O159, A160, -⟩
   replace s29 := s29.mono hz154.le
   have h8 := (hk153 8 rfl).trans h8
   have h11 := (hk153 11 rfl).trans h11
   have h29 := (hk153 29 rfl).trans h29
   have h30 := (hk153 30 rfl).trans h30
   have h31 := (hk153 31 rfl).trans h31
   replace hz := hz.trans hz154
   clear hk153
   refine blockQ.hit ?_
   refine thenQ.n (W.region ?_)
   refine sx rfl (pMove (v := (vI x8)) rfl h8) ?_
   refine SeqW.consX rfl (kField rfl Try.underlying30 rfl Try.type3 rfl h11 rfl ?_)
   refine SeqW.consX rfl (kLoad rfl Try.underlying3 rfl rfl (O159.load (v := (vI y59.length)) rfl) ?_)
   refine sx rfl (pMul (k := .i64) (a := 10) (b := y59.length) rfl rfl rfl) ?_
   refine sx rfl (pAdd (k := .i64) (a := x8) (b := (IntKind.wrap .i64 (10 * y59.length))) rfl rfl rfl) ?_
   obtain ⟨y161, hy161, hr⟩ := lt_some hr
   refine sx rfl (pAssign rfl (congrArg (Value.int .i64) hy161)) ?_
   refine SeqW.done fun fr162 hf163 => ?_
   have h7 := (congrFun hf163 7).trans h7
   have h8 : fr162 8 = (vI y161) := (congrFun hf163 8).trans rfl
   have h9 := (congrFun hf163 9).trans h9
   have h29 := (congrFun hf163 29).trans h29
   have h30 := (congrFun hf163 30).trans h30
   have h31 := (congrFun hf163 31).trans h31
   clear hf163
   refine blockQ.n ?_
   refine thenQ.n (W.region ?_)
   refine sx rfl (pAdd (k := .i64) (a := x31) (b := 1) rfl h31 rfl) ?_
   refine sx rfl (pMove (v := (vI (IntKind.wrap .i64 (x31 + 1)))) rfl rfl) ?_
   refine SeqW.done fun fr164 hf165 => ?_
   have h7 := (congrFun hf165 7).trans h7
   have h8 := (congrFun hf165 8).trans h8
   have h9 := (congrFun hf165 9).trans h9
   have h29 := (congrFun hf165 29).trans h29
   have h30 := (congrFun hf165 30).trans h30
   have h31 : fr164 31 = (vI (IntKind.wrap .i64 (x31 + 1))) := (congrFun hf165 31).trans rfl
   clear hf165
   refine thenQ.n ?_
   exact ih hz st h7 O158 h8 h9 h29 s29 h30 h31 hr
  ·refine W.condF h32 hc166 ?_
   refine W.exit ?_
   refine thenQ.x ?_
   refine thenQ.x ?_
   obtain rfl := Option.some.inj hr
   exact ⟨z, hz, st, rfl, v7, h7, o7, trivial⟩

theorem u_wheel_Distances {N : Nat}  {z0 z : Nat → Blk} {e m : Mem} {k : Option Nat} {fr : Nat → Value} {x0 : List Wagon} {v0 : Value} (hz : Zx e.next z0 z) (st : St z e m k) (h0 : fr 0 = v0) (s0 : SlR TWagon z x0 v0) {r : List Int × Int} (hr : wheel_Distances N x0 = some r) : W Try.prog (sub (bodyOf Try.f24) []) (fun ex fr' m' => ∃ z', Zx e.next z0 z' ∧ St z' e m' k ∧ (ex = .normal ∨ ex = .ret) ∧ ∃ (w2 : Value), fr' 2 = w2 ∧ SlR (TInt 3 .i64) z' r.1 w2 ∧ fr' 3 = (vI r.2) ∧ True) fr m := by
 unfold wheel_Distances at hr
 refine W.seq (W.region ?_)
 refine sx rfl (pAssign (v := (Value.slice none 0 0)) rfl rfl) ?_
 refine sx rfl (pAssign (v := (vI 0)) rfl rfl) ?_
 refine SeqW.done fun fr1 hf2 => ?_
 have h0 := (congrFun hf2 0).trans h0
 clear hf2
 refine thenQ.n (W.seq ?_)
 refine W.seq (W.region ?_)
 refine sx rfl (pMove (v := v0) rfl h0) ?_
 refine sx rfl (pLenR (xs := x0) rfl Try.underlying41 rfl s0) ?_
 refine sx rfl (pGtr (k := .i64) (a := (x0.length : Int)) (b := 96) rfl rfl rfl) ?_
 refine SeqW.done fun fr3 hf4 => ?_
 have h0 := (congrFun hf4 0).trans h0
 have h16 : fr3 16 = (vB (decide (96 < (x0.length : Int)))) := (congrFun hf4 16).trans rfl
 clear hf4
 refine thenQ.n ?_
 rcases if_some hr with ⟨hc5, hr⟩ | ⟨hc8, hr⟩
 ·refine W.condT h16 hc5 (W.seq (W.region ?_))
  refine sx rfl (pAssign (v := (Value.slice none 0 0)) rfl rfl) ?_
  refine sx rfl (pAssign (v := (vI 3)) rfl rfl) ?_
  refine SeqW.done fun fr6 hf7 => ?_
  have h2 : fr6 2 = (Value.slice none 0 0) := (congrFun hf7 2).trans rfl
  have h3 : fr6 3 = (vI 3) := (congrFun hf7 3).trans rfl
  clear hf7
  refine thenQ.n ?_
  refine W.ret ?_
  refine thenQ.r ?_
  obtain rfl := Option.some.inj hr
  exact ⟨z, hz, st, .inr rfl, (Value.slice none 0 0), h2, SlR.nil, h3, trivial⟩
 ·refine W.condF h16 hc8 (W.skip ?_)
  refine thenQ.n (W.seq ?_)
  refine W.seq (W.region ?_)
  refine sx rfl (pMove (v := v0) rfl h0) ?_
  refine sx rfl (pLenR (xs := x0) rfl Try.underlying41 rfl s0) ?_
  refine sx rfl (pMove (v := (vI 0)) rfl rfl) ?_
  refine SeqW.done fun fr9 hf10 => ?_
  have h0 := (congrFun hf10 0).trans h0
  have h17 : fr9 17 = v0 := (congrFun hf10 17).trans rfl
  have h18 : fr9 18 = (vI (x0.length : Int)) := (congrFun hf10 18).trans rfl
  have h19 : fr9 19 = (vI 0) := (congrFun hf10 19).trans rfl
  clear hf10
  refine thenQ.n ?_
  refine W.block ?_
  obtain ⟨y42, hy42, hr⟩ := bind_some hr
  refine W.keep (u_wheel_Distances_0 _ (Zx.refl _) st h17 s0 h18 h19 hy42) ?_
  rintro ex48 fr43 m44 hk46 ⟨z45, hz47, st, ⟨y49, rfl, rfl, -⟩ | ⟨y183, rfl, rfl, h2, h3, -⟩⟩
  ·dsimp only at hr
   replace s0 := s0.mono hz47.le
   have h0 := (hk46 0 rfl).trans h0
   replace hz := hz.trans hz47
   clear hk46
   refine blockQ.hit ?_
   refine thenQ.n (W.seq (W.region ?_))
   refine sx rfl (pAssign (v := (Value.slice none 0 0)) rfl rfl) ?_
   refine SeqW.done fun fr50 hf51 => ?_
   have h0 := (congrFun hf51 0).trans h0
   have h7 : fr50 7 = (Value.slice none 0 0) := (congrFun hf51 7).trans rfl
   clear hf51
   refine thenQ.n (W.seq (W.region ?_))
   refine sx rfl (pAssign (v := (vI 0)) rfl rfl) ?_
   refine sx rfl (pAssign (v := (vI (-1))) rfl rfl) ?_
   refine SeqW.done fun fr52 hf53 => ?_
   have h0 := (congrFun hf53 0).trans h0
   have h7 := (congrFun hf53 7).trans h7
   have h8 : fr52 8 = (vI 0) := (congrFun hf53 8).trans rfl
   have h9 : fr52 9 = (vI (-1)) := (congrFun hf53 9).trans rfl
   clear hf53
   refine thenQ.n (W.seq ?_)
   refine W.seq (W.region ?_)
   refine sx rfl (pMove (v := v0) rfl h0) ?_
   refine sx rfl (pLenR (xs := x0) rfl Try.underlying41 rfl s0) ?_
   refine sx rfl (pMove (v := (vI 0)) rfl rfl) ?_
   refine SeqW.done fun fr54 hf55 => ?_
   have h7 := (congrFun hf55 7).trans h7
   have h8 := (congrFun hf55 8).trans h8
   have h9 := (congrFun hf55 9).trans h9
   have h29 : fr54 29 = v0 := (congrFun hf55 29).trans rfl
   have h30 : fr54 30 = (vI (x0.length : Int)) := (congrFun hf55 30).trans rfl
   have h31 : fr54 31 = (vI 0) := (congrFun hf55 31).trans rfl
   clear hf55
   refine thenQ.n ?_
   refine W.block ?_
   obtain ⟨y167, hy167, hr⟩ := bind_some hr
   refine W.keep (u_wheel_Distances_1 _ (Zx.refl _) st h7 OwF.nil h8 h9 h29 s0 h30 h31 hy167) ?_
   rintro ex173 fr168 m169 hk171 ⟨z170, hz172, st, rfl, w174, h7, O176, -⟩
   replace hz := hz.trans hz172
   clear hk171
   refine blockQ.hit ?_
   refine thenQ.n (W.seq (W.region ?_))
   refine sx rfl (pMove (v := w174) rfl h7) ?_
   refine sx rfl (pAssign (v := w174) rfl rfl) ?_
   refine sx rfl (pAssign (v := (vI 0)) rfl rfl) ?_
   refine SeqW.done fun fr177 hf178 => ?_
   have h2 : fr177 2 = w174 := (congrFun hf178 2).trans rfl
   have h3 : fr177 3 = (vI 0) := (congrFun hf178 3).trans rfl
   clear hf178
   refine thenQ.n ?_
   refine W.ret ?_
   obtain ⟨z179, hz180, st, Q181, hl182⟩ := O176.freeze st
   replace hz := hz.trans hz180
   obtain rfl := Option.some.inj hr
   exact ⟨z179, hz, st, .inr rfl, w174, h2, Q181, h3, trivial⟩
  ·dsimp only at hr
   replace hz := hz.trans hz47
   clear hk46
   refine blockQ.r ?_
   refine thenQ.r ?_
   obtain rfl := Option.some.inj hr
   exact ⟨z45, hz, st, .inr rfl, (Value.slice none 0 0), h2, SlR.nil, h3, trivial⟩

theorem c_wheel_Distances {N : Nat} {z : Nat → Blk} {m : Mem} {x0 : List Wagon} {v0 : Value} (fz : Fz z m) (hd : ∀ b, m.next ≤ b → m.blk b = .dead) (s0 : SlR TWagon z x0 v0) {r : List Int × Int} (hr : wheel_Distances N x0 = some r) : CallW Try.prog 24 #[v0] m fun v m' => ∃ z' w2, Zx m.next z z' ∧ Fz z' m' ∧ Same m m' none ∧ v = (Value.tuple [w2, (vI r.2)].toArray) ∧ SlR (TInt 3 .i64) z' r.1 w2 ∧ True := by
 refine CallW.any Try.func24 rfl (by kernel_rfl) (Nat.le_of_ble_eq_true rfl) (fun fr hf => ?_)
 have h0 : fr 0 = _ := hf 0 _ rfl
 refine (u_wheel_Distances (k := none) (Zx.refl _) (St.start fz hd) h0 s0 hr).mono ?_
 rintro ex fr' m' ⟨z', hz, st, he, w2, h2, s2, h3, -⟩
 exact ⟨he, [w2, (vI r.2)], ⟨h2.symm, h3.symm, trivial⟩, .inr (List.forall_mem_cons.2 ⟨s2.stor.1, List.forall_mem_cons.2 ⟨rfl, fun _ h => nomatch h⟩⟩), z', w2, hz, st.fz, st.toSame, rfl, s2, trivial⟩

/-! ### humpyard/wheel.time -/

theorem u_wheel_time_0 {N : Nat}  {z0 z : Nat → Blk} {e m : Mem} {k : Option Nat} {fr : Nat → Value} {x0 : Int} (hz : Zx e.next z0 z) (st : St z e m k) (h0 : fr 0 = (vI x0)) {r : Bool} (hr : wheel_time_0 N x0 = some r) : W Try.prog (sub (bodyOf Try.f39) [1, 0]) (fun ex fr' m' => ∃ z', Zx e.next z0 z' ∧ St z' e m' k ∧ ex = AExit.normal ∧ fr' 2 = (vB r) ∧ True) fr m := by
 unfold wheel_time_0 at hr
 refine W.region ?_
 refine sx rfl (pMove (v := (vI x0)) rfl h0) ?_
 refine sx rfl (pGeq (k := .i64) (a := x0) (b := 0) rfl rfl rfl) ?_
 refine sx rfl (pMove (v := (vB (decide (0 ≤ x0)))) rfl rfl) ?_
 rcases if_some hr with ⟨hc3, hr⟩ | ⟨hc7, hr⟩
 ·refine SeqW.consG rfl rfl rfl hc3 (StepX.pure (pMove (v := (vI x0)) rfl h0) ?_)
  refine SeqW.consG rfl rfl rfl hc3 (StepX.pure (pLeq (k := .i64) (a := x0) (b := 1000000000) rfl rfl rfl) ?_)
  refine sx rfl (pPick (t := true) (v := (vB (decide (x0 ≤ 1000000000)))) rfl ((congrArg vB hc3)) rfl) ?_
  obtain ⟨y4, hy4, hr⟩ := lt_some hr
  refine sx rfl (pAssign rfl (congrArg vB hy4)) ?_
  refine SeqW.done fun fr5 hf6 => ?_
  have h2 : fr5 2 = (vB y4) := (congrFun hf6 2).trans rfl
  clear hf6
  obtain rfl := Option.some.inj hr
  exact ⟨z, hz, st, rfl, h2, trivial⟩
 ·refine kx rfl rfl rfl hc7 ?_
  refine kx rfl rfl rfl hc7 ?_
  refine sx rfl (pPick (t := false) (v := (vB false)) rfl ((congrArg vB hc7)) rfl) ?_
  refine sx rfl (pAssign (v := (vB false)) rfl rfl) ?_
  refine SeqW.done fun fr8 hf9 => ?_
  have h2 : fr8 2 = (vB false) := (congrFun hf9 2).trans rfl
  clear hf9
  obtain rfl := Option.some.inj hr
  exact ⟨z, hz, st, rfl, h2, trivial⟩

theorem u_wheel_time {N : Nat}  {z0 z : Nat → Blk} {e m : Mem} {k : Option Nat} {fr : Nat → Value} {x0 : Int} (hz : Zx e.next z0 z) (st : St z e m k) (h0 : fr 0 = (vI x0)) {r : Bool} (hr : wheel_time N x0 = some r) : W Try.prog (sub (bodyOf Try.f39) []) (fun ex fr' m' => ∃ z', Zx e.next z0 z' ∧ St z' e m' k ∧ (ex = .normal ∨ ex = .ret) ∧ fr' 2 = (vB r) ∧ True) fr m := by
 unfold wheel_time at hr
 refine W.seq (W.region ?_)
 refine sx rfl (pAssign (v := (vB false)) rfl rfl) ?_
 refine SeqW.done fun fr1 hf2 => ?_
 have h0 := (congrFun hf2 0).trans h0
 clear hf2
 refine thenQ.n (W.seq ?_)
 obtain ⟨y10, hy10, hr⟩ := bind_some hr
 refine W.keep (u_wheel_time_0 (Zx.refl _) st h0 hy10) ?_
 rintro ex16 fr11 m12 hk14 ⟨z13, hz15, st, rfl, h2, -⟩
 replace hz := hz.trans hz15
 clear hk14
 refine thenQ.n ?_
 refine W.ret ?_
 obtain rfl := Option.some.inj hr
 exact ⟨z13, hz, st, .inr rfl, h2, trivial⟩

theorem c_wheel_time {N : Nat} {z : Nat → Blk} {m : Mem} {x0 : Int} (fz : Fz z m) (hd : ∀ b, m.next ≤ b → m.blk b = .dead)  {r : Bool} (hr : wheel_time N x0 = some r) : CallW Try.prog 39 #[(vI x0)] m fun v m' => v = (vB r) ∧ m' = m := by
 refine CallW.flat Try.func39 rfl (by kernel_rfl) (Nat.le_of_ble_eq_true rfl) rfl (z := z) (fun fr hf => ?_)
 have h0 : fr 0 = _ := hf 0 _ rfl
 refine (u_wheel_time (k := none) (Zx.refl _) (St.start fz hd) h0 hr).mono ?_
 rintro ex fr' m' ⟨z', hz, st, he, h2, -⟩
 exact ⟨he, z', st, [(vB r)], ⟨h2.symm, trivial⟩, .inl rfl, rfl⟩

/-! ### humpyard/wheel.Measure -/

theorem u_wheel_Measure_0 {N : Nat}  {z0 z : Nat → Blk} {e m : Mem} {k : Option Nat} {fr : Nat → Value} {x2 : Int} (hz : Zx e.next z0 z) (st : St z e m k) (h2 : fr 2 = (vI x2)) {r : Bool} (hr : wheel_Measure_0 N x2 = some r) : W Try.prog (sub (bodyOf Try.f27) [1, 0, 0]) (fun ex fr' m' => ∃ z', Zx e.next z0 z' ∧ St z' e m' k ∧ ex = AExit.normal ∧ fr' 16 = (vB r) ∧ True) fr m := by
 unfold wheel_Measure_0 at hr
 refine W.region ?_
 refine sx rfl (pMove (v := (vI x2)) rfl h2) ?_
 refine sx rfl (pLss (k := .i64) (a := x2) (b := 1) rfl rfl rfl) ?_
 refine sx rfl (pMove (v := (vB (decide (x2 < 1)))) rfl rfl) ?_
 rcases if_some hr with ⟨hc3, hr⟩ | ⟨hc6, hr⟩
 ·refine kx rfl rfl rfl hc3 ?_
  refine kx rfl rfl rfl hc3 ?_
  refine sx rfl (pPick (t := true) (v := (vB true)) rfl ((congrArg vB hc3)) rfl) ?_
  refine SeqW.done fun fr4 hf5 => ?_
  have h2 := (congrFun hf5 2).trans h2
  have h16 : fr4 16 = (vB true) := (congrFun hf5 16).trans rfl
  clear hf5
  obtain rfl := Option.some.inj hr
  exact ⟨z, hz, st, rfl, h16, trivial⟩
 ·refine SeqW.consG rfl rfl rfl hc6 (StepX.pure (pMove (v := (vI x2)) rfl h2) ?_)
  refine SeqW.consG rfl rfl rfl hc6 (StepX.pure (pGtr (k := .i64) (a := x2) (b := 10000) rfl rfl rfl) ?_)
  refine sx rfl (pPick (t := false) (v := (vB (decide (10000 < x2)))) rfl ((congrArg vB hc6)) rfl) ?_
  refine SeqW.done fun fr7 hf8 => ?_
  have h2 := (congrFun hf8 2).trans h2
  have h16 : fr7 16 = (vB (decide (10000 < x2))) := (congrFun hf8 16).trans rfl
  clear hf8
  obtain rfl := Option.some.inj hr
  exact ⟨z, hz, st, rfl, h16, trivial⟩

theorem u_wheel_Measure_2 {N : Nat}  {z0 z : Nat → Blk} {e m : Mem} {k : Option Nat} {fr : Nat → Value} {x0 : List Int} {x1 : List Int} {x8 : Int} {v0 : Value} {v1 : Value} (hz : Zx e.next z0 z) (st : St z e m k) (h0 : fr 0 = v0) (s0 : SlR (TInt 3 .i64) z x0 v0) (h1 : fr 1 = v1) (s1 : SlR (TInt 3 .i64) z x1 v1) (h8 : fr 8 = (vI x8)) {r : Bool} (hr : wheel_Measure_2 N x0 x1 x8 = some r) : W Try.prog (sub (bodyOf Try.f27) [1, 1, 1, 0, 1, 0, 0, 1, 1, 0, 0, 1, 0]) (fun ex fr' m' => ∃ z', Zx e.next z0 z' ∧ St z' e m' k ∧ ex = AExit.normal ∧ fr' 67 = (vB r) ∧ True) fr m := by
 unfold wheel_Measure_2 at hr
 refine W.draw ?_
 refine DrawW.cons rfl (StepX.pure (pMove (v := v0) rfl h0) ?_)
 refine ⟨trivial, ?_⟩
 refine DrawW.cons rfl (StepX.pure (pMove (v := (vI x8)) rfl h8) ?_)
 refine ⟨trivial, ?_⟩
 obtain ⟨y33, hy33, hr⟩ := bind_some hr
 refine DrawW.cons rfl (kIdxR (T := (TInt 3 .i64)) (xs := x0) (n := x8) rfl Try.underlying22 Try.type3 rfl rfl rfl s0 hy33 ?_)
 intro B34 f35 cs36 hd37 hc38
 obtain rfl := hd37
 refine ⟨trivial, ?_⟩
 refine DrawW.cons rfl (kLoad (v := (vI y33)) rfl Try.underlying3 rfl rfl (ldz_load st.fz (hc38 0 _ rfl)) ?_)
 refine ⟨?_, ?_⟩
 ·exact demN
 have sto39 := st
 obtain ⟨y40, hy40, hr⟩ := bind_some hr
 refine DrawW.cons rfl (StepX.call (gCallee rfl rfl (args1 rfl)) ((c_wheel_time (z := z) st.fz st.dead  hy40).mono ?_))
 rintro _ _ ⟨rfl, rfl⟩
 refine ⟨⟨?_, ?_⟩, ?_⟩
 ·first | refine demP (gLoad (v := (vI y33)) rfl Try.underlying3 rfl rfl (ldz_load st.fz (hc38 0 _ rfl))) ?_ | refine demA (by decide) ?_
  exact demN
 ·exact demN
 refine DrawW.cons rfl (StepX.pure (pNot (b := y40) rfl rfl) ?_)
 refine ⟨trivial, ?_⟩
 refine DrawW.cons rfl (StepX.pure (pMove (v := (vB (!y40))) rfl rfl) ?_)
 refine ⟨trivial, ?_⟩
 rcases if_some hr with ⟨hc41, hr⟩ | ⟨hc44, hr⟩
 ·refine DrawW.skipG rfl rfl rfl hc41 ?_
  refine DrawW.skipG rfl rfl rfl hc41 ?_
  refine DrawW.skipG rfl rfl rfl hc41 ?_
  refine DrawW.skipG rfl rfl rfl hc41 ?_
  refine DrawW.skipG rfl rfl rfl hc41 ?_
  refine DrawW.skipG rfl rfl rfl hc41 ?_
  refine DrawW.cons rfl (StepX.pure (pPick (t := true) (v := (vB true)) rfl ((congrArg vB hc41)) rfl) ?_)
  refine ⟨trivial, ?_⟩
  refine DrawW.cons rfl (StepX.pure (pMove (v := (vB true)) rfl rfl) ?_)
  refine ⟨trivial, ?_⟩
  refine DrawW.skipG rfl rfl rfl rfl ?_
  refine DrawW.skipG rfl rfl rfl rfl ?_
  refine DrawW.skipG rfl rfl rfl rfl ?_
  refine DrawW.skipG rfl rfl rfl rfl ?_
  refine DrawW.skipG rfl rfl rfl rfl ?_
  refine DrawW.skipG rfl rfl rfl rfl ?_
  refine DrawW.skipG rfl rfl rfl rfl ?_
  refine DrawW.skipG rfl rfl rfl rfl ?_
  refine DrawW.skipG rfl rfl rfl rfl ?_
  refine DrawW.cons rfl (StepX.pure (pPick (t := true) (v := (vB true)) rfl ((congrArg vB (rfl : true = true))) rfl) ?_)
  refine ⟨trivial, ?_⟩
  refine DrawW.cons rfl (StepX.pure (pMove (v := (vB true)) rfl rfl) ?_)
  refine ⟨trivial, ?_⟩
  refine DrawW.skipG rfl rfl rfl rfl ?_
  refine DrawW.skipG rfl rfl rfl rfl ?_
  refine DrawW.skipG rfl rfl rfl rfl ?_
  refine DrawW.skipU rfl rfl rfl ?_
  refine DrawW.skipU rfl rfl rfl ?_
  refine DrawW.skipU rfl rfl rfl ?_
  refine DrawW.skipU rfl rfl rfl ?_
  refine DrawW.skipU rfl rfl rfl ?_
  refine DrawW.skipU rfl rfl rfl ?_
  refine DrawW.skipU rfl rfl rfl ?_
  refine DrawW.skipU rfl rfl rfl ?_
  refine DrawW.skipU rfl rfl rfl ?_
  refine DrawW.skipU rfl rfl rfl ?_
  refine DrawW.skipG rfl rfl rfl rfl ?_
  refine DrawW.cons rfl (StepX.pure (pPick (t := true) (v := (vB true)) rfl ((congrArg vB (rfl : true = true))) rfl) ?_)
  refine ⟨trivial, ?_⟩
  refine DrawW.done fun fr42 hf43 => ?_
  have h0 := (congrFun hf43 0).trans h0
  have h1 := (congrFun hf43 1).trans h1
  have h67 : fr42 67 = (vB true) := (congrFun hf43 67).trans rfl
  clear hf43
  obtain rfl := Option.some.inj hr
  exact ⟨z, hz, st, rfl, h67, trivial⟩
 ·refine DrawW.consG rfl rfl rfl hc44 (StepX.pure (pMove (v := v1) rfl h1) ?_)
  refine ⟨trivial, ?_⟩
  refine DrawW.consG rfl rfl rfl hc44 (StepX.pure (pMove (v := (vI x8)) rfl h8) ?_)
  refine ⟨trivial, ?_⟩
  obtain ⟨y45, hy45, hr⟩ := bind_some hr
  refine DrawW.consG rfl rfl rfl hc44 (kIdxR (T := (TInt 3 .i64)) (xs := x1) (n := x8) rfl Try.underlying22 Try.type3 rfl rfl rfl s1 hy45 ?_)
  intro B46 f47 cs48 hd49 hc50
  obtain rfl := hd49
  refine ⟨trivial, ?_⟩
  refine DrawW.consG rfl rfl rfl hc44 (kLoad (v := (vI y45)) rfl Try.underlying3 rfl rfl (ldz_load st.fz (hc50 0 _ rfl)) ?_)
  refine ⟨?_, ?_⟩
  ·first | refine demP (gLoad (v := (vI y45)) rfl Try.underlying3 rfl rfl (ldz_load sto39.fz (hc50 0 _ rfl))) ?_ | refine demA (by decide) ?_
   exact demN
  have sto51 := st
  obtain ⟨y52, hy52, hr⟩ := bind_some hr
  refine DrawW.consG rfl rfl rfl hc44 (StepX.call (gCallee rfl rfl (args1 rfl)) ((c_wheel_time (z := z) st.fz st.dead  hy52).mono ?_))
  rintro _ _ ⟨rfl, rfl⟩
  refine ⟨⟨?_, ?_⟩, ?_⟩
  ·first | refine demP (gLoad (v := (vI y45)) rfl Try.underlying3 rfl rfl (ldz_load st.fz (hc50 0 _ rfl))) ?_ | refine demA (by decide) ?_
   first | refine demP (gLoad (v := (vI y33)) rfl Try.underlying3 rfl rfl (ldz_load st.fz (hc38 0 _ rfl))) ?_ | refine demA (by decide) ?_
   exact demN
  ·exact demN
  refine DrawW.consG rfl rfl rfl hc44 (StepX.pure (pNot (b := y52) rfl rfl) ?_)
  refine ⟨trivial, ?_⟩
  refine DrawW.cons rfl (StepX.pure (pPick (t := false) (v := (vB (!y52))) rfl ((congrArg vB hc44)) rfl) ?_)
  refine ⟨trivial, ?_⟩
  refine DrawW.cons rfl (StepX.pure (pMove (v := (vB (!y52))) rfl rfl) ?_)
  refine ⟨trivial, ?_⟩
  rcases if_some hr with ⟨hc53, hr⟩ | ⟨hc56, hr⟩
  ·refine DrawW.skipG rfl rfl rfl hc53 ?_
   refine DrawW.skipG rfl rfl rfl hc53 ?_
   refine DrawW.skipG rfl rfl rfl hc53 ?_
   refine DrawW.skipG rfl rfl rfl hc53 ?_
   refine DrawW.skipG rfl rfl rfl hc53 ?_
   refine DrawW.skipG rfl rfl rfl hc53 ?_
   refine DrawW.skipG rfl rfl rfl hc53 ?_
   refine DrawW.skipG rfl rfl rfl hc53 ?_
   refine DrawW.skipG rfl rfl rfl hc53 ?_
   refine DrawW.cons rfl (StepX.pure (pPick (t := true) (v := (vB true)) rfl ((congrArg vB hc53)) rfl) ?_)
   refine ⟨trivial, ?_⟩
   refine DrawW.cons rfl (StepX.pure (pMove (v := (vB true)) rfl rfl) ?_)
   refine ⟨trivial, ?_⟩
   refine DrawW.skipG rfl rfl rfl rfl ?_
   refine DrawW.skipG rfl rfl rfl rfl ?_
   refine DrawW.skipG rfl rfl rfl rfl ?_
   refine DrawW.skipU rfl rfl rfl ?_
   refine DrawW.skipU rfl rfl rfl ?_
   refine DrawW.skipU rfl rfl rfl ?_
   refine DrawW.skipU rfl rfl rfl ?_
   refine DrawW.skipU rfl rfl rfl ?_
   refine DrawW.skipU rfl rfl rfl ?_
   refine DrawW.skipU rfl rfl rfl ?_
   refine DrawW.skipU rfl rfl rfl ?_
   refine DrawW.skipU rfl rfl rfl ?_
   refine DrawW.skipU rfl rfl rfl ?_
   refine DrawW.skipG rfl rfl rfl rfl ?_
   refine DrawW.cons rfl (StepX.pure (pPick (t := true) (v := (vB true)) rfl ((congrArg vB (rfl : true = true))) rfl) ?_)
   refine ⟨trivial, ?_⟩
   refine DrawW.done fun fr54 hf55 => ?_
   have h0 := (congrFun hf55 0).trans h0
   have h1 := (congrFun hf55 1).trans h1
   have h67 : fr54 67 = (vB true) := (congrFun hf55 67).trans rfl
   clear hf55
   obtain rfl := Option.some.inj hr
   exact ⟨z, hz, st, rfl, h67, trivial⟩
  ·refine DrawW.consG rfl rfl rfl hc56 (StepX.pure (pMove (v := v1) rfl h1) ?_)
   refine ⟨trivial, ?_⟩
   refine DrawW.consG rfl rfl rfl hc56 (StepX.pure (pMove (v := (vI x8)) rfl h8) ?_)
   refine ⟨trivial, ?_⟩
   obtain ⟨y57, hy57, hr⟩ := bind_some hr
   refine DrawW.consG rfl rfl rfl hc56 (kIdxR (T := (TInt 3 .i64)) (xs := x1) (n := x8) rfl Try.underlying22 Try.type3 rfl rfl rfl s1 hy57 ?_)
   intro B58 f59 cs60 hd61 hc62
   obtain rfl := hd61
   refine ⟨trivial, ?_⟩
   refine DrawW.consG rfl rfl rfl hc56 (kLoad (v := (vI y57)) rfl Try.underlying3 rfl rfl (ldz_load st.fz (hc62 0 _ rfl)) ?_)
   refine ⟨?_, ?_⟩
   ·first | refine demP (gLoad (v := (vI y57)) rfl Try.underlying3 rfl rfl (ldz_load sto51.fz (hc62 0 _ rfl))) ?_ | refine demA (by decide) ?_
    first | refine demP (gLoad (v := (vI y57)) rfl Try.underlying3 rfl rfl (ldz_load sto39.fz (hc62 0 _ rfl))) ?_ | refine demA (by decide) ?_
    exact demN
   refine DrawW.consG rfl rfl rfl hc56 (StepX.pure (pMove (v := v0) rfl h0) ?_)
   refine ⟨trivial, ?_⟩
   refine DrawW.consG rfl rfl rfl hc56 (StepX.pure (pMove (v := (vI x8)) rfl h8) ?_)
   refine ⟨trivial, ?_⟩
   obtain ⟨y63, hy63, hr⟩ := bind_some hr
   refine DrawW.consG rfl rfl rfl hc56 (kIdxR (T := (TInt 3 .i64)) (xs := x0) (n := x8) rfl Try.underlying22 Try.type3 rfl rfl rfl s0 hy63 ?_)
   intro B64 f65 cs66 hd67 hc68
   obtain rfl := hd67
   refine ⟨trivial, ?_⟩
   refine DrawW.consG rfl rfl rfl hc56 (kLoad (v := (vI y63)) rfl Try.underlying3 rfl rfl (ldz_load st.fz (hc68 0 _ rfl)) ?_)
   refine ⟨?_, ?_⟩
   ·first | refine demP (gLoad (v := (vI y63)) rfl Try.underlying3 rfl rfl (ldz_load sto51.fz (hc68 0 _ rfl))) ?_ | refine demA (by decide) ?_
    first | refine demP (gLoad (v := (vI y63)) rfl Try.underlying3 rfl rfl (ldz_load sto39.fz (hc68 0 _ rfl))) ?_ | refine demA (by decide) ?_
    exact demN
   refine DrawW.consG rfl rfl rfl hc56 (StepX.pure (pLeq (k := .i64) (a := y57) (b := y63) rfl rfl rfl) ?_)
   refine ⟨trivial, ?_⟩
   refine DrawW.cons rfl (StepX.pure (pPick (t := false) (v := (vB (decide (y57 ≤ y63)))) rfl ((congrArg vB hc56)) rfl) ?_)
   refine ⟨trivial, ?_⟩
   refine DrawW.cons rfl (StepX.pure (pMove (v := (vB (decide (y57 ≤ y63)))) rfl rfl) ?_)
   refine ⟨trivial, ?_⟩
   rcases if_some hr with ⟨hc69, hr⟩ | ⟨hc72, hr⟩
   ·refine DrawW.skipG rfl rfl rfl hc69 ?_
    refine DrawW.skipG rfl rfl rfl hc69 ?_
    refine DrawW.skipG rfl rfl rfl hc69 ?_
    refine DrawW.skipU rfl rfl rfl ?_
    refine DrawW.skipU rfl rfl rfl ?_
    refine DrawW.skipU rfl rfl rfl ?_
    refine DrawW.skipU rfl rfl rfl ?_
    refine DrawW.skipU rfl rfl rfl ?_
    refine DrawW.skipU rfl rfl rfl ?_
    refine DrawW.skipU rfl rfl rfl ?_
    refine DrawW.skipU rfl rfl rfl ?_
    refine DrawW.skipU rfl rfl rfl ?_
    refine DrawW.skipU rfl rfl rfl ?_
    refine DrawW.skipG rfl rfl rfl hc69 ?_
    refine DrawW.cons rfl (StepX.pure (pPick (t := true) (v := (vB true)) rfl ((congrArg vB hc69)) rfl) ?_)
    refine ⟨trivial, ?_⟩
    refine DrawW.done fun fr70 hf71 => ?_
    have h0 := (congrFun hf71 0).trans h0
    have h1 := (congrFun hf71 1).trans h1
    have h67 : fr70 67 = (vB true) := (congrFun hf71 67).trans rfl
    clear hf71
    obtain rfl := Option.some.inj hr
    exact ⟨z, hz, st, rfl, h67, trivial⟩
   ·refine DrawW.consG rfl rfl rfl hc72 (StepX.pure (pMove (v := (vI x8)) rfl h8) ?_)
    refine ⟨trivial, ?_⟩
    refine DrawW.consG rfl rfl rfl hc72 (StepX.pure (pGtr (k := .i64) (a := x8) (b := 0) rfl rfl rfl) ?_)
    refine ⟨trivial, ?_⟩
    refine DrawW.consG rfl rfl rfl hc72 (StepX.pure (pMove (v := (vB (decide (0 < x8)))) rfl rfl) ?_)
    refine ⟨trivial, ?_⟩
    rcases if_some hr with ⟨hc73, hr⟩ | ⟨hc88, hr⟩
    ·refine DrawW.consG rfl rfl rfl hc73 (StepX.pure (pMove (v := v0) rfl h0) ?_)
     refine ⟨trivial, ?_⟩
     refine DrawW.consG rfl rfl rfl hc73 (StepX.pure (pMove (v := (vI x8)) rfl h8) ?_)
     refine ⟨trivial, ?_⟩
     obtain ⟨y74, hy74, hr⟩ := bind_some hr
     refine DrawW.consG rfl rfl rfl hc73 (kIdxR (T := (TInt 3 .i64)) (xs := x0) (n := x8) rfl Try.underlying22 Try.type3 rfl rfl rfl s0 hy74 ?_)
     intro B75 f76 cs77 hd78 hc79
     obtain rfl := hd78
     refine ⟨trivial, ?_⟩
     refine DrawW.consG rfl rfl rfl hc73 (kLoad (v := (vI y74)) rfl Try.underlying3 rfl rfl (ldz_load st.fz (hc79 0 _ rfl)) ?_)
     refine ⟨?_, ?_⟩
     ·first | refine demP (gLoad (v := (vI y74)) rfl Try.underlying3 rfl rfl (ldz_load sto51.fz (hc79 0 _ rfl))) ?_ | refine demA (by decide) ?_
      first | refine demP (gLoad (v := (vI y74)) rfl Try.underlying3 rfl rfl (ldz_load sto39.fz (hc79 0 _ rfl))) ?_ | refine demA (by decide) ?_
      exact demN
     refine DrawW.consG rfl rfl rfl hc73 (StepX.pure (pMove (v := v0) rfl h0) ?_)
     refine ⟨trivial, ?_⟩
     refine DrawW.consG rfl rfl rfl hc73 (StepX.pure (pMove (v := (vI x8)) rfl h8) ?_)
     refine ⟨trivial, ?_⟩
     refine DrawW.consG rfl rfl rfl hc73 (StepX.pure (pSub (k := .i64) (a := x8) (b := 1) rfl rfl rfl) ?_)
     refine ⟨trivial, ?_⟩
     obtain ⟨y80, hy80, hr⟩ := bind_some hr
     refine DrawW.consG rfl rfl rfl hc73 (kIdxR (T := (TInt 3 .i64)) (xs := x0) (n := (IntKind.wrap .i64 (x8 - 1))) rfl Try.underlying22 Try.type3 rfl rfl rfl s0 hy80 ?_)
     intro B81 f82 cs83 hd84 hc85
     obtain rfl := hd84
     refine ⟨trivial, ?_⟩
     refine DrawW.consG rfl rfl rfl hc73 (kLoad (v := (vI y80)) rfl Try.underlying3 rfl rfl (ldz_load st.fz (hc85 0 _ rfl)) ?_)
     refine ⟨?_, ?_⟩
     ·first | refine demP (gLoad (v := (vI y80)) rfl Try.underlying3 rfl rfl (ldz_load sto51.fz (hc85 0 _ rfl))) ?_ | refine demA (by decide) ?_
      first | refine demP (gLoad (v := (vI y80)) rfl Try.underlying3 rfl rfl (ldz_load sto39.fz (hc85 0 _ rfl))) ?_ | refine demA (by decide) ?_
      exact demN
     refine DrawW.consG rfl rfl rfl hc73 (StepX.pure (pLeq (k := .i64) (a := y74) (b := y80) rfl rfl rfl) ?_)
     refine ⟨trivial, ?_⟩
     refine DrawW.consG rfl rfl rfl hc72 (StepX.pure (pPick (t := true) (v := (vB (decide (y74 ≤ y80)))) rfl ((congrArg vB hc73)) rfl) ?_)
     refine ⟨trivial, ?_⟩
     refine DrawW.cons rfl (StepX.pure (pPick (t := false) (v := (vB (decide (y74 ≤ y80)))) rfl ((congrArg vB hc72)) rfl) ?_)
     refine ⟨trivial, ?_⟩
     refine DrawW.done fun fr86 hf87 => ?_
     have h0 := (congrFun hf87 0).trans h0
     have h1 := (congrFun hf87 1).trans h1
     have h67 : fr86 67 = (vB (decide (y74 ≤ y80))) := (congrFun hf87 67).trans rfl
     clear hf87
     obtain rfl := Option.some.inj hr
     exact ⟨z, hz, st, rfl, h67, trivial⟩
    ·refine DrawW.skipG rfl rfl rfl hc88 ?_
     refine DrawW.skipG rfl rfl rfl hc88 ?_
     refine DrawW.skipG rfl rfl rfl hc88 ?_
     refine DrawW.skipG rfl rfl rfl hc88 ?_
     refine DrawW.skipG rfl rfl rfl hc88 ?_
     refine DrawW.skipG rfl rfl rfl hc88 ?_
     refine DrawW.skipG rfl rfl rfl hc88 ?_
     refine DrawW.skipG rfl rfl rfl hc88 ?_
     refine DrawW.skipG rfl rfl rfl hc88 ?_
     refine DrawW.skipG rfl rfl rfl hc88 ?_
     refine DrawW.consG rfl rfl rfl hc72 (StepX.pure (pPick (t := false) (v := (vB false)) rfl ((congrArg vB hc88)) rfl) ?_)
     refine ⟨trivial, ?_⟩
     refine DrawW.cons rfl (StepX.pure (pPick (t := false) (v := (vB false)) rfl ((congrArg vB hc72)) rfl) ?_)
     refine ⟨trivial, ?_⟩
     refine DrawW.done fun fr89 hf90 => ?_
     have h0 := (congrFun hf90 0).trans h0
     have h1 := (congrFun hf90 1).trans h1
     have h67 : fr89 67 = (vB false) := (congrFun hf90 67).trans rfl
     clear hf90
     obtain rfl := Option.some.inj hr
     exact ⟨z, hz, st, rfl, h67, trivial⟩

theorem u_wheel_Measure_1 : ∀ (n : Nat) {N : Nat}  {z0 z : Nat → Blk} {e m : Mem} {k : Option Nat} {fr : Nat → Value} {x0 : List Int} {x1 : List Int} {x23 : Int} {x24 : Int} {v0 : Value} {v1 : Value} (hz : Zx e.next z0 z) (st : St z e m k) (h0 : fr 0 = v0) (s0 : SlR (TInt 3 .i64) z x0 v0) (h1 : fr 1 = v1) (s1 : SlR (TInt 3 .i64) z x1 v1) (h23 : fr 23 = (vI x23)) (h24 : fr 24 = (vI x24)) {r : Sum (Unit) (Int)} (hr : wheel_Measure_1 N x0 x1 x23 n x24 = some r), W Try.prog (sub (bodyOf Try.f27) [1, 1, 1, 0, 1, 0]) (fun ex fr' m' => ∃ z', Zx e.next z0 z' ∧ St z' e m' k ∧ ((∃ q, r = Sum.inl q ∧ ex = AExit.exit 0 ∧ True) ∨ (∃ q, r = Sum.inr q ∧ ex = AExit.ret ∧ fr' 6 = (Value.slice none 0 0) ∧ fr' 7 = (vI q) ∧ True))) fr m := by
 intro n
 induction n with
 | zero => intro N z0 z e m k fr x0 x1 x23 x24 v0 v1 hz st h0 s0 h1 s1 h23 h24 r hr; cases (show (none : Option _) = some r from hr)
 | succ n ih =>
  intro N z0 z e m k fr x0 x1 x23 x24 v0 v1 hz st h0 s0 h1 s1 h23 h24 r hr
  unfold wheel_Measure_1 at hr
  refine W.loop1 ?_
  refine W.seq (W.region ?_)
  refine sx rfl (pLss (k := .i64) (a := x24) (b := x23) rfl h24 h23) ?_
  refine SeqW.done fun fr28 hf29 => ?_
  have h0 := (congrFun hf29 0).trans h0
  have h1 := (congrFun hf29 1).trans h1
  have h23 := (congrFun hf29 23).trans h23
  have h24 := (congrFun hf29 24).trans h24
  have h25 : fr28 25 = (vB (decide (x24 < x23))) := (congrFun hf29 25).trans rfl
  clear hf29
  refine thenQ.n (W.seq ?_)
  rcases if_some hr with ⟨hc30, hr⟩ | ⟨hc104, hr⟩
  ·refine W.condT h25 hc30 (W.skip ?_)
   refine thenQ.n (W.seq ?_)
   refine W.block ?_
   refine W.seq (W.region ?_)
   refine sx rfl (pMove (v := (vI x24)) rfl h24) ?_
   refine sx rfl (pAssign (v := (vI x24)) rfl rfl) ?_
   refine SeqW.done fun fr31 hf32 => ?_
   have h0 := (congrFun hf32 0).trans h0
   have h1 := (congrFun hf32 1).trans h1
   have h8 : fr31 8 = (vI x24) := (congrFun hf32 8).trans rfl
   have h23 := (congrFun hf32 23).trans h23
   have h24 := (congrFun hf32 24).trans h24
   clear hf32
   refine thenQ.n (W.seq ?_)
   obtain ⟨y91, hy91, hr⟩ := bind_some hr
   refine W.keep (u_wheel_Measure_2 (Zx.refl _) st h0 s0 h1 s1 h8 hy91) ?_
   rintro ex97 fr92 m93 hk95 ⟨z94, hz96, st, rfl, h67, -⟩
   replace s0 := s0.mono hz96.le
   replace s1 := s1.mono hz96.le
   have h0 := (hk95 0 rfl).trans h0
   have h1 := (hk95 1 rfl).trans h1
   have h23 := (hk95 23 rfl).trans h23
   have h24 := (hk95 24 rfl).trans h24
   replace hz := hz.trans hz96
   clear hk95
   refine thenQ.n ?_
   rcases if_some hr with ⟨hc98, hr⟩ | ⟨hc101, hr⟩
   ·refine W.condT h67 hc98 (W.seq (W.region ?_))
    refine sx rfl (pAssign (v := (Value.slice none 0 0)) rfl rfl) ?_
    refine sx rfl (pAssign (v := (vI 1)) rfl rfl) ?_
    refine SeqW.done fun fr99 hf100 => ?_
    have h6 : fr99 6 = (Value.slice none 0 0) := (congrFun hf100 6).trans rfl
    have h7 : fr99 7 = (vI 1) := (congrFun hf100 7).trans rfl
    clear hf100
    refine thenQ.n ?_
    refine W.ret ?_
    refine blockQ.r ?_
    refine thenQ.r ?_
    refine thenQ.r ?_
    obtain rfl := Option.some.inj hr
    exact ⟨z94, hz, st, .inr ⟨_, rfl, rfl, h6, h7, trivial⟩⟩
   ·refine W.condF h67 hc101 (W.skip ?_)
    refine blockQ.n ?_
    refine thenQ.n (W.region ?_)
    refine sx rfl (pAdd (k := .i64) (a := x24) (b := 1) rfl h24 rfl) ?_
    refine sx rfl (pMove (v := (vI (IntKind.wrap .i64 (x24 + 1)))) rfl rfl) ?_
    refine SeqW.done fun fr102 hf103 => ?_
    have h0 := (congrFun hf103 0).trans h0
    have h1 := (congrFun hf103 1).trans h1
    have h23 := (congrFun hf103 23).trans h23
    have h24 : fr102 24 = (vI (IntKind.wrap .i64 (x24 + 1))) := (congrFun hf103 24).trans rfl
    clear hf103
    refine thenQ.n ?_
    exact ih hz st h0 s0 h1 s1 h23 h24 hr
  ·refine W.condF h25 hc104 ?_
   refine W.exit ?_
   refine thenQ.x ?_
   refine thenQ.x ?_
   obtain rfl := Option.some.inj hr
   exact ⟨z, hz, st, .inl ⟨_, rfl, rfl, trivial⟩⟩

theorem u_wheel_Measure_3 : ∀ (n : Nat) {N : Nat}  {z0 z : Nat → Blk} {e m : Mem} {k : Option Nat} {fr : Nat → Value} {x0 : List Int} {x1 : List Int} {x2 : Int} {x9 : List Int} {x10 : Int} {v0 : Value} {v1 : Value} {v9 : Value} (hz : Zx e.next z0 z) (st : St z e m k) (h0 : fr 0 = v0) (s0 : SlR (TInt 3 .i64) z x0 v0) (h1 : fr 1 = v1) (s1 : SlR (TInt 3 .i64) z x1 v1) (h2 : fr 2 = (vI x2)) (h9 : fr 9 = v9) (o9 : OwF (TInt 3 .i64) z e m k x9 v9) (h10 : fr 10 = (vI x10)) {r : List Int} (hr : wheel_Measure_3 N x0 x1 x2 n x9 x10 = some r), W Try.prog (sub (bodyOf Try.f27) [1, 1, 1, 1, 1, 1, 0, 1, 0]) (fun ex fr' m' => ∃ z', Zx e.next z0 z' ∧ St z' e m' k ∧ ex = AExit.exit 2 ∧ ∃ (w9 : Value), fr' 9 = w9 ∧ OwF (TInt 3 .i64) z' e m' k r w9 ∧ True) fr m := by
 intro n
 induction n with
 | zero => intro N z0 z e m k fr x0 x1 x2 x9 x10 v0 v1 v9 hz st h0 s0 h1 s1 h2 h9 o9 h10 r hr; cases (show (none : Option _) = some r from hr)
 | succ n ih =>
  intro N z0 z e m k fr x0 x1 x2 x9 x10 v0 v1 v9 hz st h0 s0 h1 s1 h2 h9 o9 h10 r hr
  unfold wheel_Measure_3 at hr
  refine W.loop1 ?_
  refine W.seq (W.seq (W.region ?_))
  refine sx rfl (pMove (v := (vI x10)) rfl h10) ?_
  refine sx rfl (pAdd (k := .i64) (a := x10) (b := 1) rfl rfl rfl) ?_
  refine sx rfl (pMove (v := v0) rfl h0) ?_
  refine sx rfl (pLenR (xs := x0) rfl Try.underlying22 rfl s0) ?_
  refine sx rfl (pLss (k := .i64) (a := (IntKind.wrap .i64 (x10 + 1))) (b := (x0.length : Int)) rfl rfl rfl) ?_
  refine SeqW.done fun fr123 hf124 => ?_
  have h0 := (congrFun hf124 0).trans h0
  have h1 := (congrFun hf124 1).trans h1
  have h2 := (congrFun hf124 2).trans h2
  have h9 := (congrFun hf124 9).trans h9
  have h10 := (congrFun hf124 10).trans h10
  have h76 : fr123 76 = (vB (decide ((IntKind.wrap .i64 (x10 + 1)) < (x0.length : Int)))) := (congrFun hf124 76).trans rfl
  clear hf124
  refine thenQ.n ?_
  rcases if_some hr with ⟨hc125, hr⟩ | ⟨hc174, hr⟩
  ·refine W.condT h76 hc125 (W.skip ?_)
   refine thenQ.n (W.seq ?_)
   refine W.block ?_
   refine W.draw ?_
   refine DrawW.cons rfl (StepX.pure (pMove (v := v9) rfl h9) ?_)
   refine ⟨trivial, ?_⟩
   refine DrawW.cons rfl (StepX.pure (pMove (v := v0) rfl h0) ?_)
   refine ⟨trivial, ?_⟩
   refine DrawW.cons rfl (StepX.pure (pMove (v := (vI x10)) rfl h10) ?_)
   refine ⟨trivial, ?_⟩
   refine DrawW.cons rfl (StepX.pure (pAdd (k := .i64) (a := x10) (b := 1) rfl rfl rfl) ?_)
   refine ⟨trivial, ?_⟩
   obtain ⟨y126, hy126, hr⟩ := bind_some hr
   refine DrawW.cons rfl (kIdxR (T := (TInt 3 .i64)) (xs := x0) (n := (IntKind.wrap .i64 (x10 + 1))) rfl Try.underlying22 Try.type3 rfl rfl rfl s0 hy126 ?_)
   intro B127 f128 cs129 hd130 hc131
   obtain rfl := hd130
   refine ⟨trivial, ?_⟩
   refine DrawW.cons rfl (kLoad (v := (vI y126)) rfl Try.underlying3 rfl rfl (ldz_load st.fz (hc131 0 _ rfl)) ?_)
   refine ⟨?_, ?_⟩
   ·exact demN
   refine DrawW.cons rfl (StepX.pure (pMove (v := v0) rfl h0) ?_)
   refine ⟨trivial, ?_⟩
   refine DrawW.cons rfl (StepX.pure (pMove (v := (vI x10)) rfl h10) ?_)
   refine ⟨trivial, ?_⟩
   obtain ⟨y132, hy132, hr⟩ := bind_some hr
   refine DrawW.cons rfl (kIdxR (T := (TInt 3 .i64)) (xs := x0) (n := x10) rfl Try.underlying22 Try.type3 rfl rfl rfl s0 hy132 ?_)
   intro B133 f134 cs135 hd136 hc137
   obtain rfl := hd136
   refine ⟨trivial, ?_⟩
   refine DrawW.cons rfl (kLoad (v := (vI y132)) rfl Try.underlying3 rfl rfl (ldz_load st.fz (hc137 0 _ rfl)) ?_)
   refine ⟨?_, ?_⟩
   ·exact demN
   refine DrawW.cons rfl (StepX.pure (pSub (k := .i64) (a := y126) (b := y132) rfl rfl rfl) ?_)
   refine ⟨trivial, ?_⟩
   refine DrawW.cons rfl (StepX.pure (pMove (v := (vI x2)) rfl h2) ?_)
   refine ⟨trivial, ?_⟩
   refine DrawW.cons rfl (StepX.pure (pMul (k := .i64) (a := (IntKind.wrap .i64 (y126 - y132))) (b := x2) rfl rfl rfl) ?_)
   refine ⟨trivial, ?_⟩
   refine DrawW.cons rfl (StepX.pure (pMove (v := v1) rfl h1) ?_)
   refine ⟨trivial, ?_⟩
   refine DrawW.cons rfl (StepX.pure (pMove (v := (vI x10)) rfl h10) ?_)
   refine ⟨trivial, ?_⟩
   obtain ⟨y138, hy138, hr⟩ := bind_some hr
   refine DrawW.cons rfl (kIdxR (T := (TInt 3 .i64)) (xs := x1) (n := x10) rfl Try.underlying22 Try.type3 rfl rfl rfl s1 hy138 ?_)
   intro B139 f140 cs141 hd142 hc143
   obtain rfl := hd142
   refine ⟨trivial, ?_⟩
   refine DrawW.cons rfl (kLoad (v := (vI y138)) rfl Try.underlying3 rfl rfl (ldz_load st.fz (hc143 0 _ rfl)) ?_)
   refine ⟨?_, ?_⟩
   ·exact demN
   refine DrawW.cons rfl (StepX.pure (pMove (v := v0) rfl h0) ?_)
   refine ⟨trivial, ?_⟩
   refine DrawW.cons rfl (StepX.pure (pMove (v := (vI x10)) rfl h10) ?_)
   refine ⟨trivial, ?_⟩
   obtain ⟨y144, hy144, hr⟩ := bind_some hr
   refine DrawW.cons rfl (kIdxR (T := (TInt 3 .i64)) (xs := x0) (n := x10) rfl Try.underlying22 Try.type3 rfl rfl rfl s0 hy144 ?_)
   intro B145 f146 cs147 hd148 hc149
   obtain rfl := hd148
   refine ⟨trivial, ?_⟩
   refine DrawW.cons rfl (kLoad (v := (vI y144)) rfl Try.underlying3 rfl rfl (ldz_load st.fz (hc149 0 _ rfl)) ?_)
   refine ⟨?_, ?_⟩
   ·exact demN
   refine DrawW.cons rfl (StepX.pure (pSub (k := .i64) (a := y138) (b := y144) rfl rfl rfl) ?_)
   refine ⟨trivial, ?_⟩
   obtain ⟨y150, hy150, hr⟩ := bind_some hr
   refine DrawW.cons rfl (kQuo (k1 := .i64) (a := (IntKind.wrap .i64 ((IntKind.wrap .i64 (y126 - y132)) * x2))) (b := (IntKind.wrap .i64 (y138 - y144))) rfl rfl rfl hy150 ?_)
   refine ⟨trivial, ?_⟩
   refine DrawW.cons rfl (kBuild (T := (TInt 3 .i64)) rfl Try.underlying22 Try.type3 rfl rfl rfl rfl ([(IntKind.wrap .i64 (y150))] : List Int) [[(vI (IntKind.wrap .i64 (y150)))]] rfl rfl rfl (BuildOk.mk (w := (vI (IntKind.wrap .i64 (y150)))) rfl rfl rfl rfl trivial) st ?_)
   intro V151 m152 st O153 sm154 hap155
   have A157 := hap155 _ o9.lt
   replace o9 := o9.same sm154 Ap.none'
   refine ⟨trivial, ?_⟩
   have sto158 := st
   have old159 := o9
   have old160 := O153
   obtain ⟨y161, hy161, hr⟩ := bind_some hr
   refine DrawW.cons rfl (kAppend (T := (TInt 3 .i64)) (xs := x9) (ys := ([(IntKind.wrap .i64 (y150))] : List Int)) rfl Try.underlying22 Try.type3 rfl rfl rfl rfl rfl rfl (.inl ⟨_, Try.underlying22⟩) rfl o9 rfl O153.ow.src st hy161 ?_)
   intro V162 m163 st O164 sm165 hap166
   have A168 := hap166 _ O153.lt (Ap.symm A157)
   replace O153 := O153.same sm165 (Ap.symm A157)
   refine ⟨⟨?_, ?_⟩, ?_⟩
   ·first | refine demP (gLoad (v := (vI y144)) rfl Try.underlying3 rfl rfl (ldz_load st.fz (hc149 0 _ rfl))) ?_ | refine demA (by decide) ?_
    first | refine demP (gLoad (v := (vI y138)) rfl Try.underlying3 rfl rfl (ldz_load st.fz (hc143 0 _ rfl))) ?_ | refine demA (by decide) ?_
    first | refine demP (gLoad (v := (vI y132)) rfl Try.underlying3 rfl rfl (ldz_load st.fz (hc137 0 _ rfl))) ?_ | refine demA (by decide) ?_
    first | refine demP (gLoad (v := (vI y126)) rfl Try.underlying3 rfl rfl (ldz_load st.fz (hc131 0 _ rfl))) ?_ | refine demA (by decide) ?_
    exact demN
   ·first | refine demP (rfl) ?_ | refine demA (by decide) ?_
    exact demN
   refine DrawW.cons rfl (StepX.pure (pAssign (v := V162) rfl rfl) ?_)
   refine ⟨trivial, ?_⟩
   refine DrawW.done fun fr169 hf170 => ?_
   have h0 := (congrFun hf170 0).trans h0
   have h1 := (congrFun hf170 1).trans h1
   have h2 := (congrFun hf170 2).trans h2
   have h9 : fr169 9 = V162 := (congrFun hf170 9).trans rfl
   have h10 := (congrFun hf170 10).trans h10
   clear hf170
   refine blockQ.n ?_
   refine thenQ.n (W.region ?_)
   refine sx rfl (pMove (v := (vI x10)) rfl h10) ?_
   refine sx rfl (pAdd (k := .i64) (a := x10) (b := 1) rfl rfl rfl) ?_
   obtain ⟨y171, hy171, hr⟩ := lt_some hr
   refine sx rfl (pAssign rfl (congrArg (Value.int .i64) hy171)) ?_
   refine SeqW.done fun fr172 hf173 => ?_
   have h0 := (congrFun hf173 0).trans h0
   have h1 := (congrFun hf173 1).trans h1
   have h2 := (congrFun hf173 2).trans h2
   have h9 := (congrFun hf173 9).trans h9
   have h10 : fr172 10 = (vI y171) := (congrFun hf173 10).trans rfl
   clear hf173
   refine thenQ.n ?_
   exact ih hz st h0 s0 h1 s1 h2 h9 O164 h10 hr
  ·refine W.condF h76 hc174 ?_
   refine W.exit ?_
   refine thenQ.x ?_
   refine thenQ.x ?_
   obtain rfl := Option.some.inj hr
   exact ⟨z, hz, st, rfl, v9, h9, o9, trivial⟩

theorem u_wheel_Measure {N : Nat}  {z0 z : Nat → Blk} {e m : Mem} {k : Option Nat} {fr : Nat → Value} {x0 : List Int} {x1 : List Int} {x2 : Int} {v0 : Value} {v1 : Value} (hz : Zx e.next z0 z) (st : St z e m k) (h0 : fr 0 = v0) (s0 : SlR (TInt 3 .i64) z x0 v0) (h1 : fr 1 = v1) (s1 : SlR (TInt 3 .i64) z x1 v1) (h2 : fr 2 = (vI x2)) {r : List Int × Int} (hr : wheel_Measure N x0 x1 x2 = some r) : W Try.prog (sub (bodyOf Try.f27) []) (fun ex fr' m' => ∃ z', Zx e.next z0 z' ∧ St z' e m' k ∧ (ex = .normal ∨ ex = .ret) ∧ ∃ (w6 : Value), fr' 6 = w6 ∧ SlR (TInt 3 .i64) z' r.1 w6 ∧ fr' 7 = (vI r.2) ∧ True) fr m := by
 unfold wheel_Measure at hr
 refine W.seq (W.region ?_)
 refine sx rfl (pAssign (v := (Value.slice none 0 0)) rfl rfl) ?_
 refine sx rfl (pAssign (v := (vI 0)) rfl rfl) ?_
 refine SeqW.done fun fr1 hf2 => ?_
 have h0 := (congrFun hf2 0).trans h0
 have h1 := (congrFun hf2 1).trans h1
 have h2 := (congrFun hf2 2).trans h2
 clear hf2
 refine thenQ.n (W.seq (W.seq ?_))
 obtain ⟨y9, hy9, hr⟩ := bind_some hr
 refine W.keep (u_wheel_Measure_0 (Zx.refl _) st h2 hy9) ?_
 rintro ex15 fr10 m11 hk13 ⟨z12, hz14, st, rfl, h16, -⟩
 replace s0 := s0.mono hz14.le
 replace s1 := s1.mono hz14.le
 have h0 := (hk13 0 rfl).trans h0
 have h1 := (hk13 1 rfl).trans h1
 have h2 := (hk13 2 rfl).trans h2
 replace hz := hz.trans hz14
 clear hk13
 refine thenQ.n ?_
 rcases if_some hr with ⟨hc16, hr⟩ | ⟨hc19, hr⟩
 ·refine W.condT h16 hc16 (W.seq (W.region ?_))
  refine sx rfl (pAssign (v := (Value.slice none 0 0)) rfl rfl) ?_
  refine sx rfl (pAssign (v := (vI 2)) rfl rfl) ?_
  refine SeqW.done fun fr17 hf18 => ?_
  have h6 : fr17 6 = (Value.slice none 0 0) := (congrFun hf18 6).trans rfl
  have h7 : fr17 7 = (vI 2) := (congrFun hf18 7).trans rfl
  clear hf18
  refine thenQ.n ?_
  refine W.ret ?_
  refine thenQ.r ?_
  obtain rfl := Option.some.inj hr
  exact ⟨z12, hz, st, .inr rfl, (Value.slice none 0 0), h6, SlR.nil, h7, trivial⟩
 ·refine W.condF h16 hc19 (W.skip ?_)
  refine thenQ.n (W.seq ?_)
  refine W.seq (W.region ?_)
  refine sx rfl (pMove (v := v0) rfl h0) ?_
  refine sx rfl (pLenR (xs := x0) rfl Try.underlying22 rfl s0) ?_
  refine sx rfl (pMove (v := v1) rfl h1) ?_
  refine sx rfl (pLenR (xs := x1) rfl Try.underlying22 rfl s1) ?_
  refine sx rfl (pNeq (k := .i64) (a := (x0.length : Int)) (b := (x1.length : Int)) rfl rfl rfl) ?_
  refine SeqW.done fun fr20 hf21 => ?_
  have h0 := (congrFun hf21 0).trans h0
  have h1 := (congrFun hf21 1).trans h1
  have h2 := (congrFun hf21 2).trans h2
  have h21 : fr20 21 = (vB ((x0.length : Int) != (x1.length : Int))) := (congrFun hf21 21).trans rfl
  clear hf21
  refine thenQ.n ?_
  rcases if_some hr with ⟨hc22, hr⟩ | ⟨hc25, hr⟩
  ·refine W.condT h21 hc22 (W.seq (W.region ?_))
   refine sx rfl (pAssign (v := (Value.slice none 0 0)) rfl rfl) ?_
   refine sx rfl (pAssign (v := (vI 1)) rfl rfl) ?_
   refine SeqW.done fun fr23 hf24 => ?_
   have h6 : fr23 6 = (Value.slice none 0 0) := (congrFun hf24 6).trans rfl
   have h7 : fr23 7 = (vI 1) := (congrFun hf24 7).trans rfl
   clear hf24
   refine thenQ.n ?_
   refine W.ret ?_
   refine thenQ.r ?_
   obtain rfl := Option.some.inj hr
   exact ⟨z12, hz, st, .inr rfl, (Value.slice none 0 0), h6, SlR.nil, h7, trivial⟩
  ·refine W.condF h21 hc25 (W.skip ?_)
   refine thenQ.n (W.seq ?_)
   refine W.seq (W.region ?_)
   refine sx rfl (pMove (v := v0) rfl h0) ?_
   refine sx rfl (pLenR (xs := x0) rfl Try.underlying22 rfl s0) ?_
   refine sx rfl (pMove (v := (vI 0)) rfl rfl) ?_
   refine SeqW.done fun fr26 hf27 => ?_
   have h0 := (congrFun hf27 0).trans h0
   have h1 := (congrFun hf27 1).trans h1
   have h2 := (congrFun hf27 2).trans h2
   have h23 : fr26 23 = (vI (x0.length : Int)) := (congrFun hf27 23).trans rfl
   have h24 : fr26 24 = (vI 0) := (congrFun hf27 24).trans rfl
   clear hf27
   refine thenQ.n ?_
   refine W.block ?_
   obtain ⟨y105, hy105, hr⟩ := bind_some hr
   refine W.keep (u_wheel_Measure_1 _ (Zx.refl _) st h0 s0 h1 s1 h23 h24 hy105) ?_
   rintro ex111 fr106 m107 hk109 ⟨z108, hz110, st, ⟨y112, rfl, rfl, -⟩ | ⟨y191, rfl, rfl, h6, h7, -⟩⟩
   ·dsimp only at hr
    replace s0 := s0.mono hz110.le
    replace s1 := s1.mono hz110.le
    have h0 := (hk109 0 rfl).trans h0
    have h1 := (hk109 1 rfl).trans h1
    have h2 := (hk109 2 rfl).trans h2
    replace hz := hz.trans hz110
    clear hk109
    refine blockQ.hit ?_
    refine thenQ.n (W.seq ?_)
    refine W.seq (W.region ?_)
    refine sx rfl (pMove (v := v0) rfl h0) ?_
    refine sx rfl (pLenR (xs := x0) rfl Try.underlying22 rfl s0) ?_
    refine sx rfl (pGtr (k := .i64) (a := (x0.length : Int)) (b := 768) rfl rfl rfl) ?_
    refine SeqW.done fun fr113 hf114 => ?_
    have h0 := (congrFun hf114 0).trans h0
    have h1 := (congrFun hf114 1).trans h1
    have h2 := (congrFun hf114 2).trans h2
    have h71 : fr113 71 = (vB (decide (768 < (x0.length : Int)))) := (congrFun hf114 71).trans rfl
    clear hf114
    refine thenQ.n ?_
    rcases if_some hr with ⟨hc115, hr⟩ | ⟨hc118, hr⟩
    ·refine W.condT h71 hc115 (W.seq (W.region ?_))
     refine sx rfl (pAssign (v := (Value.slice none 0 0)) rfl rfl) ?_
     refine sx rfl (pAssign (v := (vI 3)) rfl rfl) ?_
     refine SeqW.done fun fr116 hf117 => ?_
     have h6 : fr116 6 = (Value.slice none 0 0) := (congrFun hf117 6).trans rfl
     have h7 : fr116 7 = (vI 3) := (congrFun hf117 7).trans rfl
     clear hf117
     refine thenQ.n ?_
     refine W.ret ?_
     refine thenQ.r ?_
     obtain rfl := Option.some.inj hr
     exact ⟨z108, hz, st, .inr rfl, (Value.slice none 0 0), h6, SlR.nil, h7, trivial⟩
    ·refine W.condF h71 hc118 (W.skip ?_)
     refine thenQ.n (W.seq (W.region ?_))
     refine sx rfl (pAssign (v := (Value.slice none 0 0)) rfl rfl) ?_
     refine SeqW.done fun fr119 hf120 => ?_
     have h0 := (congrFun hf120 0).trans h0
     have h1 := (congrFun hf120 1).trans h1
     have h2 := (congrFun hf120 2).trans h2
     have h9 : fr119 9 = (Value.slice none 0 0) := (congrFun hf120 9).trans rfl
     clear hf120
     refine thenQ.n (W.seq ?_)
     refine W.seq (W.region ?_)
     refine sx rfl (pAssign (v := (vI 0)) rfl rfl) ?_
     refine SeqW.done fun fr121 hf122 => ?_
     have h0 := (congrFun hf122 0).trans h0
     have h1 := (congrFun hf122 1).trans h1
     have h2 := (congrFun hf122 2).trans h2
     have h9 := (congrFun hf122 9).trans h9
     have h10 : fr121 10 = (vI 0) := (congrFun hf122 10).trans rfl
     clear hf122
     refine thenQ.n ?_
     refine W.block ?_
     obtain ⟨y175, hy175, hr⟩ := bind_some hr
     refine W.keep (u_wheel_Measure_3 _ (Zx.refl _) st h0 s0 h1 s1 h2 h9 OwF.nil h10 hy175) ?_
     rintro ex181 fr176 m177 hk179 ⟨z178, hz180, st, rfl, w182, h9, O184, -⟩
     replace hz := hz.trans hz180
     clear hk179
     refine blockQ.hit ?_
     refine thenQ.n (W.seq (W.region ?_))
     refine sx rfl (pMove (v := w182) rfl h9) ?_
     refine sx rfl (pAssign (v := w182) rfl rfl) ?_
     refine sx rfl (pAssign (v := (vI 0)) rfl rfl) ?_
     refine SeqW.done fun fr185 hf186 => ?_
     have h6 : fr185 6 = w182 := (congrFun hf186 6).trans rfl
     have h7 : fr185 7 = (vI 0) := (congrFun hf186 7).trans rfl
     clear hf186
     refine thenQ.n ?_
     refine W.ret ?_
     obtain ⟨z187, hz188, st, Q189, hl190⟩ := O184.freeze st
     replace hz := hz.trans hz188
     obtain rfl := Option.some.inj hr
     exact ⟨z187, hz, st, .inr rfl, w182, h6, Q189, h7, trivial⟩
   ·dsimp only at hr
    replace hz := hz.trans hz110
    clear hk109
    refine blockQ.r ?_
    refine thenQ.r ?_
    obtain rfl := Option.some.inj hr
    exact ⟨z108, hz, st, .inr rfl, (Value.slice none 0 0), h6, SlR.nil, h7, trivial⟩

theorem c_wheel_Measure {N : Nat} {z : Nat → Blk} {m : Mem} {x0 : List Int} {x1 : List Int} {x2 : Int} {v0 : Value} {v1 : Value} (fz : Fz z m) (hd : ∀ b, m.next ≤ b → m.blk b = .dead) (s0 : SlR (TInt 3 .i64) z x0 v0) (s1 : SlR (TInt 3 .i64) z x1 v1) {r : List Int × Int} (hr : wheel_Measure N x0 x1 x2 = some r) : CallW Try.prog 27 #[v0, v1, (vI x2)] m fun v m' => ∃ z' w6, Zx m.next z z' ∧ Fz z' m' ∧ Same m m' none ∧ v = (Value.tuple [w6, (vI r.2)].toArray) ∧ SlR (TInt 3 .i64) z' r.1 w6 ∧ True := by
 refine CallW.any Try.func27 rfl (by kernel_rfl) (Nat.le_of_ble_eq_true rfl) (fun fr hf => ?_)
 have h0 : fr 0 = _ := hf 0 _ rfl
 have h1 : fr 1 = _ := hf 1 _ rfl
 have h2 : fr 2 = _ := hf 2 _ rfl
 refine (u_wheel_Measure (k := none) (Zx.refl _) (St.start fz hd) h0 s0 h1 s1 h2 hr).mono ?_
 rintro ex fr' m' ⟨z', hz, st, he, w6, h6, s6, h7, -⟩
 exact ⟨he, [w6, (vI r.2)], ⟨h6.symm, h7.symm, trivial⟩, .inr (List.forall_mem_cons.2 ⟨s6.stor.1, List.forall_mem_cons.2 ⟨rfl, fun _ h => nomatch h⟩⟩), z', w6, hz, st.fz, st.toSame, rfl, s6, trivial⟩

/-! ### humpyard/humpyardref07.Measure -/

theorem u_r07_Measure_0 {N : Nat}  {z0 z : Nat → Blk} {e m : Mem} {k : Option Nat} {fr : Nat → Value} {x2 : Int} (hz : Zx e.next z0 z) (st : St z e m k) (h2 : fr 2 = (vI x2)) {r : Bool} (hr : r07_Measure_0 N x2 = some r) : W Try.prog (sub (bodyOf Try.f28) [1, 0, 0]) (fun ex fr' m' => ∃ z', Zx e.next z0 z' ∧ St z' e m' k ∧ ex = AExit.normal ∧ fr' 16 = (vB r) ∧ True) fr m := by
 unfold r07_Measure_0 at hr
 refine W.region ?_
 refine sx rfl (pMove (v := (vI x2)) rfl h2) ?_
 refine sx rfl (pLss (k := .i64) (a := x2) (b := 1) rfl rfl rfl) ?_
 refine sx rfl (pMove (v := (vB (decide (x2 < 1)))) rfl rfl) ?_
 rcases if_some hr with ⟨hc3, hr⟩ | ⟨hc6, hr⟩
 ·refine kx rfl rfl rfl hc3 ?_
  refine kx rfl rfl rfl hc3 ?_
  refine sx rfl (pPick (t := true) (v := (vB true)) rfl ((congrArg vB hc3)) rfl) ?_
  refine SeqW.done fun fr4 hf5 => ?_
  have h2 := (congrFun hf5 2).trans h2
  have h16 : fr4 16 = (vB true) := (congrFun hf5 16).trans rfl
  clear hf5
  obtain rfl := Option.some.inj hr
  exact ⟨z, hz, st, rfl, h16, trivial⟩
 ·refine SeqW.consG rfl rfl rfl hc6 (StepX.pure (pMove (v := (vI x2)) rfl h2) ?_)
  refine SeqW.consG rfl rfl rfl hc6 (StepX.pure (pGtr (k := .i64) (a := x2) (b := 10000) rfl rfl rfl) ?_)
  refine sx rfl (pPick (t := false) (v := (vB (decide (10000 < x2)))) rfl ((congrArg vB hc6)) rfl) ?_
  refine SeqW.done fun fr7 hf8 => ?_
  have h2 := (congrFun hf8 2).trans h2
  have h16 : fr7 16 = (vB (decide (10000 < x2))) := (congrFun hf8 16).trans rfl
  clear hf8
  obtain rfl := Option.some.inj hr
  exact ⟨z, hz, st, rfl, h16, trivial⟩

theorem u_r07_Measure_2 {N : Nat}  {z0 z : Nat → Blk} {e m : Mem} {k : Option Nat} {fr : Nat → Value} {x0 : List Int} {x1 : List Int} {x8 : Int} {v0 : Value} {v1 : Value} (hz : Zx e.next z0 z) (st : St z e m k) (h0 : fr 0 = v0) (s0 : SlR (TInt 3 .i64) z x0 v0) (h1 : fr 1 = v1) (s1 : SlR (TInt 3 .i64) z x1 v1) (h8 : fr 8 = (vI x8)) {r : Bool} (hr : r07_Measure_2 N x0 x1 x8 = some r) : W Try.prog (sub (bodyOf Try.f28) [1, 1, 1, 0, 1, 0, 0, 1, 0, 0, 0]) (fun ex fr' m' => ∃ z', Zx e.next z0 z' ∧ St z' e m' k ∧ ex = AExit.normal ∧ fr' 73 = (vB r) ∧ True) fr m := by
 unfold r07_Measure_2 at hr
 refine W.calm (by decide) ?_
 refine sx rfl (pMove (v := v0) rfl h0) ?_
 refine sx rfl (pMove (v := (vI x8)) rfl h8) ?_
 obtain ⟨y31, hy31, hr⟩ := bind_some hr
 refine SeqW.consX rfl (kIdxR (T := (TInt 3 .i64)) (xs := x0) (n := x8) rfl Try.underlying22 Try.type3 rfl rfl rfl s0 hy31 ?_)
 intro B32 f33 cs34 hd35 hc36
 obtain rfl := hd35
 refine SeqW.consX rfl (kLoad (v := (vI y31)) rfl Try.underlying3 rfl rfl (ldz_load st.fz (hc36 0 _ rfl)) ?_)
 refine sx rfl (pLss (k := .i64) (a := y31) (b := 0) rfl rfl rfl) ?_
 refine sx rfl (pMove (v := (vB (decide (y31 < 0)))) rfl rfl) ?_
 rcases if_some hr with ⟨hc37, hr⟩ | ⟨hc40, hr⟩
 ·refine kx rfl rfl rfl hc37 ?_
  iterate 4 refine kx rfl rfl rfl hc37 ?_
  refine sx rfl (pPick (t := true) (v := (vB true)) rfl ((congrArg vB hc37)) rfl) ?_
  refine sx rfl (pMove (v := (vB true)) rfl rfl) ?_
  iterate 5 refine kx rfl rfl rfl rfl ?_
  refine sx rfl (pPick (t := true) (v := (vB true)) rfl ((congrArg vB (rfl : true = true))) rfl) ?_
  refine sx rfl (pMove (v := (vB true)) rfl rfl) ?_
  iterate 9 refine kx rfl rfl rfl rfl ?_
  refine sx rfl (pPick (t := true) (v := (vB true)) rfl ((congrArg vB (rfl : true = true))) rfl) ?_
  refine sx rfl (pMove (v := (vB true)) rfl rfl) ?_
  iterate 3 refine kx rfl rfl rfl rfl ?_
  refine SeqW.skipU rfl rfl rfl ?_
  refine SeqW.skipU rfl rfl rfl ?_
  refine SeqW.skipU rfl rfl rfl ?_
  refine SeqW.skipU rfl rfl rfl ?_
  refine SeqW.skipU rfl rfl rfl ?_
  refine SeqW.skipU rfl rfl rfl ?_
  refine SeqW.skipU rfl rfl rfl ?_
  refine SeqW.skipU rfl rfl rfl ?_
  refine SeqW.skipU rfl rfl rfl ?_
  refine SeqW.skipU rfl rfl rfl ?_
  refine kx rfl rfl rfl rfl ?_
  refine sx rfl (pPick (t := true) (v := (vB true)) rfl ((congrArg vB (rfl : true = true))) rfl) ?_
  refine SeqW.done fun fr38 hf39 => ?_
  have h0 := (congrFun hf39 0).trans h0
  have h1 := (congrFun hf39 1).trans h1
  have h8 := (congrFun hf39 8).trans h8
  have h73 : fr38 73 = (vB true) := (congrFun hf39 73).trans rfl
  clear hf39
  obtain rfl := Option.some.inj hr
  exact ⟨z, hz, st, rfl, h73, trivial⟩
 ·refine SeqW.consG rfl rfl rfl hc40 (StepX.pure (pMove (v := v0) rfl h0) ?_)
  refine SeqW.consG rfl rfl rfl hc40 (StepX.pure (pMove (v := (vI x8)) rfl h8) ?_)
  obtain ⟨y41, hy41, hr⟩ := bind_some hr
  refine SeqW.consG rfl rfl rfl hc40 (kIdxR (T := (TInt 3 .i64)) (xs := x0) (n := x8) rfl Try.underlying22 Try.type3 rfl rfl rfl s0 hy41 ?_)
  intro B42 f43 cs44 hd45 hc46
  obtain rfl := hd45
  refine SeqW.consG rfl rfl rfl hc40 (kLoad (v := (vI y41)) rfl Try.underlying3 rfl rfl (ldz_load st.fz (hc46 0 _ rfl)) ?_)
  refine SeqW.consG rfl rfl rfl hc40 (StepX.pure (pGtr (k := .i64) (a := y41) (b := 1000000000) rfl rfl rfl) ?_)
  refine sx rfl (pPick (t := false) (v := (vB (decide (1000000000 < y41)))) rfl ((congrArg vB hc40)) rfl) ?_
  refine sx rfl (pMove (v := (vB (decide (1000000000 < y41)))) rfl rfl) ?_
  rcases if_some hr with ⟨hc47, hr⟩ | ⟨hc50, hr⟩
  ·refine kx rfl rfl rfl hc47 ?_
   iterate 4 refine kx rfl rfl rfl hc47 ?_
   refine sx rfl (pPick (t := true) (v := (vB true)) rfl ((congrArg vB hc47)) rfl) ?_
   refine sx rfl (pMove (v := (vB true)) rfl rfl) ?_
   iterate 9 refine kx rfl rfl rfl rfl ?_
   refine sx rfl (pPick (t := true) (v := (vB true)) rfl ((congrArg vB (rfl : true = true))) rfl) ?_
   refine sx rfl (pMove (v := (vB true)) rfl rfl) ?_
   iterate 3 refine kx rfl rfl rfl rfl ?_
   refine SeqW.skipU rfl rfl rfl ?_
   refine SeqW.skipU rfl rfl rfl ?_
   refine SeqW.skipU rfl rfl rfl ?_
   refine SeqW.skipU rfl rfl rfl ?_
   refine SeqW.skipU rfl rfl rfl ?_
   refine SeqW.skipU rfl rfl rfl ?_
   refine SeqW.skipU rfl rfl rfl ?_
   refine SeqW.skipU rfl rfl rfl ?_
   refine SeqW.skipU rfl rfl rfl ?_
   refine SeqW.skipU rfl rfl rfl ?_
   refine kx rfl rfl rfl rfl ?_
   refine sx rfl (pPick (t := true) (v := (vB true)) rfl ((congrArg vB (rfl : true = true))) rfl) ?_
   refine SeqW.done fun fr48 hf49 => ?_
   have h0 := (congrFun hf49 0).trans h0
   have h1 := (congrFun hf49 1).trans h1
   have h8 := (congrFun hf49 8).trans h8
   have h73 : fr48 73 = (vB true) := (congrFun hf49 73).trans rfl
   clear hf49
   obtain rfl := Option.some.inj hr
   exact ⟨z, hz, st, rfl, h73, trivial⟩
  ·refine SeqW.consG rfl rfl rfl hc50 (StepX.pure (pMove (v := v1) rfl h1) ?_)
   refine SeqW.consG rfl rfl rfl hc50 (StepX.pure (pMove (v := (vI x8)) rfl h8) ?_)
   obtain ⟨y51, hy51, hr⟩ := bind_some hr
   refine SeqW.consG rfl rfl rfl hc50 (kIdxR (T := (TInt 3 .i64)) (xs := x1) (n := x8) rfl Try.underlying22 Try.type3 rfl rfl rfl s1 hy51 ?_)
   intro B52 f53 cs54 hd55 hc56
   obtain rfl := hd55
   refine SeqW.consG rfl rfl rfl hc50 (kLoad (v := (vI y51)) rfl Try.underlying3 rfl rfl (ldz_load st.fz (hc56 0 _ rfl)) ?_)
   refine SeqW.consG rfl rfl rfl hc50 (StepX.pure (pGtr (k := .i64) (a := y51) (b := 1000000000) rfl rfl rfl) ?_)
   refine sx rfl (pPick (t := false) (v := (vB (decide (1000000000 < y51)))) rfl ((congrArg vB hc50)) rfl) ?_
   refine sx rfl (pMove (v := (vB (decide (1000000000 < y51)))) rfl rfl) ?_
   rcases if_some hr with ⟨hc57, hr⟩ | ⟨hc60, hr⟩
   ·refine kx rfl rfl rfl hc57 ?_
    iterate 8 refine kx rfl rfl rfl hc57 ?_
    refine sx rfl (pPick (t := true) (v := (vB true)) rfl ((congrArg vB hc57)) rfl) ?_
    refine sx rfl (pMove (v := (vB true)) rfl rfl) ?_
    iterate 3 refine kx rfl rfl rfl rfl ?_
    refine SeqW.skipU rfl rfl rfl ?_
    refine SeqW.skipU rfl rfl rfl ?_
    refine SeqW.skipU rfl rfl rfl ?_
    refine SeqW.skipU rfl rfl rfl ?_
    refine SeqW.skipU rfl rfl rfl ?_
    refine SeqW.skipU rfl rfl rfl ?_
    refine SeqW.skipU rfl rfl rfl ?_
    refine SeqW.skipU rfl rfl rfl ?_
    refine SeqW.skipU rfl rfl rfl ?_
    refine SeqW.skipU rfl rfl rfl ?_
    refine kx rfl rfl rfl rfl ?_
    refine sx rfl (pPick (t := true) (v := (vB true)) rfl ((congrArg vB (rfl : true = true))) rfl) ?_
    refine SeqW.done fun fr58 hf59 => ?_
    have h0 := (congrFun hf59 0).trans h0
    have h1 := (congrFun hf59 1).trans h1
    have h8 := (congrFun hf59 8).trans h8
    have h73 : fr58 73 = (vB true) := (congrFun hf59 73).trans rfl
    clear hf59
    obtain rfl := Option.some.inj hr
    exact ⟨z, hz, st, rfl, h73, trivial⟩
   ·refine SeqW.consG rfl rfl rfl hc60 (StepX.pure (pMove (v := v1) rfl h1) ?_)
    refine SeqW.consG rfl rfl rfl hc60 (StepX.pure (pMove (v := (vI x8)) rfl h8) ?_)
    obtain ⟨y61, hy61, hr⟩ := bind_some hr
    refine SeqW.consG rfl rfl rfl hc60 (kIdxR (T := (TInt 3 .i64)) (xs := x1) (n := x8) rfl Try.underlying22 Try.type3 rfl rfl rfl s1 hy61 ?_)
    intro B62 f63 cs64 hd65 hc66
    obtain rfl := hd65
    refine SeqW.consG rfl rfl rfl hc60 (kLoad (v := (vI y61)) rfl Try.underlying3 rfl rfl (ldz_load st.fz (hc66 0 _ rfl)) ?_)
    refine SeqW.consG rfl rfl rfl hc60 (StepX.pure (pMove (v := v0) rfl h0) ?_)
    refine SeqW.consG rfl rfl rfl hc60 (StepX.pure (pMove (v := (vI x8)) rfl h8) ?_)
    obtain ⟨y67, hy67, hr⟩ := bind_some hr
    refine SeqW.consG rfl rfl rfl hc60 (kIdxR (T := (TInt 3 .i64)) (xs := x0) (n := x8) rfl Try.underlying22 Try.type3 rfl rfl rfl s0 hy67 ?_)
    intro B68 f69 cs70 hd71 hc72
    obtain rfl := hd71
    refine SeqW.consG rfl rfl rfl hc60 (kLoad (v := (vI y67)) rfl Try.underlying3 rfl rfl (ldz_load st.fz (hc72 0 _ rfl)) ?_)
    refine SeqW.consG rfl rfl rfl hc60 (StepX.pure (pLeq (k := .i64) (a := y61) (b := y67) rfl rfl rfl) ?_)
    refine sx rfl (pPick (t := false) (v := (vB (decide (y61 ≤ y67)))) rfl ((congrArg vB hc60)) rfl) ?_
    refine sx rfl (pMove (v := (vB (decide (y61 ≤ y67)))) rfl rfl) ?_
    rcases if_some hr with ⟨hc73, hr⟩ | ⟨hc76, hr⟩
    ·refine kx rfl rfl rfl hc73 ?_
     iterate 2 refine kx rfl rfl rfl hc73 ?_
     refine SeqW.skipU rfl rfl rfl ?_
     refine SeqW.skipU rfl rfl rfl ?_
     refine SeqW.skipU rfl rfl rfl ?_
     refine SeqW.skipU rfl rfl rfl ?_
     refine SeqW.skipU rfl rfl rfl ?_
     refine SeqW.skipU rfl rfl rfl ?_
     refine SeqW.skipU rfl rfl rfl ?_
     refine SeqW.skipU rfl rfl rfl ?_
     refine SeqW.skipU rfl rfl rfl ?_
     refine SeqW.skipU rfl rfl rfl ?_
     refine kx rfl rfl rfl hc73 ?_
     refine sx rfl (pPick (t := true) (v := (vB true)) rfl ((congrArg vB hc73)) rfl) ?_
     refine SeqW.done fun fr74 hf75 => ?_
     have h0 := (congrFun hf75 0).trans h0
     have h1 := (congrFun hf75 1).trans h1
     have h8 := (congrFun hf75 8).trans h8
     have h73 : fr74 73 = (vB true) := (congrFun hf75 73).trans rfl
     clear hf75
     obtain rfl := Option.some.inj hr
     exact ⟨z, hz, st, rfl, h73, trivial⟩
    ·refine SeqW.consG rfl rfl rfl hc76 (StepX.pure (pMove (v := (vI x8)) rfl h8) ?_)
     refine SeqW.consG rfl rfl rfl hc76 (StepX.pure (pGtr (k := .i64) (a := x8) (b := 0) rfl rfl rfl) ?_)
     refine SeqW.consG rfl rfl rfl hc76 (StepX.pure (pMove (v := (vB (decide (0 < x8)))) rfl rfl) ?_)
     rcases if_some hr with ⟨hc77, hr⟩ | ⟨hc92, hr⟩
     ·refine SeqW.consG rfl rfl rfl hc77 (StepX.pure (pMove (v := v0) rfl h0) ?_)
      refine SeqW.consG rfl rfl rfl hc77 (StepX.pure (pMove (v := (vI x8)) rfl h8) ?_)
      obtain ⟨y78, hy78, hr⟩ := bind_some hr
      refine SeqW.consG rfl rfl rfl hc77 (kIdxR (T := (TInt 3 .i64)) (xs := x0) (n := x8) rfl Try.underlying22 Try.type3 rfl rfl rfl s0 hy78 ?_)
      intro B79 f80 cs81 hd82 hc83
      obtain rfl := hd82
      refine SeqW.consG rfl rfl rfl hc77 (kLoad (v := (vI y78)) rfl Try.underlying3 rfl rfl (ldz_load st.fz (hc83 0 _ rfl)) ?_)
      refine SeqW.consG rfl rfl rfl hc77 (StepX.pure (pMove (v := v0) rfl h0) ?_)
      refine SeqW.consG rfl rfl rfl hc77 (StepX.pure (pMove (v := (vI x8)) rfl h8) ?_)
      refine SeqW.consG rfl rfl rfl hc77 (StepX.pure (pSub (k := .i64) (a := x8) (b := 1) rfl rfl rfl) ?_)
      obtain ⟨y84, hy84, hr⟩ := bind_some hr
      refine SeqW.consG rfl rfl rfl hc77 (kIdxR (T := (TInt 3 .i64)) (xs := x0) (n := (IntKind.wrap .i64 (x8 - 1))) rfl Try.underlying22 Try.type3 rfl rfl rfl s0 hy84 ?_)
      intro B85 f86 cs87 hd88 hc89
      obtain rfl := hd88
      refine SeqW.consG rfl rfl rfl hc77 (kLoad (v := (vI y84)) rfl Try.underlying3 rfl rfl (ldz_load st.fz (hc89 0 _ rfl)) ?_)
      refine SeqW.consG rfl rfl rfl hc77 (StepX.pure (pLeq (k := .i64) (a := y78) (b := y84) rfl rfl rfl) ?_)
      refine SeqW.consG rfl rfl rfl hc76 (StepX.pure (pPick (t := true) (v := (vB (decide (y78 ≤ y84)))) rfl ((congrArg vB hc77)) rfl) ?_)
      refine sx rfl (pPick (t := false) (v := (vB (decide (y78 ≤ y84)))) rfl ((congrArg vB hc76)) rfl) ?_
      refine SeqW.done fun fr90 hf91 => ?_
      have h0 := (congrFun hf91 0).trans h0
      have h1 := (congrFun hf91 1).trans h1
      have h8 := (congrFun hf91 8).trans h8
      have h73 : fr90 73 = (vB (decide (y78 ≤ y84))) := (congrFun hf91 73).trans rfl
      clear hf91
      obtain rfl := Option.some.inj hr
      exact ⟨z, hz, st, rfl, h73, trivial⟩
     ·refine kx rfl rfl rfl hc92 ?_
      iterate 9 refine kx rfl rfl rfl hc92 ?_
      refine SeqW.consG rfl rfl rfl hc76 (StepX.pure (pPick (t := false) (v := (vB false)) rfl ((congrArg vB hc92)) rfl) ?_)
      refine sx rfl (pPick (t := false) (v := (vB false)) rfl ((congrArg vB hc76)) rfl) ?_
      refine SeqW.done fun fr93 hf94 => ?_
      have h0 := (congrFun hf94 0).trans h0
      have h1 := (congrFun hf94 1).trans h1
      have h8 := (congrFun hf94 8).trans h8
      have h73 : fr93 73 = (vB false) := (congrFun hf94 73).trans rfl
      clear hf94
      obtain rfl := Option.some.inj hr
      exact ⟨z, hz, st, rfl, h73, trivial⟩

theorem u_r07_Measure_1 : ∀ (n : Nat) {N : Nat}  {z0 z : Nat → Blk} {e m : Mem} {k : Option Nat} {fr : Nat → Value} {x0 : List Int} {x1 : List Int} {x8 : Int} {v0 : Value} {v1 : Value} (hz : Zx e.next z0 z) (st : St z e m k) (h0 : fr 0 = v0) (s0 : SlR (TInt 3 .i64) z x0 v0) (h1 : fr 1 = v1) (s1 : SlR (TInt 3 .i64) z x1 v1) (h8 : fr 8 = (vI x8)) {r : Sum (Unit) (Int)} (hr : r07_Measure_1 N x0 x1 n x8 = some r), W Try.prog (sub (bodyOf Try.f28) [1, 1, 1, 0, 1, 0]) (fun ex fr' m' => ∃ z', Zx e.next z0 z' ∧ St z' e m' k ∧ ((∃ q, r = Sum.inl q ∧ ex = AExit.exit 0 ∧ True) ∨ (∃ q, r = Sum.inr q ∧ ex = AExit.ret ∧ fr' 6 = (Value.slice none 0 0) ∧ fr' 7 = (vI q) ∧ True))) fr m := by
 intro n
 induction n with
 | zero => intro N z0 z e m k fr x0 x1 x8 v0 v1 hz st h0 s0 h1 s1 h8 r hr; cases (show (none : Option _) = some r from hr)
 | succ n ih =>
  intro N z0 z e m k fr x0 x1 x8 v0 v1 hz st h0 s0 h1 s1 h8 r hr
  unfold r07_Measure_1 at hr
  refine W.loop1 ?_
  refine W.seq (W.seq (W.region ?_))
  refine sx rfl (pMove (v := (vI x8)) rfl h8) ?_
  refine sx rfl (pMove (v := v0) rfl h0) ?_
  refine sx rfl (pLenR (xs := x0) rfl Try.underlying22 rfl s0) ?_
  refine sx rfl (pLss (k := .i64) (a := x8) (b := (x0.length : Int)) rfl rfl rfl) ?_
  refine SeqW.done fun fr28 hf29 => ?_
  have h0 := (congrFun hf29 0).trans h0
  have h1 := (congrFun hf29 1).trans h1
  have h8 := (congrFun hf29 8).trans h8
  have h25 : fr28 25 = (vB (decide (x8 < (x0.length : Int)))) := (congrFun hf29 25).trans rfl
  clear hf29
  refine thenQ.n ?_
  rcases if_some hr with ⟨hc30, hr⟩ | ⟨hc109, hr⟩
  ·refine W.condT h25 hc30 (W.skip ?_)
   refine thenQ.n (W.seq ?_)
   refine W.block ?_
   refine W.seq ?_
   obtain ⟨y95, hy95, hr⟩ := bind_some hr
   refine W.keep (u_r07_Measure_2 (Zx.refl _) st h0 s0 h1 s1 h8 hy95) ?_
   rintro ex101 fr96 m97 hk99 ⟨z98, hz100, st, rfl, h73, -⟩
   replace s0 := s0.mono hz100.le
   replace s1 := s1.mono hz100.le
   have h0 := (hk99 0 rfl).trans h0
   have h1 := (hk99 1 rfl).trans h1
   have h8 := (hk99 8 rfl).trans h8
   replace hz := hz.trans hz100
   clear hk99
   refine thenQ.n ?_
   rcases if_some hr with ⟨hc102, hr⟩ | ⟨hc105, hr⟩
   ·refine W.condT h73 hc102 (W.seq (W.region ?_))
    refine sx rfl (pAssign (v := (Value.slice none 0 0)) rfl rfl) ?_
    refine sx rfl (pAssign (v := (vI 1)) rfl rfl) ?_
    refine SeqW.done fun fr103 hf104 => ?_
    have h6 : fr103 6 = (Value.slice none 0 0) := (congrFun hf104 6).trans rfl
    have h7 : fr103 7 = (vI 1) := (congrFun hf104 7).trans rfl
    clear hf104
    refine thenQ.n ?_
    refine W.ret ?_
    refine blockQ.r ?_
    refine thenQ.r ?_
    refine thenQ.r ?_
    obtain rfl := Option.some.inj hr
    exact ⟨z98, hz, st, .inr ⟨_, rfl, rfl, h6, h7, trivial⟩⟩
   ·refine W.condF h73 hc105 (W.skip ?_)
    refine blockQ.n ?_
    refine thenQ.n (W.region ?_)
    refine sx rfl (pMove (v := (vI x8)) rfl h8) ?_
    refine sx rfl (pAdd (k := .i64) (a := x8) (b := 1) rfl rfl rfl) ?_
    obtain ⟨y106, hy106, hr⟩ := lt_some hr
    refine sx rfl (pAssign rfl (congrArg (Value.int .i64) hy106)) ?_
    refine SeqW.done fun fr107 hf108 => ?_
    have h0 := (congrFun hf108 0).trans h0
    have h1 := (congrFun hf108 1).trans h1
    have h8 : fr107 8 = (vI y106) := (congrFun hf108 8).trans rfl
    clear hf108
    refine thenQ.n ?_
    exact ih hz st h0 s0 h1 s1 h8 hr
  ·refine W.condF h25 hc109 ?_
   refine W.exit ?_
   refine thenQ.x ?_
   refine thenQ.x ?_
   obtain rfl := Option.some.inj hr
   exact ⟨z, hz, st, .inl ⟨_, rfl, rfl, trivial⟩⟩

theorem u_r07_Measure_3 : ∀ (n : Nat) {N : Nat}  {z0 z : Nat → Blk} {e m : Mem} {k : Option Nat} {fr : Nat → Value} {x0 : List Int} {x1 : List Int} {x2 : Int} {x9 : List Int} {x10 : Int} {v0 : Value} {v1 : Value} {v9 : Value} (hz : Zx e.next z0 z) (st : St z e m k) (h0 : fr 0 = v0) (s0 : SlR (TInt 3 .i64) z x0 v0) (h1 : fr 1 = v1) (s1 : SlR (TInt 3 .i64) z x1 v1) (h2 : fr 2 = (vI x2)) (h9 : fr 9 = v9) (o9 : OwF (TInt 3 .i64) z e m k x9 v9) (h10 : fr 10 = (vI x10)) {r : List Int} (hr : r07_Measure_3 N x0 x1 x2 n x9 x10 = some r), W Try.prog (sub (bodyOf Try.f28) [1, 1, 1, 1, 1, 1, 0, 1, 0]) (fun ex fr' m' => ∃ z', Zx e.next z0 z' ∧ St z' e m' k ∧ ex = AExit.exit 2 ∧ ∃ (w9 : Value), fr' 9 = w9 ∧ OwF (TInt 3 .i64) z' e m' k r w9 ∧ True) fr m := by
 intro n
 induction n with
 | zero => intro N z0 z e m k fr x0 x1 x2 x9 x10 v0 v1 v9 hz st h0 s0 h1 s1 h2 h9 o9 h10 r hr; cases (show (none : Option _) = some r from hr)
 | succ n ih =>
  intro N z0 z e m k fr x0 x1 x2 x9 x10 v0 v1 v9 hz st h0 s0 h1 s1 h2 h9 o9 h10 r hr
  unfold r07_Measure_3 at hr
  refine W.loop1 ?_
  refine W.seq (W.seq (W.region ?_))
  refine sx rfl (pMove (v := (vI x10)) rfl h10) ?_
  refine sx rfl (pAdd (k := .i64) (a := x10) (b := 1) rfl rfl rfl) ?_
  refine sx rfl (pMove (v := v0) rfl h0) ?_
  refine sx rfl (pLenR (xs := x0) rfl Try.underlying22 rfl s0) ?_
  refine sx rfl (pLss (k := .i64) (a := (IntKind.wrap .i64 (x10 + 1))) (b := (x0.length : Int)) rfl rfl rfl) ?_
  refine SeqW.done fun fr128 hf129 => ?_
  have h0 := (congrFun hf129 0).trans h0
  have h1 := (congrFun hf129 1).trans h1
  have h2 := (congrFun hf129 2).trans h2
  have h9 := (congrFun hf129 9).trans h9
  have h10 := (congrFun hf129 10).trans h10
  have h81 : fr128 81 = (vB (decide ((IntKind.wrap .i64 (x10 + 1)) < (x0.length : Int)))) := (congrFun hf129 81).trans rfl
  clear hf129
  refine thenQ.n ?_
  rcases if_some hr with ⟨hc130, hr⟩ | ⟨hc179, hr⟩
  ·refine W.condT h81 hc130 (W.skip ?_)
   refine thenQ.n (W.seq ?_)
   refine W.block ?_
   refine W.draw ?_
   refine DrawW.cons rfl (StepX.pure (pMove (v := v9) rfl h9) ?_)
   refine ⟨trivial, ?_⟩
   refine DrawW.cons rfl (StepX.pure (pMove (v := v0) rfl h0) ?_)
   refine ⟨trivial, ?_⟩
   refine DrawW.cons rfl (StepX.pure (pMove (v := (vI x10)) rfl h10) ?_)
   refine ⟨trivial, ?_⟩
   refine DrawW.cons rfl (StepX.pure (pAdd (k := .i64) (a := x10) (b := 1) rfl rfl rfl) ?_)
   refine ⟨trivial, ?_⟩
   obtain ⟨y131, hy131, hr⟩ := bind_some hr
   refine DrawW.cons rfl (kIdxR (T := (TInt 3 .i64)) (xs := x0) (n := (IntKind.wrap .i64 (x10 + 1))) rfl Try.underlying22 Try.type3 rfl rfl rfl s0 hy131 ?_)
   intro B132 f133 cs134 hd135 hc136
   obtain rfl := hd135
   refine ⟨trivial, ?_⟩
   refine DrawW.cons rfl (kLoad (v := (vI y131)) rfl Try.underlying3 rfl rfl (ldz_load st.fz (hc136 0 _ rfl)) ?_)
   refine ⟨?_, ?_⟩
   ·exact demN
   refine DrawW.cons rfl (StepX.pure (pMove (v := v0) rfl h0) ?_)
   refine ⟨trivial, ?_⟩
   refine DrawW.cons rfl (StepX.pure (pMove (v := (vI x10)) rfl h10) ?_)
   refine ⟨trivial, ?_⟩
   obtain ⟨y137, hy137, hr⟩ := bind_some hr
   refine DrawW.cons rfl (kIdxR (T := (TInt 3 .i64)) (xs := x0) (n := x10) rfl Try.underlying22 Try.type3 rfl rfl rfl s0 hy137 ?_)
   intro B138 f139 cs140 hd141 hc142
   obtain rfl := hd141
   refine ⟨trivial, ?_⟩
   refine DrawW.cons rfl (kLoad (v := (vI y137)) rfl Try.underlying3 rfl rfl (ldz_load st.fz (hc142 0 _ rfl)) ?_)
   refine ⟨?_, ?_⟩
   ·exact demN
   refine DrawW.cons rfl (StepX.pure (pSub (k := .i64) (a := y131) (b := y137) rfl rfl rfl) ?_)
   refine ⟨trivial, ?_⟩
   refine DrawW.cons rfl (StepX.pure (pMove (v := (vI x2)) rfl h2) ?_)
   refine ⟨trivial, ?_⟩
   refine DrawW.cons rfl (StepX.pure (pMul (k := .i64) (a := (IntKind.wrap .i64 (y131 - y137))) (b := x2) rfl rfl rfl) ?_)
   refine ⟨trivial, ?_⟩
   refine DrawW.cons rfl (StepX.pure (pMove (v := v1) rfl h1) ?_)
   refine ⟨trivial, ?_⟩
   refine DrawW.cons rfl (StepX.pure (pMove (v := (vI x10)) rfl h10) ?_)
   refine ⟨trivial, ?_⟩
   obtain ⟨y143, hy143, hr⟩ := bind_some hr
   refine DrawW.cons rfl (kIdxR (T := (TInt 3 .i64)) (xs := x1) (n := x10) rfl Try.underlying22 Try.type3 rfl rfl rfl s1 hy143 ?_)
   intro B144 f145 cs146 hd147 hc148
   obtain rfl := hd147
   refine ⟨trivial, ?_⟩
   refine DrawW.cons rfl (kLoad (v := (vI y143)) rfl Try.underlying3 rfl rfl (ldz_load st.fz (hc148 0 _ rfl)) ?_)
   refine ⟨?_, ?_⟩
   ·exact demN
   refine DrawW.cons rfl (StepX.pure (pMove (v := v0) rfl h0) ?_)
   refine ⟨trivial, ?_⟩
   refine DrawW.cons rfl (StepX.pure (pMove (v := (vI x10)) rfl h10) ?_)
   refine ⟨trivial, ?_⟩
   obtain ⟨y149, hy149, hr⟩ := bind_some hr
   refine DrawW.cons rfl (kIdxR (T := (TInt 3 .i64)) (xs := x0) (n := x10) rfl Try.underlying22 Try.type3 rfl rfl rfl s0 hy149 ?_)
   intro B150 f151 cs152 hd153 hc154
   obtain rfl := hd153
   refine ⟨trivial, ?_⟩
   refine DrawW.cons rfl (kLoad (v := (vI y149)) rfl Try.underlying3 rfl rfl (ldz_load st.fz (hc154 0 _ rfl)) ?_)
   refine ⟨?_, ?_⟩
   ·exact demN
   refine DrawW.cons rfl (StepX.pure (pSub (k := .i64) (a := y143) (b := y149) rfl rfl rfl) ?_)
   refine ⟨trivial, ?_⟩
   obtain ⟨y155, hy155, hr⟩ := bind_some hr
   refine DrawW.cons rfl (kQuo (k1 := .i64) (a := (IntKind.wrap .i64 ((IntKind.wrap .i64 (y131 - y137)) * x2))) (b := (IntKind.wrap .i64 (y143 - y149))) rfl rfl rfl hy155 ?_)
   refine ⟨trivial, ?_⟩
   refine DrawW.cons rfl (kBuild (T := (TInt 3 .i64)) rfl Try.underlying22 Try.type3 rfl rfl rfl rfl ([(IntKind.wrap .i64 (y155))] : List Int) [[(vI (IntKind.wrap .i64 (y155)))]] rfl rfl rfl (BuildOk.mk (w := (vI (IntKind.wrap .i64 (y155)))) rfl rfl rfl rfl trivial) st ?_)
   intro V156 m157 st O158 sm159 hap160
   have A162 := hap160 _ o9.lt
   replace o9 := o9.same sm159 Ap.none'
   refine ⟨trivial, ?_⟩
   have sto163 := st
   have old164 := o9
   have old165 := O158
   obtain ⟨y166, hy166, hr⟩ := bind_some hr
   refine DrawW.cons rfl (kAppend (T := (TInt 3 .i64)) (xs := x9) (ys := ([(IntKind.wrap .i64 (y155))] : List Int)) rfl Try.underlying22 Try.type3 rfl rfl rfl rfl rfl rfl (.inl ⟨_, Try.underlying22⟩) rfl o9 rfl O158.ow.src st hy166 ?_)
   intro V167 m168 st O169 sm170 hap171
   have A173 := hap171 _ O158.lt (Ap.symm A162)
   replace O158 := O158.same sm170 (Ap.symm A162)
   refine ⟨⟨?_, ?_⟩, ?_⟩
   ·first | refine demP (gLoad (v := (vI y149)) rfl Try.underlying3 rfl rfl (ldz_load st.fz (hc154 0 _ rfl))) ?_ | refine demA (by decide) ?_
    first | refine demP (gLoad (v := (vI y143)) rfl Try.underlying3 rfl rfl (ldz_load st.fz (hc148 0 _ rfl))) ?_ | refine demA (by decide) ?_
    first | refine demP (gLoad (v := (vI y137)) rfl Try.underlying3 rfl rfl (ldz_load st.fz (hc142 0 _ rfl))) ?_ | refine demA (by decide) ?_
    first | refine demP (gLoad (v := (vI y131)) rfl Try.underlying3 rfl rfl (ldz_load st.fz (hc136 0 _ rfl))) ?_ | refine demA (by decide) ?_
    exact demN
   ·first | refine demP (rfl) ?_ | refine demA (by decide) ?_
    exact demN
   refine DrawW.cons rfl (StepX.pure (pAssign (v := V167) rfl rfl) ?_)
   refine ⟨trivial, ?_⟩
   refine DrawW.done fun fr174 hf175 => ?_
   have h0 := (congrFun hf175 0).trans h0
   have h1 := (congrFun hf175 1).trans h1
   have h2 := (congrFun hf175 2).trans h2
   have h9 : fr174 9 = V167 := (congrFun hf175 9).trans rfl
   have h10 := (congrFun hf175 10).trans h10
   clear hf175
   refine blockQ.n ?_
   refine thenQ.n (W.region ?_)
   refine sx rfl (pMove (v := (vI x10)) rfl h10) ?_
   refine sx rfl (pAdd (k := .i64) (a := x10) (b := 1) rfl rfl rfl) ?_
   obtain ⟨y176, hy176, hr⟩ := lt_some hr
   refine sx rfl (pAssign rfl (congrArg (Value.int .i64) hy176)) ?_
   refine SeqW.done fun fr177 hf178 => ?_
   have h0 := (congrFun hf178 0).trans h0
   have h1 := (congrFun hf178 1).trans h1
   have h2 := (congrFun hf178 2).trans h2
   have h9 := (congrFun hf178 9).trans h9
   have h10 : fr177 10 = (vI y176) := (congrFun hf178 10).trans rfl
   clear hf178
   refine thenQ.n ?_
   exact ih hz st h0 s0 h1 s1 h2 h9 O169 h10 hr
  ·refine W.condF h81 hc179 ?_
   refine W.exit ?_
   refine thenQ.x ?_
   refine thenQ.x ?_
   obtain rfl := Option.some.inj hr
   exact ⟨z, hz, st, rfl, v9, h9, o9, trivial⟩

theorem u_r07_Measure {N : Nat}  {z0 z : Nat → Blk} {e m : Mem} {k : Option Nat} {fr : Nat → Value} {x0 : List Int} {x1 : List Int} {x2 : Int} {v0 : Value} {v1 : Value} (hz : Zx e.next z0 z) (st : St z e m k) (h0 : fr 0 = v0) (s0 : SlR (TInt 3 .i64) z x0 v0) (h1 : fr 1 = v1) (s1 : SlR (TInt 3 .i64) z x1 v1) (h2 : fr 2 = (vI x2)) {r : List Int × Int} (hr : r07_Measure N x0 x1 x2 = some r) : W Try.prog (sub (bodyOf Try.f28) []) (fun ex fr' m' => ∃ z', Zx e.next z0 z' ∧ St z' e m' k ∧ (ex = .normal ∨ ex = .ret) ∧ ∃ (w6 : Value), fr' 6 = w6 ∧ SlR (TInt 3 .i64) z' r.1 w6 ∧ fr' 7 = (vI r.2) ∧ True) fr m := by
 unfold r07_Measure at hr
 refine W.seq (W.region ?_)
 refine sx rfl (pAssign (v := (Value.slice none 0 0)) rfl rfl) ?_
 refine sx rfl (pAssign (v := (vI 0)) rfl rfl) ?_
 refine SeqW.done fun fr1 hf2 => ?_
 have h0 := (congrFun hf2 0).trans h0
 have h1 := (congrFun hf2 1).trans h1
 have h2 := (congrFun hf2 2).trans h2
 clear hf2
 refine thenQ.n (W.seq (W.seq ?_))
 obtain ⟨y9, hy9, hr⟩ := bind_some hr
 refine W.keep (u_r07_Measure_0 (Zx.refl _) st h2 hy9) ?_
 rintro ex15 fr10 m11 hk13 ⟨z12, hz14, st, rfl, h16, -⟩
 replace s0 := s0.mono hz14.le
 replace s1 := s1.mono hz14.le
 have h0 := (hk13 0 rfl).trans h0
 have h1 := (hk13 1 rfl).trans h1
 have h2 := (hk13 2 rfl).trans h2
 replace hz := hz.trans hz14
 clear hk13
 refine thenQ.n ?_
 rcases if_some hr with ⟨hc16, hr⟩ | ⟨hc19, hr⟩
 ·refine W.condT h16 hc16 (W.seq (W.region ?_))
  refine sx rfl (pAssign (v := (Value.slice none 0 0)) rfl rfl) ?_
  refine sx rfl (pAssign (v := (vI 2)) rfl rfl) ?_
  refine SeqW.done fun fr17 hf18 => ?_
  have h6 : fr17 6 = (Value.slice none 0 0) := (congrFun hf18 6).trans rfl
  have h7 : fr17 7 = (vI 2) := (congrFun hf18 7).trans rfl
  clear hf18
  refine thenQ.n ?_
  refine W.ret ?_
  refine thenQ.r ?_
  obtain rfl := Option.some.inj hr
  exact ⟨z12, hz, st, .inr rfl, (Value.slice none 0 0), h6, SlR.nil, h7, trivial⟩
 ·refine W.condF h16 hc19 (W.skip ?_)
  refine thenQ.n (W.seq ?_)
  refine W.seq (W.region ?_)
  refine sx rfl (pMove (v := v0) rfl h0) ?_
  refine sx rfl (pLenR (xs := x0) rfl Try.underlying22 rfl s0) ?_
  refine sx rfl (pMove (v := v1) rfl h1) ?_
  refine sx rfl (pLenR (xs := x1) rfl Try.underlying22 rfl s1) ?_
  refine sx rfl (pNeq (k := .i64) (a := (x0.length : Int)) (b := (x1.length : Int)) rfl rfl rfl) ?_
  refine SeqW.done fun fr20 hf21 => ?_
  have h0 := (congrFun hf21 0).trans h0
  have h1 := (congrFun hf21 1).trans h1
  have h2 := (congrFun hf21 2).trans h2
  have h21 : fr20 21 = (vB ((x0.length : Int) != (x1.length : Int))) := (congrFun hf21 21).trans rfl
  clear hf21
  refine thenQ.n ?_
  rcases if_some hr with ⟨hc22, hr⟩ | ⟨hc25, hr⟩
  ·refine W.condT h21 hc22 (W.seq (W.region ?_))
   refine sx rfl (pAssign (v := (Value.slice none 0 0)) rfl rfl) ?_
   refine sx rfl (pAssign (v := (vI 1)) rfl rfl) ?_
   refine SeqW.done fun fr23 hf24 => ?_
   have h6 : fr23 6 = (Value.slice none 0 0) := (congrFun hf24 6).trans rfl
   have h7 : fr23 7 = (vI 1) := (congrFun hf24 7).trans rfl
   clear hf24
   refine thenQ.n ?_
   refine W.ret ?_
   refine thenQ.r ?_
   obtain rfl := Option.some.inj hr
   exact ⟨z12, hz, st, .inr rfl, (Value.slice none 0 0), h6, SlR.nil, h7, trivial⟩
  ·refine W.condF h21 hc25 (W.skip ?_)
   refine thenQ.n (W.seq ?_)
   refine W.seq (W.region ?_)
   refine sx rfl (pAssign (v := (vI 0)) rfl rfl) ?_
   refine SeqW.done fun fr26 hf27 => ?_
   have h0 := (congrFun hf27 0).trans h0
   have h1 := (congrFun hf27 1).trans h1
   have h2 := (congrFun hf27 2).trans h2
   have h8 : fr26 8 = (vI 0) := (congrFun hf27 8).trans rfl
   clear hf27
   refine thenQ.n ?_
   refine W.block ?_
   obtain ⟨y110, hy110, hr⟩ := bind_some hr
   refine W.keep (u_r07_Measure_1 _ (Zx.refl _) st h0 s0 h1 s1 h8 hy110) ?_
   rintro ex116 fr111 m112 hk114 ⟨z113, hz115, st, ⟨y117, rfl, rfl, -⟩ | ⟨y196, rfl, rfl, h6, h7, -⟩⟩
   ·dsimp only at hr
    replace s0 := s0.mono hz115.le
    replace s1 := s1.mono hz115.le
    have h0 := (hk114 0 rfl).trans h0
    have h1 := (hk114 1 rfl).trans h1
    have h2 := (hk114 2 rfl).trans h2
    replace hz := hz.trans hz115
    clear hk114
    refine blockQ.hit ?_
    refine thenQ.n (W.seq ?_)
    refine W.seq (W.region ?_)
    refine sx rfl (pMove (v := v0) rfl h0) ?_
    refine sx rfl (pLenR (xs := x0) rfl Try.underlying22 rfl s0) ?_
    refine sx rfl (pGtr (k := .i64) (a := (x0.length : Int)) (b := 768) rfl rfl rfl) ?_
    refine SeqW.done fun fr118 hf119 => ?_
    have h0 := (congrFun hf119 0).trans h0
    have h1 := (congrFun hf119 1).trans h1
    have h2 := (congrFun hf119 2).trans h2
    have h76 : fr118 76 = (vB (decide (768 < (x0.length : Int)))) := (congrFun hf119 76).trans rfl
    clear hf119
    refine thenQ.n ?_
    rcases if_some hr with ⟨hc120, hr⟩ | ⟨hc123, hr⟩
    ·refine W.condT h76 hc120 (W.seq (W.region ?_))
     refine sx rfl (pAssign (v := (Value.slice none 0 0)) rfl rfl) ?_
     refine sx rfl (pAssign (v := (vI 3)) rfl rfl) ?_
     refine SeqW.done fun fr121 hf122 => ?_
     have h6 : fr121 6 = (Value.slice none 0 0) := (congrFun hf122 6).trans rfl
     have h7 : fr121 7 = (vI 3) := (congrFun hf122 7).trans rfl
     clear hf122
     refine thenQ.n ?_
     refine W.ret ?_
     refine thenQ.r ?_
     obtain rfl := Option.some.inj hr
     exact ⟨z113, hz, st, .inr rfl, (Value.slice none 0 0), h6, SlR.nil, h7, trivial⟩
    ·refine W.condF h76 hc123 (W.skip ?_)
     refine thenQ.n (W.seq (W.region ?_))
     refine sx rfl (pAssign (v := (Value.slice none 0 0)) rfl rfl) ?_
     refine SeqW.done fun fr124 hf125 => ?_
     have h0 := (congrFun hf125 0).trans h0
     have h1 := (congrFun hf125 1).trans h1
     have h2 := (congrFun hf125 2).trans h2
     have h9 : fr124 9 = (Value.slice none 0 0) := (congrFun hf125 9).trans rfl
     clear hf125
     refine thenQ.n (W.seq ?_)
     refine W.seq (W.region ?_)
     refine sx rfl (pAssign (v := (vI 0)) rfl rfl) ?_
     refine SeqW.done fun fr126 hf127 => ?_
     have h0 := (congrFun hf127 0).trans h0
     have h1 := (congrFun hf127 1).trans h1
     have h2 := (congrFun hf127 2).trans h2
     have h9 := (congrFun hf127 9).trans h9
     have h10 : fr126 10 = (vI 0) := (congrFun hf127 10).trans rfl
     clear hf127
     refine thenQ.n ?_
     refine W.block ?_
     obtain ⟨y180, hy180, hr⟩ := bind_some hr
     refine W.keep (u_r07_Measure_3 _ (Zx.refl _) st h0 s0 h1 s1 h2 h9 OwF.nil h10 hy180) ?_
     rintro ex186 fr181 m182 hk184 ⟨z183, hz185, st, rfl, w187, h9, O189, -⟩
     replace hz := hz.trans hz185
     clear hk184
     refine blockQ.hit ?_
     refine thenQ.n (W.seq (W.region ?_))
     refine sx rfl (pMove (v := w187) rfl h9) ?_
     refine sx rfl (pAssign (v := w187) rfl rfl) ?_
     refine sx rfl (pAssign (v := (vI 0)) rfl rfl) ?_
     refine SeqW.done fun fr190 hf191 => ?_
     have h6 : fr190 6 = w187 := (congrFun hf191 6).trans rfl
     have h7 : fr190 7 = (vI 0) := (congrFun hf191 7).trans rfl
     clear hf191
     refine thenQ.n ?_
     refine W.ret ?_
     obtain ⟨z192, hz193, st, Q194, hl195⟩ := O189.freeze st
     replace hz := hz.trans hz193
     obtain rfl := Option.some.inj hr
     exact ⟨z192, hz, st, .inr rfl, w187, h6, Q194, h7, trivial⟩
   ·dsimp only at hr
    replace hz := hz.trans hz115
    clear hk114
    refine blockQ.r ?_
    refine thenQ.r ?_
    obtain rfl := Option.some.inj hr
    exact ⟨z113, hz, st, .inr rfl, (Value.slice none 0 0), h6, SlR.nil, h7, trivial⟩

theorem c_r07_Measure {N : Nat} {z : Nat → Blk} {m : Mem} {x0 : List Int} {x1 : List Int} {x2 : Int} {v0 : Value} {v1 : Value} (fz : Fz z m) (hd : ∀ b, m.next ≤ b → m.blk b = .dead) (s0 : SlR (TInt 3 .i64) z x0 v0) (s1 : SlR (TInt 3 .i64) z x1 v1) {r : List Int × Int} (hr : r07_Measure N x0 x1 x2 = some r) : CallW Try.prog 28 #[v0, v1, (vI x2)] m fun v m' => ∃ z' w6, Zx m.next z z' ∧ Fz z' m' ∧ Same m m' none ∧ v = (Value.tuple [w6, (vI r.2)].toArray) ∧ SlR (TInt 3 .i64) z' r.1 w6 ∧ True := by
 refine CallW.any Try.func28 rfl (by kernel_rfl) (Nat.le_of_ble_eq_true rfl) (fun fr hf => ?_)
 have h0 : fr 0 = _ := hf 0 _ rfl
 have h1 : fr 1 = _ := hf 1 _ rfl
 have h2 : fr 2 = _ := hf 2 _ rfl
 refine (u_r07_Measure (k := none) (Zx.refl _) (St.start fz hd) h0 s0 h1 s1 h2 hr).mono ?_
 rintro ex fr' m' ⟨z', hz, st, he, w6, h6, s6, h7, -⟩
 exact ⟨he, [w6, (vI r.2)], ⟨h6.symm, h7.symm, trivial⟩, .inr (List.forall_mem_cons.2 ⟨s6.stor.1, List.forall_mem_cons.2 ⟨rfl, fun _ h => nomatch h⟩⟩), z', w6, hz, st.fz, st.toSame, rfl, s6, trivial⟩

/-! ### humpyard/humpyardlaw07.WheelMeasures -/

theorem u_l07_WheelMeasures_1 {N : Nat}  {z0 z : Nat → Blk} {e m : Mem} {k : Option Nat} {fr : Nat → Value} {x11 : List Int} {x12 : Int} {x13 : List Int} {x14 : Int} {v11 : Value} {v13 : Value} (hz : Zx e.next z0 z) (st : St z e m k) (h11 : fr 11 = v11) (s11 : SlR (TInt 3 .i64) z x11 v11) (h12 : fr 12 = (vI x12)) (h13 : fr 13 = v13) (s13 : SlR (TInt 3 .i64) z x13 v13) (h14 : fr 14 = (vI x14)) {r : Bool} (hr : l07_WheelMeasures_1 N x11 x12 x13 x14 = some r) : W Try.prog (sub (bodyOf Try.f9) [1, 0, 1, 0, 1, 1, 0]) (fun ex fr' m' => ∃ z', Zx e.next z0 z' ∧ St z' e m' k ∧ ex = AExit.normal ∧ fr' 50 = (vB r) ∧ True) fr m := by
 unfold l07_WheelMeasures_1 at hr
 refine W.region ?_
 refine sx rfl (pMove (v := v11) rfl h11) ?_
 refine sx rfl (pMove (v := v13) rfl h13) ?_
 obtain ⟨y28, hy28, hr⟩ := bind_some hr
 refine SeqW.consX rfl (StepX.call (gCallee rfl rfl (args2 rfl rfl)) ((c_gen_Ints (z := z) st.fz st.dead s11 s13 hy28).mono ?_))
 rintro _ _ ⟨rfl, rfl⟩
 refine sx rfl (pNot (b := y28) rfl rfl) ?_
 refine sx rfl (pMove (v := (vB (!y28))) rfl rfl) ?_
 rcases if_some hr with ⟨hc29, hr⟩ | ⟨hc32, hr⟩
 ·refine kx rfl rfl rfl hc29 ?_
  iterate 2 refine kx rfl rfl rfl hc29 ?_
  refine sx rfl (pPick (t := true) (v := (vB true)) rfl ((congrArg vB hc29)) rfl) ?_
  refine SeqW.done fun fr30 hf31 => ?_
  have h50 : fr30 50 = (vB true) := (congrFun hf31 50).trans rfl
  clear hf31
  obtain rfl := Option.some.inj hr
  exact ⟨z, hz, st, rfl, h50, trivial⟩
 ·refine SeqW.consG rfl rfl rfl hc32 (StepX.pure (pMove (v := (vI x12)) rfl h12) ?_)
  refine SeqW.consG rfl rfl rfl hc32 (StepX.pure (pMove (v := (vI x14)) rfl h14) ?_)
  refine SeqW.consG rfl rfl rfl hc32 (StepX.pure (pNeq (k := .i64) (a := x12) (b := x14) rfl rfl rfl) ?_)
  refine sx rfl (pPick (t := false) (v := (vB (x12 != x14))) rfl ((congrArg vB hc32)) rfl) ?_
  refine SeqW.done fun fr33 hf34 => ?_
  have h50 : fr33 50 = (vB (x12 != x14)) := (congrFun hf34 50).trans rfl
  clear hf34
  obtain rfl := Option.some.inj hr
  exact ⟨z, hz, st, rfl, h50, trivial⟩

theorem u_l07_WheelMeasures_0 {N : Nat}  {z0 z : Nat → Blk} {e m : Mem} {k : Option Nat} {fr : Nat → Value} {x1 : List Int} {x2 : List Int} {x3 : Int} {x27 : Bool} {v1 : Value} {v2 : Value} (hz : Zx e.next z0 z) (st : St z e m k) (h1 : fr 1 = v1) (s1 : SlR (TInt 3 .i64) z x1 v1) (h2 : fr 2 = v2) (s2 : SlR (TInt 3 .i64) z x2 v2) (h3 : fr 3 = (vI x3)) (h27 : fr 27 = (vB x27)) {r : Sum (Unit) (Bool)} (hr : l07_WheelMeasures_0 N x1 x2 x3 x27 = some r) : W Try.prog (sub (bodyOf Try.f9) [1, 0, 1]) (fun ex fr' m' => ∃ z', Zx e.next z0 z' ∧ St z' e m' k ∧ ((∃ q, r = Sum.inl q ∧ ex = AExit.normal ∧ True) ∨ (∃ q, r = Sum.inr q ∧ ex = AExit.ret ∧ fr' 10 = (vB q) ∧ True))) fr m := by
 unfold l07_WheelMeasures_0 at hr
 rcases if_some hr with ⟨hc5, hr⟩ | ⟨hc46, hr⟩
 ·refine W.condT h27 hc5 (W.seq (W.region ?_))
  refine sx rfl (pMove (v := v1) rfl h1) ?_
  refine sx rfl (pMove (v := v2) rfl h2) ?_
  refine sx rfl (pMove (v := (vI x3)) rfl h3) ?_
  obtain ⟨y6, hy6, hr⟩ := bind_some hr
  refine SeqW.consX rfl (StepX.call (gCallee rfl rfl (args3 rfl rfl rfl)) ((c_wheel_Measure (z := z) st.fz st.dead s1 s2 hy6).mono ?_))
  rintro _ m11 ⟨z7, V12, hzx8, fz9, sm10, rfl, Q13, -⟩
  replace s1 := s1.mono hzx8.le
  replace s2 := s2.mono hzx8.le
  replace hz := hz.trans (Zx.here st hzx8)
  replace st := st.call hzx8 fz9 sm10 no_hq
  refine sx rfl (pMove (v := (Value.tuple [V12, (vI y6.2)].toArray)) rfl rfl) ?_
  refine sx rfl (pExtract (vs := [V12, (vI y6.2)]) (v := V12) rfl rfl rfl) ?_
  refine sx rfl (pExtract (vs := [V12, (vI y6.2)]) (v := (vI y6.2)) rfl rfl rfl) ?_
  refine sx rfl (pAssign (v := V12) rfl rfl) ?_
  refine sx rfl (pAssign (v := (vI y6.2)) rfl rfl) ?_
  refine SeqW.done fun fr15 hf16 => ?_
  have h1 := (congrFun hf16 1).trans h1
  have h2 := (congrFun hf16 2).trans h2
  have h3 := (congrFun hf16 3).trans h3
  have h11 : fr15 11 = V12 := (congrFun hf16 11).trans rfl
  have h12 : fr15 12 = (vI y6.2) := (congrFun hf16 12).trans rfl
  clear hf16
  refine thenQ.n (W.seq (W.region ?_))
  refine sx rfl (pMove (v := v1) rfl h1) ?_
  refine sx rfl (pMove (v := v2) rfl h2) ?_
  refine sx rfl (pMove (v := (vI x3)) rfl h3) ?_
  obtain ⟨y17, hy17, hr⟩ := bind_some hr
  refine SeqW.consX rfl (StepX.call (gCallee rfl rfl (args3 rfl rfl rfl)) ((c_r07_Measure (z := z7) st.fz st.dead s1 s2 hy17).mono ?_))
  rintro _ m22 ⟨z18, V23, hzx19, fz20, sm21, rfl, Q24, -⟩
  replace s1 := s1.mono hzx19.le
  replace s2 := s2.mono hzx19.le
  replace Q13 := Q13.mono hzx19.le
  replace hz := hz.trans (Zx.here st hzx19)
  replace st := st.call hzx19 fz20 sm21 no_hq
  refine sx rfl (pMove (v := (Value.tuple [V23, (vI y17.2)].toArray)) rfl rfl) ?_
  refine sx rfl (pExtract (vs := [V23, (vI y17.2)]) (v := V23) rfl rfl rfl) ?_
  refine sx rfl (pExtract (vs := [V23, (vI y17.2)]) (v := (vI y17.2)) rfl rfl rfl) ?_
  refine sx rfl (pAssign (v := V23) rfl rfl) ?_
  refine sx rfl (pAssign (v := (vI y17.2)) rfl rfl) ?_
  refine SeqW.done fun fr26 hf27 => ?_
  have h11 := (congrFun hf27 11).trans h11
  have h12 := (congrFun hf27 12).trans h12
  have h13 : fr26 13 = V23 := (congrFun hf27 13).trans rfl
  have h14 : fr26 14 = (vI y17.2) := (congrFun hf27 14).trans rfl
  clear hf27
  refine thenQ.n (W.seq ?_)
  obtain ⟨y35, hy35, hr⟩ := bind_some hr
  refine W.keep (u_l07_WheelMeasures_1 (Zx.refl _) st h11 Q13 h12 h13 Q24 h14 hy35) ?_
  rintro ex41 fr36 m37 hk39 ⟨z38, hz40, st, rfl, h50, -⟩
  replace hz := hz.trans hz40
  clear hk39
  refine thenQ.n ?_
  rcases if_some hr with ⟨hc42, hr⟩ | ⟨hc45, hr⟩
  ·refine W.condT h50 hc42 (W.seq (W.region ?_))
   refine sx rfl (pAssign (v := (vB false)) rfl rfl) ?_
   refine SeqW.done fun fr43 hf44 => ?_
   have h10 : fr43 10 = (vB false) := (congrFun hf44 10).trans rfl
   clear hf44
   refine thenQ.n ?_
   refine W.ret ?_
   obtain rfl := Option.some.inj hr
   exact ⟨z38, hz, st, .inr ⟨_, rfl, rfl, h10, trivial⟩⟩
  ·refine W.condF h50 hc45 (W.skip ?_)
   obtain rfl := Option.some.inj hr
   exact ⟨z38, hz, st, .inl ⟨_, rfl, rfl, trivial⟩⟩
 ·refine W.condF h27 hc46 (W.skip ?_)
  obtain rfl := Option.some.inj hr
  exact ⟨z, hz, st, .inl ⟨_, rfl, rfl, trivial⟩⟩

theorem u_l07_WheelMeasures_2 : ∀ (n : Nat) {N : Nat}  {z0 z : Nat → Blk} {e m : Mem} {k : Option Nat} {fr : Nat → Value} {x4 : Int} {x15 : List Int} {x17 : Int} {x18 : List Int} {x19 : List Int} {x20 : Int} {v15 : Value} {v18 : Value} {v19 : Value} (hz : Zx e.next z0 z) (st : St z e m k) (h4 : fr 4 = (vI x4)) (h15 : fr 15 = v15) (s15 : SlR (TInt 3 .i64) z x15 v15) (h17 : fr 17 = (vI x17)) (h18 : fr 18 = v18) (o18 : OwF (TInt 3 .i64) z e m k x18 v18) (h19 : fr 19 = v19) (o19 : OwF (TInt 3 .i64) z e m k x19 v19) (h20 : fr 20 = (vI x20)) (ao18_o19 : Ap (blkOf v18) (blkOf v19)) {r : List Int × List Int} (hr : l07_WheelMeasures_2 N x4 x15 n x17 x18 x19 x20 = some r), W Try.prog (sub (bodyOf Try.f9) [1, 1, 1, 1, 1, 1, 1, 0, 1, 0]) (fun ex fr' m' => ∃ z', Zx e.next z0 z' ∧ St z' e m' k ∧ ex = AExit.exit 0 ∧ ∃ (w18 : Value) (w19 : Value), fr' 18 = w18 ∧ OwF (TInt 3 .i64) z' e m' k r.1 w18 ∧ fr' 19 = w19 ∧ OwF (TInt 3 .i64) z' e m' k r.2 w19 ∧ Ap (blkOf w18) (blkOf w19) ∧ True) fr m := by
 intro n
 induction n with
 | zero => intro N z0 z e m k fr x4 x15 x17 x18 x19 x20 v15 v18 v19 hz st h4 h15 s15 h17 h18 o18 h19 o19 h20 ao18_o19 r hr; cases (show (none : Option _) = some r from hr)
 | succ n ih =>
  intro N z0 z e m k fr x4 x15 x17 x18 x19 x20 v15 v18 v19 hz st h4 h15 s15 h17 h18 o18 h19 o19 h20 ao18_o19 r hr
  unfold l07_WheelMeasures_2 at hr
  refine W.loop1 ?_
  refine W.seq (W.seq (W.region ?_))
  refine sx rfl (pMove (v := (vI x20)) rfl h20) ?_
  refine sx rfl (pMove (v := v15) rfl h15) ?_
  refine sx rfl (pLenR (xs := x15) rfl Try.underlying22 rfl s15) ?_
  refine sx rfl (pLss (k := .i64) (a := x20) (b := (x15.length : Int)) rfl rfl rfl) ?_
  refine SeqW.done fun fr125 hf126 => ?_
  have h4 := (congrFun hf126 4).trans h4
  have h15 := (congrFun hf126 15).trans h15
  have h17 := (congrFun hf126 17).trans h17
  have h18 := (congrFun hf126 18).trans h18
  have h19 := (congrFun hf126 19).trans h19
  have h20 := (congrFun hf126 20).trans h20
  have h75 : fr125 75 = (vB (decide (x20 < (x15.length : Int)))) := (congrFun hf126 75).trans rfl
  clear hf126
  refine thenQ.n ?_
  rcases if_some hr with ⟨hc127, hr⟩ | ⟨hc176, hr⟩
  ·refine W.condT h75 hc127 (W.skip ?_)
   refine thenQ.n (W.seq ?_)
   refine W.block ?_
   refine W.seq (W.region ?_)
   refine sx rfl (pMove (v := (vI x17)) rfl h17) ?_
   refine sx rfl (pMove (v := v15) rfl h15) ?_
   refine sx rfl (pMove (v := (vI x20)) rfl h20) ?_
   obtain ⟨y128, hy128, hr⟩ := bind_some hr
   refine SeqW.consX rfl (kIdxR (T := (TInt 3 .i64)) (xs := x15) (n := x20) rfl Try.underlying22 Try.type3 rfl rfl rfl s15 hy128 ?_)
   intro B129 f130 cs131 hd132 hc133
   obtain rfl := hd132
   refine SeqW.consX rfl (kLoad (v := (vI y128)) rfl Try.underlying3 rfl rfl (ldz_load st.fz (hc133 0 _ rfl)) ?_)
   refine sx rfl (pMove (v := (vI x4)) rfl h4) ?_
   refine sx rfl (pMul (k := .i64) (a := y128) (b := x4) rfl rfl rfl) ?_
   refine sx rfl (pAdd (k := .i64) (a := x17) (b := (IntKind.wrap .i64 (y128 * x4))) rfl rfl rfl) ?_
   obtain ⟨y134, hy134, hr⟩ := lt_some hr
   refine sx rfl (pAssign rfl (congrArg (Value.int .i64) hy134)) ?_
   refine SeqW.done fun fr135 hf136 => ?_
   have h4 := (congrFun hf136 4).trans h4
   have h15 := (congrFun hf136 15).trans h15
   have h17 : fr135 17 = (vI y134) := (congrFun hf136 17).trans rfl
   have h18 := (congrFun hf136 18).trans h18
   have h19 := (congrFun hf136 19).trans h19
   have h20 := (congrFun hf136 20).trans h20
   clear hf136
   refine thenQ.n (W.region ?_)
   refine sx rfl (pMove (v := v18) rfl h18) ?_
   refine sx rfl (pMove (v := (vI y134)) rfl h17) ?_
   refine SeqW.consX rfl (kBuild (T := (TInt 3 .i64)) rfl Try.underlying22 Try.type3 rfl rfl rfl rfl ([y134] : List Int) [[(vI y134)]] rfl rfl rfl (BuildOk.mk (w := (vI y134)) rfl rfl rfl rfl trivial) st ?_)
   intro V137 m138 st O139 sm140 hap141
   have A143 := hap141 _ o18.lt
   have A144 := hap141 _ o19.lt
   replace o18 := o18.same sm140 Ap.none'
   replace o19 := o19.same sm140 Ap.none'
   obtain ⟨y145, hy145, hr⟩ := bind_some hr
   refine SeqW.consX rfl (kAppend (T := (TInt 3 .i64)) (xs := x18) (ys := ([y134] : List Int)) rfl Try.underlying22 Try.type3 rfl rfl rfl rfl rfl rfl (.inl ⟨_, Try.underlying22⟩) rfl o18 rfl O139.ow.src st hy145 ?_)
   intro V146 m147 st O148 sm149 hap150
   have A152 := hap150 _ o19.lt (Ap.symm ao18_o19)
   have A153 := hap150 _ O139.lt (Ap.symm A143)
   replace o19 := o19.same sm149 (Ap.symm ao18_o19)
   replace O139 := O139.same sm149 (Ap.symm A143)
   refine sx rfl (pMove (v := v19) rfl h19) ?_
   refine sx rfl (pMove (v := (vI y134)) rfl h17) ?_
   refine sx rfl (pMove (v := (vI x4)) rfl h4) ?_
   refine sx rfl (pMul (k := .i64) (a := 100) (b := x4) rfl rfl rfl) ?_
   refine sx rfl (pAdd (k := .i64) (a := y134) (b := (IntKind.wrap .i64 (100 * x4))) rfl rfl rfl) ?_
   refine SeqW.consX rfl (kBuild (T := (TInt 3 .i64)) rfl Try.underlying22 Try.type3 rfl rfl rfl rfl ([(IntKind.wrap .i64 (y134 + (IntKind.wrap .i64 (100 * x4))))] : List Int) [[(vI (IntKind.wrap .i64 (y134 + (IntKind.wrap .i64 (100 * x4)))))]] rfl rfl rfl (BuildOk.mk (w := (vI (IntKind.wrap .i64 (y134 + (IntKind.wrap .i64 (100 * x4)))))) rfl rfl rfl rfl trivial) st ?_)
   intro V154 m155 st O156 sm157 hap158
   have A160 := hap158 _ o19.lt
   have A161 := hap158 _ O148.lt
   replace o19 := o19.same sm157 Ap.none'
   replace O148 := O148.same sm157 Ap.none'
   obtain ⟨y162, hy162, hr⟩ := bind_some hr
   refine SeqW.consX rfl (kAppend (T := (TInt 3 .i64)) (xs := x19) (ys := ([(IntKind.wrap .i64 (y134 + (IntKind.wrap .i64 (100 * x4))))] : List Int)) rfl Try.underlying22 Try.type3 rfl rfl rfl rfl rfl rfl (.inl ⟨_, Try.underlying22⟩) rfl o19 rfl O156.ow.src st hy162 ?_)
   intro V163 m164 st O165 sm166 hap167
   have A169 := hap167 _ O148.lt (Ap.symm A152)
   have A170 := hap167 _ O156.lt (Ap.symm A160)
   replace O148 := O148.same sm166 (Ap.symm A152)
   replace O156 := O156.same sm166 (Ap.symm A160)
   refine sx rfl (pAssign (v := V146) rfl rfl) ?_
   refine sx rfl (pAssign (v := V163) rfl rfl) ?_
   refine SeqW.done fun fr171 hf172 => ?_
   have h4 := (congrFun hf172 4).trans h4
   have h15 := (congrFun hf172 15).trans h15
   have h17 := (congrFun hf172 17).trans h17
   have h18 : fr171 18 = V146 := (congrFun hf172 18).trans rfl
   have h19 : fr171 19 = V163 := (congrFun hf172 19).trans rfl
   have h20 := (congrFun hf172 20).trans h20
   clear hf172
   refine blockQ.n ?_
   refine thenQ.n (W.region ?_)
   refine sx rfl (pMove (v := (vI x20)) rfl h20) ?_
   refine sx rfl (pAdd (k := .i64) (a := x20) (b := 1) rfl rfl rfl) ?_
   obtain ⟨y173, hy173, hr⟩ := lt_some hr
   refine sx rfl (pAssign rfl (congrArg (Value.int .i64) hy173)) ?_
   refine SeqW.done fun fr174 hf175 => ?_
   have h4 := (congrFun hf175 4).trans h4
   have h15 := (congrFun hf175 15).trans h15
   have h17 := (congrFun hf175 17).trans h17
   have h18 := (congrFun hf175 18).trans h18
   have h19 := (congrFun hf175 19).trans h19
   have h20 : fr174 20 = (vI y173) := (congrFun hf175 20).trans rfl
   clear hf175
   refine thenQ.n ?_
   exact ih hz st h4 h15 s15 h17 h18 O148 h19 O165 h20 A169 hr
  ·refine W.condF h75 hc176 ?_
   refine W.exit ?_
   refine thenQ.x ?_
   refine thenQ.x ?_
   obtain rfl := Option.some.inj hr
   exact ⟨z, hz, st, rfl, v18, v19, h18, o18, h19, o19, ao18_o19, trivial⟩

theorem u_l07_WheelMeasures_3 {N : Nat}  {z0 z : Nat → Blk} {e m : Mem} {k : Option Nat} {fr : Nat → Value} {x15 : List Int} {x16 : Int} {x21 : List Int} {v15 : Value} {v21 : Value} (hz : Zx e.next z0 z) (st : St z e m k) (h15 : fr 15 = v15) (s15 : SlR (TInt 3 .i64) z x15 v15) (h16 : fr 16 = (vI x16)) (h21 : fr 21 = v21) (s21 : SlR (TInt 3 .i64) z x21 v21) {r : Bool} (hr : l07_WheelMeasures_3 N x15 x16 x21 = some r) : W Try.prog (sub (bodyOf Try.f9) [1, 1, 1, 1, 1, 1, 1, 1, 1, 0]) (fun ex fr' m' => ∃ z', Zx e.next z0 z' ∧ St z' e m' k ∧ ex = AExit.normal ∧ fr' 10 = (vB r) ∧ True) fr m := by
 unfold l07_WheelMeasures_3 at hr
 refine W.region ?_
 refine sx rfl (pMove (v := (vI x16)) rfl h16) ?_
 refine sx rfl (pEql (k := .i64) (a := x16) (b := 0) rfl rfl rfl) ?_
 refine sx rfl (pMove (v := (vB (x16 == 0))) rfl rfl) ?_
 rcases if_some hr with ⟨hc210, hr⟩ | ⟨hc219, hr⟩
 ·refine SeqW.consG rfl rfl rfl hc210 (StepX.pure (pMove (v := v21) rfl h21) ?_)
  refine SeqW.consG rfl rfl rfl hc210 (StepX.pure (pMove (v := v15) rfl h15) ?_)
  obtain ⟨y211, hy211, hr⟩ := bind_some hr
  refine SeqW.consG rfl rfl rfl hc210 (StepX.call (gCallee rfl rfl (args2 rfl rfl)) ((c_gen_Ints (z := z) st.fz st.dead s21 s15 hy211).mono ?_))
  rintro _ _ ⟨rfl, rfl⟩
  refine sx rfl (pPick (t := true) (v := (vB y211)) rfl ((congrArg vB hc210)) rfl) ?_
  refine sx rfl (pMove (v := (vB y211)) rfl rfl) ?_
  rcases if_some hr with ⟨hc212, hr⟩ | ⟨hc216, hr⟩
  ·obtain ⟨y213, hy213, hr⟩ := bind_some hr
   refine SeqW.consG rfl rfl rfl hc212 (StepX.call (gCallee rfl rfl args0) ((c_l07_sane (z := z) st.fz st.dead  hy213).mono ?_))
   rintro _ _ ⟨rfl, rfl⟩
   refine sx rfl (pPick (t := true) (v := (vB y213)) rfl ((congrArg vB hc212)) rfl) ?_
   refine sx rfl (pAssign (v := (vB y213)) rfl rfl) ?_
   refine SeqW.done fun fr214 hf215 => ?_
   have h10 : fr214 10 = (vB y213) := (congrFun hf215 10).trans rfl
   clear hf215
   obtain rfl := Option.some.inj hr
   exact ⟨z, hz, st, rfl, h10, trivial⟩
  ·refine kx rfl rfl rfl hc216 ?_
   refine sx rfl (pPick (t := false) (v := (vB false)) rfl ((congrArg vB hc216)) rfl) ?_
   refine sx rfl (pAssign (v := (vB false)) rfl rfl) ?_
   refine SeqW.done fun fr217 hf218 => ?_
   have h10 : fr217 10 = (vB false) := (congrFun hf218 10).trans rfl
   clear hf218
   obtain rfl := Option.some.inj hr
   exact ⟨z, hz, st, rfl, h10, trivial⟩
 ·refine kx rfl rfl rfl hc219 ?_
  iterate 2 refine kx rfl rfl rfl hc219 ?_
  refine sx rfl (pPick (t := false) (v := (vB false)) rfl ((congrArg vB hc219)) rfl) ?_
  refine sx rfl (pMove (v := (vB false)) rfl rfl) ?_
  refine kx rfl rfl rfl rfl ?_
  refine sx rfl (pPick (t := false) (v := (vB false)) rfl ((congrArg vB (rfl : false = false))) rfl) ?_
  refine sx rfl (pAssign (v := (vB false)) rfl rfl) ?_
  refine SeqW.done fun fr220 hf221 => ?_
  have h10 : fr220 10 = (vB false) := (congrFun hf221 10).trans rfl
  clear hf221
  obtain rfl := Option.some.inj hr
  exact ⟨z, hz, st, rfl, h10, trivial⟩

theorem u_l07_WheelMeasures {N : Nat}  {z0 z : Nat → Blk} {e m : Mem} {k : Option Nat} {fr : Nat → Value} {x0 : List Int} {x1 : List Int} {x2 : List Int} {x3 : Int} {x4 : Int} {v0 : Value} {v1 : Value} {v2 : Value} (hz : Zx e.next z0 z) (st : St z e m k) (h0 : fr 0 = v0) (s0 : SlR (TInt 3 .i64) z x0 v0) (h1 : fr 1 = v1) (s1 : SlR (TInt 3 .i64) z x1 v1) (h2 : fr 2 = v2) (s2 : SlR (TInt 3 .i64) z x2 v2) (h3 : fr 3 = (vI x3)) (h4 : fr 4 = (vI x4)) {r : Bool} (hr : l07_WheelMeasures N x0 x1 x2 x3 x4 = some r) : W Try.prog (sub (bodyOf Try.f9) []) (fun ex fr' m' => ∃ z', Zx e.next z0 z' ∧ St z' e m' k ∧ (ex = .normal ∨ ex = .ret) ∧ fr' 10 = (vB r) ∧ True) fr m := by
 unfold l07_WheelMeasures at hr
 refine W.seq (W.region ?_)
 refine sx rfl (pAssign (v := (vB false)) rfl rfl) ?_
 refine SeqW.done fun fr1 hf2 => ?_
 have h0 := (congrFun hf2 0).trans h0
 have h1 := (congrFun hf2 1).trans h1
 have h2 := (congrFun hf2 2).trans h2
 have h3 := (congrFun hf2 3).trans h3
 have h4 := (congrFun hf2 4).trans h4
 clear hf2
 refine thenQ.n (W.seq ?_)
 refine W.seq (W.region ?_)
 refine sx rfl (pMove (v := v1) rfl h1) ?_
 refine sx rfl (pLenR (xs := x1) rfl Try.underlying22 rfl s1) ?_
 refine sx rfl (pMove (v := v2) rfl h2) ?_
 refine sx rfl (pLenR (xs := x2) rfl Try.underlying22 rfl s2) ?_
 refine sx rfl (pAdd (k := .i64) (a := (x1.length : Int)) (b := (x2.length : Int)) rfl rfl rfl) ?_
 refine sx rfl (pLeq (k := .i64) (a := (IntKind.wrap .i64 ((x1.length : Int) + (x2.length : Int)))) (b := 200) rfl rfl rfl) ?_
 refine SeqW.done fun fr3 hf4 => ?_
 have h0 := (congrFun hf4 0).trans h0
 have h1 := (congrFun hf4 1).trans h1
 have h2 := (congrFun hf4 2).trans h2
 have h3 := (congrFun hf4 3).trans h3
 have h4 := (congrFun hf4 4).trans h4
 have h27 : fr3 27 = (vB (decide ((IntKind.wrap .i64 ((x1.length : Int) + (x2.length : Int))) ≤ 200))) := (congrFun hf4 27).trans rfl
 clear hf4
 refine thenQ.n ?_
 obtain ⟨y47, hy47, hr⟩ := bind_some hr
 refine W.keep (u_l07_WheelMeasures_0 (Zx.refl _) st h1 s1 h2 s2 h3 h27 hy47) ?_
 rintro ex53 fr48 m49 hk51 ⟨z50, hz52, st, ⟨y54, rfl, rfl, -⟩ | ⟨y229, rfl, rfl, h10, -⟩⟩
 ·dsimp only at hr
  replace s0 := s0.mono hz52.le
  have h0 := (hk51 0 rfl).trans h0
  have h4 := (hk51 4 rfl).trans h4
  replace hz := hz.trans hz52
  clear hk51
  refine thenQ.n (W.seq (W.region ?_))
  refine sx rfl (pMove (v := v0) rfl h0) ?_
  obtain ⟨y55, hy55, hr⟩ := bind_some hr
  refine SeqW.consX rfl (StepX.call (gCallee rfl rfl (args1 rfl)) ((c_gen_New (z := z50) st.fz st.dead s0 hy55).mono ?_))
  rintro _ m60 ⟨z56, B61, V64, hzx57, fz58, sm59, rfl, Q65, X62, hn67, -⟩
  replace s0 := s0.mono hzx57.le
  have X62 : Bx z56 e m60 k B61 _ _ := ⟨X62.blk, X62.lt, X62.dead, .inl (Nat.le_trans st.next hn67)⟩
  replace hz := hz.trans (Zx.here st hzx57)
  replace st := st.call hzx57 fz58 sm59 no_hq
  obtain ⟨y68, hy68, hr⟩ := bind_some hr
  refine SeqW.consX rfl (StepX.call (gCallee rfl rfl (args2 rfl rfl)) ((c_Maker_Wagons (x0 := y55) (z := z56) st.fz st.dead Q65 ⟨X62.blk, X62.lt, X62.dead, .inr rfl⟩ hy68).mono ?_))
  rintro V74 m73 ⟨z69, _, V77, hzx70, fz71, sm72, rfl, Q75, Q78, X80, -⟩
  have A81 := Ap.own X62.lt' Q75.fresh
  replace Q65 := Q65.mono hzx70.le
  have X62n : Bx z69 e m73 k B61 _ _ := ⟨X80.blk, X80.lt, X80.dead, X62.fresh⟩
  have Q75 : OwF TWagon z69 e m73 k y68.1 V74 := Q75.up st.next
  replace hz := hz.trans (Zx.here st hzx70)
  replace st := st.call hzx70 fz71 sm72 X62.hq
  obtain ⟨z82, hz83, st, Q84, hl85⟩ := Q75.freeze st
  replace hz := hz.trans hz83
  obtain ⟨y86, hy86, hr⟩ := bind_some hr
  refine SeqW.consX rfl (StepX.call (gCallee rfl rfl (args1 rfl)) ((c_wheel_Distances (z := z82) st.fz st.dead Q84 hy86).mono ?_))
  rintro _ m91 ⟨z87, V92, hzx88, fz89, sm90, rfl, Q93, -⟩
  replace Q84 := Q84.mono hzx88.le
  replace hz := hz.trans (Zx.here st hzx88)
  replace st := st.call hzx88 fz89 sm90 no_hq
  refine sx rfl (pMove (v := (Value.tuple [V92, (vI y86.2)].toArray)) rfl rfl) ?_
  refine sx rfl (pExtract (vs := [V92, (vI y86.2)]) (v := V92) rfl rfl rfl) ?_
  refine sx rfl (pExtract (vs := [V92, (vI y86.2)]) (v := (vI y86.2)) rfl rfl rfl) ?_
  refine sx rfl (pAssign (v := V92) rfl rfl) ?_
  refine sx rfl (pAssign (v := (vI y86.2)) rfl rfl) ?_
  refine SeqW.done fun fr95 hf96 => ?_
  have h4 := (congrFun hf96 4).trans h4
  have h15 : fr95 15 = V92 := (congrFun hf96 15).trans rfl
  have h16 : fr95 16 = (vI y86.2) := (congrFun hf96 16).trans rfl
  clear hf96
  refine thenQ.n (W.seq (W.region ?_))
  refine sx rfl (pMove (v := (vI x4)) rfl h4) ?_
  refine sx rfl (pRem (k := .i64) (a := x4) (b := 20) rfl rfl rfl (by decide)) ?_
  refine sx rfl (pAdd (k := .i64) (a := (Int.tmod x4 20)) (b := 20) rfl rfl rfl) ?_
  refine sx rfl (pRem (k := .i64) (a := (IntKind.wrap .i64 ((Int.tmod x4 20) + 20))) (b := 20) rfl rfl rfl (by decide)) ?_
  refine sx rfl (pAdd (k := .i64) (a := 1) (b := (Int.tmod (IntKind.wrap .i64 ((Int.tmod x4 20) + 20)) 20)) rfl rfl rfl) ?_
  obtain ⟨y97, hy97, hr⟩ := lt_some hr
  refine sx rfl (pAssign rfl (congrArg (Value.int .i64) hy97)) ?_
  refine SeqW.done fun fr98 hf99 => ?_
  have h4 : fr98 4 = (vI y97) := (congrFun hf99 4).trans rfl
  have h15 := (congrFun hf99 15).trans h15
  have h16 := (congrFun hf99 16).trans h16
  clear hf99
  refine thenQ.n (W.seq ?_)
  refine W.seq (W.region ?_)
  refine sx rfl (pMove (v := (vI y86.2)) rfl h16) ?_
  refine sx rfl (pNeq (k := .i64) (a := y86.2) (b := 0) rfl rfl rfl) ?_
  refine SeqW.done fun fr100 hf101 => ?_
  have h4 := (congrFun hf101 4).trans h4
  have h15 := (congrFun hf101 15).trans h15
  have h64 : fr100 64 = (vB (y86.2 != 0)) := (congrFun hf101 64).trans rfl
  clear hf101
  refine thenQ.n ?_
  rcases if_some hr with ⟨hc102, hr⟩ | ⟨hc105, hr⟩
  ·refine W.condT h64 hc102 (W.seq (W.region ?_))
   refine sx rfl (pAssign (v := (vB false)) rfl rfl) ?_
   refine SeqW.done fun fr103 hf104 => ?_
   have h10 : fr103 10 = (vB false) := (congrFun hf104 10).trans rfl
   clear hf104
   refine thenQ.n ?_
   refine W.ret ?_
   refine thenQ.r ?_
   obtain rfl := Option.some.inj hr
   exact ⟨z87, hz, st, .inr rfl, h10, trivial⟩
  ·refine W.condF h64 hc105 (W.skip ?_)
   refine thenQ.n (W.seq (W.region ?_))
   refine sx rfl (pAssign (v := (vI 1000)) rfl rfl) ?_
   refine SeqW.done fun fr106 hf107 => ?_
   have h4 := (congrFun hf107 4).trans h4
   have h15 := (congrFun hf107 15).trans h15
   have h17 : fr106 17 = (vI 1000) := (congrFun hf107 17).trans rfl
   clear hf107
   refine thenQ.n (W.seq (W.region ?_))
   refine sx rfl (pMove (v := (vI 1000)) rfl h17) ?_
   refine SeqW.consX rfl (kBuild (T := (TInt 3 .i64)) rfl Try.underlying22 Try.type3 rfl rfl rfl rfl ([1000] : List Int) [[(vI 1000)]] rfl rfl rfl (BuildOk.mk (w := (vI 1000)) rfl rfl rfl rfl trivial) st ?_)
   intro V108 m109 st O110 sm111 hap112
   refine sx rfl (pMove (v := (vI 1000)) rfl h17) ?_
   refine sx rfl (pMove (v := (vI y97)) rfl h4) ?_
   refine sx rfl (pMul (k := .i64) (a := 100) (b := y97) rfl rfl rfl) ?_
   refine sx rfl (pAdd (k := .i64) (a := 1000) (b := (IntKind.wrap .i64 (100 * y97))) rfl rfl rfl) ?_
   refine SeqW.consX rfl (kBuild (T := (TInt 3 .i64)) rfl Try.underlying22 Try.type3 rfl rfl rfl rfl ([(IntKind.wrap .i64 (1000 + (IntKind.wrap .i64 (100 * y97))))] : List Int) [[(vI (IntKind.wrap .i64 (1000 + (IntKind.wrap .i64 (100 * y97)))))]] rfl rfl rfl (BuildOk.mk (w := (vI (IntKind.wrap .i64 (1000 + (IntKind.wrap .i64 (100 * y97)))))) rfl rfl rfl rfl trivial) st ?_)
   intro V114 m115 st O116 sm117 hap118
   have A120 := hap118 _ O110.lt
   replace O110 := O110.same sm117 Ap.none'
   refine sx rfl (pAssign (v := V108) rfl rfl) ?_
   refine sx rfl (pAssign (v := V114) rfl rfl) ?_
   refine SeqW.done fun fr121 hf122 => ?_
   have h4 := (congrFun hf122 4).trans h4
   have h15 := (congrFun hf122 15).trans h15
   have h17 := (congrFun hf122 17).trans h17
   have h18 : fr121 18 = V108 := (congrFun hf122 18).trans rfl
   have h19 : fr121 19 = V114 := (congrFun hf122 19).trans rfl
   clear hf122
   refine thenQ.n (W.seq ?_)
   refine W.seq (W.region ?_)
   refine sx rfl (pAssign (v := (vI 0)) rfl rfl) ?_
   refine SeqW.done fun fr123 hf124 => ?_
   have h4 := (congrFun hf124 4).trans h4
   have h15 := (congrFun hf124 15).trans h15
   have h17 := (congrFun hf124 17).trans h17
   have h18 := (congrFun hf124 18).trans h18
   have h19 := (congrFun hf124 19).trans h19
   have h20 : fr123 20 = (vI 0) := (congrFun hf124 20).trans rfl
   clear hf124
   refine thenQ.n ?_
   refine W.block ?_
   obtain ⟨y177, hy177, hr⟩ := bind_some hr
   refine W.keep (u_l07_WheelMeasures_2 _ (Zx.refl _) st h4 h15 Q93 h17 h18 O110 h19 O116 h20 A120 hy177) ?_
   rintro ex183 fr178 m179 hk181 ⟨z180, hz182, st, rfl, w184, w185, h18, O187, h19, O189, A190, -⟩
   replace Q93 := Q93.mono hz182.le
   have h15 := (hk181 15 rfl).trans h15
   replace hz := hz.trans hz182
   clear hk181
   refine blockQ.hit ?_
   refine thenQ.n (W.seq (W.region ?_))
   refine sx rfl (pMove (v := w184) rfl h18) ?_
   refine sx rfl (pMove (v := w185) rfl h19) ?_
   obtain ⟨z191, hz192, st, Q193, hl194⟩ := O187.freeze st
   replace Q93 := Q93.mono hz192.le
   replace O189 := O189.zle hz192.le (hl194 _ (Ap.symm A190))
   replace hz := hz.trans hz192
   obtain ⟨z195, hz196, st, Q197, hl198⟩ := O189.freeze st
   replace Q93 := Q93.mono hz196.le
   replace Q193 := Q193.mono hz196.le
   replace hz := hz.trans hz196
   obtain ⟨y199, hy199, hr⟩ := bind_some hr
   refine SeqW.consX rfl (StepX.call (gCallee rfl rfl (args3 rfl rfl rfl)) ((c_wheel_Measure (z := z195) st.fz st.dead Q193 Q197 hy199).mono ?_))
   rintro _ m204 ⟨z200, V205, hzx201, fz202, sm203, rfl, Q206, -⟩
   replace Q93 := Q93.mono hzx201.le
   replace Q193 := Q193.mono hzx201.le
   replace Q197 := Q197.mono hzx201.le
   replace hz := hz.trans (Zx.here st hzx201)
   replace st := st.call hzx201 fz202 sm203 no_hq
   refine sx rfl (pMove (v := (Value.tuple [V205, (vI y199.2)].toArray)) rfl rfl) ?_
   refine sx rfl (pExtract (vs := [V205, (vI y199.2)]) (v := V205) rfl rfl rfl) ?_
   refine sx rfl (pExtract (vs := [V205, (vI y199.2)]) (v := (vI y199.2)) rfl rfl rfl) ?_
   refine sx rfl (pAssign (v := V205) rfl rfl) ?_
   refine sx rfl (pAssign (v := (vI y199.2)) rfl rfl) ?_
   refine SeqW.done fun fr208 hf209 => ?_
   have h15 := (congrFun hf209 15).trans h15
   have h16 : fr208 16 = (vI y199.2) := (congrFun hf209 16).trans rfl
   have h21 : fr208 21 = V205 := (congrFun hf209 21).trans rfl
   clear hf209
   refine thenQ.n (W.seq ?_)
   obtain ⟨y222, hy222, hr⟩ := bind_some hr
   refine W.keep (u_l07_WheelMeasures_3 (Zx.refl _) st h15 Q93 h16 h21 Q206 hy222) ?_
   rintro ex228 fr223 m224 hk226 ⟨z225, hz227, st, rfl, h10, -⟩
   replace hz := hz.trans hz227
   clear hk226
   refine thenQ.n ?_
   refine W.ret ?_
   obtain rfl := Option.some.inj hr
   exact ⟨z225, hz, st, .inr rfl, h10, trivial⟩
 ·dsimp only at hr
  replace hz := hz.trans hz52
  clear hk51
  refine thenQ.r ?_
  obtain rfl := Option.some.inj hr
  exact ⟨z50, hz, st, .inr rfl, h10, trivial⟩

theorem c_l07_WheelMeasures {N : Nat} {z : Nat → Blk} {m : Mem} {x0 : List Int} {x1 : List Int} {x2 : List Int} {x3 : Int} {x4 : Int} {v0 : Value} {v1 : Value} {v2 : Value} (fz : Fz z m) (hd : ∀ b, m.next ≤ b → m.blk b = .dead) (s0 : SlR (TInt 3 .i64) z x0 v0) (s1 : SlR (TInt 3 .i64) z x1 v1) (s2 : SlR (TInt 3 .i64) z x2 v2) {r : Bool} (hr : l07_WheelMeasures N x0 x1 x2 x3 x4 = some r) : CallW Try.prog 9 #[v0, v1, v2, (vI x3), (vI x4)] m fun v m' => v = (vB r) ∧ m' = m := by
 refine CallW.flat Try.func9 rfl (by kernel_rfl) (Nat.le_of_ble_eq_true rfl) rfl (z := z) (fun fr hf => ?_)
 have h0 : fr 0 = _ := hf 0 _ rfl
 have h1 : fr 1 = _ := hf 1 _ rfl
 have h2 : fr 2 = _ := hf 2 _ rfl
 have h3 : fr 3 = _ := hf 3 _ rfl
 have h4 : fr 4 = _ := hf 4 _ rfl
 refine (u_l07_WheelMeasures (k := none) (Zx.refl _) (St.start fz hd) h0 s0 h1 s1 h2 s2 h3 h4 hr).mono ?_
 rintro ex fr' m' ⟨z', hz, st, he, h10, -⟩
 exact ⟨he, z', st, [(vB r)], ⟨h10.symm, trivial⟩, .inl rfl, rfl⟩

end Go.W
