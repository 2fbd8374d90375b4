/- The models are what the program computes. -/
import Derived.Test.YthlaohffhjlkbaaW1
set_option linter.unusedVariables false
set_option linter.unusedSimpArgs false
set_option maxRecDepth 100000
set_option maxHeartbeats 4000000
namespace Go.W
open Go.AM Go.Proofs


/-! ### (*humpyard/humpgen.Maker).Number -/

theorem u_Maker_Number {N : Nat}  {z0 z : Nat → Blk} {e m : Mem} {k : Option Nat} {fr : Nat → Value} {x0 : Maker} {x1 : Int} {v0_0 : Value} {b0 : Nat} (hz : Zx e.next z0 z) (st : St z e m k) (h0 : fr 0 = (vP b0)) (s0_0 : SlR (TInt 3 .i64) z x0.l v0_0) (bx0 : Bx z e m k b0 [v0_0, (vI x0.n)] 56) (h1 : fr 1 = (vI x1)) {r : List UInt8 × Maker} (hr : Maker_Number N x0 x1 = some r) : W Try.prog (sub (bodyOf Try.f31) []) (fun ex fr' m' => ∃ z', Zx e.next z0 z' ∧ St z' e m' k ∧ (ex = .normal ∨ ex = .ret) ∧ ∃ (wr_0 : Value), fr' 4 = (str r.1) ∧ SlR (TInt 3 .i64) z' r.2.l wr_0 ∧ Bx z' e m' k b0 [wr_0, (vI r.2.n)] 56 ∧ True) fr m := by
 unfold Maker_Number at hr
 refine W.seq (W.region ?_)
 refine sx rfl (pAssign (v := (str [])) rfl rfl) ?_
 refine SeqW.done fun fr1 hf2 => ?_
 have h0 := (congrFun hf2 0).trans h0
 have h1 := (congrFun hf2 1).trans h1
 clear hf2
 refine thenQ.n (W.seq (W.region ?_))
 refine sx rfl (pMove (v := (vP b0)) rfl h0) ?_
 obtain ⟨y3, hy3, hr⟩ := bind_some hr
 refine SeqW.consX rfl (StepX.call (gCallee rfl rfl (args2 rfl rfl)) ((c_Maker_Digits (x0 := x0) (z := z) st.fz st.dead s0_0 ⟨bx0.blk, bx0.lt, bx0.dead, .inr rfl⟩ hy3).mono ?_))
 rintro _ m8 ⟨z4, V9, hzx5, fz6, sm7, rfl, Q10, X12, -⟩
 replace s0_0 := s0_0.mono hzx5.le
 have bx0n : Bx z4 e m8 k b0 _ _ := ⟨X12.blk, X12.lt, X12.dead, bx0.fresh⟩
 replace hz := hz.trans (Zx.here st hzx5)
 replace st := st.call hzx5 fz6 sm7 bx0.hq
 obtain ⟨y13, hy13, hr⟩ := bind_some hr
 refine SeqW.consX rfl (kBytes (s := y3.1) rfl Try.underlying9 Try.underlying66 Try.underlying5 Try.type5 rfl rfl hy13 st ?_)
 intro V14 m15 st O16 sm17 hap18
 have A20 := hap18 _ bx0n.lt'
 replace bx0n := bx0n.same sm17 Ap.none'
 refine sx rfl (pAssign (v := V14) rfl rfl) ?_
 refine SeqW.done fun fr21 hf22 => ?_
 have h0 := (congrFun hf22 0).trans h0
 have h1 := (congrFun hf22 1).trans h1
 have h5 : fr21 5 = V14 := (congrFun hf22 5).trans rfl
 clear hf22
 refine thenQ.n (W.seq (W.region ?_))
 refine sx rfl (pMove (v := V14) rfl h5) ?_
 refine sx rfl (pMove (v := V14) rfl h5) ?_
 refine sx rfl (pMove (v := V14) rfl h5) ?_
 refine sx rfl (pMove (v := (vI x1)) rfl h1) ?_
 refine sx rfl (pQuo (k := .i64) (a := x1) (b := 100) rfl rfl rfl (by decide)) ?_
 refine sx rfl (pRem (k := .i64) (a := (IntKind.wrap .i64 (Int.tdiv x1 100))) (b := 10) rfl rfl rfl (by decide)) ?_
 refine sx rfl (pAdd (k := .i64) (a := 48) (b := (Int.tmod (IntKind.wrap .i64 (Int.tdiv x1 100)) 10)) rfl rfl rfl) ?_
 refine sx rfl (pConv (k := .i64) (a := (IntKind.wrap .i64 (48 + (Int.tmod (IntKind.wrap .i64 (Int.tdiv x1 100)) 10)))) rfl Try.underlying3 Try.underlying5 rfl) ?_
 refine sx rfl (pMove (v := (vI x1)) rfl h1) ?_
 refine sx rfl (pQuo (k := .i64) (a := x1) (b := 10) rfl rfl rfl (by decide)) ?_
 refine sx rfl (pRem (k := .i64) (a := (IntKind.wrap .i64 (Int.tdiv x1 10))) (b := 10) rfl rfl rfl (by decide)) ?_
 refine sx rfl (pAdd (k := .i64) (a := 48) (b := (Int.tmod (IntKind.wrap .i64 (Int.tdiv x1 10)) 10)) rfl rfl rfl) ?_
 refine sx rfl (pConv (k := .i64) (a := (IntKind.wrap .i64 (48 + (Int.tmod (IntKind.wrap .i64 (Int.tdiv x1 10)) 10)))) rfl Try.underlying3 Try.underlying5 rfl) ?_
 refine sx rfl (pMove (v := (vI x1)) rfl h1) ?_
 refine sx rfl (pRem (k := .i64) (a := x1) (b := 10) rfl rfl rfl (by decide)) ?_
 refine sx rfl (pAdd (k := .i64) (a := 48) (b := (Int.tmod x1 10)) rfl rfl rfl) ?_
 refine sx rfl (pConv (k := .i64) (a := (IntKind.wrap .i64 (48 + (Int.tmod x1 10)))) rfl Try.underlying3 Try.underlying5 rfl) ?_
 obtain ⟨y23, hy23, hr⟩ := bind_some hr
 refine SeqW.consX rfl (kIdxO (T := (TU8 5)) (xs := y13) (n := 8) rfl Try.underlying66 Try.type5 rfl rfl rfl O16 hy23 ?_)
 intro B24 l25 c26 cs27 hv28 hd29 hg30 hc31
 have hd290 := hd29
 obtain rfl := hd290
 obtain ⟨y34, hy34, hr⟩ := bind_some hr
 refine SeqW.consX rfl (kSet (T := (TU8 5)) (off := (8 : Int).toNat * ((TU8 5)).sz) (n := (8 : Int).toNat) (f := 0) (w := (Value.int .u8 (UInt8.toNat y34 : Int))) (new := [(Value.int .u8 (UInt8.toNat y34 : Int))]) (ecs := [(Value.int .u8 (UInt8.toNat y23 : Int))]) (ecs' := [(Value.int .u8 (UInt8.toNat y34 : Int))]) (a := y23) (a' := y34) rfl Try.type5 rfl rfl (by rw [← toU8_some hy34]; exact rfl) rfl rfl rfl O16 hv28 hg30 hd29 hc31 rfl rfl rfl st ?_)
 intro m32 st O16 sm33
 obtain ⟨y35, hy35, hr⟩ := lt_some hr
 rw [hy35] at O16
 replace bx0n := bx0n.same sm33 A20
 obtain ⟨y36, hy36, hr⟩ := bind_some hr
 refine SeqW.consX rfl (kIdxO (T := (TU8 5)) (xs := y35) (n := 9) rfl Try.underlying66 Try.type5 rfl rfl rfl O16 hy36 ?_)
 intro B37 l38 c39 cs40 hv41 hd42 hg43 hc44
 have hd420 := hd42
 obtain rfl := hd420
 obtain ⟨y47, hy47, hr⟩ := bind_some hr
 refine SeqW.consX rfl (kSet (T := (TU8 5)) (off := (9 : Int).toNat * ((TU8 5)).sz) (n := (9 : Int).toNat) (f := 0) (w := (Value.int .u8 (UInt8.toNat y47 : Int))) (new := [(Value.int .u8 (UInt8.toNat y47 : Int))]) (ecs := [(Value.int .u8 (UInt8.toNat y36 : Int))]) (ecs' := [(Value.int .u8 (UInt8.toNat y47 : Int))]) (a := y36) (a' := y47) rfl Try.type5 rfl rfl (by rw [← toU8_some hy47]; exact rfl) rfl rfl rfl O16 hv41 hg43 hd42 hc44 rfl rfl rfl st ?_)
 intro m45 st O16 sm46
 obtain ⟨y48, hy48, hr⟩ := lt_some hr
 rw [hy48] at O16
 replace bx0n := bx0n.same sm46 A20
 obtain ⟨y49, hy49, hr⟩ := bind_some hr
 refine SeqW.consX rfl (kIdxO (T := (TU8 5)) (xs := y48) (n := 10) rfl Try.underlying66 Try.type5 rfl rfl rfl O16 hy49 ?_)
 intro B50 l51 c52 cs53 hv54 hd55 hg56 hc57
 have hd550 := hd55
 obtain rfl := hd550
 obtain ⟨y60, hy60, hr⟩ := bind_some hr
 refine SeqW.consX rfl (kSet (T := (TU8 5)) (off := (10 : Int).toNat * ((TU8 5)).sz) (n := (10 : Int).toNat) (f := 0) (w := (Value.int .u8 (UInt8.toNat y60 : Int))) (new := [(Value.int .u8 (UInt8.toNat y60 : Int))]) (ecs := [(Value.int .u8 (UInt8.toNat y49 : Int))]) (ecs' := [(Value.int .u8 (UInt8.toNat y60 : Int))]) (a := y49) (a' := y60) rfl Try.type5 rfl rfl (by rw [← toU8_some hy60]; exact rfl) rfl rfl rfl O16 hv54 hg56 hd55 hc57 rfl rfl rfl st ?_)
 intro m58 st O16 sm59
 obtain ⟨y61, hy61, hr⟩ := lt_some hr
 rw [hy61] at O16
 replace bx0n := bx0n.same sm59 A20
 refine SeqW.done fun fr62 hf63 => ?_
 have h0 := (congrFun hf63 0).trans h0
 have h5 := (congrFun hf63 5).trans h5
 clear hf63
 refine thenQ.n (W.seq (W.region ?_))
 refine sx rfl (pMove (v := V14) rfl h5) ?_
 refine SeqW.consX rfl (kStrO (s := y61) rfl Try.underlying66 Try.underlying5 Try.underlying9 rfl O16 ?_)
 obtain ⟨y64, hy64, hr⟩ := bind_some hr
 refine SeqW.consX rfl (StepX.call (gCallee rfl rfl (args1 rfl)) ((c_r02_Digit (z := z4) st.fz st.dead  hy64).mono ?_))
 rintro _ _ ⟨rfl, rfl⟩
 refine sx rfl (pMove (v := (Value.tuple [(vI y64.1), (vI y64.2)].toArray)) rfl rfl) ?_
 refine sx rfl (pExtract (vs := [(vI y64.1), (vI y64.2)]) (v := (vI y64.1)) rfl rfl rfl) ?_
 refine sx rfl (pExtract (vs := [(vI y64.1), (vI y64.2)]) (v := (vI y64.2)) rfl rfl rfl) ?_
 refine sx rfl (pAssign (v := (vI y64.1)) rfl rfl) ?_
 refine sx rfl (pAssign (v := (vI y64.2)) rfl rfl) ?_
 refine SeqW.done fun fr65 hf66 => ?_
 have h0 := (congrFun hf66 0).trans h0
 have h5 := (congrFun hf66 5).trans h5
 have h6 : fr65 6 = (vI y64.1) := (congrFun hf66 6).trans rfl
 clear hf66
 refine thenQ.n (W.seq (W.region ?_))
 refine sx rfl (pMove (v := V14) rfl h5) ?_
 refine SeqW.consX rfl (kStrO (s := y61) rfl Try.underlying66 Try.underlying5 Try.underlying9 rfl O16 ?_)
 refine sx rfl (pMove (v := (vI y64.1)) rfl h6) ?_
 refine sx rfl (pAdd (k := .i64) (a := 48) (b := y64.1) rfl rfl rfl) ?_
 refine sx rfl (pConv (k := .i64) (a := (IntKind.wrap .i64 (48 + y64.1))) rfl Try.underlying3 Try.underlying5 rfl) ?_
 obtain ⟨y67, hy67, hr⟩ := bind_some hr
 refine SeqW.consX rfl (kBuild (T := (TU8 5)) rfl Try.underlying66 Try.type5 rfl rfl rfl rfl ([y67] : List UInt8) [[Value.int .u8 (UInt8.toNat y67 : Int)]] rfl rfl rfl (BuildOk.mk (w := (Value.int .u8 (UInt8.toNat y67 : Int))) (by rw [← toU8_some hy67]; exact rfl) rfl rfl rfl trivial) st ?_)
 intro V68 m69 st O70 sm71 hap72
 have A74 := hap72 _ bx0n.lt'
 replace bx0n := bx0n.same sm71 Ap.none'
 refine SeqW.consX rfl (kStrO (s := ([y67] : List UInt8)) rfl Try.underlying66 Try.underlying5 Try.underlying9 rfl O70 ?_)
 obtain ⟨y75, hy75, hr⟩ := bind_some hr
 refine SeqW.consX rfl (kAddS (s := y61) (r := ([y67] : List UInt8)) rfl rfl rfl hy75 ?_)
 refine sx rfl (pAssign (v := (str y75)) rfl rfl) ?_
 refine SeqW.done fun fr76 hf77 => ?_
 have h0 := (congrFun hf77 0).trans h0
 have h4 : fr76 4 = (str y75) := (congrFun hf77 4).trans rfl
 clear hf77
 refine thenQ.n ?_
 refine W.ret ?_
 obtain rfl := Option.some.inj hr
 exact ⟨z4, hz, st, .inr rfl, V9, h4, Q10, bx0n, trivial⟩

theorem c_Maker_Number {N : Nat} {z : Nat → Blk} {m : Mem} {x0 : Maker} {x1 : Int} {v0_0 : Value} {b0 : Nat} (fz : Fz z m) (hd : ∀ b, m.next ≤ b → m.blk b = .dead) (s0_0 : SlR (TInt 3 .i64) z x0.l v0_0) (bx0 : Bx z m m (some b0) b0 [v0_0, (vI x0.n)] 56) {r : List UInt8 × Maker} (hr : Maker_Number N x0 x1 = some r) : CallW Try.prog 31 #[(vP b0), (vI x1)] m fun v m' => ∃ z' wr_0, Zx m.next z z' ∧ Fz z' m' ∧ Same m m' (some b0) ∧ v = (str r.1) ∧ SlR (TInt 3 .i64) z' r.2.l wr_0 ∧ Bx z' m m' (some b0) b0 [wr_0, (vI r.2.n)] 56 ∧ True := by
 refine CallW.any Try.func31 rfl (by kernel_rfl) (Nat.le_of_ble_eq_true rfl) (fun fr hf => ?_)
 have h0 : fr 0 = _ := hf 0 _ rfl
 have h1 : fr 1 = _ := hf 1 _ rfl
 refine (u_Maker_Number (k := (some b0)) (Zx.refl _) (St.start fz hd) h0 s0_0 bx0 h1 hr).mono ?_
 rintro ex fr' m' ⟨z', hz, st, he, wr_0, h4, sr_0, bxr, -⟩
 exact ⟨he, [(str r.1)], ⟨h4.symm, trivial⟩, .inl rfl, z', wr_0, hz, st.fz, st.toSame, rfl, sr_0, bxr, trivial⟩

/-! ### (*humpyard/humpgen.Maker).Name -/

theorem u_Maker_Name {N : Nat}  {z0 z : Nat → Blk} {e m : Mem} {k : Option Nat} {fr : Nat → Value} {x0 : Maker} {v0_0 : Value} {b0 : Nat} (hz : Zx e.next z0 z) (st : St z e m k) (h0 : fr 0 = (vP b0)) (s0_0 : SlR (TInt 3 .i64) z x0.l v0_0) (bx0 : Bx z e m k b0 [v0_0, (vI x0.n)] 56) {r : List UInt8 × Maker} (hr : Maker_Name N x0 = some r) : W Try.prog (sub (bodyOf Try.f32) []) (fun ex fr' m' => ∃ z', Zx e.next z0 z' ∧ St z' e m' k ∧ (ex = .normal ∨ ex = .ret) ∧ ∃ (wr_0 : Value), fr' 2 = (str r.1) ∧ SlR (TInt 3 .i64) z' r.2.l wr_0 ∧ Bx z' e m' k b0 [wr_0, (vI r.2.n)] 56 ∧ True) fr m := by
 unfold Maker_Name at hr
 refine W.seq (W.region ?_)
 refine sx rfl (pAssign (v := (str [])) rfl rfl) ?_
 refine SeqW.done fun fr1 hf2 => ?_
 have h0 := (congrFun hf2 0).trans h0
 clear hf2
 refine thenQ.n (W.seq (W.region ?_))
 refine SeqW.consX rfl (kBuild (T := (TStr 9)) rfl Try.underlying62 Try.type9 rfl rfl rfl rfl ([[97], [98], [99], [100], [101], [110, 111, 114, 116, 104], [115, 111, 117, 116, 104], [112, 111, 114, 116, 49], [120, 57], [97, 98, 99, 100, 101, 102, 103, 104, 105, 106, 107, 108]] : List (List UInt8)) [[(str [97])], [(str [98])], [(str [99])], [(str [100])], [(str [101])], [(str [110, 111, 114, 116, 104])], [(str [115, 111, 117, 116, 104])], [(str [112, 111, 114, 116, 49])], [(str [120, 57])], [(str [97, 98, 99, 100, 101, 102, 103, 104, 105, 106, 107, 108])]] rfl rfl rfl (BuildOk.mk (w := (str [97])) rfl rfl rfl rfl (BuildOk.mk (w := (str [98])) rfl rfl rfl rfl (BuildOk.mk (w := (str [99])) rfl rfl rfl rfl (BuildOk.mk (w := (str [100])) rfl rfl rfl rfl (BuildOk.mk (w := (str [101])) rfl rfl rfl rfl (BuildOk.mk (w := (str [110, 111, 114, 116, 104])) rfl rfl rfl rfl (BuildOk.mk (w := (str [115, 111, 117, 116, 104])) rfl rfl rfl rfl (BuildOk.mk (w := (str [112, 111, 114, 116, 49])) rfl rfl rfl rfl (BuildOk.mk (w := (str [120, 57])) rfl rfl rfl rfl (BuildOk.mk (w := (str [97, 98, 99, 100, 101, 102, 103, 104, 105, 106, 107, 108])) rfl rfl rfl rfl trivial)))))))))) st ?_)
 intro V3 m4 st O5 sm6 hap7
 have A9 := hap7 _ bx0.lt'
 replace bx0 := bx0.same sm6 Ap.none'
 refine sx rfl (pMove (v := (vP b0)) rfl h0) ?_
 obtain ⟨y10, hy10, hr⟩ := bind_some hr
 refine SeqW.consX rfl (StepX.call (gCallee rfl rfl (args2 rfl rfl)) ((c_Maker_Next (x0 := x0) (z := z) st.fz st.dead s0_0 ⟨bx0.blk, bx0.lt, bx0.dead, .inr rfl⟩ hy10).mono ?_))
 rintro _ m15 ⟨z11, V16, hzx12, fz13, sm14, rfl, Q17, X19, -⟩
 replace s0_0 := s0_0.mono hzx12.le
 replace O5 := O5.call hzx12 sm14 (Ap.symm A9)
 have bx0n : Bx z11 e m15 k b0 _ _ := ⟨X19.blk, X19.lt, X19.dead, bx0.fresh⟩
 replace hz := hz.trans (Zx.here st hzx12)
 replace st := st.call hzx12 fz13 sm14 bx0.hq
 obtain ⟨y20, hy20, hr⟩ := bind_some hr
 refine SeqW.consX rfl (kIdxO (T := (TStr 9)) (xs := ([[97], [98], [99], [100], [101], [110, 111, 114, 116, 104], [115, 111, 117, 116, 104], [112, 111, 114, 116, 49], [120, 57], [97, 98, 99, 100, 101, 102, 103, 104, 105, 106, 107, 108]] : List (List UInt8))) (n := y10.1) rfl Try.underlying62 Try.type9 rfl rfl rfl O5 hy20 ?_)
 intro B21 l22 c23 cs24 hv25 hd26 hg27 hc28
 have hd260 := hd26
 obtain rfl := hd260
 refine SeqW.consX rfl (kLoad (v := (str y20)) rfl Try.underlying9 rfl rfl (hc28 0 _ rfl) ?_)
 refine sx rfl (pAssign (v := (str y20)) rfl rfl) ?_
 refine SeqW.done fun fr29 hf30 => ?_
 have h0 := (congrFun hf30 0).trans h0
 have h2 : fr29 2 = (str y20) := (congrFun hf30 2).trans rfl
 clear hf30
 refine thenQ.n ?_
 refine W.ret ?_
 obtain rfl := Option.some.inj hr
 exact ⟨z11, hz, st, .inr rfl, V16, h2, Q17, bx0n, trivial⟩

theorem c_Maker_Name {N : Nat} {z : Nat → Blk} {m : Mem} {x0 : Maker} {v0_0 : Value} {b0 : Nat} (fz : Fz z m) (hd : ∀ b, m.next ≤ b → m.blk b = .dead) (s0_0 : SlR (TInt 3 .i64) z x0.l v0_0) (bx0 : Bx z m m (some b0) b0 [v0_0, (vI x0.n)] 56) {r : List UInt8 × Maker} (hr : Maker_Name N x0 = some r) : CallW Try.prog 32 #[(vP b0)] m fun v m' => ∃ z' wr_0, Zx m.next z z' ∧ Fz z' m' ∧ Same m m' (some b0) ∧ v = (str r.1) ∧ SlR (TInt 3 .i64) z' r.2.l wr_0 ∧ Bx z' m m' (some b0) b0 [wr_0, (vI r.2.n)] 56 ∧ True := by
 refine CallW.any Try.func32 rfl (by kernel_rfl) (Nat.le_of_ble_eq_true rfl) (fun fr hf => ?_)
 have h0 : fr 0 = _ := hf 0 _ rfl
 refine (u_Maker_Name (k := (some b0)) (Zx.refl _) (St.start fz hd) h0 s0_0 bx0 hr).mono ?_
 rintro ex fr' m' ⟨z', hz, st, he, wr_0, h2, sr_0, bxr, -⟩
 exact ⟨he, [(str r.1)], ⟨h2.symm, trivial⟩, .inl rfl, z', wr_0, hz, st.fz, st.toSame, rfl, sr_0, bxr, trivial⟩

/-! ### (*humpyard/humpgen.Maker).Wagon -/

theorem u_Maker_Wagon_1 {N : Nat}  {z0 z : Nat → Blk} {e m : Mem} {k : Option Nat} {fr : Nat → Value} {x26 : Int} {x27 : Bool} {x0 : Maker} {v0_0 : Value} {b0 : Nat} {x4 : Wagon} {b4 : Nat} {x5 : Wagon} {b5 : Nat} (hz : Zx e.next z0 z) (st : St z e m k) (h0 : fr 0 = (vP b0)) (s0_0 : SlR (TInt 3 .i64) z x0.l v0_0) (bx0 : Bx z e m k b0 [v0_0, (vI x0.n)] 56) (h4 : fr 4 = (vP b4)) (bx4 : Bx z e m k b4 [(str x4.number), (vI x4.length), (vI x4.axles), (vI x4.mass), (vI x4.brake), (vI x4.goods), (vB x4.gentle), (str x4.dest)] 30) (h5 : fr 5 = (vP b5)) (bx5 : Bx z e m k b5 [(str x5.number), (vI x5.length), (vI x5.axles), (vI x5.mass), (vI x5.brake), (vI x5.goods), (vB x5.gentle), (str x5.dest)] 30) (h26 : fr 26 = (Value.int .u8 x26)) (h27 : fr 27 = (vB x27)) (ao0_o4 : Ap (some b0) (some b4)) (ao0_o5 : Ap (some b0) (some b5)) (ao4_o5 : Ap (some b4) (some b5)) {r : Bool} (hr : Maker_Wagon_1 N x26 x27 = some r) : W Try.prog (sub (bodyOf Try.f13) [1, 1, 0, 1, 0, 0, 1]) (fun ex fr' m' => ∃ z', Zx e.next z0 z' ∧ St z' e m' k ∧ ex = AExit.normal ∧ fr' 27 = (vB r) ∧ Bx z' e m' k b0 [v0_0, (vI x0.n)] 56 ∧ Bx z' e m' k b4 [(str x4.number), (vI x4.length), (vI x4.axles), (vI x4.mass), (vI x4.brake), (vI x4.goods), (vB x4.gentle), (str x4.dest)] 30 ∧ Bx z' e m' k b5 [(str x5.number), (vI x5.length), (vI x5.axles), (vI x5.mass), (vI x5.brake), (vI x5.goods), (vB x5.gentle), (str x5.dest)] 30 ∧ Ap (some b0) (some b4) ∧ Ap (some b0) (some b5) ∧ Ap (some b4) (some b5) ∧ True) fr m := by
 unfold Maker_Wagon_1 at hr
 rcases if_some hr with ⟨hc124, hr⟩ | ⟨hc125, hr⟩
 ·refine W.condT h27 hc124 (W.skip ?_)
  obtain rfl := Option.some.inj hr
  exact ⟨z, hz, st, rfl, h27, bx0, bx4, bx5, ao0_o4, ao0_o5, ao4_o5, trivial⟩
 ·refine W.condF h27 hc125 (W.region ?_)
  refine sx rfl (pEql (k := .u8) (a := x26) (b := 52) rfl h26 rfl) ?_
  obtain ⟨y126, hy126, hr⟩ := lt_some hr
  refine sx rfl (pAssign rfl (congrArg vB hy126)) ?_
  refine SeqW.done fun fr127 hf128 => ?_
  have h0 := (congrFun hf128 0).trans h0
  have h4 := (congrFun hf128 4).trans h4
  have h5 := (congrFun hf128 5).trans h5
  have h26 := (congrFun hf128 26).trans h26
  have h27 : fr127 27 = (vB y126) := (congrFun hf128 27).trans rfl
  clear hf128
  obtain rfl := Option.some.inj hr
  exact ⟨z, hz, st, rfl, h27, bx0, bx4, bx5, ao0_o4, ao0_o5, ao4_o5, trivial⟩

theorem u_Maker_Wagon_0 {N : Nat}  {z0 z : Nat → Blk} {e m : Mem} {k : Option Nat} {fr : Nat → Value} {x5 : Wagon} {x26 : Int} {x0 : Maker} {v0_0 : Value} {b0 : Nat} {x4 : Wagon} {b4 : Nat} {b5 : Nat} (hz : Zx e.next z0 z) (st : St z e m k) (h0 : fr 0 = (vP b0)) (s0_0 : SlR (TInt 3 .i64) z x0.l v0_0) (bx0 : Bx z e m k b0 [v0_0, (vI x0.n)] 56) (h4 : fr 4 = (vP b4)) (bx4 : Bx z e m k b4 [(str x4.number), (vI x4.length), (vI x4.axles), (vI x4.mass), (vI x4.brake), (vI x4.goods), (vB x4.gentle), (str x4.dest)] 30) (h5 : fr 5 = (vP b5)) (bx5 : Bx z e m k b5 [(str x5.number), (vI x5.length), (vI x5.axles), (vI x5.mass), (vI x5.brake), (vI x5.goods), (vB x5.gentle), (str x5.dest)] 30) (h26 : fr 26 = (Value.int .u8 x26)) (ao0_o4 : Ap (some b0) (some b4)) (ao0_o5 : Ap (some b0) (some b5)) (ao4_o5 : Ap (some b4) (some b5)) {r : Wagon} (hr : Maker_Wagon_0 N x5 x26 = some r) : W Try.prog (sub (bodyOf Try.f13) [1, 1, 0, 1]) (fun ex fr' m' => ∃ z', Zx e.next z0 z' ∧ St z' e m' k ∧ ex = AExit.normal ∧ fr' 5 = (vP b5) ∧ Bx z' e m' k b5 [(str r.number), (vI r.length), (vI r.axles), (vI r.mass), (vI r.brake), (vI r.goods), (vB r.gentle), (str r.dest)] 30 ∧ Bx z' e m' k b0 [v0_0, (vI x0.n)] 56 ∧ Bx z' e m' k b4 [(str x4.number), (vI x4.length), (vI x4.axles), (vI x4.mass), (vI x4.brake), (vI x4.goods), (vB x4.gentle), (str x4.dest)] 30 ∧ Ap (some b5) (some b0) ∧ Ap (some b5) (some b4) ∧ Ap (some b0) (some b4) ∧ True) fr m := by
 unfold Maker_Wagon_0 at hr
 refine W.block ?_
 refine W.seq (W.seq (W.region ?_))
 refine sx rfl (pEql (k := .u8) (a := x26) (b := 50) rfl h26 rfl) ?_
 obtain ⟨y121, hy121, hr⟩ := lt_some hr
 refine sx rfl (pAssign rfl (congrArg vB hy121)) ?_
 refine SeqW.done fun fr122 hf123 => ?_
 have h0 := (congrFun hf123 0).trans h0
 have h4 := (congrFun hf123 4).trans h4
 have h5 := (congrFun hf123 5).trans h5
 have h26 := (congrFun hf123 26).trans h26
 have h27 : fr122 27 = (vB y121) := (congrFun hf123 27).trans rfl
 clear hf123
 refine thenQ.n ?_
 obtain ⟨y129, hy129, hr⟩ := bind_some hr
 refine W.keep (u_Maker_Wagon_1 (x0 := x0) (x4 := x4) (x5 := x5) (Zx.refl _) st h0 s0_0 bx0 h4 bx4 h5 bx5 h26 h27 ao0_o4 ao0_o5 ao4_o5 hy129) ?_
 rintro ex135 fr130 m131 hk133 ⟨z132, hz134, st, rfl, h27, O136, O137, O138, A139, A140, A141, -⟩
 replace s0_0 := s0_0.mono hz134.le
 have h0 := (hk133 0 rfl).trans h0
 have h4 := (hk133 4 rfl).trans h4
 have h5 := (hk133 5 rfl).trans h5
 have h26 := (hk133 26 rfl).trans h26
 replace hz := hz.trans hz134
 clear hk133
 refine thenQ.n ?_
 rcases if_some hr with ⟨hc142, hr⟩ | ⟨hc147, hr⟩
 ·refine W.condT h27 hc142 (W.region ?_)
  refine SeqW.consX rfl (kField rfl Try.underlying30 rfl Try.type3 rfl h5 rfl ?_)
  refine SeqW.consX rfl (kPut (off := 2) (w := (vI 2)) (new := [(vI 2)]) rfl Try.type3 rfl rfl rfl rfl rfl O138 rfl [(str x5.number), (vI x5.length), (vI 2), (vI x5.mass), (vI x5.brake), (vI x5.goods), (vB x5.gentle), (str x5.dest)] rfl st ?_)
  intro m143 st O138 sm144
  replace O136 := O136.same sm144 A140
  replace O137 := O137.same sm144 A141
  refine SeqW.done fun fr145 hf146 => ?_
  have h0 := (congrFun hf146 0).trans h0
  have h4 := (congrFun hf146 4).trans h4
  have h5 := (congrFun hf146 5).trans h5
  clear hf146
  refine blockQ.n ?_
  obtain rfl := Option.some.inj hr
  exact ⟨z132, hz, st, rfl, h5, O138, O136, O137, (Ap.symm A140), (Ap.symm A141), A139, trivial⟩
 ·refine W.condF h27 hc147 (W.seq (W.region ?_))
  refine sx rfl (pEql (k := .u8) (a := x26) (b := 57) rfl h26 rfl) ?_
  obtain ⟨y148, hy148, hr⟩ := lt_some hr
  refine sx rfl (pAssign rfl (congrArg vB hy148)) ?_
  refine SeqW.done fun fr149 hf150 => ?_
  have h0 := (congrFun hf150 0).trans h0
  have h4 := (congrFun hf150 4).trans h4
  have h5 := (congrFun hf150 5).trans h5
  have h31 : fr149 31 = (vB y148) := (congrFun hf150 31).trans rfl
  clear hf150
  refine thenQ.n ?_
  rcases if_some hr with ⟨hc151, hr⟩ | ⟨hc160, hr⟩
  ·refine W.condT h31 hc151 (W.seq (W.region ?_))
   refine SeqW.consX rfl (kField rfl Try.underlying30 rfl Try.type3 rfl h5 rfl ?_)
   refine SeqW.consX rfl (kPut (off := 2) (w := (vI 6)) (new := [(vI 6)]) rfl Try.type3 rfl rfl rfl rfl rfl O138 rfl [(str x5.number), (vI x5.length), (vI 6), (vI x5.mass), (vI x5.brake), (vI x5.goods), (vB x5.gentle), (str x5.dest)] rfl st ?_)
   intro m152 st O138 sm153
   replace O136 := O136.same sm153 A140
   replace O137 := O137.same sm153 A141
   refine SeqW.done fun fr154 hf155 => ?_
   have h0 := (congrFun hf155 0).trans h0
   have h4 := (congrFun hf155 4).trans h4
   have h5 := (congrFun hf155 5).trans h5
   clear hf155
   refine thenQ.n (W.region ?_)
   refine SeqW.consX rfl (kField rfl Try.underlying30 rfl Try.type3 rfl h5 rfl ?_)
   refine SeqW.consX rfl (kLoad rfl Try.underlying3 rfl rfl (O138.load (v := (vI x5.length)) rfl) ?_)
   refine sx rfl (pMax2 (k := .i64) (a := x5.length) (b := 120) rfl rfl rfl) ?_
   refine SeqW.consX rfl (kField rfl Try.underlying30 rfl Try.type3 rfl h5 rfl ?_)
   refine SeqW.consX rfl (kPut (off := 1) (w := (vI (max x5.length 120))) (new := [(vI (max x5.length 120))]) rfl Try.type3 rfl rfl rfl rfl rfl O138 rfl [(str x5.number), (vI (max x5.length 120)), (vI 6), (vI x5.mass), (vI x5.brake), (vI x5.goods), (vB x5.gentle), (str x5.dest)] rfl st ?_)
   intro m156 st O138 sm157
   replace O136 := O136.same sm157 A140
   replace O137 := O137.same sm157 A141
   refine SeqW.done fun fr158 hf159 => ?_
   have h0 := (congrFun hf159 0).trans h0
   have h4 := (congrFun hf159 4).trans h4
   have h5 := (congrFun hf159 5).trans h5
   clear hf159
   refine blockQ.n ?_
   obtain rfl := Option.some.inj hr
   exact ⟨z132, hz, st, rfl, h5, O138, O136, O137, (Ap.symm A140), (Ap.symm A141), A139, trivial⟩
  ·refine W.condF h31 hc160 (W.skip ?_)
   refine blockQ.n ?_
   obtain rfl := Option.some.inj hr
   exact ⟨z132, hz, st, rfl, h5, O138, O136, O137, (Ap.symm A140), (Ap.symm A141), A139, trivial⟩

theorem u_Maker_Wagon {N : Nat}  {z0 z : Nat → Blk} {e m : Mem} {k : Option Nat} {fr : Nat → Value} {x0 : Maker} {x1 : Int} {v0_0 : Value} {b0 : Nat} (hz : Zx e.next z0 z) (st : St z e m k) (h0 : fr 0 = (vP b0)) (s0_0 : SlR (TInt 3 .i64) z x0.l v0_0) (bx0 : Bx z e m k b0 [v0_0, (vI x0.n)] 56) (h1 : fr 1 = (vI x1)) {r : Wagon × Maker} (hr : Maker_Wagon N x0 x1 = some r) : W Try.prog (sub (bodyOf Try.f13) []) (fun ex fr' m' => ∃ z', Zx e.next z0 z' ∧ St z' e m' k ∧ (ex = .normal ∨ ex = .ret) ∧ ∃ (c4 : Nat) (wr_0 : Value), fr' 4 = (vP c4) ∧ Bx z' e m' k c4 [(str r.1.number), (vI r.1.length), (vI r.1.axles), (vI r.1.mass), (vI r.1.brake), (vI r.1.goods), (vB r.1.gentle), (str r.1.dest)] 30 ∧ (e.next ≤ c4 ∨ k = some c4) ∧ SlR (TInt 3 .i64) z' r.2.l wr_0 ∧ Bx z' e m' k b0 [wr_0, (vI r.2.n)] 56 ∧ True) fr m := by
 unfold Maker_Wagon at hr
 refine W.seq (W.region ?_)
 refine SeqW.consX rfl (kAlloc rfl Try.type30 rfl rfl rfl [(str []), (vI 0), (vI 0), (vI 0), (vI 0), (vI 0), (vB false), (str [])] rfl st ?_)
 intro B1 m2 st X3 sm4 hap5
 have A7 := hap5 _ bx0.lt'
 replace bx0 := bx0.same sm4 Ap.none'
 refine SeqW.done fun fr8 hf9 => ?_
 have h0 := (congrFun hf9 0).trans h0
 have h1 := (congrFun hf9 1).trans h1
 have h4 : fr8 4 = (vP B1) := (congrFun hf9 4).trans rfl
 clear hf9
 refine thenQ.n (W.seq (W.region ?_))
 refine sx rfl (pMove (v := (vP b0)) rfl h0) ?_
 refine sx rfl (pMove (v := (vI x1)) rfl h1) ?_
 obtain ⟨y10, hy10, hr⟩ := bind_some hr
 refine SeqW.consX rfl (StepX.call (gCallee rfl rfl (args2 rfl rfl)) ((c_Maker_Number (x0 := x0) (z := z) st.fz st.dead s0_0 ⟨bx0.blk, bx0.lt, bx0.dead, .inr rfl⟩ hy10).mono ?_))
 rintro _ m15 ⟨z11, V16, hzx12, fz13, sm14, rfl, Q17, X19, -⟩
 replace s0_0 := s0_0.mono hzx12.le
 replace X3 := X3.call hzx12 sm14 (Ap.symm A7)
 have bx0n : Bx z11 e m15 k b0 _ _ := ⟨X19.blk, X19.lt, X19.dead, bx0.fresh⟩
 replace hz := hz.trans (Zx.here st hzx12)
 replace st := st.call hzx12 fz13 sm14 bx0.hq
 refine sx rfl (pMove (v := (vP b0)) rfl h0) ?_
 refine SeqW.consX rfl (kBuild (T := (TInt 3 .i64)) rfl Try.underlying22 Try.type3 rfl rfl rfl rfl ([80, 120, 142, 199, 262, 400] : List Int) [[(vI 80)], [(vI 120)], [(vI 142)], [(vI 199)], [(vI 262)], [(vI 400)]] rfl rfl rfl (BuildOk.mk (w := (vI 80)) rfl rfl rfl rfl (BuildOk.mk (w := (vI 120)) rfl rfl rfl rfl (BuildOk.mk (w := (vI 142)) rfl rfl rfl rfl (BuildOk.mk (w := (vI 199)) rfl rfl rfl rfl (BuildOk.mk (w := (vI 262)) rfl rfl rfl rfl (BuildOk.mk (w := (vI 400)) rfl rfl rfl rfl trivial)))))) st ?_)
 intro V20 m21 st O22 sm23 hap24
 have A26 := hap24 _ bx0n.lt'
 have A27 := hap24 _ X3.lt'
 replace bx0n := bx0n.same sm23 Ap.none'
 replace X3 := X3.same sm23 Ap.none'
 obtain ⟨z28, hz29, st, Q30, hl31⟩ := O22.freeze st
 replace bx0n := bx0n.zle (hl31 _ A26)
 replace X3 := X3.zle (hl31 _ A27)
 replace Q17 := Q17.mono hz29.le
 replace hz := hz.trans hz29
 obtain ⟨y32, hy32, hr⟩ := bind_some hr
 refine SeqW.consX rfl (StepX.call (gCallee rfl rfl (args2 rfl rfl)) ((c_Maker_Pick (x0 := y10.2) (z := z28) st.fz st.dead Q17 ⟨bx0n.blk, bx0n.lt, bx0n.dead, .inr rfl⟩ Q30 hy32).mono ?_))
 rintro _ m37 ⟨z33, V38, hzx34, fz35, sm36, rfl, Q39, X41, -⟩
 replace X3 := X3.call hzx34 sm36 (Ap.symm A7)
 replace Q17 := Q17.mono hzx34.le
 replace Q30 := Q30.mono hzx34.le
 have bx0nn : Bx z33 e m37 k b0 _ _ := ⟨X41.blk, X41.lt, X41.dead, bx0n.fresh⟩
 replace hz := hz.trans (Zx.here st hzx34)
 replace st := st.call hzx34 fz35 sm36 bx0n.hq
 refine sx rfl (pMove (v := (vP b0)) rfl h0) ?_
 refine SeqW.consX rfl (kBuild (T := (TInt 3 .i64)) rfl Try.underlying22 Try.type3 rfl rfl rfl rfl ([50, 120, 400, 800, 2000] : List Int) [[(vI 50)], [(vI 120)], [(vI 400)], [(vI 800)], [(vI 2000)]] rfl rfl rfl (BuildOk.mk (w := (vI 50)) rfl rfl rfl rfl (BuildOk.mk (w := (vI 120)) rfl rfl rfl rfl (BuildOk.mk (w := (vI 400)) rfl rfl rfl rfl (BuildOk.mk (w := (vI 800)) rfl rfl rfl rfl (BuildOk.mk (w := (vI 2000)) rfl rfl rfl rfl trivial))))) st ?_)
 intro V42 m43 st O44 sm45 hap46
 have A48 := hap46 _ bx0nn.lt'
 have A49 := hap46 _ X3.lt'
 replace bx0nn := bx0nn.same sm45 Ap.none'
 replace X3 := X3.same sm45 Ap.none'
 obtain ⟨z50, hz51, st, Q52, hl53⟩ := O44.freeze st
 replace bx0nn := bx0nn.zle (hl53 _ A48)
 replace X3 := X3.zle (hl53 _ A49)
 replace Q39 := Q39.mono hz51.le
 replace hz := hz.trans hz51
 obtain ⟨y54, hy54, hr⟩ := bind_some hr
 refine SeqW.consX rfl (StepX.call (gCallee rfl rfl (args2 rfl rfl)) ((c_Maker_Pick (x0 := y32.2) (z := z50) st.fz st.dead Q39 ⟨bx0nn.blk, bx0nn.lt, bx0nn.dead, .inr rfl⟩ Q52 hy54).mono ?_))
 rintro _ m59 ⟨z55, V60, hzx56, fz57, sm58, rfl, Q61, X63, -⟩
 replace X3 := X3.call hzx56 sm58 (Ap.symm A7)
 replace Q39 := Q39.mono hzx56.le
 replace Q52 := Q52.mono hzx56.le
 have bx0nnn : Bx z55 e m59 k b0 _ _ := ⟨X63.blk, X63.lt, X63.dead, bx0nn.fresh⟩
 replace hz := hz.trans (Zx.here st hzx56)
 replace st := st.call hzx56 fz57 sm58 bx0nn.hq
 refine sx rfl (pMove (v := (vP b0)) rfl h0) ?_
 refine SeqW.consX rfl (kBuild (T := (TInt 3 .i64)) rfl Try.underlying22 Try.type3 rfl rfl rfl rfl ([0, 0, 0, 1, 3, 9] : List Int) [[(vI 0)], [(vI 0)], [(vI 0)], [(vI 1)], [(vI 3)], [(vI 9)]] rfl rfl rfl (BuildOk.mk (w := (vI 0)) rfl rfl rfl rfl (BuildOk.mk (w := (vI 0)) rfl rfl rfl rfl (BuildOk.mk (w := (vI 0)) rfl rfl rfl rfl (BuildOk.mk (w := (vI 1)) rfl rfl rfl rfl (BuildOk.mk (w := (vI 3)) rfl rfl rfl rfl (BuildOk.mk (w := (vI 9)) rfl rfl rfl rfl trivial)))))) st ?_)
 intro V64 m65 st O66 sm67 hap68
 have A70 := hap68 _ bx0nnn.lt'
 have A71 := hap68 _ X3.lt'
 replace bx0nnn := bx0nnn.same sm67 Ap.none'
 replace X3 := X3.same sm67 Ap.none'
 obtain ⟨z72, hz73, st, Q74, hl75⟩ := O66.freeze st
 replace bx0nnn := bx0nnn.zle (hl75 _ A70)
 replace X3 := X3.zle (hl75 _ A71)
 replace Q61 := Q61.mono hz73.le
 replace hz := hz.trans hz73
 obtain ⟨y76, hy76, hr⟩ := bind_some hr
 refine SeqW.consX rfl (StepX.call (gCallee rfl rfl (args2 rfl rfl)) ((c_Maker_Pick (x0 := y54.2) (z := z72) st.fz st.dead Q61 ⟨bx0nnn.blk, bx0nnn.lt, bx0nnn.dead, .inr rfl⟩ Q74 hy76).mono ?_))
 rintro _ m81 ⟨z77, V82, hzx78, fz79, sm80, rfl, Q83, X85, -⟩
 replace X3 := X3.call hzx78 sm80 (Ap.symm A7)
 replace Q61 := Q61.mono hzx78.le
 replace Q74 := Q74.mono hzx78.le
 have bx0nnnn : Bx z77 e m81 k b0 _ _ := ⟨X85.blk, X85.lt, X85.dead, bx0nnn.fresh⟩
 replace hz := hz.trans (Zx.here st hzx78)
 replace st := st.call hzx78 fz79 sm80 bx0nnn.hq
 refine sx rfl (pMove (v := (vP b0)) rfl h0) ?_
 obtain ⟨y86, hy86, hr⟩ := bind_some hr
 refine SeqW.consX rfl (StepX.call (gCallee rfl rfl (args2 rfl rfl)) ((c_Maker_Next (x0 := y76.2) (z := z77) st.fz st.dead Q83 ⟨bx0nnnn.blk, bx0nnnn.lt, bx0nnnn.dead, .inr rfl⟩ hy86).mono ?_))
 rintro _ m91 ⟨z87, V92, hzx88, fz89, sm90, rfl, Q93, X95, -⟩
 replace X3 := X3.call hzx88 sm90 (Ap.symm A7)
 replace Q83 := Q83.mono hzx88.le
 have bx0nnnnn : Bx z87 e m91 k b0 _ _ := ⟨X95.blk, X95.lt, X95.dead, bx0nnnn.fresh⟩
 replace hz := hz.trans (Zx.here st hzx88)
 replace st := st.call hzx88 fz89 sm90 bx0nnnn.hq
 refine sx rfl (pEql (k := .i64) (a := y86.1) (b := 0) rfl rfl rfl) ?_
 refine sx rfl (pMove (v := (vP b0)) rfl h0) ?_
 obtain ⟨y96, hy96, hr⟩ := bind_some hr
 refine SeqW.consX rfl (StepX.call (gCallee rfl rfl (args1 rfl)) ((c_Maker_Name (x0 := y86.2) (z := z87) st.fz st.dead Q93 ⟨bx0nnnnn.blk, bx0nnnnn.lt, bx0nnnnn.dead, .inr rfl⟩ hy96).mono ?_))
 rintro _ m101 ⟨z97, V102, hzx98, fz99, sm100, rfl, Q103, X105, -⟩
 replace X3 := X3.call hzx98 sm100 (Ap.symm A7)
 replace Q93 := Q93.mono hzx98.le
 have bx0nnnnnn : Bx z97 e m101 k b0 _ _ := ⟨X105.blk, X105.lt, X105.dead, bx0nnnnn.fresh⟩
 replace hz := hz.trans (Zx.here st hzx98)
 replace st := st.call hzx98 fz99 sm100 bx0nnnnn.hq
 refine SeqW.consX rfl (kBuildS [(0, (str y10.1)), (2, (vI 4)), (1, (vI y32.1)), (3, (vI y54.1)), (5, (vI y76.1)), (6, (vB (y86.1 == 0))), (7, (str y96.1))] [(str y10.1), (vI y32.1), (vI 4), (vI y54.1), (vI 0), (vI y76.1), (vB (y86.1 == 0)), (str y96.1)] rfl Try.underlying30 Try.type30 rfl rfl (places30 Try.underlying30) rfl (rfl) rfl ?_)
 refine SeqW.consX rfl (kAlloc rfl Try.type30 rfl rfl rfl [(str []), (vI 0), (vI 0), (vI 0), (vI 0), (vI 0), (vB false), (str [])] rfl st ?_)
 intro B106 m107 st X108 sm109 hap110
 have A112 := hap110 _ bx0nnnnnn.lt'
 have A113 := hap110 _ X3.lt'
 replace bx0nnnnnn := bx0nnnnnn.same sm109 Ap.none'
 replace X3 := X3.same sm109 Ap.none'
 refine SeqW.consX rfl (kPut (off := 0) (w := (Value.agg [(str y10.1), (vI y32.1), (vI 4), (vI y54.1), (vI 0), (vI y76.1), (vB (y86.1 == 0)), (str y96.1)].toArray)) (new := [(str y10.1), (vI y32.1), (vI 4), (vI y54.1), (vI 0), (vI y76.1), (vB (y86.1 == 0)), (str y96.1)]) rfl Try.type30 rfl rfl rfl rfl rfl X108 rfl [(str y10.1), (vI y32.1), (vI 4), (vI y54.1), (vI 0), (vI y76.1), (vB (y86.1 == 0)), (str y96.1)] rfl st ?_)
 intro m114 st X108 sm115
 replace bx0nnnnnn := bx0nnnnnn.same sm115 A112
 replace X3 := X3.same sm115 A113
 refine SeqW.done fun fr116 hf117 => ?_
 have h0 := (congrFun hf117 0).trans h0
 have h4 := (congrFun hf117 4).trans h4
 have h5 : fr116 5 = (vP B106) := (congrFun hf117 5).trans rfl
 clear hf117
 refine thenQ.n (W.seq ?_)
 refine W.seq (W.region ?_)
 refine SeqW.consX rfl (kField rfl Try.underlying30 rfl Try.type9 rfl h5 rfl ?_)
 refine SeqW.consX rfl (kLoad rfl Try.underlying9 rfl rfl (X108.load (v := (str y10.1)) rfl) ?_)
 obtain ⟨y118, hy118, hr⟩ := bind_some hr
 refine SeqW.consX rfl (kIndexS (s := y10.1) (n := 4) rfl Try.underlying9 rfl rfl hy118 ?_)
 refine SeqW.done fun fr119 hf120 => ?_
 have h0 := (congrFun hf120 0).trans h0
 have h4 := (congrFun hf120 4).trans h4
 have h5 := (congrFun hf120 5).trans h5
 have h26 : fr119 26 = (Value.int .u8 (UInt8.toNat y118 : Int)) := (congrFun hf120 26).trans rfl
 clear hf120
 refine thenQ.n ?_
 obtain ⟨y161, hy161, hr⟩ := bind_some hr
 refine W.keep (u_Maker_Wagon_0 (x0 := y96.2) (x4 := (Wagon.mk [] 0 0 0 0 0 false [])) (x5 := (Wagon.mk y10.1 y32.1 4 y54.1 0 y76.1 (y86.1 == 0) y96.1)) (Zx.refl _) st h0 Q103 bx0nnnnnn h4 X3 h5 X108 h26 A7 A112 A113 hy161) ?_
 rintro ex167 fr162 m163 hk165 ⟨z164, hz166, st, rfl, h5, X169, O170, O171, A172, A173, A174, -⟩
 replace Q103 := Q103.mono hz166.le
 have h0 := (hk165 0 rfl).trans h0
 have h4 := (hk165 4 rfl).trans h4
 replace hz := hz.trans hz166
 clear hk165
 refine thenQ.n (W.seq ?_)
 refine W.draw ?_
 refine DrawW.cons rfl (kField rfl Try.underlying30 rfl Try.type3 rfl h5 rfl ?_)
 refine ⟨trivial, ?_⟩
 refine DrawW.cons rfl (kLoad rfl Try.underlying3 rfl rfl (X169.load (v := (vI y161.mass)) rfl) ?_)
 refine ⟨?_, ?_⟩
 ·exact demN
 refine DrawW.cons rfl (StepX.pure (pMove (v := (vP b0)) rfl h0) ?_)
 refine ⟨trivial, ?_⟩
 have sto175 := st
 have old176 := O170
 have old177 := O171
 have old178 := X169
 obtain ⟨y179, hy179, hr⟩ := bind_some hr
 refine DrawW.cons rfl (StepX.call (gCallee rfl rfl (args2 rfl rfl)) ((c_Maker_Next (x0 := y96.2) (z := z164) st.fz st.dead Q103 ⟨O170.blk, O170.lt, O170.dead, .inr rfl⟩ hy179).mono ?_))
 rintro _ m184 ⟨z180, V185, hzx181, fz182, sm183, rfl, Q186, X188, -⟩
 have sr189 := Q103
 replace O171 := O171.call hzx181 sm183 (Ap.symm A174)
 replace Q103 := Q103.mono hzx181.le
 replace X169 := X169.call hzx181 sm183 A172
 have O170n : Bx z180 e m184 k b0 _ _ := ⟨X188.blk, X188.lt, X188.dead, O170.fresh⟩
 replace hz := hz.trans (Zx.here st hzx181)
 replace st := st.call hzx181 fz182 sm183 O170.hq
 refine ⟨⟨?_, ?_⟩, ?_⟩
 ·first | refine demP (gLoad rfl Try.underlying3 rfl rfl (X169.load (v := (vI y161.mass)) rfl)) ?_ | refine demA (by decide) ?_
  exact demN
 ·exact demN
 refine DrawW.cons rfl (StepX.pure (pMul (k := .i64) (a := y161.mass) (b := y179.1) rfl rfl rfl) ?_)
 refine ⟨trivial, ?_⟩
 refine DrawW.cons rfl (StepX.pure (pQuo (k := .i64) (a := (IntKind.wrap .i64 (y161.mass * y179.1))) (b := 4) rfl rfl rfl (by decide)) ?_)
 refine ⟨trivial, ?_⟩
 refine DrawW.cons rfl (kField rfl Try.underlying30 rfl Try.type3 rfl h5 rfl ?_)
 refine ⟨trivial, ?_⟩
 have sto190 := st
 have old191 := O170n
 have old192 := O171
 have old193 := X169
 refine DrawW.cons rfl (kPut (off := 4) (w := (vI (IntKind.wrap .i64 (Int.tdiv (IntKind.wrap .i64 (y161.mass * y179.1)) 4)))) (new := [(vI (IntKind.wrap .i64 (Int.tdiv (IntKind.wrap .i64 (y161.mass * y179.1)) 4)))]) rfl Try.type3 rfl rfl rfl rfl rfl X169 rfl [(str y161.number), (vI y161.length), (vI y161.axles), (vI y161.mass), (vI (IntKind.wrap .i64 (Int.tdiv (IntKind.wrap .i64 (y161.mass * y179.1)) 4))), (vI y161.goods), (vB y161.gentle), (str y161.dest)] rfl st ?_)
 intro m194 st X169 sm195
 replace O170n := O170n.same sm195 (Ap.symm A172)
 replace O171 := O171.same sm195 (Ap.symm A173)
 refine ⟨⟨?_, ?_⟩, ?_⟩
 ·first | refine demP (gLoad rfl Try.underlying3 rfl rfl (X169.load (v := (vI y161.mass)) rfl)) ?_ | refine demA (by decide) ?_
  exact demN
 ·exact demN
 refine DrawW.done fun fr196 hf197 => ?_
 have h0 := (congrFun hf197 0).trans h0
 have h4 := (congrFun hf197 4).trans h4
 have h5 := (congrFun hf197 5).trans h5
 clear hf197
 refine thenQ.n (W.seq (W.region ?_))
 refine SeqW.consX rfl (kLoadA rfl Try.underlying30 rfl Try.type30 rfl h5 X169.loads ?_)
 refine SeqW.consX rfl (kPut (off := 0) (w := (Value.agg [(str y161.number), (vI y161.length), (vI y161.axles), (vI y161.mass), (vI (IntKind.wrap .i64 (Int.tdiv (IntKind.wrap .i64 (y161.mass * y179.1)) 4))), (vI y161.goods), (vB y161.gentle), (str y161.dest)].toArray)) (new := [(str y161.number), (vI y161.length), (vI y161.axles), (vI y161.mass), (vI (IntKind.wrap .i64 (Int.tdiv (IntKind.wrap .i64 (y161.mass * y179.1)) 4))), (vI y161.goods), (vB y161.gentle), (str y161.dest)]) rfl Try.type30 h4 rfl rfl rfl rfl O171 rfl [(str y161.number), (vI y161.length), (vI y161.axles), (vI y161.mass), (vI (IntKind.wrap .i64 (Int.tdiv (IntKind.wrap .i64 (y161.mass * y179.1)) 4))), (vI y161.goods), (vB y161.gentle), (str y161.dest)] rfl st ?_)
 intro m198 st O171 sm199
 replace O170n := O170n.same sm199 A174
 refine SeqW.done fun fr200 hf201 => ?_
 have h0 := (congrFun hf201 0).trans h0
 have h4 := (congrFun hf201 4).trans h4
 clear hf201
 refine thenQ.n ?_
 refine W.ret ?_
 obtain rfl := Option.some.inj hr
 exact ⟨z180, hz, st, .inr rfl, B1, V185, h4, O171, O171.fresh, Q186, O170n, trivial⟩

theorem c_Maker_Wagon {N : Nat} {z : Nat → Blk} {m : Mem} {x0 : Maker} {x1 : Int} {v0_0 : Value} {b0 : Nat} (fz : Fz z m) (hd : ∀ b, m.next ≤ b → m.blk b = .dead) (s0_0 : SlR (TInt 3 .i64) z x0.l v0_0) (bx0 : Bx z m m (some b0) b0 [v0_0, (vI x0.n)] 56) {r : Wagon × Maker} (hr : Maker_Wagon N x0 x1 = some r) : CallW Try.prog 13 #[(vP b0), (vI x1)] m fun v m' => ∃ z' wr_0, Zx m.next z z' ∧ Fz z' m' ∧ Same m m' (some b0) ∧ v = (Value.agg [(str r.1.number), (vI r.1.length), (vI r.1.axles), (vI r.1.mass), (vI r.1.brake), (vI r.1.goods), (vB r.1.gentle), (str r.1.dest)].toArray) ∧ SlR (TInt 3 .i64) z' r.2.l wr_0 ∧ Bx z' m m' (some b0) b0 [wr_0, (vI r.2.n)] 56 ∧ True := by
 refine CallW.any Try.func13 rfl (by kernel_rfl) (Nat.le_of_ble_eq_true rfl) (fun fr hf => ?_)
 have h0 : fr 0 = _ := hf 0 _ rfl
 have h1 : fr 1 = _ := hf 1 _ rfl
 refine (u_Maker_Wagon (k := (some b0)) (Zx.refl _) (St.start fz hd) h0 s0_0 bx0 h1 hr).mono ?_
 rintro ex fr' m' ⟨z', hz, st, he, c4, wr_0, h4, bx4, fx4, sr_0, bxr, -⟩
 exact ⟨he, [(Value.agg [(str r.1.number), (vI r.1.length), (vI r.1.axles), (vI r.1.mass), (vI r.1.brake), (vI r.1.goods), (vB r.1.gentle), (str r.1.dest)].toArray)], ⟨resCell h4 bx4 Try.underlying30 rfl Try.type30 rfl, trivial⟩, .inl rfl, z', wr_0, hz, st.fz, st.toSame, rfl, sr_0, bxr, trivial⟩

/-! ### (*humpyard/humpgen.Maker).Wagons -/

theorem u_Maker_Wagons_0 : ∀ (n : Nat) {N : Nat}  {z0 z : Nat → Blk} {e m : Mem} {k : Option Nat} {fr : Nat → Value} {x0 : Maker} {x5 : List Wagon} {x6 : Int} {v0_0 : Value} {b0 : Nat} {v5 : Value} (hz : Zx e.next z0 z) (st : St z e m k) (h0 : fr 0 = (vP b0)) (s0_0 : SlR (TInt 3 .i64) z x0.l v0_0) (bx0 : Bx z e m k b0 [v0_0, (vI x0.n)] 56) (h5 : fr 5 = v5) (o5 : OwF TWagon z e m k x5 v5) (h6 : fr 6 = (vI x6)) (ao0_o5 : Ap (some b0) (blkOf v5)) {r : Maker × List Wagon} (hr : Maker_Wagons_0 N n x0 x5 x6 = some r), W Try.prog (sub (bodyOf Try.f18) [1, 1, 0, 1, 0]) (fun ex fr' m' => ∃ z', Zx e.next z0 z' ∧ St z' e m' k ∧ ex = AExit.exit 0 ∧ ∃ (w0_0 : Value) (w5 : Value), fr' 0 = (vP b0) ∧ SlR (TInt 3 .i64) z' r.1.l w0_0 ∧ Bx z' e m' k b0 [w0_0, (vI r.1.n)] 56 ∧ fr' 5 = w5 ∧ OwF TWagon z' e m' k r.2 w5 ∧ Ap (some b0) (blkOf w5) ∧ True) fr m := by
 intro n
 induction n with
 | zero => intro N z0 z e m k fr x0 x5 x6 v0_0 b0 v5 hz st h0 s0_0 bx0 h5 o5 h6 ao0_o5 r hr; cases (show (none : Option _) = some r from hr)
 | succ n ih =>
  intro N z0 z e m k fr x0 x5 x6 v0_0 b0 v5 hz st h0 s0_0 bx0 h5 o5 h6 ao0_o5 r hr
  unfold Maker_Wagons_0 at hr
  refine W.loop1 ?_
  refine W.seq (W.seq (W.region ?_))
  refine sx rfl (pMove (v := (vI x6)) rfl h6) ?_
  refine sx rfl (pGtr (k := .i64) (a := x6) (b := 0) rfl rfl rfl) ?_
  refine SeqW.done fun fr17 hf18 => ?_
  have h0 := (congrFun hf18 0).trans h0
  have h5 := (congrFun hf18 5).trans h5
  have h6 := (congrFun hf18 6).trans h6
  have h12 : fr17 12 = (vB (decide (0 < x6))) := (congrFun hf18 12).trans rfl
  clear hf18
  refine thenQ.n ?_
  rcases if_some hr with ⟨hc19, hr⟩ | ⟨hc52, hr⟩
  ·refine W.condT h12 hc19 (W.skip ?_)
   refine thenQ.n (W.seq ?_)
   refine W.block ?_
   refine W.region ?_
   refine sx rfl (pMove (v := v5) rfl h5) ?_
   refine sx rfl (pMove (v := (vP b0)) rfl h0) ?_
   refine sx rfl (pMove (v := v5) rfl h5) ?_
   refine sx rfl (pLenO (xs := x5) rfl Try.underlying41 rfl o5.ow) ?_
   obtain ⟨y20, hy20, hr⟩ := bind_some hr
   refine SeqW.consX rfl (StepX.call (gCallee rfl rfl (args2 rfl rfl)) ((c_Maker_Wagon (x0 := x0) (z := z) st.fz st.dead s0_0 ⟨bx0.blk, bx0.lt, bx0.dead, .inr rfl⟩ hy20).mono ?_))
   rintro _ m25 ⟨z21, V26, hzx22, fz23, sm24, rfl, Q27, X29, -⟩
   replace s0_0 := s0_0.mono hzx22.le
   replace o5 := o5.call hzx22 sm24 (Ap.symm ao0_o5)
   have bx0n : Bx z21 e m25 k b0 _ _ := ⟨X29.blk, X29.lt, X29.dead, bx0.fresh⟩
   replace hz := hz.trans (Zx.here st hzx22)
   replace st := st.call hzx22 fz23 sm24 bx0.hq
   refine SeqW.consX rfl (kBuild (T := TWagon) rfl Try.underlying41 Try.type30 rfl rfl rfl rfl ([y20.1] : List Wagon) [[(str y20.1.number), (vI y20.1.length), (vI y20.1.axles), (vI y20.1.mass), (vI y20.1.brake), (vI y20.1.goods), (vB y20.1.gentle), (str y20.1.dest)]] rfl rfl rfl (BuildOk.mk (w := (Value.agg [(str y20.1.number), (vI y20.1.length), (vI y20.1.axles), (vI y20.1.mass), (vI y20.1.brake), (vI y20.1.goods), (vB y20.1.gentle), (str y20.1.dest)].toArray)) rfl rfl rfl rfl trivial) st ?_)
   intro V30 m31 st O32 sm33 hap34
   have A36 := hap34 _ bx0n.lt'
   have A37 := hap34 _ o5.lt
   replace bx0n := bx0n.same sm33 Ap.none'
   replace o5 := o5.same sm33 Ap.none'
   obtain ⟨y38, hy38, hr⟩ := bind_some hr
   refine SeqW.consX rfl (kAppend (T := TWagon) (xs := x5) (ys := ([y20.1] : List Wagon)) rfl Try.underlying41 Try.type30 rfl rfl rfl rfl rfl rfl (.inl ⟨_, Try.underlying41⟩) rfl o5 rfl O32.ow.src st hy38 ?_)
   intro V39 m40 st O41 sm42 hap43
   have A45 := hap43 _ bx0n.lt' ao0_o5
   have A46 := hap43 _ O32.lt (Ap.symm A37)
   replace bx0n := bx0n.same sm42 ao0_o5
   replace O32 := O32.same sm42 (Ap.symm A37)
   refine sx rfl (pAssign (v := V39) rfl rfl) ?_
   refine SeqW.done fun fr47 hf48 => ?_
   have h0 := (congrFun hf48 0).trans h0
   have h5 : fr47 5 = V39 := (congrFun hf48 5).trans rfl
   have h6 := (congrFun hf48 6).trans h6
   clear hf48
   refine blockQ.n ?_
   refine thenQ.n (W.region ?_)
   refine sx rfl (pMove (v := (vI x6)) rfl h6) ?_
   refine sx rfl (pSub (k := .i64) (a := x6) (b := 1) rfl rfl rfl) ?_
   obtain ⟨y49, hy49, hr⟩ := lt_some hr
   refine sx rfl (pAssign rfl (congrArg (Value.int .i64) hy49)) ?_
   refine SeqW.done fun fr50 hf51 => ?_
   have h0 := (congrFun hf51 0).trans h0
   have h5 := (congrFun hf51 5).trans h5
   have h6 : fr50 6 = (vI y49) := (congrFun hf51 6).trans rfl
   clear hf51
   refine thenQ.n ?_
   exact ih (x0 := y20.2) hz st h0 Q27 bx0n h5 O41 h6 A45 hr
  ·refine W.condF h12 hc52 ?_
   refine W.exit ?_
   refine thenQ.x ?_
   refine thenQ.x ?_
   obtain rfl := Option.some.inj hr
   exact ⟨z, hz, st, rfl, v0_0, v5, h0, s0_0, bx0, h5, o5, ao0_o5, trivial⟩

theorem u_Maker_Wagons {N : Nat}  {z0 z : Nat → Blk} {e m : Mem} {k : Option Nat} {fr : Nat → Value} {x0 : Maker} {x1 : Int} {v0_0 : Value} {b0 : Nat} (hz : Zx e.next z0 z) (st : St z e m k) (h0 : fr 0 = (vP b0)) (s0_0 : SlR (TInt 3 .i64) z x0.l v0_0) (bx0 : Bx z e m k b0 [v0_0, (vI x0.n)] 56) (h1 : fr 1 = (vI x1)) {r : List Wagon × Maker} (hr : Maker_Wagons N x0 x1 = some r) : W Try.prog (sub (bodyOf Try.f18) []) (fun ex fr' m' => ∃ z', Zx e.next z0 z' ∧ St z' e m' k ∧ (ex = .normal ∨ ex = .ret) ∧ ∃ (w4 : Value) (wr_0 : Value), fr' 4 = w4 ∧ OwF TWagon z' e m' k r.1 w4 ∧ SlR (TInt 3 .i64) z' r.2.l wr_0 ∧ Bx z' e m' k b0 [wr_0, (vI r.2.n)] 56 ∧ True) fr m := by
 unfold Maker_Wagons at hr
 refine W.seq (W.region ?_)
 refine sx rfl (pAssign (v := (Value.slice none 0 0)) rfl rfl) ?_
 refine SeqW.done fun fr1 hf2 => ?_
 have h0 := (congrFun hf2 0).trans h0
 have h1 := (congrFun hf2 1).trans h1
 clear hf2
 refine thenQ.n (W.seq (W.region ?_))
 refine sx rfl (pAssign (v := (Value.slice none 0 0)) rfl rfl) ?_
 refine SeqW.done fun fr3 hf4 => ?_
 have h0 := (congrFun hf4 0).trans h0
 have h1 := (congrFun hf4 1).trans h1
 have h5 : fr3 5 = (Value.slice none 0 0) := (congrFun hf4 5).trans rfl
 clear hf4
 refine thenQ.n (W.seq ?_)
 refine W.seq (W.region ?_)
 refine sx rfl (pMove (v := (vP b0)) rfl h0) ?_
 refine sx rfl (pMove (v := (vI x1)) rfl h1) ?_
 refine sx rfl (pAdd (k := .i64) (a := x1) (b := 1) rfl rfl rfl) ?_
 obtain ⟨y5, hy5, hr⟩ := bind_some hr
 refine SeqW.consX rfl (StepX.call (gCallee rfl rfl (args2 rfl rfl)) ((c_Maker_Next (x0 := x0) (z := z) st.fz st.dead s0_0 ⟨bx0.blk, bx0.lt, bx0.dead, .inr rfl⟩ hy5).mono ?_))
 rintro _ m10 ⟨z6, V11, hzx7, fz8, sm9, rfl, Q12, X14, -⟩
 replace s0_0 := s0_0.mono hzx7.le
 have bx0n : Bx z6 e m10 k b0 _ _ := ⟨X14.blk, X14.lt, X14.dead, bx0.fresh⟩
 replace hz := hz.trans (Zx.here st hzx7)
 replace st := st.call hzx7 fz8 sm9 bx0.hq
 refine sx rfl (pAssign (v := (vI y5.1)) rfl rfl) ?_
 refine SeqW.done fun fr15 hf16 => ?_
 have h0 := (congrFun hf16 0).trans h0
 have h5 := (congrFun hf16 5).trans h5
 have h6 : fr15 6 = (vI y5.1) := (congrFun hf16 6).trans rfl
 clear hf16
 refine thenQ.n ?_
 refine W.block ?_
 obtain ⟨y53, hy53, hr⟩ := bind_some hr
 refine W.keep (u_Maker_Wagons_0 (x0 := y5.2) _ (Zx.refl _) st h0 Q12 bx0n h5 OwF.nil h6 Ap.none' hy53) ?_
 rintro ex59 fr54 m55 hk57 ⟨z56, hz58, st, rfl, w60, w61, h0, Q63, X65, h5, O67, A68, -⟩
 replace hz := hz.trans hz58
 clear hk57
 refine blockQ.hit ?_
 refine thenQ.n (W.seq (W.region ?_))
 refine sx rfl (pMove (v := w61) rfl h5) ?_
 refine sx rfl (pAssign (v := w61) rfl rfl) ?_
 refine SeqW.done fun fr69 hf70 => ?_
 have h0 := (congrFun hf70 0).trans h0
 have h4 : fr69 4 = w61 := (congrFun hf70 4).trans rfl
 clear hf70
 refine thenQ.n ?_
 refine W.ret ?_
 obtain rfl := Option.some.inj hr
 exact ⟨z56, hz, st, .inr rfl, w61, w60, h4, O67, Q63, X65, trivial⟩

theorem c_Maker_Wagons {N : Nat} {z : Nat → Blk} {m : Mem} {x0 : Maker} {x1 : Int} {v0_0 : Value} {b0 : Nat} (fz : Fz z m) (hd : ∀ b, m.next ≤ b → m.blk b = .dead) (s0_0 : SlR (TInt 3 .i64) z x0.l v0_0) (bx0 : Bx z m m (some b0) b0 [v0_0, (vI x0.n)] 56) {r : List Wagon × Maker} (hr : Maker_Wagons N x0 x1 = some r) : CallW Try.prog 18 #[(vP b0), (vI x1)] m fun v m' => ∃ z' w4 wr_0, Zx m.next z z' ∧ Fz z' m' ∧ Same m m' (some b0) ∧ v = w4 ∧ OwF TWagon z' m m' none r.1 w4 ∧ SlR (TInt 3 .i64) z' r.2.l wr_0 ∧ Bx z' m m' (some b0) b0 [wr_0, (vI r.2.n)] 56 ∧ True := by
 refine CallW.any Try.func18 rfl (by kernel_rfl) (Nat.le_of_ble_eq_true rfl) (fun fr hf => ?_)
 have h0 : fr 0 = _ := hf 0 _ rfl
 have h1 : fr 1 = _ := hf 1 _ rfl
 refine (u_Maker_Wagons (k := (some b0)) (Zx.refl _) (St.start fz hd) h0 s0_0 bx0 h1 hr).mono ?_
 rintro ex fr' m' ⟨z', hz, st, he, w4, wr_0, h4, s4, sr_0, bxr, -⟩
 exact ⟨he, [w4], ⟨h4.symm, trivial⟩, .inl rfl, z', w4, wr_0, hz, st.fz, st.toSame, rfl, (s4.up (Nat.le_refl _)), sr_0, bxr, trivial⟩

/-! ### humpyard/humpyardref02.Valid -/

theorem u_r02_Valid {N : Nat}  {z0 z : Nat → Blk} {e m : Mem} {k : Option Nat} {fr : Nat → Value} {x0 : List UInt8} (hz : Zx e.next z0 z) (st : St z e m k) (h0 : fr 0 = (str x0)) {r : Int} (hr : r02_Valid N x0 = some r) : W Try.prog (sub (bodyOf Try.f48) []) (fun ex fr' m' => ∃ z', Zx e.next z0 z' ∧ St z' e m' k ∧ (ex = .normal ∨ ex = .ret) ∧ fr' 2 = (vI r) ∧ True) fr m := by
 unfold r02_Valid at hr
 refine W.seq (W.region ?_)
 refine sx rfl (pAssign (v := (vI 0)) rfl rfl) ?_
 refine SeqW.done fun fr1 hf2 => ?_
 have h0 := (congrFun hf2 0).trans h0
 clear hf2
 refine thenQ.n (W.seq ?_)
 refine W.seq (W.region ?_)
 refine sx rfl (pMove (v := (str x0)) rfl h0) ?_
 obtain ⟨y3, hy3, hr⟩ := bind_some hr
 refine SeqW.consX rfl (StepX.call (gCallee rfl rfl (args2 rfl rfl)) ((c_r02_digits (z := z) st.fz st.dead  hy3).mono ?_))
 rintro _ _ ⟨rfl, rfl⟩
 refine sx rfl (pNot (b := y3) rfl rfl) ?_
 refine SeqW.done fun fr4 hf5 => ?_
 have h0 := (congrFun hf5 0).trans h0
 have h5 : fr4 5 = (vB (!y3)) := (congrFun hf5 5).trans rfl
 clear hf5
 refine thenQ.n ?_
 rcases if_some hr with ⟨hc6, hr⟩ | ⟨hc9, hr⟩
 ·refine W.condT h5 hc6 (W.seq (W.region ?_))
  refine sx rfl (pAssign (v := (vI 11)) rfl rfl) ?_
  refine SeqW.done fun fr7 hf8 => ?_
  have h2 : fr7 2 = (vI 11) := (congrFun hf8 2).trans rfl
  clear hf8
  refine thenQ.n ?_
  refine W.ret ?_
  refine thenQ.r ?_
  obtain rfl := Option.some.inj hr
  exact ⟨z, hz, st, .inr rfl, h2, trivial⟩
 ·refine W.condF h5 hc9 (W.skip ?_)
  refine thenQ.n (W.seq (W.seq ?_))
  refine W.draw ?_
  refine DrawW.cons rfl (StepX.pure (pMove (v := (str x0)) rfl h0) ?_)
  refine ⟨trivial, ?_⟩
  have sto10 := st
  obtain ⟨y11, hy11, hr⟩ := bind_some hr
  refine DrawW.cons rfl (StepX.call (gCallee rfl rfl (args2 rfl rfl)) ((c_r02_sum (z := z) st.fz st.dead  hy11).mono ?_))
  rintro _ _ ⟨rfl, rfl⟩
  refine ⟨⟨?_, ?_⟩, ?_⟩
  ·exact demN
  ·exact demN
  refine DrawW.cons rfl (StepX.pure (pMove (v := (str x0)) rfl h0) ?_)
  refine ⟨trivial, ?_⟩
  obtain ⟨y12, hy12, hr⟩ := bind_some hr
  refine DrawW.cons rfl (kIndexS (s := x0) (n := 11) rfl Try.underlying9 rfl rfl hy12 ?_)
  refine ⟨trivial, ?_⟩
  refine DrawW.cons rfl (StepX.pure (pSub (k := .u8) (a := (UInt8.toNat y12 : Int)) (b := 48) rfl rfl rfl) ?_)
  refine ⟨trivial, ?_⟩
  refine DrawW.cons rfl (StepX.pure (pConv (k := .u8) (a := (IntKind.wrap .u8 ((UInt8.toNat y12 : Int) - 48))) rfl Try.underlying5 Try.underlying3 rfl) ?_)
  refine ⟨trivial, ?_⟩
  refine DrawW.cons rfl (StepX.pure (pAdd (k := .i64) (a := y11) (b := (IntKind.wrap .i64 (IntKind.wrap .u8 ((UInt8.toNat y12 : Int) - 48)))) rfl rfl rfl) ?_)
  refine ⟨trivial, ?_⟩
  refine DrawW.cons rfl (StepX.pure (pRem (k := .i64) (a := (IntKind.wrap .i64 (y11 + (IntKind.wrap .i64 (IntKind.wrap .u8 ((UInt8.toNat y12 : Int) - 48)))))) (b := 10) rfl rfl rfl (by decide)) ?_)
  refine ⟨trivial, ?_⟩
  refine DrawW.cons rfl (StepX.pure (pNeq (k := .i64) (a := (Int.tmod (IntKind.wrap .i64 (y11 + (IntKind.wrap .i64 (IntKind.wrap .u8 ((UInt8.toNat y12 : Int) - 48))))) 10)) (b := 0) rfl rfl rfl) ?_)
  refine ⟨trivial, ?_⟩
  refine DrawW.done fun fr13 hf14 => ?_
  have h14 : fr13 14 = (vB ((Int.tmod (IntKind.wrap .i64 (y11 + (IntKind.wrap .i64 (IntKind.wrap .u8 ((UInt8.toNat y12 : Int) - 48))))) 10) != 0)) := (congrFun hf14 14).trans rfl
  clear hf14
  refine thenQ.n ?_
  rcases if_some hr with ⟨hc15, hr⟩ | ⟨hc18, hr⟩
  ·refine W.condT h14 hc15 (W.seq (W.region ?_))
   refine sx rfl (pAssign (v := (vI 9)) rfl rfl) ?_
   refine SeqW.done fun fr16 hf17 => ?_
   have h2 : fr16 2 = (vI 9) := (congrFun hf17 2).trans rfl
   clear hf17
   refine thenQ.n ?_
   refine W.ret ?_
   refine thenQ.r ?_
   obtain rfl := Option.some.inj hr
   exact ⟨z, hz, st, .inr rfl, h2, trivial⟩
  ·refine W.condF h14 hc18 (W.skip ?_)
   refine thenQ.n (W.seq (W.region ?_))
   refine sx rfl (pAssign (v := (vI 0)) rfl rfl) ?_
   refine SeqW.done fun fr19 hf20 => ?_
   have h2 : fr19 2 = (vI 0) := (congrFun hf20 2).trans rfl
   clear hf20
   refine thenQ.n ?_
   refine W.ret ?_
   obtain rfl := Option.some.inj hr
   exact ⟨z, hz, st, .inr rfl, h2, trivial⟩

theorem c_r02_Valid {N : Nat} {z : Nat → Blk} {m : Mem} {x0 : List UInt8} (fz : Fz z m) (hd : ∀ b, m.next ≤ b → m.blk b = .dead)  {r : Int} (hr : r02_Valid N x0 = some r) : CallW Try.prog 48 #[(str x0)] m fun v m' => v = (vI r) ∧ m' = m := by
 refine CallW.flat Try.func48 rfl (by kernel_rfl) (Nat.le_of_ble_eq_true rfl) rfl (z := z) (fun fr hf => ?_)
 have h0 : fr 0 = _ := hf 0 _ rfl
 refine (u_r02_Valid (k := none) (Zx.refl _) (St.start fz hd) h0 hr).mono ?_
 rintro ex fr' m' ⟨z', hz, st, he, h2, -⟩
 exact ⟨he, z', st, [(vI r)], ⟨h2.symm, trivial⟩, .inl rfl, rfl⟩

/-! ### humpyard/humpyardref02.Kind -/

theorem u_r02_Kind_0 {N : Nat}  {z0 z : Nat → Blk} {e m : Mem} {k : Option Nat} {fr : Nat → Value} {x11 : Int} {x12 : Bool} (hz : Zx e.next z0 z) (st : St z e m k) (h11 : fr 11 = (Value.int .u8 x11)) (h12 : fr 12 = (vB x12)) {r : Bool} (hr : r02_Kind_0 N x11 x12 = some r) : W Try.prog (sub (bodyOf Try.f38) [1, 1, 0, 1, 0, 0, 1]) (fun ex fr' m' => ∃ z', Zx e.next z0 z' ∧ St z' e m' k ∧ ex = AExit.normal ∧ fr' 12 = (vB r) ∧ True) fr m := by
 unfold r02_Kind_0 at hr
 rcases if_some hr with ⟨hc18, hr⟩ | ⟨hc19, hr⟩
 ·refine W.condT h12 hc18 (W.skip ?_)
  obtain rfl := Option.some.inj hr
  exact ⟨z, hz, st, rfl, h12, trivial⟩
 ·refine W.condF h12 hc19 (W.region ?_)
  refine sx rfl (pEql (k := .u8) (a := x11) (b := 56) rfl h11 rfl) ?_
  obtain ⟨y20, hy20, hr⟩ := lt_some hr
  refine sx rfl (pAssign rfl (congrArg vB hy20)) ?_
  refine SeqW.done fun fr21 hf22 => ?_
  have h11 := (congrFun hf22 11).trans h11
  have h12 : fr21 12 = (vB y20) := (congrFun hf22 12).trans rfl
  clear hf22
  obtain rfl := Option.some.inj hr
  exact ⟨z, hz, st, rfl, h12, trivial⟩

theorem u_r02_Kind_1 {N : Nat}  {z0 z : Nat → Blk} {e m : Mem} {k : Option Nat} {fr : Nat → Value} {x11 : Int} {x15 : Bool} (hz : Zx e.next z0 z) (st : St z e m k) (h11 : fr 11 = (Value.int .u8 x11)) (h15 : fr 15 = (vB x15)) {r : Bool} (hr : r02_Kind_1 N x11 x15 = some r) : W Try.prog (sub (bodyOf Try.f38) [1, 1, 0, 1, 0, 1, 1, 0, 1]) (fun ex fr' m' => ∃ z', Zx e.next z0 z' ∧ St z' e m' k ∧ ex = AExit.normal ∧ fr' 15 = (vB r) ∧ True) fr m := by
 unfold r02_Kind_1 at hr
 rcases if_some hr with ⟨hc37, hr⟩ | ⟨hc38, hr⟩
 ·refine W.condT h15 hc37 (W.skip ?_)
  obtain rfl := Option.some.inj hr
  exact ⟨z, hz, st, rfl, h15, trivial⟩
 ·refine W.condF h15 hc38 (W.region ?_)
  refine sx rfl (pEql (k := .u8) (a := x11) (b := 52) rfl h11 rfl) ?_
  obtain ⟨y39, hy39, hr⟩ := lt_some hr
  refine sx rfl (pAssign rfl (congrArg vB hy39)) ?_
  refine SeqW.done fun fr40 hf41 => ?_
  have h11 := (congrFun hf41 11).trans h11
  have h15 : fr40 15 = (vB y39) := (congrFun hf41 15).trans rfl
  clear hf41
  obtain rfl := Option.some.inj hr
  exact ⟨z, hz, st, rfl, h15, trivial⟩

theorem u_r02_Kind {N : Nat}  {z0 z : Nat → Blk} {e m : Mem} {k : Option Nat} {fr : Nat → Value} {x0 : List UInt8} (hz : Zx e.next z0 z) (st : St z e m k) (h0 : fr 0 = (str x0)) {r : Int × Int} (hr : r02_Kind N x0 = some r) : W Try.prog (sub (bodyOf Try.f38) []) (fun ex fr' m' => ∃ z', Zx e.next z0 z' ∧ St z' e m' k ∧ (ex = .normal ∨ ex = .ret) ∧ fr' 2 = (vI r.1) ∧ fr' 3 = (vI r.2) ∧ True) fr m := by
 unfold r02_Kind at hr
 refine W.seq (W.region ?_)
 refine sx rfl (pAssign (v := (vI 0)) rfl rfl) ?_
 refine sx rfl (pAssign (v := (vI 0)) rfl rfl) ?_
 refine SeqW.done fun fr1 hf2 => ?_
 have h0 := (congrFun hf2 0).trans h0
 clear hf2
 refine thenQ.n (W.seq ?_)
 refine W.seq (W.region ?_)
 refine sx rfl (pMove (v := (str x0)) rfl h0) ?_
 obtain ⟨y3, hy3, hr⟩ := bind_some hr
 refine SeqW.consX rfl (StepX.call (gCallee rfl rfl (args1 rfl)) ((c_r02_Valid (z := z) st.fz st.dead  hy3).mono ?_))
 rintro _ _ ⟨rfl, rfl⟩
 refine sx rfl (pAssign (v := (vI y3)) rfl rfl) ?_
 refine SeqW.done fun fr4 hf5 => ?_
 have h0 := (congrFun hf5 0).trans h0
 have h4 : fr4 4 = (vI y3) := (congrFun hf5 4).trans rfl
 clear hf5
 refine thenQ.n (W.seq (W.region ?_))
 refine sx rfl (pMove (v := (vI y3)) rfl h4) ?_
 refine sx rfl (pNeq (k := .i64) (a := y3) (b := 0) rfl rfl rfl) ?_
 refine SeqW.done fun fr6 hf7 => ?_
 have h0 := (congrFun hf7 0).trans h0
 have h4 := (congrFun hf7 4).trans h4
 have h8 : fr6 8 = (vB (y3 != 0)) := (congrFun hf7 8).trans rfl
 clear hf7
 refine thenQ.n ?_
 rcases if_some hr with ⟨hc8, hr⟩ | ⟨hc11, hr⟩
 ·refine W.condT h8 hc8 (W.seq (W.region ?_))
  refine sx rfl (pMove (v := (vI y3)) rfl h4) ?_
  refine sx rfl (pAssign (v := (vI 0)) rfl rfl) ?_
  refine sx rfl (pAssign (v := (vI y3)) rfl rfl) ?_
  refine SeqW.done fun fr9 hf10 => ?_
  have h2 : fr9 2 = (vI 0) := (congrFun hf10 2).trans rfl
  have h3 : fr9 3 = (vI y3) := (congrFun hf10 3).trans rfl
  clear hf10
  refine thenQ.n ?_
  refine W.ret ?_
  refine thenQ.r ?_
  obtain rfl := Option.some.inj hr
  exact ⟨z, hz, st, .inr rfl, h2, h3, trivial⟩
 ·refine W.condF h8 hc11 (W.skip ?_)
  refine thenQ.n (W.seq ?_)
  refine W.seq (W.region ?_)
  refine sx rfl (pMove (v := (str x0)) rfl h0) ?_
  obtain ⟨y12, hy12, hr⟩ := bind_some hr
  refine SeqW.consX rfl (kIndexS (s := x0) (n := 4) rfl Try.underlying9 rfl rfl hy12 ?_)
  refine SeqW.done fun fr13 hf14 => ?_
  have h11 : fr13 11 = (Value.int .u8 (UInt8.toNat y12 : Int)) := (congrFun hf14 11).trans rfl
  clear hf14
  refine thenQ.n ?_
  refine W.block ?_
  refine W.seq (W.seq (W.region ?_))
  refine sx rfl (pEql (k := .u8) (a := (UInt8.toNat y12 : Int)) (b := 55) rfl h11 rfl) ?_
  obtain ⟨y15, hy15, hr⟩ := lt_some hr
  refine sx rfl (pAssign rfl (congrArg vB hy15)) ?_
  refine SeqW.done fun fr16 hf17 => ?_
  have h11 := (congrFun hf17 11).trans h11
  have h12 : fr16 12 = (vB y15) := (congrFun hf17 12).trans rfl
  clear hf17
  refine thenQ.n ?_
  obtain ⟨y23, hy23, hr⟩ := bind_some hr
  refine W.keep (u_r02_Kind_0 (Zx.refl _) st h11 h12 hy23) ?_
  rintro ex29 fr24 m25 hk27 ⟨z26, hz28, st, rfl, h12, -⟩
  have h11 := (hk27 11 rfl).trans h11
  replace hz := hz.trans hz28
  clear hk27
  refine thenQ.n ?_
  rcases if_some hr with ⟨hc30, hr⟩ | ⟨hc33, hr⟩
  ·refine W.condT h12 hc30 (W.seq (W.region ?_))
   refine sx rfl (pAssign (v := (vI 1)) rfl rfl) ?_
   refine sx rfl (pAssign (v := (vI 0)) rfl rfl) ?_
   refine SeqW.done fun fr31 hf32 => ?_
   have h2 : fr31 2 = (vI 1) := (congrFun hf32 2).trans rfl
   have h3 : fr31 3 = (vI 0) := (congrFun hf32 3).trans rfl
   clear hf32
   refine thenQ.n ?_
   refine W.ret ?_
   refine blockQ.r ?_
   refine thenQ.r ?_
   obtain rfl := Option.some.inj hr
   exact ⟨z26, hz, st, .inr rfl, h2, h3, trivial⟩
  ·refine W.condF h12 hc33 (W.seq ?_)
   refine W.seq (W.region ?_)
   refine sx rfl (pEql (k := .u8) (a := (UInt8.toNat y12 : Int)) (b := 50) rfl h11 rfl) ?_
   obtain ⟨y34, hy34, hr⟩ := lt_some hr
   refine sx rfl (pAssign rfl (congrArg vB hy34)) ?_
   refine SeqW.done fun fr35 hf36 => ?_
   have h11 := (congrFun hf36 11).trans h11
   have h15 : fr35 15 = (vB y34) := (congrFun hf36 15).trans rfl
   clear hf36
   refine thenQ.n ?_
   obtain ⟨y42, hy42, hr⟩ := bind_some hr
   refine W.keep (u_r02_Kind_1 (Zx.refl _) st h11 h15 hy42) ?_
   rintro ex48 fr43 m44 hk46 ⟨z45, hz47, st, rfl, h15, -⟩
   have h11 := (hk46 11 rfl).trans h11
   replace hz := hz.trans hz47
   clear hk46
   refine thenQ.n ?_
   rcases if_some hr with ⟨hc49, hr⟩ | ⟨hc52, hr⟩
   ·refine W.condT h15 hc49 (W.seq (W.region ?_))
    refine sx rfl (pAssign (v := (vI 2)) rfl rfl) ?_
    refine sx rfl (pAssign (v := (vI 0)) rfl rfl) ?_
    refine SeqW.done fun fr50 hf51 => ?_
    have h2 : fr50 2 = (vI 2) := (congrFun hf51 2).trans rfl
    have h3 : fr50 3 = (vI 0) := (congrFun hf51 3).trans rfl
    clear hf51
    refine thenQ.n ?_
    refine W.ret ?_
    refine blockQ.r ?_
    refine thenQ.r ?_
    obtain rfl := Option.some.inj hr
    exact ⟨z45, hz, st, .inr rfl, h2, h3, trivial⟩
   ·refine W.condF h15 hc52 (W.seq (W.region ?_))
    refine sx rfl (pEql (k := .u8) (a := (UInt8.toNat y12 : Int)) (b := 57) rfl h11 rfl) ?_
    obtain ⟨y53, hy53, hr⟩ := lt_some hr
    refine sx rfl (pAssign rfl (congrArg vB hy53)) ?_
    refine SeqW.done fun fr54 hf55 => ?_
    have h18 : fr54 18 = (vB y53) := (congrFun hf55 18).trans rfl
    clear hf55
    refine thenQ.n ?_
    rcases if_some hr with ⟨hc56, hr⟩ | ⟨hc59, hr⟩
    ·refine W.condT h18 hc56 (W.seq (W.region ?_))
     refine sx rfl (pAssign (v := (vI 3)) rfl rfl) ?_
     refine sx rfl (pAssign (v := (vI 0)) rfl rfl) ?_
     refine SeqW.done fun fr57 hf58 => ?_
     have h2 : fr57 2 = (vI 3) := (congrFun hf58 2).trans rfl
     have h3 : fr57 3 = (vI 0) := (congrFun hf58 3).trans rfl
     clear hf58
     refine thenQ.n ?_
     refine W.ret ?_
     refine blockQ.r ?_
     refine thenQ.r ?_
     obtain rfl := Option.some.inj hr
     exact ⟨z45, hz, st, .inr rfl, h2, h3, trivial⟩
    ·refine W.condF h18 hc59 (W.skip ?_)
     refine blockQ.n ?_
     refine thenQ.n (W.seq (W.region ?_))
     refine sx rfl (pAssign (v := (vI 0)) rfl rfl) ?_
     refine sx rfl (pAssign (v := (vI 0)) rfl rfl) ?_
     refine SeqW.done fun fr60 hf61 => ?_
     have h2 : fr60 2 = (vI 0) := (congrFun hf61 2).trans rfl
     have h3 : fr60 3 = (vI 0) := (congrFun hf61 3).trans rfl
     clear hf61
     refine thenQ.n ?_
     refine W.ret ?_
     obtain rfl := Option.some.inj hr
     exact ⟨z45, hz, st, .inr rfl, h2, h3, trivial⟩

theorem c_r02_Kind {N : Nat} {z : Nat → Blk} {m : Mem} {x0 : List UInt8} (fz : Fz z m) (hd : ∀ b, m.next ≤ b → m.blk b = .dead)  {r : Int × Int} (hr : r02_Kind N x0 = some r) : CallW Try.prog 38 #[(str x0)] m fun v m' => v = (Value.tuple [(vI r.1), (vI r.2)].toArray) ∧ m' = m := by
 refine CallW.flat Try.func38 rfl (by kernel_rfl) (Nat.le_of_ble_eq_true rfl) rfl (z := z) (fun fr hf => ?_)
 have h0 : fr 0 = _ := hf 0 _ rfl
 refine (u_r02_Kind (k := none) (Zx.refl _) (St.start fz hd) h0 hr).mono ?_
 rintro ex fr' m' ⟨z', hz, st, he, h2, h3, -⟩
 exact ⟨he, z', st, [(vI r.1), (vI r.2)], ⟨h2.symm, h3.symm, trivial⟩, .inr (List.forall_mem_cons.2 ⟨rfl, List.forall_mem_cons.2 ⟨rfl, fun _ h => nomatch h⟩⟩), rfl⟩

/-! ### humpyard/humpyardref06.Name -/

theorem u_r06_Name_1 {N : Nat}  {z0 z : Nat → Blk} {e m : Mem} {k : Option Nat} {fr : Nat → Value} {x0 : List UInt8} {x3 : Int} (hz : Zx e.next z0 z) (st : St z e m k) (h0 : fr 0 = (str x0)) (h3 : fr 3 = (vI x3)) {r : Bool} (hr : r06_Name_1 N x0 x3 = some r) : W Try.prog (sub (bodyOf Try.f47) [1, 0, 1, 0, 0, 1, 0, 0, 0]) (fun ex fr' m' => ∃ z', Zx e.next z0 z' ∧ St z' e m' k ∧ ex = AExit.normal ∧ fr' 32 = (vB r) ∧ True) fr m := by
 unfold r06_Name_1 at hr
 refine W.region ?_
 refine sx rfl (pMove (v := (str x0)) rfl h0) ?_
 refine sx rfl (pMove (v := (vI x3)) rfl h3) ?_
 obtain ⟨y8, hy8, hr⟩ := bind_some hr
 refine SeqW.consX rfl (kIndexS (s := x0) (n := x3) rfl Try.underlying9 rfl rfl hy8 ?_)
 refine sx rfl (pGeq (k := .u8) (a := (UInt8.toNat y8 : Int)) (b := 97) rfl rfl rfl) ?_
 refine sx rfl (pMove (v := (vB (decide (97 ≤ (UInt8.toNat y8 : Int))))) rfl rfl) ?_
 rcases if_some hr with ⟨hc9, hr⟩ | ⟨hc23, hr⟩
 ·refine SeqW.consG rfl rfl rfl hc9 (StepX.pure (pMove (v := (str x0)) rfl h0) ?_)
  refine SeqW.consG rfl rfl rfl hc9 (StepX.pure (pMove (v := (vI x3)) rfl h3) ?_)
  obtain ⟨y10, hy10, hr⟩ := bind_some hr
  refine SeqW.consG rfl rfl rfl hc9 (kIndexS (s := x0) (n := x3) rfl Try.underlying9 rfl rfl hy10 ?_)
  refine SeqW.consG rfl rfl rfl hc9 (StepX.pure (pLeq (k := .u8) (a := (UInt8.toNat y10 : Int)) (b := 122) rfl rfl rfl) ?_)
  refine sx rfl (pPick (t := true) (v := (vB (decide ((UInt8.toNat y10 : Int) ≤ 122)))) rfl ((congrArg vB hc9)) rfl) ?_
  refine sx rfl (pMove (v := (vB (decide ((UInt8.toNat y10 : Int) ≤ 122)))) rfl rfl) ?_
  rcases if_some hr with ⟨hc11, hr⟩ | ⟨hc14, hr⟩
  ·refine kx rfl rfl rfl hc11 ?_
   iterate 4 refine kx rfl rfl rfl hc11 ?_
   refine SeqW.skipU rfl rfl rfl ?_
   refine SeqW.skipU rfl rfl rfl ?_
   refine SeqW.skipU rfl rfl rfl ?_
   refine SeqW.skipU rfl rfl rfl ?_
   refine kx rfl rfl rfl hc11 ?_
   refine sx rfl (pPick (t := true) (v := (vB true)) rfl ((congrArg vB hc11)) rfl) ?_
   refine sx rfl (pNot (b := true) rfl rfl) ?_
   refine SeqW.done fun fr12 hf13 => ?_
   have h0 := (congrFun hf13 0).trans h0
   have h3 := (congrFun hf13 3).trans h3
   have h32 : fr12 32 = (vB (!true)) := (congrFun hf13 32).trans rfl
   clear hf13
   obtain rfl := Option.some.inj hr
   exact ⟨z, hz, st, rfl, h32, trivial⟩
  ·refine SeqW.consG rfl rfl rfl hc14 (StepX.pure (pMove (v := (str x0)) rfl h0) ?_)
   refine SeqW.consG rfl rfl rfl hc14 (StepX.pure (pMove (v := (vI x3)) rfl h3) ?_)
   obtain ⟨y15, hy15, hr⟩ := bind_some hr
   refine SeqW.consG rfl rfl rfl hc14 (kIndexS (s := x0) (n := x3) rfl Try.underlying9 rfl rfl hy15 ?_)
   refine SeqW.consG rfl rfl rfl hc14 (StepX.pure (pGeq (k := .u8) (a := (UInt8.toNat y15 : Int)) (b := 48) rfl rfl rfl) ?_)
   refine SeqW.consG rfl rfl rfl hc14 (StepX.pure (pMove (v := (vB (decide (48 ≤ (UInt8.toNat y15 : Int))))) rfl rfl) ?_)
   rcases if_some hr with ⟨hc16, hr⟩ | ⟨hc20, hr⟩
   ·refine SeqW.consG rfl rfl rfl hc16 (StepX.pure (pMove (v := (str x0)) rfl h0) ?_)
    refine SeqW.consG rfl rfl rfl hc16 (StepX.pure (pMove (v := (vI x3)) rfl h3) ?_)
    obtain ⟨y17, hy17, hr⟩ := bind_some hr
    refine SeqW.consG rfl rfl rfl hc16 (kIndexS (s := x0) (n := x3) rfl Try.underlying9 rfl rfl hy17 ?_)
    refine SeqW.consG rfl rfl rfl hc16 (StepX.pure (pLeq (k := .u8) (a := (UInt8.toNat y17 : Int)) (b := 57) rfl rfl rfl) ?_)
    refine SeqW.consG rfl rfl rfl hc14 (StepX.pure (pPick (t := true) (v := (vB (decide ((UInt8.toNat y17 : Int) ≤ 57)))) rfl ((congrArg vB hc16)) rfl) ?_)
    refine sx rfl (pPick (t := false) (v := (vB (decide ((UInt8.toNat y17 : Int) ≤ 57)))) rfl ((congrArg vB hc14)) rfl) ?_
    refine sx rfl (pNot (b := (decide ((UInt8.toNat y17 : Int) ≤ 57))) rfl rfl) ?_
    refine SeqW.done fun fr18 hf19 => ?_
    have h0 := (congrFun hf19 0).trans h0
    have h3 := (congrFun hf19 3).trans h3
    have h32 : fr18 32 = (vB (!(decide ((UInt8.toNat y17 : Int) ≤ 57)))) := (congrFun hf19 32).trans rfl
    clear hf19
    obtain rfl := Option.some.inj hr
    exact ⟨z, hz, st, rfl, h32, trivial⟩
   ·refine kx rfl rfl rfl hc20 ?_
    iterate 3 refine kx rfl rfl rfl hc20 ?_
    refine SeqW.consG rfl rfl rfl hc14 (StepX.pure (pPick (t := false) (v := (vB false)) rfl ((congrArg vB hc20)) rfl) ?_)
    refine sx rfl (pPick (t := false) (v := (vB false)) rfl ((congrArg vB hc14)) rfl) ?_
    refine sx rfl (pNot (b := false) rfl rfl) ?_
    refine SeqW.done fun fr21 hf22 => ?_
    have h0 := (congrFun hf22 0).trans h0
    have h3 := (congrFun hf22 3).trans h3
    have h32 : fr21 32 = (vB (!false)) := (congrFun hf22 32).trans rfl
    clear hf22
    obtain rfl := Option.some.inj hr
    exact ⟨z, hz, st, rfl, h32, trivial⟩
 ·refine kx rfl rfl rfl hc23 ?_
  iterate 3 refine kx rfl rfl rfl hc23 ?_
  refine sx rfl (pPick (t := false) (v := (vB false)) rfl ((congrArg vB hc23)) rfl) ?_
  refine sx rfl (pMove (v := (vB false)) rfl rfl) ?_
  refine SeqW.consG rfl rfl rfl rfl (StepX.pure (pMove (v := (str x0)) rfl h0) ?_)
  refine SeqW.consG rfl rfl rfl rfl (StepX.pure (pMove (v := (vI x3)) rfl h3) ?_)
  obtain ⟨y24, hy24, hr⟩ := bind_some hr
  refine SeqW.consG rfl rfl rfl rfl (kIndexS (s := x0) (n := x3) rfl Try.underlying9 rfl rfl hy24 ?_)
  refine SeqW.consG rfl rfl rfl rfl (StepX.pure (pGeq (k := .u8) (a := (UInt8.toNat y24 : Int)) (b := 48) rfl rfl rfl) ?_)
  refine SeqW.consG rfl rfl rfl rfl (StepX.pure (pMove (v := (vB (decide (48 ≤ (UInt8.toNat y24 : Int))))) rfl rfl) ?_)
  rcases if_some hr with ⟨hc25, hr⟩ | ⟨hc29, hr⟩
  ·refine SeqW.consG rfl rfl rfl hc25 (StepX.pure (pMove (v := (str x0)) rfl h0) ?_)
   refine SeqW.consG rfl rfl rfl hc25 (StepX.pure (pMove (v := (vI x3)) rfl h3) ?_)
   obtain ⟨y26, hy26, hr⟩ := bind_some hr
   refine SeqW.consG rfl rfl rfl hc25 (kIndexS (s := x0) (n := x3) rfl Try.underlying9 rfl rfl hy26 ?_)
   refine SeqW.consG rfl rfl rfl hc25 (StepX.pure (pLeq (k := .u8) (a := (UInt8.toNat y26 : Int)) (b := 57) rfl rfl rfl) ?_)
   refine SeqW.consG rfl rfl rfl rfl (StepX.pure (pPick (t := true) (v := (vB (decide ((UInt8.toNat y26 : Int) ≤ 57)))) rfl ((congrArg vB hc25)) rfl) ?_)
   refine sx rfl (pPick (t := false) (v := (vB (decide ((UInt8.toNat y26 : Int) ≤ 57)))) rfl ((congrArg vB (rfl : false = false))) rfl) ?_
   refine sx rfl (pNot (b := (decide ((UInt8.toNat y26 : Int) ≤ 57))) rfl rfl) ?_
   refine SeqW.done fun fr27 hf28 => ?_
   have h0 := (congrFun hf28 0).trans h0
   have h3 := (congrFun hf28 3).trans h3
   have h32 : fr27 32 = (vB (!(decide ((UInt8.toNat y26 : Int) ≤ 57)))) := (congrFun hf28 32).trans rfl
   clear hf28
   obtain rfl := Option.some.inj hr
   exact ⟨z, hz, st, rfl, h32, trivial⟩
  ·refine kx rfl rfl rfl hc29 ?_
   iterate 3 refine kx rfl rfl rfl hc29 ?_
   refine SeqW.consG rfl rfl rfl rfl (StepX.pure (pPick (t := false) (v := (vB false)) rfl ((congrArg vB hc29)) rfl) ?_)
   refine sx rfl (pPick (t := false) (v := (vB false)) rfl ((congrArg vB (rfl : false = false))) rfl) ?_
   refine sx rfl (pNot (b := false) rfl rfl) ?_
   refine SeqW.done fun fr30 hf31 => ?_
   have h0 := (congrFun hf31 0).trans h0
   have h3 := (congrFun hf31 3).trans h3
   have h32 : fr30 32 = (vB (!false)) := (congrFun hf31 32).trans rfl
   clear hf31
   obtain rfl := Option.some.inj hr
   exact ⟨z, hz, st, rfl, h32, trivial⟩

theorem u_r06_Name_0 : ∀ (n : Nat) {N : Nat}  {z0 z : Nat → Blk} {e m : Mem} {k : Option Nat} {fr : Nat → Value} {x0 : List UInt8} {x3 : Int} (hz : Zx e.next z0 z) (st : St z e m k) (h0 : fr 0 = (str x0)) (h3 : fr 3 = (vI x3)) {r : Sum (Unit) (Bool)} (hr : r06_Name_0 N x0 n x3 = some r), W Try.prog (sub (bodyOf Try.f47) [1, 0, 1, 0]) (fun ex fr' m' => ∃ z', Zx e.next z0 z' ∧ St z' e m' k ∧ ((∃ q, r = Sum.inl q ∧ ex = AExit.exit 0 ∧ True) ∨ (∃ q, r = Sum.inr q ∧ ex = AExit.ret ∧ fr' 2 = (vB q) ∧ True))) fr m := by
 intro n
 induction n with
 | zero => intro N z0 z e m k fr x0 x3 hz st h0 h3 r hr; cases (show (none : Option _) = some r from hr)
 | succ n ih =>
  intro N z0 z e m k fr x0 x3 hz st h0 h3 r hr
  unfold r06_Name_0 at hr
  refine W.loop1 ?_
  refine W.seq (W.seq (W.region ?_))
  refine sx rfl (pMove (v := (vI x3)) rfl h3) ?_
  refine sx rfl (pMove (v := (str x0)) rfl h0) ?_
  refine sx rfl (pLenS (s := x0) rfl rfl Try.underlying9 rfl) ?_
  refine sx rfl (pLss (k := .i64) (a := x3) (b := (x0.length : Int)) rfl rfl rfl) ?_
  refine SeqW.done fun fr5 hf6 => ?_
  have h0 := (congrFun hf6 0).trans h0
  have h3 := (congrFun hf6 3).trans h3
  have h7 : fr5 7 = (vB (decide (x3 < (x0.length : Int)))) := (congrFun hf6 7).trans rfl
  clear hf6
  refine thenQ.n ?_
  rcases if_some hr with ⟨hc7, hr⟩ | ⟨hc46, hr⟩
  ·refine W.condT h7 hc7 (W.skip ?_)
   refine thenQ.n (W.seq ?_)
   refine W.block ?_
   refine W.seq ?_
   obtain ⟨y32, hy32, hr⟩ := bind_some hr
   refine W.keep (u_r06_Name_1 (Zx.refl _) st h0 h3 hy32) ?_
   rintro ex38 fr33 m34 hk36 ⟨z35, hz37, st, rfl, h32, -⟩
   have h0 := (hk36 0 rfl).trans h0
   have h3 := (hk36 3 rfl).trans h3
   replace hz := hz.trans hz37
   clear hk36
   refine thenQ.n ?_
   rcases if_some hr with ⟨hc39, hr⟩ | ⟨hc42, hr⟩
   ·refine W.condT h32 hc39 (W.seq (W.region ?_))
    refine sx rfl (pAssign (v := (vB false)) rfl rfl) ?_
    refine SeqW.done fun fr40 hf41 => ?_
    have h2 : fr40 2 = (vB false) := (congrFun hf41 2).trans rfl
    clear hf41
    refine thenQ.n ?_
    refine W.ret ?_
    refine blockQ.r ?_
    refine thenQ.r ?_
    refine thenQ.r ?_
    obtain rfl := Option.some.inj hr
    exact ⟨z35, hz, st, .inr ⟨_, rfl, rfl, h2, trivial⟩⟩
   ·refine W.condF h32 hc42 (W.skip ?_)
    refine blockQ.n ?_
    refine thenQ.n (W.region ?_)
    refine sx rfl (pMove (v := (vI x3)) rfl h3) ?_
    refine sx rfl (pAdd (k := .i64) (a := x3) (b := 1) rfl rfl rfl) ?_
    obtain ⟨y43, hy43, hr⟩ := lt_some hr
    refine sx rfl (pAssign rfl (congrArg (Value.int .i64) hy43)) ?_
    refine SeqW.done fun fr44 hf45 => ?_
    have h0 := (congrFun hf45 0).trans h0
    have h3 : fr44 3 = (vI y43) := (congrFun hf45 3).trans rfl
    clear hf45
    refine thenQ.n ?_
    exact ih hz st h0 h3 hr
  ·refine W.condF h7 hc46 ?_
   refine W.exit ?_
   refine thenQ.x ?_
   refine thenQ.x ?_
   obtain rfl := Option.some.inj hr
   exact ⟨z, hz, st, .inl ⟨_, rfl, rfl, trivial⟩⟩

theorem u_r06_Name_2 {N : Nat}  {z0 z : Nat → Blk} {e m : Mem} {k : Option Nat} {fr : Nat → Value} {x0 : List UInt8} (hz : Zx e.next z0 z) (st : St z e m k) (h0 : fr 0 = (str x0)) {r : Bool} (hr : r06_Name_2 N x0 = some r) : W Try.prog (sub (bodyOf Try.f47) [1, 1, 0]) (fun ex fr' m' => ∃ z', Zx e.next z0 z' ∧ St z' e m' k ∧ ex = AExit.normal ∧ fr' 2 = (vB r) ∧ True) fr m := by
 unfold r06_Name_2 at hr
 refine W.region ?_
 refine sx rfl (pMove (v := (str x0)) rfl h0) ?_
 refine sx rfl (pLenS (s := x0) rfl rfl Try.underlying9 rfl) ?_
 refine sx rfl (pGeq (k := .i64) (a := (x0.length : Int)) (b := 1) rfl rfl rfl) ?_
 refine sx rfl (pMove (v := (vB (decide (1 ≤ (x0.length : Int))))) rfl rfl) ?_
 rcases if_some hr with ⟨hc55, hr⟩ | ⟨hc59, hr⟩
 ·refine SeqW.consG rfl rfl rfl hc55 (StepX.pure (pMove (v := (str x0)) rfl h0) ?_)
  refine SeqW.consG rfl rfl rfl hc55 (StepX.pure (pLenS (s := x0) rfl rfl Try.underlying9 rfl) ?_)
  refine SeqW.consG rfl rfl rfl hc55 (StepX.pure (pLeq (k := .i64) (a := (x0.length : Int)) (b := 12) rfl rfl rfl) ?_)
  refine sx rfl (pPick (t := true) (v := (vB (decide ((x0.length : Int) ≤ 12)))) rfl ((congrArg vB hc55)) rfl) ?_
  obtain ⟨y56, hy56, hr⟩ := lt_some hr
  refine sx rfl (pAssign rfl (congrArg vB hy56)) ?_
  refine SeqW.done fun fr57 hf58 => ?_
  have h2 : fr57 2 = (vB y56) := (congrFun hf58 2).trans rfl
  clear hf58
  obtain rfl := Option.some.inj hr
  exact ⟨z, hz, st, rfl, h2, trivial⟩
 ·refine kx rfl rfl rfl hc59 ?_
  iterate 2 refine kx rfl rfl rfl hc59 ?_
  refine sx rfl (pPick (t := false) (v := (vB false)) rfl ((congrArg vB hc59)) rfl) ?_
  refine sx rfl (pAssign (v := (vB false)) rfl rfl) ?_
  refine SeqW.done fun fr60 hf61 => ?_
  have h2 : fr60 2 = (vB false) := (congrFun hf61 2).trans rfl
  clear hf61
  obtain rfl := Option.some.inj hr
  exact ⟨z, hz, st, rfl, h2, trivial⟩

theorem u_r06_Name {N : Nat}  {z0 z : Nat → Blk} {e m : Mem} {k : Option Nat} {fr : Nat → Value} {x0 : List UInt8} (hz : Zx e.next z0 z) (st : St z e m k) (h0 : fr 0 = (str x0)) {r : Bool} (hr : r06_Name N x0 = some r) : W Try.prog (sub (bodyOf Try.f47) []) (fun ex fr' m' => ∃ z', Zx e.next z0 z' ∧ St z' e m' k ∧ (ex = .normal ∨ ex = .ret) ∧ fr' 2 = (vB r) ∧ True) fr m := by
 unfold r06_Name at hr
 refine W.seq (W.region ?_)
 refine sx rfl (pAssign (v := (vB false)) rfl rfl) ?_
 refine SeqW.done fun fr1 hf2 => ?_
 have h0 := (congrFun hf2 0).trans h0
 clear hf2
 refine thenQ.n (W.seq ?_)
 refine W.seq (W.region ?_)
 refine sx rfl (pAssign (v := (vI 0)) rfl rfl) ?_
 refine SeqW.done fun fr3 hf4 => ?_
 have h0 := (congrFun hf4 0).trans h0
 have h3 : fr3 3 = (vI 0) := (congrFun hf4 3).trans rfl
 clear hf4
 refine thenQ.n ?_
 refine W.block ?_
 obtain ⟨y47, hy47, hr⟩ := bind_some hr
 refine W.keep (u_r06_Name_0 _ (Zx.refl _) st h0 h3 hy47) ?_
 rintro ex53 fr48 m49 hk51 ⟨z50, hz52, st, ⟨y54, rfl, rfl, -⟩ | ⟨y69, rfl, rfl, h2, -⟩⟩
 ·dsimp only at hr
  have h0 := (hk51 0 rfl).trans h0
  replace hz := hz.trans hz52
  clear hk51
  refine blockQ.hit ?_
  refine thenQ.n (W.seq ?_)
  obtain ⟨y62, hy62, hr⟩ := bind_some hr
  refine W.keep (u_r06_Name_2 (Zx.refl _) st h0 hy62) ?_
  rintro ex68 fr63 m64 hk66 ⟨z65, hz67, st, rfl, h2, -⟩
  replace hz := hz.trans hz67
  clear hk66
  refine thenQ.n ?_
  refine W.ret ?_
  obtain rfl := Option.some.inj hr
  exact ⟨z65, hz, st, .inr rfl, h2, trivial⟩
 ·dsimp only at hr
  replace hz := hz.trans hz52
  clear hk51
  refine blockQ.r ?_
  refine thenQ.r ?_
  obtain rfl := Option.some.inj hr
  exact ⟨z50, hz, st, .inr rfl, h2, trivial⟩

theorem c_r06_Name {N : Nat} {z : Nat → Blk} {m : Mem} {x0 : List UInt8} (fz : Fz z m) (hd : ∀ b, m.next ≤ b → m.blk b = .dead)  {r : Bool} (hr : r06_Name N x0 = some r) : CallW Try.prog 47 #[(str x0)] m fun v m' => v = (vB r) ∧ m' = m := by
 refine CallW.flat Try.func47 rfl (by kernel_rfl) (Nat.le_of_ble_eq_true rfl) rfl (z := z) (fun fr hf => ?_)
 have h0 : fr 0 = _ := hf 0 _ rfl
 refine (u_r06_Name (k := none) (Zx.refl _) (St.start fz hd) h0 hr).mono ?_
 rintro ex fr' m' ⟨z', hz, st, he, h2, -⟩
 exact ⟨he, z', st, [(vB r)], ⟨h2.symm, trivial⟩, .inl rfl, rfl⟩

/-! ### humpyard/humpyardref06.Valid -/

theorem u_r06_Valid_0 {N : Nat}  {z0 z : Nat → Blk} {e m : Mem} {k : Option Nat} {fr : Nat → Value} {x5 : Int} {x6 : Int} {x16 : Int} {x1 : Wagon} {b1 : Nat} (hz : Zx e.next z0 z) (st : St z e m k) (h1 : fr 1 = (vP b1)) (bx1 : Bx z e m k b1 [(str x1.number), (vI x1.length), (vI x1.axles), (vI x1.mass), (vI x1.brake), (vI x1.goods), (vB x1.gentle), (str x1.dest)] 30) (h5 : fr 5 = (vI x5)) (h6 : fr 6 = (vI x6)) (h16 : fr 16 = (vI x16)) {r : Int × Int} (hr : r06_Valid_0 N x5 x6 x16 = some r) : W Try.prog (sub (bodyOf Try.f37) [1, 1, 1, 1, 0, 1]) (fun ex fr' m' => ∃ z', Zx e.next z0 z' ∧ St z' e m' k ∧ ex = AExit.normal ∧ fr' 5 = (vI r.1) ∧ fr' 6 = (vI r.2) ∧ Bx z' e m' k b1 [(str x1.number), (vI x1.length), (vI x1.axles), (vI x1.mass), (vI x1.brake), (vI x1.goods), (vB x1.gentle), (str x1.dest)] 30 ∧ True) fr m := by
 unfold r06_Valid_0 at hr
 refine W.block ?_
 refine W.seq (W.region ?_)
 refine sx rfl (pEql (k := .i64) (a := x16) (b := 2) rfl h16 rfl) ?_
 obtain ⟨y22, hy22, hr⟩ := lt_some hr
 refine sx rfl (pAssign rfl (congrArg vB hy22)) ?_
 refine SeqW.done fun fr23 hf24 => ?_
 have h1 := (congrFun hf24 1).trans h1
 have h5 := (congrFun hf24 5).trans h5
 have h6 := (congrFun hf24 6).trans h6
 have h16 := (congrFun hf24 16).trans h16
 have h17 : fr23 17 = (vB y22) := (congrFun hf24 17).trans rfl
 clear hf24
 refine thenQ.n ?_
 rcases if_some hr with ⟨hc25, hr⟩ | ⟨hc28, hr⟩
 ·refine W.condT h17 hc25 (W.region ?_)
  refine sx rfl (pAssign (v := (vI 2)) rfl rfl) ?_
  refine SeqW.done fun fr26 hf27 => ?_
  have h1 := (congrFun hf27 1).trans h1
  have h5 : fr26 5 = (vI 2) := (congrFun hf27 5).trans rfl
  have h6 := (congrFun hf27 6).trans h6
  clear hf27
  refine blockQ.n ?_
  obtain rfl := Option.some.inj hr
  exact ⟨z, hz, st, rfl, h5, h6, bx1, trivial⟩
 ·refine W.condF h17 hc28 (W.seq (W.region ?_))
  refine sx rfl (pEql (k := .i64) (a := x16) (b := 3) rfl h16 rfl) ?_
  obtain ⟨y29, hy29, hr⟩ := lt_some hr
  refine sx rfl (pAssign rfl (congrArg vB hy29)) ?_
  refine SeqW.done fun fr30 hf31 => ?_
  have h1 := (congrFun hf31 1).trans h1
  have h5 := (congrFun hf31 5).trans h5
  have h6 := (congrFun hf31 6).trans h6
  have h19 : fr30 19 = (vB y29) := (congrFun hf31 19).trans rfl
  clear hf31
  refine thenQ.n ?_
  rcases if_some hr with ⟨hc32, hr⟩ | ⟨hc35, hr⟩
  ·refine W.condT h19 hc32 (W.region ?_)
   refine sx rfl (pAssign (v := (vI 6)) rfl rfl) ?_
   refine sx rfl (pAssign (v := (vI 120)) rfl rfl) ?_
   refine SeqW.done fun fr33 hf34 => ?_
   have h1 := (congrFun hf34 1).trans h1
   have h5 : fr33 5 = (vI 6) := (congrFun hf34 5).trans rfl
   have h6 : fr33 6 = (vI 120) := (congrFun hf34 6).trans rfl
   clear hf34
   refine blockQ.n ?_
   obtain rfl := Option.some.inj hr
   exact ⟨z, hz, st, rfl, h5, h6, bx1, trivial⟩
  ·refine W.condF h19 hc35 (W.skip ?_)
   refine blockQ.n ?_
   obtain rfl := Option.some.inj hr
   exact ⟨z, hz, st, rfl, h5, h6, bx1, trivial⟩

theorem u_r06_Valid_1 {N : Nat}  {z0 z : Nat → Blk} {e m : Mem} {k : Option Nat} {fr : Nat → Value} {x1 : Wagon} {x6 : Int} {b1 : Nat} (hz : Zx e.next z0 z) (st : St z e m k) (h1 : fr 1 = (vP b1)) (bx1 : Bx z e m k b1 [(str x1.number), (vI x1.length), (vI x1.axles), (vI x1.mass), (vI x1.brake), (vI x1.goods), (vB x1.gentle), (str x1.dest)] 30) (h6 : fr 6 = (vI x6)) {r : Bool} (hr : r06_Valid_1 N x1 x6 = some r) : W Try.prog (sub (bodyOf Try.f37) [1, 1, 1, 1, 1, 0, 0, 1, 1, 0]) (fun ex fr' m' => ∃ z', Zx e.next z0 z' ∧ St z' e m' k ∧ ex = AExit.normal ∧ fr' 26 = (vB r) ∧ Bx z' e m' k b1 [(str x1.number), (vI x1.length), (vI x1.axles), (vI x1.mass), (vI x1.brake), (vI x1.goods), (vB x1.gentle), (str x1.dest)] 30 ∧ True) fr m := by
 unfold r06_Valid_1 at hr
 refine W.region ?_
 refine SeqW.consX rfl (kField rfl Try.underlying30 rfl Try.type3 rfl h1 rfl ?_)
 refine SeqW.consX rfl (kLoad rfl Try.underlying3 rfl rfl (bx1.load (v := (vI x1.length)) rfl) ?_)
 refine sx rfl (pMove (v := (vI x6)) rfl h6) ?_
 refine sx rfl (pLss (k := .i64) (a := x1.length) (b := x6) rfl rfl rfl) ?_
 refine sx rfl (pMove (v := (vB (decide (x1.length < x6)))) rfl rfl) ?_
 rcases if_some hr with ⟨hc51, hr⟩ | ⟨hc54, hr⟩
 ·refine kx rfl rfl rfl hc51 ?_
  iterate 2 refine kx rfl rfl rfl hc51 ?_
  refine sx rfl (pPick (t := true) (v := (vB true)) rfl ((congrArg vB hc51)) rfl) ?_
  refine sx rfl (pMove (v := (vB true)) rfl rfl) ?_
  iterate 3 refine kx rfl rfl rfl rfl ?_
  refine sx rfl (pPick (t := true) (v := (vB true)) rfl ((congrArg vB (rfl : true = true))) rfl) ?_
  refine sx rfl (pMove (v := (vB true)) rfl rfl) ?_
  iterate 3 refine kx rfl rfl rfl rfl ?_
  refine sx rfl (pPick (t := true) (v := (vB true)) rfl ((congrArg vB (rfl : true = true))) rfl) ?_
  refine sx rfl (pMove (v := (vB true)) rfl rfl) ?_
  iterate 3 refine kx rfl rfl rfl rfl ?_
  refine sx rfl (pPick (t := true) (v := (vB true)) rfl ((congrArg vB (rfl : true = true))) rfl) ?_
  refine sx rfl (pMove (v := (vB true)) rfl rfl) ?_
  iterate 5 refine kx rfl rfl rfl rfl ?_
  refine sx rfl (pPick (t := true) (v := (vB true)) rfl ((congrArg vB (rfl : true = true))) rfl) ?_
  refine sx rfl (pMove (v := (vB true)) rfl rfl) ?_
  iterate 3 refine kx rfl rfl rfl rfl ?_
  refine sx rfl (pPick (t := true) (v := (vB true)) rfl ((congrArg vB (rfl : true = true))) rfl) ?_
  refine sx rfl (pMove (v := (vB true)) rfl rfl) ?_
  iterate 3 refine kx rfl rfl rfl rfl ?_
  refine sx rfl (pPick (t := true) (v := (vB true)) rfl ((congrArg vB (rfl : true = true))) rfl) ?_
  refine sx rfl (pAssign (v := (vB true)) rfl rfl) ?_
  refine SeqW.done fun fr52 hf53 => ?_
  have h1 := (congrFun hf53 1).trans h1
  have h26 : fr52 26 = (vB true) := (congrFun hf53 26).trans rfl
  clear hf53
  obtain rfl := Option.some.inj hr
  exact ⟨z, hz, st, rfl, h26, bx1, trivial⟩
 ·refine SeqW.consG rfl rfl rfl hc54 (kField rfl Try.underlying30 rfl Try.type3 rfl h1 rfl ?_)
  refine SeqW.consG rfl rfl rfl hc54 (kLoad rfl Try.underlying3 rfl rfl (bx1.load (v := (vI x1.length)) rfl) ?_)
  refine SeqW.consG rfl rfl rfl hc54 (StepX.pure (pGtr (k := .i64) (a := x1.length) (b := 400) rfl rfl rfl) ?_)
  refine sx rfl (pPick (t := false) (v := (vB (decide (400 < x1.length)))) rfl ((congrArg vB hc54)) rfl) ?_
  refine sx rfl (pMove (v := (vB (decide (400 < x1.length)))) rfl rfl) ?_
  rcases if_some hr with ⟨hc55, hr⟩ | ⟨hc58, hr⟩
  ·refine kx rfl rfl rfl hc55 ?_
   iterate 2 refine kx rfl rfl rfl hc55 ?_
   refine sx rfl (pPick (t := true) (v := (vB true)) rfl ((congrArg vB hc55)) rfl) ?_
   refine sx rfl (pMove (v := (vB true)) rfl rfl) ?_
   iterate 3 refine kx rfl rfl rfl rfl ?_
   refine sx rfl (pPick (t := true) (v := (vB true)) rfl ((congrArg vB (rfl : true = true))) rfl) ?_
   refine sx rfl (pMove (v := (vB true)) rfl rfl) ?_
   iterate 3 refine kx rfl rfl rfl rfl ?_
   refine sx rfl (pPick (t := true) (v := (vB true)) rfl ((congrArg vB (rfl : true = true))) rfl) ?_
   refine sx rfl (pMove (v := (vB true)) rfl rfl) ?_
   iterate 5 refine kx rfl rfl rfl rfl ?_
   refine sx rfl (pPick (t := true) (v := (vB true)) rfl ((congrArg vB (rfl : true = true))) rfl) ?_
   refine sx rfl (pMove (v := (vB true)) rfl rfl) ?_
   iterate 3 refine kx rfl rfl rfl rfl ?_
   refine sx rfl (pPick (t := true) (v := (vB true)) rfl ((congrArg vB (rfl : true = true))) rfl) ?_
   refine sx rfl (pMove (v := (vB true)) rfl rfl) ?_
   iterate 3 refine kx rfl rfl rfl rfl ?_
   refine sx rfl (pPick (t := true) (v := (vB true)) rfl ((congrArg vB (rfl : true = true))) rfl) ?_
   refine sx rfl (pAssign (v := (vB true)) rfl rfl) ?_
   refine SeqW.done fun fr56 hf57 => ?_
   have h1 := (congrFun hf57 1).trans h1
   have h26 : fr56 26 = (vB true) := (congrFun hf57 26).trans rfl
   clear hf57
   obtain rfl := Option.some.inj hr
   exact ⟨z, hz, st, rfl, h26, bx1, trivial⟩
  ·refine SeqW.consG rfl rfl rfl hc58 (kField rfl Try.underlying30 rfl Try.type3 rfl h1 rfl ?_)
   refine SeqW.consG rfl rfl rfl hc58 (kLoad rfl Try.underlying3 rfl rfl (bx1.load (v := (vI x1.mass)) rfl) ?_)
   refine SeqW.consG rfl rfl rfl hc58 (StepX.pure (pLss (k := .i64) (a := x1.mass) (b := 50) rfl rfl rfl) ?_)
   refine sx rfl (pPick (t := false) (v := (vB (decide (x1.mass < 50)))) rfl ((congrArg vB hc58)) rfl) ?_
   refine sx rfl (pMove (v := (vB (decide (x1.mass < 50)))) rfl rfl) ?_
   rcases if_some hr with ⟨hc59, hr⟩ | ⟨hc62, hr⟩
   ·refine kx rfl rfl rfl hc59 ?_
    iterate 2 refine kx rfl rfl rfl hc59 ?_
    refine sx rfl (pPick (t := true) (v := (vB true)) rfl ((congrArg vB hc59)) rfl) ?_
    refine sx rfl (pMove (v := (vB true)) rfl rfl) ?_
    iterate 3 refine kx rfl rfl rfl rfl ?_
    refine sx rfl (pPick (t := true) (v := (vB true)) rfl ((congrArg vB (rfl : true = true))) rfl) ?_
    refine sx rfl (pMove (v := (vB true)) rfl rfl) ?_
    iterate 5 refine kx rfl rfl rfl rfl ?_
    refine sx rfl (pPick (t := true) (v := (vB true)) rfl ((congrArg vB (rfl : true = true))) rfl) ?_
    refine sx rfl (pMove (v := (vB true)) rfl rfl) ?_
    iterate 3 refine kx rfl rfl rfl rfl ?_
    refine sx rfl (pPick (t := true) (v := (vB true)) rfl ((congrArg vB (rfl : true = true))) rfl) ?_
    refine sx rfl (pMove (v := (vB true)) rfl rfl) ?_
    iterate 3 refine kx rfl rfl rfl rfl ?_
    refine sx rfl (pPick (t := true) (v := (vB true)) rfl ((congrArg vB (rfl : true = true))) rfl) ?_
    refine sx rfl (pAssign (v := (vB true)) rfl rfl) ?_
    refine SeqW.done fun fr60 hf61 => ?_
    have h1 := (congrFun hf61 1).trans h1
    have h26 : fr60 26 = (vB true) := (congrFun hf61 26).trans rfl
    clear hf61
    obtain rfl := Option.some.inj hr
    exact ⟨z, hz, st, rfl, h26, bx1, trivial⟩
   ·refine SeqW.consG rfl rfl rfl hc62 (kField rfl Try.underlying30 rfl Try.type3 rfl h1 rfl ?_)
    refine SeqW.consG rfl rfl rfl hc62 (kLoad rfl Try.underlying3 rfl rfl (bx1.load (v := (vI x1.mass)) rfl) ?_)
    refine SeqW.consG rfl rfl rfl hc62 (StepX.pure (pGtr (k := .i64) (a := x1.mass) (b := 2000) rfl rfl rfl) ?_)
    refine sx rfl (pPick (t := false) (v := (vB (decide (2000 < x1.mass)))) rfl ((congrArg vB hc62)) rfl) ?_
    refine sx rfl (pMove (v := (vB (decide (2000 < x1.mass)))) rfl rfl) ?_
    rcases if_some hr with ⟨hc63, hr⟩ | ⟨hc66, hr⟩
    ·refine kx rfl rfl rfl hc63 ?_
     iterate 2 refine kx rfl rfl rfl hc63 ?_
     refine sx rfl (pPick (t := true) (v := (vB true)) rfl ((congrArg vB hc63)) rfl) ?_
     refine sx rfl (pMove (v := (vB true)) rfl rfl) ?_
     iterate 5 refine kx rfl rfl rfl rfl ?_
     refine sx rfl (pPick (t := true) (v := (vB true)) rfl ((congrArg vB (rfl : true = true))) rfl) ?_
     refine sx rfl (pMove (v := (vB true)) rfl rfl) ?_
     iterate 3 refine kx rfl rfl rfl rfl ?_
     refine sx rfl (pPick (t := true) (v := (vB true)) rfl ((congrArg vB (rfl : true = true))) rfl) ?_
     refine sx rfl (pMove (v := (vB true)) rfl rfl) ?_
     iterate 3 refine kx rfl rfl rfl rfl ?_
     refine sx rfl (pPick (t := true) (v := (vB true)) rfl ((congrArg vB (rfl : true = true))) rfl) ?_
     refine sx rfl (pAssign (v := (vB true)) rfl rfl) ?_
     refine SeqW.done fun fr64 hf65 => ?_
     have h1 := (congrFun hf65 1).trans h1
     have h26 : fr64 26 = (vB true) := (congrFun hf65 26).trans rfl
     clear hf65
     obtain rfl := Option.some.inj hr
     exact ⟨z, hz, st, rfl, h26, bx1, trivial⟩
    ·refine SeqW.consG rfl rfl rfl hc66 (kField rfl Try.underlying30 rfl Try.type3 rfl h1 rfl ?_)
     refine SeqW.consG rfl rfl rfl hc66 (kLoad rfl Try.underlying3 rfl rfl (bx1.load (v := (vI x1.brake)) rfl) ?_)
     refine SeqW.consG rfl rfl rfl hc66 (StepX.pure (pLss (k := .i64) (a := x1.brake) (b := 0) rfl rfl rfl) ?_)
     refine sx rfl (pPick (t := false) (v := (vB (decide (x1.brake < 0)))) rfl ((congrArg vB hc66)) rfl) ?_
     refine sx rfl (pMove (v := (vB (decide (x1.brake < 0)))) rfl rfl) ?_
     rcases if_some hr with ⟨hc67, hr⟩ | ⟨hc70, hr⟩
     ·refine kx rfl rfl rfl hc67 ?_
      iterate 4 refine kx rfl rfl rfl hc67 ?_
      refine sx rfl (pPick (t := true) (v := (vB true)) rfl ((congrArg vB hc67)) rfl) ?_
      refine sx rfl (pMove (v := (vB true)) rfl rfl) ?_
      iterate 3 refine kx rfl rfl rfl rfl ?_
      refine sx rfl (pPick (t := true) (v := (vB true)) rfl ((congrArg vB (rfl : true = true))) rfl) ?_
      refine sx rfl (pMove (v := (vB true)) rfl rfl) ?_
      iterate 3 refine kx rfl rfl rfl rfl ?_
      refine sx rfl (pPick (t := true) (v := (vB true)) rfl ((congrArg vB (rfl : true = true))) rfl) ?_
      refine sx rfl (pAssign (v := (vB true)) rfl rfl) ?_
      refine SeqW.done fun fr68 hf69 => ?_
      have h1 := (congrFun hf69 1).trans h1
      have h26 : fr68 26 = (vB true) := (congrFun hf69 26).trans rfl
      clear hf69
      obtain rfl := Option.some.inj hr
      exact ⟨z, hz, st, rfl, h26, bx1, trivial⟩
     ·refine SeqW.consG rfl rfl rfl hc70 (kField rfl Try.underlying30 rfl Try.type3 rfl h1 rfl ?_)
      refine SeqW.consG rfl rfl rfl hc70 (kLoad rfl Try.underlying3 rfl rfl (bx1.load (v := (vI x1.brake)) rfl) ?_)
      refine SeqW.consG rfl rfl rfl hc70 (kField rfl Try.underlying30 rfl Try.type3 rfl h1 rfl ?_)
      refine SeqW.consG rfl rfl rfl hc70 (kLoad rfl Try.underlying3 rfl rfl (bx1.load (v := (vI x1.mass)) rfl) ?_)
      refine SeqW.consG rfl rfl rfl hc70 (StepX.pure (pGtr (k := .i64) (a := x1.brake) (b := x1.mass) rfl rfl rfl) ?_)
      refine sx rfl (pPick (t := false) (v := (vB (decide (x1.mass < x1.brake)))) rfl ((congrArg vB hc70)) rfl) ?_
      refine sx rfl (pMove (v := (vB (decide (x1.mass < x1.brake)))) rfl rfl) ?_
      rcases if_some hr with ⟨hc71, hr⟩ | ⟨hc74, hr⟩
      ·refine kx rfl rfl rfl hc71 ?_
       iterate 2 refine kx rfl rfl rfl hc71 ?_
       refine sx rfl (pPick (t := true) (v := (vB true)) rfl ((congrArg vB hc71)) rfl) ?_
       refine sx rfl (pMove (v := (vB true)) rfl rfl) ?_
       iterate 3 refine kx rfl rfl rfl rfl ?_
       refine sx rfl (pPick (t := true) (v := (vB true)) rfl ((congrArg vB (rfl : true = true))) rfl) ?_
       refine sx rfl (pAssign (v := (vB true)) rfl rfl) ?_
       refine SeqW.done fun fr72 hf73 => ?_
       have h1 := (congrFun hf73 1).trans h1
       have h26 : fr72 26 = (vB true) := (congrFun hf73 26).trans rfl
       clear hf73
       obtain rfl := Option.some.inj hr
       exact ⟨z, hz, st, rfl, h26, bx1, trivial⟩
      ·refine SeqW.consG rfl rfl rfl hc74 (kField rfl Try.underlying30 rfl Try.type3 rfl h1 rfl ?_)
       refine SeqW.consG rfl rfl rfl hc74 (kLoad rfl Try.underlying3 rfl rfl (bx1.load (v := (vI x1.goods)) rfl) ?_)
       refine SeqW.consG rfl rfl rfl hc74 (StepX.pure (pLss (k := .i64) (a := x1.goods) (b := 0) rfl rfl rfl) ?_)
       refine sx rfl (pPick (t := false) (v := (vB (decide (x1.goods < 0)))) rfl ((congrArg vB hc74)) rfl) ?_
       refine sx rfl (pMove (v := (vB (decide (x1.goods < 0)))) rfl rfl) ?_
       rcases if_some hr with ⟨hc75, hr⟩ | ⟨hc78, hr⟩
       ·refine kx rfl rfl rfl hc75 ?_
        iterate 2 refine kx rfl rfl rfl hc75 ?_
        refine sx rfl (pPick (t := true) (v := (vB true)) rfl ((congrArg vB hc75)) rfl) ?_
        refine sx rfl (pAssign (v := (vB true)) rfl rfl) ?_
        refine SeqW.done fun fr76 hf77 => ?_
        have h1 := (congrFun hf77 1).trans h1
        have h26 : fr76 26 = (vB true) := (congrFun hf77 26).trans rfl
        clear hf77
        obtain rfl := Option.some.inj hr
        exact ⟨z, hz, st, rfl, h26, bx1, trivial⟩
       ·refine SeqW.consG rfl rfl rfl hc78 (kField rfl Try.underlying30 rfl Try.type3 rfl h1 rfl ?_)
        refine SeqW.consG rfl rfl rfl hc78 (kLoad rfl Try.underlying3 rfl rfl (bx1.load (v := (vI x1.goods)) rfl) ?_)
        refine SeqW.consG rfl rfl rfl hc78 (StepX.pure (pGtr (k := .i64) (a := x1.goods) (b := 9) rfl rfl rfl) ?_)
        refine sx rfl (pPick (t := false) (v := (vB (decide (9 < x1.goods)))) rfl ((congrArg vB hc78)) rfl) ?_
        obtain ⟨y79, hy79, hr⟩ := lt_some hr
        refine sx rfl (pAssign rfl (congrArg vB hy79)) ?_
        refine SeqW.done fun fr80 hf81 => ?_
        have h1 := (congrFun hf81 1).trans h1
        have h26 : fr80 26 = (vB y79) := (congrFun hf81 26).trans rfl
        clear hf81
        obtain rfl := Option.some.inj hr
        exact ⟨z, hz, st, rfl, h26, bx1, trivial⟩

theorem u_r06_Valid {N : Nat}  {z0 z : Nat → Blk} {e m : Mem} {k : Option Nat} {fr : Nat → Value} {x0 : Wagon} (hz : Zx e.next z0 z) (st : St z e m k) (h0 : fr 0 = (Value.agg [(str x0.number), (vI x0.length), (vI x0.axles), (vI x0.mass), (vI x0.brake), (vI x0.goods), (vB x0.gentle), (str x0.dest)].toArray)) {r : Int} (hr : r06_Valid N x0 = some r) : W Try.prog (sub (bodyOf Try.f37) []) (fun ex fr' m' => ∃ z', Zx e.next z0 z' ∧ St z' e m' k ∧ (ex = .normal ∨ ex = .ret) ∧ fr' 2 = (vI r) ∧ True) fr m := by
 unfold r06_Valid at hr
 refine W.seq (W.region ?_)
 refine SeqW.consX rfl (kBox (v := (Value.agg [(str x0.number), (vI x0.length), (vI x0.axles), (vI x0.mass), (vI x0.brake), (vI x0.goods), (vB x0.gentle), (str x0.dest)].toArray)) rfl Try.type30 h0 rfl [(str x0.number), (vI x0.length), (vI x0.axles), (vI x0.mass), (vI x0.brake), (vI x0.goods), (vB x0.gentle), (str x0.dest)] rfl rfl st ?_)
 intro B1 m2 st X3 sm4 hap5
 refine sx rfl (pAssign (v := (vI 0)) rfl rfl) ?_
 refine SeqW.done fun fr7 hf8 => ?_
 have h1 : fr7 1 = (vP B1) := (congrFun hf8 1).trans rfl
 clear hf8
 refine thenQ.n (W.seq (W.region ?_))
 refine SeqW.consX rfl (kField rfl Try.underlying30 rfl Try.type9 rfl h1 rfl ?_)
 refine SeqW.consX rfl (kLoad rfl Try.underlying9 rfl rfl (X3.load (v := (str x0.number)) rfl) ?_)
 obtain ⟨y9, hy9, hr⟩ := bind_some hr
 refine SeqW.consX rfl (StepX.call (gCallee rfl rfl (args1 rfl)) ((c_r02_Kind (z := z) st.fz st.dead  hy9).mono ?_))
 rintro _ _ ⟨rfl, rfl⟩
 refine sx rfl (pMove (v := (Value.tuple [(vI y9.1), (vI y9.2)].toArray)) rfl rfl) ?_
 refine sx rfl (pExtract (vs := [(vI y9.1), (vI y9.2)]) (v := (vI y9.1)) rfl rfl rfl) ?_
 refine sx rfl (pExtract (vs := [(vI y9.1), (vI y9.2)]) (v := (vI y9.2)) rfl rfl rfl) ?_
 refine sx rfl (pAssign (v := (vI y9.1)) rfl rfl) ?_
 refine sx rfl (pAssign (v := (vI y9.2)) rfl rfl) ?_
 refine SeqW.done fun fr10 hf11 => ?_
 have h1 := (congrFun hf11 1).trans h1
 have h3 : fr10 3 = (vI y9.1) := (congrFun hf11 3).trans rfl
 have h4 : fr10 4 = (vI y9.2) := (congrFun hf11 4).trans rfl
 clear hf11
 refine thenQ.n (W.seq ?_)
 refine W.seq (W.region ?_)
 refine sx rfl (pMove (v := (vI y9.2)) rfl h4) ?_
 refine sx rfl (pNeq (k := .i64) (a := y9.2) (b := 0) rfl rfl rfl) ?_
 refine SeqW.done fun fr12 hf13 => ?_
 have h1 := (congrFun hf13 1).trans h1
 have h3 := (congrFun hf13 3).trans h3
 have h4 := (congrFun hf13 4).trans h4
 have h14 : fr12 14 = (vB (y9.2 != 0)) := (congrFun hf13 14).trans rfl
 clear hf13
 refine thenQ.n ?_
 rcases if_some hr with ⟨hc14, hr⟩ | ⟨hc17, hr⟩
 ·refine W.condT h14 hc14 (W.seq (W.region ?_))
  refine sx rfl (pMove (v := (vI y9.2)) rfl h4) ?_
  refine sx rfl (pAssign (v := (vI y9.2)) rfl rfl) ?_
  refine SeqW.done fun fr15 hf16 => ?_
  have h2 : fr15 2 = (vI y9.2) := (congrFun hf16 2).trans rfl
  clear hf16
  refine thenQ.n ?_
  refine W.ret ?_
  refine thenQ.r ?_
  obtain rfl := Option.some.inj hr
  exact ⟨z, hz, st, .inr rfl, h2, trivial⟩
 ·refine W.condF h14 hc17 (W.skip ?_)
  refine thenQ.n (W.seq (W.region ?_))
  refine sx rfl (pAssign (v := (vI 4)) rfl rfl) ?_
  refine sx rfl (pAssign (v := (vI 80)) rfl rfl) ?_
  refine SeqW.done fun fr18 hf19 => ?_
  have h1 := (congrFun hf19 1).trans h1
  have h3 := (congrFun hf19 3).trans h3
  have h5 : fr18 5 = (vI 4) := (congrFun hf19 5).trans rfl
  have h6 : fr18 6 = (vI 80) := (congrFun hf19 6).trans rfl
  clear hf19
  refine thenQ.n (W.seq ?_)
  refine W.seq (W.region ?_)
  refine sx rfl (pMove (v := (vI y9.1)) rfl h3) ?_
  refine SeqW.done fun fr20 hf21 => ?_
  have h1 := (congrFun hf21 1).trans h1
  have h5 := (congrFun hf21 5).trans h5
  have h6 := (congrFun hf21 6).trans h6
  have h16 : fr20 16 = (vI y9.1) := (congrFun hf21 16).trans rfl
  clear hf21
  refine thenQ.n ?_
  obtain ⟨y36, hy36, hr⟩ := bind_some hr
  refine W.keep (u_r06_Valid_0 (x1 := x0) (Zx.refl _) st h1 X3 h5 h6 h16 hy36) ?_
  rintro ex42 fr37 m38 hk40 ⟨z39, hz41, st, rfl, h5, h6, O43, -⟩
  have h1 := (hk40 1 rfl).trans h1
  replace hz := hz.trans hz41
  clear hk40
  refine thenQ.n (W.seq ?_)
  refine W.block ?_
  refine W.seq (W.region ?_)
  refine SeqW.consX rfl (kField rfl Try.underlying30 rfl Try.type3 rfl h1 rfl ?_)
  refine SeqW.consX rfl (kLoad rfl Try.underlying3 rfl rfl (O43.load (v := (vI x0.axles)) rfl) ?_)
  refine sx rfl (pMove (v := (vI y36.1)) rfl h5) ?_
  refine sx rfl (pNeq (k := .i64) (a := x0.axles) (b := y36.1) rfl rfl rfl) ?_
  obtain ⟨y44, hy44, hr⟩ := lt_some hr
  refine sx rfl (pAssign rfl (congrArg vB hy44)) ?_
  refine SeqW.done fun fr45 hf46 => ?_
  have h1 := (congrFun hf46 1).trans h1
  have h6 := (congrFun hf46 6).trans h6
  have h21 : fr45 21 = (vB y44) := (congrFun hf46 21).trans rfl
  clear hf46
  refine thenQ.n ?_
  rcases if_some hr with ⟨hc47, hr⟩ | ⟨hc50, hr⟩
  ·refine W.condT h21 hc47 (W.seq (W.region ?_))
   refine sx rfl (pAssign (v := (vI 1)) rfl rfl) ?_
   refine SeqW.done fun fr48 hf49 => ?_
   have h2 : fr48 2 = (vI 1) := (congrFun hf49 2).trans rfl
   clear hf49
   refine thenQ.n ?_
   refine W.ret ?_
   refine blockQ.r ?_
   refine thenQ.r ?_
   obtain rfl := Option.some.inj hr
   exact ⟨z39, hz, st, .inr rfl, h2, trivial⟩
  ·refine W.condF h21 hc50 (W.seq ?_)
   obtain ⟨y82, hy82, hr⟩ := bind_some hr
   refine W.keep (u_r06_Valid_1 (x1 := x0) (Zx.refl _) st h1 O43 h6 hy82) ?_
   rintro ex88 fr83 m84 hk86 ⟨z85, hz87, st, rfl, h26, O89, -⟩
   have h1 := (hk86 1 rfl).trans h1
   replace hz := hz.trans hz87
   clear hk86
   refine thenQ.n ?_
   rcases if_some hr with ⟨hc90, hr⟩ | ⟨hc93, hr⟩
   ·refine W.condT h26 hc90 (W.seq (W.region ?_))
    refine sx rfl (pAssign (v := (vI 2)) rfl rfl) ?_
    refine SeqW.done fun fr91 hf92 => ?_
    have h2 : fr91 2 = (vI 2) := (congrFun hf92 2).trans rfl
    clear hf92
    refine thenQ.n ?_
    refine W.ret ?_
    refine blockQ.r ?_
    refine thenQ.r ?_
    obtain rfl := Option.some.inj hr
    exact ⟨z85, hz, st, .inr rfl, h2, trivial⟩
   ·refine W.condF h26 hc93 (W.seq (W.region ?_))
    refine SeqW.consX rfl (kField rfl Try.underlying30 rfl Try.type9 rfl h1 rfl ?_)
    refine SeqW.consX rfl (kLoad rfl Try.underlying9 rfl rfl (O89.load (v := (str x0.dest)) rfl) ?_)
    obtain ⟨y94, hy94, hr⟩ := bind_some hr
    refine SeqW.consX rfl (StepX.call (gCallee rfl rfl (args1 rfl)) ((c_r06_Name (z := z85) st.fz st.dead  hy94).mono ?_))
    rintro _ _ ⟨rfl, rfl⟩
    refine sx rfl (pNot (b := y94) rfl rfl) ?_
    obtain ⟨y95, hy95, hr⟩ := lt_some hr
    refine sx rfl (pAssign rfl (congrArg vB hy95)) ?_
    refine SeqW.done fun fr96 hf97 => ?_
    have h68 : fr96 68 = (vB y95) := (congrFun hf97 68).trans rfl
    clear hf97
    refine thenQ.n ?_
    rcases if_some hr with ⟨hc98, hr⟩ | ⟨hc101, hr⟩
    ·refine W.condT h68 hc98 (W.seq (W.region ?_))
     refine sx rfl (pAssign (v := (vI 7)) rfl rfl) ?_
     refine SeqW.done fun fr99 hf100 => ?_
     have h2 : fr99 2 = (vI 7) := (congrFun hf100 2).trans rfl
     clear hf100
     refine thenQ.n ?_
     refine W.ret ?_
     refine blockQ.r ?_
     refine thenQ.r ?_
     obtain rfl := Option.some.inj hr
     exact ⟨z85, hz, st, .inr rfl, h2, trivial⟩
    ·refine W.condF h68 hc101 (W.skip ?_)
     refine blockQ.n ?_
     refine thenQ.n (W.seq (W.region ?_))
     refine sx rfl (pAssign (v := (vI 0)) rfl rfl) ?_
     refine SeqW.done fun fr102 hf103 => ?_
     have h2 : fr102 2 = (vI 0) := (congrFun hf103 2).trans rfl
     clear hf103
     refine thenQ.n ?_
     refine W.ret ?_
     obtain rfl := Option.some.inj hr
     exact ⟨z85, hz, st, .inr rfl, h2, trivial⟩

theorem c_r06_Valid {N : Nat} {z : Nat → Blk} {m : Mem} {x0 : Wagon} (fz : Fz z m) (hd : ∀ b, m.next ≤ b → m.blk b = .dead)  {r : Int} (hr : r06_Valid N x0 = some r) : CallW Try.prog 37 #[(Value.agg [(str x0.number), (vI x0.length), (vI x0.axles), (vI x0.mass), (vI x0.brake), (vI x0.goods), (vB x0.gentle), (str x0.dest)].toArray)] m fun v m' => v = (vI r) ∧ m' = m := by
 refine CallW.flat Try.func37 rfl (by kernel_rfl) (Nat.le_of_ble_eq_true rfl) rfl (z := z) (fun fr hf => ?_)
 have h0 : fr 0 = _ := hf 0 _ rfl
 refine (u_r06_Valid (k := none) (Zx.refl _) (St.start fz hd) h0 hr).mono ?_
 rintro ex fr' m' ⟨z', hz, st, he, h2, -⟩
 exact ⟨he, z', st, [(vI r)], ⟨h2.symm, trivial⟩, .inl rfl, rfl⟩

/-! ### humpyard/humpyardref07.Offsets -/

theorem u_r07_Offsets {N : Nat}  {z0 z : Nat → Blk} {e m : Mem} {k : Option Nat} {fr : Nat → Value} {x0 : Wagon} (hz : Zx e.next z0 z) (st : St z e m k) (h0 : fr 0 = (Value.agg [(str x0.number), (vI x0.length), (vI x0.axles), (vI x0.mass), (vI x0.brake), (vI x0.goods), (vB x0.gentle), (str x0.dest)].toArray)) {r : List Int × Int} (hr : r07_Offsets N x0 = some r) : W Try.prog (sub (bodyOf Try.f26) []) (fun ex fr' m' => ∃ z', Zx e.next z0 z' ∧ St z' e m' k ∧ (ex = .normal ∨ ex = .ret) ∧ ∃ (w2 : Value), fr' 2 = w2 ∧ SlR (TInt 3 .i64) z' r.1 w2 ∧ fr' 3 = (vI r.2) ∧ True) fr m := by
 unfold r07_Offsets at hr
 refine W.seq (W.region ?_)
 refine SeqW.consX rfl (kBox (v := (Value.agg [(str x0.number), (vI x0.length), (vI x0.axles), (vI x0.mass), (vI x0.brake), (vI x0.goods), (vB x0.gentle), (str x0.dest)].toArray)) rfl Try.type30 h0 rfl [(str x0.number), (vI x0.length), (vI x0.axles), (vI x0.mass), (vI x0.brake), (vI x0.goods), (vB x0.gentle), (str x0.dest)] rfl rfl st ?_)
 intro B1 m2 st X3 sm4 hap5
 refine sx rfl (pAssign (v := (Value.slice none 0 0)) rfl rfl) ?_
 refine sx rfl (pAssign (v := (vI 0)) rfl rfl) ?_
 refine SeqW.done fun fr7 hf8 => ?_
 have h1 : fr7 1 = (vP B1) := (congrFun hf8 1).trans rfl
 clear hf8
 refine thenQ.n (W.seq ?_)
 refine W.seq (W.region ?_)
 refine SeqW.consX rfl (kLoadA rfl Try.underlying30 rfl Try.type30 rfl h1 X3.loads ?_)
 obtain ⟨y9, hy9, hr⟩ := bind_some hr
 refine SeqW.consX rfl (StepX.call (gCallee rfl rfl (args1 rfl)) ((c_r06_Valid (x0 := x0) (z := z) st.fz st.dead  hy9).mono ?_))
 rintro _ _ ⟨rfl, rfl⟩
 refine sx rfl (pAssign (v := (vI y9)) rfl rfl) ?_
 refine SeqW.done fun fr10 hf11 => ?_
 have h1 := (congrFun hf11 1).trans h1
 have h4 : fr10 4 = (vI y9) := (congrFun hf11 4).trans rfl
 clear hf11
 refine thenQ.n (W.seq (W.region ?_))
 refine sx rfl (pMove (v := (vI y9)) rfl h4) ?_
 refine sx rfl (pNeq (k := .i64) (a := y9) (b := 0) rfl rfl rfl) ?_
 refine SeqW.done fun fr12 hf13 => ?_
 have h1 := (congrFun hf13 1).trans h1
 have h4 := (congrFun hf13 4).trans h4
 have h11 : fr12 11 = (vB (y9 != 0)) := (congrFun hf13 11).trans rfl
 clear hf13
 refine thenQ.n ?_
 rcases if_some hr with ⟨hc14, hr⟩ | ⟨hc17, hr⟩
 ·refine W.condT h11 hc14 (W.seq (W.region ?_))
  refine sx rfl (pMove (v := (vI y9)) rfl h4) ?_
  refine sx rfl (pAssign (v := (Value.slice none 0 0)) rfl rfl) ?_
  refine sx rfl (pAssign (v := (vI y9)) rfl rfl) ?_
  refine SeqW.done fun fr15 hf16 => ?_
  have h2 : fr15 2 = (Value.slice none 0 0) := (congrFun hf16 2).trans rfl
  have h3 : fr15 3 = (vI y9) := (congrFun hf16 3).trans rfl
  clear hf16
  refine thenQ.n ?_
  refine W.ret ?_
  refine thenQ.r ?_
  obtain rfl := Option.some.inj hr
  exact ⟨z, hz, st, .inr rfl, (Value.slice none 0 0), h2, SlR.nil, h3, trivial⟩
 ·refine W.condF h11 hc17 (W.skip ?_)
  refine thenQ.n (W.seq (W.region ?_))
  refine SeqW.consX rfl (kField rfl Try.underlying30 rfl Try.type3 rfl h1 rfl ?_)
  refine SeqW.consX rfl (kLoad rfl Try.underlying3 rfl rfl (X3.load (v := (vI x0.length)) rfl) ?_)
  refine sx rfl (pMul (k := .i64) (a := 10) (b := x0.length) rfl rfl rfl) ?_
  obtain ⟨y18, hy18, hr⟩ := lt_some hr
  refine sx rfl (pAssign rfl (congrArg (Value.int .i64) hy18)) ?_
  refine SeqW.done fun fr19 hf20 => ?_
  have h1 := (congrFun hf20 1).trans h1
  have h5 : fr19 5 = (vI y18) := (congrFun hf20 5).trans rfl
  clear hf20
  refine thenQ.n (W.seq (W.region ?_))
  refine SeqW.consX rfl (kField rfl Try.underlying30 rfl Try.type9 rfl h1 rfl ?_)
  refine SeqW.consX rfl (kLoad rfl Try.underlying9 rfl rfl (X3.load (v := (str x0.number)) rfl) ?_)
  obtain ⟨y21, hy21, hr⟩ := bind_some hr
  refine SeqW.consX rfl (StepX.call (gCallee rfl rfl (args1 rfl)) ((c_r02_Kind (z := z) st.fz st.dead  hy21).mono ?_))
  rintro _ _ ⟨rfl, rfl⟩
  refine sx rfl (pMove (v := (Value.tuple [(vI y21.1), (vI y21.2)].toArray)) rfl rfl) ?_
  refine sx rfl (pExtract (vs := [(vI y21.1), (vI y21.2)]) (v := (vI y21.1)) rfl rfl rfl) ?_
  refine sx rfl (pExtract (vs := [(vI y21.1), (vI y21.2)]) (v := (vI y21.2)) rfl rfl rfl) ?_
  refine sx rfl (pAssign (v := (vI y21.1)) rfl rfl) ?_
  refine sx rfl (pAssign (v := (vI y21.2)) rfl rfl) ?_
  refine SeqW.done fun fr22 hf23 => ?_
  have h5 := (congrFun hf23 5).trans h5
  have h6 : fr22 6 = (vI y21.1) := (congrFun hf23 6).trans rfl
  clear hf23
  refine thenQ.n (W.seq ?_)
  refine W.seq (W.region ?_)
  refine sx rfl (pMove (v := (vI y21.1)) rfl h6) ?_
  refine SeqW.done fun fr24 hf25 => ?_
  have h5 := (congrFun hf25 5).trans h5
  have h22 : fr24 22 = (vI y21.1) := (congrFun hf25 22).trans rfl
  clear hf25
  refine thenQ.n ?_
  refine W.block ?_
  refine W.seq (W.region ?_)
  refine sx rfl (pEql (k := .i64) (a := y21.1) (b := 1) rfl h22 rfl) ?_
  obtain ⟨y26, hy26, hr⟩ := lt_some hr
  refine sx rfl (pAssign rfl (congrArg vB hy26)) ?_
  refine SeqW.done fun fr27 hf28 => ?_
  have h5 := (congrFun hf28 5).trans h5
  have h22 := (congrFun hf28 22).trans h22
  have h23 : fr27 23 = (vB y26) := (congrFun hf28 23).trans rfl
  clear hf28
  refine thenQ.n ?_
  rcases if_some hr with ⟨hc29, hr⟩ | ⟨hc42, hr⟩
  ·refine W.condT h23 hc29 (W.seq (W.region ?_))
   refine sx rfl (pMove (v := (vI y18)) rfl h5) ?_
   refine sx rfl (pSub (k := .i64) (a := y18) (b := 330) rfl rfl rfl) ?_
   refine sx rfl (pMove (v := (vI y18)) rfl h5) ?_
   refine sx rfl (pSub (k := .i64) (a := y18) (b := 130) rfl rfl rfl) ?_
   refine SeqW.consX rfl (kBuild (T := (TInt 3 .i64)) rfl Try.underlying22 Try.type3 rfl rfl rfl rfl ([130, 330, (IntKind.wrap .i64 (y18 - 330)), (IntKind.wrap .i64 (y18 - 130))] : List Int) [[(vI 130)], [(vI 330)], [(vI (IntKind.wrap .i64 (y18 - 330)))], [(vI (IntKind.wrap .i64 (y18 - 130)))]] rfl rfl rfl (BuildOk.mk (w := (vI 130)) rfl rfl rfl rfl (BuildOk.mk (w := (vI 330)) rfl rfl rfl rfl (BuildOk.mk (w := (vI (IntKind.wrap .i64 (y18 - 330)))) rfl rfl rfl rfl (BuildOk.mk (w := (vI (IntKind.wrap .i64 (y18 - 130)))) rfl rfl rfl rfl trivial)))) st ?_)
   intro V30 m31 st O32 sm33 hap34
   refine sx rfl (pAssign (v := V30) rfl rfl) ?_
   refine sx rfl (pAssign (v := (vI 0)) rfl rfl) ?_
   refine SeqW.done fun fr36 hf37 => ?_
   have h2 : fr36 2 = V30 := (congrFun hf37 2).trans rfl
   have h3 : fr36 3 = (vI 0) := (congrFun hf37 3).trans rfl
   clear hf37
   refine thenQ.n ?_
   refine W.ret ?_
   refine blockQ.r ?_
   refine thenQ.r ?_
   obtain ⟨z38, hz39, st, Q40, hl41⟩ := O32.freeze st
   replace hz := hz.trans hz39
   obtain rfl := Option.some.inj hr
   exact ⟨z38, hz, st, .inr rfl, V30, h2, Q40, h3, trivial⟩
  ·refine W.condF h23 hc42 (W.seq (W.region ?_))
   refine sx rfl (pEql (k := .i64) (a := y21.1) (b := 2) rfl h22 rfl) ?_
   obtain ⟨y43, hy43, hr⟩ := lt_some hr
   refine sx rfl (pAssign rfl (congrArg vB hy43)) ?_
   refine SeqW.done fun fr44 hf45 => ?_
   have h5 := (congrFun hf45 5).trans h5
   have h22 := (congrFun hf45 22).trans h22
   have h30 : fr44 30 = (vB y43) := (congrFun hf45 30).trans rfl
   clear hf45
   refine thenQ.n ?_
   rcases if_some hr with ⟨hc46, hr⟩ | ⟨hc59, hr⟩
   ·refine W.condT h30 hc46 (W.seq (W.region ?_))
    refine sx rfl (pMove (v := (vI y18)) rfl h5) ?_
    refine sx rfl (pQuo (k := .i64) (a := y18) (b := 4) rfl rfl rfl (by decide)) ?_
    refine sx rfl (pMove (v := (vI y18)) rfl h5) ?_
    refine sx rfl (pMove (v := (vI y18)) rfl h5) ?_
    refine sx rfl (pQuo (k := .i64) (a := y18) (b := 4) rfl rfl rfl (by decide)) ?_
    refine sx rfl (pSub (k := .i64) (a := y18) (b := (IntKind.wrap .i64 (Int.tdiv y18 4))) rfl rfl rfl) ?_
    refine SeqW.consX rfl (kBuild (T := (TInt 3 .i64)) rfl Try.underlying22 Try.type3 rfl rfl rfl rfl ([(IntKind.wrap .i64 (Int.tdiv y18 4)), (IntKind.wrap .i64 (y18 - (IntKind.wrap .i64 (Int.tdiv y18 4))))] : List Int) [[(vI (IntKind.wrap .i64 (Int.tdiv y18 4)))], [(vI (IntKind.wrap .i64 (y18 - (IntKind.wrap .i64 (Int.tdiv y18 4)))))]] rfl rfl rfl (BuildOk.mk (w := (vI (IntKind.wrap .i64 (Int.tdiv y18 4)))) rfl rfl rfl rfl (BuildOk.mk (w := (vI (IntKind.wrap .i64 (y18 - (IntKind.wrap .i64 (Int.tdiv y18 4)))))) rfl rfl rfl rfl trivial)) st ?_)
    intro V47 m48 st O49 sm50 hap51
    refine sx rfl (pAssign (v := V47) rfl rfl) ?_
    refine sx rfl (pAssign (v := (vI 0)) rfl rfl) ?_
    refine SeqW.done fun fr53 hf54 => ?_
    have h2 : fr53 2 = V47 := (congrFun hf54 2).trans rfl
    have h3 : fr53 3 = (vI 0) := (congrFun hf54 3).trans rfl
    clear hf54
    refine thenQ.n ?_
    refine W.ret ?_
    refine blockQ.r ?_
    refine thenQ.r ?_
    obtain ⟨z55, hz56, st, Q57, hl58⟩ := O49.freeze st
    replace hz := hz.trans hz56
    obtain rfl := Option.some.inj hr
    exact ⟨z55, hz, st, .inr rfl, V47, h2, Q57, h3, trivial⟩
   ·refine W.condF h30 hc59 (W.seq (W.region ?_))
    refine sx rfl (pEql (k := .i64) (a := y21.1) (b := 3) rfl h22 rfl) ?_
    obtain ⟨y60, hy60, hr⟩ := lt_some hr
    refine sx rfl (pAssign rfl (congrArg vB hy60)) ?_
    refine SeqW.done fun fr61 hf62 => ?_
    have h5 := (congrFun hf62 5).trans h5
    have h39 : fr61 39 = (vB y60) := (congrFun hf62 39).trans rfl
    clear hf62
    refine thenQ.n ?_
    rcases if_some hr with ⟨hc63, hr⟩ | ⟨hc76, hr⟩
    ·refine W.condT h39 hc63 (W.seq (W.region ?_))
     refine sx rfl (pMove (v := (vI y18)) rfl h5) ?_
     refine sx rfl (pSub (k := .i64) (a := y18) (b := 440) rfl rfl rfl) ?_
     refine sx rfl (pMove (v := (vI y18)) rfl h5) ?_
     refine sx rfl (pSub (k := .i64) (a := y18) (b := 280) rfl rfl rfl) ?_
     refine sx rfl (pMove (v := (vI y18)) rfl h5) ?_
     refine sx rfl (pSub (k := .i64) (a := y18) (b := 120) rfl rfl rfl) ?_
     refine SeqW.consX rfl (kBuild (T := (TInt 3 .i64)) rfl Try.underlying22 Try.type3 rfl rfl rfl rfl ([120, 280, 440, (IntKind.wrap .i64 (y18 - 440)), (IntKind.wrap .i64 (y18 - 280)), (IntKind.wrap .i64 (y18 - 120))] : List Int) [[(vI 120)], [(vI 280)], [(vI 440)], [(vI (IntKind.wrap .i64 (y18 - 440)))], [(vI (IntKind.wrap .i64 (y18 - 280)))], [(vI (IntKind.wrap .i64 (y18 - 120)))]] rfl rfl rfl (BuildOk.mk (w := (vI 120)) rfl rfl rfl rfl (BuildOk.mk (w := (vI 280)) rfl rfl rfl rfl (BuildOk.mk (w := (vI 440)) rfl rfl rfl rfl (BuildOk.mk (w := (vI (IntKind.wrap .i64 (y18 - 440)))) rfl rfl rfl rfl (BuildOk.mk (w := (vI (IntKind.wrap .i64 (y18 - 280)))) rfl rfl rfl rfl (BuildOk.mk (w := (vI (IntKind.wrap .i64 (y18 - 120)))) rfl rfl rfl rfl trivial)))))) st ?_)
     intro V64 m65 st O66 sm67 hap68
     refine sx rfl (pAssign (v := V64) rfl rfl) ?_
     refine sx rfl (pAssign (v := (vI 0)) rfl rfl) ?_
     refine SeqW.done fun fr70 hf71 => ?_
     have h2 : fr70 2 = V64 := (congrFun hf71 2).trans rfl
     have h3 : fr70 3 = (vI 0) := (congrFun hf71 3).trans rfl
     clear hf71
     refine thenQ.n ?_
     refine W.ret ?_
     refine blockQ.r ?_
     refine thenQ.r ?_
     obtain ⟨z72, hz73, st, Q74, hl75⟩ := O66.freeze st
     replace hz := hz.trans hz73
     obtain rfl := Option.some.inj hr
     exact ⟨z72, hz, st, .inr rfl, V64, h2, Q74, h3, trivial⟩
    ·refine W.condF h39 hc76 (W.skip ?_)
     refine blockQ.n ?_
     refine thenQ.n (W.seq (W.region ?_))
     refine sx rfl (pMove (v := (vI y18)) rfl h5) ?_
     refine sx rfl (pSub (k := .i64) (a := y18) (b := 330) rfl rfl rfl) ?_
     refine sx rfl (pMove (v := (vI y18)) rfl h5) ?_
     refine sx rfl (pSub (k := .i64) (a := y18) (b := 150) rfl rfl rfl) ?_
     refine SeqW.consX rfl (kBuild (T := (TInt 3 .i64)) rfl Try.underlying22 Try.type3 rfl rfl rfl rfl ([150, 330, (IntKind.wrap .i64 (y18 - 330)), (IntKind.wrap .i64 (y18 - 150))] : List Int) [[(vI 150)], [(vI 330)], [(vI (IntKind.wrap .i64 (y18 - 330)))], [(vI (IntKind.wrap .i64 (y18 - 150)))]] rfl rfl rfl (BuildOk.mk (w := (vI 150)) rfl rfl rfl rfl (BuildOk.mk (w := (vI 330)) rfl rfl rfl rfl (BuildOk.mk (w := (vI (IntKind.wrap .i64 (y18 - 330)))) rfl rfl rfl rfl (BuildOk.mk (w := (vI (IntKind.wrap .i64 (y18 - 150)))) rfl rfl rfl rfl trivial)))) st ?_)
     intro V77 m78 st O79 sm80 hap81
     refine sx rfl (pAssign (v := V77) rfl rfl) ?_
     refine sx rfl (pAssign (v := (vI 0)) rfl rfl) ?_
     refine SeqW.done fun fr83 hf84 => ?_
     have h2 : fr83 2 = V77 := (congrFun hf84 2).trans rfl
     have h3 : fr83 3 = (vI 0) := (congrFun hf84 3).trans rfl
     clear hf84
     refine thenQ.n ?_
     refine W.ret ?_
     obtain ⟨z85, hz86, st, Q87, hl88⟩ := O79.freeze st
     replace hz := hz.trans hz86
     obtain rfl := Option.some.inj hr
     exact ⟨z85, hz, st, .inr rfl, V77, h2, Q87, h3, trivial⟩

theorem c_r07_Offsets {N : Nat} {z : Nat → Blk} {m : Mem} {x0 : Wagon} (fz : Fz z m) (hd : ∀ b, m.next ≤ b → m.blk b = .dead)  {r : List Int × Int} (hr : r07_Offsets N x0 = some r) : CallW Try.prog 26 #[(Value.agg [(str x0.number), (vI x0.length), (vI x0.axles), (vI x0.mass), (vI x0.brake), (vI x0.goods), (vB x0.gentle), (str x0.dest)].toArray)] m fun v m' => ∃ z' w2, Zx m.next z z' ∧ Fz z' m' ∧ Same m m' none ∧ v = (Value.tuple [w2, (vI r.2)].toArray) ∧ SlR (TInt 3 .i64) z' r.1 w2 ∧ True := by
 refine CallW.any Try.func26 rfl (by kernel_rfl) (Nat.le_of_ble_eq_true rfl) (fun fr hf => ?_)
 have h0 : fr 0 = _ := hf 0 _ rfl
 refine (u_r07_Offsets (k := none) (Zx.refl _) (St.start fz hd) h0 hr).mono ?_
 rintro ex fr' m' ⟨z', hz, st, he, w2, h2, s2, h3, -⟩
 exact ⟨he, [w2, (vI r.2)], ⟨h2.symm, h3.symm, trivial⟩, .inr (List.forall_mem_cons.2 ⟨s2.stor.1, List.forall_mem_cons.2 ⟨rfl, fun _ h => nomatch h⟩⟩), z', w2, hz, st.fz, st.toSame, rfl, s2, trivial⟩

/-! ### humpyard/humpyardref07.Distances -/

theorem u_r07_Distances_2 {N : Nat}  {z0 z : Nat → Blk} {e m : Mem} {k : Option Nat} {fr : Nat → Value} {x4 : List Int} {x5 : Int} {x6 : Int} {x8 : List Int} {x10 : Int} {x40 : Bool} {v4 : Value} {v8 : Value} (hz : Zx e.next z0 z) (st : St z e m k) (h4 : fr 4 = v4) (o4 : OwF (TInt 3 .i64) z e m k x4 v4) (h5 : fr 5 = (vI x5)) (h6 : fr 6 = (vI x6)) (h8 : fr 8 = v8) (s8 : SlR (TInt 3 .i64) z x8 v8) (h10 : fr 10 = (vI x10)) (h40 : fr 40 = (vB x40)) {r : List Int} (hr : r07_Distances_2 N x4 x5 x6 x8 x10 x40 = some r) : W Try.prog (sub (bodyOf Try.f19) [1, 1, 1, 1, 0, 1, 0, 0, 1, 0, 0, 1, 1, 0, 1, 0, 0, 1, 0, 0, 0, 1]) (fun ex fr' m' => ∃ z', Zx e.next z0 z' ∧ St z' e m' k ∧ ex = AExit.normal ∧ ∃ (w4 : Value), fr' 4 = w4 ∧ OwF (TInt 3 .i64) z' e m' k r w4 ∧ True) fr m := by
 unfold r07_Distances_2 at hr
 rcases if_some hr with ⟨hc48, hr⟩ | ⟨hc72, hr⟩
 ·refine W.condT h40 hc48 (W.region ?_)
  refine sx rfl (pMove (v := v4) rfl h4) ?_
  refine sx rfl (pMove (v := (vI x5)) rfl h5) ?_
  refine sx rfl (pMove (v := v8) rfl h8) ?_
  refine sx rfl (pMove (v := (vI x10)) rfl h10) ?_
  obtain ⟨y49, hy49, hr⟩ := bind_some hr
  refine SeqW.consX rfl (kIdxR (T := (TInt 3 .i64)) (xs := x8) (n := x10) rfl Try.underlying22 Try.type3 rfl rfl rfl s8 hy49 ?_)
  intro B50 f51 cs52 hd53 hc54
  obtain rfl := hd53
  refine SeqW.consX rfl (kLoad (v := (vI y49)) rfl Try.underlying3 rfl rfl (ldz_load st.fz (hc54 0 _ rfl)) ?_)
  refine sx rfl (pAdd (k := .i64) (a := x5) (b := y49) rfl rfl rfl) ?_
  refine sx rfl (pMove (v := (vI x6)) rfl h6) ?_
  refine sx rfl (pSub (k := .i64) (a := (IntKind.wrap .i64 (x5 + y49))) (b := x6) rfl rfl rfl) ?_
  refine SeqW.consX rfl (kBuild (T := (TInt 3 .i64)) rfl Try.underlying22 Try.type3 rfl rfl rfl rfl ([(IntKind.wrap .i64 ((IntKind.wrap .i64 (x5 + y49)) - x6))] : List Int) [[(vI (IntKind.wrap .i64 ((IntKind.wrap .i64 (x5 + y49)) - x6)))]] rfl rfl rfl (BuildOk.mk (w := (vI (IntKind.wrap .i64 ((IntKind.wrap .i64 (x5 + y49)) - x6)))) rfl rfl rfl rfl trivial) st ?_)
  intro V55 m56 st O57 sm58 hap59
  have A61 := hap59 _ o4.lt
  replace o4 := o4.same sm58 Ap.none'
  obtain ⟨y62, hy62, hr⟩ := bind_some hr
  refine SeqW.consX rfl (kAppend (T := (TInt 3 .i64)) (xs := x4) (ys := ([(IntKind.wrap .i64 ((IntKind.wrap .i64 (x5 + y49)) - x6))] : List Int)) rfl Try.underlying22 Try.type3 rfl rfl rfl rfl rfl rfl (.inl ⟨_, Try.underlying22⟩) rfl o4 rfl O57.ow.src st hy62 ?_)
  intro V63 m64 st O65 sm66 hap67
  have A69 := hap67 _ O57.lt (Ap.symm A61)
  replace O57 := O57.same sm66 (Ap.symm A61)
  refine sx rfl (pAssign (v := V63) rfl rfl) ?_
  refine SeqW.done fun fr70 hf71 => ?_
  have h4 : fr70 4 = V63 := (congrFun hf71 4).trans rfl
  have h5 := (congrFun hf71 5).trans h5
  have h8 := (congrFun hf71 8).trans h8
  have h10 := (congrFun hf71 10).trans h10
  clear hf71
  obtain rfl := Option.some.inj hr
  exact ⟨z, hz, st, rfl, V63, h4, O65, trivial⟩
 ·refine W.condF h40 hc72 (W.skip ?_)
  obtain rfl := Option.some.inj hr
  exact ⟨z, hz, st, rfl, v4, h4, o4, trivial⟩

theorem u_r07_Distances_1 : ∀ (n : Nat) {N : Nat}  {z0 z : Nat → Blk} {e m : Mem} {k : Option Nat} {fr : Nat → Value} {x4 : List Int} {x5 : Int} {x6 : Int} {x7 : Int} {x8 : List Int} {x10 : Int} {v4 : Value} {v8 : Value} (hz : Zx e.next z0 z) (st : St z e m k) (h4 : fr 4 = v4) (o4 : OwF (TInt 3 .i64) z e m k x4 v4) (h5 : fr 5 = (vI x5)) (h6 : fr 6 = (vI x6)) (h7 : fr 7 = (vI x7)) (h8 : fr 8 = v8) (s8 : SlR (TInt 3 .i64) z x8 v8) (h10 : fr 10 = (vI x10)) {r : List Int × Int} (hr : r07_Distances_1 N x5 x7 x8 n x4 x6 x10 = some r), W Try.prog (sub (bodyOf Try.f19) [1, 1, 1, 1, 0, 1, 0, 0, 1, 0, 0, 1, 1, 0, 1, 0]) (fun ex fr' m' => ∃ z', Zx e.next z0 z' ∧ St z' e m' k ∧ ex = AExit.exit 2 ∧ ∃ (w4 : Value), fr' 4 = w4 ∧ OwF (TInt 3 .i64) z' e m' k r.1 w4 ∧ fr' 6 = (vI r.2) ∧ True) fr m := by
 intro n
 induction n with
 | zero => intro N z0 z e m k fr x4 x5 x6 x7 x8 x10 v4 v8 hz st h4 o4 h5 h6 h7 h8 s8 h10 r hr; cases (show (none : Option _) = some r from hr)
 | succ n ih =>
  intro N z0 z e m k fr x4 x5 x6 x7 x8 x10 v4 v8 hz st h4 o4 h5 h6 h7 h8 s8 h10 r hr
  unfold r07_Distances_1 at hr
  refine W.loop1 ?_
  refine W.seq (W.seq (W.region ?_))
  refine sx rfl (pMove (v := (vI x10)) rfl h10) ?_
  refine sx rfl (pMove (v := v8) rfl h8) ?_
  refine sx rfl (pLenR (xs := x8) rfl Try.underlying22 rfl s8) ?_
  refine sx rfl (pLss (k := .i64) (a := x10) (b := (x8.length : Int)) rfl rfl rfl) ?_
  refine SeqW.done fun fr43 hf44 => ?_
  have h4 := (congrFun hf44 4).trans h4
  have h5 := (congrFun hf44 5).trans h5
  have h6 := (congrFun hf44 6).trans h6
  have h7 := (congrFun hf44 7).trans h7
  have h8 := (congrFun hf44 8).trans h8
  have h10 := (congrFun hf44 10).trans h10
  have h34 : fr43 34 = (vB (decide (x10 < (x8.length : Int)))) := (congrFun hf44 34).trans rfl
  clear hf44
  refine thenQ.n ?_
  rcases if_some hr with ⟨hc45, hr⟩ | ⟨hc95, hr⟩
  ·refine W.condT h34 hc45 (W.skip ?_)
   refine thenQ.n (W.seq ?_)
   refine W.block ?_
   refine W.seq (W.seq (W.region ?_))
   refine sx rfl (pMove (v := (vI x7)) rfl h7) ?_
   refine sx rfl (pMove (v := (vI x10)) rfl h10) ?_
   refine sx rfl (pAdd (k := .i64) (a := x7) (b := x10) rfl rfl rfl) ?_
   refine sx rfl (pGtr (k := .i64) (a := (IntKind.wrap .i64 (x7 + x10))) (b := 0) rfl rfl rfl) ?_
   refine SeqW.done fun fr46 hf47 => ?_
   have h4 := (congrFun hf47 4).trans h4
   have h5 := (congrFun hf47 5).trans h5
   have h6 := (congrFun hf47 6).trans h6
   have h7 := (congrFun hf47 7).trans h7
   have h8 := (congrFun hf47 8).trans h8
   have h10 := (congrFun hf47 10).trans h10
   have h40 : fr46 40 = (vB (decide (0 < (IntKind.wrap .i64 (x7 + x10))))) := (congrFun hf47 40).trans rfl
   clear hf47
   refine thenQ.n ?_
   obtain ⟨y73, hy73, hr⟩ := bind_some hr
   refine W.keep (u_r07_Distances_2 (Zx.refl _) st h4 o4 h5 h6 h8 s8 h10 h40 hy73) ?_
   rintro ex79 fr74 m75 hk77 ⟨z76, hz78, st, rfl, w80, h4, O82, -⟩
   replace s8 := s8.mono hz78.le
   have h5 := (hk77 5 rfl).trans h5
   have h7 := (hk77 7 rfl).trans h7
   have h8 := (hk77 8 rfl).trans h8
   have h10 := (hk77 10 rfl).trans h10
   replace hz := hz.trans hz78
   clear hk77
   refine thenQ.n (W.region ?_)
   refine sx rfl (pMove (v := (vI x5)) rfl h5) ?_
   refine sx rfl (pMove (v := v8) rfl h8) ?_
   refine sx rfl (pMove (v := (vI x10)) rfl h10) ?_
   obtain ⟨y83, hy83, hr⟩ := bind_some hr
   refine SeqW.consX rfl (kIdxR (T := (TInt 3 .i64)) (xs := x8) (n := x10) rfl Try.underlying22 Try.type3 rfl rfl rfl s8 hy83 ?_)
   intro B84 f85 cs86 hd87 hc88
   obtain rfl := hd87
   refine SeqW.consX rfl (kLoad (v := (vI y83)) rfl Try.underlying3 rfl rfl (ldz_load st.fz (hc88 0 _ rfl)) ?_)
   refine sx rfl (pAdd (k := .i64) (a := x5) (b := y83) rfl rfl rfl) ?_
   obtain ⟨y89, hy89, hr⟩ := lt_some hr
   refine sx rfl (pAssign rfl (congrArg (Value.int .i64) hy89)) ?_
   refine SeqW.done fun fr90 hf91 => ?_
   have h4 := (congrFun hf91 4).trans h4
   have h5 := (congrFun hf91 5).trans h5
   have h6 : fr90 6 = (vI y89) := (congrFun hf91 6).trans rfl
   have h7 := (congrFun hf91 7).trans h7
   have h8 := (congrFun hf91 8).trans h8
   have h10 := (congrFun hf91 10).trans h10
   clear hf91
   refine blockQ.n ?_
   refine thenQ.n (W.region ?_)
   refine sx rfl (pMove (v := (vI x10)) rfl h10) ?_
   refine sx rfl (pAdd (k := .i64) (a := x10) (b := 1) rfl rfl rfl) ?_
   obtain ⟨y92, hy92, hr⟩ := lt_some hr
   refine sx rfl (pAssign rfl (congrArg (Value.int .i64) hy92)) ?_
   refine SeqW.done fun fr93 hf94 => ?_
   have h4 := (congrFun hf94 4).trans h4
   have h5 := (congrFun hf94 5).trans h5
   have h6 := (congrFun hf94 6).trans h6
   have h7 := (congrFun hf94 7).trans h7
   have h8 := (congrFun hf94 8).trans h8
   have h10 : fr93 10 = (vI y92) := (congrFun hf94 10).trans rfl
   clear hf94
   refine thenQ.n ?_
   exact ih hz st h4 O82 h5 h6 h7 h8 s8 h10 hr
  ·refine W.condF h34 hc95 ?_
   refine W.exit ?_
   refine thenQ.x ?_
   refine thenQ.x ?_
   obtain rfl := Option.some.inj hr
   exact ⟨z, hz, st, rfl, v4, h4, o4, h6, trivial⟩

theorem u_r07_Distances_0 : ∀ (n : Nat) {N : Nat}  {z0 z : Nat → Blk} {e m : Mem} {k : Option Nat} {fr : Nat → Value} {x0 : List Wagon} {x4 : List Int} {x5 : Int} {x6 : Int} {x7 : Int} {v0 : Value} {v4 : Value} (hz : Zx e.next z0 z) (st : St z e m k) (h0 : fr 0 = v0) (s0 : SlR TWagon z x0 v0) (h4 : fr 4 = v4) (o4 : OwF (TInt 3 .i64) z e m k x4 v4) (h5 : fr 5 = (vI x5)) (h6 : fr 6 = (vI x6)) (h7 : fr 7 = (vI x7)) {r : Sum (List Int) (Int)} (hr : r07_Distances_0 N x0 n x4 x5 x6 x7 = some r), W Try.prog (sub (bodyOf Try.f19) [1, 1, 1, 1, 0, 1, 0]) (fun ex fr' m' => ∃ z', Zx e.next z0 z' ∧ St z' e m' k ∧ ((∃ q, r = Sum.inl q ∧ ex = AExit.exit 0 ∧ ∃ (w4 : Value), fr' 4 = w4 ∧ OwF (TInt 3 .i64) z' e m' k q w4 ∧ True) ∨ (∃ q, r = Sum.inr q ∧ ex = AExit.ret ∧ fr' 2 = (Value.slice none 0 0) ∧ fr' 3 = (vI q) ∧ True))) fr m := by
 intro n
 induction n with
 | zero => intro N z0 z e m k fr x0 x4 x5 x6 x7 v0 v4 hz st h0 s0 h4 o4 h5 h6 h7 r hr; cases (show (none : Option _) = some r from hr)
 | succ n ih =>
  intro N z0 z e m k fr x0 x4 x5 x6 x7 v0 v4 hz st h0 s0 h4 o4 h5 h6 h7 r hr
  unfold r07_Distances_0 at hr
  refine W.loop1 ?_
  refine W.seq (W.seq (W.region ?_))
  refine sx rfl (pMove (v := (vI x7)) rfl h7) ?_
  refine sx rfl (pMove (v := v0) rfl h0) ?_
  refine sx rfl (pLenR (xs := x0) rfl Try.underlying41 rfl s0) ?_
  refine sx rfl (pLss (k := .i64) (a := x7) (b := (x0.length : Int)) rfl rfl rfl) ?_
  refine SeqW.done fun fr15 hf16 => ?_
  have h0 := (congrFun hf16 0).trans h0
  have h4 := (congrFun hf16 4).trans h4
  have h5 := (congrFun hf16 5).trans h5
  have h6 := (congrFun hf16 6).trans h6
  have h7 := (congrFun hf16 7).trans h7
  have h17 : fr15 17 = (vB (decide (x7 < (x0.length : Int)))) := (congrFun hf16 17).trans rfl
  clear hf16
  refine thenQ.n ?_
  rcases if_some hr with ⟨hc17, hr⟩ | ⟨hc118, hr⟩
  ·refine W.condT h17 hc17 (W.skip ?_)
   refine thenQ.n (W.seq ?_)
   refine W.block ?_
   refine W.seq (W.region ?_)
   refine sx rfl (pMove (v := v0) rfl h0) ?_
   refine sx rfl (pMove (v := (vI x7)) rfl h7) ?_
   obtain ⟨y18, hy18, hr⟩ := bind_some hr
   refine SeqW.consX rfl (kIdxR (T := TWagon) (xs := x0) (n := x7) rfl Try.underlying41 Try.type30 rfl rfl rfl s0 hy18 ?_)
   intro B19 f20 cs21 hd22 hc23
   obtain rfl := hd22
   refine SeqW.consX rfl (kLoadA rfl Try.underlying30 rfl Try.type30 rfl rfl (st.loads hc23) ?_)
   obtain ⟨y24, hy24, hr⟩ := bind_some hr
   refine SeqW.consX rfl (StepX.call (gCallee rfl rfl (args1 rfl)) ((c_r07_Offsets (x0 := y18) (z := z) st.fz st.dead  hy24).mono ?_))
   rintro _ m29 ⟨z25, V30, hzx26, fz27, sm28, rfl, Q31, -⟩
   replace s0 := s0.mono hzx26.le
   replace o4 := o4.call hzx26 sm28 Ap.none'
   replace hz := hz.trans (Zx.here st hzx26)
   replace st := st.call hzx26 fz27 sm28 no_hq
   refine sx rfl (pMove (v := (Value.tuple [V30, (vI y24.2)].toArray)) rfl rfl) ?_
   refine sx rfl (pExtract (vs := [V30, (vI y24.2)]) (v := V30) rfl rfl rfl) ?_
   refine sx rfl (pExtract (vs := [V30, (vI y24.2)]) (v := (vI y24.2)) rfl rfl rfl) ?_
   refine sx rfl (pAssign (v := V30) rfl rfl) ?_
   refine sx rfl (pAssign (v := (vI y24.2)) rfl rfl) ?_
   refine SeqW.done fun fr33 hf34 => ?_
   have h0 := (congrFun hf34 0).trans h0
   have h4 := (congrFun hf34 4).trans h4
   have h5 := (congrFun hf34 5).trans h5
   have h6 := (congrFun hf34 6).trans h6
   have h7 := (congrFun hf34 7).trans h7
   have h8 : fr33 8 = V30 := (congrFun hf34 8).trans rfl
   have h9 : fr33 9 = (vI y24.2) := (congrFun hf34 9).trans rfl
   clear hf34
   refine thenQ.n (W.seq ?_)
   refine W.seq (W.region ?_)
   refine sx rfl (pMove (v := (vI y24.2)) rfl h9) ?_
   refine sx rfl (pNeq (k := .i64) (a := y24.2) (b := 0) rfl rfl rfl) ?_
   refine SeqW.done fun fr35 hf36 => ?_
   have h0 := (congrFun hf36 0).trans h0
   have h4 := (congrFun hf36 4).trans h4
   have h5 := (congrFun hf36 5).trans h5
   have h6 := (congrFun hf36 6).trans h6
   have h7 := (congrFun hf36 7).trans h7
   have h8 := (congrFun hf36 8).trans h8
   have h9 := (congrFun hf36 9).trans h9
   have h29 : fr35 29 = (vB (y24.2 != 0)) := (congrFun hf36 29).trans rfl
   clear hf36
   refine thenQ.n ?_
   rcases if_some hr with ⟨hc37, hr⟩ | ⟨hc40, hr⟩
   ·refine W.condT h29 hc37 (W.seq (W.region ?_))
    refine sx rfl (pMove (v := (vI y24.2)) rfl h9) ?_
    refine sx rfl (pAssign (v := (Value.slice none 0 0)) rfl rfl) ?_
    refine sx rfl (pAssign (v := (vI y24.2)) rfl rfl) ?_
    refine SeqW.done fun fr38 hf39 => ?_
    have h2 : fr38 2 = (Value.slice none 0 0) := (congrFun hf39 2).trans rfl
    have h3 : fr38 3 = (vI y24.2) := (congrFun hf39 3).trans rfl
    clear hf39
    refine thenQ.n ?_
    refine W.ret ?_
    refine thenQ.r ?_
    refine blockQ.r ?_
    refine thenQ.r ?_
    refine thenQ.r ?_
    obtain rfl := Option.some.inj hr
    exact ⟨z25, hz, st, .inr ⟨_, rfl, rfl, h2, h3, trivial⟩⟩
   ·refine W.condF h29 hc40 (W.skip ?_)
    refine thenQ.n (W.seq ?_)
    refine W.seq (W.region ?_)
    refine sx rfl (pAssign (v := (vI 0)) rfl rfl) ?_
    refine SeqW.done fun fr41 hf42 => ?_
    have h0 := (congrFun hf42 0).trans h0
    have h4 := (congrFun hf42 4).trans h4
    have h5 := (congrFun hf42 5).trans h5
    have h6 := (congrFun hf42 6).trans h6
    have h7 := (congrFun hf42 7).trans h7
    have h8 := (congrFun hf42 8).trans h8
    have h10 : fr41 10 = (vI 0) := (congrFun hf42 10).trans rfl
    clear hf42
    refine thenQ.n ?_
    refine W.block ?_
    obtain ⟨y96, hy96, hr⟩ := bind_some hr
    refine W.keep (u_r07_Distances_1 _ (Zx.refl _) st h4 o4 h5 h6 h7 h8 Q31 h10 hy96) ?_
    rintro ex102 fr97 m98 hk100 ⟨z99, hz101, st, rfl, w103, h4, O105, h6, -⟩
    replace s0 := s0.mono hz101.le
    have h0 := (hk100 0 rfl).trans h0
    have h5 := (hk100 5 rfl).trans h5
    have h7 := (hk100 7 rfl).trans h7
    replace hz := hz.trans hz101
    clear hk100
    refine blockQ.hit ?_
    refine thenQ.n (W.region ?_)
    refine sx rfl (pMove (v := (vI x5)) rfl h5) ?_
    refine sx rfl (pMove (v := v0) rfl h0) ?_
    refine sx rfl (pMove (v := (vI x7)) rfl h7) ?_
    obtain ⟨y106, hy106, hr⟩ := bind_some hr
    refine SeqW.consX rfl (kIdxR (T := TWagon) (xs := x0) (n := x7) rfl Try.underlying41 Try.type30 rfl rfl rfl s0 hy106 ?_)
    intro B107 f108 cs109 hd110 hc111
    obtain rfl := hd110
    refine SeqW.consX rfl (kField rfl Try.underlying30 rfl Try.type3 rfl rfl rfl ?_)
    refine SeqW.consX rfl (kLoad (v := (vI y106.length)) rfl Try.underlying3 rfl rfl (ldz_load st.fz (hc111 1 _ rfl)) ?_)
    refine sx rfl (pMul (k := .i64) (a := 10) (b := y106.length) rfl rfl rfl) ?_
    refine sx rfl (pAdd (k := .i64) (a := x5) (b := (IntKind.wrap .i64 (10 * y106.length))) rfl rfl rfl) ?_
    obtain ⟨y112, hy112, hr⟩ := lt_some hr
    refine sx rfl (pAssign rfl (congrArg (Value.int .i64) hy112)) ?_
    refine SeqW.done fun fr113 hf114 => ?_
    have h0 := (congrFun hf114 0).trans h0
    have h4 := (congrFun hf114 4).trans h4
    have h5 : fr113 5 = (vI y112) := (congrFun hf114 5).trans rfl
    have h6 := (congrFun hf114 6).trans h6
    have h7 := (congrFun hf114 7).trans h7
    clear hf114
    refine blockQ.n ?_
    refine thenQ.n (W.region ?_)
    refine sx rfl (pMove (v := (vI x7)) rfl h7) ?_
    refine sx rfl (pAdd (k := .i64) (a := x7) (b := 1) rfl rfl rfl) ?_
    obtain ⟨y115, hy115, hr⟩ := lt_some hr
    refine sx rfl (pAssign rfl (congrArg (Value.int .i64) hy115)) ?_
    refine SeqW.done fun fr116 hf117 => ?_
    have h0 := (congrFun hf117 0).trans h0
    have h4 := (congrFun hf117 4).trans h4
    have h5 := (congrFun hf117 5).trans h5
    have h6 := (congrFun hf117 6).trans h6
    have h7 : fr116 7 = (vI y115) := (congrFun hf117 7).trans rfl
    clear hf117
    refine thenQ.n ?_
    exact ih hz st h0 s0 h4 O105 h5 h6 h7 hr
  ·refine W.condF h17 hc118 ?_
   refine W.exit ?_
   refine thenQ.x ?_
   refine thenQ.x ?_
   obtain rfl := Option.some.inj hr
   exact ⟨z, hz, st, .inl ⟨_, rfl, rfl, v4, h4, o4, trivial⟩⟩

theorem u_r07_Distances {N : Nat}  {z0 z : Nat → Blk} {e m : Mem} {k : Option Nat} {fr : Nat → Value} {x0 : List Wagon} {v0 : Value} (hz : Zx e.next z0 z) (st : St z e m k) (h0 : fr 0 = v0) (s0 : SlR TWagon z x0 v0) {r : List Int × Int} (hr : r07_Distances N x0 = some r) : W Try.prog (sub (bodyOf Try.f19) []) (fun ex fr' m' => ∃ z', Zx e.next z0 z' ∧ St z' e m' k ∧ (ex = .normal ∨ ex = .ret) ∧ ∃ (w2 : Value), fr' 2 = w2 ∧ SlR (TInt 3 .i64) z' r.1 w2 ∧ fr' 3 = (vI r.2) ∧ True) fr m := by
 unfold r07_Distances at hr
 refine W.seq (W.region ?_)
 refine sx rfl (pAssign (v := (Value.slice none 0 0)) rfl rfl) ?_
 refine sx rfl (pAssign (v := (vI 0)) rfl rfl) ?_
 refine SeqW.done fun fr1 hf2 => ?_
 have h0 := (congrFun hf2 0).trans h0
 clear hf2
 refine thenQ.n (W.seq ?_)
 refine W.seq (W.region ?_)
 refine sx rfl (pMove (v := v0) rfl h0) ?_
 refine sx rfl (pLenR (xs := x0) rfl Try.underlying41 rfl s0) ?_
 refine sx rfl (pGtr (k := .i64) (a := (x0.length : Int)) (b := 96) rfl rfl rfl) ?_
 refine SeqW.done fun fr3 hf4 => ?_
 have h0 := (congrFun hf4 0).trans h0
 have h13 : fr3 13 = (vB (decide (96 < (x0.length : Int)))) := (congrFun hf4 13).trans rfl
 clear hf4
 refine thenQ.n ?_
 rcases if_some hr with ⟨hc5, hr⟩ | ⟨hc8, hr⟩
 ·refine W.condT h13 hc5 (W.seq (W.region ?_))
  refine sx rfl (pAssign (v := (Value.slice none 0 0)) rfl rfl) ?_
  refine sx rfl (pAssign (v := (vI 3)) rfl rfl) ?_
  refine SeqW.done fun fr6 hf7 => ?_
  have h2 : fr6 2 = (Value.slice none 0 0) := (congrFun hf7 2).trans rfl
  have h3 : fr6 3 = (vI 3) := (congrFun hf7 3).trans rfl
  clear hf7
  refine thenQ.n ?_
  refine W.ret ?_
  refine thenQ.r ?_
  obtain rfl := Option.some.inj hr
  exact ⟨z, hz, st, .inr rfl, (Value.slice none 0 0), h2, SlR.nil, h3, trivial⟩
 ·refine W.condF h13 hc8 (W.skip ?_)
  refine thenQ.n (W.seq (W.region ?_))
  refine sx rfl (pAssign (v := (Value.slice none 0 0)) rfl rfl) ?_
  refine SeqW.done fun fr9 hf10 => ?_
  have h0 := (congrFun hf10 0).trans h0
  have h4 : fr9 4 = (Value.slice none 0 0) := (congrFun hf10 4).trans rfl
  clear hf10
  refine thenQ.n (W.seq (W.region ?_))
  refine sx rfl (pAssign (v := (vI 0)) rfl rfl) ?_
  refine sx rfl (pAssign (v := (vI 0)) rfl rfl) ?_
  refine SeqW.done fun fr11 hf12 => ?_
  have h0 := (congrFun hf12 0).trans h0
  have h4 := (congrFun hf12 4).trans h4
  have h5 : fr11 5 = (vI 0) := (congrFun hf12 5).trans rfl
  have h6 : fr11 6 = (vI 0) := (congrFun hf12 6).trans rfl
  clear hf12
  refine thenQ.n (W.seq ?_)
  refine W.seq (W.region ?_)
  refine sx rfl (pAssign (v := (vI 0)) rfl rfl) ?_
  refine SeqW.done fun fr13 hf14 => ?_
  have h0 := (congrFun hf14 0).trans h0
  have h4 := (congrFun hf14 4).trans h4
  have h5 := (congrFun hf14 5).trans h5
  have h6 := (congrFun hf14 6).trans h6
  have h7 : fr13 7 = (vI 0) := (congrFun hf14 7).trans rfl
  clear hf14
  refine thenQ.n ?_
  refine W.block ?_
  obtain ⟨y119, hy119, hr⟩ := bind_some hr
  refine W.keep (u_r07_Distances_0 _ (Zx.refl _) st h0 s0 h4 OwF.nil h5 h6 h7 hy119) ?_
  rintro ex125 fr120 m121 hk123 ⟨z122, hz124, st, ⟨y126, rfl, rfl, w127, h4, O129, -⟩ | ⟨y136, rfl, rfl, h2, h3, -⟩⟩
  ·dsimp only at hr
   replace hz := hz.trans hz124
   clear hk123
   refine blockQ.hit ?_
   refine thenQ.n (W.seq (W.region ?_))
   refine sx rfl (pMove (v := w127) rfl h4) ?_
   refine sx rfl (pAssign (v := w127) rfl rfl) ?_
   refine sx rfl (pAssign (v := (vI 0)) rfl rfl) ?_
   refine SeqW.done fun fr130 hf131 => ?_
   have h2 : fr130 2 = w127 := (congrFun hf131 2).trans rfl
   have h3 : fr130 3 = (vI 0) := (congrFun hf131 3).trans rfl
   clear hf131
   refine thenQ.n ?_
   refine W.ret ?_
   obtain ⟨z132, hz133, st, Q134, hl135⟩ := O129.freeze st
   replace hz := hz.trans hz133
   obtain rfl := Option.some.inj hr
   exact ⟨z132, hz, st, .inr rfl, w127, h2, Q134, h3, trivial⟩
  ·dsimp only at hr
   replace hz := hz.trans hz124
   clear hk123
   refine blockQ.r ?_
   refine thenQ.r ?_
   obtain rfl := Option.some.inj hr
   exact ⟨z122, hz, st, .inr rfl, (Value.slice none 0 0), h2, SlR.nil, h3, trivial⟩

theorem c_r07_Distances {N : Nat} {z : Nat → Blk} {m : Mem} {x0 : List Wagon} {v0 : Value} (fz : Fz z m) (hd : ∀ b, m.next ≤ b → m.blk b = .dead) (s0 : SlR TWagon z x0 v0) {r : List Int × Int} (hr : r07_Distances N x0 = some r) : CallW Try.prog 19 #[v0] m fun v m' => ∃ z' w2, Zx m.next z z' ∧ Fz z' m' ∧ Same m m' none ∧ v = (Value.tuple [w2, (vI r.2)].toArray) ∧ SlR (TInt 3 .i64) z' r.1 w2 ∧ True := by
 refine CallW.any Try.func19 rfl (by kernel_rfl) (Nat.le_of_ble_eq_true rfl) (fun fr hf => ?_)
 have h0 : fr 0 = _ := hf 0 _ rfl
 refine (u_r07_Distances (k := none) (Zx.refl _) (St.start fz hd) h0 s0 hr).mono ?_
 rintro ex fr' m' ⟨z', hz, st, he, w2, h2, s2, h3, -⟩
 exact ⟨he, [w2, (vI r.2)], ⟨h2.symm, h3.symm, trivial⟩, .inr (List.forall_mem_cons.2 ⟨s2.stor.1, List.forall_mem_cons.2 ⟨rfl, fun _ h => nomatch h⟩⟩), z', w2, hz, st.fz, st.toSame, rfl, s2, trivial⟩

/-! ### (*humpyard/humpgen.Maker).Spoil -/

theorem u_Maker_Spoil {N : Nat}  {z0 z : Nat → Blk} {e m : Mem} {k : Option Nat} {fr : Nat → Value} {x0 : Maker} {x1 : List UInt8} {v0_0 : Value} {b0 : Nat} (hz : Zx e.next z0 z) (st : St z e m k) (h0 : fr 0 = (vP b0)) (s0_0 : SlR (TInt 3 .i64) z x0.l v0_0) (bx0 : Bx z e m k b0 [v0_0, (vI x0.n)] 56) (h1 : fr 1 = (str x1)) {r : List UInt8 × Maker} (hr : Maker_Spoil N x0 x1 = some r) : W Try.prog (sub (bodyOf Try.f36) []) (fun ex fr' m' => ∃ z', Zx e.next z0 z' ∧ St z' e m' k ∧ (ex = .normal ∨ ex = .ret) ∧ ∃ (wr_0 : Value), fr' 4 = (str r.1) ∧ SlR (TInt 3 .i64) z' r.2.l wr_0 ∧ Bx z' e m' k b0 [wr_0, (vI r.2.n)] 56 ∧ True) fr m := by
 unfold Maker_Spoil at hr
 refine W.seq (W.region ?_)
 refine sx rfl (pAssign (v := (str [])) rfl rfl) ?_
 refine SeqW.done fun fr1 hf2 => ?_
 have h0 := (congrFun hf2 0).trans h0
 have h1 := (congrFun hf2 1).trans h1
 clear hf2
 refine thenQ.n (W.seq ?_)
 refine W.seq (W.region ?_)
 refine sx rfl (pMove (v := (str x1)) rfl h1) ?_
 refine sx rfl (pEqlS (s := x1) (r := []) rfl rfl rfl) ?_
 refine SeqW.done fun fr3 hf4 => ?_
 have h0 := (congrFun hf4 0).trans h0
 have h1 := (congrFun hf4 1).trans h1
 have h7 : fr3 7 = (vB (x1 == [])) := (congrFun hf4 7).trans rfl
 clear hf4
 refine thenQ.n ?_
 rcases if_some hr with ⟨hc5, hr⟩ | ⟨hc27, hr⟩
 ·refine W.condT h7 hc5 (W.seq (W.region ?_))
  refine sx rfl (pMove (v := (vP b0)) rfl h0) ?_
  obtain ⟨y6, hy6, hr⟩ := bind_some hr
  refine SeqW.consX rfl (StepX.call (gCallee rfl rfl (args2 rfl rfl)) ((c_Maker_Next (x0 := x0) (z := z) st.fz st.dead s0_0 ⟨bx0.blk, bx0.lt, bx0.dead, .inr rfl⟩ hy6).mono ?_))
  rintro _ m11 ⟨z7, V12, hzx8, fz9, sm10, rfl, Q13, X15, -⟩
  replace s0_0 := s0_0.mono hzx8.le
  have bx0n : Bx z7 e m11 k b0 _ _ := ⟨X15.blk, X15.lt, X15.dead, bx0.fresh⟩
  replace hz := hz.trans (Zx.here st hzx8)
  replace st := st.call hzx8 fz9 sm10 bx0.hq
  refine sx rfl (pConv (k := .i64) (a := y6.1) rfl Try.underlying3 Try.underlying5 rfl) ?_
  obtain ⟨y16, hy16, hr⟩ := bind_some hr
  refine SeqW.consX rfl (kBuild (T := (TU8 5)) rfl Try.underlying66 Try.type5 rfl rfl rfl rfl ([y16] : List UInt8) [[Value.int .u8 (UInt8.toNat y16 : Int)]] rfl rfl rfl (BuildOk.mk (w := (Value.int .u8 (UInt8.toNat y16 : Int))) (by rw [← toU8_some hy16]; exact rfl) rfl rfl rfl trivial) st ?_)
  intro V17 m18 st O19 sm20 hap21
  have A23 := hap21 _ bx0n.lt'
  replace bx0n := bx0n.same sm20 Ap.none'
  refine SeqW.consX rfl (kStrO (s := ([y16] : List UInt8)) rfl Try.underlying66 Try.underlying5 Try.underlying9 rfl O19 ?_)
  obtain ⟨y24, hy24, hr⟩ := lt_some hr
  refine sx rfl (pAssign rfl (congrArg str hy24)) ?_
  refine SeqW.done fun fr25 hf26 => ?_
  have h0 := (congrFun hf26 0).trans h0
  have h4 : fr25 4 = (str y24) := (congrFun hf26 4).trans rfl
  clear hf26
  refine thenQ.n ?_
  refine W.ret ?_
  refine thenQ.r ?_
  obtain rfl := Option.some.inj hr
  exact ⟨z7, hz, st, .inr rfl, V12, h4, Q13, bx0n, trivial⟩
 ·refine W.condF h7 hc27 (W.skip ?_)
  refine thenQ.n (W.seq (W.region ?_))
  refine sx rfl (pMove (v := (vP b0)) rfl h0) ?_
  refine sx rfl (pMove (v := (str x1)) rfl h1) ?_
  refine sx rfl (pLenS (s := x1) rfl rfl Try.underlying9 rfl) ?_
  obtain ⟨y28, hy28, hr⟩ := bind_some hr
  refine SeqW.consX rfl (StepX.call (gCallee rfl rfl (args2 rfl rfl)) ((c_Maker_Next (x0 := x0) (z := z) st.fz st.dead s0_0 ⟨bx0.blk, bx0.lt, bx0.dead, .inr rfl⟩ hy28).mono ?_))
  rintro _ m33 ⟨z29, V34, hzx30, fz31, sm32, rfl, Q35, X37, -⟩
  replace s0_0 := s0_0.mono hzx30.le
  have bx0n : Bx z29 e m33 k b0 _ _ := ⟨X37.blk, X37.lt, X37.dead, bx0.fresh⟩
  replace hz := hz.trans (Zx.here st hzx30)
  replace st := st.call hzx30 fz31 sm32 bx0.hq
  refine sx rfl (pAssign (v := (vI y28.1)) rfl rfl) ?_
  refine SeqW.done fun fr38 hf39 => ?_
  have h0 := (congrFun hf39 0).trans h0
  have h1 := (congrFun hf39 1).trans h1
  have h5 : fr38 5 = (vI y28.1) := (congrFun hf39 5).trans rfl
  clear hf39
  refine thenQ.n (W.seq ?_)
  refine W.seq (W.region ?_)
  refine sx rfl (pMove (v := (vP b0)) rfl h0) ?_
  obtain ⟨y40, hy40, hr⟩ := bind_some hr
  refine SeqW.consX rfl (StepX.call (gCallee rfl rfl (args2 rfl rfl)) ((c_Maker_Next (x0 := y28.2) (z := z29) st.fz st.dead Q35 ⟨bx0n.blk, bx0n.lt, bx0n.dead, .inr rfl⟩ hy40).mono ?_))
  rintro _ m45 ⟨z41, V46, hzx42, fz43, sm44, rfl, Q47, X49, -⟩
  replace Q35 := Q35.mono hzx42.le
  have bx0nn : Bx z41 e m45 k b0 _ _ := ⟨X49.blk, X49.lt, X49.dead, bx0n.fresh⟩
  replace hz := hz.trans (Zx.here st hzx42)
  replace st := st.call hzx42 fz43 sm44 bx0n.hq
  refine SeqW.done fun fr50 hf51 => ?_
  have h0 := (congrFun hf51 0).trans h0
  have h1 := (congrFun hf51 1).trans h1
  have h5 := (congrFun hf51 5).trans h5
  have h18 : fr50 18 = (vI y40.1) := (congrFun hf51 18).trans rfl
  clear hf51
  refine thenQ.n ?_
  refine W.block ?_
  refine W.seq (W.region ?_)
  refine sx rfl (pEql (k := .i64) (a := y40.1) (b := 0) rfl h18 rfl) ?_
  obtain ⟨y52, hy52, hr⟩ := lt_some hr
  refine sx rfl (pAssign rfl (congrArg vB hy52)) ?_
  refine SeqW.done fun fr53 hf54 => ?_
  have h0 := (congrFun hf54 0).trans h0
  have h1 := (congrFun hf54 1).trans h1
  have h5 := (congrFun hf54 5).trans h5
  have h18 := (congrFun hf54 18).trans h18
  have h19 : fr53 19 = (vB y52) := (congrFun hf54 19).trans rfl
  clear hf54
  refine thenQ.n ?_
  rcases if_some hr with ⟨hc55, hr⟩ | ⟨hc61, hr⟩
  ·refine W.condT h19 hc55 (W.seq ?_)
   refine W.calm (by decide) ?_
   refine sx rfl (pMove (v := (str x1)) rfl h1) ?_
   refine sx rfl (pMove (v := (vI y28.1)) rfl h5) ?_
   obtain ⟨y56, hy56, hr⟩ := bind_some hr
   refine SeqW.consX rfl (kCutS (s := x1) (a := 0) (b := y28.1) rfl Try.underlying9 rfl rfl ⟨_, rfl⟩ hy56 ?_)
   refine sx rfl (pMove (v := (str x1)) rfl h1) ?_
   refine sx rfl (pMove (v := (vI y28.1)) rfl h5) ?_
   refine sx rfl (pAdd (k := .i64) (a := y28.1) (b := 1) rfl rfl rfl) ?_
   obtain ⟨y57, hy57, hr⟩ := bind_some hr
   refine SeqW.consX rfl (kCutS (s := x1) (a := (IntKind.wrap .i64 (y28.1 + 1))) (b := (x1.length : Int)) rfl Try.underlying9 rfl ⟨_, rfl⟩ rfl hy57 ?_)
   obtain ⟨y58, hy58, hr⟩ := bind_some hr
   refine SeqW.consX rfl (kAddS (s := y56) (r := y57) rfl rfl rfl hy58 ?_)
   refine sx rfl (pAssign (v := (str y58)) rfl rfl) ?_
   refine SeqW.done fun fr59 hf60 => ?_
   have h0 := (congrFun hf60 0).trans h0
   have h4 : fr59 4 = (str y58) := (congrFun hf60 4).trans rfl
   clear hf60
   refine thenQ.n ?_
   refine W.ret ?_
   refine blockQ.r ?_
   refine thenQ.r ?_
   obtain rfl := Option.some.inj hr
   exact ⟨z41, hz, st, .inr rfl, V46, h4, Q47, bx0nn, trivial⟩
  ·refine W.condF h19 hc61 (W.seq (W.region ?_))
   refine sx rfl (pEql (k := .i64) (a := y40.1) (b := 1) rfl h18 rfl) ?_
   obtain ⟨y62, hy62, hr⟩ := lt_some hr
   refine sx rfl (pAssign rfl (congrArg vB hy62)) ?_
   refine SeqW.done fun fr63 hf64 => ?_
   have h0 := (congrFun hf64 0).trans h0
   have h1 := (congrFun hf64 1).trans h1
   have h5 := (congrFun hf64 5).trans h5
   have h18 := (congrFun hf64 18).trans h18
   have h29 : fr63 29 = (vB y62) := (congrFun hf64 29).trans rfl
   clear hf64
   refine thenQ.n ?_
   rcases if_some hr with ⟨hc65, hr⟩ | ⟨hc93, hr⟩
   ·refine W.condT h29 hc65 (W.seq ?_)
    refine W.draw ?_
    refine DrawW.cons rfl (StepX.pure (pMove (v := (str x1)) rfl h1) ?_)
    refine ⟨trivial, ?_⟩
    refine DrawW.cons rfl (StepX.pure (pMove (v := (vI y28.1)) rfl h5) ?_)
    refine ⟨trivial, ?_⟩
    obtain ⟨y66, hy66, hr⟩ := bind_some hr
    refine DrawW.cons rfl (kCutS (s := x1) (a := 0) (b := y28.1) rfl Try.underlying9 rfl rfl ⟨_, rfl⟩ hy66 ?_)
    refine ⟨trivial, ?_⟩
    refine DrawW.cons rfl (StepX.pure (pMove (v := (vP b0)) rfl h0) ?_)
    refine ⟨trivial, ?_⟩
    have sto67 := st
    have old68 := bx0nn
    obtain ⟨y69, hy69, hr⟩ := bind_some hr
    refine DrawW.cons rfl (StepX.call (gCallee rfl rfl (args2 rfl rfl)) ((c_Maker_Next (x0 := y40.2) (z := z41) st.fz st.dead Q47 ⟨bx0nn.blk, bx0nn.lt, bx0nn.dead, .inr rfl⟩ hy69).mono ?_))
    rintro _ m74 ⟨z70, V75, hzx71, fz72, sm73, rfl, Q76, X78, -⟩
    have sr79 := Q47
    replace Q47 := Q47.mono hzx71.le
    have bx0nnn : Bx z70 e m74 k b0 _ _ := ⟨X78.blk, X78.lt, X78.dead, bx0nn.fresh⟩
    replace hz := hz.trans (Zx.here st hzx71)
    replace st := st.call hzx71 fz72 sm73 bx0nn.hq
    refine ⟨⟨?_, ?_⟩, ?_⟩
    ·exact demN
    ·exact demN
    refine DrawW.cons rfl (StepX.pure (pConv (k := .i64) (a := y69.1) rfl Try.underlying3 Try.underlying5 rfl) ?_)
    refine ⟨trivial, ?_⟩
    obtain ⟨y80, hy80, hr⟩ := bind_some hr
    refine DrawW.cons rfl (kBuild (T := (TU8 5)) rfl Try.underlying66 Try.type5 rfl rfl rfl rfl ([y80] : List UInt8) [[Value.int .u8 (UInt8.toNat y80 : Int)]] rfl rfl rfl (BuildOk.mk (w := (Value.int .u8 (UInt8.toNat y80 : Int))) (by rw [← toU8_some hy80]; exact rfl) rfl rfl rfl trivial) st ?_)
    intro V81 m82 st O83 sm84 hap85
    have A87 := hap85 _ bx0nnn.lt'
    replace bx0nnn := bx0nnn.same sm84 Ap.none'
    refine ⟨trivial, ?_⟩
    refine DrawW.cons rfl (kStrO (s := ([y80] : List UInt8)) rfl Try.underlying66 Try.underlying5 Try.underlying9 rfl O83 ?_)
    refine ⟨?_, ?_⟩
    ·first | refine demP (rStr rfl Try.underlying66 Try.underlying5 Try.underlying9 rfl (O83.ow.src) (by obtain ⟨a, c, rfl⟩ := O83.ow.len; exact ⟨_, _, _, rfl⟩)) ?_ | refine demA (by decide) ?_
     exact demN
    obtain ⟨y88, hy88, hr⟩ := bind_some hr
    refine DrawW.cons rfl (kAddS (s := y66) (r := ([y80] : List UInt8)) rfl rfl rfl hy88 ?_)
    refine ⟨trivial, ?_⟩
    refine DrawW.cons rfl (StepX.pure (pMove (v := (str x1)) rfl h1) ?_)
    refine ⟨trivial, ?_⟩
    refine DrawW.cons rfl (StepX.pure (pMove (v := (vI y28.1)) rfl h5) ?_)
    refine ⟨trivial, ?_⟩
    obtain ⟨y89, hy89, hr⟩ := bind_some hr
    refine DrawW.cons rfl (kCutS (s := x1) (a := y28.1) (b := (x1.length : Int)) rfl Try.underlying9 rfl ⟨_, rfl⟩ rfl hy89 ?_)
    refine ⟨trivial, ?_⟩
    obtain ⟨y90, hy90, hr⟩ := bind_some hr
    refine DrawW.cons rfl (kAddS (s := y88) (r := y89) rfl rfl rfl hy90 ?_)
    refine ⟨trivial, ?_⟩
    refine DrawW.cons rfl (StepX.pure (pAssign (v := (str y90)) rfl rfl) ?_)
    refine ⟨trivial, ?_⟩
    refine DrawW.done fun fr91 hf92 => ?_
    have h0 := (congrFun hf92 0).trans h0
    have h4 : fr91 4 = (str y90) := (congrFun hf92 4).trans rfl
    clear hf92
    refine thenQ.n ?_
    refine W.ret ?_
    refine blockQ.r ?_
    refine thenQ.r ?_
    obtain rfl := Option.some.inj hr
    exact ⟨z70, hz, st, .inr rfl, V75, h4, Q76, bx0nnn, trivial⟩
   ·refine W.condF h29 hc93 (W.seq (W.region ?_))
    refine sx rfl (pEql (k := .i64) (a := y40.1) (b := 2) rfl h18 rfl) ?_
    obtain ⟨y94, hy94, hr⟩ := lt_some hr
    refine sx rfl (pAssign rfl (congrArg vB hy94)) ?_
    refine SeqW.done fun fr95 hf96 => ?_
    have h0 := (congrFun hf96 0).trans h0
    have h1 := (congrFun hf96 1).trans h1
    have h5 := (congrFun hf96 5).trans h5
    have h44 : fr95 44 = (vB y94) := (congrFun hf96 44).trans rfl
    clear hf96
    refine thenQ.n ?_
    rcases if_some hr with ⟨hc97, hr⟩ | ⟨hc125, hr⟩
    ·refine W.condT h44 hc97 (W.seq ?_)
     refine W.draw ?_
     refine DrawW.cons rfl (StepX.pure (pMove (v := (str x1)) rfl h1) ?_)
     refine ⟨trivial, ?_⟩
     refine DrawW.cons rfl (StepX.pure (pMove (v := (vI y28.1)) rfl h5) ?_)
     refine ⟨trivial, ?_⟩
     obtain ⟨y98, hy98, hr⟩ := bind_some hr
     refine DrawW.cons rfl (kCutS (s := x1) (a := 0) (b := y28.1) rfl Try.underlying9 rfl rfl ⟨_, rfl⟩ hy98 ?_)
     refine ⟨trivial, ?_⟩
     refine DrawW.cons rfl (StepX.pure (pMove (v := (vP b0)) rfl h0) ?_)
     refine ⟨trivial, ?_⟩
     have sto99 := st
     have old100 := bx0nn
     obtain ⟨y101, hy101, hr⟩ := bind_some hr
     refine DrawW.cons rfl (StepX.call (gCallee rfl rfl (args2 rfl rfl)) ((c_Maker_Next (x0 := y40.2) (z := z41) st.fz st.dead Q47 ⟨bx0nn.blk, bx0nn.lt, bx0nn.dead, .inr rfl⟩ hy101).mono ?_))
     rintro _ m106 ⟨z102, V107, hzx103, fz104, sm105, rfl, Q108, X110, -⟩
     have sr111 := Q47
     replace Q47 := Q47.mono hzx103.le
     have bx0nnn : Bx z102 e m106 k b0 _ _ := ⟨X110.blk, X110.lt, X110.dead, bx0nn.fresh⟩
     replace hz := hz.trans (Zx.here st hzx103)
     replace st := st.call hzx103 fz104 sm105 bx0nn.hq
     refine ⟨⟨?_, ?_⟩, ?_⟩
     ·exact demN
     ·exact demN
     refine DrawW.cons rfl (StepX.pure (pAdd (k := .i64) (a := 48) (b := y101.1) rfl rfl rfl) ?_)
     refine ⟨trivial, ?_⟩
     refine DrawW.cons rfl (StepX.pure (pConv (k := .i64) (a := (IntKind.wrap .i64 (48 + y101.1))) rfl Try.underlying3 Try.underlying5 rfl) ?_)
     refine ⟨trivial, ?_⟩
     obtain ⟨y112, hy112, hr⟩ := bind_some hr
     refine DrawW.cons rfl (kBuild (T := (TU8 5)) rfl Try.underlying66 Try.type5 rfl rfl rfl rfl ([y112] : List UInt8) [[Value.int .u8 (UInt8.toNat y112 : Int)]] rfl rfl rfl (BuildOk.mk (w := (Value.int .u8 (UInt8.toNat y112 : Int))) (by rw [← toU8_some hy112]; exact rfl) rfl rfl rfl trivial) st ?_)
     intro V113 m114 st O115 sm116 hap117
     have A119 := hap117 _ bx0nnn.lt'
     replace bx0nnn := bx0nnn.same sm116 Ap.none'
     refine ⟨trivial, ?_⟩
     refine DrawW.cons rfl (kStrO (s := ([y112] : List UInt8)) rfl Try.underlying66 Try.underlying5 Try.underlying9 rfl O115 ?_)
     refine ⟨?_, ?_⟩
     ·first | refine demP (rStr rfl Try.underlying66 Try.underlying5 Try.underlying9 rfl (O115.ow.src) (by obtain ⟨a, c, rfl⟩ := O115.ow.len; exact ⟨_, _, _, rfl⟩)) ?_ | refine demA (by decide) ?_
      exact demN
     obtain ⟨y120, hy120, hr⟩ := bind_some hr
     refine DrawW.cons rfl (kAddS (s := y98) (r := ([y112] : List UInt8)) rfl rfl rfl hy120 ?_)
     refine ⟨trivial, ?_⟩
     refine DrawW.cons rfl (StepX.pure (pMove (v := (str x1)) rfl h1) ?_)
     refine ⟨trivial, ?_⟩
     refine DrawW.cons rfl (StepX.pure (pMove (v := (vI y28.1)) rfl h5) ?_)
     refine ⟨trivial, ?_⟩
     refine DrawW.cons rfl (StepX.pure (pAdd (k := .i64) (a := y28.1) (b := 1) rfl rfl rfl) ?_)
     refine ⟨trivial, ?_⟩
     obtain ⟨y121, hy121, hr⟩ := bind_some hr
     refine DrawW.cons rfl (kCutS (s := x1) (a := (IntKind.wrap .i64 (y28.1 + 1))) (b := (x1.length : Int)) rfl Try.underlying9 rfl ⟨_, rfl⟩ rfl hy121 ?_)
     refine ⟨trivial, ?_⟩
     obtain ⟨y122, hy122, hr⟩ := bind_some hr
     refine DrawW.cons rfl (kAddS (s := y120) (r := y121) rfl rfl rfl hy122 ?_)
     refine ⟨trivial, ?_⟩
     refine DrawW.cons rfl (StepX.pure (pAssign (v := (str y122)) rfl rfl) ?_)
     refine ⟨trivial, ?_⟩
     refine DrawW.done fun fr123 hf124 => ?_
     have h0 := (congrFun hf124 0).trans h0
     have h4 : fr123 4 = (str y122) := (congrFun hf124 4).trans rfl
     clear hf124
     refine thenQ.n ?_
     refine W.ret ?_
     refine blockQ.r ?_
     refine thenQ.r ?_
     obtain rfl := Option.some.inj hr
     exact ⟨z102, hz, st, .inr rfl, V107, h4, Q108, bx0nnn, trivial⟩
    ·refine W.condF h44 hc125 (W.skip ?_)
     refine blockQ.n ?_
     refine thenQ.n (W.seq ?_)
     refine W.draw ?_
     refine DrawW.cons rfl (StepX.pure (pMove (v := (str x1)) rfl h1) ?_)
     refine ⟨trivial, ?_⟩
     refine DrawW.cons rfl (StepX.pure (pMove (v := (vI y28.1)) rfl h5) ?_)
     refine ⟨trivial, ?_⟩
     obtain ⟨y126, hy126, hr⟩ := bind_some hr
     refine DrawW.cons rfl (kCutS (s := x1) (a := 0) (b := y28.1) rfl Try.underlying9 rfl rfl ⟨_, rfl⟩ hy126 ?_)
     refine ⟨trivial, ?_⟩
     refine DrawW.cons rfl (StepX.pure (pMove (v := (vP b0)) rfl h0) ?_)
     refine ⟨trivial, ?_⟩
     have sto127 := st
     have old128 := bx0nn
     obtain ⟨y129, hy129, hr⟩ := bind_some hr
     refine DrawW.cons rfl (StepX.call (gCallee rfl rfl (args2 rfl rfl)) ((c_Maker_Next (x0 := y40.2) (z := z41) st.fz st.dead Q47 ⟨bx0nn.blk, bx0nn.lt, bx0nn.dead, .inr rfl⟩ hy129).mono ?_))
     rintro _ m134 ⟨z130, V135, hzx131, fz132, sm133, rfl, Q136, X138, -⟩
     have sr139 := Q47
     replace Q47 := Q47.mono hzx131.le
     have bx0nnn : Bx z130 e m134 k b0 _ _ := ⟨X138.blk, X138.lt, X138.dead, bx0nn.fresh⟩
     replace hz := hz.trans (Zx.here st hzx131)
     replace st := st.call hzx131 fz132 sm133 bx0nn.hq
     refine ⟨⟨?_, ?_⟩, ?_⟩
     ·exact demN
     ·exact demN
     refine DrawW.cons rfl (StepX.pure (pConv (k := .i64) (a := y129.1) rfl Try.underlying3 Try.underlying5 rfl) ?_)
     refine ⟨trivial, ?_⟩
     obtain ⟨y140, hy140, hr⟩ := bind_some hr
     refine DrawW.cons rfl (kBuild (T := (TU8 5)) rfl Try.underlying66 Try.type5 rfl rfl rfl rfl ([y140] : List UInt8) [[Value.int .u8 (UInt8.toNat y140 : Int)]] rfl rfl rfl (BuildOk.mk (w := (Value.int .u8 (UInt8.toNat y140 : Int))) (by rw [← toU8_some hy140]; exact rfl) rfl rfl rfl trivial) st ?_)
     intro V141 m142 st O143 sm144 hap145
     have A147 := hap145 _ bx0nnn.lt'
     replace bx0nnn := bx0nnn.same sm144 Ap.none'
     refine ⟨trivial, ?_⟩
     refine DrawW.cons rfl (kStrO (s := ([y140] : List UInt8)) rfl Try.underlying66 Try.underlying5 Try.underlying9 rfl O143 ?_)
     refine ⟨?_, ?_⟩
     ·first | refine demP (rStr rfl Try.underlying66 Try.underlying5 Try.underlying9 rfl (O143.ow.src) (by obtain ⟨a, c, rfl⟩ := O143.ow.len; exact ⟨_, _, _, rfl⟩)) ?_ | refine demA (by decide) ?_
      exact demN
     obtain ⟨y148, hy148, hr⟩ := bind_some hr
     refine DrawW.cons rfl (kAddS (s := y126) (r := ([y140] : List UInt8)) rfl rfl rfl hy148 ?_)
     refine ⟨trivial, ?_⟩
     refine DrawW.cons rfl (StepX.pure (pMove (v := (str x1)) rfl h1) ?_)
     refine ⟨trivial, ?_⟩
     refine DrawW.cons rfl (StepX.pure (pMove (v := (vI y28.1)) rfl h5) ?_)
     refine ⟨trivial, ?_⟩
     refine DrawW.cons rfl (StepX.pure (pAdd (k := .i64) (a := y28.1) (b := 1) rfl rfl rfl) ?_)
     refine ⟨trivial, ?_⟩
     obtain ⟨y149, hy149, hr⟩ := bind_some hr
     refine DrawW.cons rfl (kCutS (s := x1) (a := (IntKind.wrap .i64 (y28.1 + 1))) (b := (x1.length : Int)) rfl Try.underlying9 rfl ⟨_, rfl⟩ rfl hy149 ?_)
     refine ⟨trivial, ?_⟩
     obtain ⟨y150, hy150, hr⟩ := bind_some hr
     refine DrawW.cons rfl (kAddS (s := y148) (r := y149) rfl rfl rfl hy150 ?_)
     refine ⟨trivial, ?_⟩
     refine DrawW.cons rfl (StepX.pure (pAssign (v := (str y150)) rfl rfl) ?_)
     refine ⟨trivial, ?_⟩
     refine DrawW.done fun fr151 hf152 => ?_
     have h0 := (congrFun hf152 0).trans h0
     have h4 : fr151 4 = (str y150) := (congrFun hf152 4).trans rfl
     clear hf152
     refine thenQ.n ?_
     refine W.ret ?_
     obtain rfl := Option.some.inj hr
     exact ⟨z130, hz, st, .inr rfl, V135, h4, Q136, bx0nnn, trivial⟩

theorem c_Maker_Spoil {N : Nat} {z : Nat → Blk} {m : Mem} {x0 : Maker} {x1 : List UInt8} {v0_0 : Value} {b0 : Nat} (fz : Fz z m) (hd : ∀ b, m.next ≤ b → m.blk b = .dead) (s0_0 : SlR (TInt 3 .i64) z x0.l v0_0) (bx0 : Bx z m m (some b0) b0 [v0_0, (vI x0.n)] 56) {r : List UInt8 × Maker} (hr : Maker_Spoil N x0 x1 = some r) : CallW Try.prog 36 #[(vP b0), (str x1)] m fun v m' => ∃ z' wr_0, Zx m.next z z' ∧ Fz z' m' ∧ Same m m' (some b0) ∧ v = (str r.1) ∧ SlR (TInt 3 .i64) z' r.2.l wr_0 ∧ Bx z' m m' (some b0) b0 [wr_0, (vI r.2.n)] 56 ∧ True := by
 refine CallW.any Try.func36 rfl (by kernel_rfl) (Nat.le_of_ble_eq_true rfl) (fun fr hf => ?_)
 have h0 : fr 0 = _ := hf 0 _ rfl
 have h1 : fr 1 = _ := hf 1 _ rfl
 refine (u_Maker_Spoil (k := (some b0)) (Zx.refl _) (St.start fz hd) h0 s0_0 bx0 h1 hr).mono ?_
 rintro ex fr' m' ⟨z', hz, st, he, wr_0, h4, sr_0, bxr, -⟩
 exact ⟨he, [(str r.1)], ⟨h4.symm, trivial⟩, .inl rfl, z', wr_0, hz, st.fz, st.toSame, rfl, sr_0, bxr, trivial⟩

/-! ### (*humpyard/humpgen.Maker).SpoilWagon -/

theorem u_Maker_SpoilWagon_0 {N : Nat}  {z0 z : Nat → Blk} {e m : Mem} {k : Option Nat} {fr : Nat → Value} {x0 : Maker} {x3 : Wagon} {x6 : Int} {v0_0 : Value} {b0 : Nat} {b3 : Nat} {x4 : Wagon} {b4 : Nat} (hz : Zx e.next z0 z) (st : St z e m k) (h0 : fr 0 = (vP b0)) (s0_0 : SlR (TInt 3 .i64) z x0.l v0_0) (bx0 : Bx z e m k b0 [v0_0, (vI x0.n)] 56) (h3 : fr 3 = (vP b3)) (bx3 : Bx z e m k b3 [(str x3.number), (vI x3.length), (vI x3.axles), (vI x3.mass), (vI x3.brake), (vI x3.goods), (vB x3.gentle), (str x3.dest)] 30) (h4 : fr 4 = (vP b4)) (bx4 : Bx z e m k b4 [(str x4.number), (vI x4.length), (vI x4.axles), (vI x4.mass), (vI x4.brake), (vI x4.goods), (vB x4.gentle), (str x4.dest)] 30) (h6 : fr 6 = (vI x6)) (ao0_o3 : Ap (some b0) (some b3)) (ao0_o4 : Ap (some b0) (some b4)) (ao3_o4 : Ap (some b3) (some b4)) {r : Maker × Wagon} (hr : Maker_SpoilWagon_0 N x0 x3 x6 = some r) : W Try.prog (sub (bodyOf Try.f23) [1, 0, 1]) (fun ex fr' m' => ∃ z', Zx e.next z0 z' ∧ St z' e m' k ∧ ex = AExit.normal ∧ ∃ (w0_0 : Value), fr' 0 = (vP b0) ∧ SlR (TInt 3 .i64) z' r.1.l w0_0 ∧ Bx z' e m' k b0 [w0_0, (vI r.1.n)] 56 ∧ fr' 3 = (vP b3) ∧ Bx z' e m' k b3 [(str r.2.number), (vI r.2.length), (vI r.2.axles), (vI r.2.mass), (vI r.2.brake), (vI r.2.goods), (vB r.2.gentle), (str r.2.dest)] 30 ∧ Bx z' e m' k b4 [(str x4.number), (vI x4.length), (vI x4.axles), (vI x4.mass), (vI x4.brake), (vI x4.goods), (vB x4.gentle), (str x4.dest)] 30 ∧ Ap (some b0) (some b3) ∧ Ap (some b0) (some b4) ∧ Ap (some b3) (some b4) ∧ True) fr m := by
 unfold Maker_SpoilWagon_0 at hr
 refine W.block ?_
 refine W.seq (W.region ?_)
 refine sx rfl (pEql (k := .i64) (a := x6) (b := 0) rfl h6 rfl) ?_
 obtain ⟨y30, hy30, hr⟩ := lt_some hr
 refine sx rfl (pAssign rfl (congrArg vB hy30)) ?_
 refine SeqW.done fun fr31 hf32 => ?_
 have h0 := (congrFun hf32 0).trans h0
 have h3 := (congrFun hf32 3).trans h3
 have h4 := (congrFun hf32 4).trans h4
 have h6 := (congrFun hf32 6).trans h6
 have h7 : fr31 7 = (vB y30) := (congrFun hf32 7).trans rfl
 clear hf32
 refine thenQ.n ?_
 rcases if_some hr with ⟨hc33, hr⟩ | ⟨hc48, hr⟩
 ·refine W.condT h7 hc33 (W.region ?_)
  refine sx rfl (pMove (v := (vP b0)) rfl h0) ?_
  refine SeqW.consX rfl (kField rfl Try.underlying30 rfl Try.type9 rfl h3 rfl ?_)
  refine SeqW.consX rfl (kLoad rfl Try.underlying9 rfl rfl (bx3.load (v := (str x3.number)) rfl) ?_)
  obtain ⟨y34, hy34, hr⟩ := bind_some hr
  refine SeqW.consX rfl (StepX.call (gCallee rfl rfl (args2 rfl rfl)) ((c_Maker_Spoil (x0 := x0) (z := z) st.fz st.dead s0_0 ⟨bx0.blk, bx0.lt, bx0.dead, .inr rfl⟩ hy34).mono ?_))
  rintro _ m39 ⟨z35, V40, hzx36, fz37, sm38, rfl, Q41, X43, -⟩
  replace s0_0 := s0_0.mono hzx36.le
  replace bx3 := bx3.call hzx36 sm38 (Ap.symm ao0_o3)
  replace bx4 := bx4.call hzx36 sm38 (Ap.symm ao0_o4)
  have bx0n : Bx z35 e m39 k b0 _ _ := ⟨X43.blk, X43.lt, X43.dead, bx0.fresh⟩
  replace hz := hz.trans (Zx.here st hzx36)
  replace st := st.call hzx36 fz37 sm38 bx0.hq
  refine SeqW.consX rfl (kField rfl Try.underlying30 rfl Try.type9 rfl h3 rfl ?_)
  refine SeqW.consX rfl (kPut (off := 0) (w := (str y34.1)) (new := [(str y34.1)]) rfl Try.type9 rfl rfl rfl rfl rfl bx3 rfl [(str y34.1), (vI x3.length), (vI x3.axles), (vI x3.mass), (vI x3.brake), (vI x3.goods), (vB x3.gentle), (str x3.dest)] rfl st ?_)
  intro m44 st bx3 sm45
  replace bx0n := bx0n.same sm45 ao0_o3
  replace bx4 := bx4.same sm45 (Ap.symm ao3_o4)
  refine SeqW.done fun fr46 hf47 => ?_
  have h0 := (congrFun hf47 0).trans h0
  have h3 := (congrFun hf47 3).trans h3
  have h4 := (congrFun hf47 4).trans h4
  clear hf47
  refine blockQ.n ?_
  obtain rfl := Option.some.inj hr
  exact ⟨z35, hz, st, rfl, V40, h0, Q41, bx0n, h3, bx3, bx4, ao0_o3, ao0_o4, ao3_o4, trivial⟩
 ·refine W.condF h7 hc48 (W.seq (W.region ?_))
  refine sx rfl (pEql (k := .i64) (a := x6) (b := 1) rfl h6 rfl) ?_
  obtain ⟨y49, hy49, hr⟩ := lt_some hr
  refine sx rfl (pAssign rfl (congrArg vB hy49)) ?_
  refine SeqW.done fun fr50 hf51 => ?_
  have h0 := (congrFun hf51 0).trans h0
  have h3 := (congrFun hf51 3).trans h3
  have h4 := (congrFun hf51 4).trans h4
  have h6 := (congrFun hf51 6).trans h6
  have h14 : fr50 14 = (vB y49) := (congrFun hf51 14).trans rfl
  clear hf51
  refine thenQ.n ?_
  rcases if_some hr with ⟨hc52, hr⟩ | ⟨hc80, hr⟩
  ·refine W.condT h14 hc52 (W.region ?_)
   refine sx rfl (pMove (v := (vP b0)) rfl h0) ?_
   refine SeqW.consX rfl (kBuild (T := (TInt 3 .i64)) rfl Try.underlying22 Try.type3 rfl rfl rfl rfl ([0, 2, 4, 6, 8, (-1)] : List Int) [[(vI 0)], [(vI 2)], [(vI 4)], [(vI 6)], [(vI 8)], [(vI (-1))]] rfl rfl rfl (BuildOk.mk (w := (vI 0)) rfl rfl rfl rfl (BuildOk.mk (w := (vI 2)) rfl rfl rfl rfl (BuildOk.mk (w := (vI 4)) rfl rfl rfl rfl (BuildOk.mk (w := (vI 6)) rfl rfl rfl rfl (BuildOk.mk (w := (vI 8)) rfl rfl rfl rfl (BuildOk.mk (w := (vI (-1))) rfl rfl rfl rfl trivial)))))) st ?_)
   intro V53 m54 st O55 sm56 hap57
   have A59 := hap57 _ bx0.lt'
   have A60 := hap57 _ bx3.lt'
   have A61 := hap57 _ bx4.lt'
   replace bx0 := bx0.same sm56 Ap.none'
   replace bx3 := bx3.same sm56 Ap.none'
   replace bx4 := bx4.same sm56 Ap.none'
   obtain ⟨z62, hz63, st, Q64, hl65⟩ := O55.freeze st
   replace s0_0 := s0_0.mono hz63.le
   replace bx0 := bx0.zle (hl65 _ A59)
   replace bx3 := bx3.zle (hl65 _ A60)
   replace bx4 := bx4.zle (hl65 _ A61)
   replace hz := hz.trans hz63
   obtain ⟨y66, hy66, hr⟩ := bind_some hr
   refine SeqW.consX rfl (StepX.call (gCallee rfl rfl (args2 rfl rfl)) ((c_Maker_Pick (x0 := x0) (z := z62) st.fz st.dead s0_0 ⟨bx0.blk, bx0.lt, bx0.dead, .inr rfl⟩ Q64 hy66).mono ?_))
   rintro _ m71 ⟨z67, V72, hzx68, fz69, sm70, rfl, Q73, X75, -⟩
   replace s0_0 := s0_0.mono hzx68.le
   replace bx3 := bx3.call hzx68 sm70 (Ap.symm ao0_o3)
   replace bx4 := bx4.call hzx68 sm70 (Ap.symm ao0_o4)
   replace Q64 := Q64.mono hzx68.le
   have bx0n : Bx z67 e m71 k b0 _ _ := ⟨X75.blk, X75.lt, X75.dead, bx0.fresh⟩
   replace hz := hz.trans (Zx.here st hzx68)
   replace st := st.call hzx68 fz69 sm70 bx0.hq
   refine SeqW.consX rfl (kField rfl Try.underlying30 rfl Try.type3 rfl h3 rfl ?_)
   refine SeqW.consX rfl (kPut (off := 2) (w := (vI y66.1)) (new := [(vI y66.1)]) rfl Try.type3 rfl rfl rfl rfl rfl bx3 rfl [(str x3.number), (vI x3.length), (vI y66.1), (vI x3.mass), (vI x3.brake), (vI x3.goods), (vB x3.gentle), (str x3.dest)] rfl st ?_)
   intro m76 st bx3 sm77
   replace bx0n := bx0n.same sm77 ao0_o3
   replace bx4 := bx4.same sm77 (Ap.symm ao3_o4)
   refine SeqW.done fun fr78 hf79 => ?_
   have h0 := (congrFun hf79 0).trans h0
   have h3 := (congrFun hf79 3).trans h3
   have h4 := (congrFun hf79 4).trans h4
   clear hf79
   refine blockQ.n ?_
   obtain rfl := Option.some.inj hr
   exact ⟨z67, hz, st, rfl, V72, h0, Q73, bx0n, h3, bx3, bx4, ao0_o3, ao0_o4, ao3_o4, trivial⟩
  ·refine W.condF h14 hc80 (W.seq (W.region ?_))
   refine sx rfl (pEql (k := .i64) (a := x6) (b := 2) rfl h6 rfl) ?_
   obtain ⟨y81, hy81, hr⟩ := lt_some hr
   refine sx rfl (pAssign rfl (congrArg vB hy81)) ?_
   refine SeqW.done fun fr82 hf83 => ?_
   have h0 := (congrFun hf83 0).trans h0
   have h3 := (congrFun hf83 3).trans h3
   have h4 := (congrFun hf83 4).trans h4
   have h6 := (congrFun hf83 6).trans h6
   have h20 : fr82 20 = (vB y81) := (congrFun hf83 20).trans rfl
   clear hf83
   refine thenQ.n ?_
   rcases if_some hr with ⟨hc84, hr⟩ | ⟨hc112, hr⟩
   ·refine W.condT h20 hc84 (W.region ?_)
    refine sx rfl (pMove (v := (vP b0)) rfl h0) ?_
    refine SeqW.consX rfl (kBuild (T := (TInt 3 .i64)) rfl Try.underlying22 Try.type3 rfl rfl rfl rfl ([79, 80, 119, 401, 0, (-5)] : List Int) [[(vI 79)], [(vI 80)], [(vI 119)], [(vI 401)], [(vI 0)], [(vI (-5))]] rfl rfl rfl (BuildOk.mk (w := (vI 79)) rfl rfl rfl rfl (BuildOk.mk (w := (vI 80)) rfl rfl rfl rfl (BuildOk.mk (w := (vI 119)) rfl rfl rfl rfl (BuildOk.mk (w := (vI 401)) rfl rfl rfl rfl (BuildOk.mk (w := (vI 0)) rfl rfl rfl rfl (BuildOk.mk (w := (vI (-5))) rfl rfl rfl rfl trivial)))))) st ?_)
    intro V85 m86 st O87 sm88 hap89
    have A91 := hap89 _ bx0.lt'
    have A92 := hap89 _ bx3.lt'
    have A93 := hap89 _ bx4.lt'
    replace bx0 := bx0.same sm88 Ap.none'
    replace bx3 := bx3.same sm88 Ap.none'
    replace bx4 := bx4.same sm88 Ap.none'
    obtain ⟨z94, hz95, st, Q96, hl97⟩ := O87.freeze st
    replace s0_0 := s0_0.mono hz95.le
    replace bx0 := bx0.zle (hl97 _ A91)
    replace bx3 := bx3.zle (hl97 _ A92)
    replace bx4 := bx4.zle (hl97 _ A93)
    replace hz := hz.trans hz95
    obtain ⟨y98, hy98, hr⟩ := bind_some hr
    refine SeqW.consX rfl (StepX.call (gCallee rfl rfl (args2 rfl rfl)) ((c_Maker_Pick (x0 := x0) (z := z94) st.fz st.dead s0_0 ⟨bx0.blk, bx0.lt, bx0.dead, .inr rfl⟩ Q96 hy98).mono ?_))
    rintro _ m103 ⟨z99, V104, hzx100, fz101, sm102, rfl, Q105, X107, -⟩
    replace s0_0 := s0_0.mono hzx100.le
    replace bx3 := bx3.call hzx100 sm102 (Ap.symm ao0_o3)
    replace bx4 := bx4.call hzx100 sm102 (Ap.symm ao0_o4)
    replace Q96 := Q96.mono hzx100.le
    have bx0n : Bx z99 e m103 k b0 _ _ := ⟨X107.blk, X107.lt, X107.dead, bx0.fresh⟩
    replace hz := hz.trans (Zx.here st hzx100)
    replace st := st.call hzx100 fz101 sm102 bx0.hq
    refine SeqW.consX rfl (kField rfl Try.underlying30 rfl Try.type3 rfl h3 rfl ?_)
    refine SeqW.consX rfl (kPut (off := 1) (w := (vI y98.1)) (new := [(vI y98.1)]) rfl Try.type3 rfl rfl rfl rfl rfl bx3 rfl [(str x3.number), (vI y98.1), (vI x3.axles), (vI x3.mass), (vI x3.brake), (vI x3.goods), (vB x3.gentle), (str x3.dest)] rfl st ?_)
    intro m108 st bx3 sm109
    replace bx0n := bx0n.same sm109 ao0_o3
    replace bx4 := bx4.same sm109 (Ap.symm ao3_o4)
    refine SeqW.done fun fr110 hf111 => ?_
    have h0 := (congrFun hf111 0).trans h0
    have h3 := (congrFun hf111 3).trans h3
    have h4 := (congrFun hf111 4).trans h4
    clear hf111
    refine blockQ.n ?_
    obtain rfl := Option.some.inj hr
    exact ⟨z99, hz, st, rfl, V104, h0, Q105, bx0n, h3, bx3, bx4, ao0_o3, ao0_o4, ao3_o4, trivial⟩
   ·refine W.condF h20 hc112 (W.seq (W.region ?_))
    refine sx rfl (pEql (k := .i64) (a := x6) (b := 3) rfl h6 rfl) ?_
    obtain ⟨y113, hy113, hr⟩ := lt_some hr
    refine sx rfl (pAssign rfl (congrArg vB hy113)) ?_
    refine SeqW.done fun fr114 hf115 => ?_
    have h0 := (congrFun hf115 0).trans h0
    have h3 := (congrFun hf115 3).trans h3
    have h4 := (congrFun hf115 4).trans h4
    have h6 := (congrFun hf115 6).trans h6
    have h26 : fr114 26 = (vB y113) := (congrFun hf115 26).trans rfl
    clear hf115
    refine thenQ.n ?_
    rcases if_some hr with ⟨hc116, hr⟩ | ⟨hc144, hr⟩
    ·refine W.condT h26 hc116 (W.region ?_)
     refine sx rfl (pMove (v := (vP b0)) rfl h0) ?_
     refine SeqW.consX rfl (kBuild (T := (TInt 3 .i64)) rfl Try.underlying22 Try.type3 rfl rfl rfl rfl ([49, 50, 2001, (-1)] : List Int) [[(vI 49)], [(vI 50)], [(vI 2001)], [(vI (-1))]] rfl rfl rfl (BuildOk.mk (w := (vI 49)) rfl rfl rfl rfl (BuildOk.mk (w := (vI 50)) rfl rfl rfl rfl (BuildOk.mk (w := (vI 2001)) rfl rfl rfl rfl (BuildOk.mk (w := (vI (-1))) rfl rfl rfl rfl trivial)))) st ?_)
     intro V117 m118 st O119 sm120 hap121
     have A123 := hap121 _ bx0.lt'
     have A124 := hap121 _ bx3.lt'
     have A125 := hap121 _ bx4.lt'
     replace bx0 := bx0.same sm120 Ap.none'
     replace bx3 := bx3.same sm120 Ap.none'
     replace bx4 := bx4.same sm120 Ap.none'
     obtain ⟨z126, hz127, st, Q128, hl129⟩ := O119.freeze st
     replace s0_0 := s0_0.mono hz127.le
     replace bx0 := bx0.zle (hl129 _ A123)
     replace bx3 := bx3.zle (hl129 _ A124)
     replace bx4 := bx4.zle (hl129 _ A125)
     replace hz := hz.trans hz127
     obtain ⟨y130, hy130, hr⟩ := bind_some hr
     refine SeqW.consX rfl (StepX.call (gCallee rfl rfl (args2 rfl rfl)) ((c_Maker_Pick (x0 := x0) (z := z126) st.fz st.dead s0_0 ⟨bx0.blk, bx0.lt, bx0.dead, .inr rfl⟩ Q128 hy130).mono ?_))
     rintro _ m135 ⟨z131, V136, hzx132, fz133, sm134, rfl, Q137, X139, -⟩
     replace s0_0 := s0_0.mono hzx132.le
     replace bx3 := bx3.call hzx132 sm134 (Ap.symm ao0_o3)
     replace bx4 := bx4.call hzx132 sm134 (Ap.symm ao0_o4)
     replace Q128 := Q128.mono hzx132.le
     have bx0n : Bx z131 e m135 k b0 _ _ := ⟨X139.blk, X139.lt, X139.dead, bx0.fresh⟩
     replace hz := hz.trans (Zx.here st hzx132)
     replace st := st.call hzx132 fz133 sm134 bx0.hq
     refine SeqW.consX rfl (kField rfl Try.underlying30 rfl Try.type3 rfl h3 rfl ?_)
     refine SeqW.consX rfl (kPut (off := 3) (w := (vI y130.1)) (new := [(vI y130.1)]) rfl Try.type3 rfl rfl rfl rfl rfl bx3 rfl [(str x3.number), (vI x3.length), (vI x3.axles), (vI y130.1), (vI x3.brake), (vI x3.goods), (vB x3.gentle), (str x3.dest)] rfl st ?_)
     intro m140 st bx3 sm141
     replace bx0n := bx0n.same sm141 ao0_o3
     replace bx4 := bx4.same sm141 (Ap.symm ao3_o4)
     refine SeqW.done fun fr142 hf143 => ?_
     have h0 := (congrFun hf143 0).trans h0
     have h3 := (congrFun hf143 3).trans h3
     have h4 := (congrFun hf143 4).trans h4
     clear hf143
     refine blockQ.n ?_
     obtain rfl := Option.some.inj hr
     exact ⟨z131, hz, st, rfl, V136, h0, Q137, bx0n, h3, bx3, bx4, ao0_o3, ao0_o4, ao3_o4, trivial⟩
    ·refine W.condF h26 hc144 (W.seq (W.region ?_))
     refine sx rfl (pEql (k := .i64) (a := x6) (b := 4) rfl h6 rfl) ?_
     obtain ⟨y145, hy145, hr⟩ := lt_some hr
     refine sx rfl (pAssign rfl (congrArg vB hy145)) ?_
     refine SeqW.done fun fr146 hf147 => ?_
     have h0 := (congrFun hf147 0).trans h0
     have h3 := (congrFun hf147 3).trans h3
     have h4 := (congrFun hf147 4).trans h4
     have h6 := (congrFun hf147 6).trans h6
     have h32 : fr146 32 = (vB y145) := (congrFun hf147 32).trans rfl
     clear hf147
     refine thenQ.n ?_
     rcases if_some hr with ⟨hc148, hr⟩ | ⟨hc176, hr⟩
     ·refine W.condT h32 hc148 (W.region ?_)
      refine sx rfl (pMove (v := (vP b0)) rfl h0) ?_
      refine SeqW.consX rfl (kField rfl Try.underlying30 rfl Try.type3 rfl h3 rfl ?_)
      refine SeqW.consX rfl (kLoad rfl Try.underlying3 rfl rfl (bx3.load (v := (vI x3.mass)) rfl) ?_)
      refine SeqW.consX rfl (kField rfl Try.underlying30 rfl Try.type3 rfl h3 rfl ?_)
      refine SeqW.consX rfl (kLoad rfl Try.underlying3 rfl rfl (bx3.load (v := (vI x3.mass)) rfl) ?_)
      refine sx rfl (pAdd (k := .i64) (a := x3.mass) (b := 1) rfl rfl rfl) ?_
      refine SeqW.consX rfl (kBuild (T := (TInt 3 .i64)) rfl Try.underlying22 Try.type3 rfl rfl rfl rfl ([(-1), x3.mass, (IntKind.wrap .i64 (x3.mass + 1))] : List Int) [[(vI (-1))], [(vI x3.mass)], [(vI (IntKind.wrap .i64 (x3.mass + 1)))]] rfl rfl rfl (BuildOk.mk (w := (vI (-1))) rfl rfl rfl rfl (BuildOk.mk (w := (vI x3.mass)) rfl rfl rfl rfl (BuildOk.mk (w := (vI (IntKind.wrap .i64 (x3.mass + 1)))) rfl rfl rfl rfl trivial))) st ?_)
      intro V149 m150 st O151 sm152 hap153
      have A155 := hap153 _ bx0.lt'
      have A156 := hap153 _ bx3.lt'
      have A157 := hap153 _ bx4.lt'
      replace bx0 := bx0.same sm152 Ap.none'
      replace bx3 := bx3.same sm152 Ap.none'
      replace bx4 := bx4.same sm152 Ap.none'
      obtain ⟨z158, hz159, st, Q160, hl161⟩ := O151.freeze st
      replace s0_0 := s0_0.mono hz159.le
      replace bx0 := bx0.zle (hl161 _ A155)
      replace bx3 := bx3.zle (hl161 _ A156)
      replace bx4 := bx4.zle (hl161 _ A157)
      replace hz := hz.trans hz159
      obtain ⟨y162, hy162, hr⟩ := bind_some hr
      refine SeqW.consX rfl (StepX.call (gCallee rfl rfl (args2 rfl rfl)) ((c_Maker_Pick (x0 := x0) (z := z158) st.fz st.dead s0_0 ⟨bx0.blk, bx0.lt, bx0.dead, .inr rfl⟩ Q160 hy162).mono ?_))
      rintro _ m167 ⟨z163, V168, hzx164, fz165, sm166, rfl, Q169, X171, -⟩
      replace s0_0 := s0_0.mono hzx164.le
      replace bx3 := bx3.call hzx164 sm166 (Ap.symm ao0_o3)
      replace bx4 := bx4.call hzx164 sm166 (Ap.symm ao0_o4)
      replace Q160 := Q160.mono hzx164.le
      have bx0n : Bx z163 e m167 k b0 _ _ := ⟨X171.blk, X171.lt, X171.dead, bx0.fresh⟩
      replace hz := hz.trans (Zx.here st hzx164)
      replace st := st.call hzx164 fz165 sm166 bx0.hq
      refine SeqW.consX rfl (kField rfl Try.underlying30 rfl Try.type3 rfl h3 rfl ?_)
      refine SeqW.consX rfl (kPut (off := 4) (w := (vI y162.1)) (new := [(vI y162.1)]) rfl Try.type3 rfl rfl rfl rfl rfl bx3 rfl [(str x3.number), (vI x3.length), (vI x3.axles), (vI x3.mass), (vI y162.1), (vI x3.goods), (vB x3.gentle), (str x3.dest)] rfl st ?_)
      intro m172 st bx3 sm173
      replace bx0n := bx0n.same sm173 ao0_o3
      replace bx4 := bx4.same sm173 (Ap.symm ao3_o4)
      refine SeqW.done fun fr174 hf175 => ?_
      have h0 := (congrFun hf175 0).trans h0
      have h3 := (congrFun hf175 3).trans h3
      have h4 := (congrFun hf175 4).trans h4
      clear hf175
      refine blockQ.n ?_
      obtain rfl := Option.some.inj hr
      exact ⟨z163, hz, st, rfl, V168, h0, Q169, bx0n, h3, bx3, bx4, ao0_o3, ao0_o4, ao3_o4, trivial⟩
     ·refine W.condF h32 hc176 (W.seq (W.region ?_))
      refine sx rfl (pEql (k := .i64) (a := x6) (b := 5) rfl h6 rfl) ?_
      obtain ⟨y177, hy177, hr⟩ := lt_some hr
      refine sx rfl (pAssign rfl (congrArg vB hy177)) ?_
      refine SeqW.done fun fr178 hf179 => ?_
      have h0 := (congrFun hf179 0).trans h0
      have h3 := (congrFun hf179 3).trans h3
      have h4 := (congrFun hf179 4).trans h4
      have h6 := (congrFun hf179 6).trans h6
      have h43 : fr178 43 = (vB y177) := (congrFun hf179 43).trans rfl
      clear hf179
      refine thenQ.n ?_
      rcases if_some hr with ⟨hc180, hr⟩ | ⟨hc208, hr⟩
      ·refine W.condT h43 hc180 (W.region ?_)
       refine sx rfl (pMove (v := (vP b0)) rfl h0) ?_
       refine SeqW.consX rfl (kBuild (T := (TInt 3 .i64)) rfl Try.underlying22 Try.type3 rfl rfl rfl rfl ([(-1), 9, 10] : List Int) [[(vI (-1))], [(vI 9)], [(vI 10)]] rfl rfl rfl (BuildOk.mk (w := (vI (-1))) rfl rfl rfl rfl (BuildOk.mk (w := (vI 9)) rfl rfl rfl rfl (BuildOk.mk (w := (vI 10)) rfl rfl rfl rfl trivial))) st ?_)
       intro V181 m182 st O183 sm184 hap185
       have A187 := hap185 _ bx0.lt'
       have A188 := hap185 _ bx3.lt'
       have A189 := hap185 _ bx4.lt'
       replace bx0 := bx0.same sm184 Ap.none'
       replace bx3 := bx3.same sm184 Ap.none'
       replace bx4 := bx4.same sm184 Ap.none'
       obtain ⟨z190, hz191, st, Q192, hl193⟩ := O183.freeze st
       replace s0_0 := s0_0.mono hz191.le
       replace bx0 := bx0.zle (hl193 _ A187)
       replace bx3 := bx3.zle (hl193 _ A188)
       replace bx4 := bx4.zle (hl193 _ A189)
       replace hz := hz.trans hz191
       obtain ⟨y194, hy194, hr⟩ := bind_some hr
       refine SeqW.consX rfl (StepX.call (gCallee rfl rfl (args2 rfl rfl)) ((c_Maker_Pick (x0 := x0) (z := z190) st.fz st.dead s0_0 ⟨bx0.blk, bx0.lt, bx0.dead, .inr rfl⟩ Q192 hy194).mono ?_))
       rintro _ m199 ⟨z195, V200, hzx196, fz197, sm198, rfl, Q201, X203, -⟩
       replace s0_0 := s0_0.mono hzx196.le
       replace bx3 := bx3.call hzx196 sm198 (Ap.symm ao0_o3)
       replace bx4 := bx4.call hzx196 sm198 (Ap.symm ao0_o4)
       replace Q192 := Q192.mono hzx196.le
       have bx0n : Bx z195 e m199 k b0 _ _ := ⟨X203.blk, X203.lt, X203.dead, bx0.fresh⟩
       replace hz := hz.trans (Zx.here st hzx196)
       replace st := st.call hzx196 fz197 sm198 bx0.hq
       refine SeqW.consX rfl (kField rfl Try.underlying30 rfl Try.type3 rfl h3 rfl ?_)
       refine SeqW.consX rfl (kPut (off := 5) (w := (vI y194.1)) (new := [(vI y194.1)]) rfl Try.type3 rfl rfl rfl rfl rfl bx3 rfl [(str x3.number), (vI x3.length), (vI x3.axles), (vI x3.mass), (vI x3.brake), (vI y194.1), (vB x3.gentle), (str x3.dest)] rfl st ?_)
       intro m204 st bx3 sm205
       replace bx0n := bx0n.same sm205 ao0_o3
       replace bx4 := bx4.same sm205 (Ap.symm ao3_o4)
       refine SeqW.done fun fr206 hf207 => ?_
       have h0 := (congrFun hf207 0).trans h0
       have h3 := (congrFun hf207 3).trans h3
       have h4 := (congrFun hf207 4).trans h4
       clear hf207
       refine blockQ.n ?_
       obtain rfl := Option.some.inj hr
       exact ⟨z195, hz, st, rfl, V200, h0, Q201, bx0n, h3, bx3, bx4, ao0_o3, ao0_o4, ao3_o4, trivial⟩
      ·refine W.condF h43 hc208 (W.seq (W.region ?_))
       refine sx rfl (pEql (k := .i64) (a := x6) (b := 6) rfl h6 rfl) ?_
       obtain ⟨y209, hy209, hr⟩ := lt_some hr
       refine sx rfl (pAssign rfl (congrArg vB hy209)) ?_
       refine SeqW.done fun fr210 hf211 => ?_
       have h0 := (congrFun hf211 0).trans h0
       have h3 := (congrFun hf211 3).trans h3
       have h4 := (congrFun hf211 4).trans h4
       have h49 : fr210 49 = (vB y209) := (congrFun hf211 49).trans rfl
       clear hf211
       refine thenQ.n ?_
       rcases if_some hr with ⟨hc212, hr⟩ | ⟨hc245, hr⟩
       ·refine W.condT h49 hc212 (W.region ?_)
        refine SeqW.consX rfl (kBuild (T := (TStr 9)) rfl Try.underlying62 Try.type9 rfl rfl rfl rfl ([[], [65], [97, 32, 98], [97, 98, 99, 100, 101, 102, 103, 104, 105, 106, 107, 108, 109], [45]] : List (List UInt8)) [[(str [])], [(str [65])], [(str [97, 32, 98])], [(str [97, 98, 99, 100, 101, 102, 103, 104, 105, 106, 107, 108, 109])], [(str [45])]] rfl rfl rfl (BuildOk.mk (w := (str [])) rfl rfl rfl rfl (BuildOk.mk (w := (str [65])) rfl rfl rfl rfl (BuildOk.mk (w := (str [97, 32, 98])) rfl rfl rfl rfl (BuildOk.mk (w := (str [97, 98, 99, 100, 101, 102, 103, 104, 105, 106, 107, 108, 109])) rfl rfl rfl rfl (BuildOk.mk (w := (str [45])) rfl rfl rfl rfl trivial))))) st ?_)
        intro V213 m214 st O215 sm216 hap217
        have A219 := hap217 _ bx0.lt'
        have A220 := hap217 _ bx3.lt'
        have A221 := hap217 _ bx4.lt'
        replace bx0 := bx0.same sm216 Ap.none'
        replace bx3 := bx3.same sm216 Ap.none'
        replace bx4 := bx4.same sm216 Ap.none'
        refine sx rfl (pMove (v := (vP b0)) rfl h0) ?_
        obtain ⟨y222, hy222, hr⟩ := bind_some hr
        refine SeqW.consX rfl (StepX.call (gCallee rfl rfl (args2 rfl rfl)) ((c_Maker_Next (x0 := x0) (z := z) st.fz st.dead s0_0 ⟨bx0.blk, bx0.lt, bx0.dead, .inr rfl⟩ hy222).mono ?_))
        rintro _ m227 ⟨z223, V228, hzx224, fz225, sm226, rfl, Q229, X231, -⟩
        replace s0_0 := s0_0.mono hzx224.le
        replace bx3 := bx3.call hzx224 sm226 (Ap.symm ao0_o3)
        replace bx4 := bx4.call hzx224 sm226 (Ap.symm ao0_o4)
        replace O215 := O215.call hzx224 sm226 (Ap.symm A219)
        have bx0n : Bx z223 e m227 k b0 _ _ := ⟨X231.blk, X231.lt, X231.dead, bx0.fresh⟩
        replace hz := hz.trans (Zx.here st hzx224)
        replace st := st.call hzx224 fz225 sm226 bx0.hq
        obtain ⟨y232, hy232, hr⟩ := bind_some hr
        refine SeqW.consX rfl (kIdxO (T := (TStr 9)) (xs := ([[], [65], [97, 32, 98], [97, 98, 99, 100, 101, 102, 103, 104, 105, 106, 107, 108, 109], [45]] : List (List UInt8))) (n := y222.1) rfl Try.underlying62 Try.type9 rfl rfl rfl O215 hy232 ?_)
        intro B233 l234 c235 cs236 hv237 hd238 hg239 hc240
        have hd2380 := hd238
        obtain rfl := hd2380
        refine SeqW.consX rfl (kLoad (v := (str y232)) rfl Try.underlying9 rfl rfl (hc240 0 _ rfl) ?_)
        refine SeqW.consX rfl (kField rfl Try.underlying30 rfl Try.type9 rfl h3 rfl ?_)
        refine SeqW.consX rfl (kPut (off := 7) (w := (str y232)) (new := [(str y232)]) rfl Try.type9 rfl rfl rfl rfl rfl bx3 rfl [(str x3.number), (vI x3.length), (vI x3.axles), (vI x3.mass), (vI x3.brake), (vI x3.goods), (vB x3.gentle), (str y232)] rfl st ?_)
        intro m241 st bx3 sm242
        replace bx0n := bx0n.same sm242 ao0_o3
        replace bx4 := bx4.same sm242 (Ap.symm ao3_o4)
        refine SeqW.done fun fr243 hf244 => ?_
        have h0 := (congrFun hf244 0).trans h0
        have h3 := (congrFun hf244 3).trans h3
        have h4 := (congrFun hf244 4).trans h4
        clear hf244
        refine blockQ.n ?_
        obtain rfl := Option.some.inj hr
        exact ⟨z223, hz, st, rfl, V228, h0, Q229, bx0n, h3, bx3, bx4, ao0_o3, ao0_o4, ao3_o4, trivial⟩
       ·refine W.condF h49 hc245 (W.skip ?_)
        refine blockQ.n ?_
        obtain rfl := Option.some.inj hr
        exact ⟨z, hz, st, rfl, v0_0, h0, s0_0, bx0, h3, bx3, bx4, ao0_o3, ao0_o4, ao3_o4, trivial⟩

theorem u_Maker_SpoilWagon {N : Nat}  {z0 z : Nat → Blk} {e m : Mem} {k : Option Nat} {fr : Nat → Value} {x0 : Maker} {x1 : Wagon} {v0_0 : Value} {b0 : Nat} (hz : Zx e.next z0 z) (st : St z e m k) (h0 : fr 0 = (vP b0)) (s0_0 : SlR (TInt 3 .i64) z x0.l v0_0) (bx0 : Bx z e m k b0 [v0_0, (vI x0.n)] 56) (h1 : fr 1 = (Value.agg [(str x1.number), (vI x1.length), (vI x1.axles), (vI x1.mass), (vI x1.brake), (vI x1.goods), (vB x1.gentle), (str x1.dest)].toArray)) {r : Wagon × Maker} (hr : Maker_SpoilWagon N x0 x1 = some r) : W Try.prog (sub (bodyOf Try.f23) []) (fun ex fr' m' => ∃ z', Zx e.next z0 z' ∧ St z' e m' k ∧ (ex = .normal ∨ ex = .ret) ∧ ∃ (c4 : Nat) (wr_0 : Value), fr' 4 = (vP c4) ∧ Bx z' e m' k c4 [(str r.1.number), (vI r.1.length), (vI r.1.axles), (vI r.1.mass), (vI r.1.brake), (vI r.1.goods), (vB r.1.gentle), (str r.1.dest)] 30 ∧ (e.next ≤ c4 ∨ k = some c4) ∧ SlR (TInt 3 .i64) z' r.2.l wr_0 ∧ Bx z' e m' k b0 [wr_0, (vI r.2.n)] 56 ∧ True) fr m := by
 unfold Maker_SpoilWagon at hr
 refine W.seq (W.region ?_)
 refine SeqW.consX rfl (kBox (v := (Value.agg [(str x1.number), (vI x1.length), (vI x1.axles), (vI x1.mass), (vI x1.brake), (vI x1.goods), (vB x1.gentle), (str x1.dest)].toArray)) rfl Try.type30 h1 rfl [(str x1.number), (vI x1.length), (vI x1.axles), (vI x1.mass), (vI x1.brake), (vI x1.goods), (vB x1.gentle), (str x1.dest)] rfl rfl st ?_)
 intro B1 m2 st X3 sm4 hap5
 have A7 := hap5 _ bx0.lt'
 replace bx0 := bx0.same sm4 Ap.none'
 refine SeqW.consX rfl (kAlloc rfl Try.type30 rfl rfl rfl [(str []), (vI 0), (vI 0), (vI 0), (vI 0), (vI 0), (vB false), (str [])] rfl st ?_)
 intro B8 m9 st X10 sm11 hap12
 have A14 := hap12 _ bx0.lt'
 have A15 := hap12 _ X3.lt'
 replace bx0 := bx0.same sm11 Ap.none'
 replace X3 := X3.same sm11 Ap.none'
 refine SeqW.done fun fr16 hf17 => ?_
 have h0 := (congrFun hf17 0).trans h0
 have h3 : fr16 3 = (vP B1) := (congrFun hf17 3).trans rfl
 have h4 : fr16 4 = (vP B8) := (congrFun hf17 4).trans rfl
 clear hf17
 refine thenQ.n (W.seq ?_)
 refine W.seq (W.region ?_)
 refine sx rfl (pMove (v := (vP b0)) rfl h0) ?_
 obtain ⟨y18, hy18, hr⟩ := bind_some hr
 refine SeqW.consX rfl (StepX.call (gCallee rfl rfl (args2 rfl rfl)) ((c_Maker_Next (x0 := x0) (z := z) st.fz st.dead s0_0 ⟨bx0.blk, bx0.lt, bx0.dead, .inr rfl⟩ hy18).mono ?_))
 rintro _ m23 ⟨z19, V24, hzx20, fz21, sm22, rfl, Q25, X27, -⟩
 replace s0_0 := s0_0.mono hzx20.le
 replace X3 := X3.call hzx20 sm22 (Ap.symm A7)
 replace X10 := X10.call hzx20 sm22 (Ap.symm A14)
 have bx0n : Bx z19 e m23 k b0 _ _ := ⟨X27.blk, X27.lt, X27.dead, bx0.fresh⟩
 replace hz := hz.trans (Zx.here st hzx20)
 replace st := st.call hzx20 fz21 sm22 bx0.hq
 refine SeqW.done fun fr28 hf29 => ?_
 have h0 := (congrFun hf29 0).trans h0
 have h3 := (congrFun hf29 3).trans h3
 have h4 := (congrFun hf29 4).trans h4
 have h6 : fr28 6 = (vI y18.1) := (congrFun hf29 6).trans rfl
 clear hf29
 refine thenQ.n ?_
 obtain ⟨y246, hy246, hr⟩ := bind_some hr
 refine W.keep (u_Maker_SpoilWagon_0 (x0 := y18.2) (x3 := x1) (x4 := (Wagon.mk [] 0 0 0 0 0 false [])) (Zx.refl _) st h0 Q25 bx0n h3 X3 h4 X10 h6 A7 A14 A15 hy246) ?_
 rintro ex252 fr247 m248 hk250 ⟨z249, hz251, st, rfl, w253, h0, Q255, X257, h3, X259, O260, A261, A262, A263, -⟩
 have h4 := (hk250 4 rfl).trans h4
 replace hz := hz.trans hz251
 clear hk250
 refine thenQ.n (W.seq (W.region ?_))
 refine SeqW.consX rfl (kLoadA rfl Try.underlying30 rfl Try.type30 rfl h3 X259.loads ?_)
 refine SeqW.consX rfl (kPut (off := 0) (w := (Value.agg [(str y246.2.number), (vI y246.2.length), (vI y246.2.axles), (vI y246.2.mass), (vI y246.2.brake), (vI y246.2.goods), (vB y246.2.gentle), (str y246.2.dest)].toArray)) (new := [(str y246.2.number), (vI y246.2.length), (vI y246.2.axles), (vI y246.2.mass), (vI y246.2.brake), (vI y246.2.goods), (vB y246.2.gentle), (str y246.2.dest)]) rfl Try.type30 h4 rfl rfl rfl rfl O260 rfl [(str y246.2.number), (vI y246.2.length), (vI y246.2.axles), (vI y246.2.mass), (vI y246.2.brake), (vI y246.2.goods), (vB y246.2.gentle), (str y246.2.dest)] rfl st ?_)
 intro m264 st O260 sm265
 replace X257 := X257.same sm265 A262
 refine SeqW.done fun fr266 hf267 => ?_
 have h0 := (congrFun hf267 0).trans h0
 have h4 := (congrFun hf267 4).trans h4
 clear hf267
 refine thenQ.n ?_
 refine W.ret ?_
 obtain rfl := Option.some.inj hr
 exact ⟨z249, hz, st, .inr rfl, B8, w253, h4, O260, O260.fresh, Q255, X257, trivial⟩

theorem c_Maker_SpoilWagon {N : Nat} {z : Nat → Blk} {m : Mem} {x0 : Maker} {x1 : Wagon} {v0_0 : Value} {b0 : Nat} (fz : Fz z m) (hd : ∀ b, m.next ≤ b → m.blk b = .dead) (s0_0 : SlR (TInt 3 .i64) z x0.l v0_0) (bx0 : Bx z m m (some b0) b0 [v0_0, (vI x0.n)] 56) {r : Wagon × Maker} (hr : Maker_SpoilWagon N x0 x1 = some r) : CallW Try.prog 23 #[(vP b0), (Value.agg [(str x1.number), (vI x1.length), (vI x1.axles), (vI x1.mass), (vI x1.brake), (vI x1.goods), (vB x1.gentle), (str x1.dest)].toArray)] m fun v m' => ∃ z' wr_0, Zx m.next z z' ∧ Fz z' m' ∧ Same m m' (some b0) ∧ v = (Value.agg [(str r.1.number), (vI r.1.length), (vI r.1.axles), (vI r.1.mass), (vI r.1.brake), (vI r.1.goods), (vB r.1.gentle), (str r.1.dest)].toArray) ∧ SlR (TInt 3 .i64) z' r.2.l wr_0 ∧ Bx z' m m' (some b0) b0 [wr_0, (vI r.2.n)] 56 ∧ True := by
 refine CallW.any Try.func23 rfl (by kernel_rfl) (Nat.le_of_ble_eq_true rfl) (fun fr hf => ?_)
 have h0 : fr 0 = _ := hf 0 _ rfl
 have h1 : fr 1 = _ := hf 1 _ rfl
 refine (u_Maker_SpoilWagon (k := (some b0)) (Zx.refl _) (St.start fz hd) h0 s0_0 bx0 h1 hr).mono ?_
 rintro ex fr' m' ⟨z', hz, st, he, c4, wr_0, h4, bx4, fx4, sr_0, bxr, -⟩
 exact ⟨he, [(Value.agg [(str r.1.number), (vI r.1.length), (vI r.1.axles), (vI r.1.mass), (vI r.1.brake), (vI r.1.goods), (vB r.1.gentle), (str r.1.dest)].toArray)], ⟨resCell h4 bx4 Try.underlying30 rfl Try.type30 rfl, trivial⟩, .inl rfl, z', wr_0, hz, st.fz, st.toSame, rfl, sr_0, bxr, trivial⟩

/-! ### humpyard/wheel.Distances -/

theorem u_wheel_Distances_0 : ∀ (n : Nat) {N : Nat}  {z0 z : Nat → Blk} {e m : Mem} {k : Option Nat} {fr : Nat → Value} {x17 : List Wagon} {x18 : Int} {x19 : Int} {v17 : Value} (hz : Zx e.next z0 z) (st : St z e m k) (h17 : fr 17 = v17) (s17 : SlR TWagon z x17 v17) (h18 : fr 18 = (vI x18)) (h19 : fr 19 = (vI x19)) {r : Sum (Unit) (Int)} (hr : wheel_Distances_0 N x17 x18 n x19 = some r), W Try.prog (sub (bodyOf Try.f24) [1, 1, 0, 1, 0]) (fun ex fr' m' => ∃ z', Zx e.next z0 z' ∧ St z' e m' k ∧ ((∃ q, r = Sum.inl q ∧ ex = AExit.exit 0 ∧ True) ∨ (∃ q, r = Sum.inr q ∧ ex = AExit.ret ∧ fr' 2 = (Value.slice none 0 0) ∧ fr' 3 = (vI q) ∧ True))) fr m := by
 intro n
 induction n with
 | zero => intro N z0 z e m k fr x17 x18 x19 v17 hz st h17 s17 h18 h19 r hr; cases (show (none : Option _) = some r from hr)
 | succ n ih =>
  intro N z0 z e m k fr x17 x18 x19 v17 hz st h17 s17 h18 h19 r hr
  unfold wheel_Distances_0 at hr
  refine W.loop1 ?_
  refine W.seq (W.region ?_)
  refine sx rfl (pLss (k := .i64) (a := x19) (b := x18) rfl h19 h18) ?_
  refine SeqW.done fun fr11 hf12 => ?_
  have h17 := (congrFun hf12 17).trans h17
  have h18 := (congrFun hf12 18).trans h18
  have h19 := (congrFun hf12 19).trans h19
  have h20 : fr11 20 = (vB (decide (x19 < x18))) := (congrFun hf12 20).trans rfl
  clear hf12
  refine thenQ.n (W.seq ?_)
  rcases if_some hr with ⟨hc13, hr⟩ | ⟨hc41, hr⟩
  ·refine W.condT h20 hc13 (W.skip ?_)
   refine thenQ.n (W.seq ?_)
   refine W.block ?_
   refine W.seq (W.region ?_)
   obtain ⟨y14, hy14, hr⟩ := bind_some hr
   refine SeqW.consX rfl (kIdxR (T := TWagon) (xs := x17) (n := x19) rfl Try.underlying41 Try.type30 rfl h17 h19 s17 hy14 ?_)
   intro B15 f16 cs17 hd18 hc19
   obtain rfl := hd18
   refine SeqW.consX rfl (kLoadA rfl Try.underlying30 rfl Try.type30 rfl rfl (st.loads hc19) ?_)
   refine SeqW.consX rfl (kAlloc rfl Try.type30 rfl rfl rfl [(str []), (vI 0), (vI 0), (vI 0), (vI 0), (vI 0), (vB false), (str [])] rfl st ?_)
   intro B20 m21 st X22 sm23 hap24
   refine SeqW.consX rfl (kPut (off := 0) (w := (Value.agg [(str y14.number), (vI y14.length), (vI y14.axles), (vI y14.mass), (vI y14.brake), (vI y14.goods), (vB y14.gentle), (str y14.dest)].toArray)) (new := [(str y14.number), (vI y14.length), (vI y14.axles), (vI y14.mass), (vI y14.brake), (vI y14.goods), (vB y14.gentle), (str y14.dest)]) rfl Try.type30 rfl rfl rfl rfl rfl X22 rfl [(str y14.number), (vI y14.length), (vI y14.axles), (vI y14.mass), (vI y14.brake), (vI y14.goods), (vB y14.gentle), (str y14.dest)] rfl st ?_)
   intro m26 st X22 sm27
   refine SeqW.done fun fr28 hf29 => ?_
   have h5 : fr28 5 = (vP B20) := (congrFun hf29 5).trans rfl
   have h17 := (congrFun hf29 17).trans h17
   have h18 := (congrFun hf29 18).trans h18
   have h19 := (congrFun hf29 19).trans h19
   clear hf29
   refine thenQ.n (W.seq (W.region ?_))
   refine SeqW.consX rfl (kLoadA rfl Try.underlying30 rfl Try.type30 rfl h5 X22.loads ?_)
   obtain ⟨y30, hy30, hr⟩ := bind_some hr
   refine SeqW.consX rfl (StepX.call (gCallee rfl rfl (args1 rfl)) ((c_consist_Valid (x0 := y14) (z := z) st.fz st.dead  hy30).mono ?_))
   rintro _ _ ⟨rfl, rfl⟩
   refine sx rfl (pAssign (v := (vI y30)) rfl rfl) ?_
   refine SeqW.done fun fr31 hf32 => ?_
   have h6 : fr31 6 = (vI y30) := (congrFun hf32 6).trans rfl
   have h17 := (congrFun hf32 17).trans h17
   have h18 := (congrFun hf32 18).trans h18
   have h19 := (congrFun hf32 19).trans h19
   clear hf32
   refine thenQ.n (W.seq (W.region ?_))
   refine sx rfl (pMove (v := (vI y30)) rfl h6) ?_
   refine sx rfl (pNeq (k := .i64) (a := y30) (b := 0) rfl rfl rfl) ?_
   refine SeqW.done fun fr33 hf34 => ?_
   have h6 := (congrFun hf34 6).trans h6
   have h17 := (congrFun hf34 17).trans h17
   have h18 := (congrFun hf34 18).trans h18
   have h19 := (congrFun hf34 19).trans h19
   have h26 : fr33 26 = (vB (y30 != 0)) := (congrFun hf34 26).trans rfl
   clear hf34
   refine thenQ.n ?_
   rcases if_some hr with ⟨hc35, hr⟩ | ⟨hc38, hr⟩
   ·refine W.condT h26 hc35 (W.seq (W.region ?_))
    refine sx rfl (pMove (v := (vI y30)) rfl h6) ?_
    refine sx rfl (pAssign (v := (Value.slice none 0 0)) rfl rfl) ?_
    refine sx rfl (pAssign (v := (vI y30)) rfl rfl) ?_
    refine SeqW.done fun fr36 hf37 => ?_
    have h2 : fr36 2 = (Value.slice none 0 0) := (congrFun hf37 2).trans rfl
    have h3 : fr36 3 = (vI y30) := (congrFun hf37 3).trans rfl
    clear hf37
    refine thenQ.n ?_
    refine W.ret ?_
    refine blockQ.r ?_
    refine thenQ.r ?_
    refine thenQ.r ?_
    obtain rfl := Option.some.inj hr
    exact ⟨z, hz, st, .inr ⟨_, rfl, rfl, h2, h3, trivial⟩⟩
   ·refine W.condF h26 hc38 (W.skip ?_)
    refine blockQ.n ?_
    refine thenQ.n (W.region ?_)
    refine sx rfl (pAdd (k := .i64) (a := x19) (b := 1) rfl h19 rfl) ?_
    refine sx rfl (pMove (v := (vI (IntKind.wrap .i64 (x19 + 1)))) rfl rfl) ?_
    refine SeqW.done fun fr39 hf40 => ?_
    have h17 := (congrFun hf40 17).trans h17
    have h18 := (congrFun hf40 18).trans h18
    have h19 : fr39 19 = (vI (IntKind.wrap .i64 (x19 + 1))) := (congrFun hf40 19).trans rfl
    clear hf40
    refine thenQ.n ?_
    exact ih hz st h17 s17 h18 h19 hr
  ·refine W.condF h20 hc41 ?_
   refine W.exit ?_
   refine thenQ.x ?_
   refine thenQ.x ?_
   obtain rfl := Option.some.inj hr
   exact ⟨z, hz, st, .inl ⟨_, rfl, rfl, trivial⟩⟩

theorem u_wheel_Distances_3 {N : Nat}  {z0 z : Nat → Blk} {e m : Mem} {k : Option Nat} {fr : Nat → Value} {x7 : List Int} {x8 : Int} {x9 : Int} {x13 : Int} {x43 : Bool} {v7 : Value} {x11 : Wagon} {b11 : Nat} {x36 : List Int} {v36 : Value} (hz : Zx e.next z0 z) (st : St z e m k) (h7 : fr 7 = v7) (o7 : OwF (TInt 3 .i64) z e m k x7 v7) (h8 : fr 8 = (vI x8)) (h9 : fr 9 = (vI x9)) (h11 : fr 11 = (vP b11)) (bx11 : Bx z e m k b11 [(str x11.number), (vI x11.length), (vI x11.axles), (vI x11.mass), (vI x11.brake), (vI x11.goods), (vB x11.gentle), (str x11.dest)] 30) (h13 : fr 13 = (vI x13)) (h36 : fr 36 = v36) (o36 : OwF (TInt 3 .i64) z e m k x36 v36) (h43 : fr 43 = (vB x43)) (ao7_o11 : Ap (blkOf v7) (some b11)) (ao7_o36 : Ap (blkOf v7) (blkOf v36)) (ao11_o36 : Ap (some b11) (blkOf v36)) {r : List Int} (hr : wheel_Distances_3 N x7 x8 x9 x13 x43 = some r) : W Try.prog (sub (bodyOf Try.f24) [1, 1, 1, 1, 1, 0, 1, 0, 0, 1, 1, 0, 0, 1, 0, 1, 0, 0, 1, 1, 0, 0, 1, 0, 1]) (fun ex fr' m' => ∃ z', Zx e.next z0 z' ∧ St z' e m' k ∧ ex = AExit.normal ∧ ∃ (w7 : Value), fr' 7 = w7 ∧ OwF (TInt 3 .i64) z' e m' k r w7 ∧ Bx z' e m' k b11 [(str x11.number), (vI x11.length), (vI x11.axles), (vI x11.mass), (vI x11.brake), (vI x11.goods), (vB x11.gentle), (str x11.dest)] 30 ∧ OwF (TInt 3 .i64) z' e m' k x36 v36 ∧ Ap (blkOf w7) (some b11) ∧ Ap (blkOf w7) (blkOf v36) ∧ Ap (some b11) (blkOf v36) ∧ True) fr m := by
 unfold wheel_Distances_3 at hr
 rcases if_some hr with ⟨hc105, hr⟩ | ⟨hc127, hr⟩
 ·refine W.condT h43 hc105 (W.region ?_)
  refine sx rfl (pMove (v := v7) rfl h7) ?_
  refine sx rfl (pMove (v := (vI x8)) rfl h8) ?_
  refine sx rfl (pMove (v := (vI x13)) rfl h13) ?_
  refine sx rfl (pAdd (k := .i64) (a := x8) (b := x13) rfl rfl rfl) ?_
  refine sx rfl (pMove (v := (vI x9)) rfl h9) ?_
  refine sx rfl (pSub (k := .i64) (a := (IntKind.wrap .i64 (x8 + x13))) (b := x9) rfl rfl rfl) ?_
  refine SeqW.consX rfl (kBuild (T := (TInt 3 .i64)) rfl Try.underlying22 Try.type3 rfl rfl rfl rfl ([(IntKind.wrap .i64 ((IntKind.wrap .i64 (x8 + x13)) - x9))] : List Int) [[(vI (IntKind.wrap .i64 ((IntKind.wrap .i64 (x8 + x13)) - x9)))]] rfl rfl rfl (BuildOk.mk (w := (vI (IntKind.wrap .i64 ((IntKind.wrap .i64 (x8 + x13)) - x9)))) rfl rfl rfl rfl trivial) st ?_)
  intro V106 m107 st O108 sm109 hap110
  have A112 := hap110 _ o7.lt
  have A113 := hap110 _ bx11.lt'
  have A114 := hap110 _ o36.lt
  replace o7 := o7.same sm109 Ap.none'
  replace bx11 := bx11.same sm109 Ap.none'
  replace o36 := o36.same sm109 Ap.none'
  obtain ⟨y115, hy115, hr⟩ := bind_some hr
  refine SeqW.consX rfl (kAppend (T := (TInt 3 .i64)) (xs := x7) (ys := ([(IntKind.wrap .i64 ((IntKind.wrap .i64 (x8 + x13)) - x9))] : List Int)) rfl Try.underlying22 Try.type3 rfl rfl rfl rfl rfl rfl (.inl ⟨_, Try.underlying22⟩) rfl o7 rfl O108.ow.src st hy115 ?_)
  intro V116 m117 st O118 sm119 hap120
  have A122 := hap120 _ bx11.lt' (Ap.symm ao7_o11)
  have A123 := hap120 _ o36.lt (Ap.symm ao7_o36)
  have A124 := hap120 _ O108.lt (Ap.symm A112)
  replace bx11 := bx11.same sm119 (Ap.symm ao7_o11)
  replace o36 := o36.same sm119 (Ap.symm ao7_o36)
  replace O108 := O108.same sm119 (Ap.symm A112)
  refine sx rfl (pAssign (v := V116) rfl rfl) ?_
  refine SeqW.done fun fr125 hf126 => ?_
  have h7 : fr125 7 = V116 := (congrFun hf126 7).trans rfl
  have h8 := (congrFun hf126 8).trans h8
  have h11 := (congrFun hf126 11).trans h11
  have h13 := (congrFun hf126 13).trans h13
  have h36 := (congrFun hf126 36).trans h36
  clear hf126
  obtain rfl := Option.some.inj hr
  exact ⟨z, hz, st, rfl, V116, h7, O118, bx11, o36, (Ap.symm A122), (Ap.symm A123), ao11_o36, trivial⟩
 ·refine W.condF h43 hc127 (W.skip ?_)
  obtain rfl := Option.some.inj hr
  exact ⟨z, hz, st, rfl, v7, h7, o7, bx11, o36, ao7_o11, ao7_o36, ao11_o36, trivial⟩

theorem u_wheel_Distances_2 : ∀ (n : Nat) {N : Nat}  {z0 z : Nat → Blk} {e m : Mem} {k : Option Nat} {fr : Nat → Value} {x7 : List Int} {x8 : Int} {x9 : Int} {x36 : List Int} {x37 : Int} {x38 : Int} {v7 : Value} {x11 : Wagon} {b11 : Nat} {v36 : Value} (hz : Zx e.next z0 z) (st : St z e m k) (h7 : fr 7 = v7) (o7 : OwF (TInt 3 .i64) z e m k x7 v7) (h8 : fr 8 = (vI x8)) (h9 : fr 9 = (vI x9)) (h11 : fr 11 = (vP b11)) (bx11 : Bx z e m k b11 [(str x11.number), (vI x11.length), (vI x11.axles), (vI x11.mass), (vI x11.brake), (vI x11.goods), (vB x11.gentle), (str x11.dest)] 30) (h36 : fr 36 = v36) (o36 : OwF (TInt 3 .i64) z e m k x36 v36) (h37 : fr 37 = (vI x37)) (h38 : fr 38 = (vI x38)) (ao7_o11 : Ap (blkOf v7) (some b11)) (ao7_o36 : Ap (blkOf v7) (blkOf v36)) (ao11_o36 : Ap (some b11) (blkOf v36)) {r : List Int × Int} (hr : wheel_Distances_2 N x8 x36 x37 n x7 x9 x38 = some r), W Try.prog (sub (bodyOf Try.f24) [1, 1, 1, 1, 1, 0, 1, 0, 0, 1, 1, 0, 0, 1, 0, 1, 0]) (fun ex fr' m' => ∃ z', Zx e.next z0 z' ∧ St z' e m' k ∧ ex = AExit.exit 4 ∧ ∃ (w7 : Value), fr' 7 = w7 ∧ OwF (TInt 3 .i64) z' e m' k r.1 w7 ∧ fr' 9 = (vI r.2) ∧ Bx z' e m' k b11 [(str x11.number), (vI x11.length), (vI x11.axles), (vI x11.mass), (vI x11.brake), (vI x11.goods), (vB x11.gentle), (str x11.dest)] 30 ∧ Ap (blkOf w7) (some b11) ∧ True) fr m := by
 intro n
 induction n with
 | zero => intro N z0 z e m k fr x7 x8 x9 x36 x37 x38 v7 x11 b11 v36 hz st h7 o7 h8 h9 h11 bx11 h36 o36 h37 h38 ao7_o11 ao7_o36 ao11_o36 r hr; cases (show (none : Option _) = some r from hr)
 | succ n ih =>
  intro N z0 z e m k fr x7 x8 x9 x36 x37 x38 v7 x11 b11 v36 hz st h7 o7 h8 h9 h11 bx11 h36 o36 h37 h38 ao7_o11 ao7_o36 ao11_o36 r hr
  unfold wheel_Distances_2 at hr
  refine W.loop1 ?_
  refine W.seq (W.region ?_)
  refine sx rfl (pLss (k := .i64) (a := x38) (b := x37) rfl h38 h37) ?_
  refine SeqW.done fun fr89 hf90 => ?_
  have h7 := (congrFun hf90 7).trans h7
  have h8 := (congrFun hf90 8).trans h8
  have h9 := (congrFun hf90 9).trans h9
  have h11 := (congrFun hf90 11).trans h11
  have h36 := (congrFun hf90 36).trans h36
  have h37 := (congrFun hf90 37).trans h37
  have h38 := (congrFun hf90 38).trans h38
  have h39 : fr89 39 = (vB (decide (x38 < x37))) := (congrFun hf90 39).trans rfl
  clear hf90
  refine thenQ.n (W.seq ?_)
  rcases if_some hr with ⟨hc91, hr⟩ | ⟨hc148, hr⟩
  ·refine W.condT h39 hc91 (W.skip ?_)
   refine thenQ.n (W.seq ?_)
   refine W.block ?_
   refine W.seq (W.region ?_)
   obtain ⟨y92, hy92, hr⟩ := bind_some hr
   refine SeqW.consX rfl (kIdxO (T := (TInt 3 .i64)) (xs := x36) (n := x38) rfl Try.underlying22 Try.type3 rfl h36 h38 o36 hy92 ?_)
   intro B93 l94 c95 cs96 hv97 hd98 hg99 hc100
   have hd980 := hd98
   obtain rfl := hd980
   refine SeqW.consX rfl (kLoad (v := (vI y92)) rfl Try.underlying3 rfl rfl (hc100 0 _ rfl) ?_)
   refine sx rfl (pAssign (v := (vI y92)) rfl rfl) ?_
   refine SeqW.done fun fr101 hf102 => ?_
   have h7 := (congrFun hf102 7).trans h7
   have h8 := (congrFun hf102 8).trans h8
   have h9 := (congrFun hf102 9).trans h9
   have h11 := (congrFun hf102 11).trans h11
   have h13 : fr101 13 = (vI y92) := (congrFun hf102 13).trans rfl
   have h36 := (congrFun hf102 36).trans h36
   have h37 := (congrFun hf102 37).trans h37
   have h38 := (congrFun hf102 38).trans h38
   clear hf102
   refine thenQ.n (W.seq ?_)
   refine W.seq (W.region ?_)
   refine sx rfl (pMove (v := (vI x9)) rfl h9) ?_
   refine sx rfl (pGeq (k := .i64) (a := x9) (b := 0) rfl rfl rfl) ?_
   refine SeqW.done fun fr103 hf104 => ?_
   have h7 := (congrFun hf104 7).trans h7
   have h8 := (congrFun hf104 8).trans h8
   have h9 := (congrFun hf104 9).trans h9
   have h11 := (congrFun hf104 11).trans h11
   have h13 := (congrFun hf104 13).trans h13
   have h36 := (congrFun hf104 36).trans h36
   have h37 := (congrFun hf104 37).trans h37
   have h38 := (congrFun hf104 38).trans h38
   have h43 : fr103 43 = (vB (decide (0 ≤ x9))) := (congrFun hf104 43).trans rfl
   clear hf104
   refine thenQ.n ?_
   obtain ⟨y128, hy128, hr⟩ := bind_some hr
   refine W.keep (u_wheel_Distances_3 (x11 := x11) (Zx.refl _) st h7 o7 h8 h9 h11 bx11 h13 h36 o36 h43 ao7_o11 ao7_o36 ao11_o36 hy128) ?_
   rintro ex134 fr129 m130 hk132 ⟨z131, hz133, st, rfl, w135, h7, O137, O138, O139, A140, A141, A142, -⟩
   have h8 := (hk132 8 rfl).trans h8
   have h11 := (hk132 11 rfl).trans h11
   have h13 := (hk132 13 rfl).trans h13
   have h36 := (hk132 36 rfl).trans h36
   have h37 := (hk132 37 rfl).trans h37
   have h38 := (hk132 38 rfl).trans h38
   replace hz := hz.trans hz133
   clear hk132
   refine thenQ.n (W.region ?_)
   refine sx rfl (pMove (v := (vI x8)) rfl h8) ?_
   refine sx rfl (pMove (v := (vI y92)) rfl h13) ?_
   refine sx rfl (pAdd (k := .i64) (a := x8) (b := y92) rfl rfl rfl) ?_
   obtain ⟨y143, hy143, hr⟩ := lt_some hr
   refine sx rfl (pAssign rfl (congrArg (Value.int .i64) hy143)) ?_
   refine SeqW.done fun fr144 hf145 => ?_
   have h7 := (congrFun hf145 7).trans h7
   have h8 := (congrFun hf145 8).trans h8
   have h9 : fr144 9 = (vI y143) := (congrFun hf145 9).trans rfl
   have h11 := (congrFun hf145 11).trans h11
   have h36 := (congrFun hf145 36).trans h36
   have h37 := (congrFun hf145 37).trans h37
   have h38 := (congrFun hf145 38).trans h38
   clear hf145
   refine blockQ.n ?_
   refine thenQ.n (W.region ?_)
   refine sx rfl (pAdd (k := .i64) (a := x38) (b := 1) rfl h38 rfl) ?_
   refine sx rfl (pMove (v := (vI (IntKind.wrap .i64 (x38 + 1)))) rfl rfl) ?_
   refine SeqW.done fun fr146 hf147 => ?_
   have h7 := (congrFun hf147 7).trans h7
   have h8 := (congrFun hf147 8).trans h8
   have h9 := (congrFun hf147 9).trans h9
   have h11 := (congrFun hf147 11).trans h11
   have h36 := (congrFun hf147 36).trans h36
   have h37 := (congrFun hf147 37).trans h37
   have h38 : fr146 38 = (vI (IntKind.wrap .i64 (x38 + 1))) := (congrFun hf147 38).trans rfl
   clear hf147
   refine thenQ.n ?_
   exact ih (x11 := x11) hz st h7 O137 h8 h9 h11 O138 h36 O139 h37 h38 A140 A141 A142 hr
  ·refine W.condF h39 hc148 ?_
   refine W.exit ?_
   refine thenQ.x ?_
   refine thenQ.x ?_
   obtain rfl := Option.some.inj hr
   exact ⟨z, hz, st, rfl, v7, h7, o7, h9, bx11, ao7_o11, trivial⟩

theorem u_wheel_Distances_1 : ∀ (n : Nat) {N : Nat}  {z0 z : Nat → Blk} {e m : Mem} {k : Option Nat} {fr : Nat → Value} {x7 : List Int} {x8 : Int} {x9 : Int} {x29 : List Wagon} {x30 : Int} {x31 : Int} {v7 : Value} {v29 : Value} (hz : Zx e.next z0 z) (st : St z e m k) (h7 : fr 7 = v7) (o7 : OwF (TInt 3 .i64) z e m k x7 v7) (h8 : fr 8 = (vI x8)) (h9 : fr 9 = (vI x9)) (h29 : fr 29 = v29) (s29 : SlR TWagon z x29 v29) (h30 : fr 30 = (vI x30)) (h31 : fr 31 = (vI x31)) {r : List Int} (hr : wheel_Distances_1 N x29 x30 n x7 x8 x9 x31 = some r), W Try.prog (sub (bodyOf Try.f24) [1, 1, 1, 1, 1, 0, 1, 0]) (fun ex fr' m' => ∃ z', Zx e.next z0 z' ∧ St z' e m' k ∧ ex = AExit.exit 2 ∧ ∃ (w7 : Value), fr' 7 = w7 ∧ OwF (TInt 3 .i64) z' e m' k r w7 ∧ True) fr m := by
 intro n
 induction n with
 | zero => intro N z0 z e m k fr x7 x8 x9 x29 x30 x31 v7 v29 hz st h7 o7 h8 h9 h29 s29 h30 h31 r hr; cases (show (none : Option _) = some r from hr)
 | succ n ih =>
  intro N z0 z e m k fr x7 x8 x9 x29 x30 x31 v7 v29 hz st h7 o7 h8 h9 h29 s29 h30 h31 r hr
  unfold wheel_Distances_1 at hr
  refine W.loop1 ?_
  refine W.seq (W.region ?_)
  refine sx rfl (pLss (k := .i64) (a := x31) (b := x30) rfl h31 h30) ?_
  refine SeqW.done fun fr56 hf57 => ?_
  have h7 := (congrFun hf57 7).trans h7
  have h8 := (congrFun hf57 8).trans h8
  have h9 := (congrFun hf57 9).trans h9
  have h29 := (congrFun hf57 29).trans h29
  have h30 := (congrFun hf57 30).trans h30
  have h31 := (congrFun hf57 31).trans h31
  have h32 : fr56 32 = (vB (decide (x31 < x30))) := (congrFun hf57 32).trans rfl
  clear hf57
  refine thenQ.n (W.seq ?_)
  rcases if_some hr with ⟨hc58, hr⟩ | ⟨hc166, hr⟩
  ·refine W.condT h32 hc58 (W.skip ?_)
   refine thenQ.n (W.seq ?_)
   refine W.block ?_
   refine W.seq (W.region ?_)
   obtain ⟨y59, hy59, hr⟩ := bind_some hr
   refine SeqW.consX rfl (kIdxR (T := TWagon) (xs := x29) (n := x31) rfl Try.underlying41 Try.type30 rfl h29 h31 s29 hy59 ?_)
   intro B60 f61 cs62 hd63 hc64
   obtain rfl := hd63
   refine SeqW.consX rfl (kLoadA rfl Try.underlying30 rfl Try.type30 rfl rfl (st.loads hc64) ?_)
   refine SeqW.consX rfl (kAlloc rfl Try.type30 rfl rfl rfl [(str []), (vI 0), (vI 0), (vI 0), (vI 0), (vI 0), (vB false), (str [])] rfl st ?_)
   intro B65 m66 st X67 sm68 hap69
   have A71 := hap69 _ o7.lt
   replace o7 := o7.same sm68 Ap.none'
   refine SeqW.consX rfl (kPut (off := 0) (w := (Value.agg [(str y59.number), (vI y59.length), (vI y59.axles), (vI y59.mass), (vI y59.brake), (vI y59.goods), (vB y59.gentle), (str y59.dest)].toArray)) (new := [(str y59.number), (vI y59.length), (vI y59.axles), (vI y59.mass), (vI y59.brake), (vI y59.goods), (vB y59.gentle), (str y59.dest)]) rfl Try.type30 rfl rfl rfl rfl rfl X67 rfl [(str y59.number), (vI y59.length), (vI y59.axles), (vI y59.mass), (vI y59.brake), (vI y59.goods), (vB y59.gentle), (str y59.dest)] rfl st ?_)
   intro m72 st X67 sm73
   replace o7 := o7.same sm73 A71
   refine SeqW.done fun fr74 hf75 => ?_
   have h7 := (congrFun hf75 7).trans h7
   have h8 := (congrFun hf75 8).trans h8
   have h9 := (congrFun hf75 9).trans h9
   have h11 : fr74 11 = (vP B65) := (congrFun hf75 11).trans rfl
   have h29 := (congrFun hf75 29).trans h29
   have h30 := (congrFun hf75 30).trans h30
   have h31 := (congrFun hf75 31).trans h31
   clear hf75
   refine thenQ.n (W.seq ?_)
   refine W.seq (W.region ?_)
   refine SeqW.consX rfl (kLoadA rfl Try.underlying30 rfl Try.type30 rfl h11 X67.loads ?_)
   obtain ⟨y76, hy76, hr⟩ := bind_some hr
   refine SeqW.consX rfl (StepX.call (gCallee rfl rfl (args1 rfl)) ((c_wheel_offsets (x0 := y59) (z := z) st.fz st.dead  hy76).mono ?_))
   rintro V82 m81 ⟨z77, _, hzx78, fz79, sm80, rfl, Q83, -⟩
   have A85 := Ap.own o7.lt Q83.fresh
   have A86 := Ap.own X67.lt' Q83.fresh
   replace o7 := o7.call hzx78 sm80 Ap.none'
   replace s29 := s29.mono hzx78.le
   replace X67 := X67.call hzx78 sm80 Ap.none'
   have Q83 : OwF (TInt 3 .i64) z77 e m81 k y76 V82 := Q83.up st.next
   replace hz := hz.trans (Zx.here st hzx78)
   replace st := st.call hzx78 fz79 sm80 no_hq
   refine sx rfl (pLenO (xs := y76) rfl Try.underlying22 rfl Q83.ow) ?_
   refine sx rfl (pMove (v := (vI 0)) rfl rfl) ?_
   refine SeqW.done fun fr87 hf88 => ?_
   have h7 := (congrFun hf88 7).trans h7
   have h8 := (congrFun hf88 8).trans h8
   have h9 := (congrFun hf88 9).trans h9
   have h11 := (congrFun hf88 11).trans h11
   have h29 := (congrFun hf88 29).trans h29
   have h30 := (congrFun hf88 30).trans h30
   have h31 := (congrFun hf88 31).trans h31
   have h36 : fr87 36 = V82 := (congrFun hf88 36).trans rfl
   have h37 : fr87 37 = (vI (y76.length : Int)) := (congrFun hf88 37).trans rfl
   have h38 : fr87 38 = (vI 0) := (congrFun hf88 38).trans rfl
   clear hf88
   refine thenQ.n ?_
   refine W.block ?_
   obtain ⟨y149, hy149, hr⟩ := bind_some hr
   refine W.keep (u_wheel_Distances_2 (x11 := y59) _ (Zx.refl _) st h7 o7 h8 h9 h11 X67 h36 Q83 h37 h38 A71 A85 A86 hy149) ?_
   rintro ex155 fr150 m151 hk153 ⟨z152, hz154, st, rfl, w156, h7, O158, h9, O159, A160, -⟩
   replace s29 := s29.mono hz154.le
   have h8 := (hk153 8 rfl).trans h8
   have h11 := (hk153 11 rfl).trans h11
   have h29 := (hk153 29 rfl).trans h29
   have h30 := (hk153 30 rfl).trans h30
   have h31 := (hk153 31 rfl).trans h31
   replace hz := hz.trans hz154
   clear hk153
   refine blockQ.hit ?_
   refine thenQ.n (W.region ?_)
   refine sx rfl (pMove (v := (vI x8)) rfl h8) ?_
   refine SeqW.consX rfl (kField rfl Try.underlying30 rfl Try.type3 rfl h11 rfl ?_)
   refine SeqW.consX rfl (kLoad rfl Try.underlying3 rfl rfl (O159.load (v := (vI y59.length)) rfl) ?_)
   refine sx rfl (pMul (k := .i64) (a := 10) (b := y59.length) rfl rfl rfl) ?_
   refine sx rfl (pAdd (k := .i64) (a := x8) (b := (IntKind.wrap .i64 (10 * y59.length))) rfl rfl rfl) ?_
   obtain ⟨y161, hy161, hr⟩ := lt_some hr
   refine sx rfl (pAssign rfl (congrArg (Value.int .i64) hy161)) ?_
   refine SeqW.done fun fr162 hf163 => ?_
   have h7 := (congrFun hf163 7).trans h7
   have h8 : fr162 8 = (vI y161) := (congrFun hf163 8).trans rfl
   have h9 := (congrFun hf163 9).trans h9
   have h29 := (congrFun hf163 29).trans h29
   have h30 := (congrFun hf163 30).trans h30
   have h31 := (congrFun hf163 31).trans h31
   clear hf163
   refine blockQ.n ?_
   refine thenQ.n (W.region ?_)
   refine sx rfl (pAdd (k := .i64) (a := x31) (b := 1) rfl h31 rfl) ?_
   refine sx rfl (pMove (v := (vI (IntKind.wrap .i64 (x31 + 1)))) rfl rfl) ?_
   refine SeqW.done fun fr164 hf165 => ?_
   have h7 := (congrFun hf165 7).trans h7
   have h8 := (congrFun hf165 8).trans h8
   have h9 := (congrFun hf165 9).trans h9
   have h29 := (congrFun hf165 29).trans h29
   have h30 := (congrFun hf165 30).trans h30
   have h31 : fr164 31 = (vI (IntKind.wrap .i64 (x31 + 1))) := (congrFun hf165 31).trans rfl
   clear hf165
   refine thenQ.n ?_
   exact ih hz st h7 O158 h8 h9 h29 s29 h30 h31 hr
  ·refine W.condF h32 hc166 ?_
   refine W.exit ?_
   refine thenQ.x ?_
   refine thenQ.x ?_
   obtain rfl := Option.some.inj hr
   exact ⟨z, hz, st, rfl, v7, h7, o7, trivial⟩

theorem u_wheel_Distances {N : Nat}  {z0 z : Nat → Blk} {e m : Mem} {k : Option Nat} {fr : Nat → Value} {x0 : List Wagon} {v0 : Value} (hz : Zx e.next z0 z) (st : St z e m k) (h0 : fr 0 = v0) (s0 : SlR TWagon z x0 v0) {r : List Int × Int} (hr : wheel_Distances N x0 = some r) : W Try.prog (sub (bodyOf Try.f24) []) (fun ex fr' m' => ∃ z', Zx e.next z0 z' ∧ St z' e m' k ∧ (ex = .normal ∨ ex = .ret) ∧ ∃ (w2 : Value), fr' 2 = w2 ∧ SlR (TInt 3 .i64) z' r.1 w2 ∧ fr' 3 = (vI r.2) ∧ True) fr m := by
 unfold wheel_Distances at hr
 refine W.seq (W.region ?_)
 refine sx rfl (pAssign (v := (Value.slice none 0 0)) rfl rfl) ?_
 refine sx rfl (pAssign (v := (vI 0)) rfl rfl) ?_
 refine SeqW.done fun fr1 hf2 => ?_
 have h0 := (congrFun hf2 0).trans h0
 clear hf2
 refine thenQ.n (W.seq ?_)
 refine W.seq (W.region ?_)
 refine sx rfl (pMove (v := v0) rfl h0) ?_
 refine sx rfl (pLenR (xs := x0) rfl Try.underlying41 rfl s0) ?_
 refine sx rfl (pGtr (k := .i64) (a := (x0.length : Int)) (b := 96) rfl rfl rfl) ?_
 refine SeqW.done fun fr3 hf4 => ?_
 have h0 := (congrFun hf4 0).trans h0
 have h16 : fr3 16 = (vB (decide (96 < (x0.length : Int)))) := (congrFun hf4 16).trans rfl
 clear hf4
 refine thenQ.n ?_
 rcases if_some hr with ⟨hc5, hr⟩ | ⟨hc8, hr⟩
 ·refine W.condT h16 hc5 (W.seq (W.region ?_))
  refine sx rfl (pAssign (v := (Value.slice none 0 0)) rfl rfl) ?_
  refine sx rfl (pAssign (v := (vI 3)) rfl rfl) ?_
  refine SeqW.done fun fr6 hf7 => ?_
  have h2 : fr6 2 = (Value.slice none 0 0) := (congrFun hf7 2).trans rfl
  have h3 : fr6 3 = (vI 3) := (congrFun hf7 3).trans rfl
  clear hf7
  refine thenQ.n ?_
  refine W.ret ?_
  refine thenQ.r ?_
  obtain rfl := Option.some.inj hr
  exact ⟨z, hz, st, .inr rfl, (Value.slice none 0 0), h2, SlR.nil, h3, trivial⟩
 ·refine W.condF h16 hc8 (W.skip ?_)
  refine thenQ.n (W.seq ?_)
  refine W.seq (W.region ?_)
  refine sx rfl (pMove (v := v0) rfl h0) ?_
  refine sx rfl (pLenR (xs := x0) rfl Try.underlying41 rfl s0) ?_
  refine sx rfl (pMove (v := (vI 0)) rfl rfl) ?_
  refine SeqW.done fun fr9 hf10 => ?_
  have h0 := (congrFun hf10 0).trans h0
  have h17 : fr9 17 = v0 := (congrFun hf10 17).trans rfl
  have h18 : fr9 18 = (vI (x0.length : Int)) := (congrFun hf10 18).trans rfl
  have h19 : fr9 19 = (vI 0) := (congrFun hf10 19).trans rfl
  clear hf10
  refine thenQ.n ?_
  refine W.block ?_
  obtain ⟨y42, hy42, hr⟩ := bind_some hr
  refine W.keep (u_wheel_Distances_0 _ (Zx.refl _) st h17 s0 h18 h19 hy42) ?_
  rintro ex48 fr43 m44 hk46 ⟨z45, hz47, st, ⟨y49, rfl, rfl, -⟩ | ⟨y183, rfl, rfl, h2, h3, -⟩⟩
  ·dsimp only at hr
   replace s0 := s0.mono hz47.le
   have h0 := (hk46 0 rfl).trans h0
   replace hz := hz.trans hz47
   clear hk46
   refine blockQ.hit ?_
   refine thenQ.n (W.seq (W.region ?_))
   refine sx rfl (pAssign (v := (Value.slice none 0 0)) rfl rfl) ?_
   refine SeqW.done fun fr50 hf51 => ?_
   have h0 := (congrFun hf51 0).trans h0
   have h7 : fr50 7 = (Value.slice none 0 0) := (congrFun hf51 7).trans rfl
   clear hf51
   refine thenQ.n (W.seq (W.region ?_))
   refine sx rfl (pAssign (v := (vI 0)) rfl rfl) ?_
   refine sx rfl (pAssign (v := (vI (-1))) rfl rfl) ?_
   refine SeqW.done fun fr52 hf53 => ?_
   have h0 := (congrFun hf53 0).trans h0
   have h7 := (congrFun hf53 7).trans h7
   have h8 : fr52 8 = (vI 0) := (congrFun hf53 8).trans rfl
   have h9 : fr52 9 = (vI (-1)) := (congrFun hf53 9).trans rfl
   clear hf53
   refine thenQ.n (W.seq ?_)
   refine W.seq (W.region ?_)
   refine sx rfl (pMove (v := v0) rfl h0) ?_
   refine sx rfl (pLenR (xs := x0) rfl Try.underlying41 rfl s0) ?_
   refine sx rfl (pMove (v := (vI 0)) rfl rfl) ?_
   refine SeqW.done fun fr54 hf55 => ?_
   have h7 := (congrFun hf55 7).trans h7
   have h8 := (congrFun hf55 8).trans h8
   have h9 := (congrFun hf55 9).trans h9
   have h29 : fr54 29 = v0 := (congrFun hf55 29).trans rfl
   have h30 : fr54 30 = (vI (x0.length : Int)) := (congrFun hf55 30).trans rfl
   have h31 : fr54 31 = (vI 0) := (congrFun hf55 31).trans rfl
   clear hf55
   refine thenQ.n ?_
   refine W.block ?_
   obtain ⟨y167, hy167, hr⟩ := bind_some hr
   refine W.keep (u_wheel_Distances_1 _ (Zx.refl _) st h7 OwF.nil h8 h9 h29 s0 h30 h31 hy167) ?_
   rintro ex173 fr168 m169 hk171 ⟨z170, hz172, st, rfl, w174, h7, O176, -⟩
   replace hz := hz.trans hz172
   clear hk171
   refine blockQ.hit ?_
   refine thenQ.n (W.seq (W.region ?_))
   refine sx rfl (pMove (v := w174) rfl h7) ?_
   refine sx rfl (pAssign (v := w174) rfl rfl) ?_
   refine sx rfl (pAssign (v := (vI 0)) rfl rfl) ?_
   refine SeqW.done fun fr177 hf178 => ?_
   have h2 : fr177 2 = w174 := (congrFun hf178 2).trans rfl
   have h3 : fr177 3 = (vI 0) := (congrFun hf178 3).trans rfl
   clear hf178
   refine thenQ.n ?_
   refine W.ret ?_
   obtain ⟨z179, hz180, st, Q181, hl182⟩ := O176.freeze st
   replace hz := hz.trans hz180
   obtain rfl := Option.some.inj hr
   exact ⟨z179, hz, st, .inr rfl, w174, h2, Q181, h3, trivial⟩
  ·dsimp only at hr
   replace hz := hz.trans hz47
   clear hk46
   refine blockQ.r ?_
   refine thenQ.r ?_
   obtain rfl := Option.some.inj hr
   exact ⟨z45, hz, st, .inr rfl, (Value.slice none 0 0), h2, SlR.nil, h3, trivial⟩

theorem c_wheel_Distances {N : Nat} {z : Nat → Blk} {m : Mem} {x0 : List Wagon} {v0 : Value} (fz : Fz z m) (hd : ∀ b, m.next ≤ b → m.blk b = .dead) (s0 : SlR TWagon z x0 v0) {r : List Int × Int} (hr : wheel_Distances N x0 = some r) : CallW Try.prog 24 #[v0] m fun v m' => ∃ z' w2, Zx m.next z z' ∧ Fz z' m' ∧ Same m m' none ∧ v = (Value.tuple [w2, (vI r.2)].toArray) ∧ SlR (TInt 3 .i64) z' r.1 w2 ∧ True := by
 refine CallW.any Try.func24 rfl (by kernel_rfl) (Nat.le_of_ble_eq_true rfl) (fun fr hf => ?_)
 have h0 : fr 0 = _ := hf 0 _ rfl
 refine (u_wheel_Distances (k := none) (Zx.refl _) (St.start fz hd) h0 s0 hr).mono ?_
 rintro ex fr' m' ⟨z', hz, st, he, w2, h2, s2, h3, -⟩
 exact ⟨he, [w2, (vI r.2)], ⟨h2.symm, h3.symm, trivial⟩, .inr (List.forall_mem_cons.2 ⟨s2.stor.1, List.forall_mem_cons.2 ⟨rfl, fun _ h => nomatch h⟩⟩), z', w2, hz, st.fz, st.toSame, rfl, s2, trivial⟩

end Go.W
