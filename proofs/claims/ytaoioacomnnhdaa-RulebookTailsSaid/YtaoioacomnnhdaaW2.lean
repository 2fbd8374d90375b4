/- The models are what the program computes. -/
import Derived.Test.YtaoioacomnnhdaaW1
set_option linter.unusedVariables false
set_option linter.unusedSimpArgs false
set_option maxRecDepth 100000
set_option maxHeartbeats 4000000
namespace Go.W
open Go.AM Go.Proofs


/-! ### humpyard/brake.Total -/

theorem u_brake_Total_0 : ∀ (n : Nat) {N : Nat}  {z0 z : Nat → Blk} {e m : Mem} {k : Option Nat} {fr : Nat → Value} {x0 : List Wagon} {x4 : Brakes} {x32 : List Int} {x33 : Int} {x34 : Int} {v0 : Value} {b4 : Nat} {x10 : List Bool} {v10 : Value} {v32 : Value} (hz : Zx e.next z0 z) (st : St z e m k) (h0 : fr 0 = v0) (s0 : SlR TWagon z x0 v0) (h4 : fr 4 = (vP b4)) (bx4 : Bx z e m k b4 [(vI x4.length), (vI x4.axles), (vI x4.mass), (vI x4.braked), (vI x4.percent), (vI x4.required), (vI x4.missing)] 59) (h10 : fr 10 = v10) (o10 : OwF (TBool 4) z e m k x10 v10) (h32 : fr 32 = v32) (s32 : SlR (TInt 3 .i64) z x32 v32) (h33 : fr 33 = (vI x33)) (h34 : fr 34 = (vI x34)) (ao4_o10 : Ap (some b4) (blkOf v10)) {r : Sum (Brakes) (Brakes × Int)} (hr : brake_Total_0 N x0 x32 x33 n x4 x34 = some r), W Try.prog (sub (bodyOf Try.f29) [1, 1, 1, 1, 0, 1, 0]) (fun ex fr' m' => ∃ z', Zx e.next z0 z' ∧ St z' e m' k ∧ ((∃ q, r = Sum.inl q ∧ ex = AExit.exit 0 ∧ fr' 4 = (vP b4) ∧ Bx z' e m' k b4 [(vI q.length), (vI q.axles), (vI q.mass), (vI q.braked), (vI q.percent), (vI q.required), (vI q.missing)] 59 ∧ OwF (TBool 4) z' e m' k x10 v10 ∧ Ap (some b4) (blkOf v10) ∧ True) ∨ (∃ q, r = Sum.inr q ∧ ex = AExit.ret ∧ fr' 4 = (vP b4) ∧ Bx z' e m' k b4 [(vI q.1.length), (vI q.1.axles), (vI q.1.mass), (vI q.1.braked), (vI q.1.percent), (vI q.1.required), (vI q.1.missing)] 59 ∧ fr' 5 = (vI q.2) ∧ True))) fr m := by
 intro n
 induction n with
 | zero => intro N z0 z e m k fr x0 x4 x32 x33 x34 v0 b4 x10 v10 v32 hz st h0 s0 h4 bx4 h10 o10 h32 s32 h33 h34 ao4_o10 r hr; cases (show (none : Option _) = some r from hr)
 | succ n ih =>
  intro N z0 z e m k fr x0 x4 x32 x33 x34 v0 b4 x10 v10 v32 hz st h0 s0 h4 bx4 h10 o10 h32 s32 h33 h34 ao4_o10 r hr
  unfold brake_Total_0 at hr
  refine W.loop1 ?_
  refine W.seq (W.region ?_)
  refine sx rfl (pLss (k := .i64) (a := x34) (b := x33) rfl h34 h33) ?_
  refine SeqW.done fun fr32 hf33 => ?_
  have h0 := (congrFun hf33 0).trans h0
  have h4 := (congrFun hf33 4).trans h4
  have h10 := (congrFun hf33 10).trans h10
  have h32 := (congrFun hf33 32).trans h32
  have h33 := (congrFun hf33 33).trans h33
  have h34 := (congrFun hf33 34).trans h34
  have h35 : fr32 35 = (vB (decide (x34 < x33))) := (congrFun hf33 35).trans rfl
  clear hf33
  refine thenQ.n (W.seq ?_)
  rcases if_some hr with ⟨hc34, hr⟩ | ⟨hc55, hr⟩
  ·refine W.condT h35 hc34 (W.skip ?_)
   refine thenQ.n (W.seq ?_)
   refine W.block ?_
   refine W.seq (W.region ?_)
   obtain ⟨y35, hy35, hr⟩ := bind_some hr
   refine SeqW.consX rfl (kIdxR (T := (TInt 3 .i64)) (xs := x32) (n := x34) rfl Try.underlying22 Try.type3 rfl h32 h34 s32 hy35 ?_)
   intro B36 f37 cs38 hd39 hc40
   obtain rfl := hd39
   refine SeqW.consX rfl (kLoad (v := (vI y35)) rfl Try.underlying3 rfl rfl (ldz_load st.fz (hc40 0 _ rfl)) ?_)
   refine sx rfl (pAssign (v := (vI y35)) rfl rfl) ?_
   refine SeqW.done fun fr42 hf43 => ?_
   have h0 := (congrFun hf43 0).trans h0
   have h4 := (congrFun hf43 4).trans h4
   have h10 := (congrFun hf43 10).trans h10
   have h12 : fr42 12 = (vI y35) := (congrFun hf43 12).trans rfl
   have h32 := (congrFun hf43 32).trans h32
   have h33 := (congrFun hf43 33).trans h33
   have h34 := (congrFun hf43 34).trans h34
   clear hf43
   refine thenQ.n (W.seq (W.region ?_))
   refine sx rfl (pMove (v := (vI y35)) rfl h12) ?_
   refine sx rfl (pMove (v := v0) rfl h0) ?_
   refine sx rfl (pLenR (xs := x0) rfl Try.underlying24 rfl s0) ?_
   refine sx rfl (pSub (k := .i64) (a := (x0.length : Int)) (b := 1) rfl rfl rfl) ?_
   obtain ⟨y44, hy44, hr⟩ := bind_some hr
   refine SeqW.consX rfl (StepX.call (gCallee rfl rfl (args3 rfl rfl rfl)) ((c_brake_in (z := z) st.fz st.dead  hy44).mono ?_))
   rintro _ _ ⟨rfl, rfl⟩
   refine sx rfl (pNot (b := y44) rfl rfl) ?_
   refine SeqW.done fun fr45 hf46 => ?_
   have h0 := (congrFun hf46 0).trans h0
   have h4 := (congrFun hf46 4).trans h4
   have h10 := (congrFun hf46 10).trans h10
   have h32 := (congrFun hf46 32).trans h32
   have h33 := (congrFun hf46 33).trans h33
   have h34 := (congrFun hf46 34).trans h34
   have h43 : fr45 43 = (vB (!y44)) := (congrFun hf46 43).trans rfl
   clear hf46
   refine thenQ.n ?_
   rcases if_some hr with ⟨hc47, hr⟩ | ⟨hc52, hr⟩
   ·refine W.condT h43 hc47 (W.seq (W.region ?_))
    refine SeqW.consX rfl (kBuildS [] [(vI 0), (vI 0), (vI 0), (vI 0), (vI 0), (vI 0), (vI 0)] rfl Try.underlying59 Try.type59 rfl rfl (places59 Try.underlying59) rfl (rfl) rfl ?_)
    refine SeqW.consX rfl (kPut (off := 0) (w := (Value.agg [(vI 0), (vI 0), (vI 0), (vI 0), (vI 0), (vI 0), (vI 0)].toArray)) (new := [(vI 0), (vI 0), (vI 0), (vI 0), (vI 0), (vI 0), (vI 0)]) rfl Try.type59 h4 rfl rfl rfl rfl bx4 rfl [(vI 0), (vI 0), (vI 0), (vI 0), (vI 0), (vI 0), (vI 0)] rfl st ?_)
    intro m48 st bx4 sm49
    refine sx rfl (pAssign (v := (vI 2)) rfl rfl) ?_
    refine SeqW.done fun fr50 hf51 => ?_
    have h4 := (congrFun hf51 4).trans h4
    have h5 : fr50 5 = (vI 2) := (congrFun hf51 5).trans rfl
    clear hf51
    refine thenQ.n ?_
    refine W.ret ?_
    refine blockQ.r ?_
    refine thenQ.r ?_
    refine thenQ.r ?_
    obtain rfl := Option.some.inj hr
    exact ⟨z, hz, st, .inr ⟨_, rfl, rfl, h4, bx4, h5, trivial⟩⟩
   ·refine W.condF h43 hc52 (W.skip ?_)
    refine blockQ.n ?_
    refine thenQ.n (W.region ?_)
    refine sx rfl (pAdd (k := .i64) (a := x34) (b := 1) rfl h34 rfl) ?_
    refine sx rfl (pMove (v := (vI (IntKind.wrap .i64 (x34 + 1)))) rfl rfl) ?_
    refine SeqW.done fun fr53 hf54 => ?_
    have h0 := (congrFun hf54 0).trans h0
    have h4 := (congrFun hf54 4).trans h4
    have h10 := (congrFun hf54 10).trans h10
    have h32 := (congrFun hf54 32).trans h32
    have h33 := (congrFun hf54 33).trans h33
    have h34 : fr53 34 = (vI (IntKind.wrap .i64 (x34 + 1))) := (congrFun hf54 34).trans rfl
    clear hf54
    refine thenQ.n ?_
    exact ih (x4 := x4) hz st h0 s0 h4 bx4 h10 o10 h32 s32 h33 h34 ao4_o10 hr
  ·refine W.condF h35 hc55 ?_
   refine W.exit ?_
   refine thenQ.x ?_
   refine thenQ.x ?_
   obtain rfl := Option.some.inj hr
   exact ⟨z, hz, st, .inl ⟨_, rfl, rfl, h4, bx4, o10, ao4_o10, trivial⟩⟩

theorem u_brake_Total_1 : ∀ (n : Nat) {N : Nat}  {z0 z : Nat → Blk} {e m : Mem} {k : Option Nat} {fr : Nat → Value} {x4 : Brakes} {x10 : List Bool} {x46 : List Int} {x47 : Int} {x48 : Int} {b4 : Nat} {v10 : Value} {v46 : Value} (hz : Zx e.next z0 z) (st : St z e m k) (h4 : fr 4 = (vP b4)) (bx4 : Bx z e m k b4 [(vI x4.length), (vI x4.axles), (vI x4.mass), (vI x4.braked), (vI x4.percent), (vI x4.required), (vI x4.missing)] 59) (h10 : fr 10 = v10) (o10 : OwF (TBool 4) z e m k x10 v10) (h46 : fr 46 = v46) (s46 : SlR (TInt 3 .i64) z x46 v46) (h47 : fr 47 = (vI x47)) (h48 : fr 48 = (vI x48)) (ao4_o10 : Ap (some b4) (blkOf v10)) {r : Sum (Brakes × List Bool) (Brakes × Int)} (hr : brake_Total_1 N x46 x47 n x4 x10 x48 = some r), W Try.prog (sub (bodyOf Try.f29) [1, 1, 1, 1, 1, 0, 1, 0]) (fun ex fr' m' => ∃ z', Zx e.next z0 z' ∧ St z' e m' k ∧ ((∃ q, r = Sum.inl q ∧ ex = AExit.exit 2 ∧ fr' 4 = (vP b4) ∧ Bx z' e m' k b4 [(vI q.1.length), (vI q.1.axles), (vI q.1.mass), (vI q.1.braked), (vI q.1.percent), (vI q.1.required), (vI q.1.missing)] 59 ∧ fr' 10 = v10 ∧ OwF (TBool 4) z' e m' k q.2 v10 ∧ Ap (some b4) (blkOf v10) ∧ True) ∨ (∃ q, r = Sum.inr q ∧ ex = AExit.ret ∧ fr' 4 = (vP b4) ∧ Bx z' e m' k b4 [(vI q.1.length), (vI q.1.axles), (vI q.1.mass), (vI q.1.braked), (vI q.1.percent), (vI q.1.required), (vI q.1.missing)] 59 ∧ fr' 5 = (vI q.2) ∧ True))) fr m := by
 intro n
 induction n with
 | zero => intro N z0 z e m k fr x4 x10 x46 x47 x48 b4 v10 v46 hz st h4 bx4 h10 o10 h46 s46 h47 h48 ao4_o10 r hr; cases (show (none : Option _) = some r from hr)
 | succ n ih =>
  intro N z0 z e m k fr x4 x10 x46 x47 x48 b4 v10 v46 hz st h4 bx4 h10 o10 h46 s46 h47 h48 ao4_o10 r hr
  unfold brake_Total_1 at hr
  refine W.loop1 ?_
  refine W.seq (W.region ?_)
  refine sx rfl (pLss (k := .i64) (a := x48) (b := x47) rfl h48 h47) ?_
  refine SeqW.done fun fr70 hf71 => ?_
  have h4 := (congrFun hf71 4).trans h4
  have h10 := (congrFun hf71 10).trans h10
  have h46 := (congrFun hf71 46).trans h46
  have h47 := (congrFun hf71 47).trans h47
  have h48 := (congrFun hf71 48).trans h48
  have h49 : fr70 49 = (vB (decide (x48 < x47))) := (congrFun hf71 49).trans rfl
  clear hf71
  refine thenQ.n (W.seq ?_)
  rcases if_some hr with ⟨hc72, hr⟩ | ⟨hc115, hr⟩
  ·refine W.condT h49 hc72 (W.skip ?_)
   refine thenQ.n (W.seq ?_)
   refine W.block ?_
   refine W.seq (W.region ?_)
   obtain ⟨y73, hy73, hr⟩ := bind_some hr
   refine SeqW.consX rfl (kIdxR (T := (TInt 3 .i64)) (xs := x46) (n := x48) rfl Try.underlying22 Try.type3 rfl h46 h48 s46 hy73 ?_)
   intro B74 f75 cs76 hd77 hc78
   obtain rfl := hd77
   refine SeqW.consX rfl (kLoad (v := (vI y73)) rfl Try.underlying3 rfl rfl (ldz_load st.fz (hc78 0 _ rfl)) ?_)
   refine sx rfl (pAssign (v := (vI y73)) rfl rfl) ?_
   refine SeqW.done fun fr80 hf81 => ?_
   have h4 := (congrFun hf81 4).trans h4
   have h10 := (congrFun hf81 10).trans h10
   have h14 : fr80 14 = (vI y73) := (congrFun hf81 14).trans rfl
   have h46 := (congrFun hf81 46).trans h46
   have h47 := (congrFun hf81 47).trans h47
   have h48 := (congrFun hf81 48).trans h48
   clear hf81
   refine thenQ.n (W.seq ?_)
   refine W.seq (W.region ?_)
   refine sx rfl (pMove (v := v10) rfl h10) ?_
   refine sx rfl (pMove (v := (vI y73)) rfl h14) ?_
   obtain ⟨y82, hy82, hr⟩ := bind_some hr
   refine SeqW.consX rfl (kIdxO (T := (TBool 4)) (xs := x10) (n := y73) rfl Try.underlying73 Try.type4 rfl rfl rfl o10 hy82 ?_)
   intro B83 l84 c85 cs86 hv87 hd88 hg89 hc90
   have hd880 := hd88
   obtain rfl := hd880
   refine SeqW.consX rfl (kLoad (v := (vB y82)) rfl Try.underlying4 rfl rfl (hc90 0 _ rfl) ?_)
   refine SeqW.done fun fr91 hf92 => ?_
   have h4 := (congrFun hf92 4).trans h4
   have h10 := (congrFun hf92 10).trans h10
   have h14 := (congrFun hf92 14).trans h14
   have h46 := (congrFun hf92 46).trans h46
   have h47 := (congrFun hf92 47).trans h47
   have h48 := (congrFun hf92 48).trans h48
   have h55 : fr91 55 = (vB y82) := (congrFun hf92 55).trans rfl
   clear hf92
   refine thenQ.n ?_
   rcases if_some hr with ⟨hc93, hr⟩ | ⟨hc98, hr⟩
   ·refine W.condT h55 hc93 (W.seq (W.region ?_))
    refine SeqW.consX rfl (kBuildS [] [(vI 0), (vI 0), (vI 0), (vI 0), (vI 0), (vI 0), (vI 0)] rfl Try.underlying59 Try.type59 rfl rfl (places59 Try.underlying59) rfl (rfl) rfl ?_)
    refine SeqW.consX rfl (kPut (off := 0) (w := (Value.agg [(vI 0), (vI 0), (vI 0), (vI 0), (vI 0), (vI 0), (vI 0)].toArray)) (new := [(vI 0), (vI 0), (vI 0), (vI 0), (vI 0), (vI 0), (vI 0)]) rfl Try.type59 h4 rfl rfl rfl rfl bx4 rfl [(vI 0), (vI 0), (vI 0), (vI 0), (vI 0), (vI 0), (vI 0)] rfl st ?_)
    intro m94 st bx4 sm95
    refine sx rfl (pAssign (v := (vI 8)) rfl rfl) ?_
    refine SeqW.done fun fr96 hf97 => ?_
    have h4 := (congrFun hf97 4).trans h4
    have h5 : fr96 5 = (vI 8) := (congrFun hf97 5).trans rfl
    clear hf97
    refine thenQ.n ?_
    refine W.ret ?_
    refine thenQ.r ?_
    refine blockQ.r ?_
    refine thenQ.r ?_
    refine thenQ.r ?_
    obtain rfl := Option.some.inj hr
    exact ⟨z, hz, st, .inr ⟨_, rfl, rfl, h4, bx4, h5, trivial⟩⟩
   ·refine W.condF h55 hc98 (W.skip ?_)
    refine thenQ.n (W.region ?_)
    refine sx rfl (pMove (v := v10) rfl h10) ?_
    refine sx rfl (pMove (v := (vI y73)) rfl h14) ?_
    obtain ⟨y99, hy99, hr⟩ := bind_some hr
    refine SeqW.consX rfl (kIdxO (T := (TBool 4)) (xs := x10) (n := y73) rfl Try.underlying73 Try.type4 rfl rfl rfl o10 hy99 ?_)
    intro B100 l101 c102 cs103 hv104 hd105 hg106 hc107
    have hd1050 := hd105
    obtain rfl := hd1050
    refine SeqW.consX rfl (kSet (T := (TBool 4)) (off := (y73 : Int).toNat * ((TBool 4)).sz) (n := (y73 : Int).toNat) (f := 0) (w := (vB true)) (new := [(vB true)]) (ecs := [(vB y99)]) (ecs' := [(vB true)]) (a := y99) (a' := true) rfl Try.type4 rfl rfl rfl rfl rfl rfl o10 hv104 hg106 hd105 hc107 rfl rfl rfl st ?_)
    intro m108 st o10 sm109
    obtain ⟨y110, hy110, hr⟩ := lt_some hr
    rw [hy110] at o10
    replace bx4 := bx4.same sm109 ao4_o10
    refine SeqW.done fun fr111 hf112 => ?_
    have h4 := (congrFun hf112 4).trans h4
    have h10 := (congrFun hf112 10).trans h10
    have h46 := (congrFun hf112 46).trans h46
    have h47 := (congrFun hf112 47).trans h47
    have h48 := (congrFun hf112 48).trans h48
    clear hf112
    refine blockQ.n ?_
    refine thenQ.n (W.region ?_)
    refine sx rfl (pAdd (k := .i64) (a := x48) (b := 1) rfl h48 rfl) ?_
    refine sx rfl (pMove (v := (vI (IntKind.wrap .i64 (x48 + 1)))) rfl rfl) ?_
    refine SeqW.done fun fr113 hf114 => ?_
    have h4 := (congrFun hf114 4).trans h4
    have h10 := (congrFun hf114 10).trans h10
    have h46 := (congrFun hf114 46).trans h46
    have h47 := (congrFun hf114 47).trans h47
    have h48 : fr113 48 = (vI (IntKind.wrap .i64 (x48 + 1))) := (congrFun hf114 48).trans rfl
    clear hf114
    refine thenQ.n ?_
    exact ih (x4 := x4) hz st h4 bx4 h10 o10 h46 s46 h47 h48 ao4_o10 hr
  ·refine W.condF h49 hc115 ?_
   refine W.exit ?_
   refine thenQ.x ?_
   refine thenQ.x ?_
   obtain rfl := Option.some.inj hr
   exact ⟨z, hz, st, .inl ⟨_, rfl, rfl, h4, bx4, h10, o10, ao4_o10, trivial⟩⟩

theorem u_brake_Total_3 {N : Nat}  {z0 z : Nat → Blk} {e m : Mem} {k : Option Nat} {fr : Nat → Value} {x10 : List Bool} {x15 : Brakes} {x65 : List Wagon} {x67 : Int} {x4 : Brakes} {b4 : Nat} {v10 : Value} {b15 : Nat} {v65 : Value} (hz : Zx e.next z0 z) (st : St z e m k) (h4 : fr 4 = (vP b4)) (bx4 : Bx z e m k b4 [(vI x4.length), (vI x4.axles), (vI x4.mass), (vI x4.braked), (vI x4.percent), (vI x4.required), (vI x4.missing)] 59) (h10 : fr 10 = v10) (o10 : OwF (TBool 4) z e m k x10 v10) (h15 : fr 15 = (vP b15)) (bx15 : Bx z e m k b15 [(vI x15.length), (vI x15.axles), (vI x15.mass), (vI x15.braked), (vI x15.percent), (vI x15.required), (vI x15.missing)] 59) (h65 : fr 65 = v65) (s65 : SlR TWagon z x65 v65) (h67 : fr 67 = (vI x67)) (ao4_o10 : Ap (some b4) (blkOf v10)) (ao4_o15 : Ap (some b4) (some b15)) (ao10_o15 : Ap (blkOf v10) (some b15)) {r : Brakes} (hr : brake_Total_3 N x10 x15 x65 x67 = some r) : W Try.prog (sub (bodyOf Try.f29) [1, 1, 1, 1, 1, 1, 1, 0, 1, 0, 0, 1, 1, 0]) (fun ex fr' m' => ∃ z', Zx e.next z0 z' ∧ St z' e m' k ∧ ex = AExit.normal ∧ fr' 15 = (vP b15) ∧ Bx z' e m' k b15 [(vI r.length), (vI r.axles), (vI r.mass), (vI r.braked), (vI r.percent), (vI r.required), (vI r.missing)] 59 ∧ Bx z' e m' k b4 [(vI x4.length), (vI x4.axles), (vI x4.mass), (vI x4.braked), (vI x4.percent), (vI x4.required), (vI x4.missing)] 59 ∧ OwF (TBool 4) z' e m' k x10 v10 ∧ Ap (some b15) (some b4) ∧ Ap (some b15) (blkOf v10) ∧ Ap (some b4) (blkOf v10) ∧ True) fr m := by
 unfold brake_Total_3 at hr
 refine W.block ?_
 refine W.seq (W.region ?_)
 refine sx rfl (pMove (v := (vI x67)) rfl h67) ?_
 obtain ⟨y146, hy146, hr⟩ := bind_some hr
 refine SeqW.consX rfl (kIdxR (T := TWagon) (xs := x65) (n := x67) rfl Try.underlying24 Try.type36 rfl h65 h67 s65 hy146 ?_)
 intro B147 f148 cs149 hd150 hc151
 obtain rfl := hd150
 refine SeqW.consX rfl (kLoadA rfl Try.underlying36 rfl Try.type36 rfl rfl (st.loads hc151) ?_)
 refine SeqW.consX rfl (kAlloc rfl Try.type36 rfl rfl rfl [(str []), (vI 0), (vI 0), (vI 0), (vI 0), (vI 0), (vB false), (str [])] rfl st ?_)
 intro B153 m154  st X155 sm156 hap157
 have A159 := hap157 _ bx4.lt'
 have A160 := hap157 _ o10.lt
 have A161 := hap157 _ bx15.lt'
 replace bx4 := bx4.same sm156 Ap.none'
 replace o10 := o10.same sm156 Ap.none'
 replace bx15 := bx15.same sm156 Ap.none'
 refine sx rfl (pAssign (v := (vI x67)) rfl rfl) ?_
 refine SeqW.consX rfl (kPut (off := 0) (w := (Value.agg [(str y146.number), (vI y146.length), (vI y146.axles), (vI y146.mass), (vI y146.brake), (vI y146.goods), (vB y146.gentle), (str y146.dest)].toArray)) (new := [(str y146.number), (vI y146.length), (vI y146.axles), (vI y146.mass), (vI y146.brake), (vI y146.goods), (vB y146.gentle), (str y146.dest)]) rfl Try.type36 rfl rfl rfl rfl rfl X155 rfl [(str y146.number), (vI y146.length), (vI y146.axles), (vI y146.mass), (vI y146.brake), (vI y146.goods), (vB y146.gentle), (str y146.dest)] rfl st ?_)
 intro m162 st X155 sm163
 replace bx4 := bx4.same sm163 A159
 replace o10 := o10.same sm163 A160
 replace bx15 := bx15.same sm163 A161
 refine SeqW.done fun fr164 hf165 => ?_
 have h4 := (congrFun hf165 4).trans h4
 have h10 := (congrFun hf165 10).trans h10
 have h15 := (congrFun hf165 15).trans h15
 have h16 : fr164 16 = (vI x67) := (congrFun hf165 16).trans rfl
 have h17 : fr164 17 = (vP B153) := (congrFun hf165 17).trans rfl
 have h65 := (congrFun hf165 65).trans h65
 have h67 := (congrFun hf165 67).trans h67
 clear hf165
 refine thenQ.n (W.seq (W.region ?_))
 refine sx rfl (pMove (v := v10) rfl h10) ?_
 refine sx rfl (pMove (v := (vI x67)) rfl h16) ?_
 obtain ⟨y166, hy166, hr⟩ := bind_some hr
 refine SeqW.consX rfl (kIdxO (T := (TBool 4)) (xs := x10) (n := x67) rfl Try.underlying73 Try.type4 rfl rfl rfl o10 hy166 ?_)
 intro B167 l168 c169 cs170 hv171 hd172 hg173 hc174
 have hd1720 := hd172
 obtain rfl := hd1720
 refine SeqW.consX rfl (kLoad (v := (vB y166)) rfl Try.underlying4 rfl rfl (hc174 0 _ rfl) ?_)
 refine sx rfl (pNot (b := y166) rfl rfl) ?_
 refine SeqW.done fun fr175 hf176 => ?_
 have h4 := (congrFun hf176 4).trans h4
 have h10 := (congrFun hf176 10).trans h10
 have h15 := (congrFun hf176 15).trans h15
 have h17 := (congrFun hf176 17).trans h17
 have h65 := (congrFun hf176 65).trans h65
 have h67 := (congrFun hf176 67).trans h67
 have h76 : fr175 76 = (vB (!y166)) := (congrFun hf176 76).trans rfl
 clear hf176
 refine thenQ.n ?_
 rcases if_some hr with ⟨hc177, hr⟩ | ⟨hc182, hr⟩
 ·refine W.condT h76 hc177 (W.region ?_)
  refine SeqW.consX rfl (kField rfl Try.underlying59 rfl Try.type3 rfl h15 rfl ?_)
  refine SeqW.consX rfl (kLoad rfl Try.underlying3 rfl rfl (bx15.load (v := (vI x15.braked)) rfl) ?_)
  refine SeqW.consX rfl (kField rfl Try.underlying36 rfl Try.type3 rfl h17 rfl ?_)
  refine SeqW.consX rfl (kLoad rfl Try.underlying3 rfl rfl (X155.load (v := (vI y146.brake)) rfl) ?_)
  refine sx rfl (pAdd (k := .i64) (a := x15.braked) (b := y146.brake) rfl rfl rfl) ?_
  refine SeqW.consX rfl (kField rfl Try.underlying59 rfl Try.type3 rfl h15 rfl ?_)
  refine SeqW.consX rfl (kPut (off := 3) (w := (vI (IntKind.wrap .i64 (x15.braked + y146.brake)))) (new := [(vI (IntKind.wrap .i64 (x15.braked + y146.brake)))]) rfl Try.type3 rfl rfl rfl rfl rfl bx15 rfl [(vI x15.length), (vI x15.axles), (vI x15.mass), (vI (IntKind.wrap .i64 (x15.braked + y146.brake))), (vI x15.percent), (vI x15.required), (vI x15.missing)] rfl st ?_)
  intro m178 st bx15 sm179
  replace bx4 := bx4.same sm179 ao4_o15
  replace o10 := o10.same sm179 ao10_o15
  refine SeqW.done fun fr180 hf181 => ?_
  have h4 := (congrFun hf181 4).trans h4
  have h10 := (congrFun hf181 10).trans h10
  have h15 := (congrFun hf181 15).trans h15
  have h65 := (congrFun hf181 65).trans h65
  have h67 := (congrFun hf181 67).trans h67
  clear hf181
  refine blockQ.n ?_
  obtain rfl := Option.some.inj hr
  exact ⟨z, hz, st, rfl, h15, bx15, bx4, o10, (Ap.symm ao4_o15), (Ap.symm ao10_o15), ao4_o10, trivial⟩
 ·refine W.condF h76 hc182 (W.skip ?_)
  refine blockQ.n ?_
  obtain rfl := Option.some.inj hr
  exact ⟨z, hz, st, rfl, h15, bx15, bx4, o10, (Ap.symm ao4_o15), (Ap.symm ao10_o15), ao4_o10, trivial⟩

theorem u_brake_Total_2 : ∀ (n : Nat) {N : Nat}  {z0 z : Nat → Blk} {e m : Mem} {k : Option Nat} {fr : Nat → Value} {x10 : List Bool} {x15 : Brakes} {x65 : List Wagon} {x66 : Int} {x67 : Int} {x4 : Brakes} {b4 : Nat} {v10 : Value} {b15 : Nat} {v65 : Value} (hz : Zx e.next z0 z) (st : St z e m k) (h4 : fr 4 = (vP b4)) (bx4 : Bx z e m k b4 [(vI x4.length), (vI x4.axles), (vI x4.mass), (vI x4.braked), (vI x4.percent), (vI x4.required), (vI x4.missing)] 59) (h10 : fr 10 = v10) (o10 : OwF (TBool 4) z e m k x10 v10) (h15 : fr 15 = (vP b15)) (bx15 : Bx z e m k b15 [(vI x15.length), (vI x15.axles), (vI x15.mass), (vI x15.braked), (vI x15.percent), (vI x15.required), (vI x15.missing)] 59) (h65 : fr 65 = v65) (s65 : SlR TWagon z x65 v65) (h66 : fr 66 = (vI x66)) (h67 : fr 67 = (vI x67)) (ao4_o10 : Ap (some b4) (blkOf v10)) (ao4_o15 : Ap (some b4) (some b15)) (ao10_o15 : Ap (blkOf v10) (some b15)) {r : Brakes} (hr : brake_Total_2 N x10 x65 x66 n x15 x67 = some r), W Try.prog (sub (bodyOf Try.f29) [1, 1, 1, 1, 1, 1, 1, 0, 1, 0]) (fun ex fr' m' => ∃ z', Zx e.next z0 z' ∧ St z' e m' k ∧ ex = AExit.exit 4 ∧ fr' 15 = (vP b15) ∧ Bx z' e m' k b15 [(vI r.length), (vI r.axles), (vI r.mass), (vI r.braked), (vI r.percent), (vI r.required), (vI r.missing)] 59 ∧ Bx z' e m' k b4 [(vI x4.length), (vI x4.axles), (vI x4.mass), (vI x4.braked), (vI x4.percent), (vI x4.required), (vI x4.missing)] 59 ∧ Ap (some b15) (some b4) ∧ True) fr m := by
 intro n
 induction n with
 | zero => intro N z0 z e m k fr x10 x15 x65 x66 x67 x4 b4 v10 b15 v65 hz st h4 bx4 h10 o10 h15 bx15 h65 s65 h66 h67 ao4_o10 ao4_o15 ao10_o15 r hr; cases (show (none : Option _) = some r from hr)
 | succ n ih =>
  intro N z0 z e m k fr x10 x15 x65 x66 x67 x4 b4 v10 b15 v65 hz st h4 bx4 h10 o10 h15 bx15 h65 s65 h66 h67 ao4_o10 ao4_o15 ao10_o15 r hr
  unfold brake_Total_2 at hr
  refine W.loop1 ?_
  refine W.seq (W.region ?_)
  refine sx rfl (pLss (k := .i64) (a := x67) (b := x66) rfl h67 h66) ?_
  refine SeqW.done fun fr143 hf144 => ?_
  have h4 := (congrFun hf144 4).trans h4
  have h10 := (congrFun hf144 10).trans h10
  have h15 := (congrFun hf144 15).trans h15
  have h65 := (congrFun hf144 65).trans h65
  have h66 := (congrFun hf144 66).trans h66
  have h67 := (congrFun hf144 67).trans h67
  have h68 : fr143 68 = (vB (decide (x67 < x66))) := (congrFun hf144 68).trans rfl
  clear hf144
  refine thenQ.n (W.seq ?_)
  rcases if_some hr with ⟨hc145, hr⟩ | ⟨hc199, hr⟩
  ·refine W.condT h68 hc145 (W.skip ?_)
   refine thenQ.n (W.seq ?_)
   obtain ⟨y183, hy183, hr⟩ := bind_some hr
   refine W.keep (u_brake_Total_3 (x4 := x4) (x15 := x15) (Zx.refl _) st h4 bx4 h10 o10 h15 bx15 h65 s65 h67 ao4_o10 ao4_o15 ao10_o15 hy183) ?_
   rintro ex189 fr184 m185 hk187 ⟨z186, hz188, st, rfl, h15, X191, O192, O193, A194, A195, A196, -⟩
   replace s65 := s65.mono hz188.le
   have h4 := (hk187 4 rfl).trans h4
   have h10 := (hk187 10 rfl).trans h10
   have h65 := (hk187 65 rfl).trans h65
   have h66 := (hk187 66 rfl).trans h66
   have h67 := (hk187 67 rfl).trans h67
   replace hz := hz.trans hz188
   clear hk187
   refine thenQ.n (W.region ?_)
   refine sx rfl (pAdd (k := .i64) (a := x67) (b := 1) rfl h67 rfl) ?_
   refine sx rfl (pMove (v := (vI (IntKind.wrap .i64 (x67 + 1)))) rfl rfl) ?_
   refine SeqW.done fun fr197 hf198 => ?_
   have h4 := (congrFun hf198 4).trans h4
   have h10 := (congrFun hf198 10).trans h10
   have h15 := (congrFun hf198 15).trans h15
   have h65 := (congrFun hf198 65).trans h65
   have h66 := (congrFun hf198 66).trans h66
   have h67 : fr197 67 = (vI (IntKind.wrap .i64 (x67 + 1))) := (congrFun hf198 67).trans rfl
   clear hf198
   refine thenQ.n ?_
   exact ih (x4 := x4) (x15 := y183) hz st h4 O192 h10 O193 h15 X191 h65 s65 h66 h67 A196 (Ap.symm A194) (Ap.symm A195) hr
  ·refine W.condF h68 hc199 ?_
   refine W.exit ?_
   refine thenQ.x ?_
   refine thenQ.x ?_
   obtain rfl := Option.some.inj hr
   exact ⟨z, hz, st, rfl, h15, bx15, bx4, (Ap.symm ao4_o15), trivial⟩

theorem u_brake_Total_4 {N : Nat}  {z0 z : Nat → Blk} {e m : Mem} {k : Option Nat} {fr : Nat → Value} {x7 : Int} {x15 : Brakes} {x92 : Bool} {x4 : Brakes} {b4 : Nat} {b15 : Nat} (hz : Zx e.next z0 z) (st : St z e m k) (h4 : fr 4 = (vP b4)) (bx4 : Bx z e m k b4 [(vI x4.length), (vI x4.axles), (vI x4.mass), (vI x4.braked), (vI x4.percent), (vI x4.required), (vI x4.missing)] 59) (h7 : fr 7 = (vI x7)) (h15 : fr 15 = (vP b15)) (bx15 : Bx z e m k b15 [(vI x15.length), (vI x15.axles), (vI x15.mass), (vI x15.braked), (vI x15.percent), (vI x15.required), (vI x15.missing)] 59) (h92 : fr 92 = (vB x92)) (ao4_o15 : Ap (some b4) (some b15)) {r : Brakes} (hr : brake_Total_4 N x7 x15 x92 = some r) : W Try.prog (sub (bodyOf Try.f29) [1, 1, 1, 1, 1, 1, 1, 1, 1, 0, 1]) (fun ex fr' m' => ∃ z', Zx e.next z0 z' ∧ St z' e m' k ∧ ex = AExit.normal ∧ fr' 15 = (vP b15) ∧ Bx z' e m' k b15 [(vI r.length), (vI r.axles), (vI r.mass), (vI r.braked), (vI r.percent), (vI r.required), (vI r.missing)] 59 ∧ Bx z' e m' k b4 [(vI x4.length), (vI x4.axles), (vI x4.mass), (vI x4.braked), (vI x4.percent), (vI x4.required), (vI x4.missing)] 59 ∧ Ap (some b15) (some b4) ∧ True) fr m := by
 unfold brake_Total_4 at hr
 rcases if_some hr with ⟨hc224, hr⟩ | ⟨hc230, hr⟩
 ·refine W.condT h92 hc224 (W.region ?_)
  refine SeqW.consX rfl (kField rfl Try.underlying59 rfl Try.type3 rfl h15 rfl ?_)
  refine SeqW.consX rfl (kLoad rfl Try.underlying3 rfl rfl (bx15.load (v := (vI x15.braked)) rfl) ?_)
  refine sx rfl (pMul (k := .i64) (a := 100) (b := x15.braked) rfl rfl rfl) ?_
  refine sx rfl (pMove (v := (vI x7)) rfl h7) ?_
  obtain ⟨y225, hy225, hr⟩ := bind_some hr
  refine SeqW.consX rfl (kQuo (k1 := .i64) (a := (IntKind.wrap .i64 (100 * x15.braked))) (b := x7) rfl rfl rfl hy225 ?_)
  refine SeqW.consX rfl (kField rfl Try.underlying59 rfl Try.type3 rfl h15 rfl ?_)
  refine SeqW.consX rfl (kPut (off := 4) (w := (vI (IntKind.wrap .i64 (y225)))) (new := [(vI (IntKind.wrap .i64 (y225)))]) rfl Try.type3 rfl rfl rfl rfl rfl bx15 rfl [(vI x15.length), (vI x15.axles), (vI x15.mass), (vI x15.braked), (vI (IntKind.wrap .i64 (y225))), (vI x15.required), (vI x15.missing)] rfl st ?_)
  intro m226 st bx15 sm227
  replace bx4 := bx4.same sm227 ao4_o15
  refine SeqW.done fun fr228 hf229 => ?_
  have h4 := (congrFun hf229 4).trans h4
  have h15 := (congrFun hf229 15).trans h15
  clear hf229
  obtain rfl := Option.some.inj hr
  exact ⟨z, hz, st, rfl, h15, bx15, bx4, (Ap.symm ao4_o15), trivial⟩
 ·refine W.condF h92 hc230 (W.skip ?_)
  obtain rfl := Option.some.inj hr
  exact ⟨z, hz, st, rfl, h15, bx15, bx4, (Ap.symm ao4_o15), trivial⟩

theorem u_brake_Total {N : Nat}  {z0 z : Nat → Blk} {e m : Mem} {k : Option Nat} {fr : Nat → Value} {x0 : List Wagon} {x1 : List Int} {v0 : Value} {v1 : Value} (hz : Zx e.next z0 z) (st : St z e m k) (h0 : fr 0 = v0) (s0 : SlR TWagon z x0 v0) (h1 : fr 1 = v1) (s1 : SlR (TInt 3 .i64) z x1 v1) {r : Brakes × Int} (hr : brake_Total N x0 x1 = some r) : W Try.prog (sub (bodyOf Try.f29) []) (fun ex fr' m' => ∃ z', Zx e.next z0 z' ∧ St z' e m' k ∧ (ex = .normal ∨ ex = .ret) ∧ ∃ (c4 : Nat), fr' 4 = (vP c4) ∧ Bx z' e m' k c4 [(vI r.1.length), (vI r.1.axles), (vI r.1.mass), (vI r.1.braked), (vI r.1.percent), (vI r.1.required), (vI r.1.missing)] 59 ∧ (e.next ≤ c4 ∨ k = some c4) ∧ fr' 5 = (vI r.2) ∧ True) fr m := by
 unfold brake_Total at hr
 refine W.seq (W.region ?_)
 refine SeqW.consX rfl (kAlloc rfl Try.type59 rfl rfl rfl [(vI 0), (vI 0), (vI 0), (vI 0), (vI 0), (vI 0), (vI 0)] rfl st ?_)
 intro B1 m2  st X3 sm4 hap5
 refine sx rfl (pAssign (v := (vI 0)) rfl rfl) ?_
 refine SeqW.done fun fr7 hf8 => ?_
 have h0 := (congrFun hf8 0).trans h0
 have h1 := (congrFun hf8 1).trans h1
 have h4 : fr7 4 = (vP B1) := (congrFun hf8 4).trans rfl
 clear hf8
 refine thenQ.n (W.seq (W.region ?_))
 refine sx rfl (pMove (v := v0) rfl h0) ?_
 obtain ⟨y9, hy9, hr⟩ := bind_some hr
 refine SeqW.consX rfl (StepX.call (gCallee rfl rfl (args1 rfl)) ((c_consist_Total (z := z) st.fz st.dead s0 hy9).mono ?_))
 rintro _ _ ⟨rfl, rfl⟩
 refine sx rfl (pMove (v := (Value.tuple [(vI y9.1), (vI y9.2.1), (vI y9.2.2.1), (vI y9.2.2.2)].toArray)) rfl rfl) ?_
 refine sx rfl (pExtract (vs := [(vI y9.1), (vI y9.2.1), (vI y9.2.2.1), (vI y9.2.2.2)]) (v := (vI y9.1)) rfl rfl rfl) ?_
 refine sx rfl (pExtract (vs := [(vI y9.1), (vI y9.2.1), (vI y9.2.2.1), (vI y9.2.2.2)]) (v := (vI y9.2.1)) rfl rfl rfl) ?_
 refine sx rfl (pExtract (vs := [(vI y9.1), (vI y9.2.1), (vI y9.2.2.1), (vI y9.2.2.2)]) (v := (vI y9.2.2.1)) rfl rfl rfl) ?_
 refine sx rfl (pExtract (vs := [(vI y9.1), (vI y9.2.1), (vI y9.2.2.1), (vI y9.2.2.2)]) (v := (vI y9.2.2.2)) rfl rfl rfl) ?_
 refine sx rfl (pAssign (v := (vI y9.1)) rfl rfl) ?_
 refine sx rfl (pAssign (v := (vI y9.2.1)) rfl rfl) ?_
 refine sx rfl (pAssign (v := (vI y9.2.2.1)) rfl rfl) ?_
 refine sx rfl (pAssign (v := (vI y9.2.2.2)) rfl rfl) ?_
 refine SeqW.done fun fr10 hf11 => ?_
 have h0 := (congrFun hf11 0).trans h0
 have h1 := (congrFun hf11 1).trans h1
 have h4 := (congrFun hf11 4).trans h4
 have h6 : fr10 6 = (vI y9.1) := (congrFun hf11 6).trans rfl
 have h7 : fr10 7 = (vI y9.2.1) := (congrFun hf11 7).trans rfl
 have h8 : fr10 8 = (vI y9.2.2.1) := (congrFun hf11 8).trans rfl
 have h9 : fr10 9 = (vI y9.2.2.2) := (congrFun hf11 9).trans rfl
 clear hf11
 refine thenQ.n (W.seq ?_)
 refine W.seq (W.region ?_)
 refine sx rfl (pMove (v := (vI y9.2.2.2)) rfl h9) ?_
 refine sx rfl (pNeq (k := .i64) (a := y9.2.2.2) (b := 0) rfl rfl rfl) ?_
 refine SeqW.done fun fr12 hf13 => ?_
 have h0 := (congrFun hf13 0).trans h0
 have h1 := (congrFun hf13 1).trans h1
 have h4 := (congrFun hf13 4).trans h4
 have h6 := (congrFun hf13 6).trans h6
 have h7 := (congrFun hf13 7).trans h7
 have h8 := (congrFun hf13 8).trans h8
 have h9 := (congrFun hf13 9).trans h9
 have h26 : fr12 26 = (vB (y9.2.2.2 != 0)) := (congrFun hf13 26).trans rfl
 clear hf13
 refine thenQ.n ?_
 rcases if_some hr with ⟨hc14, hr⟩ | ⟨hc19, hr⟩
 ·refine W.condT h26 hc14 (W.seq (W.region ?_))
  refine SeqW.consX rfl (kBuildS [] [(vI 0), (vI 0), (vI 0), (vI 0), (vI 0), (vI 0), (vI 0)] rfl Try.underlying59 Try.type59 rfl rfl (places59 Try.underlying59) rfl (rfl) rfl ?_)
  refine sx rfl (pMove (v := (vI y9.2.2.2)) rfl h9) ?_
  refine SeqW.consX rfl (kPut (off := 0) (w := (Value.agg [(vI 0), (vI 0), (vI 0), (vI 0), (vI 0), (vI 0), (vI 0)].toArray)) (new := [(vI 0), (vI 0), (vI 0), (vI 0), (vI 0), (vI 0), (vI 0)]) rfl Try.type59 h4 rfl rfl rfl rfl X3 rfl [(vI 0), (vI 0), (vI 0), (vI 0), (vI 0), (vI 0), (vI 0)] rfl st ?_)
  intro m15 st X3 sm16
  refine sx rfl (pAssign (v := (vI y9.2.2.2)) rfl rfl) ?_
  refine SeqW.done fun fr17 hf18 => ?_
  have h4 := (congrFun hf18 4).trans h4
  have h5 : fr17 5 = (vI y9.2.2.2) := (congrFun hf18 5).trans rfl
  clear hf18
  refine thenQ.n ?_
  refine W.ret ?_
  refine thenQ.r ?_
  obtain rfl := Option.some.inj hr
  exact ⟨z, hz, st, .inr rfl, B1, h4, X3, X3.fresh, h5, trivial⟩
 ·refine W.condF h26 hc19 (W.skip ?_)
  refine thenQ.n (W.seq (W.region ?_))
  refine sx rfl (pMove (v := v0) rfl h0) ?_
  refine sx rfl (pLenR (xs := x0) rfl Try.underlying24 rfl s0) ?_
  obtain ⟨y20, hy20, hr⟩ := bind_some hr
  refine SeqW.consX rfl (kMake (T := (TBool 4)) (x0 := false) (n := (x0.length : Int)) rfl Try.underlying73 Try.type4 rfl rfl rfl rfl rfl rfl rfl rfl st hy20 ?_)
  intro V21 m22 st O23 sm24 hap25
  have A27 := hap25 _ X3.lt'
  replace X3 := X3.same sm24 Ap.none'
  refine sx rfl (pAssign (v := V21) rfl rfl) ?_
  refine SeqW.done fun fr28 hf29 => ?_
  have h0 := (congrFun hf29 0).trans h0
  have h1 := (congrFun hf29 1).trans h1
  have h4 := (congrFun hf29 4).trans h4
  have h6 := (congrFun hf29 6).trans h6
  have h7 := (congrFun hf29 7).trans h7
  have h8 := (congrFun hf29 8).trans h8
  have h10 : fr28 10 = V21 := (congrFun hf29 10).trans rfl
  clear hf29
  refine thenQ.n (W.seq ?_)
  refine W.seq (W.region ?_)
  refine sx rfl (pMove (v := v1) rfl h1) ?_
  refine sx rfl (pLenR (xs := x1) rfl Try.underlying22 rfl s1) ?_
  refine sx rfl (pMove (v := (vI 0)) rfl rfl) ?_
  refine SeqW.done fun fr30 hf31 => ?_
  have h0 := (congrFun hf31 0).trans h0
  have h1 := (congrFun hf31 1).trans h1
  have h4 := (congrFun hf31 4).trans h4
  have h6 := (congrFun hf31 6).trans h6
  have h7 := (congrFun hf31 7).trans h7
  have h8 := (congrFun hf31 8).trans h8
  have h10 := (congrFun hf31 10).trans h10
  have h32 : fr30 32 = v1 := (congrFun hf31 32).trans rfl
  have h33 : fr30 33 = (vI (x1.length : Int)) := (congrFun hf31 33).trans rfl
  have h34 : fr30 34 = (vI 0) := (congrFun hf31 34).trans rfl
  clear hf31
  refine thenQ.n ?_
  refine W.block ?_
  obtain ⟨y56, hy56, hr⟩ := bind_some hr
  refine W.keep (u_brake_Total_0 (x4 := (Brakes.mk 0 0 0 0 0 0 0)) _ (Zx.refl _) st h0 s0 h4 X3 h10 O23 h32 s1 h33 h34 A27 hy56) ?_
  rintro ex62 fr57 m58 hk60 ⟨z59, hz61, st, ⟨y63, rfl, rfl, h4, X65, O66, A67, -⟩ | ⟨y249, rfl, rfl, h4, X251, h5, -⟩⟩
  ·dsimp only at hr
   replace s0 := s0.mono hz61.le
   replace s1 := s1.mono hz61.le
   have h0 := (hk60 0 rfl).trans h0
   have h1 := (hk60 1 rfl).trans h1
   have h6 := (hk60 6 rfl).trans h6
   have h7 := (hk60 7 rfl).trans h7
   have h8 := (hk60 8 rfl).trans h8
   have h10 := (hk60 10 rfl).trans h10
   replace hz := hz.trans hz61
   clear hk60
   refine blockQ.hit ?_
   refine thenQ.n (W.seq ?_)
   refine W.seq (W.region ?_)
   refine sx rfl (pMove (v := v1) rfl h1) ?_
   refine sx rfl (pLenR (xs := x1) rfl Try.underlying22 rfl s1) ?_
   refine sx rfl (pMove (v := (vI 0)) rfl rfl) ?_
   refine SeqW.done fun fr68 hf69 => ?_
   have h0 := (congrFun hf69 0).trans h0
   have h4 := (congrFun hf69 4).trans h4
   have h6 := (congrFun hf69 6).trans h6
   have h7 := (congrFun hf69 7).trans h7
   have h8 := (congrFun hf69 8).trans h8
   have h10 := (congrFun hf69 10).trans h10
   have h46 : fr68 46 = v1 := (congrFun hf69 46).trans rfl
   have h47 : fr68 47 = (vI (x1.length : Int)) := (congrFun hf69 47).trans rfl
   have h48 : fr68 48 = (vI 0) := (congrFun hf69 48).trans rfl
   clear hf69
   refine thenQ.n ?_
   refine W.block ?_
   obtain ⟨y116, hy116, hr⟩ := bind_some hr
   refine W.keep (u_brake_Total_1 (x4 := y63) _ (Zx.refl _) st h4 X65 h10 O66 h46 s1 h47 h48 A67 hy116) ?_
   rintro ex122 fr117 m118 hk120 ⟨z119, hz121, st, ⟨y123, rfl, rfl, h4, X125, h10, O127, A128, -⟩ | ⟨y246, rfl, rfl, h4, X248, h5, -⟩⟩
   ·dsimp only at hr
    replace s0 := s0.mono hz121.le
    have h0 := (hk120 0 rfl).trans h0
    have h6 := (hk120 6 rfl).trans h6
    have h7 := (hk120 7 rfl).trans h7
    have h8 := (hk120 8 rfl).trans h8
    replace hz := hz.trans hz121
    clear hk120
    refine blockQ.hit ?_
    refine thenQ.n (W.seq (W.region ?_))
    refine sx rfl (pMove (v := (vI y9.1)) rfl h6) ?_
    refine sx rfl (pMove (v := (vI y9.2.2.1)) rfl h8) ?_
    refine sx rfl (pMove (v := (vI y9.2.1)) rfl h7) ?_
    refine SeqW.consX rfl (kBuildS [(0, (vI y9.1)), (1, (vI y9.2.2.1)), (2, (vI y9.2.1))] [(vI y9.1), (vI y9.2.2.1), (vI y9.2.1), (vI 0), (vI 0), (vI 0), (vI 0)] rfl Try.underlying59 Try.type59 rfl rfl (places59 Try.underlying59) rfl (rfl) rfl ?_)
    refine SeqW.consX rfl (kAlloc rfl Try.type59 rfl rfl rfl [(vI 0), (vI 0), (vI 0), (vI 0), (vI 0), (vI 0), (vI 0)] rfl st ?_)
    intro B129 m130  st X131 sm132 hap133
    have A135 := hap133 _ X125.lt'
    have A136 := hap133 _ O127.lt
    replace X125 := X125.same sm132 Ap.none'
    replace O127 := O127.same sm132 Ap.none'
    refine SeqW.consX rfl (kPut (off := 0) (w := (Value.agg [(vI y9.1), (vI y9.2.2.1), (vI y9.2.1), (vI 0), (vI 0), (vI 0), (vI 0)].toArray)) (new := [(vI y9.1), (vI y9.2.2.1), (vI y9.2.1), (vI 0), (vI 0), (vI 0), (vI 0)]) rfl Try.type59 rfl rfl rfl rfl rfl X131 rfl [(vI y9.1), (vI y9.2.2.1), (vI y9.2.1), (vI 0), (vI 0), (vI 0), (vI 0)] rfl st ?_)
    intro m137 st X131 sm138
    replace X125 := X125.same sm138 A135
    replace O127 := O127.same sm138 A136
    refine SeqW.done fun fr139 hf140 => ?_
    have h0 := (congrFun hf140 0).trans h0
    have h4 := (congrFun hf140 4).trans h4
    have h6 := (congrFun hf140 6).trans h6
    have h7 := (congrFun hf140 7).trans h7
    have h10 := (congrFun hf140 10).trans h10
    have h15 : fr139 15 = (vP B129) := (congrFun hf140 15).trans rfl
    clear hf140
    refine thenQ.n (W.seq ?_)
    refine W.seq (W.region ?_)
    refine sx rfl (pMove (v := v0) rfl h0) ?_
    refine sx rfl (pLenR (xs := x0) rfl Try.underlying24 rfl s0) ?_
    refine sx rfl (pMove (v := (vI 0)) rfl rfl) ?_
    refine SeqW.done fun fr141 hf142 => ?_
    have h4 := (congrFun hf142 4).trans h4
    have h6 := (congrFun hf142 6).trans h6
    have h7 := (congrFun hf142 7).trans h7
    have h10 := (congrFun hf142 10).trans h10
    have h15 := (congrFun hf142 15).trans h15
    have h65 : fr141 65 = v0 := (congrFun hf142 65).trans rfl
    have h66 : fr141 66 = (vI (x0.length : Int)) := (congrFun hf142 66).trans rfl
    have h67 : fr141 67 = (vI 0) := (congrFun hf142 67).trans rfl
    clear hf142
    refine thenQ.n ?_
    refine W.block ?_
    obtain ⟨y200, hy200, hr⟩ := bind_some hr
    refine W.keep (u_brake_Total_2 (x4 := y123.1) (x15 := (Brakes.mk y9.1 y9.2.2.1 y9.2.1 0 0 0 0)) _ (Zx.refl _) st h4 X125 h10 O127 h15 X131 h65 s0 h66 h67 A128 A135 A136 hy200) ?_
    rintro ex206 fr201 m202 hk204 ⟨z203, hz205, st, rfl, h15, X208, O209, A210, -⟩
    have h4 := (hk204 4 rfl).trans h4
    have h6 := (hk204 6 rfl).trans h6
    have h7 := (hk204 7 rfl).trans h7
    replace hz := hz.trans hz205
    clear hk204
    refine blockQ.hit ?_
    refine thenQ.n (W.seq ?_)
    refine W.draw ?_
    refine DrawW.cons rfl (kField rfl Try.underlying59 rfl Try.type3 rfl h15 rfl ?_)
    refine ⟨trivial, ?_⟩
    refine DrawW.cons rfl (kLoad rfl Try.underlying3 rfl rfl (X208.load (v := (vI y200.braked)) rfl) ?_)
    refine ⟨?_, ?_⟩
    ·exact demN
    refine DrawW.cons rfl (StepX.pure (pMove (v := (vI y9.1)) rfl h6) ?_)
    refine ⟨trivial, ?_⟩
    have sto211 := st
    have old212 := O209
    have old213 := X208
    obtain ⟨y214, hy214, hr⟩ := bind_some hr
    refine DrawW.cons rfl (StepX.call (gCallee rfl rfl (args1 rfl)) ((c_brake_Factor (z := z203) st.fz st.dead  hy214).mono ?_))
    rintro _ _ ⟨rfl, rfl⟩
    refine ⟨⟨?_, ?_⟩, ?_⟩
    ·first | refine demP (gLoad rfl Try.underlying3 rfl rfl (X208.load (v := (vI y200.braked)) rfl)) ?_ | refine demA (by decide +kernel) ?_
     exact demN
    ·exact demN
    refine DrawW.cons rfl (StepX.pure (pMul (k := .i64) (a := y200.braked) (b := y214) rfl rfl rfl) ?_)
    refine ⟨trivial, ?_⟩
    refine DrawW.cons rfl (StepX.pure (pQuo (k := .i64) (a := (IntKind.wrap .i64 (y200.braked * y214))) (b := 100) rfl rfl rfl (by decide)) ?_)
    refine ⟨trivial, ?_⟩
    refine DrawW.cons rfl (kField rfl Try.underlying59 rfl Try.type3 rfl h15 rfl ?_)
    refine ⟨trivial, ?_⟩
    have sto215 := st
    have old216 := O209
    have old217 := X208
    refine DrawW.cons rfl (kPut (off := 3) (w := (vI (IntKind.wrap .i64 (Int.tdiv (IntKind.wrap .i64 (y200.braked * y214)) 100)))) (new := [(vI (IntKind.wrap .i64 (Int.tdiv (IntKind.wrap .i64 (y200.braked * y214)) 100)))]) rfl Try.type3 rfl rfl rfl rfl rfl X208 rfl [(vI y200.length), (vI y200.axles), (vI y200.mass), (vI (IntKind.wrap .i64 (Int.tdiv (IntKind.wrap .i64 (y200.braked * y214)) 100))), (vI y200.percent), (vI y200.required), (vI y200.missing)] rfl st ?_)
    intro m218 st X208 sm219
    replace O209 := O209.same sm219 (Ap.symm A210)
    refine ⟨⟨?_, ?_⟩, ?_⟩
    ·first | refine demP (gLoad rfl Try.underlying3 rfl rfl (X208.load (v := (vI y200.braked)) rfl)) ?_ | refine demA (by decide +kernel) ?_
     exact demN
    ·exact demN
    refine DrawW.done fun fr220 hf221 => ?_
    have h4 := (congrFun hf221 4).trans h4
    have h7 := (congrFun hf221 7).trans h7
    have h15 := (congrFun hf221 15).trans h15
    clear hf221
    refine thenQ.n (W.seq ?_)
    refine W.seq (W.region ?_)
    refine sx rfl (pMove (v := (vI y9.2.1)) rfl h7) ?_
    refine sx rfl (pGtr (k := .i64) (a := y9.2.1) (b := 0) rfl rfl rfl) ?_
    refine SeqW.done fun fr222 hf223 => ?_
    have h4 := (congrFun hf223 4).trans h4
    have h7 := (congrFun hf223 7).trans h7
    have h15 := (congrFun hf223 15).trans h15
    have h92 : fr222 92 = (vB (decide (0 < y9.2.1))) := (congrFun hf223 92).trans rfl
    clear hf223
    refine thenQ.n ?_
    obtain ⟨y231, hy231, hr⟩ := bind_some hr
    refine W.keep (u_brake_Total_4 (x4 := y123.1) (x15 := (Brakes.mk y200.length y200.axles y200.mass (IntKind.wrap .i64 (Int.tdiv (IntKind.wrap .i64 (y200.braked * y214)) 100)) y200.percent y200.required y200.missing)) (Zx.refl _) st h4 O209 h7 h15 X208 h92 (Ap.symm A210) hy231) ?_
    rintro ex237 fr232 m233 hk235 ⟨z234, hz236, st, rfl, h15, X239, O240, A241, -⟩
    have h4 := (hk235 4 rfl).trans h4
    replace hz := hz.trans hz236
    clear hk235
    refine thenQ.n (W.seq (W.region ?_))
    refine SeqW.consX rfl (kLoadA rfl Try.underlying59 rfl Try.type59 rfl h15 X239.loads ?_)
    refine SeqW.consX rfl (kPut (off := 0) (w := (Value.agg [(vI y231.length), (vI y231.axles), (vI y231.mass), (vI y231.braked), (vI y231.percent), (vI y231.required), (vI y231.missing)].toArray)) (new := [(vI y231.length), (vI y231.axles), (vI y231.mass), (vI y231.braked), (vI y231.percent), (vI y231.required), (vI y231.missing)]) rfl Try.type59 h4 rfl rfl rfl rfl O240 rfl [(vI y231.length), (vI y231.axles), (vI y231.mass), (vI y231.braked), (vI y231.percent), (vI y231.required), (vI y231.missing)] rfl st ?_)
    intro m242 st O240 sm243
    refine sx rfl (pAssign (v := (vI 0)) rfl rfl) ?_
    refine SeqW.done fun fr244 hf245 => ?_
    have h4 := (congrFun hf245 4).trans h4
    have h5 : fr244 5 = (vI 0) := (congrFun hf245 5).trans rfl
    clear hf245
    refine thenQ.n ?_
    refine W.ret ?_
    obtain rfl := Option.some.inj hr
    exact ⟨z234, hz, st, .inr rfl, B1, h4, O240, O240.fresh, h5, trivial⟩
   ·dsimp only at hr
    replace hz := hz.trans hz121
    clear hk120
    refine blockQ.r ?_
    refine thenQ.r ?_
    obtain rfl := Option.some.inj hr
    exact ⟨z119, hz, st, .inr rfl, B1, h4, X248, X248.fresh, h5, trivial⟩
  ·dsimp only at hr
   replace hz := hz.trans hz61
   clear hk60
   refine blockQ.r ?_
   refine thenQ.r ?_
   obtain rfl := Option.some.inj hr
   exact ⟨z59, hz, st, .inr rfl, B1, h4, X251, X251.fresh, h5, trivial⟩

theorem c_brake_Total {N : Nat} {z : Nat → Blk} {m : Mem} {x0 : List Wagon} {x1 : List Int} {v0 : Value} {v1 : Value} (fz : Fz z m) (hd : ∀ b, m.next ≤ b → m.blk b = .dead) (s0 : SlR TWagon z x0 v0) (s1 : SlR (TInt 3 .i64) z x1 v1) {r : Brakes × Int} (hr : brake_Total N x0 x1 = some r) : CallW Try.prog 29 #[v0, v1] m fun v m' => ∃ z', Zx m.next z z' ∧ Fz z' m' ∧ Same m m' none ∧ v = (Value.tuple [(Value.agg [(vI r.1.length), (vI r.1.axles), (vI r.1.mass), (vI r.1.braked), (vI r.1.percent), (vI r.1.required), (vI r.1.missing)].toArray), (vI r.2)].toArray) ∧ True := by
 refine CallW.any Try.func29 rfl (by kernel_rfl) (Nat.le_of_ble_eq_true rfl) (fun fr hf => ?_)
 have h0 : fr 0 = _ := hf 0 _ rfl
 have h1 : fr 1 = _ := hf 1 _ rfl
 refine (u_brake_Total (k := none) (Zx.refl _) (St.start fz hd) h0 s0 h1 s1 hr).mono ?_
 rintro ex fr' m' ⟨z', hz, st, he, c4, h4, bx4, fx4, h5, -⟩
 exact ⟨he, [(Value.agg [(vI r.1.length), (vI r.1.axles), (vI r.1.mass), (vI r.1.braked), (vI r.1.percent), (vI r.1.required), (vI r.1.missing)].toArray), (vI r.2)], ⟨resCell h4 bx4 Try.underlying59 rfl Try.type59 rfl, h5.symm, trivial⟩, .inr (List.forall_mem_cons.2 ⟨rfl, List.forall_mem_cons.2 ⟨rfl, fun _ h => nomatch h⟩⟩), z', hz, st.fz, st.toSame, rfl, trivial⟩

/-! ### (humpyard/rulebook.train).end -/

theorem u_train_end {N : Nat}  {z0 z : Nat → Blk} {e m : Mem} {k : Option Nat} {fr : Nat → Value} {x0 : Train} {x1 : Bool} {v0_0 : Value} {v0_1 : Value} (hz : Zx e.next z0 z) (st : St z e m k) (h0 : fr 0 = (Value.agg [v0_0, v0_1, (vI x0.total.length), (vI x0.total.axles), (vI x0.total.mass), (vI x0.total.braked), (vI x0.total.percent), (vI x0.total.required), (vI x0.total.missing)].toArray)) (s0_0 : SlR TWagon z x0.l v0_0) (s0_1 : SlR (TInt 3 .i64) z x0.off v0_1) (h1 : fr 1 = (vB x1)) {r : Int} (hr : train_end N x0 x1 = some r) : W Try.prog (sub (bodyOf Try.f46) []) (fun ex fr' m' => ∃ z', Zx e.next z0 z' ∧ St z' e m' k ∧ (ex = .normal ∨ ex = .ret) ∧ fr' 4 = (vI r) ∧ True) fr m := by
 unfold train_end at hr
 refine W.seq (W.region ?_)
 refine SeqW.consX rfl (kBox (v := (Value.agg [v0_0, v0_1, (vI x0.total.length), (vI x0.total.axles), (vI x0.total.mass), (vI x0.total.braked), (vI x0.total.percent), (vI x0.total.required), (vI x0.total.missing)].toArray)) rfl Try.type63 h0 rfl [v0_0, v0_1, (vI x0.total.length), (vI x0.total.axles), (vI x0.total.mass), (vI x0.total.braked), (vI x0.total.percent), (vI x0.total.required), (vI x0.total.missing)] rfl rfl st ?_)
 intro B1 m2  st X3 sm4 hap5
 refine sx rfl (pAssign (v := (vI 0)) rfl rfl) ?_
 refine SeqW.done fun fr7 hf8 => ?_
 have h1 := (congrFun hf8 1).trans h1
 have h2 : fr7 2 = (vP B1) := (congrFun hf8 2).trans rfl
 clear hf8
 refine thenQ.n (W.seq ?_)
 refine W.seq (W.region ?_)
 refine sx rfl (pMove (v := (vB x1)) rfl h1) ?_
 refine SeqW.done fun fr9 hf10 => ?_
 have h2 := (congrFun hf10 2).trans h2
 have h5 : fr9 5 = (vB x1) := (congrFun hf10 5).trans rfl
 clear hf10
 refine thenQ.n ?_
 rcases if_some hr with ⟨hc11, hr⟩ | ⟨hc15, hr⟩
 ·refine W.condT h5 hc11 (W.seq (W.region ?_))
  refine SeqW.consX rfl (kField rfl Try.underlying63 rfl Try.type24 rfl h2 rfl ?_)
  refine SeqW.consX rfl (kLoad rfl Try.underlying24 rfl rfl (X3.load (v := v0_0) rfl) ?_)
  refine sx rfl (pLenR (xs := x0.l) rfl Try.underlying24 rfl s0_0) ?_
  obtain ⟨y12, hy12, hr⟩ := lt_some hr
  refine sx rfl (pAssign rfl (congrArg (Value.int .i64) hy12)) ?_
  refine SeqW.done fun fr13 hf14 => ?_
  have h4 : fr13 4 = (vI y12) := (congrFun hf14 4).trans rfl
  clear hf14
  refine thenQ.n ?_
  refine W.ret ?_
  refine thenQ.r ?_
  obtain rfl := Option.some.inj hr
  exact ⟨z, hz, st, .inr rfl, h4, trivial⟩
 ·refine W.condF h5 hc15 (W.skip ?_)
  refine thenQ.n (W.seq (W.region ?_))
  refine sx rfl (pAssign (v := (vI (-1))) rfl rfl) ?_
  refine SeqW.done fun fr16 hf17 => ?_
  have h4 : fr16 4 = (vI (-1)) := (congrFun hf17 4).trans rfl
  clear hf17
  refine thenQ.n ?_
  refine W.ret ?_
  obtain rfl := Option.some.inj hr
  exact ⟨z, hz, st, .inr rfl, h4, trivial⟩

theorem c_train_end {N : Nat} {z : Nat → Blk} {m : Mem} {x0 : Train} {x1 : Bool} {v0_0 : Value} {v0_1 : Value} (fz : Fz z m) (hd : ∀ b, m.next ≤ b → m.blk b = .dead) (s0_0 : SlR TWagon z x0.l v0_0) (s0_1 : SlR (TInt 3 .i64) z x0.off v0_1) {r : Int} (hr : train_end N x0 x1 = some r) : CallW Try.prog 46 #[(Value.agg [v0_0, v0_1, (vI x0.total.length), (vI x0.total.axles), (vI x0.total.mass), (vI x0.total.braked), (vI x0.total.percent), (vI x0.total.required), (vI x0.total.missing)].toArray), (vB x1)] m fun v m' => v = (vI r) ∧ m' = m := by
 refine CallW.flat Try.func46 rfl (by kernel_rfl) (Nat.le_of_ble_eq_true rfl) rfl (z := z) (fun fr hf => ?_)
 have h0 : fr 0 = _ := hf 0 _ rfl
 have h1 : fr 1 = _ := hf 1 _ rfl
 refine (u_train_end (k := none) (Zx.refl _) (St.start fz hd) h0 s0_0 s0_1 h1 hr).mono ?_
 rintro ex fr' m' ⟨z', hz, st, he, h4, -⟩
 exact ⟨he, z', st, [(vI r)], ⟨h4.symm, trivial⟩, .inl rfl, rfl⟩

/-! ### slices.Index[[]int,int] -/

theorem u_slices_Index_int_int_0 : ∀ (n : Nat) {N : Nat}  {z0 z : Nat → Blk} {e m : Mem} {k : Option Nat} {fr : Nat → Value} {x0 : List Int} {x1 : Int} {x7 : Int} {x8 : Int} {v0 : Value} (hz : Zx e.next z0 z) (st : St z e m k) (h0 : fr 0 = v0) (s0 : SlR (TInt 3 .i64) z x0 v0) (h1 : fr 1 = (vI x1)) (h7 : fr 7 = (vI x7)) (h8 : fr 8 = (vI x8)) {r : Sum (Unit) (Int)} (hr : slices_Index_int_int_0 N x0 x1 x7 n x8 = some r), W Try.prog (sub (bodyOf Try.f70) [1, 0, 1, 0]) (fun ex fr' m' => ∃ z', Zx e.next z0 z' ∧ St z' e m' k ∧ ((∃ q, r = Sum.inl q ∧ ex = AExit.exit 0 ∧ True) ∨ (∃ q, r = Sum.inr q ∧ ex = AExit.ret ∧ fr' 4 = (vI q) ∧ True))) fr m := by
 intro n
 induction n with
 | zero => intro N z0 z e m k fr x0 x1 x7 x8 v0 hz st h0 s0 h1 h7 h8 r hr; cases (show (none : Option _) = some r from hr)
 | succ n ih =>
  intro N z0 z e m k fr x0 x1 x7 x8 v0 hz st h0 s0 h1 h7 h8 r hr
  unfold slices_Index_int_int_0 at hr
  refine W.loop1 ?_
  refine W.seq (W.region ?_)
  refine sx rfl (pLss (k := .i64) (a := x8) (b := x7) rfl h8 h7) ?_
  refine SeqW.done fun fr5 hf6 => ?_
  have h0 := (congrFun hf6 0).trans h0
  have h1 := (congrFun hf6 1).trans h1
  have h7 := (congrFun hf6 7).trans h7
  have h8 := (congrFun hf6 8).trans h8
  have h9 : fr5 9 = (vB (decide (x8 < x7))) := (congrFun hf6 9).trans rfl
  clear hf6
  refine thenQ.n (W.seq ?_)
  rcases if_some hr with ⟨hc7, hr⟩ | ⟨hc25, hr⟩
  ·refine W.condT h9 hc7 (W.skip ?_)
   refine thenQ.n (W.seq ?_)
   refine W.block ?_
   refine W.seq (W.region ?_)
   refine sx rfl (pMove (v := (vI x8)) rfl h8) ?_
   refine sx rfl (pAssign (v := (vI x8)) rfl rfl) ?_
   refine SeqW.done fun fr8 hf9 => ?_
   have h0 := (congrFun hf9 0).trans h0
   have h1 := (congrFun hf9 1).trans h1
   have h5 : fr8 5 = (vI x8) := (congrFun hf9 5).trans rfl
   have h7 := (congrFun hf9 7).trans h7
   have h8 := (congrFun hf9 8).trans h8
   clear hf9
   refine thenQ.n (W.seq (W.region ?_))
   refine sx rfl (pMove (v := (vI x1)) rfl h1) ?_
   refine sx rfl (pMove (v := v0) rfl h0) ?_
   refine sx rfl (pMove (v := (vI x8)) rfl h5) ?_
   obtain ⟨y10, hy10, hr⟩ := bind_some hr
   refine SeqW.consX rfl (kIdxR (T := (TInt 3 .i64)) (xs := x0) (n := x8) rfl Try.underlying22 Try.type3 rfl rfl rfl s0 hy10 ?_)
   intro B11 f12 cs13 hd14 hc15
   obtain rfl := hd14
   refine SeqW.consX rfl (kLoad (v := (vI y10)) rfl Try.underlying3 rfl rfl (ldz_load st.fz (hc15 0 _ rfl)) ?_)
   refine sx rfl (pEql (k := .i64) (a := x1) (b := y10) rfl rfl rfl) ?_
   refine SeqW.done fun fr17 hf18 => ?_
   have h0 := (congrFun hf18 0).trans h0
   have h1 := (congrFun hf18 1).trans h1
   have h5 := (congrFun hf18 5).trans h5
   have h7 := (congrFun hf18 7).trans h7
   have h8 := (congrFun hf18 8).trans h8
   have h16 : fr17 16 = (vB (x1 == y10)) := (congrFun hf18 16).trans rfl
   clear hf18
   refine thenQ.n ?_
   rcases if_some hr with ⟨hc19, hr⟩ | ⟨hc22, hr⟩
   ·refine W.condT h16 hc19 (W.seq (W.region ?_))
    refine sx rfl (pMove (v := (vI x8)) rfl h5) ?_
    refine sx rfl (pAssign (v := (vI x8)) rfl rfl) ?_
    refine SeqW.done fun fr20 hf21 => ?_
    have h4 : fr20 4 = (vI x8) := (congrFun hf21 4).trans rfl
    clear hf21
    refine thenQ.n ?_
    refine W.ret ?_
    refine blockQ.r ?_
    refine thenQ.r ?_
    refine thenQ.r ?_
    obtain rfl := Option.some.inj hr
    exact ⟨z, hz, st, .inr ⟨_, rfl, rfl, h4, trivial⟩⟩
   ·refine W.condF h16 hc22 (W.skip ?_)
    refine blockQ.n ?_
    refine thenQ.n (W.region ?_)
    refine sx rfl (pAdd (k := .i64) (a := x8) (b := 1) rfl h8 rfl) ?_
    refine sx rfl (pMove (v := (vI (IntKind.wrap .i64 (x8 + 1)))) rfl rfl) ?_
    refine SeqW.done fun fr23 hf24 => ?_
    have h0 := (congrFun hf24 0).trans h0
    have h1 := (congrFun hf24 1).trans h1
    have h7 := (congrFun hf24 7).trans h7
    have h8 : fr23 8 = (vI (IntKind.wrap .i64 (x8 + 1))) := (congrFun hf24 8).trans rfl
    clear hf24
    refine thenQ.n ?_
    exact ih hz st h0 s0 h1 h7 h8 hr
  ·refine W.condF h9 hc25 ?_
   refine W.exit ?_
   refine thenQ.x ?_
   refine thenQ.x ?_
   obtain rfl := Option.some.inj hr
   exact ⟨z, hz, st, .inl ⟨_, rfl, rfl, trivial⟩⟩

theorem u_slices_Index_int_int {N : Nat}  {z0 z : Nat → Blk} {e m : Mem} {k : Option Nat} {fr : Nat → Value} {x0 : List Int} {x1 : Int} {v0 : Value} (hz : Zx e.next z0 z) (st : St z e m k) (h0 : fr 0 = v0) (s0 : SlR (TInt 3 .i64) z x0 v0) (h1 : fr 1 = (vI x1)) {r : Int} (hr : slices_Index_int_int N x0 x1 = some r) : W Try.prog (sub (bodyOf Try.f70) []) (fun ex fr' m' => ∃ z', Zx e.next z0 z' ∧ St z' e m' k ∧ (ex = .normal ∨ ex = .ret) ∧ fr' 4 = (vI r) ∧ True) fr m := by
 unfold slices_Index_int_int at hr
 refine W.seq (W.region ?_)
 refine sx rfl (pAssign (v := (vI 0)) rfl rfl) ?_
 refine SeqW.done fun fr1 hf2 => ?_
 have h0 := (congrFun hf2 0).trans h0
 have h1 := (congrFun hf2 1).trans h1
 clear hf2
 refine thenQ.n (W.seq ?_)
 refine W.seq (W.region ?_)
 refine sx rfl (pMove (v := v0) rfl h0) ?_
 refine sx rfl (pLenR (xs := x0) rfl Try.underlying22 rfl s0) ?_
 refine sx rfl (pMove (v := (vI 0)) rfl rfl) ?_
 refine SeqW.done fun fr3 hf4 => ?_
 have h0 := (congrFun hf4 0).trans h0
 have h1 := (congrFun hf4 1).trans h1
 have h7 : fr3 7 = (vI (x0.length : Int)) := (congrFun hf4 7).trans rfl
 have h8 : fr3 8 = (vI 0) := (congrFun hf4 8).trans rfl
 clear hf4
 refine thenQ.n ?_
 refine W.block ?_
 obtain ⟨y26, hy26, hr⟩ := bind_some hr
 refine W.keep (u_slices_Index_int_int_0 _ (Zx.refl _) st h0 s0 h1 h7 h8 hy26) ?_
 rintro ex32 fr27 m28 hk30 ⟨z29, hz31, st, ⟨y33, rfl, rfl, -⟩ | ⟨y36, rfl, rfl, h4, -⟩⟩
 ·dsimp only at hr
  replace hz := hz.trans hz31
  clear hk30
  refine blockQ.hit ?_
  refine thenQ.n (W.seq (W.region ?_))
  refine sx rfl (pAssign (v := (vI (-1))) rfl rfl) ?_
  refine SeqW.done fun fr34 hf35 => ?_
  have h4 : fr34 4 = (vI (-1)) := (congrFun hf35 4).trans rfl
  clear hf35
  refine thenQ.n ?_
  refine W.ret ?_
  obtain rfl := Option.some.inj hr
  exact ⟨z29, hz, st, .inr rfl, h4, trivial⟩
 ·dsimp only at hr
  replace hz := hz.trans hz31
  clear hk30
  refine blockQ.r ?_
  refine thenQ.r ?_
  obtain rfl := Option.some.inj hr
  exact ⟨z29, hz, st, .inr rfl, h4, trivial⟩

theorem c_slices_Index_int_int {N : Nat} {z : Nat → Blk} {m : Mem} {x0 : List Int} {x1 : Int} {v0 : Value} (fz : Fz z m) (hd : ∀ b, m.next ≤ b → m.blk b = .dead) (s0 : SlR (TInt 3 .i64) z x0 v0) {r : Int} (hr : slices_Index_int_int N x0 x1 = some r) : CallW Try.prog 70 #[v0, (vI x1)] m fun v m' => v = (vI r) ∧ m' = m := by
 refine CallW.flat Try.func70 rfl (by kernel_rfl) (Nat.le_of_ble_eq_true rfl) rfl (z := z) (fun fr hf => ?_)
 have h0 : fr 0 = _ := hf 0 _ rfl
 have h1 : fr 1 = _ := hf 1 _ rfl
 refine (u_slices_Index_int_int (k := none) (Zx.refl _) (St.start fz hd) h0 s0 h1 hr).mono ?_
 rintro ex fr' m' ⟨z', hz, st, he, h4, -⟩
 exact ⟨he, z', st, [(vI r)], ⟨h4.symm, trivial⟩, .inl rfl, rfl⟩

/-! ### slices.Contains[[]int,int] -/

theorem u_slices_Contains_int_int {N : Nat}  {z0 z : Nat → Blk} {e m : Mem} {k : Option Nat} {fr : Nat → Value} {x0 : List Int} {x1 : Int} {v0 : Value} (hz : Zx e.next z0 z) (st : St z e m k) (h0 : fr 0 = v0) (s0 : SlR (TInt 3 .i64) z x0 v0) (h1 : fr 1 = (vI x1)) {r : Bool} (hr : slices_Contains_int_int N x0 x1 = some r) : W Try.prog (sub (bodyOf Try.f63) []) (fun ex fr' m' => ∃ z', Zx e.next z0 z' ∧ St z' e m' k ∧ (ex = .normal ∨ ex = .ret) ∧ fr' 4 = (vB r) ∧ True) fr m := by
 unfold slices_Contains_int_int at hr
 refine W.seq (W.region ?_)
 refine sx rfl (pAssign (v := (vB false)) rfl rfl) ?_
 refine SeqW.done fun fr1 hf2 => ?_
 have h0 := (congrFun hf2 0).trans h0
 have h1 := (congrFun hf2 1).trans h1
 clear hf2
 refine thenQ.n (W.seq (W.region ?_))
 refine sx rfl (pMove (v := v0) rfl h0) ?_
 refine sx rfl (pMove (v := (vI x1)) rfl h1) ?_
 obtain ⟨y3, hy3, hr⟩ := bind_some hr
 refine SeqW.consX rfl (StepX.call (gCallee rfl rfl (args2 rfl rfl)) ((c_slices_Index_int_int (z := z) st.fz st.dead s0 hy3).mono ?_))
 rintro _ _ ⟨rfl, rfl⟩
 refine sx rfl (pGeq (k := .i64) (a := y3) (b := 0) rfl rfl rfl) ?_
 obtain ⟨y4, hy4, hr⟩ := lt_some hr
 refine sx rfl (pAssign rfl (congrArg vB hy4)) ?_
 refine SeqW.done fun fr5 hf6 => ?_
 have h4 : fr5 4 = (vB y4) := (congrFun hf6 4).trans rfl
 clear hf6
 refine thenQ.n ?_
 refine W.ret ?_
 obtain rfl := Option.some.inj hr
 exact ⟨z, hz, st, .inr rfl, h4, trivial⟩

theorem c_slices_Contains_int_int {N : Nat} {z : Nat → Blk} {m : Mem} {x0 : List Int} {x1 : Int} {v0 : Value} (fz : Fz z m) (hd : ∀ b, m.next ≤ b → m.blk b = .dead) (s0 : SlR (TInt 3 .i64) z x0 v0) {r : Bool} (hr : slices_Contains_int_int N x0 x1 = some r) : CallW Try.prog 63 #[v0, (vI x1)] m fun v m' => v = (vB r) ∧ m' = m := by
 refine CallW.flat Try.func63 rfl (by kernel_rfl) (Nat.le_of_ble_eq_true rfl) rfl (z := z) (fun fr hf => ?_)
 have h0 : fr 0 = _ := hf 0 _ rfl
 have h1 : fr 1 = _ := hf 1 _ rfl
 refine (u_slices_Contains_int_int (k := none) (Zx.refl _) (St.start fz hd) h0 s0 h1 hr).mono ?_
 rintro ex fr' m' ⟨z', hz, st, he, h4, -⟩
 exact ⟨he, z', st, [(vB r)], ⟨h4.symm, trivial⟩, .inl rfl, rfl⟩

/-! ### (humpyard/rulebook.train).tail -/

theorem u_train_tail_2 {N : Nat}  {z0 z : Nat → Blk} {e m : Mem} {k : Option Nat} {fr : Nat → Value} {x2 : Train} {x7 : Int} {v2_0 : Value} {v2_1 : Value} {b2 : Nat} {x3 : Rule} {b3 : Nat} (hz : Zx e.next z0 z) (st : St z e m k) (h2 : fr 2 = (vP b2)) (s2_0 : SlR TWagon z x2.l v2_0) (s2_1 : SlR (TInt 3 .i64) z x2.off v2_1) (bx2 : Bx z e m k b2 [v2_0, v2_1, (vI x2.total.length), (vI x2.total.axles), (vI x2.total.mass), (vI x2.total.braked), (vI x2.total.percent), (vI x2.total.required), (vI x2.total.missing)] 63) (h3 : fr 3 = (vP b3)) (bx3 : Bx z e m k b3 [(vI x3.number), (vI x3.kind), (vI x3.a), (vI x3.b), (vI x3.c)] 32) (h7 : fr 7 = (vI x7)) (ao2_o3 : Ap (some b2) (some b3)) {r : Bool} (hr : train_tail_2 N x2 x7 = some r) : W Try.prog (sub (bodyOf Try.f51) [1, 1, 1, 0, 1, 0, 0, 1, 0, 0, 0]) (fun ex fr' m' => ∃ z', Zx e.next z0 z' ∧ St z' e m' k ∧ ex = AExit.normal ∧ fr' 39 = (vB r) ∧ Bx z' e m' k b2 [v2_0, v2_1, (vI x2.total.length), (vI x2.total.axles), (vI x2.total.mass), (vI x2.total.braked), (vI x2.total.percent), (vI x2.total.required), (vI x2.total.missing)] 63 ∧ Bx z' e m' k b3 [(vI x3.number), (vI x3.kind), (vI x3.a), (vI x3.b), (vI x3.c)] 32 ∧ Ap (some b2) (some b3) ∧ True) fr m := by
 unfold train_tail_2 at hr
 refine W.region ?_
 refine SeqW.consX rfl (kField rfl Try.underlying63 rfl Try.type24 rfl h2 rfl ?_)
 refine SeqW.consX rfl (kLoad rfl Try.underlying24 rfl rfl (bx2.load (v := v2_0) rfl) ?_)
 refine sx rfl (pMove (v := (vI x7)) rfl h7) ?_
 obtain ⟨y27, hy27, hr⟩ := bind_some hr
 refine SeqW.consX rfl (kIdxR (T := TWagon) (xs := x2.l) (n := x7) rfl Try.underlying24 Try.type36 rfl rfl rfl s2_0 hy27 ?_)
 intro B28 f29 cs30 hd31 hc32
 obtain rfl := hd31
 refine SeqW.consX rfl (kField rfl Try.underlying36 rfl Try.type3 rfl rfl rfl ?_)
 refine SeqW.consX rfl (kLoad (v := (vI y27.brake)) rfl Try.underlying3 rfl rfl (ldz_load st.fz (hc32 4 _ rfl)) ?_)
 refine sx rfl (pGtr (k := .i64) (a := y27.brake) (b := 0) rfl rfl rfl) ?_
 refine sx rfl (pMove (v := (vB (decide (0 < y27.brake)))) rfl rfl) ?_
 rcases if_some hr with ⟨hc34, hr⟩ | ⟨hc38, hr⟩
 ·refine SeqW.consG rfl rfl rfl hc34 (kField rfl Try.underlying63 rfl Try.type22 rfl h2 rfl ?_)
  refine SeqW.consG rfl rfl rfl hc34 (kLoad rfl Try.underlying22 rfl rfl (bx2.load (v := v2_1) rfl) ?_)
  refine SeqW.consG rfl rfl rfl hc34 (StepX.pure (pMove (v := (vI x7)) rfl h7) ?_)
  obtain ⟨y35, hy35, hr⟩ := bind_some hr
  refine SeqW.consG rfl rfl rfl hc34 (StepX.call (gCallee rfl rfl (args2 rfl rfl)) ((c_slices_Contains_int_int (z := z) st.fz st.dead s2_1 hy35).mono ?_))
  rintro _ _ ⟨rfl, rfl⟩
  refine SeqW.consG rfl rfl rfl hc34 (StepX.pure (pNot (b := y35) rfl rfl) ?_)
  refine sx rfl (pPick (t := true) (v := (vB (!y35))) rfl ((congrArg vB hc34)) rfl) ?_
  refine SeqW.done fun fr36 hf37 => ?_
  have h2 := (congrFun hf37 2).trans h2
  have h3 := (congrFun hf37 3).trans h3
  have h7 := (congrFun hf37 7).trans h7
  have h39 : fr36 39 = (vB (!y35)) := (congrFun hf37 39).trans rfl
  clear hf37
  obtain rfl := Option.some.inj hr
  exact ⟨z, hz, st, rfl, h39, bx2, bx3, ao2_o3, trivial⟩
 ·refine kx rfl rfl rfl hc38 ?_
  iterate 4 refine kx rfl rfl rfl hc38 ?_
  refine sx rfl (pPick (t := false) (v := (vB false)) rfl ((congrArg vB hc38)) rfl) ?_
  refine SeqW.done fun fr39 hf40 => ?_
  have h2 := (congrFun hf40 2).trans h2
  have h3 := (congrFun hf40 3).trans h3
  have h7 := (congrFun hf40 7).trans h7
  have h39 : fr39 39 = (vB false) := (congrFun hf40 39).trans rfl
  clear hf40
  obtain rfl := Option.some.inj hr
  exact ⟨z, hz, st, rfl, h39, bx2, bx3, ao2_o3, trivial⟩

theorem u_train_tail_1 {N : Nat}  {z0 z : Nat → Blk} {e m : Mem} {k : Option Nat} {fr : Nat → Value} {x2 : Train} {x6 : Int} {x7 : Int} {v2_0 : Value} {v2_1 : Value} {b2 : Nat} {x3 : Rule} {b3 : Nat} (hz : Zx e.next z0 z) (st : St z e m k) (h2 : fr 2 = (vP b2)) (s2_0 : SlR TWagon z x2.l v2_0) (s2_1 : SlR (TInt 3 .i64) z x2.off v2_1) (bx2 : Bx z e m k b2 [v2_0, v2_1, (vI x2.total.length), (vI x2.total.axles), (vI x2.total.mass), (vI x2.total.braked), (vI x2.total.percent), (vI x2.total.required), (vI x2.total.missing)] 63) (h3 : fr 3 = (vP b3)) (bx3 : Bx z e m k b3 [(vI x3.number), (vI x3.kind), (vI x3.a), (vI x3.b), (vI x3.c)] 32) (h6 : fr 6 = (vI x6)) (h7 : fr 7 = (vI x7)) (ao2_o3 : Ap (some b2) (some b3)) {r : Int} (hr : train_tail_1 N x2 x6 x7 = some r) : W Try.prog (sub (bodyOf Try.f51) [1, 1, 1, 0, 1, 0, 0, 1, 0]) (fun ex fr' m' => ∃ z', Zx e.next z0 z' ∧ St z' e m' k ∧ ex = AExit.normal ∧ fr' 6 = (vI r) ∧ Bx z' e m' k b2 [v2_0, v2_1, (vI x2.total.length), (vI x2.total.axles), (vI x2.total.mass), (vI x2.total.braked), (vI x2.total.percent), (vI x2.total.required), (vI x2.total.missing)] 63 ∧ Bx z' e m' k b3 [(vI x3.number), (vI x3.kind), (vI x3.a), (vI x3.b), (vI x3.c)] 32 ∧ Ap (some b2) (some b3) ∧ True) fr m := by
 unfold train_tail_1 at hr
 refine W.block ?_
 refine W.seq ?_
 obtain ⟨y41, hy41, hr⟩ := bind_some hr
 refine W.keep (u_train_tail_2 (x2 := x2) (x3 := x3) (Zx.refl _) st h2 s2_0 s2_1 bx2 h3 bx3 h7 ao2_o3 hy41) ?_
 rintro ex47 fr42 m43 hk45 ⟨z44, hz46, st, rfl, h39, O48, O49, A50, -⟩
 replace s2_0 := s2_0.mono hz46.le
 replace s2_1 := s2_1.mono hz46.le
 have h2 := (hk45 2 rfl).trans h2
 have h3 := (hk45 3 rfl).trans h3
 have h6 := (hk45 6 rfl).trans h6
 have h7 := (hk45 7 rfl).trans h7
 replace hz := hz.trans hz46
 clear hk45
 refine thenQ.n ?_
 rcases if_some hr with ⟨hc51, hr⟩ | ⟨hc55, hr⟩
 ·refine W.condT h39 hc51 (W.region ?_)
  refine sx rfl (pMove (v := (vI x6)) rfl h6) ?_
  refine sx rfl (pAdd (k := .i64) (a := x6) (b := 1) rfl rfl rfl) ?_
  obtain ⟨y52, hy52, hr⟩ := lt_some hr
  refine sx rfl (pAssign rfl (congrArg (Value.int .i64) hy52)) ?_
  refine SeqW.done fun fr53 hf54 => ?_
  have h2 := (congrFun hf54 2).trans h2
  have h3 := (congrFun hf54 3).trans h3
  have h6 : fr53 6 = (vI y52) := (congrFun hf54 6).trans rfl
  have h7 := (congrFun hf54 7).trans h7
  clear hf54
  refine blockQ.n ?_
  obtain rfl := Option.some.inj hr
  exact ⟨z44, hz, st, rfl, h6, O48, O49, A50, trivial⟩
 ·refine W.condF h39 hc55 (W.skip ?_)
  refine blockQ.n ?_
  obtain rfl := Option.some.inj hr
  exact ⟨z44, hz, st, rfl, h6, O48, O49, A50, trivial⟩

theorem u_train_tail_0 : ∀ (n : Nat) {N : Nat}  {z0 z : Nat → Blk} {e m : Mem} {k : Option Nat} {fr : Nat → Value} {x2 : Train} {x6 : Int} {x7 : Int} {v2_0 : Value} {v2_1 : Value} {b2 : Nat} {x3 : Rule} {b3 : Nat} (hz : Zx e.next z0 z) (st : St z e m k) (h2 : fr 2 = (vP b2)) (s2_0 : SlR TWagon z x2.l v2_0) (s2_1 : SlR (TInt 3 .i64) z x2.off v2_1) (bx2 : Bx z e m k b2 [v2_0, v2_1, (vI x2.total.length), (vI x2.total.axles), (vI x2.total.mass), (vI x2.total.braked), (vI x2.total.percent), (vI x2.total.required), (vI x2.total.missing)] 63) (h3 : fr 3 = (vP b3)) (bx3 : Bx z e m k b3 [(vI x3.number), (vI x3.kind), (vI x3.a), (vI x3.b), (vI x3.c)] 32) (h6 : fr 6 = (vI x6)) (h7 : fr 7 = (vI x7)) (ao2_o3 : Ap (some b2) (some b3)) {r : Int} (hr : train_tail_0 N x2 n x6 x7 = some r), W Try.prog (sub (bodyOf Try.f51) [1, 1, 1, 0, 1, 0]) (fun ex fr' m' => ∃ z', Zx e.next z0 z' ∧ St z' e m' k ∧ ex = AExit.exit 0 ∧ fr' 6 = (vI r) ∧ Bx z' e m' k b3 [(vI x3.number), (vI x3.kind), (vI x3.a), (vI x3.b), (vI x3.c)] 32 ∧ True) fr m := by
 intro n
 induction n with
 | zero => intro N z0 z e m k fr x2 x6 x7 v2_0 v2_1 b2 x3 b3 hz st h2 s2_0 s2_1 bx2 h3 bx3 h6 h7 ao2_o3 r hr; cases (show (none : Option _) = some r from hr)
 | succ n ih =>
  intro N z0 z e m k fr x2 x6 x7 v2_0 v2_1 b2 x3 b3 hz st h2 s2_0 s2_1 bx2 h3 bx3 h6 h7 ao2_o3 r hr
  unfold train_tail_0 at hr
  refine W.loop1 ?_
  refine W.seq (W.seq (W.region ?_))
  refine sx rfl (pMove (v := (vI x7)) rfl h7) ?_
  refine SeqW.consX rfl (kField rfl Try.underlying63 rfl Try.type24 rfl h2 rfl ?_)
  refine SeqW.consX rfl (kLoad rfl Try.underlying24 rfl rfl (bx2.load (v := v2_0) rfl) ?_)
  refine sx rfl (pLenR (xs := x2.l) rfl Try.underlying24 rfl s2_0) ?_
  refine sx rfl (pLss (k := .i64) (a := x7) (b := (x2.l.length : Int)) rfl rfl rfl) ?_
  refine SeqW.done fun fr24 hf25 => ?_
  have h2 := (congrFun hf25 2).trans h2
  have h3 := (congrFun hf25 3).trans h3
  have h6 := (congrFun hf25 6).trans h6
  have h7 := (congrFun hf25 7).trans h7
  have h23 : fr24 23 = (vB (decide (x7 < (x2.l.length : Int)))) := (congrFun hf25 23).trans rfl
  clear hf25
  refine thenQ.n ?_
  rcases if_some hr with ⟨hc26, hr⟩ | ⟨hc69, hr⟩
  ·refine W.condT h23 hc26 (W.skip ?_)
   refine thenQ.n (W.seq ?_)
   obtain ⟨y56, hy56, hr⟩ := bind_some hr
   refine W.keep (u_train_tail_1 (x2 := x2) (x3 := x3) (Zx.refl _) st h2 s2_0 s2_1 bx2 h3 bx3 h6 h7 ao2_o3 hy56) ?_
   rintro ex62 fr57 m58 hk60 ⟨z59, hz61, st, rfl, h6, O63, O64, A65, -⟩
   replace s2_0 := s2_0.mono hz61.le
   replace s2_1 := s2_1.mono hz61.le
   have h2 := (hk60 2 rfl).trans h2
   have h3 := (hk60 3 rfl).trans h3
   have h7 := (hk60 7 rfl).trans h7
   replace hz := hz.trans hz61
   clear hk60
   refine thenQ.n (W.region ?_)
   refine sx rfl (pMove (v := (vI x7)) rfl h7) ?_
   refine sx rfl (pAdd (k := .i64) (a := x7) (b := 1) rfl rfl rfl) ?_
   obtain ⟨y66, hy66, hr⟩ := lt_some hr
   refine sx rfl (pAssign rfl (congrArg (Value.int .i64) hy66)) ?_
   refine SeqW.done fun fr67 hf68 => ?_
   have h2 := (congrFun hf68 2).trans h2
   have h3 := (congrFun hf68 3).trans h3
   have h6 := (congrFun hf68 6).trans h6
   have h7 : fr67 7 = (vI y66) := (congrFun hf68 7).trans rfl
   clear hf68
   refine thenQ.n ?_
   exact ih (x2 := x2) (x3 := x3) hz st h2 s2_0 s2_1 O63 h3 O64 h6 h7 A65 hr
  ·refine W.condF h23 hc69 ?_
   refine W.exit ?_
   refine thenQ.x ?_
   refine thenQ.x ?_
   obtain rfl := Option.some.inj hr
   exact ⟨z, hz, st, rfl, h6, bx3, trivial⟩

theorem u_train_tail {N : Nat}  {z0 z : Nat → Blk} {e m : Mem} {k : Option Nat} {fr : Nat → Value} {x0 : Train} {x1 : Rule} {v0_0 : Value} {v0_1 : Value} (hz : Zx e.next z0 z) (st : St z e m k) (h0 : fr 0 = (Value.agg [v0_0, v0_1, (vI x0.total.length), (vI x0.total.axles), (vI x0.total.mass), (vI x0.total.braked), (vI x0.total.percent), (vI x0.total.required), (vI x0.total.missing)].toArray)) (s0_0 : SlR TWagon z x0.l v0_0) (s0_1 : SlR (TInt 3 .i64) z x0.off v0_1) (h1 : fr 1 = (Value.agg [(vI x1.number), (vI x1.kind), (vI x1.a), (vI x1.b), (vI x1.c)].toArray)) {r : Bool} (hr : train_tail N x0 x1 = some r) : W Try.prog (sub (bodyOf Try.f51) []) (fun ex fr' m' => ∃ z', Zx e.next z0 z' ∧ St z' e m' k ∧ (ex = .normal ∨ ex = .ret) ∧ fr' 4 = (vB r) ∧ True) fr m := by
 unfold train_tail at hr
 refine W.seq (W.region ?_)
 refine SeqW.consX rfl (kBox (v := (Value.agg [v0_0, v0_1, (vI x0.total.length), (vI x0.total.axles), (vI x0.total.mass), (vI x0.total.braked), (vI x0.total.percent), (vI x0.total.required), (vI x0.total.missing)].toArray)) rfl Try.type63 h0 rfl [v0_0, v0_1, (vI x0.total.length), (vI x0.total.axles), (vI x0.total.mass), (vI x0.total.braked), (vI x0.total.percent), (vI x0.total.required), (vI x0.total.missing)] rfl rfl st ?_)
 intro B1 m2  st X3 sm4 hap5
 refine SeqW.consX rfl (kBox (v := (Value.agg [(vI x1.number), (vI x1.kind), (vI x1.a), (vI x1.b), (vI x1.c)].toArray)) rfl Try.type32 h1 rfl [(vI x1.number), (vI x1.kind), (vI x1.a), (vI x1.b), (vI x1.c)] rfl rfl st ?_)
 intro B7 m8  st X9 sm10 hap11
 have A13 := hap11 _ X3.lt'
 replace X3 := X3.same sm10 Ap.none'
 refine sx rfl (pAssign (v := (vB false)) rfl rfl) ?_
 refine SeqW.done fun fr14 hf15 => ?_
 have h2 : fr14 2 = (vP B1) := (congrFun hf15 2).trans rfl
 have h3 : fr14 3 = (vP B7) := (congrFun hf15 3).trans rfl
 clear hf15
 refine thenQ.n (W.seq (W.region ?_))
 refine SeqW.consX rfl (kField rfl Try.underlying32 rfl Try.type3 rfl h3 rfl ?_)
 refine SeqW.consX rfl (kLoad rfl Try.underlying3 rfl rfl (X9.load (v := (vI x1.a)) rfl) ?_)
 refine SeqW.consX rfl (kField rfl Try.underlying63 rfl Try.type24 rfl h2 rfl ?_)
 refine SeqW.consX rfl (kLoad rfl Try.underlying24 rfl rfl (X3.load (v := v0_0) rfl) ?_)
 refine sx rfl (pLenR (xs := x0.l) rfl Try.underlying24 rfl s0_0) ?_
 refine sx rfl (pMin2 (k := .i64) (a := x1.a) (b := (x0.l.length : Int)) rfl rfl rfl) ?_
 obtain ⟨y16, hy16, hr⟩ := lt_some hr
 refine sx rfl (pAssign rfl (congrArg (Value.int .i64) hy16)) ?_
 refine SeqW.done fun fr17 hf18 => ?_
 have h2 := (congrFun hf18 2).trans h2
 have h3 := (congrFun hf18 3).trans h3
 have h5 : fr17 5 = (vI y16) := (congrFun hf18 5).trans rfl
 clear hf18
 refine thenQ.n (W.seq (W.region ?_))
 refine sx rfl (pAssign (v := (vI 0)) rfl rfl) ?_
 refine SeqW.done fun fr19 hf20 => ?_
 have h2 := (congrFun hf20 2).trans h2
 have h3 := (congrFun hf20 3).trans h3
 have h5 := (congrFun hf20 5).trans h5
 have h6 : fr19 6 = (vI 0) := (congrFun hf20 6).trans rfl
 clear hf20
 refine thenQ.n (W.seq ?_)
 refine W.seq (W.region ?_)
 refine SeqW.consX rfl (kField rfl Try.underlying63 rfl Try.type24 rfl h2 rfl ?_)
 refine SeqW.consX rfl (kLoad rfl Try.underlying24 rfl rfl (X3.load (v := v0_0) rfl) ?_)
 refine sx rfl (pLenR (xs := x0.l) rfl Try.underlying24 rfl s0_0) ?_
 refine sx rfl (pMove (v := (vI y16)) rfl h5) ?_
 refine sx rfl (pSub (k := .i64) (a := (x0.l.length : Int)) (b := y16) rfl rfl rfl) ?_
 obtain ⟨y21, hy21, hr⟩ := lt_some hr
 refine sx rfl (pAssign rfl (congrArg (Value.int .i64) hy21)) ?_
 refine SeqW.done fun fr22 hf23 => ?_
 have h2 := (congrFun hf23 2).trans h2
 have h3 := (congrFun hf23 3).trans h3
 have h5 := (congrFun hf23 5).trans h5
 have h6 := (congrFun hf23 6).trans h6
 have h7 : fr22 7 = (vI y21) := (congrFun hf23 7).trans rfl
 clear hf23
 refine thenQ.n ?_
 refine W.block ?_
 obtain ⟨y70, hy70, hr⟩ := bind_some hr
 refine W.keep (u_train_tail_0 (x2 := x0) (x3 := x1) _ (Zx.refl _) st h2 s0_0 s0_1 X3 h3 X9 h6 h7 A13 hy70) ?_
 rintro ex76 fr71 m72 hk74 ⟨z73, hz75, st, rfl, h6, O77, -⟩
 have h3 := (hk74 3 rfl).trans h3
 have h5 := (hk74 5 rfl).trans h5
 replace hz := hz.trans hz75
 clear hk74
 refine blockQ.hit ?_
 refine thenQ.n (W.seq (W.region ?_))
 refine sx rfl (pMove (v := (vI y70)) rfl h6) ?_
 refine SeqW.consX rfl (kField rfl Try.underlying32 rfl Try.type3 rfl h3 rfl ?_)
 refine SeqW.consX rfl (kLoad rfl Try.underlying3 rfl rfl (O77.load (v := (vI x1.b)) rfl) ?_)
 refine sx rfl (pMove (v := (vI y16)) rfl h5) ?_
 refine sx rfl (pMin2 (k := .i64) (a := x1.b) (b := y16) rfl rfl rfl) ?_
 refine sx rfl (pLss (k := .i64) (a := y70) (b := (min x1.b y16)) rfl rfl rfl) ?_
 obtain ⟨y78, hy78, hr⟩ := lt_some hr
 refine sx rfl (pAssign rfl (congrArg vB hy78)) ?_
 refine SeqW.done fun fr79 hf80 => ?_
 have h4 : fr79 4 = (vB y78) := (congrFun hf80 4).trans rfl
 clear hf80
 refine thenQ.n ?_
 refine W.ret ?_
 obtain rfl := Option.some.inj hr
 exact ⟨z73, hz, st, .inr rfl, h4, trivial⟩

theorem c_train_tail {N : Nat} {z : Nat → Blk} {m : Mem} {x0 : Train} {x1 : Rule} {v0_0 : Value} {v0_1 : Value} (fz : Fz z m) (hd : ∀ b, m.next ≤ b → m.blk b = .dead) (s0_0 : SlR TWagon z x0.l v0_0) (s0_1 : SlR (TInt 3 .i64) z x0.off v0_1) {r : Bool} (hr : train_tail N x0 x1 = some r) : CallW Try.prog 51 #[(Value.agg [v0_0, v0_1, (vI x0.total.length), (vI x0.total.axles), (vI x0.total.mass), (vI x0.total.braked), (vI x0.total.percent), (vI x0.total.required), (vI x0.total.missing)].toArray), (Value.agg [(vI x1.number), (vI x1.kind), (vI x1.a), (vI x1.b), (vI x1.c)].toArray)] m fun v m' => v = (vB r) ∧ m' = m := by
 refine CallW.flat Try.func51 rfl (by kernel_rfl) (Nat.le_of_ble_eq_true rfl) rfl (z := z) (fun fr hf => ?_)
 have h0 : fr 0 = _ := hf 0 _ rfl
 have h1 : fr 1 = _ := hf 1 _ rfl
 refine (u_train_tail (k := none) (Zx.refl _) (St.start fz hd) h0 s0_0 s0_1 h1 hr).mono ?_
 rintro ex fr' m' ⟨z', hz, st, he, h4, -⟩
 exact ⟨he, z', st, [(vB r)], ⟨h4.symm, trivial⟩, .inl rfl, rfl⟩

/-! ### (humpyard/rulebook.train).place$1 -/

theorem u_rulebook_train_place_1 {N : Nat}  {z0 z : Nat → Blk} {e m : Mem} {k : Option Nat} {fr : Nat → Value} {x0 : Wagon} (hz : Zx e.next z0 z) (st : St z e m k) (h0 : fr 0 = (Value.agg [(str x0.number), (vI x0.length), (vI x0.axles), (vI x0.mass), (vI x0.brake), (vI x0.goods), (vB x0.gentle), (str x0.dest)].toArray)) {r : Int} (hr : rulebook_train_place_1 N x0 = some r) : W Try.prog (sub (bodyOf Try.f43) []) (fun ex fr' m' => ∃ z', Zx e.next z0 z' ∧ St z' e m' k ∧ (ex = .normal ∨ ex = .ret) ∧ fr' 2 = (vI r) ∧ True) fr m := by
 unfold rulebook_train_place_1 at hr
 refine W.seq (W.region ?_)
 refine SeqW.consX rfl (kBox (v := (Value.agg [(str x0.number), (vI x0.length), (vI x0.axles), (vI x0.mass), (vI x0.brake), (vI x0.goods), (vB x0.gentle), (str x0.dest)].toArray)) rfl Try.type36 h0 rfl [(str x0.number), (vI x0.length), (vI x0.axles), (vI x0.mass), (vI x0.brake), (vI x0.goods), (vB x0.gentle), (str x0.dest)] rfl rfl st ?_)
 intro B1 m2  st X3 sm4 hap5
 refine sx rfl (pAssign (v := (vI 0)) rfl rfl) ?_
 refine SeqW.done fun fr7 hf8 => ?_
 have h1 : fr7 1 = (vP B1) := (congrFun hf8 1).trans rfl
 clear hf8
 refine thenQ.n (W.seq (W.region ?_))
 refine SeqW.consX rfl (kField rfl Try.underlying36 rfl Try.type3 rfl h1 rfl ?_)
 refine SeqW.consX rfl (kLoad rfl Try.underlying3 rfl rfl (X3.load (v := (vI x0.length)) rfl) ?_)
 refine sx rfl (pAssign (v := (vI x0.length)) rfl rfl) ?_
 refine SeqW.done fun fr9 hf10 => ?_
 have h2 : fr9 2 = (vI x0.length) := (congrFun hf10 2).trans rfl
 clear hf10
 refine thenQ.n ?_
 refine W.ret ?_
 obtain rfl := Option.some.inj hr
 exact ⟨z, hz, st, .inr rfl, h2, trivial⟩

theorem c_rulebook_train_place_1 {N : Nat} {z : Nat → Blk} {m : Mem} {x0 : Wagon} (fz : Fz z m) (hd : ∀ b, m.next ≤ b → m.blk b = .dead)  {r : Int} (hr : rulebook_train_place_1 N x0 = some r) : CallW Try.prog 43 #[(Value.agg [(str x0.number), (vI x0.length), (vI x0.axles), (vI x0.mass), (vI x0.brake), (vI x0.goods), (vB x0.gentle), (str x0.dest)].toArray)] m fun v m' => v = (vI r) ∧ m' = m := by
 refine CallW.flat Try.func43 rfl (by kernel_rfl) (Nat.le_of_ble_eq_true rfl) rfl (z := z) (fun fr hf => ?_)
 have h0 : fr 0 = _ := hf 0 _ rfl
 refine (u_rulebook_train_place_1 (k := none) (Zx.refl _) (St.start fz hd) h0 hr).mono ?_
 rintro ex fr' m' ⟨z', hz, st, he, h2, -⟩
 exact ⟨he, z', st, [(vI r)], ⟨h2.symm, trivial⟩, .inl rfl, rfl⟩

/-! ### (humpyard/rulebook.train).beyond -/

theorem u_train_beyond__rulebook_train_place_1_0 : ∀ (n : Nat) {N : Nat}  {z0 z : Nat → Blk} {e m : Mem} {k : Option Nat} {fr : Nat → Value} {x1 : Int} {x7 : Int} {x11 : List Wagon} {x12 : Int} {x13 : Int} {v11 : Value} (hz : Zx e.next z0 z) (st : St z e m k) (h1 : fr 1 = (vI x1)) (h2 : fr 2 = (Value.func (.func 43) #[] #[])) (h7 : fr 7 = (vI x7)) (h11 : fr 11 = v11) (s11 : SlR TWagon z x11 v11) (h12 : fr 12 = (vI x12)) (h13 : fr 13 = (vI x13)) {r : Sum (Unit) (Int)} (hr : train_beyond__rulebook_train_place_1_0 N x1 x11 x12 n x7 x13 = some r), W Try.prog (sub (bodyOf Try.f42) [1, 1, 0, 1, 0]) (fun ex fr' m' => ∃ z', Zx e.next z0 z' ∧ St z' e m' k ∧ ((∃ q, r = Sum.inl q ∧ ex = AExit.exit 0 ∧ True) ∨ (∃ q, r = Sum.inr q ∧ ex = AExit.ret ∧ fr' 6 = (vI q) ∧ True))) fr m := by
 intro n
 induction n with
 | zero => intro N z0 z e m k fr x1 x7 x11 x12 x13 v11 hz st h1 h2 h7 h11 s11 h12 h13 r hr; cases (show (none : Option _) = some r from hr)
 | succ n ih =>
  intro N z0 z e m k fr x1 x7 x11 x12 x13 v11 hz st h1 h2 h7 h11 s11 h12 h13 r hr
  unfold train_beyond__rulebook_train_place_1_0 at hr
  refine W.loop1 ?_
  refine W.seq (W.region ?_)
  refine sx rfl (pLss (k := .i64) (a := x13) (b := x12) rfl h13 h12) ?_
  refine SeqW.done fun fr13 hf14 => ?_
  have h1 := (congrFun hf14 1).trans h1
  have h2 := (congrFun hf14 2).trans h2
  have h7 := (congrFun hf14 7).trans h7
  have h11 := (congrFun hf14 11).trans h11
  have h12 := (congrFun hf14 12).trans h12
  have h13 := (congrFun hf14 13).trans h13
  have h14 : fr13 14 = (vB (decide (x13 < x12))) := (congrFun hf14 14).trans rfl
  clear hf14
  refine thenQ.n (W.seq ?_)
  rcases if_some hr with ⟨hc15, hr⟩ | ⟨hc45, hr⟩
  ·refine W.condT h14 hc15 (W.skip ?_)
   refine thenQ.n (W.seq ?_)
   refine W.block ?_
   refine W.seq (W.region ?_)
   refine sx rfl (pMove (v := (vI x13)) rfl h13) ?_
   obtain ⟨y16, hy16, hr⟩ := bind_some hr
   refine SeqW.consX rfl (kIdxR (T := TWagon) (xs := x11) (n := x13) rfl Try.underlying24 Try.type36 rfl h11 h13 s11 hy16 ?_)
   intro B17 f18 cs19 hd20 hc21
   obtain rfl := hd20
   refine SeqW.consX rfl (kLoadA rfl Try.underlying36 rfl Try.type36 rfl rfl (st.loads hc21) ?_)
   refine SeqW.consX rfl (kAlloc rfl Try.type36 rfl rfl rfl [(str []), (vI 0), (vI 0), (vI 0), (vI 0), (vI 0), (vB false), (str [])] rfl st ?_)
   intro B23 m24  st X25 sm26 hap27
   refine sx rfl (pAssign (v := (vI x13)) rfl rfl) ?_
   refine SeqW.consX rfl (kPut (off := 0) (w := (Value.agg [(str y16.number), (vI y16.length), (vI y16.axles), (vI y16.mass), (vI y16.brake), (vI y16.goods), (vB y16.gentle), (str y16.dest)].toArray)) (new := [(str y16.number), (vI y16.length), (vI y16.axles), (vI y16.mass), (vI y16.brake), (vI y16.goods), (vB y16.gentle), (str y16.dest)]) rfl Try.type36 rfl rfl rfl rfl rfl X25 rfl [(str y16.number), (vI y16.length), (vI y16.axles), (vI y16.mass), (vI y16.brake), (vI y16.goods), (vB y16.gentle), (str y16.dest)] rfl st ?_)
   intro m29 st X25 sm30
   refine SeqW.done fun fr31 hf32 => ?_
   have h1 := (congrFun hf32 1).trans h1
   have h2 := (congrFun hf32 2).trans h2
   have h7 := (congrFun hf32 7).trans h7
   have h8 : fr31 8 = (vI x13) := (congrFun hf32 8).trans rfl
   have h9 : fr31 9 = (vP B23) := (congrFun hf32 9).trans rfl
   have h11 := (congrFun hf32 11).trans h11
   have h12 := (congrFun hf32 12).trans h12
   have h13 := (congrFun hf32 13).trans h13
   clear hf32
   refine thenQ.n (W.seq (W.region ?_))
   refine sx rfl (pMove (v := (vI x7)) rfl h7) ?_
   refine sx rfl (pMove (v := (Value.func (.func 43) #[] #[])) rfl h2) ?_
   refine SeqW.consX rfl (kLoadA rfl Try.underlying36 rfl Try.type36 rfl h9 X25.loads ?_)
   obtain ⟨y33, hy33, hr⟩ := bind_some hr
   refine SeqW.consX rfl (StepX.call (gCalleeV (args := #[(Value.agg [(str y16.number), (vI y16.length), (vI y16.axles), (vI y16.mass), (vI y16.brake), (vI y16.goods), (vB y16.gentle), (str y16.dest)].toArray)]) (caps := #[]) rfl rfl (args1 rfl) rfl) ((c_rulebook_train_place_1 (x0 := y16) (z := z) st.fz st.dead  hy33).mono ?_))
   rintro _ _ ⟨rfl, rfl⟩
   refine sx rfl (pAdd (k := .i64) (a := x7) (b := y33) rfl rfl rfl) ?_
   obtain ⟨y34, hy34, hr⟩ := lt_some hr
   refine sx rfl (pAssign rfl (congrArg (Value.int .i64) hy34)) ?_
   refine SeqW.done fun fr35 hf36 => ?_
   have h1 := (congrFun hf36 1).trans h1
   have h2 := (congrFun hf36 2).trans h2
   have h7 : fr35 7 = (vI y34) := (congrFun hf36 7).trans rfl
   have h8 := (congrFun hf36 8).trans h8
   have h11 := (congrFun hf36 11).trans h11
   have h12 := (congrFun hf36 12).trans h12
   have h13 := (congrFun hf36 13).trans h13
   clear hf36
   refine thenQ.n (W.seq (W.region ?_))
   refine sx rfl (pMove (v := (vI y34)) rfl h7) ?_
   refine sx rfl (pMove (v := (vI x1)) rfl h1) ?_
   refine sx rfl (pGtr (k := .i64) (a := y34) (b := x1) rfl rfl rfl) ?_
   refine SeqW.done fun fr37 hf38 => ?_
   have h1 := (congrFun hf38 1).trans h1
   have h2 := (congrFun hf38 2).trans h2
   have h7 := (congrFun hf38 7).trans h7
   have h8 := (congrFun hf38 8).trans h8
   have h11 := (congrFun hf38 11).trans h11
   have h12 := (congrFun hf38 12).trans h12
   have h13 := (congrFun hf38 13).trans h13
   have h25 : fr37 25 = (vB (decide (x1 < y34))) := (congrFun hf38 25).trans rfl
   clear hf38
   refine thenQ.n ?_
   rcases if_some hr with ⟨hc39, hr⟩ | ⟨hc42, hr⟩
   ·refine W.condT h25 hc39 (W.seq (W.region ?_))
    refine sx rfl (pMove (v := (vI x13)) rfl h8) ?_
    refine sx rfl (pAssign (v := (vI x13)) rfl rfl) ?_
    refine SeqW.done fun fr40 hf41 => ?_
    have h6 : fr40 6 = (vI x13) := (congrFun hf41 6).trans rfl
    clear hf41
    refine thenQ.n ?_
    refine W.ret ?_
    refine blockQ.r ?_
    refine thenQ.r ?_
    refine thenQ.r ?_
    obtain rfl := Option.some.inj hr
    exact ⟨z, hz, st, .inr ⟨_, rfl, rfl, h6, trivial⟩⟩
   ·refine W.condF h25 hc42 (W.skip ?_)
    refine blockQ.n ?_
    refine thenQ.n (W.region ?_)
    refine sx rfl (pAdd (k := .i64) (a := x13) (b := 1) rfl h13 rfl) ?_
    refine sx rfl (pMove (v := (vI (IntKind.wrap .i64 (x13 + 1)))) rfl rfl) ?_
    refine SeqW.done fun fr43 hf44 => ?_
    have h1 := (congrFun hf44 1).trans h1
    have h2 := (congrFun hf44 2).trans h2
    have h7 := (congrFun hf44 7).trans h7
    have h11 := (congrFun hf44 11).trans h11
    have h12 := (congrFun hf44 12).trans h12
    have h13 : fr43 13 = (vI (IntKind.wrap .i64 (x13 + 1))) := (congrFun hf44 13).trans rfl
    clear hf44
    refine thenQ.n ?_
    exact ih hz st h1 h2 h7 h11 s11 h12 h13 hr
  ·refine W.condF h14 hc45 ?_
   refine W.exit ?_
   refine thenQ.x ?_
   refine thenQ.x ?_
   obtain rfl := Option.some.inj hr
   exact ⟨z, hz, st, .inl ⟨_, rfl, rfl, trivial⟩⟩

theorem u_train_beyond__rulebook_train_place_1 {N : Nat}  {z0 z : Nat → Blk} {e m : Mem} {k : Option Nat} {fr : Nat → Value} {x0 : Train} {x1 : Int} {v0_0 : Value} {v0_1 : Value} (hz : Zx e.next z0 z) (st : St z e m k) (h0 : fr 0 = (Value.agg [v0_0, v0_1, (vI x0.total.length), (vI x0.total.axles), (vI x0.total.mass), (vI x0.total.braked), (vI x0.total.percent), (vI x0.total.required), (vI x0.total.missing)].toArray)) (s0_0 : SlR TWagon z x0.l v0_0) (s0_1 : SlR (TInt 3 .i64) z x0.off v0_1) (h1 : fr 1 = (vI x1)) (h2 : fr 2 = (Value.func (.func 43) #[] #[])) {r : Int} (hr : train_beyond__rulebook_train_place_1 N x0 x1 = some r) : W Try.prog (sub (bodyOf Try.f42) []) (fun ex fr' m' => ∃ z', Zx e.next z0 z' ∧ St z' e m' k ∧ (ex = .normal ∨ ex = .ret) ∧ fr' 6 = (vI r) ∧ True) fr m := by
 unfold train_beyond__rulebook_train_place_1 at hr
 refine W.seq (W.region ?_)
 refine SeqW.consX rfl (kBox (v := (Value.agg [v0_0, v0_1, (vI x0.total.length), (vI x0.total.axles), (vI x0.total.mass), (vI x0.total.braked), (vI x0.total.percent), (vI x0.total.required), (vI x0.total.missing)].toArray)) rfl Try.type63 h0 rfl [v0_0, v0_1, (vI x0.total.length), (vI x0.total.axles), (vI x0.total.mass), (vI x0.total.braked), (vI x0.total.percent), (vI x0.total.required), (vI x0.total.missing)] rfl rfl st ?_)
 intro B1 m2  st X3 sm4 hap5
 refine sx rfl (pAssign (v := (vI 0)) rfl rfl) ?_
 refine SeqW.done fun fr7 hf8 => ?_
 have h1 := (congrFun hf8 1).trans h1
 have h2 := (congrFun hf8 2).trans h2
 have h3 : fr7 3 = (vP B1) := (congrFun hf8 3).trans rfl
 clear hf8
 refine thenQ.n (W.seq (W.region ?_))
 refine sx rfl (pAssign (v := (vI 0)) rfl rfl) ?_
 refine SeqW.done fun fr9 hf10 => ?_
 have h1 := (congrFun hf10 1).trans h1
 have h2 := (congrFun hf10 2).trans h2
 have h3 := (congrFun hf10 3).trans h3
 have h7 : fr9 7 = (vI 0) := (congrFun hf10 7).trans rfl
 clear hf10
 refine thenQ.n (W.seq ?_)
 refine W.seq (W.region ?_)
 refine SeqW.consX rfl (kField rfl Try.underlying63 rfl Try.type24 rfl h3 rfl ?_)
 refine SeqW.consX rfl (kLoad rfl Try.underlying24 rfl rfl (X3.load (v := v0_0) rfl) ?_)
 refine sx rfl (pLenR (xs := x0.l) rfl Try.underlying24 rfl s0_0) ?_
 refine sx rfl (pMove (v := (vI 0)) rfl rfl) ?_
 refine SeqW.done fun fr11 hf12 => ?_
 have h1 := (congrFun hf12 1).trans h1
 have h2 := (congrFun hf12 2).trans h2
 have h7 := (congrFun hf12 7).trans h7
 have h11 : fr11 11 = v0_0 := (congrFun hf12 11).trans rfl
 have h12 : fr11 12 = (vI (x0.l.length : Int)) := (congrFun hf12 12).trans rfl
 have h13 : fr11 13 = (vI 0) := (congrFun hf12 13).trans rfl
 clear hf12
 refine thenQ.n ?_
 refine W.block ?_
 obtain ⟨y46, hy46, hr⟩ := bind_some hr
 refine W.keep (u_train_beyond__rulebook_train_place_1_0 _ (Zx.refl _) st h1 h2 h7 h11 s0_0 h12 h13 hy46) ?_
 rintro ex52 fr47 m48 hk50 ⟨z49, hz51, st, ⟨y53, rfl, rfl, -⟩ | ⟨y56, rfl, rfl, h6, -⟩⟩
 ·dsimp only at hr
  replace hz := hz.trans hz51
  clear hk50
  refine blockQ.hit ?_
  refine thenQ.n (W.seq (W.region ?_))
  refine sx rfl (pAssign (v := (vI (-1))) rfl rfl) ?_
  refine SeqW.done fun fr54 hf55 => ?_
  have h6 : fr54 6 = (vI (-1)) := (congrFun hf55 6).trans rfl
  clear hf55
  refine thenQ.n ?_
  refine W.ret ?_
  obtain rfl := Option.some.inj hr
  exact ⟨z49, hz, st, .inr rfl, h6, trivial⟩
 ·dsimp only at hr
  replace hz := hz.trans hz51
  clear hk50
  refine blockQ.r ?_
  refine thenQ.r ?_
  obtain rfl := Option.some.inj hr
  exact ⟨z49, hz, st, .inr rfl, h6, trivial⟩

theorem c_train_beyond__rulebook_train_place_1 {N : Nat} {z : Nat → Blk} {m : Mem} {x0 : Train} {x1 : Int} {v0_0 : Value} {v0_1 : Value} (fz : Fz z m) (hd : ∀ b, m.next ≤ b → m.blk b = .dead) (s0_0 : SlR TWagon z x0.l v0_0) (s0_1 : SlR (TInt 3 .i64) z x0.off v0_1) {r : Int} (hr : train_beyond__rulebook_train_place_1 N x0 x1 = some r) : CallW Try.prog 42 #[(Value.agg [v0_0, v0_1, (vI x0.total.length), (vI x0.total.axles), (vI x0.total.mass), (vI x0.total.braked), (vI x0.total.percent), (vI x0.total.required), (vI x0.total.missing)].toArray), (vI x1), (Value.func (.func 43) #[] #[])] m fun v m' => v = (vI r) ∧ m' = m := by
 refine CallW.flat Try.func42 rfl (by kernel_rfl) (Nat.le_of_ble_eq_true rfl) rfl (z := z) (fun fr hf => ?_)
 have h0 : fr 0 = _ := hf 0 _ rfl
 have h1 : fr 1 = _ := hf 1 _ rfl
 have h2 : fr 2 = _ := hf 2 _ rfl
 refine (u_train_beyond__rulebook_train_place_1 (k := none) (Zx.refl _) (St.start fz hd) h0 s0_0 s0_1 h1 h2 hr).mono ?_
 rintro ex fr' m' ⟨z', hz, st, he, h6, -⟩
 exact ⟨he, z', st, [(vI r)], ⟨h6.symm, trivial⟩, .inl rfl, rfl⟩

/-! ### (humpyard/rulebook.train).place$2 -/

theorem u_rulebook_train_place_2 {N : Nat}  {z0 z : Nat → Blk} {e m : Mem} {k : Option Nat} {fr : Nat → Value} {x0 : Wagon} (hz : Zx e.next z0 z) (st : St z e m k) (h0 : fr 0 = (Value.agg [(str x0.number), (vI x0.length), (vI x0.axles), (vI x0.mass), (vI x0.brake), (vI x0.goods), (vB x0.gentle), (str x0.dest)].toArray)) {r : Int} (hr : rulebook_train_place_2 N x0 = some r) : W Try.prog (sub (bodyOf Try.f44) []) (fun ex fr' m' => ∃ z', Zx e.next z0 z' ∧ St z' e m' k ∧ (ex = .normal ∨ ex = .ret) ∧ fr' 2 = (vI r) ∧ True) fr m := by
 unfold rulebook_train_place_2 at hr
 refine W.seq (W.region ?_)
 refine SeqW.consX rfl (kBox (v := (Value.agg [(str x0.number), (vI x0.length), (vI x0.axles), (vI x0.mass), (vI x0.brake), (vI x0.goods), (vB x0.gentle), (str x0.dest)].toArray)) rfl Try.type36 h0 rfl [(str x0.number), (vI x0.length), (vI x0.axles), (vI x0.mass), (vI x0.brake), (vI x0.goods), (vB x0.gentle), (str x0.dest)] rfl rfl st ?_)
 intro B1 m2  st X3 sm4 hap5
 refine sx rfl (pAssign (v := (vI 0)) rfl rfl) ?_
 refine SeqW.done fun fr7 hf8 => ?_
 have h1 : fr7 1 = (vP B1) := (congrFun hf8 1).trans rfl
 clear hf8
 refine thenQ.n (W.seq (W.region ?_))
 refine SeqW.consX rfl (kField rfl Try.underlying36 rfl Try.type3 rfl h1 rfl ?_)
 refine SeqW.consX rfl (kLoad rfl Try.underlying3 rfl rfl (X3.load (v := (vI x0.axles)) rfl) ?_)
 refine sx rfl (pAssign (v := (vI x0.axles)) rfl rfl) ?_
 refine SeqW.done fun fr9 hf10 => ?_
 have h2 : fr9 2 = (vI x0.axles) := (congrFun hf10 2).trans rfl
 clear hf10
 refine thenQ.n ?_
 refine W.ret ?_
 obtain rfl := Option.some.inj hr
 exact ⟨z, hz, st, .inr rfl, h2, trivial⟩

theorem c_rulebook_train_place_2 {N : Nat} {z : Nat → Blk} {m : Mem} {x0 : Wagon} (fz : Fz z m) (hd : ∀ b, m.next ≤ b → m.blk b = .dead)  {r : Int} (hr : rulebook_train_place_2 N x0 = some r) : CallW Try.prog 44 #[(Value.agg [(str x0.number), (vI x0.length), (vI x0.axles), (vI x0.mass), (vI x0.brake), (vI x0.goods), (vB x0.gentle), (str x0.dest)].toArray)] m fun v m' => v = (vI r) ∧ m' = m := by
 refine CallW.flat Try.func44 rfl (by kernel_rfl) (Nat.le_of_ble_eq_true rfl) rfl (z := z) (fun fr hf => ?_)
 have h0 : fr 0 = _ := hf 0 _ rfl
 refine (u_rulebook_train_place_2 (k := none) (Zx.refl _) (St.start fz hd) h0 hr).mono ?_
 rintro ex fr' m' ⟨z', hz, st, he, h2, -⟩
 exact ⟨he, z', st, [(vI r)], ⟨h2.symm, trivial⟩, .inl rfl, rfl⟩

/-! ### (humpyard/rulebook.train).beyond -/

theorem u_train_beyond__rulebook_train_place_2_0 : ∀ (n : Nat) {N : Nat}  {z0 z : Nat → Blk} {e m : Mem} {k : Option Nat} {fr : Nat → Value} {x1 : Int} {x7 : Int} {x11 : List Wagon} {x12 : Int} {x13 : Int} {v11 : Value} (hz : Zx e.next z0 z) (st : St z e m k) (h1 : fr 1 = (vI x1)) (h2 : fr 2 = (Value.func (.func 44) #[] #[])) (h7 : fr 7 = (vI x7)) (h11 : fr 11 = v11) (s11 : SlR TWagon z x11 v11) (h12 : fr 12 = (vI x12)) (h13 : fr 13 = (vI x13)) {r : Sum (Unit) (Int)} (hr : train_beyond__rulebook_train_place_2_0 N x1 x11 x12 n x7 x13 = some r), W Try.prog (sub (bodyOf Try.f42) [1, 1, 0, 1, 0]) (fun ex fr' m' => ∃ z', Zx e.next z0 z' ∧ St z' e m' k ∧ ((∃ q, r = Sum.inl q ∧ ex = AExit.exit 0 ∧ True) ∨ (∃ q, r = Sum.inr q ∧ ex = AExit.ret ∧ fr' 6 = (vI q) ∧ True))) fr m := by
 intro n
 induction n with
 | zero => intro N z0 z e m k fr x1 x7 x11 x12 x13 v11 hz st h1 h2 h7 h11 s11 h12 h13 r hr; cases (show (none : Option _) = some r from hr)
 | succ n ih =>
  intro N z0 z e m k fr x1 x7 x11 x12 x13 v11 hz st h1 h2 h7 h11 s11 h12 h13 r hr
  unfold train_beyond__rulebook_train_place_2_0 at hr
  refine W.loop1 ?_
  refine W.seq (W.region ?_)
  refine sx rfl (pLss (k := .i64) (a := x13) (b := x12) rfl h13 h12) ?_
  refine SeqW.done fun fr13 hf14 => ?_
  have h1 := (congrFun hf14 1).trans h1
  have h2 := (congrFun hf14 2).trans h2
  have h7 := (congrFun hf14 7).trans h7
  have h11 := (congrFun hf14 11).trans h11
  have h12 := (congrFun hf14 12).trans h12
  have h13 := (congrFun hf14 13).trans h13
  have h14 : fr13 14 = (vB (decide (x13 < x12))) := (congrFun hf14 14).trans rfl
  clear hf14
  refine thenQ.n (W.seq ?_)
  rcases if_some hr with ⟨hc15, hr⟩ | ⟨hc45, hr⟩
  ·refine W.condT h14 hc15 (W.skip ?_)
   refine thenQ.n (W.seq ?_)
   refine W.block ?_
   refine W.seq (W.region ?_)
   refine sx rfl (pMove (v := (vI x13)) rfl h13) ?_
   obtain ⟨y16, hy16, hr⟩ := bind_some hr
   refine SeqW.consX rfl (kIdxR (T := TWagon) (xs := x11) (n := x13) rfl Try.underlying24 Try.type36 rfl h11 h13 s11 hy16 ?_)
   intro B17 f18 cs19 hd20 hc21
   obtain rfl := hd20
   refine SeqW.consX rfl (kLoadA rfl Try.underlying36 rfl Try.type36 rfl rfl (st.loads hc21) ?_)
   refine SeqW.consX rfl (kAlloc rfl Try.type36 rfl rfl rfl [(str []), (vI 0), (vI 0), (vI 0), (vI 0), (vI 0), (vB false), (str [])] rfl st ?_)
   intro B23 m24  st X25 sm26 hap27
   refine sx rfl (pAssign (v := (vI x13)) rfl rfl) ?_
   refine SeqW.consX rfl (kPut (off := 0) (w := (Value.agg [(str y16.number), (vI y16.length), (vI y16.axles), (vI y16.mass), (vI y16.brake), (vI y16.goods), (vB y16.gentle), (str y16.dest)].toArray)) (new := [(str y16.number), (vI y16.length), (vI y16.axles), (vI y16.mass), (vI y16.brake), (vI y16.goods), (vB y16.gentle), (str y16.dest)]) rfl Try.type36 rfl rfl rfl rfl rfl X25 rfl [(str y16.number), (vI y16.length), (vI y16.axles), (vI y16.mass), (vI y16.brake), (vI y16.goods), (vB y16.gentle), (str y16.dest)] rfl st ?_)
   intro m29 st X25 sm30
   refine SeqW.done fun fr31 hf32 => ?_
   have h1 := (congrFun hf32 1).trans h1
   have h2 := (congrFun hf32 2).trans h2
   have h7 := (congrFun hf32 7).trans h7
   have h8 : fr31 8 = (vI x13) := (congrFun hf32 8).trans rfl
   have h9 : fr31 9 = (vP B23) := (congrFun hf32 9).trans rfl
   have h11 := (congrFun hf32 11).trans h11
   have h12 := (congrFun hf32 12).trans h12
   have h13 := (congrFun hf32 13).trans h13
   clear hf32
   refine thenQ.n (W.seq (W.region ?_))
   refine sx rfl (pMove (v := (vI x7)) rfl h7) ?_
   refine sx rfl (pMove (v := (Value.func (.func 44) #[] #[])) rfl h2) ?_
   refine SeqW.consX rfl (kLoadA rfl Try.underlying36 rfl Try.type36 rfl h9 X25.loads ?_)
   obtain ⟨y33, hy33, hr⟩ := bind_some hr
   refine SeqW.consX rfl (StepX.call (gCalleeV (args := #[(Value.agg [(str y16.number), (vI y16.length), (vI y16.axles), (vI y16.mass), (vI y16.brake), (vI y16.goods), (vB y16.gentle), (str y16.dest)].toArray)]) (caps := #[]) rfl rfl (args1 rfl) rfl) ((c_rulebook_train_place_2 (x0 := y16) (z := z) st.fz st.dead  hy33).mono ?_))
   rintro _ _ ⟨rfl, rfl⟩
   refine sx rfl (pAdd (k := .i64) (a := x7) (b := y33) rfl rfl rfl) ?_
   obtain ⟨y34, hy34, hr⟩ := lt_some hr
   refine sx rfl (pAssign rfl (congrArg (Value.int .i64) hy34)) ?_
   refine SeqW.done fun fr35 hf36 => ?_
   have h1 := (congrFun hf36 1).trans h1
   have h2 := (congrFun hf36 2).trans h2
   have h7 : fr35 7 = (vI y34) := (congrFun hf36 7).trans rfl
   have h8 := (congrFun hf36 8).trans h8
   have h11 := (congrFun hf36 11).trans h11
   have h12 := (congrFun hf36 12).trans h12
   have h13 := (congrFun hf36 13).trans h13
   clear hf36
   refine thenQ.n (W.seq (W.region ?_))
   refine sx rfl (pMove (v := (vI y34)) rfl h7) ?_
   refine sx rfl (pMove (v := (vI x1)) rfl h1) ?_
   refine sx rfl (pGtr (k := .i64) (a := y34) (b := x1) rfl rfl rfl) ?_
   refine SeqW.done fun fr37 hf38 => ?_
   have h1 := (congrFun hf38 1).trans h1
   have h2 := (congrFun hf38 2).trans h2
   have h7 := (congrFun hf38 7).trans h7
   have h8 := (congrFun hf38 8).trans h8
   have h11 := (congrFun hf38 11).trans h11
   have h12 := (congrFun hf38 12).trans h12
   have h13 := (congrFun hf38 13).trans h13
   have h25 : fr37 25 = (vB (decide (x1 < y34))) := (congrFun hf38 25).trans rfl
   clear hf38
   refine thenQ.n ?_
   rcases if_some hr with ⟨hc39, hr⟩ | ⟨hc42, hr⟩
   ·refine W.condT h25 hc39 (W.seq (W.region ?_))
    refine sx rfl (pMove (v := (vI x13)) rfl h8) ?_
    refine sx rfl (pAssign (v := (vI x13)) rfl rfl) ?_
    refine SeqW.done fun fr40 hf41 => ?_
    have h6 : fr40 6 = (vI x13) := (congrFun hf41 6).trans rfl
    clear hf41
    refine thenQ.n ?_
    refine W.ret ?_
    refine blockQ.r ?_
    refine thenQ.r ?_
    refine thenQ.r ?_
    obtain rfl := Option.some.inj hr
    exact ⟨z, hz, st, .inr ⟨_, rfl, rfl, h6, trivial⟩⟩
   ·refine W.condF h25 hc42 (W.skip ?_)
    refine blockQ.n ?_
    refine thenQ.n (W.region ?_)
    refine sx rfl (pAdd (k := .i64) (a := x13) (b := 1) rfl h13 rfl) ?_
    refine sx rfl (pMove (v := (vI (IntKind.wrap .i64 (x13 + 1)))) rfl rfl) ?_
    refine SeqW.done fun fr43 hf44 => ?_
    have h1 := (congrFun hf44 1).trans h1
    have h2 := (congrFun hf44 2).trans h2
    have h7 := (congrFun hf44 7).trans h7
    have h11 := (congrFun hf44 11).trans h11
    have h12 := (congrFun hf44 12).trans h12
    have h13 : fr43 13 = (vI (IntKind.wrap .i64 (x13 + 1))) := (congrFun hf44 13).trans rfl
    clear hf44
    refine thenQ.n ?_
    exact ih hz st h1 h2 h7 h11 s11 h12 h13 hr
  ·refine W.condF h14 hc45 ?_
   refine W.exit ?_
   refine thenQ.x ?_
   refine thenQ.x ?_
   obtain rfl := Option.some.inj hr
   exact ⟨z, hz, st, .inl ⟨_, rfl, rfl, trivial⟩⟩

theorem u_train_beyond__rulebook_train_place_2 {N : Nat}  {z0 z : Nat → Blk} {e m : Mem} {k : Option Nat} {fr : Nat → Value} {x0 : Train} {x1 : Int} {v0_0 : Value} {v0_1 : Value} (hz : Zx e.next z0 z) (st : St z e m k) (h0 : fr 0 = (Value.agg [v0_0, v0_1, (vI x0.total.length), (vI x0.total.axles), (vI x0.total.mass), (vI x0.total.braked), (vI x0.total.percent), (vI x0.total.required), (vI x0.total.missing)].toArray)) (s0_0 : SlR TWagon z x0.l v0_0) (s0_1 : SlR (TInt 3 .i64) z x0.off v0_1) (h1 : fr 1 = (vI x1)) (h2 : fr 2 = (Value.func (.func 44) #[] #[])) {r : Int} (hr : train_beyond__rulebook_train_place_2 N x0 x1 = some r) : W Try.prog (sub (bodyOf Try.f42) []) (fun ex fr' m' => ∃ z', Zx e.next z0 z' ∧ St z' e m' k ∧ (ex = .normal ∨ ex = .ret) ∧ fr' 6 = (vI r) ∧ True) fr m := by
 unfold train_beyond__rulebook_train_place_2 at hr
 refine W.seq (W.region ?_)
 refine SeqW.consX rfl (kBox (v := (Value.agg [v0_0, v0_1, (vI x0.total.length), (vI x0.total.axles), (vI x0.total.mass), (vI x0.total.braked), (vI x0.total.percent), (vI x0.total.required), (vI x0.total.missing)].toArray)) rfl Try.type63 h0 rfl [v0_0, v0_1, (vI x0.total.length), (vI x0.total.axles), (vI x0.total.mass), (vI x0.total.braked), (vI x0.total.percent), (vI x0.total.required), (vI x0.total.missing)] rfl rfl st ?_)
 intro B1 m2  st X3 sm4 hap5
 refine sx rfl (pAssign (v := (vI 0)) rfl rfl) ?_
 refine SeqW.done fun fr7 hf8 => ?_
 have h1 := (congrFun hf8 1).trans h1
 have h2 := (congrFun hf8 2).trans h2
 have h3 : fr7 3 = (vP B1) := (congrFun hf8 3).trans rfl
 clear hf8
 refine thenQ.n (W.seq (W.region ?_))
 refine sx rfl (pAssign (v := (vI 0)) rfl rfl) ?_
 refine SeqW.done fun fr9 hf10 => ?_
 have h1 := (congrFun hf10 1).trans h1
 have h2 := (congrFun hf10 2).trans h2
 have h3 := (congrFun hf10 3).trans h3
 have h7 : fr9 7 = (vI 0) := (congrFun hf10 7).trans rfl
 clear hf10
 refine thenQ.n (W.seq ?_)
 refine W.seq (W.region ?_)
 refine SeqW.consX rfl (kField rfl Try.underlying63 rfl Try.type24 rfl h3 rfl ?_)
 refine SeqW.consX rfl (kLoad rfl Try.underlying24 rfl rfl (X3.load (v := v0_0) rfl) ?_)
 refine sx rfl (pLenR (xs := x0.l) rfl Try.underlying24 rfl s0_0) ?_
 refine sx rfl (pMove (v := (vI 0)) rfl rfl) ?_
 refine SeqW.done fun fr11 hf12 => ?_
 have h1 := (congrFun hf12 1).trans h1
 have h2 := (congrFun hf12 2).trans h2
 have h7 := (congrFun hf12 7).trans h7
 have h11 : fr11 11 = v0_0 := (congrFun hf12 11).trans rfl
 have h12 : fr11 12 = (vI (x0.l.length : Int)) := (congrFun hf12 12).trans rfl
 have h13 : fr11 13 = (vI 0) := (congrFun hf12 13).trans rfl
 clear hf12
 refine thenQ.n ?_
 refine W.block ?_
 obtain ⟨y46, hy46, hr⟩ := bind_some hr
 refine W.keep (u_train_beyond__rulebook_train_place_2_0 _ (Zx.refl _) st h1 h2 h7 h11 s0_0 h12 h13 hy46) ?_
 rintro ex52 fr47 m48 hk50 ⟨z49, hz51, st, ⟨y53, rfl, rfl, -⟩ | ⟨y56, rfl, rfl, h6, -⟩⟩
 ·dsimp only at hr
  replace hz := hz.trans hz51
  clear hk50
  refine blockQ.hit ?_
  refine thenQ.n (W.seq (W.region ?_))
  refine sx rfl (pAssign (v := (vI (-1))) rfl rfl) ?_
  refine SeqW.done fun fr54 hf55 => ?_
  have h6 : fr54 6 = (vI (-1)) := (congrFun hf55 6).trans rfl
  clear hf55
  refine thenQ.n ?_
  refine W.ret ?_
  obtain rfl := Option.some.inj hr
  exact ⟨z49, hz, st, .inr rfl, h6, trivial⟩
 ·dsimp only at hr
  replace hz := hz.trans hz51
  clear hk50
  refine blockQ.r ?_
  refine thenQ.r ?_
  obtain rfl := Option.some.inj hr
  exact ⟨z49, hz, st, .inr rfl, h6, trivial⟩

theorem c_train_beyond__rulebook_train_place_2 {N : Nat} {z : Nat → Blk} {m : Mem} {x0 : Train} {x1 : Int} {v0_0 : Value} {v0_1 : Value} (fz : Fz z m) (hd : ∀ b, m.next ≤ b → m.blk b = .dead) (s0_0 : SlR TWagon z x0.l v0_0) (s0_1 : SlR (TInt 3 .i64) z x0.off v0_1) {r : Int} (hr : train_beyond__rulebook_train_place_2 N x0 x1 = some r) : CallW Try.prog 42 #[(Value.agg [v0_0, v0_1, (vI x0.total.length), (vI x0.total.axles), (vI x0.total.mass), (vI x0.total.braked), (vI x0.total.percent), (vI x0.total.required), (vI x0.total.missing)].toArray), (vI x1), (Value.func (.func 44) #[] #[])] m fun v m' => v = (vI r) ∧ m' = m := by
 refine CallW.flat Try.func42 rfl (by kernel_rfl) (Nat.le_of_ble_eq_true rfl) rfl (z := z) (fun fr hf => ?_)
 have h0 : fr 0 = _ := hf 0 _ rfl
 have h1 : fr 1 = _ := hf 1 _ rfl
 have h2 : fr 2 = _ := hf 2 _ rfl
 refine (u_train_beyond__rulebook_train_place_2 (k := none) (Zx.refl _) (St.start fz hd) h0 s0_0 s0_1 h1 h2 hr).mono ?_
 rintro ex fr' m' ⟨z', hz, st, he, h6, -⟩
 exact ⟨he, z', st, [(vI r)], ⟨h6.symm, trivial⟩, .inl rfl, rfl⟩

/-! ### (humpyard/rulebook.train).place$3 -/

theorem u_rulebook_train_place_3 {N : Nat}  {z0 z : Nat → Blk} {e m : Mem} {k : Option Nat} {fr : Nat → Value} {x0 : Wagon} (hz : Zx e.next z0 z) (st : St z e m k) (h0 : fr 0 = (Value.agg [(str x0.number), (vI x0.length), (vI x0.axles), (vI x0.mass), (vI x0.brake), (vI x0.goods), (vB x0.gentle), (str x0.dest)].toArray)) {r : Int} (hr : rulebook_train_place_3 N x0 = some r) : W Try.prog (sub (bodyOf Try.f45) []) (fun ex fr' m' => ∃ z', Zx e.next z0 z' ∧ St z' e m' k ∧ (ex = .normal ∨ ex = .ret) ∧ fr' 2 = (vI r) ∧ True) fr m := by
 unfold rulebook_train_place_3 at hr
 refine W.seq (W.region ?_)
 refine SeqW.consX rfl (kBox (v := (Value.agg [(str x0.number), (vI x0.length), (vI x0.axles), (vI x0.mass), (vI x0.brake), (vI x0.goods), (vB x0.gentle), (str x0.dest)].toArray)) rfl Try.type36 h0 rfl [(str x0.number), (vI x0.length), (vI x0.axles), (vI x0.mass), (vI x0.brake), (vI x0.goods), (vB x0.gentle), (str x0.dest)] rfl rfl st ?_)
 intro B1 m2  st X3 sm4 hap5
 refine sx rfl (pAssign (v := (vI 0)) rfl rfl) ?_
 refine SeqW.done fun fr7 hf8 => ?_
 have h1 : fr7 1 = (vP B1) := (congrFun hf8 1).trans rfl
 clear hf8
 refine thenQ.n (W.seq (W.region ?_))
 refine SeqW.consX rfl (kField rfl Try.underlying36 rfl Try.type3 rfl h1 rfl ?_)
 refine SeqW.consX rfl (kLoad rfl Try.underlying3 rfl rfl (X3.load (v := (vI x0.mass)) rfl) ?_)
 refine sx rfl (pAssign (v := (vI x0.mass)) rfl rfl) ?_
 refine SeqW.done fun fr9 hf10 => ?_
 have h2 : fr9 2 = (vI x0.mass) := (congrFun hf10 2).trans rfl
 clear hf10
 refine thenQ.n ?_
 refine W.ret ?_
 obtain rfl := Option.some.inj hr
 exact ⟨z, hz, st, .inr rfl, h2, trivial⟩

theorem c_rulebook_train_place_3 {N : Nat} {z : Nat → Blk} {m : Mem} {x0 : Wagon} (fz : Fz z m) (hd : ∀ b, m.next ≤ b → m.blk b = .dead)  {r : Int} (hr : rulebook_train_place_3 N x0 = some r) : CallW Try.prog 45 #[(Value.agg [(str x0.number), (vI x0.length), (vI x0.axles), (vI x0.mass), (vI x0.brake), (vI x0.goods), (vB x0.gentle), (str x0.dest)].toArray)] m fun v m' => v = (vI r) ∧ m' = m := by
 refine CallW.flat Try.func45 rfl (by kernel_rfl) (Nat.le_of_ble_eq_true rfl) rfl (z := z) (fun fr hf => ?_)
 have h0 : fr 0 = _ := hf 0 _ rfl
 refine (u_rulebook_train_place_3 (k := none) (Zx.refl _) (St.start fz hd) h0 hr).mono ?_
 rintro ex fr' m' ⟨z', hz, st, he, h2, -⟩
 exact ⟨he, z', st, [(vI r)], ⟨h2.symm, trivial⟩, .inl rfl, rfl⟩

/-! ### (humpyard/rulebook.train).beyond -/

theorem u_train_beyond__rulebook_train_place_3_0 : ∀ (n : Nat) {N : Nat}  {z0 z : Nat → Blk} {e m : Mem} {k : Option Nat} {fr : Nat → Value} {x1 : Int} {x7 : Int} {x11 : List Wagon} {x12 : Int} {x13 : Int} {v11 : Value} (hz : Zx e.next z0 z) (st : St z e m k) (h1 : fr 1 = (vI x1)) (h2 : fr 2 = (Value.func (.func 45) #[] #[])) (h7 : fr 7 = (vI x7)) (h11 : fr 11 = v11) (s11 : SlR TWagon z x11 v11) (h12 : fr 12 = (vI x12)) (h13 : fr 13 = (vI x13)) {r : Sum (Unit) (Int)} (hr : train_beyond__rulebook_train_place_3_0 N x1 x11 x12 n x7 x13 = some r), W Try.prog (sub (bodyOf Try.f42) [1, 1, 0, 1, 0]) (fun ex fr' m' => ∃ z', Zx e.next z0 z' ∧ St z' e m' k ∧ ((∃ q, r = Sum.inl q ∧ ex = AExit.exit 0 ∧ True) ∨ (∃ q, r = Sum.inr q ∧ ex = AExit.ret ∧ fr' 6 = (vI q) ∧ True))) fr m := by
 intro n
 induction n with
 | zero => intro N z0 z e m k fr x1 x7 x11 x12 x13 v11 hz st h1 h2 h7 h11 s11 h12 h13 r hr; cases (show (none : Option _) = some r from hr)
 | succ n ih =>
  intro N z0 z e m k fr x1 x7 x11 x12 x13 v11 hz st h1 h2 h7 h11 s11 h12 h13 r hr
  unfold train_beyond__rulebook_train_place_3_0 at hr
  refine W.loop1 ?_
  refine W.seq (W.region ?_)
  refine sx rfl (pLss (k := .i64) (a := x13) (b := x12) rfl h13 h12) ?_
  refine SeqW.done fun fr13 hf14 => ?_
  have h1 := (congrFun hf14 1).trans h1
  have h2 := (congrFun hf14 2).trans h2
  have h7 := (congrFun hf14 7).trans h7
  have h11 := (congrFun hf14 11).trans h11
  have h12 := (congrFun hf14 12).trans h12
  have h13 := (congrFun hf14 13).trans h13
  have h14 : fr13 14 = (vB (decide (x13 < x12))) := (congrFun hf14 14).trans rfl
  clear hf14
  refine thenQ.n (W.seq ?_)
  rcases if_some hr with ⟨hc15, hr⟩ | ⟨hc45, hr⟩
  ·refine W.condT h14 hc15 (W.skip ?_)
   refine thenQ.n (W.seq ?_)
   refine W.block ?_
   refine W.seq (W.region ?_)
   refine sx rfl (pMove (v := (vI x13)) rfl h13) ?_
   obtain ⟨y16, hy16, hr⟩ := bind_some hr
   refine SeqW.consX rfl (kIdxR (T := TWagon) (xs := x11) (n := x13) rfl Try.underlying24 Try.type36 rfl h11 h13 s11 hy16 ?_)
   intro B17 f18 cs19 hd20 hc21
   obtain rfl := hd20
   refine SeqW.consX rfl (kLoadA rfl Try.underlying36 rfl Try.type36 rfl rfl (st.loads hc21) ?_)
   refine SeqW.consX rfl (kAlloc rfl Try.type36 rfl rfl rfl [(str []), (vI 0), (vI 0), (vI 0), (vI 0), (vI 0), (vB false), (str [])] rfl st ?_)
   intro B23 m24  st X25 sm26 hap27
   refine sx rfl (pAssign (v := (vI x13)) rfl rfl) ?_
   refine SeqW.consX rfl (kPut (off := 0) (w := (Value.agg [(str y16.number), (vI y16.length), (vI y16.axles), (vI y16.mass), (vI y16.brake), (vI y16.goods), (vB y16.gentle), (str y16.dest)].toArray)) (new := [(str y16.number), (vI y16.length), (vI y16.axles), (vI y16.mass), (vI y16.brake), (vI y16.goods), (vB y16.gentle), (str y16.dest)]) rfl Try.type36 rfl rfl rfl rfl rfl X25 rfl [(str y16.number), (vI y16.length), (vI y16.axles), (vI y16.mass), (vI y16.brake), (vI y16.goods), (vB y16.gentle), (str y16.dest)] rfl st ?_)
   intro m29 st X25 sm30
   refine SeqW.done fun fr31 hf32 => ?_
   have h1 := (congrFun hf32 1).trans h1
   have h2 := (congrFun hf32 2).trans h2
   have h7 := (congrFun hf32 7).trans h7
   have h8 : fr31 8 = (vI x13) := (congrFun hf32 8).trans rfl
   have h9 : fr31 9 = (vP B23) := (congrFun hf32 9).trans rfl
   have h11 := (congrFun hf32 11).trans h11
   have h12 := (congrFun hf32 12).trans h12
   have h13 := (congrFun hf32 13).trans h13
   clear hf32
   refine thenQ.n (W.seq (W.region ?_))
   refine sx rfl (pMove (v := (vI x7)) rfl h7) ?_
   refine sx rfl (pMove (v := (Value.func (.func 45) #[] #[])) rfl h2) ?_
   refine SeqW.consX rfl (kLoadA rfl Try.underlying36 rfl Try.type36 rfl h9 X25.loads ?_)
   obtain ⟨y33, hy33, hr⟩ := bind_some hr
   refine SeqW.consX rfl (StepX.call (gCalleeV (args := #[(Value.agg [(str y16.number), (vI y16.length), (vI y16.axles), (vI y16.mass), (vI y16.brake), (vI y16.goods), (vB y16.gentle), (str y16.dest)].toArray)]) (caps := #[]) rfl rfl (args1 rfl) rfl) ((c_rulebook_train_place_3 (x0 := y16) (z := z) st.fz st.dead  hy33).mono ?_))
   rintro _ _ ⟨rfl, rfl⟩
   refine sx rfl (pAdd (k := .i64) (a := x7) (b := y33) rfl rfl rfl) ?_
   obtain ⟨y34, hy34, hr⟩ := lt_some hr
   refine sx rfl (pAssign rfl (congrArg (Value.int .i64) hy34)) ?_
   refine SeqW.done fun fr35 hf36 => ?_
   have h1 := (congrFun hf36 1).trans h1
   have h2 := (congrFun hf36 2).trans h2
   have h7 : fr35 7 = (vI y34) := (congrFun hf36 7).trans rfl
   have h8 := (congrFun hf36 8).trans h8
   have h11 := (congrFun hf36 11).trans h11
   have h12 := (congrFun hf36 12).trans h12
   have h13 := (congrFun hf36 13).trans h13
   clear hf36
   refine thenQ.n (W.seq (W.region ?_))
   refine sx rfl (pMove (v := (vI y34)) rfl h7) ?_
   refine sx rfl (pMove (v := (vI x1)) rfl h1) ?_
   refine sx rfl (pGtr (k := .i64) (a := y34) (b := x1) rfl rfl rfl) ?_
   refine SeqW.done fun fr37 hf38 => ?_
   have h1 := (congrFun hf38 1).trans h1
   have h2 := (congrFun hf38 2).trans h2
   have h7 := (congrFun hf38 7).trans h7
   have h8 := (congrFun hf38 8).trans h8
   have h11 := (congrFun hf38 11).trans h11
   have h12 := (congrFun hf38 12).trans h12
   have h13 := (congrFun hf38 13).trans h13
   have h25 : fr37 25 = (vB (decide (x1 < y34))) := (congrFun hf38 25).trans rfl
   clear hf38
   refine thenQ.n ?_
   rcases if_some hr with ⟨hc39, hr⟩ | ⟨hc42, hr⟩
   ·refine W.condT h25 hc39 (W.seq (W.region ?_))
    refine sx rfl (pMove (v := (vI x13)) rfl h8) ?_
    refine sx rfl (pAssign (v := (vI x13)) rfl rfl) ?_
    refine SeqW.done fun fr40 hf41 => ?_
    have h6 : fr40 6 = (vI x13) := (congrFun hf41 6).trans rfl
    clear hf41
    refine thenQ.n ?_
    refine W.ret ?_
    refine blockQ.r ?_
    refine thenQ.r ?_
    refine thenQ.r ?_
    obtain rfl := Option.some.inj hr
    exact ⟨z, hz, st, .inr ⟨_, rfl, rfl, h6, trivial⟩⟩
   ·refine W.condF h25 hc42 (W.skip ?_)
    refine blockQ.n ?_
    refine thenQ.n (W.region ?_)
    refine sx rfl (pAdd (k := .i64) (a := x13) (b := 1) rfl h13 rfl) ?_
    refine sx rfl (pMove (v := (vI (IntKind.wrap .i64 (x13 + 1)))) rfl rfl) ?_
    refine SeqW.done fun fr43 hf44 => ?_
    have h1 := (congrFun hf44 1).trans h1
    have h2 := (congrFun hf44 2).trans h2
    have h7 := (congrFun hf44 7).trans h7
    have h11 := (congrFun hf44 11).trans h11
    have h12 := (congrFun hf44 12).trans h12
    have h13 : fr43 13 = (vI (IntKind.wrap .i64 (x13 + 1))) := (congrFun hf44 13).trans rfl
    clear hf44
    refine thenQ.n ?_
    exact ih hz st h1 h2 h7 h11 s11 h12 h13 hr
  ·refine W.condF h14 hc45 ?_
   refine W.exit ?_
   refine thenQ.x ?_
   refine thenQ.x ?_
   obtain rfl := Option.some.inj hr
   exact ⟨z, hz, st, .inl ⟨_, rfl, rfl, trivial⟩⟩

theorem u_train_beyond__rulebook_train_place_3 {N : Nat}  {z0 z : Nat → Blk} {e m : Mem} {k : Option Nat} {fr : Nat → Value} {x0 : Train} {x1 : Int} {v0_0 : Value} {v0_1 : Value} (hz : Zx e.next z0 z) (st : St z e m k) (h0 : fr 0 = (Value.agg [v0_0, v0_1, (vI x0.total.length), (vI x0.total.axles), (vI x0.total.mass), (vI x0.total.braked), (vI x0.total.percent), (vI x0.total.required), (vI x0.total.missing)].toArray)) (s0_0 : SlR TWagon z x0.l v0_0) (s0_1 : SlR (TInt 3 .i64) z x0.off v0_1) (h1 : fr 1 = (vI x1)) (h2 : fr 2 = (Value.func (.func 45) #[] #[])) {r : Int} (hr : train_beyond__rulebook_train_place_3 N x0 x1 = some r) : W Try.prog (sub (bodyOf Try.f42) []) (fun ex fr' m' => ∃ z', Zx e.next z0 z' ∧ St z' e m' k ∧ (ex = .normal ∨ ex = .ret) ∧ fr' 6 = (vI r) ∧ True) fr m := by
 unfold train_beyond__rulebook_train_place_3 at hr
 refine W.seq (W.region ?_)
 refine SeqW.consX rfl (kBox (v := (Value.agg [v0_0, v0_1, (vI x0.total.length), (vI x0.total.axles), (vI x0.total.mass), (vI x0.total.braked), (vI x0.total.percent), (vI x0.total.required), (vI x0.total.missing)].toArray)) rfl Try.type63 h0 rfl [v0_0, v0_1, (vI x0.total.length), (vI x0.total.axles), (vI x0.total.mass), (vI x0.total.braked), (vI x0.total.percent), (vI x0.total.required), (vI x0.total.missing)] rfl rfl st ?_)
 intro B1 m2  st X3 sm4 hap5
 refine sx rfl (pAssign (v := (vI 0)) rfl rfl) ?_
 refine SeqW.done fun fr7 hf8 => ?_
 have h1 := (congrFun hf8 1).trans h1
 have h2 := (congrFun hf8 2).trans h2
 have h3 : fr7 3 = (vP B1) := (congrFun hf8 3).trans rfl
 clear hf8
 refine thenQ.n (W.seq (W.region ?_))
 refine sx rfl (pAssign (v := (vI 0)) rfl rfl) ?_
 refine SeqW.done fun fr9 hf10 => ?_
 have h1 := (congrFun hf10 1).trans h1
 have h2 := (congrFun hf10 2).trans h2
 have h3 := (congrFun hf10 3).trans h3
 have h7 : fr9 7 = (vI 0) := (congrFun hf10 7).trans rfl
 clear hf10
 refine thenQ.n (W.seq ?_)
 refine W.seq (W.region ?_)
 refine SeqW.consX rfl (kField rfl Try.underlying63 rfl Try.type24 rfl h3 rfl ?_)
 refine SeqW.consX rfl (kLoad rfl Try.underlying24 rfl rfl (X3.load (v := v0_0) rfl) ?_)
 refine sx rfl (pLenR (xs := x0.l) rfl Try.underlying24 rfl s0_0) ?_
 refine sx rfl (pMove (v := (vI 0)) rfl rfl) ?_
 refine SeqW.done fun fr11 hf12 => ?_
 have h1 := (congrFun hf12 1).trans h1
 have h2 := (congrFun hf12 2).trans h2
 have h7 := (congrFun hf12 7).trans h7
 have h11 : fr11 11 = v0_0 := (congrFun hf12 11).trans rfl
 have h12 : fr11 12 = (vI (x0.l.length : Int)) := (congrFun hf12 12).trans rfl
 have h13 : fr11 13 = (vI 0) := (congrFun hf12 13).trans rfl
 clear hf12
 refine thenQ.n ?_
 refine W.block ?_
 obtain ⟨y46, hy46, hr⟩ := bind_some hr
 refine W.keep (u_train_beyond__rulebook_train_place_3_0 _ (Zx.refl _) st h1 h2 h7 h11 s0_0 h12 h13 hy46) ?_
 rintro ex52 fr47 m48 hk50 ⟨z49, hz51, st, ⟨y53, rfl, rfl, -⟩ | ⟨y56, rfl, rfl, h6, -⟩⟩
 ·dsimp only at hr
  replace hz := hz.trans hz51
  clear hk50
  refine blockQ.hit ?_
  refine thenQ.n (W.seq (W.region ?_))
  refine sx rfl (pAssign (v := (vI (-1))) rfl rfl) ?_
  refine SeqW.done fun fr54 hf55 => ?_
  have h6 : fr54 6 = (vI (-1)) := (congrFun hf55 6).trans rfl
  clear hf55
  refine thenQ.n ?_
  refine W.ret ?_
  obtain rfl := Option.some.inj hr
  exact ⟨z49, hz, st, .inr rfl, h6, trivial⟩
 ·dsimp only at hr
  replace hz := hz.trans hz51
  clear hk50
  refine blockQ.r ?_
  refine thenQ.r ?_
  obtain rfl := Option.some.inj hr
  exact ⟨z49, hz, st, .inr rfl, h6, trivial⟩

theorem c_train_beyond__rulebook_train_place_3 {N : Nat} {z : Nat → Blk} {m : Mem} {x0 : Train} {x1 : Int} {v0_0 : Value} {v0_1 : Value} (fz : Fz z m) (hd : ∀ b, m.next ≤ b → m.blk b = .dead) (s0_0 : SlR TWagon z x0.l v0_0) (s0_1 : SlR (TInt 3 .i64) z x0.off v0_1) {r : Int} (hr : train_beyond__rulebook_train_place_3 N x0 x1 = some r) : CallW Try.prog 42 #[(Value.agg [v0_0, v0_1, (vI x0.total.length), (vI x0.total.axles), (vI x0.total.mass), (vI x0.total.braked), (vI x0.total.percent), (vI x0.total.required), (vI x0.total.missing)].toArray), (vI x1), (Value.func (.func 45) #[] #[])] m fun v m' => v = (vI r) ∧ m' = m := by
 refine CallW.flat Try.func42 rfl (by kernel_rfl) (Nat.le_of_ble_eq_true rfl) rfl (z := z) (fun fr hf => ?_)
 have h0 : fr 0 = _ := hf 0 _ rfl
 have h1 : fr 1 = _ := hf 1 _ rfl
 have h2 : fr 2 = _ := hf 2 _ rfl
 refine (u_train_beyond__rulebook_train_place_3 (k := none) (Zx.refl _) (St.start fz hd) h0 s0_0 s0_1 h1 h2 hr).mono ?_
 rintro ex fr' m' ⟨z', hz, st, he, h6, -⟩
 exact ⟨he, z', st, [(vI r)], ⟨h6.symm, trivial⟩, .inl rfl, rfl⟩

/-! ### (humpyard/rulebook.train).apart -/

theorem u_train_apart_1 {N : Nat}  {z0 z : Nat → Blk} {e m : Mem} {k : Option Nat} {fr : Nat → Value} {x2 : Int} {x4 : Rule} {x7 : Int} {x8 : Int} {x9 : Int} {x3 : Train} {v3_0 : Value} {v3_1 : Value} {b3 : Nat} {b4 : Nat} (hz : Zx e.next z0 z) (st : St z e m k) (h2 : fr 2 = (vI x2)) (h3 : fr 3 = (vP b3)) (s3_0 : SlR TWagon z x3.l v3_0) (s3_1 : SlR (TInt 3 .i64) z x3.off v3_1) (bx3 : Bx z e m k b3 [v3_0, v3_1, (vI x3.total.length), (vI x3.total.axles), (vI x3.total.mass), (vI x3.total.braked), (vI x3.total.percent), (vI x3.total.required), (vI x3.total.missing)] 63) (h4 : fr 4 = (vP b4)) (bx4 : Bx z e m k b4 [(vI x4.number), (vI x4.kind), (vI x4.a), (vI x4.b), (vI x4.c)] 32) (h7 : fr 7 = (vI x7)) (h8 : fr 8 = (vI x8)) (h9 : fr 9 = (vI x9)) (ao3_o4 : Ap (some b3) (some b4)) {r : Bool} (hr : train_apart_1 N x2 x4 x7 x8 x9 = some r) : W Try.prog (sub (bodyOf Try.f49) [1, 0, 1, 0, 0, 1, 1, 0, 0, 1, 1, 0]) (fun ex fr' m' => ∃ z', Zx e.next z0 z' ∧ St z' e m' k ∧ ex = AExit.normal ∧ fr' 56 = (vB r) ∧ Bx z' e m' k b3 [v3_0, v3_1, (vI x3.total.length), (vI x3.total.axles), (vI x3.total.mass), (vI x3.total.braked), (vI x3.total.percent), (vI x3.total.required), (vI x3.total.missing)] 63 ∧ Bx z' e m' k b4 [(vI x4.number), (vI x4.kind), (vI x4.a), (vI x4.b), (vI x4.c)] 32 ∧ Ap (some b3) (some b4) ∧ True) fr m := by
 unfold train_apart_1 at hr
 refine W.region ?_
 refine sx rfl (pMove (v := (vI x2)) rfl h2) ?_
 refine sx rfl (pMove (v := (vI x7)) rfl h7) ?_
 refine sx rfl (pSub (k := .i64) (a := x2) (b := x7) rfl rfl rfl) ?_
 refine sx rfl (pSub (k := .i64) (a := (IntKind.wrap .i64 (x2 - x7))) (b := 1) rfl rfl rfl) ?_
 refine SeqW.consX rfl (kField rfl Try.underlying32 rfl Try.type3 rfl h4 rfl ?_)
 refine SeqW.consX rfl (kLoad rfl Try.underlying3 rfl rfl (bx4.load (v := (vI x4.c)) rfl) ?_)
 refine sx rfl (pLss (k := .i64) (a := (IntKind.wrap .i64 ((IntKind.wrap .i64 (x2 - x7)) - 1))) (b := x4.c) rfl rfl rfl) ?_
 refine sx rfl (pMove (v := (vB (decide ((IntKind.wrap .i64 ((IntKind.wrap .i64 (x2 - x7)) - 1)) < x4.c)))) rfl rfl) ?_
 rcases if_some hr with ⟨hc39, hr⟩ | ⟨hc58, hr⟩
 ·refine SeqW.consG rfl rfl rfl hc39 (StepX.pure (pMove (v := (vI x8)) rfl h8) ?_)
  refine SeqW.consG rfl rfl rfl hc39 (kField rfl Try.underlying32 rfl Try.type3 rfl h4 rfl ?_)
  refine SeqW.consG rfl rfl rfl hc39 (kLoad rfl Try.underlying3 rfl rfl (bx4.load (v := (vI x4.a)) rfl) ?_)
  refine SeqW.consG rfl rfl rfl hc39 (StepX.pure (pEql (k := .i64) (a := x8) (b := x4.a) rfl rfl rfl) ?_)
  refine SeqW.consG rfl rfl rfl hc39 (StepX.pure (pMove (v := (vB (x8 == x4.a))) rfl rfl) ?_)
  rcases if_some hr with ⟨hc40, hr⟩ | ⟨hc51, hr⟩
  ·refine SeqW.consG rfl rfl rfl hc40 (StepX.pure (pMove (v := (vI x9)) rfl h9) ?_)
   refine SeqW.consG rfl rfl rfl hc40 (kField rfl Try.underlying32 rfl Try.type3 rfl h4 rfl ?_)
   refine SeqW.consG rfl rfl rfl hc40 (kLoad rfl Try.underlying3 rfl rfl (bx4.load (v := (vI x4.b)) rfl) ?_)
   refine SeqW.consG rfl rfl rfl hc40 (StepX.pure (pEql (k := .i64) (a := x9) (b := x4.b) rfl rfl rfl) ?_)
   refine SeqW.consG rfl rfl rfl hc39 (StepX.pure (pPick (t := true) (v := (vB (x9 == x4.b))) rfl ((congrArg vB hc40)) rfl) ?_)
   refine SeqW.consG rfl rfl rfl hc39 (StepX.pure (pMove (v := (vB (x9 == x4.b))) rfl rfl) ?_)
   rcases if_some hr with ⟨hc41, hr⟩ | ⟨hc44, hr⟩
   ·refine kx rfl rfl rfl hc41 ?_
    iterate 4 refine kx rfl rfl rfl hc41 ?_
    refine SeqW.skipU rfl rfl rfl ?_
    refine SeqW.skipU rfl rfl rfl ?_
    refine SeqW.skipU rfl rfl rfl ?_
    refine SeqW.skipU rfl rfl rfl ?_
    refine kx rfl rfl rfl hc41 ?_
    refine SeqW.consG rfl rfl rfl hc39 (StepX.pure (pPick (t := true) (v := (vB true)) rfl ((congrArg vB hc41)) rfl) ?_)
    refine sx rfl (pPick (t := true) (v := (vB true)) rfl ((congrArg vB hc39)) rfl) ?_
    refine SeqW.done fun fr42 hf43 => ?_
    have h2 := (congrFun hf43 2).trans h2
    have h3 := (congrFun hf43 3).trans h3
    have h4 := (congrFun hf43 4).trans h4
    have h56 : fr42 56 = (vB true) := (congrFun hf43 56).trans rfl
    clear hf43
    obtain rfl := Option.some.inj hr
    exact ⟨z, hz, st, rfl, h56, bx3, bx4, ao3_o4, trivial⟩
   ·refine SeqW.consG rfl rfl rfl hc44 (StepX.pure (pMove (v := (vI x8)) rfl h8) ?_)
    refine SeqW.consG rfl rfl rfl hc44 (kField rfl Try.underlying32 rfl Try.type3 rfl h4 rfl ?_)
    refine SeqW.consG rfl rfl rfl hc44 (kLoad rfl Try.underlying3 rfl rfl (bx4.load (v := (vI x4.b)) rfl) ?_)
    refine SeqW.consG rfl rfl rfl hc44 (StepX.pure (pEql (k := .i64) (a := x8) (b := x4.b) rfl rfl rfl) ?_)
    refine SeqW.consG rfl rfl rfl hc44 (StepX.pure (pMove (v := (vB (x8 == x4.b))) rfl rfl) ?_)
    rcases if_some hr with ⟨hc45, hr⟩ | ⟨hc48, hr⟩
    ·refine SeqW.consG rfl rfl rfl hc45 (StepX.pure (pMove (v := (vI x9)) rfl h9) ?_)
     refine SeqW.consG rfl rfl rfl hc45 (kField rfl Try.underlying32 rfl Try.type3 rfl h4 rfl ?_)
     refine SeqW.consG rfl rfl rfl hc45 (kLoad rfl Try.underlying3 rfl rfl (bx4.load (v := (vI x4.a)) rfl) ?_)
     refine SeqW.consG rfl rfl rfl hc45 (StepX.pure (pEql (k := .i64) (a := x9) (b := x4.a) rfl rfl rfl) ?_)
     refine SeqW.consG rfl rfl rfl hc44 (StepX.pure (pPick (t := true) (v := (vB (x9 == x4.a))) rfl ((congrArg vB hc45)) rfl) ?_)
     refine SeqW.consG rfl rfl rfl hc39 (StepX.pure (pPick (t := false) (v := (vB (x9 == x4.a))) rfl ((congrArg vB hc44)) rfl) ?_)
     refine sx rfl (pPick (t := true) (v := (vB (x9 == x4.a))) rfl ((congrArg vB hc39)) rfl) ?_
     refine SeqW.done fun fr46 hf47 => ?_
     have h2 := (congrFun hf47 2).trans h2
     have h3 := (congrFun hf47 3).trans h3
     have h4 := (congrFun hf47 4).trans h4
     have h56 : fr46 56 = (vB (x9 == x4.a)) := (congrFun hf47 56).trans rfl
     clear hf47
     obtain rfl := Option.some.inj hr
     exact ⟨z, hz, st, rfl, h56, bx3, bx4, ao3_o4, trivial⟩
    ·refine kx rfl rfl rfl hc48 ?_
     iterate 3 refine kx rfl rfl rfl hc48 ?_
     refine SeqW.consG rfl rfl rfl hc44 (StepX.pure (pPick (t := false) (v := (vB false)) rfl ((congrArg vB hc48)) rfl) ?_)
     refine SeqW.consG rfl rfl rfl hc39 (StepX.pure (pPick (t := false) (v := (vB false)) rfl ((congrArg vB hc44)) rfl) ?_)
     refine sx rfl (pPick (t := true) (v := (vB false)) rfl ((congrArg vB hc39)) rfl) ?_
     refine SeqW.done fun fr49 hf50 => ?_
     have h2 := (congrFun hf50 2).trans h2
     have h3 := (congrFun hf50 3).trans h3
     have h4 := (congrFun hf50 4).trans h4
     have h56 : fr49 56 = (vB false) := (congrFun hf50 56).trans rfl
     clear hf50
     obtain rfl := Option.some.inj hr
     exact ⟨z, hz, st, rfl, h56, bx3, bx4, ao3_o4, trivial⟩
  ·refine kx rfl rfl rfl hc51 ?_
   iterate 3 refine kx rfl rfl rfl hc51 ?_
   refine SeqW.consG rfl rfl rfl hc39 (StepX.pure (pPick (t := false) (v := (vB false)) rfl ((congrArg vB hc51)) rfl) ?_)
   refine SeqW.consG rfl rfl rfl hc39 (StepX.pure (pMove (v := (vB false)) rfl rfl) ?_)
   refine SeqW.consG rfl rfl rfl rfl (StepX.pure (pMove (v := (vI x8)) rfl h8) ?_)
   refine SeqW.consG rfl rfl rfl rfl (kField rfl Try.underlying32 rfl Try.type3 rfl h4 rfl ?_)
   refine SeqW.consG rfl rfl rfl rfl (kLoad rfl Try.underlying3 rfl rfl (bx4.load (v := (vI x4.b)) rfl) ?_)
   refine SeqW.consG rfl rfl rfl rfl (StepX.pure (pEql (k := .i64) (a := x8) (b := x4.b) rfl rfl rfl) ?_)
   refine SeqW.consG rfl rfl rfl rfl (StepX.pure (pMove (v := (vB (x8 == x4.b))) rfl rfl) ?_)
   rcases if_some hr with ⟨hc52, hr⟩ | ⟨hc55, hr⟩
   ·refine SeqW.consG rfl rfl rfl hc52 (StepX.pure (pMove (v := (vI x9)) rfl h9) ?_)
    refine SeqW.consG rfl rfl rfl hc52 (kField rfl Try.underlying32 rfl Try.type3 rfl h4 rfl ?_)
    refine SeqW.consG rfl rfl rfl hc52 (kLoad rfl Try.underlying3 rfl rfl (bx4.load (v := (vI x4.a)) rfl) ?_)
    refine SeqW.consG rfl rfl rfl hc52 (StepX.pure (pEql (k := .i64) (a := x9) (b := x4.a) rfl rfl rfl) ?_)
    refine SeqW.consG rfl rfl rfl rfl (StepX.pure (pPick (t := true) (v := (vB (x9 == x4.a))) rfl ((congrArg vB hc52)) rfl) ?_)
    refine SeqW.consG rfl rfl rfl hc39 (StepX.pure (pPick (t := false) (v := (vB (x9 == x4.a))) rfl ((congrArg vB (rfl : false = false))) rfl) ?_)
    refine sx rfl (pPick (t := true) (v := (vB (x9 == x4.a))) rfl ((congrArg vB hc39)) rfl) ?_
    refine SeqW.done fun fr53 hf54 => ?_
    have h2 := (congrFun hf54 2).trans h2
    have h3 := (congrFun hf54 3).trans h3
    have h4 := (congrFun hf54 4).trans h4
    have h56 : fr53 56 = (vB (x9 == x4.a)) := (congrFun hf54 56).trans rfl
    clear hf54
    obtain rfl := Option.some.inj hr
    exact ⟨z, hz, st, rfl, h56, bx3, bx4, ao3_o4, trivial⟩
   ·refine kx rfl rfl rfl hc55 ?_
    iterate 3 refine kx rfl rfl rfl hc55 ?_
    refine SeqW.consG rfl rfl rfl rfl (StepX.pure (pPick (t := false) (v := (vB false)) rfl ((congrArg vB hc55)) rfl) ?_)
    refine SeqW.consG rfl rfl rfl hc39 (StepX.pure (pPick (t := false) (v := (vB false)) rfl ((congrArg vB (rfl : false = false))) rfl) ?_)
    refine sx rfl (pPick (t := true) (v := (vB false)) rfl ((congrArg vB hc39)) rfl) ?_
    refine SeqW.done fun fr56 hf57 => ?_
    have h2 := (congrFun hf57 2).trans h2
    have h3 := (congrFun hf57 3).trans h3
    have h4 := (congrFun hf57 4).trans h4
    have h56 : fr56 56 = (vB false) := (congrFun hf57 56).trans rfl
    clear hf57
    obtain rfl := Option.some.inj hr
    exact ⟨z, hz, st, rfl, h56, bx3, bx4, ao3_o4, trivial⟩
 ·refine kx rfl rfl rfl hc58 ?_
  iterate 4 refine kx rfl rfl rfl hc58 ?_
  refine SeqW.skipU rfl rfl rfl ?_
  refine SeqW.skipU rfl rfl rfl ?_
  refine SeqW.skipU rfl rfl rfl ?_
  refine SeqW.skipU rfl rfl rfl ?_
  iterate 2 refine kx rfl rfl rfl hc58 ?_
  refine SeqW.skipU rfl rfl rfl ?_
  refine SeqW.skipU rfl rfl rfl ?_
  refine SeqW.skipU rfl rfl rfl ?_
  refine SeqW.skipU rfl rfl rfl ?_
  refine SeqW.skipU rfl rfl rfl ?_
  refine SeqW.skipU rfl rfl rfl ?_
  refine SeqW.skipU rfl rfl rfl ?_
  refine SeqW.skipU rfl rfl rfl ?_
  refine SeqW.skipU rfl rfl rfl ?_
  refine SeqW.skipU rfl rfl rfl ?_
  refine kx rfl rfl rfl hc58 ?_
  refine sx rfl (pPick (t := false) (v := (vB false)) rfl ((congrArg vB hc58)) rfl) ?_
  refine SeqW.done fun fr59 hf60 => ?_
  have h2 := (congrFun hf60 2).trans h2
  have h3 := (congrFun hf60 3).trans h3
  have h4 := (congrFun hf60 4).trans h4
  have h56 : fr59 56 = (vB false) := (congrFun hf60 56).trans rfl
  clear hf60
  obtain rfl := Option.some.inj hr
  exact ⟨z, hz, st, rfl, h56, bx3, bx4, ao3_o4, trivial⟩

theorem u_train_apart_0 : ∀ (n : Nat) {N : Nat}  {z0 z : Nat → Blk} {e m : Mem} {k : Option Nat} {fr : Nat → Value} {x2 : Int} {x3 : Train} {x4 : Rule} {x10 : Int} {x11 : Int} {v3_0 : Value} {v3_1 : Value} {b3 : Nat} {b4 : Nat} (hz : Zx e.next z0 z) (st : St z e m k) (h2 : fr 2 = (vI x2)) (h3 : fr 3 = (vP b3)) (s3_0 : SlR TWagon z x3.l v3_0) (s3_1 : SlR (TInt 3 .i64) z x3.off v3_1) (bx3 : Bx z e m k b3 [v3_0, v3_1, (vI x3.total.length), (vI x3.total.axles), (vI x3.total.mass), (vI x3.total.braked), (vI x3.total.percent), (vI x3.total.required), (vI x3.total.missing)] 63) (h4 : fr 4 = (vP b4)) (bx4 : Bx z e m k b4 [(vI x4.number), (vI x4.kind), (vI x4.a), (vI x4.b), (vI x4.c)] 32) (h10 : fr 10 = (vI x10)) (h11 : fr 11 = (vI x11)) (ao3_o4 : Ap (some b3) (some b4)) {r : Sum (Unit) (Bool)} (hr : train_apart_0 N x2 x3 x4 x10 n x11 = some r), W Try.prog (sub (bodyOf Try.f49) [1, 0, 1, 0]) (fun ex fr' m' => ∃ z', Zx e.next z0 z' ∧ St z' e m' k ∧ ((∃ q, r = Sum.inl q ∧ ex = AExit.exit 0 ∧ True) ∨ (∃ q, r = Sum.inr q ∧ ex = AExit.ret ∧ fr' 6 = (vB q) ∧ True))) fr m := by
 intro n
 induction n with
 | zero => intro N z0 z e m k fr x2 x3 x4 x10 x11 v3_0 v3_1 b3 b4 hz st h2 h3 s3_0 s3_1 bx3 h4 bx4 h10 h11 ao3_o4 r hr; cases (show (none : Option _) = some r from hr)
 | succ n ih =>
  intro N z0 z e m k fr x2 x3 x4 x10 x11 v3_0 v3_1 b3 b4 hz st h2 h3 s3_0 s3_1 bx3 h4 bx4 h10 h11 ao3_o4 r hr
  unfold train_apart_0 at hr
  refine W.loop1 ?_
  refine W.seq (W.region ?_)
  refine sx rfl (pLss (k := .i64) (a := x11) (b := x10) rfl h11 h10) ?_
  refine SeqW.done fun fr18 hf19 => ?_
  have h2 := (congrFun hf19 2).trans h2
  have h3 := (congrFun hf19 3).trans h3
  have h4 := (congrFun hf19 4).trans h4
  have h10 := (congrFun hf19 10).trans h10
  have h11 := (congrFun hf19 11).trans h11
  have h12 : fr18 12 = (vB (decide (x11 < x10))) := (congrFun hf19 12).trans rfl
  clear hf19
  refine thenQ.n (W.seq ?_)
  rcases if_some hr with ⟨hc20, hr⟩ | ⟨hc77, hr⟩
  ·refine W.condT h12 hc20 (W.skip ?_)
   refine thenQ.n (W.seq ?_)
   refine W.block ?_
   refine W.seq (W.region ?_)
   refine sx rfl (pMove (v := (vI x11)) rfl h11) ?_
   refine sx rfl (pAssign (v := (vI x11)) rfl rfl) ?_
   refine SeqW.done fun fr21 hf22 => ?_
   have h2 := (congrFun hf22 2).trans h2
   have h3 := (congrFun hf22 3).trans h3
   have h4 := (congrFun hf22 4).trans h4
   have h7 : fr21 7 = (vI x11) := (congrFun hf22 7).trans rfl
   have h10 := (congrFun hf22 10).trans h10
   have h11 := (congrFun hf22 11).trans h11
   clear hf22
   refine thenQ.n (W.seq ?_)
   refine W.calm (by decide) ?_
   refine SeqW.consX rfl (kField rfl Try.underlying63 rfl Try.type24 rfl h3 rfl ?_)
   refine SeqW.consX rfl (kLoad rfl Try.underlying24 rfl rfl (bx3.load (v := v3_0) rfl) ?_)
   refine sx rfl (pMove (v := (vI x11)) rfl h7) ?_
   obtain ⟨y23, hy23, hr⟩ := bind_some hr
   refine SeqW.consX rfl (kIdxR (T := TWagon) (xs := x3.l) (n := x11) rfl Try.underlying24 Try.type36 rfl rfl rfl s3_0 hy23 ?_)
   intro B24 f25 cs26 hd27 hc28
   obtain rfl := hd27
   refine SeqW.consX rfl (kField rfl Try.underlying36 rfl Try.type3 rfl rfl rfl ?_)
   refine SeqW.consX rfl (kLoad (v := (vI y23.goods)) rfl Try.underlying3 rfl rfl (ldz_load st.fz (hc28 5 _ rfl)) ?_)
   refine SeqW.consX rfl (kField rfl Try.underlying63 rfl Try.type24 rfl h3 rfl ?_)
   refine SeqW.consX rfl (kLoad rfl Try.underlying24 rfl rfl (bx3.load (v := v3_0) rfl) ?_)
   refine sx rfl (pMove (v := (vI x2)) rfl h2) ?_
   obtain ⟨y30, hy30, hr⟩ := bind_some hr
   refine SeqW.consX rfl (kIdxR (T := TWagon) (xs := x3.l) (n := x2) rfl Try.underlying24 Try.type36 rfl rfl rfl s3_0 hy30 ?_)
   intro B31 f32 cs33 hd34 hc35
   obtain rfl := hd34
   refine SeqW.consX rfl (kField rfl Try.underlying36 rfl Try.type3 rfl rfl rfl ?_)
   refine SeqW.consX rfl (kLoad (v := (vI y30.goods)) rfl Try.underlying3 rfl rfl (ldz_load st.fz (hc35 5 _ rfl)) ?_)
   refine sx rfl (pAssign (v := (vI y23.goods)) rfl rfl) ?_
   refine sx rfl (pAssign (v := (vI y30.goods)) rfl rfl) ?_
   refine SeqW.done fun fr37 hf38 => ?_
   have h2 := (congrFun hf38 2).trans h2
   have h3 := (congrFun hf38 3).trans h3
   have h4 := (congrFun hf38 4).trans h4
   have h7 := (congrFun hf38 7).trans h7
   have h8 : fr37 8 = (vI y23.goods) := (congrFun hf38 8).trans rfl
   have h9 : fr37 9 = (vI y30.goods) := (congrFun hf38 9).trans rfl
   have h10 := (congrFun hf38 10).trans h10
   have h11 := (congrFun hf38 11).trans h11
   clear hf38
   refine thenQ.n (W.seq ?_)
   obtain ⟨y61, hy61, hr⟩ := bind_some hr
   refine W.keep (u_train_apart_1 (x3 := x3) (x4 := x4) (Zx.refl _) st h2 h3 s3_0 s3_1 bx3 h4 bx4 h7 h8 h9 ao3_o4 hy61) ?_
   rintro ex67 fr62 m63 hk65 ⟨z64, hz66, st, rfl, h56, O68, O69, A70, -⟩
   replace s3_0 := s3_0.mono hz66.le
   replace s3_1 := s3_1.mono hz66.le
   have h2 := (hk65 2 rfl).trans h2
   have h3 := (hk65 3 rfl).trans h3
   have h4 := (hk65 4 rfl).trans h4
   have h10 := (hk65 10 rfl).trans h10
   have h11 := (hk65 11 rfl).trans h11
   replace hz := hz.trans hz66
   clear hk65
   refine thenQ.n ?_
   rcases if_some hr with ⟨hc71, hr⟩ | ⟨hc74, hr⟩
   ·refine W.condT h56 hc71 (W.seq (W.region ?_))
    refine sx rfl (pAssign (v := (vB true)) rfl rfl) ?_
    refine SeqW.done fun fr72 hf73 => ?_
    have h6 : fr72 6 = (vB true) := (congrFun hf73 6).trans rfl
    clear hf73
    refine thenQ.n ?_
    refine W.ret ?_
    refine blockQ.r ?_
    refine thenQ.r ?_
    refine thenQ.r ?_
    obtain rfl := Option.some.inj hr
    exact ⟨z64, hz, st, .inr ⟨_, rfl, rfl, h6, trivial⟩⟩
   ·refine W.condF h56 hc74 (W.skip ?_)
    refine blockQ.n ?_
    refine thenQ.n (W.region ?_)
    refine sx rfl (pAdd (k := .i64) (a := x11) (b := 1) rfl h11 rfl) ?_
    refine sx rfl (pMove (v := (vI (IntKind.wrap .i64 (x11 + 1)))) rfl rfl) ?_
    refine SeqW.done fun fr75 hf76 => ?_
    have h2 := (congrFun hf76 2).trans h2
    have h3 := (congrFun hf76 3).trans h3
    have h4 := (congrFun hf76 4).trans h4
    have h10 := (congrFun hf76 10).trans h10
    have h11 : fr75 11 = (vI (IntKind.wrap .i64 (x11 + 1))) := (congrFun hf76 11).trans rfl
    clear hf76
    refine thenQ.n ?_
    exact ih (x3 := x3) (x4 := x4) hz st h2 h3 s3_0 s3_1 O68 h4 O69 h10 h11 A70 hr
  ·refine W.condF h12 hc77 ?_
   refine W.exit ?_
   refine thenQ.x ?_
   refine thenQ.x ?_
   obtain rfl := Option.some.inj hr
   exact ⟨z, hz, st, .inl ⟨_, rfl, rfl, trivial⟩⟩

theorem u_train_apart {N : Nat}  {z0 z : Nat → Blk} {e m : Mem} {k : Option Nat} {fr : Nat → Value} {x0 : Train} {x1 : Rule} {x2 : Int} {v0_0 : Value} {v0_1 : Value} (hz : Zx e.next z0 z) (st : St z e m k) (h0 : fr 0 = (Value.agg [v0_0, v0_1, (vI x0.total.length), (vI x0.total.axles), (vI x0.total.mass), (vI x0.total.braked), (vI x0.total.percent), (vI x0.total.required), (vI x0.total.missing)].toArray)) (s0_0 : SlR TWagon z x0.l v0_0) (s0_1 : SlR (TInt 3 .i64) z x0.off v0_1) (h1 : fr 1 = (Value.agg [(vI x1.number), (vI x1.kind), (vI x1.a), (vI x1.b), (vI x1.c)].toArray)) (h2 : fr 2 = (vI x2)) {r : Bool} (hr : train_apart N x0 x1 x2 = some r) : W Try.prog (sub (bodyOf Try.f49) []) (fun ex fr' m' => ∃ z', Zx e.next z0 z' ∧ St z' e m' k ∧ (ex = .normal ∨ ex = .ret) ∧ fr' 6 = (vB r) ∧ True) fr m := by
 unfold train_apart at hr
 refine W.seq (W.region ?_)
 refine SeqW.consX rfl (kBox (v := (Value.agg [v0_0, v0_1, (vI x0.total.length), (vI x0.total.axles), (vI x0.total.mass), (vI x0.total.braked), (vI x0.total.percent), (vI x0.total.required), (vI x0.total.missing)].toArray)) rfl Try.type63 h0 rfl [v0_0, v0_1, (vI x0.total.length), (vI x0.total.axles), (vI x0.total.mass), (vI x0.total.braked), (vI x0.total.percent), (vI x0.total.required), (vI x0.total.missing)] rfl rfl st ?_)
 intro B1 m2  st X3 sm4 hap5
 refine SeqW.consX rfl (kBox (v := (Value.agg [(vI x1.number), (vI x1.kind), (vI x1.a), (vI x1.b), (vI x1.c)].toArray)) rfl Try.type32 h1 rfl [(vI x1.number), (vI x1.kind), (vI x1.a), (vI x1.b), (vI x1.c)] rfl rfl st ?_)
 intro B7 m8  st X9 sm10 hap11
 have A13 := hap11 _ X3.lt'
 replace X3 := X3.same sm10 Ap.none'
 refine sx rfl (pAssign (v := (vB false)) rfl rfl) ?_
 refine SeqW.done fun fr14 hf15 => ?_
 have h2 := (congrFun hf15 2).trans h2
 have h3 : fr14 3 = (vP B1) := (congrFun hf15 3).trans rfl
 have h4 : fr14 4 = (vP B7) := (congrFun hf15 4).trans rfl
 clear hf15
 refine thenQ.n (W.seq ?_)
 refine W.seq (W.region ?_)
 refine sx rfl (pMove (v := (vI x2)) rfl h2) ?_
 refine sx rfl (pMove (v := (vI 0)) rfl rfl) ?_
 refine SeqW.done fun fr16 hf17 => ?_
 have h2 := (congrFun hf17 2).trans h2
 have h3 := (congrFun hf17 3).trans h3
 have h4 := (congrFun hf17 4).trans h4
 have h10 : fr16 10 = (vI x2) := (congrFun hf17 10).trans rfl
 have h11 : fr16 11 = (vI 0) := (congrFun hf17 11).trans rfl
 clear hf17
 refine thenQ.n ?_
 refine W.block ?_
 obtain ⟨y78, hy78, hr⟩ := bind_some hr
 refine W.keep (u_train_apart_0 (x3 := x0) (x4 := x1) _ (Zx.refl _) st h2 h3 s0_0 s0_1 X3 h4 X9 h10 h11 A13 hy78) ?_
 rintro ex84 fr79 m80 hk82 ⟨z81, hz83, st, ⟨y85, rfl, rfl, -⟩ | ⟨y88, rfl, rfl, h6, -⟩⟩
 ·dsimp only at hr
  replace hz := hz.trans hz83
  clear hk82
  refine blockQ.hit ?_
  refine thenQ.n (W.seq (W.region ?_))
  refine sx rfl (pAssign (v := (vB false)) rfl rfl) ?_
  refine SeqW.done fun fr86 hf87 => ?_
  have h6 : fr86 6 = (vB false) := (congrFun hf87 6).trans rfl
  clear hf87
  refine thenQ.n ?_
  refine W.ret ?_
  obtain rfl := Option.some.inj hr
  exact ⟨z81, hz, st, .inr rfl, h6, trivial⟩
 ·dsimp only at hr
  replace hz := hz.trans hz83
  clear hk82
  refine blockQ.r ?_
  refine thenQ.r ?_
  obtain rfl := Option.some.inj hr
  exact ⟨z81, hz, st, .inr rfl, h6, trivial⟩

theorem c_train_apart {N : Nat} {z : Nat → Blk} {m : Mem} {x0 : Train} {x1 : Rule} {x2 : Int} {v0_0 : Value} {v0_1 : Value} (fz : Fz z m) (hd : ∀ b, m.next ≤ b → m.blk b = .dead) (s0_0 : SlR TWagon z x0.l v0_0) (s0_1 : SlR (TInt 3 .i64) z x0.off v0_1) {r : Bool} (hr : train_apart N x0 x1 x2 = some r) : CallW Try.prog 49 #[(Value.agg [v0_0, v0_1, (vI x0.total.length), (vI x0.total.axles), (vI x0.total.mass), (vI x0.total.braked), (vI x0.total.percent), (vI x0.total.required), (vI x0.total.missing)].toArray), (Value.agg [(vI x1.number), (vI x1.kind), (vI x1.a), (vI x1.b), (vI x1.c)].toArray), (vI x2)] m fun v m' => v = (vB r) ∧ m' = m := by
 refine CallW.flat Try.func49 rfl (by kernel_rfl) (Nat.le_of_ble_eq_true rfl) rfl (z := z) (fun fr hf => ?_)
 have h0 : fr 0 = _ := hf 0 _ rfl
 have h1 : fr 1 = _ := hf 1 _ rfl
 have h2 : fr 2 = _ := hf 2 _ rfl
 refine (u_train_apart (k := none) (Zx.refl _) (St.start fz hd) h0 s0_0 s0_1 h1 h2 hr).mono ?_
 rintro ex fr' m' ⟨z', hz, st, he, h6, -⟩
 exact ⟨he, z', st, [(vB r)], ⟨h6.symm, trivial⟩, .inl rfl, rfl⟩

/-! ### (humpyard/rulebook.train).place$4 -/

theorem u_rulebook_train_place_4 {N : Nat}  {z0 z : Nat → Blk} {e m : Mem} {k : Option Nat} {fr : Nat → Value} {x0 : Int} {x1 : Wagon} {x2 : Train} {x3 : Rule} {b2 : Nat} {f2 : Nat} {v2_0 : Value} {v2_1 : Value} {b3 : Nat} {f3 : Nat} (hz : Zx e.next z0 z) (st : St z e m k) (h0 : fr 0 = (vI x0)) (h1 : fr 1 = (Value.agg [(str x1.number), (vI x1.length), (vI x1.axles), (vI x1.mass), (vI x1.brake), (vI x1.goods), (vB x1.gentle), (str x1.dest)].toArray)) (h2 : fr 2 = (Value.pointer (some ⟨b2, f2, none⟩))) (s2_0 : SlR TWagon z x2.l v2_0) (s2_1 : SlR (TInt 3 .i64) z x2.off v2_1) (c2 : cellsAt z b2 f2 [v2_0, v2_1, (vI x2.total.length), (vI x2.total.axles), (vI x2.total.mass), (vI x2.total.braked), (vI x2.total.percent), (vI x2.total.required), (vI x2.total.missing)]) (h3 : fr 3 = (Value.pointer (some ⟨b3, f3, none⟩))) (c3 : cellsAt z b3 f3 [(vI x3.number), (vI x3.kind), (vI x3.a), (vI x3.b), (vI x3.c)]) {r : Bool} (hr : rulebook_train_place_4 N x0 x1 x2 x3 = some r) : W Try.prog (sub (bodyOf Try.f48) []) (fun ex fr' m' => ∃ z', Zx e.next z0 z' ∧ St z' e m' k ∧ (ex = .normal ∨ ex = .ret) ∧ fr' 6 = (vB r) ∧ True) fr m := by
 unfold rulebook_train_place_4 at hr
 refine W.seq (W.region ?_)
 refine SeqW.consX rfl (kBox (v := (Value.agg [(str x1.number), (vI x1.length), (vI x1.axles), (vI x1.mass), (vI x1.brake), (vI x1.goods), (vB x1.gentle), (str x1.dest)].toArray)) rfl Try.type36 h1 rfl [(str x1.number), (vI x1.length), (vI x1.axles), (vI x1.mass), (vI x1.brake), (vI x1.goods), (vB x1.gentle), (str x1.dest)] rfl rfl st ?_)
 intro B1 m2  st X3 sm4 hap5
 refine sx rfl (pAssign (v := (vB false)) rfl rfl) ?_
 refine SeqW.done fun fr7 hf8 => ?_
 have h0 := (congrFun hf8 0).trans h0
 have h2 := (congrFun hf8 2).trans h2
 have h3 := (congrFun hf8 3).trans h3
 clear hf8
 refine thenQ.n (W.seq (W.region ?_))
 refine SeqW.consX rfl (kLoadA rfl Try.underlying63 rfl Try.type63 rfl h2 (st.loads c2) ?_)
 refine SeqW.consX rfl (kLoadA rfl Try.underlying32 rfl Try.type32 rfl h3 (st.loads c3) ?_)
 refine sx rfl (pMove (v := (vI x0)) rfl h0) ?_
 obtain ⟨y9, hy9, hr⟩ := bind_some hr
 refine SeqW.consX rfl (StepX.call (gCallee rfl rfl (args3 rfl rfl rfl)) ((c_train_apart (x0 := x2) (x1 := x3) (z := z) st.fz st.dead s2_0 s2_1 hy9).mono ?_))
 rintro _ _ ⟨rfl, rfl⟩
 refine sx rfl (pAssign (v := (vB y9)) rfl rfl) ?_
 refine SeqW.done fun fr10 hf11 => ?_
 have h6 : fr10 6 = (vB y9) := (congrFun hf11 6).trans rfl
 clear hf11
 refine thenQ.n ?_
 refine W.ret ?_
 obtain rfl := Option.some.inj hr
 exact ⟨z, hz, st, .inr rfl, h6, trivial⟩

theorem c_rulebook_train_place_4 {N : Nat} {z : Nat → Blk} {m : Mem} {x0 : Int} {x1 : Wagon} {x2 : Train} {x3 : Rule} {b2 : Nat} {f2 : Nat} {v2_0 : Value} {v2_1 : Value} {b3 : Nat} {f3 : Nat} (fz : Fz z m) (hd : ∀ b, m.next ≤ b → m.blk b = .dead) (s2_0 : SlR TWagon z x2.l v2_0) (s2_1 : SlR (TInt 3 .i64) z x2.off v2_1) (c2 : cellsAt z b2 f2 [v2_0, v2_1, (vI x2.total.length), (vI x2.total.axles), (vI x2.total.mass), (vI x2.total.braked), (vI x2.total.percent), (vI x2.total.required), (vI x2.total.missing)]) (c3 : cellsAt z b3 f3 [(vI x3.number), (vI x3.kind), (vI x3.a), (vI x3.b), (vI x3.c)]) {r : Bool} (hr : rulebook_train_place_4 N x0 x1 x2 x3 = some r) : CallW Try.prog 48 #[(vI x0), (Value.agg [(str x1.number), (vI x1.length), (vI x1.axles), (vI x1.mass), (vI x1.brake), (vI x1.goods), (vB x1.gentle), (str x1.dest)].toArray), (Value.pointer (some ⟨b2, f2, none⟩)), (Value.pointer (some ⟨b3, f3, none⟩))] m fun v m' => v = (vB r) ∧ m' = m := by
 refine CallW.flat Try.func48 rfl (by kernel_rfl) (Nat.le_of_ble_eq_true rfl) rfl (z := z) (fun fr hf => ?_)
 have h0 : fr 0 = _ := hf 0 _ rfl
 have h1 : fr 1 = _ := hf 1 _ rfl
 have h2 : fr 2 = _ := hf 2 _ rfl
 have h3 : fr 3 = _ := hf 3 _ rfl
 refine (u_rulebook_train_place_4 (k := none) (Zx.refl _) (St.start fz hd) h0 h1 h2 s2_0 s2_1 c2 h3 c3 hr).mono ?_
 rintro ex fr' m' ⟨z', hz, st, he, h6, -⟩
 exact ⟨he, z', st, [(vB r)], ⟨h6.symm, trivial⟩, .inl rfl, rfl⟩

/-! ### (humpyard/rulebook.train).first -/

theorem u_train_first__rulebook_train_place_4_0 : ∀ (n : Nat) {N : Nat}  {z0 z : Nat → Blk} {e m : Mem} {k : Option Nat} {fr : Nat → Value} {x1 : Train × Rule} {x8 : List Wagon} {x9 : Int} {x10 : Int} {b1_0 : Nat} {f1_0 : Nat} {v1_0_0 : Value} {v1_0_1 : Value} {b1_1 : Nat} {f1_1 : Nat} {v8 : Value} (hz : Zx e.next z0 z) (st : St z e m k) (h1 : fr 1 = (Value.func (.func 48) #[] #[(Value.pointer (some ⟨b1_0, f1_0, none⟩)), (Value.pointer (some ⟨b1_1, f1_1, none⟩))])) (s1_0_0 : SlR TWagon z x1.1.l v1_0_0) (s1_0_1 : SlR (TInt 3 .i64) z x1.1.off v1_0_1) (c1_0 : cellsAt z b1_0 f1_0 [v1_0_0, v1_0_1, (vI x1.1.total.length), (vI x1.1.total.axles), (vI x1.1.total.mass), (vI x1.1.total.braked), (vI x1.1.total.percent), (vI x1.1.total.required), (vI x1.1.total.missing)]) (c1_1 : cellsAt z b1_1 f1_1 [(vI x1.2.number), (vI x1.2.kind), (vI x1.2.a), (vI x1.2.b), (vI x1.2.c)]) (h8 : fr 8 = v8) (s8 : SlR TWagon z x8 v8) (h9 : fr 9 = (vI x9)) (h10 : fr 10 = (vI x10)) {r : Sum (Unit) (Int)} (hr : train_first__rulebook_train_place_4_0 N x1 x8 x9 n x10 = some r), W Try.prog (sub (bodyOf Try.f47) [1, 0, 1, 0]) (fun ex fr' m' => ∃ z', Zx e.next z0 z' ∧ St z' e m' k ∧ ((∃ q, r = Sum.inl q ∧ ex = AExit.exit 0 ∧ True) ∨ (∃ q, r = Sum.inr q ∧ ex = AExit.ret ∧ fr' 4 = (vI q) ∧ True))) fr m := by
 intro n
 induction n with
 | zero => intro N z0 z e m k fr x1 x8 x9 x10 b1_0 f1_0 v1_0_0 v1_0_1 b1_1 f1_1 v8 hz st h1 s1_0_0 s1_0_1 c1_0 c1_1 h8 s8 h9 h10 r hr; cases (show (none : Option _) = some r from hr)
 | succ n ih =>
  intro N z0 z e m k fr x1 x8 x9 x10 b1_0 f1_0 v1_0_0 v1_0_1 b1_1 f1_1 v8 hz st h1 s1_0_0 s1_0_1 c1_0 c1_1 h8 s8 h9 h10 r hr
  unfold train_first__rulebook_train_place_4_0 at hr
  refine W.loop1 ?_
  refine W.seq (W.region ?_)
  refine sx rfl (pLss (k := .i64) (a := x10) (b := x9) rfl h10 h9) ?_
  refine SeqW.done fun fr11 hf12 => ?_
  have h1 := (congrFun hf12 1).trans h1
  have h8 := (congrFun hf12 8).trans h8
  have h9 := (congrFun hf12 9).trans h9
  have h10 := (congrFun hf12 10).trans h10
  have h11 : fr11 11 = (vB (decide (x10 < x9))) := (congrFun hf12 11).trans rfl
  clear hf12
  refine thenQ.n (W.seq ?_)
  rcases if_some hr with ⟨hc13, hr⟩ | ⟨hc40, hr⟩
  ·refine W.condT h11 hc13 (W.skip ?_)
   refine thenQ.n (W.seq ?_)
   refine W.block ?_
   refine W.seq (W.region ?_)
   refine sx rfl (pMove (v := (vI x10)) rfl h10) ?_
   obtain ⟨y14, hy14, hr⟩ := bind_some hr
   refine SeqW.consX rfl (kIdxR (T := TWagon) (xs := x8) (n := x10) rfl Try.underlying24 Try.type36 rfl h8 h10 s8 hy14 ?_)
   intro B15 f16 cs17 hd18 hc19
   obtain rfl := hd18
   refine SeqW.consX rfl (kLoadA rfl Try.underlying36 rfl Try.type36 rfl rfl (st.loads hc19) ?_)
   refine SeqW.consX rfl (kAlloc rfl Try.type36 rfl rfl rfl [(str []), (vI 0), (vI 0), (vI 0), (vI 0), (vI 0), (vB false), (str [])] rfl st ?_)
   intro B21 m22  st X23 sm24 hap25
   refine sx rfl (pAssign (v := (vI x10)) rfl rfl) ?_
   refine SeqW.consX rfl (kPut (off := 0) (w := (Value.agg [(str y14.number), (vI y14.length), (vI y14.axles), (vI y14.mass), (vI y14.brake), (vI y14.goods), (vB y14.gentle), (str y14.dest)].toArray)) (new := [(str y14.number), (vI y14.length), (vI y14.axles), (vI y14.mass), (vI y14.brake), (vI y14.goods), (vB y14.gentle), (str y14.dest)]) rfl Try.type36 rfl rfl rfl rfl rfl X23 rfl [(str y14.number), (vI y14.length), (vI y14.axles), (vI y14.mass), (vI y14.brake), (vI y14.goods), (vB y14.gentle), (str y14.dest)] rfl st ?_)
   intro m27 st X23 sm28
   refine SeqW.done fun fr29 hf30 => ?_
   have h1 := (congrFun hf30 1).trans h1
   have h5 : fr29 5 = (vI x10) := (congrFun hf30 5).trans rfl
   have h6 : fr29 6 = (vP B21) := (congrFun hf30 6).trans rfl
   have h8 := (congrFun hf30 8).trans h8
   have h9 := (congrFun hf30 9).trans h9
   have h10 := (congrFun hf30 10).trans h10
   clear hf30
   refine thenQ.n (W.seq (W.region ?_))
   refine sx rfl (pMove (v := (Value.func (.func 48) #[] #[(Value.pointer (some ⟨b1_0, f1_0, none⟩)), (Value.pointer (some ⟨b1_1, f1_1, none⟩))])) rfl h1) ?_
   refine sx rfl (pMove (v := (vI x10)) rfl h5) ?_
   refine SeqW.consX rfl (kLoadA rfl Try.underlying36 rfl Try.type36 rfl h6 X23.loads ?_)
   obtain ⟨y31, hy31, hr⟩ := bind_some hr
   refine SeqW.consX rfl (StepX.call (gCalleeV (args := #[(vI x10), (Value.agg [(str y14.number), (vI y14.length), (vI y14.axles), (vI y14.mass), (vI y14.brake), (vI y14.goods), (vB y14.gentle), (str y14.dest)].toArray)]) (caps := #[(Value.pointer (some ⟨b1_0, f1_0, none⟩)), (Value.pointer (some ⟨b1_1, f1_1, none⟩))]) rfl rfl (args2 rfl rfl) rfl) ((c_rulebook_train_place_4 (x1 := y14) (x2 := x1.1) (x3 := x1.2) (z := z) st.fz st.dead s1_0_0 s1_0_1 c1_0 c1_1 hy31).mono ?_))
   rintro _ _ ⟨rfl, rfl⟩
   refine SeqW.done fun fr32 hf33 => ?_
   have h1 := (congrFun hf33 1).trans h1
   have h5 := (congrFun hf33 5).trans h5
   have h8 := (congrFun hf33 8).trans h8
   have h9 := (congrFun hf33 9).trans h9
   have h10 := (congrFun hf33 10).trans h10
   have h18 : fr32 18 = (vB y31) := (congrFun hf33 18).trans rfl
   clear hf33
   refine thenQ.n ?_
   rcases if_some hr with ⟨hc34, hr⟩ | ⟨hc37, hr⟩
   ·refine W.condT h18 hc34 (W.seq (W.region ?_))
    refine sx rfl (pMove (v := (vI x10)) rfl h5) ?_
    refine sx rfl (pAssign (v := (vI x10)) rfl rfl) ?_
    refine SeqW.done fun fr35 hf36 => ?_
    have h4 : fr35 4 = (vI x10) := (congrFun hf36 4).trans rfl
    clear hf36
    refine thenQ.n ?_
    refine W.ret ?_
    refine blockQ.r ?_
    refine thenQ.r ?_
    refine thenQ.r ?_
    obtain rfl := Option.some.inj hr
    exact ⟨z, hz, st, .inr ⟨_, rfl, rfl, h4, trivial⟩⟩
   ·refine W.condF h18 hc37 (W.skip ?_)
    refine blockQ.n ?_
    refine thenQ.n (W.region ?_)
    refine sx rfl (pAdd (k := .i64) (a := x10) (b := 1) rfl h10 rfl) ?_
    refine sx rfl (pMove (v := (vI (IntKind.wrap .i64 (x10 + 1)))) rfl rfl) ?_
    refine SeqW.done fun fr38 hf39 => ?_
    have h1 := (congrFun hf39 1).trans h1
    have h8 := (congrFun hf39 8).trans h8
    have h9 := (congrFun hf39 9).trans h9
    have h10 : fr38 10 = (vI (IntKind.wrap .i64 (x10 + 1))) := (congrFun hf39 10).trans rfl
    clear hf39
    refine thenQ.n ?_
    exact ih (x1 := x1) hz st h1 s1_0_0 s1_0_1 c1_0 c1_1 h8 s8 h9 h10 hr
  ·refine W.condF h11 hc40 ?_
   refine W.exit ?_
   refine thenQ.x ?_
   refine thenQ.x ?_
   obtain rfl := Option.some.inj hr
   exact ⟨z, hz, st, .inl ⟨_, rfl, rfl, trivial⟩⟩

theorem u_train_first__rulebook_train_place_4 {N : Nat}  {z0 z : Nat → Blk} {e m : Mem} {k : Option Nat} {fr : Nat → Value} {x0 : Train} {x1 : Train × Rule} {v0_0 : Value} {v0_1 : Value} {b1_0 : Nat} {f1_0 : Nat} {v1_0_0 : Value} {v1_0_1 : Value} {b1_1 : Nat} {f1_1 : Nat} (hz : Zx e.next z0 z) (st : St z e m k) (h0 : fr 0 = (Value.agg [v0_0, v0_1, (vI x0.total.length), (vI x0.total.axles), (vI x0.total.mass), (vI x0.total.braked), (vI x0.total.percent), (vI x0.total.required), (vI x0.total.missing)].toArray)) (s0_0 : SlR TWagon z x0.l v0_0) (s0_1 : SlR (TInt 3 .i64) z x0.off v0_1) (h1 : fr 1 = (Value.func (.func 48) #[] #[(Value.pointer (some ⟨b1_0, f1_0, none⟩)), (Value.pointer (some ⟨b1_1, f1_1, none⟩))])) (s1_0_0 : SlR TWagon z x1.1.l v1_0_0) (s1_0_1 : SlR (TInt 3 .i64) z x1.1.off v1_0_1) (c1_0 : cellsAt z b1_0 f1_0 [v1_0_0, v1_0_1, (vI x1.1.total.length), (vI x1.1.total.axles), (vI x1.1.total.mass), (vI x1.1.total.braked), (vI x1.1.total.percent), (vI x1.1.total.required), (vI x1.1.total.missing)]) (c1_1 : cellsAt z b1_1 f1_1 [(vI x1.2.number), (vI x1.2.kind), (vI x1.2.a), (vI x1.2.b), (vI x1.2.c)]) {r : Int} (hr : train_first__rulebook_train_place_4 N x0 x1 = some r) : W Try.prog (sub (bodyOf Try.f47) []) (fun ex fr' m' => ∃ z', Zx e.next z0 z' ∧ St z' e m' k ∧ (ex = .normal ∨ ex = .ret) ∧ fr' 4 = (vI r) ∧ True) fr m := by
 unfold train_first__rulebook_train_place_4 at hr
 refine W.seq (W.region ?_)
 refine SeqW.consX rfl (kBox (v := (Value.agg [v0_0, v0_1, (vI x0.total.length), (vI x0.total.axles), (vI x0.total.mass), (vI x0.total.braked), (vI x0.total.percent), (vI x0.total.required), (vI x0.total.missing)].toArray)) rfl Try.type63 h0 rfl [v0_0, v0_1, (vI x0.total.length), (vI x0.total.axles), (vI x0.total.mass), (vI x0.total.braked), (vI x0.total.percent), (vI x0.total.required), (vI x0.total.missing)] rfl rfl st ?_)
 intro B1 m2  st X3 sm4 hap5
 refine sx rfl (pAssign (v := (vI 0)) rfl rfl) ?_
 refine SeqW.done fun fr7 hf8 => ?_
 have h1 := (congrFun hf8 1).trans h1
 have h2 : fr7 2 = (vP B1) := (congrFun hf8 2).trans rfl
 clear hf8
 refine thenQ.n (W.seq ?_)
 refine W.seq (W.region ?_)
 refine SeqW.consX rfl (kField rfl Try.underlying63 rfl Try.type24 rfl h2 rfl ?_)
 refine SeqW.consX rfl (kLoad rfl Try.underlying24 rfl rfl (X3.load (v := v0_0) rfl) ?_)
 refine sx rfl (pLenR (xs := x0.l) rfl Try.underlying24 rfl s0_0) ?_
 refine sx rfl (pMove (v := (vI 0)) rfl rfl) ?_
 refine SeqW.done fun fr9 hf10 => ?_
 have h1 := (congrFun hf10 1).trans h1
 have h8 : fr9 8 = v0_0 := (congrFun hf10 8).trans rfl
 have h9 : fr9 9 = (vI (x0.l.length : Int)) := (congrFun hf10 9).trans rfl
 have h10 : fr9 10 = (vI 0) := (congrFun hf10 10).trans rfl
 clear hf10
 refine thenQ.n ?_
 refine W.block ?_
 obtain ⟨y41, hy41, hr⟩ := bind_some hr
 refine W.keep (u_train_first__rulebook_train_place_4_0 (x1 := x1) _ (Zx.refl _) st h1 s1_0_0 s1_0_1 c1_0 c1_1 h8 s0_0 h9 h10 hy41) ?_
 rintro ex47 fr42 m43 hk45 ⟨z44, hz46, st, ⟨y48, rfl, rfl, -⟩ | ⟨y51, rfl, rfl, h4, -⟩⟩
 ·dsimp only at hr
  replace hz := hz.trans hz46
  clear hk45
  refine blockQ.hit ?_
  refine thenQ.n (W.seq (W.region ?_))
  refine sx rfl (pAssign (v := (vI (-1))) rfl rfl) ?_
  refine SeqW.done fun fr49 hf50 => ?_
  have h4 : fr49 4 = (vI (-1)) := (congrFun hf50 4).trans rfl
  clear hf50
  refine thenQ.n ?_
  refine W.ret ?_
  obtain rfl := Option.some.inj hr
  exact ⟨z44, hz, st, .inr rfl, h4, trivial⟩
 ·dsimp only at hr
  replace hz := hz.trans hz46
  clear hk45
  refine blockQ.r ?_
  refine thenQ.r ?_
  obtain rfl := Option.some.inj hr
  exact ⟨z44, hz, st, .inr rfl, h4, trivial⟩

theorem c_train_first__rulebook_train_place_4 {N : Nat} {z : Nat → Blk} {m : Mem} {x0 : Train} {x1 : Train × Rule} {v0_0 : Value} {v0_1 : Value} {b1_0 : Nat} {f1_0 : Nat} {v1_0_0 : Value} {v1_0_1 : Value} {b1_1 : Nat} {f1_1 : Nat} (fz : Fz z m) (hd : ∀ b, m.next ≤ b → m.blk b = .dead) (s0_0 : SlR TWagon z x0.l v0_0) (s0_1 : SlR (TInt 3 .i64) z x0.off v0_1) (s1_0_0 : SlR TWagon z x1.1.l v1_0_0) (s1_0_1 : SlR (TInt 3 .i64) z x1.1.off v1_0_1) (c1_0 : cellsAt z b1_0 f1_0 [v1_0_0, v1_0_1, (vI x1.1.total.length), (vI x1.1.total.axles), (vI x1.1.total.mass), (vI x1.1.total.braked), (vI x1.1.total.percent), (vI x1.1.total.required), (vI x1.1.total.missing)]) (c1_1 : cellsAt z b1_1 f1_1 [(vI x1.2.number), (vI x1.2.kind), (vI x1.2.a), (vI x1.2.b), (vI x1.2.c)]) {r : Int} (hr : train_first__rulebook_train_place_4 N x0 x1 = some r) : CallW Try.prog 47 #[(Value.agg [v0_0, v0_1, (vI x0.total.length), (vI x0.total.axles), (vI x0.total.mass), (vI x0.total.braked), (vI x0.total.percent), (vI x0.total.required), (vI x0.total.missing)].toArray), (Value.func (.func 48) #[] #[(Value.pointer (some ⟨b1_0, f1_0, none⟩)), (Value.pointer (some ⟨b1_1, f1_1, none⟩))])] m fun v m' => v = (vI r) ∧ m' = m := by
 refine CallW.flat Try.func47 rfl (by kernel_rfl) (Nat.le_of_ble_eq_true rfl) rfl (z := z) (fun fr hf => ?_)
 have h0 : fr 0 = _ := hf 0 _ rfl
 have h1 : fr 1 = _ := hf 1 _ rfl
 refine (u_train_first__rulebook_train_place_4 (k := none) (Zx.refl _) (St.start fz hd) h0 s0_0 s0_1 h1 s1_0_0 s1_0_1 c1_0 c1_1 hr).mono ?_
 rintro ex fr' m' ⟨z', hz, st, he, h4, -⟩
 exact ⟨he, z', st, [(vI r)], ⟨h4.symm, trivial⟩, .inl rfl, rfl⟩

/-! ### (humpyard/rulebook.train).place$5 -/

theorem u_rulebook_train_place_5_0 {N : Nat}  {z0 z : Nat → Blk} {e m : Mem} {k : Option Nat} {fr : Nat → Value} {x0 : Int} {x2 : Rule} {x4 : Wagon} {b2 : Nat} {f2 : Nat} {b4 : Nat} (hz : Zx e.next z0 z) (st : St z e m k) (h0 : fr 0 = (vI x0)) (h2 : fr 2 = (Value.pointer (some ⟨b2, f2, none⟩))) (c2 : cellsAt z b2 f2 [(vI x2.number), (vI x2.kind), (vI x2.a), (vI x2.b), (vI x2.c)]) (h4 : fr 4 = (vP b4)) (bx4 : Bx z e m k b4 [(str x4.number), (vI x4.length), (vI x4.axles), (vI x4.mass), (vI x4.brake), (vI x4.goods), (vB x4.gentle), (str x4.dest)] 36) {r : Bool} (hr : rulebook_train_place_5_0 N x0 x2 x4 = some r) : W Try.prog (sub (bodyOf Try.f50) [1, 0]) (fun ex fr' m' => ∃ z', Zx e.next z0 z' ∧ St z' e m' k ∧ ex = AExit.normal ∧ fr' 5 = (vB r) ∧ True) fr m := by
 unfold rulebook_train_place_5_0 at hr
 refine W.region ?_
 refine SeqW.consX rfl (kField rfl Try.underlying36 rfl Try.type3 rfl h4 rfl ?_)
 refine SeqW.consX rfl (kLoad rfl Try.underlying3 rfl rfl (bx4.load (v := (vI x4.goods)) rfl) ?_)
 refine SeqW.consX rfl (kField rfl Try.underlying32 rfl Try.type3 rfl h2 rfl ?_)
 refine SeqW.consX rfl (kLoad (v := (vI x2.a)) rfl Try.underlying3 rfl rfl (ldz_load st.fz (c2 2 _ rfl)) ?_)
 refine sx rfl (pEql (k := .i64) (a := x4.goods) (b := x2.a) rfl rfl rfl) ?_
 refine sx rfl (pMove (v := (vB (x4.goods == x2.a))) rfl rfl) ?_
 rcases if_some hr with ⟨hc9, hr⟩ | ⟨hc13, hr⟩
 ·refine SeqW.consG rfl rfl rfl hc9 (StepX.pure (pMove (v := (vI x0)) rfl h0) ?_)
  refine SeqW.consG rfl rfl rfl hc9 (kField rfl Try.underlying32 rfl Try.type3 rfl h2 rfl ?_)
  refine SeqW.consG rfl rfl rfl hc9 (kLoad (v := (vI x2.b)) rfl Try.underlying3 rfl rfl (ldz_load st.fz (c2 3 _ rfl)) ?_)
  refine SeqW.consG rfl rfl rfl hc9 (StepX.pure (pLss (k := .i64) (a := x0) (b := x2.b) rfl rfl rfl) ?_)
  refine sx rfl (pPick (t := true) (v := (vB (decide (x0 < x2.b)))) rfl ((congrArg vB hc9)) rfl) ?_
  obtain ⟨y10, hy10, hr⟩ := lt_some hr
  refine sx rfl (pAssign rfl (congrArg vB hy10)) ?_
  refine SeqW.done fun fr11 hf12 => ?_
  have h5 : fr11 5 = (vB y10) := (congrFun hf12 5).trans rfl
  clear hf12
  obtain rfl := Option.some.inj hr
  exact ⟨z, hz, st, rfl, h5, trivial⟩
 ·refine kx rfl rfl rfl hc13 ?_
  iterate 3 refine kx rfl rfl rfl hc13 ?_
  refine sx rfl (pPick (t := false) (v := (vB false)) rfl ((congrArg vB hc13)) rfl) ?_
  refine sx rfl (pAssign (v := (vB false)) rfl rfl) ?_
  refine SeqW.done fun fr14 hf15 => ?_
  have h5 : fr14 5 = (vB false) := (congrFun hf15 5).trans rfl
  clear hf15
  obtain rfl := Option.some.inj hr
  exact ⟨z, hz, st, rfl, h5, trivial⟩

theorem u_rulebook_train_place_5 {N : Nat}  {z0 z : Nat → Blk} {e m : Mem} {k : Option Nat} {fr : Nat → Value} {x0 : Int} {x1 : Wagon} {x2 : Rule} {b2 : Nat} {f2 : Nat} (hz : Zx e.next z0 z) (st : St z e m k) (h0 : fr 0 = (vI x0)) (h1 : fr 1 = (Value.agg [(str x1.number), (vI x1.length), (vI x1.axles), (vI x1.mass), (vI x1.brake), (vI x1.goods), (vB x1.gentle), (str x1.dest)].toArray)) (h2 : fr 2 = (Value.pointer (some ⟨b2, f2, none⟩))) (c2 : cellsAt z b2 f2 [(vI x2.number), (vI x2.kind), (vI x2.a), (vI x2.b), (vI x2.c)]) {r : Bool} (hr : rulebook_train_place_5 N x0 x1 x2 = some r) : W Try.prog (sub (bodyOf Try.f50) []) (fun ex fr' m' => ∃ z', Zx e.next z0 z' ∧ St z' e m' k ∧ (ex = .normal ∨ ex = .ret) ∧ fr' 5 = (vB r) ∧ True) fr m := by
 unfold rulebook_train_place_5 at hr
 refine W.seq (W.region ?_)
 refine SeqW.consX rfl (kBox (v := (Value.agg [(str x1.number), (vI x1.length), (vI x1.axles), (vI x1.mass), (vI x1.brake), (vI x1.goods), (vB x1.gentle), (str x1.dest)].toArray)) rfl Try.type36 h1 rfl [(str x1.number), (vI x1.length), (vI x1.axles), (vI x1.mass), (vI x1.brake), (vI x1.goods), (vB x1.gentle), (str x1.dest)] rfl rfl st ?_)
 intro B1 m2  st X3 sm4 hap5
 refine sx rfl (pAssign (v := (vB false)) rfl rfl) ?_
 refine SeqW.done fun fr7 hf8 => ?_
 have h0 := (congrFun hf8 0).trans h0
 have h2 := (congrFun hf8 2).trans h2
 have h4 : fr7 4 = (vP B1) := (congrFun hf8 4).trans rfl
 clear hf8
 refine thenQ.n (W.seq ?_)
 obtain ⟨y16, hy16, hr⟩ := bind_some hr
 refine W.keep (u_rulebook_train_place_5_0 (x2 := x2) (x4 := x1) (Zx.refl _) st h0 h2 c2 h4 X3 hy16) ?_
 rintro ex22 fr17 m18 hk20 ⟨z19, hz21, st, rfl, h5, -⟩
 replace hz := hz.trans hz21
 clear hk20
 refine thenQ.n ?_
 refine W.ret ?_
 obtain rfl := Option.some.inj hr
 exact ⟨z19, hz, st, .inr rfl, h5, trivial⟩

theorem c_rulebook_train_place_5 {N : Nat} {z : Nat → Blk} {m : Mem} {x0 : Int} {x1 : Wagon} {x2 : Rule} {b2 : Nat} {f2 : Nat} (fz : Fz z m) (hd : ∀ b, m.next ≤ b → m.blk b = .dead) (c2 : cellsAt z b2 f2 [(vI x2.number), (vI x2.kind), (vI x2.a), (vI x2.b), (vI x2.c)]) {r : Bool} (hr : rulebook_train_place_5 N x0 x1 x2 = some r) : CallW Try.prog 50 #[(vI x0), (Value.agg [(str x1.number), (vI x1.length), (vI x1.axles), (vI x1.mass), (vI x1.brake), (vI x1.goods), (vB x1.gentle), (str x1.dest)].toArray), (Value.pointer (some ⟨b2, f2, none⟩))] m fun v m' => v = (vB r) ∧ m' = m := by
 refine CallW.flat Try.func50 rfl (by kernel_rfl) (Nat.le_of_ble_eq_true rfl) rfl (z := z) (fun fr hf => ?_)
 have h0 : fr 0 = _ := hf 0 _ rfl
 have h1 : fr 1 = _ := hf 1 _ rfl
 have h2 : fr 2 = _ := hf 2 _ rfl
 refine (u_rulebook_train_place_5 (k := none) (Zx.refl _) (St.start fz hd) h0 h1 h2 c2 hr).mono ?_
 rintro ex fr' m' ⟨z', hz, st, he, h5, -⟩
 exact ⟨he, z', st, [(vB r)], ⟨h5.symm, trivial⟩, .inl rfl, rfl⟩

/-! ### (humpyard/rulebook.train).first -/

theorem u_train_first__rulebook_train_place_5_0 : ∀ (n : Nat) {N : Nat}  {z0 z : Nat → Blk} {e m : Mem} {k : Option Nat} {fr : Nat → Value} {x1 : Rule} {x8 : List Wagon} {x9 : Int} {x10 : Int} {b1_0 : Nat} {f1_0 : Nat} {v8 : Value} (hz : Zx e.next z0 z) (st : St z e m k) (h1 : fr 1 = (Value.func (.func 50) #[] #[(Value.pointer (some ⟨b1_0, f1_0, none⟩))])) (c1_0 : cellsAt z b1_0 f1_0 [(vI x1.number), (vI x1.kind), (vI x1.a), (vI x1.b), (vI x1.c)]) (h8 : fr 8 = v8) (s8 : SlR TWagon z x8 v8) (h9 : fr 9 = (vI x9)) (h10 : fr 10 = (vI x10)) {r : Sum (Unit) (Int)} (hr : train_first__rulebook_train_place_5_0 N x1 x8 x9 n x10 = some r), W Try.prog (sub (bodyOf Try.f47) [1, 0, 1, 0]) (fun ex fr' m' => ∃ z', Zx e.next z0 z' ∧ St z' e m' k ∧ ((∃ q, r = Sum.inl q ∧ ex = AExit.exit 0 ∧ True) ∨ (∃ q, r = Sum.inr q ∧ ex = AExit.ret ∧ fr' 4 = (vI q) ∧ True))) fr m := by
 intro n
 induction n with
 | zero => intro N z0 z e m k fr x1 x8 x9 x10 b1_0 f1_0 v8 hz st h1 c1_0 h8 s8 h9 h10 r hr; cases (show (none : Option _) = some r from hr)
 | succ n ih =>
  intro N z0 z e m k fr x1 x8 x9 x10 b1_0 f1_0 v8 hz st h1 c1_0 h8 s8 h9 h10 r hr
  unfold train_first__rulebook_train_place_5_0 at hr
  refine W.loop1 ?_
  refine W.seq (W.region ?_)
  refine sx rfl (pLss (k := .i64) (a := x10) (b := x9) rfl h10 h9) ?_
  refine SeqW.done fun fr11 hf12 => ?_
  have h1 := (congrFun hf12 1).trans h1
  have h8 := (congrFun hf12 8).trans h8
  have h9 := (congrFun hf12 9).trans h9
  have h10 := (congrFun hf12 10).trans h10
  have h11 : fr11 11 = (vB (decide (x10 < x9))) := (congrFun hf12 11).trans rfl
  clear hf12
  refine thenQ.n (W.seq ?_)
  rcases if_some hr with ⟨hc13, hr⟩ | ⟨hc40, hr⟩
  ·refine W.condT h11 hc13 (W.skip ?_)
   refine thenQ.n (W.seq ?_)
   refine W.block ?_
   refine W.seq (W.region ?_)
   refine sx rfl (pMove (v := (vI x10)) rfl h10) ?_
   obtain ⟨y14, hy14, hr⟩ := bind_some hr
   refine SeqW.consX rfl (kIdxR (T := TWagon) (xs := x8) (n := x10) rfl Try.underlying24 Try.type36 rfl h8 h10 s8 hy14 ?_)
   intro B15 f16 cs17 hd18 hc19
   obtain rfl := hd18
   refine SeqW.consX rfl (kLoadA rfl Try.underlying36 rfl Try.type36 rfl rfl (st.loads hc19) ?_)
   refine SeqW.consX rfl (kAlloc rfl Try.type36 rfl rfl rfl [(str []), (vI 0), (vI 0), (vI 0), (vI 0), (vI 0), (vB false), (str [])] rfl st ?_)
   intro B21 m22  st X23 sm24 hap25
   refine sx rfl (pAssign (v := (vI x10)) rfl rfl) ?_
   refine SeqW.consX rfl (kPut (off := 0) (w := (Value.agg [(str y14.number), (vI y14.length), (vI y14.axles), (vI y14.mass), (vI y14.brake), (vI y14.goods), (vB y14.gentle), (str y14.dest)].toArray)) (new := [(str y14.number), (vI y14.length), (vI y14.axles), (vI y14.mass), (vI y14.brake), (vI y14.goods), (vB y14.gentle), (str y14.dest)]) rfl Try.type36 rfl rfl rfl rfl rfl X23 rfl [(str y14.number), (vI y14.length), (vI y14.axles), (vI y14.mass), (vI y14.brake), (vI y14.goods), (vB y14.gentle), (str y14.dest)] rfl st ?_)
   intro m27 st X23 sm28
   refine SeqW.done fun fr29 hf30 => ?_
   have h1 := (congrFun hf30 1).trans h1
   have h5 : fr29 5 = (vI x10) := (congrFun hf30 5).trans rfl
   have h6 : fr29 6 = (vP B21) := (congrFun hf30 6).trans rfl
   have h8 := (congrFun hf30 8).trans h8
   have h9 := (congrFun hf30 9).trans h9
   have h10 := (congrFun hf30 10).trans h10
   clear hf30
   refine thenQ.n (W.seq (W.region ?_))
   refine sx rfl (pMove (v := (Value.func (.func 50) #[] #[(Value.pointer (some ⟨b1_0, f1_0, none⟩))])) rfl h1) ?_
   refine sx rfl (pMove (v := (vI x10)) rfl h5) ?_
   refine SeqW.consX rfl (kLoadA rfl Try.underlying36 rfl Try.type36 rfl h6 X23.loads ?_)
   obtain ⟨y31, hy31, hr⟩ := bind_some hr
   refine SeqW.consX rfl (StepX.call (gCalleeV (args := #[(vI x10), (Value.agg [(str y14.number), (vI y14.length), (vI y14.axles), (vI y14.mass), (vI y14.brake), (vI y14.goods), (vB y14.gentle), (str y14.dest)].toArray)]) (caps := #[(Value.pointer (some ⟨b1_0, f1_0, none⟩))]) rfl rfl (args2 rfl rfl) rfl) ((c_rulebook_train_place_5 (x1 := y14) (x2 := x1) (z := z) st.fz st.dead c1_0 hy31).mono ?_))
   rintro _ _ ⟨rfl, rfl⟩
   refine SeqW.done fun fr32 hf33 => ?_
   have h1 := (congrFun hf33 1).trans h1
   have h5 := (congrFun hf33 5).trans h5
   have h8 := (congrFun hf33 8).trans h8
   have h9 := (congrFun hf33 9).trans h9
   have h10 := (congrFun hf33 10).trans h10
   have h18 : fr32 18 = (vB y31) := (congrFun hf33 18).trans rfl
   clear hf33
   refine thenQ.n ?_
   rcases if_some hr with ⟨hc34, hr⟩ | ⟨hc37, hr⟩
   ·refine W.condT h18 hc34 (W.seq (W.region ?_))
    refine sx rfl (pMove (v := (vI x10)) rfl h5) ?_
    refine sx rfl (pAssign (v := (vI x10)) rfl rfl) ?_
    refine SeqW.done fun fr35 hf36 => ?_
    have h4 : fr35 4 = (vI x10) := (congrFun hf36 4).trans rfl
    clear hf36
    refine thenQ.n ?_
    refine W.ret ?_
    refine blockQ.r ?_
    refine thenQ.r ?_
    refine thenQ.r ?_
    obtain rfl := Option.some.inj hr
    exact ⟨z, hz, st, .inr ⟨_, rfl, rfl, h4, trivial⟩⟩
   ·refine W.condF h18 hc37 (W.skip ?_)
    refine blockQ.n ?_
    refine thenQ.n (W.region ?_)
    refine sx rfl (pAdd (k := .i64) (a := x10) (b := 1) rfl h10 rfl) ?_
    refine sx rfl (pMove (v := (vI (IntKind.wrap .i64 (x10 + 1)))) rfl rfl) ?_
    refine SeqW.done fun fr38 hf39 => ?_
    have h1 := (congrFun hf39 1).trans h1
    have h8 := (congrFun hf39 8).trans h8
    have h9 := (congrFun hf39 9).trans h9
    have h10 : fr38 10 = (vI (IntKind.wrap .i64 (x10 + 1))) := (congrFun hf39 10).trans rfl
    clear hf39
    refine thenQ.n ?_
    exact ih (x1 := x1) hz st h1 c1_0 h8 s8 h9 h10 hr
  ·refine W.condF h11 hc40 ?_
   refine W.exit ?_
   refine thenQ.x ?_
   refine thenQ.x ?_
   obtain rfl := Option.some.inj hr
   exact ⟨z, hz, st, .inl ⟨_, rfl, rfl, trivial⟩⟩

theorem u_train_first__rulebook_train_place_5 {N : Nat}  {z0 z : Nat → Blk} {e m : Mem} {k : Option Nat} {fr : Nat → Value} {x0 : Train} {x1 : Rule} {v0_0 : Value} {v0_1 : Value} {b1_0 : Nat} {f1_0 : Nat} (hz : Zx e.next z0 z) (st : St z e m k) (h0 : fr 0 = (Value.agg [v0_0, v0_1, (vI x0.total.length), (vI x0.total.axles), (vI x0.total.mass), (vI x0.total.braked), (vI x0.total.percent), (vI x0.total.required), (vI x0.total.missing)].toArray)) (s0_0 : SlR TWagon z x0.l v0_0) (s0_1 : SlR (TInt 3 .i64) z x0.off v0_1) (h1 : fr 1 = (Value.func (.func 50) #[] #[(Value.pointer (some ⟨b1_0, f1_0, none⟩))])) (c1_0 : cellsAt z b1_0 f1_0 [(vI x1.number), (vI x1.kind), (vI x1.a), (vI x1.b), (vI x1.c)]) {r : Int} (hr : train_first__rulebook_train_place_5 N x0 x1 = some r) : W Try.prog (sub (bodyOf Try.f47) []) (fun ex fr' m' => ∃ z', Zx e.next z0 z' ∧ St z' e m' k ∧ (ex = .normal ∨ ex = .ret) ∧ fr' 4 = (vI r) ∧ True) fr m := by
 unfold train_first__rulebook_train_place_5 at hr
 refine W.seq (W.region ?_)
 refine SeqW.consX rfl (kBox (v := (Value.agg [v0_0, v0_1, (vI x0.total.length), (vI x0.total.axles), (vI x0.total.mass), (vI x0.total.braked), (vI x0.total.percent), (vI x0.total.required), (vI x0.total.missing)].toArray)) rfl Try.type63 h0 rfl [v0_0, v0_1, (vI x0.total.length), (vI x0.total.axles), (vI x0.total.mass), (vI x0.total.braked), (vI x0.total.percent), (vI x0.total.required), (vI x0.total.missing)] rfl rfl st ?_)
 intro B1 m2  st X3 sm4 hap5
 refine sx rfl (pAssign (v := (vI 0)) rfl rfl) ?_
 refine SeqW.done fun fr7 hf8 => ?_
 have h1 := (congrFun hf8 1).trans h1
 have h2 : fr7 2 = (vP B1) := (congrFun hf8 2).trans rfl
 clear hf8
 refine thenQ.n (W.seq ?_)
 refine W.seq (W.region ?_)
 refine SeqW.consX rfl (kField rfl Try.underlying63 rfl Try.type24 rfl h2 rfl ?_)
 refine SeqW.consX rfl (kLoad rfl Try.underlying24 rfl rfl (X3.load (v := v0_0) rfl) ?_)
 refine sx rfl (pLenR (xs := x0.l) rfl Try.underlying24 rfl s0_0) ?_
 refine sx rfl (pMove (v := (vI 0)) rfl rfl) ?_
 refine SeqW.done fun fr9 hf10 => ?_
 have h1 := (congrFun hf10 1).trans h1
 have h8 : fr9 8 = v0_0 := (congrFun hf10 8).trans rfl
 have h9 : fr9 9 = (vI (x0.l.length : Int)) := (congrFun hf10 9).trans rfl
 have h10 : fr9 10 = (vI 0) := (congrFun hf10 10).trans rfl
 clear hf10
 refine thenQ.n ?_
 refine W.block ?_
 obtain ⟨y41, hy41, hr⟩ := bind_some hr
 refine W.keep (u_train_first__rulebook_train_place_5_0 (x1 := x1) _ (Zx.refl _) st h1 c1_0 h8 s0_0 h9 h10 hy41) ?_
 rintro ex47 fr42 m43 hk45 ⟨z44, hz46, st, ⟨y48, rfl, rfl, -⟩ | ⟨y51, rfl, rfl, h4, -⟩⟩
 ·dsimp only at hr
  replace hz := hz.trans hz46
  clear hk45
  refine blockQ.hit ?_
  refine thenQ.n (W.seq (W.region ?_))
  refine sx rfl (pAssign (v := (vI (-1))) rfl rfl) ?_
  refine SeqW.done fun fr49 hf50 => ?_
  have h4 : fr49 4 = (vI (-1)) := (congrFun hf50 4).trans rfl
  clear hf50
  refine thenQ.n ?_
  refine W.ret ?_
  obtain rfl := Option.some.inj hr
  exact ⟨z44, hz, st, .inr rfl, h4, trivial⟩
 ·dsimp only at hr
  replace hz := hz.trans hz46
  clear hk45
  refine blockQ.r ?_
  refine thenQ.r ?_
  obtain rfl := Option.some.inj hr
  exact ⟨z44, hz, st, .inr rfl, h4, trivial⟩

theorem c_train_first__rulebook_train_place_5 {N : Nat} {z : Nat → Blk} {m : Mem} {x0 : Train} {x1 : Rule} {v0_0 : Value} {v0_1 : Value} {b1_0 : Nat} {f1_0 : Nat} (fz : Fz z m) (hd : ∀ b, m.next ≤ b → m.blk b = .dead) (s0_0 : SlR TWagon z x0.l v0_0) (s0_1 : SlR (TInt 3 .i64) z x0.off v0_1) (c1_0 : cellsAt z b1_0 f1_0 [(vI x1.number), (vI x1.kind), (vI x1.a), (vI x1.b), (vI x1.c)]) {r : Int} (hr : train_first__rulebook_train_place_5 N x0 x1 = some r) : CallW Try.prog 47 #[(Value.agg [v0_0, v0_1, (vI x0.total.length), (vI x0.total.axles), (vI x0.total.mass), (vI x0.total.braked), (vI x0.total.percent), (vI x0.total.required), (vI x0.total.missing)].toArray), (Value.func (.func 50) #[] #[(Value.pointer (some ⟨b1_0, f1_0, none⟩))])] m fun v m' => v = (vI r) ∧ m' = m := by
 refine CallW.flat Try.func47 rfl (by kernel_rfl) (Nat.le_of_ble_eq_true rfl) rfl (z := z) (fun fr hf => ?_)
 have h0 : fr 0 = _ := hf 0 _ rfl
 have h1 : fr 1 = _ := hf 1 _ rfl
 refine (u_train_first__rulebook_train_place_5 (k := none) (Zx.refl _) (St.start fz hd) h0 s0_0 s0_1 h1 c1_0 hr).mono ?_
 rintro ex fr' m' ⟨z', hz, st, he, h4, -⟩
 exact ⟨he, z', st, [(vI r)], ⟨h4.symm, trivial⟩, .inl rfl, rfl⟩

/-! ### (humpyard/rulebook.train).place$6 -/

theorem u_rulebook_train_place_6 {N : Nat}  {z0 z : Nat → Blk} {e m : Mem} {k : Option Nat} {fr : Nat → Value} {x0 : Int} {x1 : Wagon} {x2 : Rule} {b2 : Nat} {f2 : Nat} (hz : Zx e.next z0 z) (st : St z e m k) (h0 : fr 0 = (vI x0)) (h1 : fr 1 = (Value.agg [(str x1.number), (vI x1.length), (vI x1.axles), (vI x1.mass), (vI x1.brake), (vI x1.goods), (vB x1.gentle), (str x1.dest)].toArray)) (h2 : fr 2 = (Value.pointer (some ⟨b2, f2, none⟩))) (c2 : cellsAt z b2 f2 [(vI x2.number), (vI x2.kind), (vI x2.a), (vI x2.b), (vI x2.c)]) {r : Bool} (hr : rulebook_train_place_6 N x0 x1 x2 = some r) : W Try.prog (sub (bodyOf Try.f52) []) (fun ex fr' m' => ∃ z', Zx e.next z0 z' ∧ St z' e m' k ∧ (ex = .normal ∨ ex = .ret) ∧ fr' 5 = (vB r) ∧ True) fr m := by
 unfold rulebook_train_place_6 at hr
 refine W.seq (W.region ?_)
 refine SeqW.consX rfl (kBox (v := (Value.agg [(str x1.number), (vI x1.length), (vI x1.axles), (vI x1.mass), (vI x1.brake), (vI x1.goods), (vB x1.gentle), (str x1.dest)].toArray)) rfl Try.type36 h1 rfl [(str x1.number), (vI x1.length), (vI x1.axles), (vI x1.mass), (vI x1.brake), (vI x1.goods), (vB x1.gentle), (str x1.dest)] rfl rfl st ?_)
 intro B1 m2  st X3 sm4 hap5
 refine sx rfl (pAssign (v := (vB false)) rfl rfl) ?_
 refine SeqW.done fun fr7 hf8 => ?_
 have h2 := (congrFun hf8 2).trans h2
 have h4 : fr7 4 = (vP B1) := (congrFun hf8 4).trans rfl
 clear hf8
 refine thenQ.n (W.seq (W.region ?_))
 refine SeqW.consX rfl (kField rfl Try.underlying36 rfl Try.type3 rfl h4 rfl ?_)
 refine SeqW.consX rfl (kLoad rfl Try.underlying3 rfl rfl (X3.load (v := (vI x1.mass)) rfl) ?_)
 refine SeqW.consX rfl (kField rfl Try.underlying32 rfl Try.type3 rfl h2 rfl ?_)
 refine SeqW.consX rfl (kLoad (v := (vI x2.a)) rfl Try.underlying3 rfl rfl (ldz_load st.fz (c2 2 _ rfl)) ?_)
 refine SeqW.consX rfl (kField rfl Try.underlying36 rfl Try.type3 rfl h4 rfl ?_)
 refine SeqW.consX rfl (kLoad rfl Try.underlying3 rfl rfl (X3.load (v := (vI x1.axles)) rfl) ?_)
 refine sx rfl (pMul (k := .i64) (a := x2.a) (b := x1.axles) rfl rfl rfl) ?_
 refine sx rfl (pGtr (k := .i64) (a := x1.mass) (b := (IntKind.wrap .i64 (x2.a * x1.axles))) rfl rfl rfl) ?_
 obtain ⟨y9, hy9, hr⟩ := lt_some hr
 refine sx rfl (pAssign rfl (congrArg vB hy9)) ?_
 refine SeqW.done fun fr10 hf11 => ?_
 have h5 : fr10 5 = (vB y9) := (congrFun hf11 5).trans rfl
 clear hf11
 refine thenQ.n ?_
 refine W.ret ?_
 obtain rfl := Option.some.inj hr
 exact ⟨z, hz, st, .inr rfl, h5, trivial⟩

theorem c_rulebook_train_place_6 {N : Nat} {z : Nat → Blk} {m : Mem} {x0 : Int} {x1 : Wagon} {x2 : Rule} {b2 : Nat} {f2 : Nat} (fz : Fz z m) (hd : ∀ b, m.next ≤ b → m.blk b = .dead) (c2 : cellsAt z b2 f2 [(vI x2.number), (vI x2.kind), (vI x2.a), (vI x2.b), (vI x2.c)]) {r : Bool} (hr : rulebook_train_place_6 N x0 x1 x2 = some r) : CallW Try.prog 52 #[(vI x0), (Value.agg [(str x1.number), (vI x1.length), (vI x1.axles), (vI x1.mass), (vI x1.brake), (vI x1.goods), (vB x1.gentle), (str x1.dest)].toArray), (Value.pointer (some ⟨b2, f2, none⟩))] m fun v m' => v = (vB r) ∧ m' = m := by
 refine CallW.flat Try.func52 rfl (by kernel_rfl) (Nat.le_of_ble_eq_true rfl) rfl (z := z) (fun fr hf => ?_)
 have h0 : fr 0 = _ := hf 0 _ rfl
 have h1 : fr 1 = _ := hf 1 _ rfl
 have h2 : fr 2 = _ := hf 2 _ rfl
 refine (u_rulebook_train_place_6 (k := none) (Zx.refl _) (St.start fz hd) h0 h1 h2 c2 hr).mono ?_
 rintro ex fr' m' ⟨z', hz, st, he, h5, -⟩
 exact ⟨he, z', st, [(vB r)], ⟨h5.symm, trivial⟩, .inl rfl, rfl⟩

/-! ### (humpyard/rulebook.train).first -/

theorem u_train_first__rulebook_train_place_6_0 : ∀ (n : Nat) {N : Nat}  {z0 z : Nat → Blk} {e m : Mem} {k : Option Nat} {fr : Nat → Value} {x1 : Rule} {x8 : List Wagon} {x9 : Int} {x10 : Int} {b1_0 : Nat} {f1_0 : Nat} {v8 : Value} (hz : Zx e.next z0 z) (st : St z e m k) (h1 : fr 1 = (Value.func (.func 52) #[] #[(Value.pointer (some ⟨b1_0, f1_0, none⟩))])) (c1_0 : cellsAt z b1_0 f1_0 [(vI x1.number), (vI x1.kind), (vI x1.a), (vI x1.b), (vI x1.c)]) (h8 : fr 8 = v8) (s8 : SlR TWagon z x8 v8) (h9 : fr 9 = (vI x9)) (h10 : fr 10 = (vI x10)) {r : Sum (Unit) (Int)} (hr : train_first__rulebook_train_place_6_0 N x1 x8 x9 n x10 = some r), W Try.prog (sub (bodyOf Try.f47) [1, 0, 1, 0]) (fun ex fr' m' => ∃ z', Zx e.next z0 z' ∧ St z' e m' k ∧ ((∃ q, r = Sum.inl q ∧ ex = AExit.exit 0 ∧ True) ∨ (∃ q, r = Sum.inr q ∧ ex = AExit.ret ∧ fr' 4 = (vI q) ∧ True))) fr m := by
 intro n
 induction n with
 | zero => intro N z0 z e m k fr x1 x8 x9 x10 b1_0 f1_0 v8 hz st h1 c1_0 h8 s8 h9 h10 r hr; cases (show (none : Option _) = some r from hr)
 | succ n ih =>
  intro N z0 z e m k fr x1 x8 x9 x10 b1_0 f1_0 v8 hz st h1 c1_0 h8 s8 h9 h10 r hr
  unfold train_first__rulebook_train_place_6_0 at hr
  refine W.loop1 ?_
  refine W.seq (W.region ?_)
  refine sx rfl (pLss (k := .i64) (a := x10) (b := x9) rfl h10 h9) ?_
  refine SeqW.done fun fr11 hf12 => ?_
  have h1 := (congrFun hf12 1).trans h1
  have h8 := (congrFun hf12 8).trans h8
  have h9 := (congrFun hf12 9).trans h9
  have h10 := (congrFun hf12 10).trans h10
  have h11 : fr11 11 = (vB (decide (x10 < x9))) := (congrFun hf12 11).trans rfl
  clear hf12
  refine thenQ.n (W.seq ?_)
  rcases if_some hr with ⟨hc13, hr⟩ | ⟨hc40, hr⟩
  ·refine W.condT h11 hc13 (W.skip ?_)
   refine thenQ.n (W.seq ?_)
   refine W.block ?_
   refine W.seq (W.region ?_)
   refine sx rfl (pMove (v := (vI x10)) rfl h10) ?_
   obtain ⟨y14, hy14, hr⟩ := bind_some hr
   refine SeqW.consX rfl (kIdxR (T := TWagon) (xs := x8) (n := x10) rfl Try.underlying24 Try.type36 rfl h8 h10 s8 hy14 ?_)
   intro B15 f16 cs17 hd18 hc19
   obtain rfl := hd18
   refine SeqW.consX rfl (kLoadA rfl Try.underlying36 rfl Try.type36 rfl rfl (st.loads hc19) ?_)
   refine SeqW.consX rfl (kAlloc rfl Try.type36 rfl rfl rfl [(str []), (vI 0), (vI 0), (vI 0), (vI 0), (vI 0), (vB false), (str [])] rfl st ?_)
   intro B21 m22  st X23 sm24 hap25
   refine sx rfl (pAssign (v := (vI x10)) rfl rfl) ?_
   refine SeqW.consX rfl (kPut (off := 0) (w := (Value.agg [(str y14.number), (vI y14.length), (vI y14.axles), (vI y14.mass), (vI y14.brake), (vI y14.goods), (vB y14.gentle), (str y14.dest)].toArray)) (new := [(str y14.number), (vI y14.length), (vI y14.axles), (vI y14.mass), (vI y14.brake), (vI y14.goods), (vB y14.gentle), (str y14.dest)]) rfl Try.type36 rfl rfl rfl rfl rfl X23 rfl [(str y14.number), (vI y14.length), (vI y14.axles), (vI y14.mass), (vI y14.brake), (vI y14.goods), (vB y14.gentle), (str y14.dest)] rfl st ?_)
   intro m27 st X23 sm28
   refine SeqW.done fun fr29 hf30 => ?_
   have h1 := (congrFun hf30 1).trans h1
   have h5 : fr29 5 = (vI x10) := (congrFun hf30 5).trans rfl
   have h6 : fr29 6 = (vP B21) := (congrFun hf30 6).trans rfl
   have h8 := (congrFun hf30 8).trans h8
   have h9 := (congrFun hf30 9).trans h9
   have h10 := (congrFun hf30 10).trans h10
   clear hf30
   refine thenQ.n (W.seq (W.region ?_))
   refine sx rfl (pMove (v := (Value.func (.func 52) #[] #[(Value.pointer (some ⟨b1_0, f1_0, none⟩))])) rfl h1) ?_
   refine sx rfl (pMove (v := (vI x10)) rfl h5) ?_
   refine SeqW.consX rfl (kLoadA rfl Try.underlying36 rfl Try.type36 rfl h6 X23.loads ?_)
   obtain ⟨y31, hy31, hr⟩ := bind_some hr
   refine SeqW.consX rfl (StepX.call (gCalleeV (args := #[(vI x10), (Value.agg [(str y14.number), (vI y14.length), (vI y14.axles), (vI y14.mass), (vI y14.brake), (vI y14.goods), (vB y14.gentle), (str y14.dest)].toArray)]) (caps := #[(Value.pointer (some ⟨b1_0, f1_0, none⟩))]) rfl rfl (args2 rfl rfl) rfl) ((c_rulebook_train_place_6 (x1 := y14) (x2 := x1) (z := z) st.fz st.dead c1_0 hy31).mono ?_))
   rintro _ _ ⟨rfl, rfl⟩
   refine SeqW.done fun fr32 hf33 => ?_
   have h1 := (congrFun hf33 1).trans h1
   have h5 := (congrFun hf33 5).trans h5
   have h8 := (congrFun hf33 8).trans h8
   have h9 := (congrFun hf33 9).trans h9
   have h10 := (congrFun hf33 10).trans h10
   have h18 : fr32 18 = (vB y31) := (congrFun hf33 18).trans rfl
   clear hf33
   refine thenQ.n ?_
   rcases if_some hr with ⟨hc34, hr⟩ | ⟨hc37, hr⟩
   ·refine W.condT h18 hc34 (W.seq (W.region ?_))
    refine sx rfl (pMove (v := (vI x10)) rfl h5) ?_
    refine sx rfl (pAssign (v := (vI x10)) rfl rfl) ?_
    refine SeqW.done fun fr35 hf36 => ?_
    have h4 : fr35 4 = (vI x10) := (congrFun hf36 4).trans rfl
    clear hf36
    refine thenQ.n ?_
    refine W.ret ?_
    refine blockQ.r ?_
    refine thenQ.r ?_
    refine thenQ.r ?_
    obtain rfl := Option.some.inj hr
    exact ⟨z, hz, st, .inr ⟨_, rfl, rfl, h4, trivial⟩⟩
   ·refine W.condF h18 hc37 (W.skip ?_)
    refine blockQ.n ?_
    refine thenQ.n (W.region ?_)
    refine sx rfl (pAdd (k := .i64) (a := x10) (b := 1) rfl h10 rfl) ?_
    refine sx rfl (pMove (v := (vI (IntKind.wrap .i64 (x10 + 1)))) rfl rfl) ?_
    refine SeqW.done fun fr38 hf39 => ?_
    have h1 := (congrFun hf39 1).trans h1
    have h8 := (congrFun hf39 8).trans h8
    have h9 := (congrFun hf39 9).trans h9
    have h10 : fr38 10 = (vI (IntKind.wrap .i64 (x10 + 1))) := (congrFun hf39 10).trans rfl
    clear hf39
    refine thenQ.n ?_
    exact ih (x1 := x1) hz st h1 c1_0 h8 s8 h9 h10 hr
  ·refine W.condF h11 hc40 ?_
   refine W.exit ?_
   refine thenQ.x ?_
   refine thenQ.x ?_
   obtain rfl := Option.some.inj hr
   exact ⟨z, hz, st, .inl ⟨_, rfl, rfl, trivial⟩⟩

theorem u_train_first__rulebook_train_place_6 {N : Nat}  {z0 z : Nat → Blk} {e m : Mem} {k : Option Nat} {fr : Nat → Value} {x0 : Train} {x1 : Rule} {v0_0 : Value} {v0_1 : Value} {b1_0 : Nat} {f1_0 : Nat} (hz : Zx e.next z0 z) (st : St z e m k) (h0 : fr 0 = (Value.agg [v0_0, v0_1, (vI x0.total.length), (vI x0.total.axles), (vI x0.total.mass), (vI x0.total.braked), (vI x0.total.percent), (vI x0.total.required), (vI x0.total.missing)].toArray)) (s0_0 : SlR TWagon z x0.l v0_0) (s0_1 : SlR (TInt 3 .i64) z x0.off v0_1) (h1 : fr 1 = (Value.func (.func 52) #[] #[(Value.pointer (some ⟨b1_0, f1_0, none⟩))])) (c1_0 : cellsAt z b1_0 f1_0 [(vI x1.number), (vI x1.kind), (vI x1.a), (vI x1.b), (vI x1.c)]) {r : Int} (hr : train_first__rulebook_train_place_6 N x0 x1 = some r) : W Try.prog (sub (bodyOf Try.f47) []) (fun ex fr' m' => ∃ z', Zx e.next z0 z' ∧ St z' e m' k ∧ (ex = .normal ∨ ex = .ret) ∧ fr' 4 = (vI r) ∧ True) fr m := by
 unfold train_first__rulebook_train_place_6 at hr
 refine W.seq (W.region ?_)
 refine SeqW.consX rfl (kBox (v := (Value.agg [v0_0, v0_1, (vI x0.total.length), (vI x0.total.axles), (vI x0.total.mass), (vI x0.total.braked), (vI x0.total.percent), (vI x0.total.required), (vI x0.total.missing)].toArray)) rfl Try.type63 h0 rfl [v0_0, v0_1, (vI x0.total.length), (vI x0.total.axles), (vI x0.total.mass), (vI x0.total.braked), (vI x0.total.percent), (vI x0.total.required), (vI x0.total.missing)] rfl rfl st ?_)
 intro B1 m2  st X3 sm4 hap5
 refine sx rfl (pAssign (v := (vI 0)) rfl rfl) ?_
 refine SeqW.done fun fr7 hf8 => ?_
 have h1 := (congrFun hf8 1).trans h1
 have h2 : fr7 2 = (vP B1) := (congrFun hf8 2).trans rfl
 clear hf8
 refine thenQ.n (W.seq ?_)
 refine W.seq (W.region ?_)
 refine SeqW.consX rfl (kField rfl Try.underlying63 rfl Try.type24 rfl h2 rfl ?_)
 refine SeqW.consX rfl (kLoad rfl Try.underlying24 rfl rfl (X3.load (v := v0_0) rfl) ?_)
 refine sx rfl (pLenR (xs := x0.l) rfl Try.underlying24 rfl s0_0) ?_
 refine sx rfl (pMove (v := (vI 0)) rfl rfl) ?_
 refine SeqW.done fun fr9 hf10 => ?_
 have h1 := (congrFun hf10 1).trans h1
 have h8 : fr9 8 = v0_0 := (congrFun hf10 8).trans rfl
 have h9 : fr9 9 = (vI (x0.l.length : Int)) := (congrFun hf10 9).trans rfl
 have h10 : fr9 10 = (vI 0) := (congrFun hf10 10).trans rfl
 clear hf10
 refine thenQ.n ?_
 refine W.block ?_
 obtain ⟨y41, hy41, hr⟩ := bind_some hr
 refine W.keep (u_train_first__rulebook_train_place_6_0 (x1 := x1) _ (Zx.refl _) st h1 c1_0 h8 s0_0 h9 h10 hy41) ?_
 rintro ex47 fr42 m43 hk45 ⟨z44, hz46, st, ⟨y48, rfl, rfl, -⟩ | ⟨y51, rfl, rfl, h4, -⟩⟩
 ·dsimp only at hr
  replace hz := hz.trans hz46
  clear hk45
  refine blockQ.hit ?_
  refine thenQ.n (W.seq (W.region ?_))
  refine sx rfl (pAssign (v := (vI (-1))) rfl rfl) ?_
  refine SeqW.done fun fr49 hf50 => ?_
  have h4 : fr49 4 = (vI (-1)) := (congrFun hf50 4).trans rfl
  clear hf50
  refine thenQ.n ?_
  refine W.ret ?_
  obtain rfl := Option.some.inj hr
  exact ⟨z44, hz, st, .inr rfl, h4, trivial⟩
 ·dsimp only at hr
  replace hz := hz.trans hz46
  clear hk45
  refine blockQ.r ?_
  refine thenQ.r ?_
  obtain rfl := Option.some.inj hr
  exact ⟨z44, hz, st, .inr rfl, h4, trivial⟩

theorem c_train_first__rulebook_train_place_6 {N : Nat} {z : Nat → Blk} {m : Mem} {x0 : Train} {x1 : Rule} {v0_0 : Value} {v0_1 : Value} {b1_0 : Nat} {f1_0 : Nat} (fz : Fz z m) (hd : ∀ b, m.next ≤ b → m.blk b = .dead) (s0_0 : SlR TWagon z x0.l v0_0) (s0_1 : SlR (TInt 3 .i64) z x0.off v0_1) (c1_0 : cellsAt z b1_0 f1_0 [(vI x1.number), (vI x1.kind), (vI x1.a), (vI x1.b), (vI x1.c)]) {r : Int} (hr : train_first__rulebook_train_place_6 N x0 x1 = some r) : CallW Try.prog 47 #[(Value.agg [v0_0, v0_1, (vI x0.total.length), (vI x0.total.axles), (vI x0.total.mass), (vI x0.total.braked), (vI x0.total.percent), (vI x0.total.required), (vI x0.total.missing)].toArray), (Value.func (.func 52) #[] #[(Value.pointer (some ⟨b1_0, f1_0, none⟩))])] m fun v m' => v = (vI r) ∧ m' = m := by
 refine CallW.flat Try.func47 rfl (by kernel_rfl) (Nat.le_of_ble_eq_true rfl) rfl (z := z) (fun fr hf => ?_)
 have h0 : fr 0 = _ := hf 0 _ rfl
 have h1 : fr 1 = _ := hf 1 _ rfl
 refine (u_train_first__rulebook_train_place_6 (k := none) (Zx.refl _) (St.start fz hd) h0 s0_0 s0_1 h1 c1_0 hr).mono ?_
 rintro ex fr' m' ⟨z', hz, st, he, h4, -⟩
 exact ⟨he, z', st, [(vI r)], ⟨h4.symm, trivial⟩, .inl rfl, rfl⟩

/-! ### (humpyard/rulebook.train).behind -/

theorem u_train_behind_0 : ∀ (n : Nat) {N : Nat}  {z0 z : Nat → Blk} {e m : Mem} {k : Option Nat} {fr : Nat → Value} {x5 : Int} {x12 : List Wagon} {x13 : Int} {x14 : Int} {v12 : Value} (hz : Zx e.next z0 z) (st : St z e m k) (h5 : fr 5 = (vI x5)) (h12 : fr 12 = v12) (s12 : SlR TWagon z x12 v12) (h13 : fr 13 = (vI x13)) (h14 : fr 14 = (vI x14)) {r : Int} (hr : train_behind_0 N x12 x13 n x5 x14 = some r), W Try.prog (sub (bodyOf Try.f54) [1, 1, 0, 1, 0]) (fun ex fr' m' => ∃ z', Zx e.next z0 z' ∧ St z' e m' k ∧ ex = AExit.exit 0 ∧ fr' 5 = (vI r) ∧ True) fr m := by
 intro n
 induction n with
 | zero => intro N z0 z e m k fr x5 x12 x13 x14 v12 hz st h5 h12 s12 h13 h14 r hr; cases (show (none : Option _) = some r from hr)
 | succ n ih =>
  intro N z0 z e m k fr x5 x12 x13 x14 v12 hz st h5 h12 s12 h13 h14 r hr
  unfold train_behind_0 at hr
  refine W.loop1 ?_
  refine W.seq (W.region ?_)
  refine sx rfl (pLss (k := .i64) (a := x14) (b := x13) rfl h14 h13) ?_
  refine SeqW.done fun fr18 hf19 => ?_
  have h5 := (congrFun hf19 5).trans h5
  have h12 := (congrFun hf19 12).trans h12
  have h13 := (congrFun hf19 13).trans h13
  have h14 := (congrFun hf19 14).trans h14
  have h15 : fr18 15 = (vB (decide (x14 < x13))) := (congrFun hf19 15).trans rfl
  clear hf19
  refine thenQ.n (W.seq ?_)
  rcases if_some hr with ⟨hc20, hr⟩ | ⟨hc43, hr⟩
  ·refine W.condT h15 hc20 (W.skip ?_)
   refine thenQ.n (W.seq ?_)
   refine W.block ?_
   refine W.seq (W.region ?_)
   obtain ⟨y21, hy21, hr⟩ := bind_some hr
   refine SeqW.consX rfl (kIdxR (T := TWagon) (xs := x12) (n := x14) rfl Try.underlying24 Try.type36 rfl h12 h14 s12 hy21 ?_)
   intro B22 f23 cs24 hd25 hc26
   obtain rfl := hd25
   refine SeqW.consX rfl (kLoadA rfl Try.underlying36 rfl Try.type36 rfl rfl (st.loads hc26) ?_)
   refine SeqW.consX rfl (kAlloc rfl Try.type36 rfl rfl rfl [(str []), (vI 0), (vI 0), (vI 0), (vI 0), (vI 0), (vB false), (str [])] rfl st ?_)
   intro B28 m29  st X30 sm31 hap32
   refine SeqW.consX rfl (kPut (off := 0) (w := (Value.agg [(str y21.number), (vI y21.length), (vI y21.axles), (vI y21.mass), (vI y21.brake), (vI y21.goods), (vB y21.gentle), (str y21.dest)].toArray)) (new := [(str y21.number), (vI y21.length), (vI y21.axles), (vI y21.mass), (vI y21.brake), (vI y21.goods), (vB y21.gentle), (str y21.dest)]) rfl Try.type36 rfl rfl rfl rfl rfl X30 rfl [(str y21.number), (vI y21.length), (vI y21.axles), (vI y21.mass), (vI y21.brake), (vI y21.goods), (vB y21.gentle), (str y21.dest)] rfl st ?_)
   intro m34 st X30 sm35
   refine SeqW.done fun fr36 hf37 => ?_
   have h5 := (congrFun hf37 5).trans h5
   have h7 : fr36 7 = (vP B28) := (congrFun hf37 7).trans rfl
   have h12 := (congrFun hf37 12).trans h12
   have h13 := (congrFun hf37 13).trans h13
   have h14 := (congrFun hf37 14).trans h14
   clear hf37
   refine thenQ.n (W.region ?_)
   refine sx rfl (pMove (v := (vI x5)) rfl h5) ?_
   refine SeqW.consX rfl (kField rfl Try.underlying36 rfl Try.type3 rfl h7 rfl ?_)
   refine SeqW.consX rfl (kLoad rfl Try.underlying3 rfl rfl (X30.load (v := (vI y21.mass)) rfl) ?_)
   refine sx rfl (pAdd (k := .i64) (a := x5) (b := y21.mass) rfl rfl rfl) ?_
   obtain ⟨y38, hy38, hr⟩ := lt_some hr
   refine sx rfl (pAssign rfl (congrArg (Value.int .i64) hy38)) ?_
   refine SeqW.done fun fr39 hf40 => ?_
   have h5 : fr39 5 = (vI y38) := (congrFun hf40 5).trans rfl
   have h12 := (congrFun hf40 12).trans h12
   have h13 := (congrFun hf40 13).trans h13
   have h14 := (congrFun hf40 14).trans h14
   clear hf40
   refine blockQ.n ?_
   refine thenQ.n (W.region ?_)
   refine sx rfl (pAdd (k := .i64) (a := x14) (b := 1) rfl h14 rfl) ?_
   refine sx rfl (pMove (v := (vI (IntKind.wrap .i64 (x14 + 1)))) rfl rfl) ?_
   refine SeqW.done fun fr41 hf42 => ?_
   have h5 := (congrFun hf42 5).trans h5
   have h12 := (congrFun hf42 12).trans h12
   have h13 := (congrFun hf42 13).trans h13
   have h14 : fr41 14 = (vI (IntKind.wrap .i64 (x14 + 1))) := (congrFun hf42 14).trans rfl
   clear hf42
   refine thenQ.n ?_
   exact ih hz st h5 h12 s12 h13 h14 hr
  ·refine W.condF h15 hc43 ?_
   refine W.exit ?_
   refine thenQ.x ?_
   refine thenQ.x ?_
   obtain rfl := Option.some.inj hr
   exact ⟨z, hz, st, rfl, h5, trivial⟩

theorem u_train_behind {N : Nat}  {z0 z : Nat → Blk} {e m : Mem} {k : Option Nat} {fr : Nat → Value} {x0 : Train} {x1 : Int} {v0_0 : Value} {v0_1 : Value} (hz : Zx e.next z0 z) (st : St z e m k) (h0 : fr 0 = (Value.agg [v0_0, v0_1, (vI x0.total.length), (vI x0.total.axles), (vI x0.total.mass), (vI x0.total.braked), (vI x0.total.percent), (vI x0.total.required), (vI x0.total.missing)].toArray)) (s0_0 : SlR TWagon z x0.l v0_0) (s0_1 : SlR (TInt 3 .i64) z x0.off v0_1) (h1 : fr 1 = (vI x1)) {r : Int} (hr : train_behind N x0 x1 = some r) : W Try.prog (sub (bodyOf Try.f54) []) (fun ex fr' m' => ∃ z', Zx e.next z0 z' ∧ St z' e m' k ∧ (ex = .normal ∨ ex = .ret) ∧ fr' 4 = (vI r) ∧ True) fr m := by
 unfold train_behind at hr
 refine W.seq (W.region ?_)
 refine SeqW.consX rfl (kBox (v := (Value.agg [v0_0, v0_1, (vI x0.total.length), (vI x0.total.axles), (vI x0.total.mass), (vI x0.total.braked), (vI x0.total.percent), (vI x0.total.required), (vI x0.total.missing)].toArray)) rfl Try.type63 h0 rfl [v0_0, v0_1, (vI x0.total.length), (vI x0.total.axles), (vI x0.total.mass), (vI x0.total.braked), (vI x0.total.percent), (vI x0.total.required), (vI x0.total.missing)] rfl rfl st ?_)
 intro B1 m2  st X3 sm4 hap5
 refine sx rfl (pAssign (v := (vI 0)) rfl rfl) ?_
 refine SeqW.done fun fr7 hf8 => ?_
 have h1 := (congrFun hf8 1).trans h1
 have h2 : fr7 2 = (vP B1) := (congrFun hf8 2).trans rfl
 clear hf8
 refine thenQ.n (W.seq (W.region ?_))
 refine sx rfl (pAssign (v := (vI 0)) rfl rfl) ?_
 refine SeqW.done fun fr9 hf10 => ?_
 have h1 := (congrFun hf10 1).trans h1
 have h2 := (congrFun hf10 2).trans h2
 have h5 : fr9 5 = (vI 0) := (congrFun hf10 5).trans rfl
 clear hf10
 refine thenQ.n (W.seq ?_)
 refine W.seq (W.region ?_)
 refine SeqW.consX rfl (kField rfl Try.underlying63 rfl Try.type24 rfl h2 rfl ?_)
 refine SeqW.consX rfl (kLoad rfl Try.underlying24 rfl rfl (X3.load (v := v0_0) rfl) ?_)
 refine sx rfl (pMove (v := (vI x1)) rfl h1) ?_
 refine sx rfl (pAdd (k := .i64) (a := x1) (b := 1) rfl rfl rfl) ?_
 obtain ⟨y11, hy11, hr⟩ := bind_some hr
 refine SeqW.consX rfl (kCut (T := TWagon) (xs := x0.l) (a := (IntKind.wrap .i64 (x1 + 1))) (b := (x0.l.length : Int)) rfl Try.underlying24 Try.type36 rfl rfl ⟨_, rfl⟩ rfl s0_0 st hy11 ?_)
 intro V12 _ hI14 Q13
 refine sx rfl (pLenR (xs := y11) rfl Try.underlying24 rfl Q13) ?_
 refine sx rfl (pMove (v := (vI 0)) rfl rfl) ?_
 refine SeqW.done fun fr16 hf17 => ?_
 have h5 := (congrFun hf17 5).trans h5
 have h12 : fr16 12 = V12 := (congrFun hf17 12).trans rfl
 have h13 : fr16 13 = (vI (y11.length : Int)) := (congrFun hf17 13).trans rfl
 have h14 : fr16 14 = (vI 0) := (congrFun hf17 14).trans rfl
 clear hf17
 refine thenQ.n ?_
 refine W.block ?_
 obtain ⟨y44, hy44, hr⟩ := bind_some hr
 refine W.keep (u_train_behind_0 _ (Zx.refl _) st h5 h12 Q13 h13 h14 hy44) ?_
 rintro ex50 fr45 m46 hk48 ⟨z47, hz49, st, rfl, h5, -⟩
 replace hz := hz.trans hz49
 clear hk48
 refine blockQ.hit ?_
 refine thenQ.n (W.seq (W.region ?_))
 refine sx rfl (pMove (v := (vI y44)) rfl h5) ?_
 refine sx rfl (pAssign (v := (vI y44)) rfl rfl) ?_
 refine SeqW.done fun fr51 hf52 => ?_
 have h4 : fr51 4 = (vI y44) := (congrFun hf52 4).trans rfl
 clear hf52
 refine thenQ.n ?_
 refine W.ret ?_
 obtain rfl := Option.some.inj hr
 exact ⟨z47, hz, st, .inr rfl, h4, trivial⟩

theorem c_train_behind {N : Nat} {z : Nat → Blk} {m : Mem} {x0 : Train} {x1 : Int} {v0_0 : Value} {v0_1 : Value} (fz : Fz z m) (hd : ∀ b, m.next ≤ b → m.blk b = .dead) (s0_0 : SlR TWagon z x0.l v0_0) (s0_1 : SlR (TInt 3 .i64) z x0.off v0_1) {r : Int} (hr : train_behind N x0 x1 = some r) : CallW Try.prog 54 #[(Value.agg [v0_0, v0_1, (vI x0.total.length), (vI x0.total.axles), (vI x0.total.mass), (vI x0.total.braked), (vI x0.total.percent), (vI x0.total.required), (vI x0.total.missing)].toArray), (vI x1)] m fun v m' => v = (vI r) ∧ m' = m := by
 refine CallW.flat Try.func54 rfl (by kernel_rfl) (Nat.le_of_ble_eq_true rfl) rfl (z := z) (fun fr hf => ?_)
 have h0 : fr 0 = _ := hf 0 _ rfl
 have h1 : fr 1 = _ := hf 1 _ rfl
 refine (u_train_behind (k := none) (Zx.refl _) (St.start fz hd) h0 s0_0 s0_1 h1 hr).mono ?_
 rintro ex fr' m' ⟨z', hz, st, he, h4, -⟩
 exact ⟨he, z', st, [(vI r)], ⟨h4.symm, trivial⟩, .inl rfl, rfl⟩

/-! ### (humpyard/rulebook.train).place$7 -/

theorem u_rulebook_train_place_7_0 {N : Nat}  {z0 z : Nat → Blk} {e m : Mem} {k : Option Nat} {fr : Nat → Value} {x0 : Int} {x2 : Rule} {x3 : Train} {x5 : Wagon} {b2 : Nat} {f2 : Nat} {b3 : Nat} {f3 : Nat} {v3_0 : Value} {v3_1 : Value} {b5 : Nat} (hz : Zx e.next z0 z) (st : St z e m k) (h0 : fr 0 = (vI x0)) (h2 : fr 2 = (Value.pointer (some ⟨b2, f2, none⟩))) (c2 : cellsAt z b2 f2 [(vI x2.number), (vI x2.kind), (vI x2.a), (vI x2.b), (vI x2.c)]) (h3 : fr 3 = (Value.pointer (some ⟨b3, f3, none⟩))) (s3_0 : SlR TWagon z x3.l v3_0) (s3_1 : SlR (TInt 3 .i64) z x3.off v3_1) (c3 : cellsAt z b3 f3 [v3_0, v3_1, (vI x3.total.length), (vI x3.total.axles), (vI x3.total.mass), (vI x3.total.braked), (vI x3.total.percent), (vI x3.total.required), (vI x3.total.missing)]) (h5 : fr 5 = (vP b5)) (bx5 : Bx z e m k b5 [(str x5.number), (vI x5.length), (vI x5.axles), (vI x5.mass), (vI x5.brake), (vI x5.goods), (vB x5.gentle), (str x5.dest)] 36) {r : Bool} (hr : rulebook_train_place_7_0 N x0 x2 x3 x5 = some r) : W Try.prog (sub (bodyOf Try.f53) [1, 0]) (fun ex fr' m' => ∃ z', Zx e.next z0 z' ∧ St z' e m' k ∧ ex = AExit.normal ∧ fr' 6 = (vB r) ∧ True) fr m := by
 unfold rulebook_train_place_7_0 at hr
 refine W.draw ?_
 refine DrawW.cons rfl (kField rfl Try.underlying36 rfl Try.type3 rfl h5 rfl ?_)
 refine ⟨trivial, ?_⟩
 refine DrawW.cons rfl (kLoad rfl Try.underlying3 rfl rfl (bx5.load (v := (vI x5.mass)) rfl) ?_)
 refine ⟨?_, ?_⟩
 ·exact demN
 refine DrawW.cons rfl (kField rfl Try.underlying32 rfl Try.type3 rfl h2 rfl ?_)
 refine ⟨trivial, ?_⟩
 refine DrawW.cons rfl (kLoad (v := (vI x2.a)) rfl Try.underlying3 rfl rfl (ldz_load st.fz (c2 2 _ rfl)) ?_)
 refine ⟨?_, ?_⟩
 ·exact demN
 refine DrawW.cons rfl (StepX.pure (pLeq (k := .i64) (a := x5.mass) (b := x2.a) rfl rfl rfl) ?_)
 refine ⟨trivial, ?_⟩
 refine DrawW.cons rfl (StepX.pure (pMove (v := (vB (decide (x5.mass ≤ x2.a)))) rfl rfl) ?_)
 refine ⟨trivial, ?_⟩
 rcases if_some hr with ⟨hc9, hr⟩ | ⟨hc15, hr⟩
 ·refine DrawW.consG rfl rfl rfl hc9 (kLoadA rfl Try.underlying63 rfl Try.type63 rfl h3 (st.loads c3) ?_)
  refine ⟨?_, ?_⟩
  ·exact demN
  refine DrawW.consG rfl rfl rfl hc9 (StepX.pure (pMove (v := (vI x0)) rfl h0) ?_)
  refine ⟨trivial, ?_⟩
  have sto10 := st
  obtain ⟨y11, hy11, hr⟩ := bind_some hr
  refine DrawW.consG rfl rfl rfl hc9 (StepX.call (gCallee rfl rfl (args2 rfl rfl)) ((c_train_behind (x0 := x3) (z := z) st.fz st.dead s3_0 s3_1 hy11).mono ?_))
  rintro _ _ ⟨rfl, rfl⟩
  refine ⟨⟨?_, ?_⟩, ?_⟩
  ·first | refine demP (gLoadA rfl Try.underlying63 rfl Try.type63 rfl h3 (st.loads c3)) ?_ | refine demA (by decide +kernel) ?_
   first | refine demP (gLoad (v := (vI x2.a)) rfl Try.underlying3 rfl rfl (ldz_load st.fz (c2 2 _ rfl))) ?_ | refine demA (by decide +kernel) ?_
   first | refine demP (gLoad rfl Try.underlying3 rfl rfl (bx5.load (v := (vI x5.mass)) rfl)) ?_ | refine demA (by decide +kernel) ?_
   exact demN
  ·exact demN
  refine DrawW.consG rfl rfl rfl hc9 (kField rfl Try.underlying32 rfl Try.type3 rfl h2 rfl ?_)
  refine ⟨trivial, ?_⟩
  refine DrawW.consG rfl rfl rfl hc9 (kLoad (v := (vI x2.b)) rfl Try.underlying3 rfl rfl (ldz_load st.fz (c2 3 _ rfl)) ?_)
  refine ⟨?_, ?_⟩
  ·first | refine demP (gLoad (v := (vI x2.b)) rfl Try.underlying3 rfl rfl (ldz_load sto10.fz (c2 3 _ rfl))) ?_ | refine demA (by decide +kernel) ?_
   exact demN
  refine DrawW.consG rfl rfl rfl hc9 (StepX.pure (pGtr (k := .i64) (a := y11) (b := x2.b) rfl rfl rfl) ?_)
  refine ⟨trivial, ?_⟩
  refine DrawW.cons rfl (StepX.pure (pPick (t := true) (v := (vB (decide (x2.b < y11)))) rfl ((congrArg vB hc9)) rfl) ?_)
  refine ⟨trivial, ?_⟩
  obtain ⟨y12, hy12, hr⟩ := lt_some hr
  refine DrawW.cons rfl (StepX.pure (pAssign rfl (congrArg vB hy12)) ?_)
  refine ⟨trivial, ?_⟩
  refine DrawW.done fun fr13 hf14 => ?_
  have h6 : fr13 6 = (vB y12) := (congrFun hf14 6).trans rfl
  clear hf14
  obtain rfl := Option.some.inj hr
  exact ⟨z, hz, st, rfl, h6, trivial⟩
 ·refine DrawW.skipG rfl rfl rfl hc15 ?_
  refine DrawW.skipG rfl rfl rfl hc15 ?_
  refine DrawW.skipG rfl rfl rfl hc15 ?_
  refine DrawW.skipG rfl rfl rfl hc15 ?_
  refine DrawW.skipG rfl rfl rfl hc15 ?_
  refine DrawW.skipG rfl rfl rfl hc15 ?_
  refine DrawW.cons rfl (StepX.pure (pPick (t := false) (v := (vB false)) rfl ((congrArg vB hc15)) rfl) ?_)
  refine ⟨trivial, ?_⟩
  refine DrawW.cons rfl (StepX.pure (pAssign (v := (vB false)) rfl rfl) ?_)
  refine ⟨trivial, ?_⟩
  refine DrawW.done fun fr16 hf17 => ?_
  have h6 : fr16 6 = (vB false) := (congrFun hf17 6).trans rfl
  clear hf17
  obtain rfl := Option.some.inj hr
  exact ⟨z, hz, st, rfl, h6, trivial⟩

theorem u_rulebook_train_place_7 {N : Nat}  {z0 z : Nat → Blk} {e m : Mem} {k : Option Nat} {fr : Nat → Value} {x0 : Int} {x1 : Wagon} {x2 : Rule} {x3 : Train} {b2 : Nat} {f2 : Nat} {b3 : Nat} {f3 : Nat} {v3_0 : Value} {v3_1 : Value} (hz : Zx e.next z0 z) (st : St z e m k) (h0 : fr 0 = (vI x0)) (h1 : fr 1 = (Value.agg [(str x1.number), (vI x1.length), (vI x1.axles), (vI x1.mass), (vI x1.brake), (vI x1.goods), (vB x1.gentle), (str x1.dest)].toArray)) (h2 : fr 2 = (Value.pointer (some ⟨b2, f2, none⟩))) (c2 : cellsAt z b2 f2 [(vI x2.number), (vI x2.kind), (vI x2.a), (vI x2.b), (vI x2.c)]) (h3 : fr 3 = (Value.pointer (some ⟨b3, f3, none⟩))) (s3_0 : SlR TWagon z x3.l v3_0) (s3_1 : SlR (TInt 3 .i64) z x3.off v3_1) (c3 : cellsAt z b3 f3 [v3_0, v3_1, (vI x3.total.length), (vI x3.total.axles), (vI x3.total.mass), (vI x3.total.braked), (vI x3.total.percent), (vI x3.total.required), (vI x3.total.missing)]) {r : Bool} (hr : rulebook_train_place_7 N x0 x1 x2 x3 = some r) : W Try.prog (sub (bodyOf Try.f53) []) (fun ex fr' m' => ∃ z', Zx e.next z0 z' ∧ St z' e m' k ∧ (ex = .normal ∨ ex = .ret) ∧ fr' 6 = (vB r) ∧ True) fr m := by
 unfold rulebook_train_place_7 at hr
 refine W.seq (W.region ?_)
 refine SeqW.consX rfl (kBox (v := (Value.agg [(str x1.number), (vI x1.length), (vI x1.axles), (vI x1.mass), (vI x1.brake), (vI x1.goods), (vB x1.gentle), (str x1.dest)].toArray)) rfl Try.type36 h1 rfl [(str x1.number), (vI x1.length), (vI x1.axles), (vI x1.mass), (vI x1.brake), (vI x1.goods), (vB x1.gentle), (str x1.dest)] rfl rfl st ?_)
 intro B1 m2  st X3 sm4 hap5
 refine sx rfl (pAssign (v := (vB false)) rfl rfl) ?_
 refine SeqW.done fun fr7 hf8 => ?_
 have h0 := (congrFun hf8 0).trans h0
 have h2 := (congrFun hf8 2).trans h2
 have h3 := (congrFun hf8 3).trans h3
 have h5 : fr7 5 = (vP B1) := (congrFun hf8 5).trans rfl
 clear hf8
 refine thenQ.n (W.seq ?_)
 obtain ⟨y18, hy18, hr⟩ := bind_some hr
 refine W.keep (u_rulebook_train_place_7_0 (x2 := x2) (x3 := x3) (x5 := x1) (Zx.refl _) st h0 h2 c2 h3 s3_0 s3_1 c3 h5 X3 hy18) ?_
 rintro ex24 fr19 m20 hk22 ⟨z21, hz23, st, rfl, h6, -⟩
 replace hz := hz.trans hz23
 clear hk22
 refine thenQ.n ?_
 refine W.ret ?_
 obtain rfl := Option.some.inj hr
 exact ⟨z21, hz, st, .inr rfl, h6, trivial⟩

theorem c_rulebook_train_place_7 {N : Nat} {z : Nat → Blk} {m : Mem} {x0 : Int} {x1 : Wagon} {x2 : Rule} {x3 : Train} {b2 : Nat} {f2 : Nat} {b3 : Nat} {f3 : Nat} {v3_0 : Value} {v3_1 : Value} (fz : Fz z m) (hd : ∀ b, m.next ≤ b → m.blk b = .dead) (c2 : cellsAt z b2 f2 [(vI x2.number), (vI x2.kind), (vI x2.a), (vI x2.b), (vI x2.c)]) (s3_0 : SlR TWagon z x3.l v3_0) (s3_1 : SlR (TInt 3 .i64) z x3.off v3_1) (c3 : cellsAt z b3 f3 [v3_0, v3_1, (vI x3.total.length), (vI x3.total.axles), (vI x3.total.mass), (vI x3.total.braked), (vI x3.total.percent), (vI x3.total.required), (vI x3.total.missing)]) {r : Bool} (hr : rulebook_train_place_7 N x0 x1 x2 x3 = some r) : CallW Try.prog 53 #[(vI x0), (Value.agg [(str x1.number), (vI x1.length), (vI x1.axles), (vI x1.mass), (vI x1.brake), (vI x1.goods), (vB x1.gentle), (str x1.dest)].toArray), (Value.pointer (some ⟨b2, f2, none⟩)), (Value.pointer (some ⟨b3, f3, none⟩))] m fun v m' => v = (vB r) ∧ m' = m := by
 refine CallW.flat Try.func53 rfl (by kernel_rfl) (Nat.le_of_ble_eq_true rfl) rfl (z := z) (fun fr hf => ?_)
 have h0 : fr 0 = _ := hf 0 _ rfl
 have h1 : fr 1 = _ := hf 1 _ rfl
 have h2 : fr 2 = _ := hf 2 _ rfl
 have h3 : fr 3 = _ := hf 3 _ rfl
 refine (u_rulebook_train_place_7 (k := none) (Zx.refl _) (St.start fz hd) h0 h1 h2 c2 h3 s3_0 s3_1 c3 hr).mono ?_
 rintro ex fr' m' ⟨z', hz, st, he, h6, -⟩
 exact ⟨he, z', st, [(vB r)], ⟨h6.symm, trivial⟩, .inl rfl, rfl⟩

/-! ### (humpyard/rulebook.train).first -/

theorem u_train_first__rulebook_train_place_7_0 : ∀ (n : Nat) {N : Nat}  {z0 z : Nat → Blk} {e m : Mem} {k : Option Nat} {fr : Nat → Value} {x1 : Rule × Train} {x8 : List Wagon} {x9 : Int} {x10 : Int} {b1_0 : Nat} {f1_0 : Nat} {b1_1 : Nat} {f1_1 : Nat} {v1_1_0 : Value} {v1_1_1 : Value} {v8 : Value} (hz : Zx e.next z0 z) (st : St z e m k) (h1 : fr 1 = (Value.func (.func 53) #[] #[(Value.pointer (some ⟨b1_0, f1_0, none⟩)), (Value.pointer (some ⟨b1_1, f1_1, none⟩))])) (c1_0 : cellsAt z b1_0 f1_0 [(vI x1.1.number), (vI x1.1.kind), (vI x1.1.a), (vI x1.1.b), (vI x1.1.c)]) (s1_1_0 : SlR TWagon z x1.2.l v1_1_0) (s1_1_1 : SlR (TInt 3 .i64) z x1.2.off v1_1_1) (c1_1 : cellsAt z b1_1 f1_1 [v1_1_0, v1_1_1, (vI x1.2.total.length), (vI x1.2.total.axles), (vI x1.2.total.mass), (vI x1.2.total.braked), (vI x1.2.total.percent), (vI x1.2.total.required), (vI x1.2.total.missing)]) (h8 : fr 8 = v8) (s8 : SlR TWagon z x8 v8) (h9 : fr 9 = (vI x9)) (h10 : fr 10 = (vI x10)) {r : Sum (Unit) (Int)} (hr : train_first__rulebook_train_place_7_0 N x1 x8 x9 n x10 = some r), W Try.prog (sub (bodyOf Try.f47) [1, 0, 1, 0]) (fun ex fr' m' => ∃ z', Zx e.next z0 z' ∧ St z' e m' k ∧ ((∃ q, r = Sum.inl q ∧ ex = AExit.exit 0 ∧ True) ∨ (∃ q, r = Sum.inr q ∧ ex = AExit.ret ∧ fr' 4 = (vI q) ∧ True))) fr m := by
 intro n
 induction n with
 | zero => intro N z0 z e m k fr x1 x8 x9 x10 b1_0 f1_0 b1_1 f1_1 v1_1_0 v1_1_1 v8 hz st h1 c1_0 s1_1_0 s1_1_1 c1_1 h8 s8 h9 h10 r hr; cases (show (none : Option _) = some r from hr)
 | succ n ih =>
  intro N z0 z e m k fr x1 x8 x9 x10 b1_0 f1_0 b1_1 f1_1 v1_1_0 v1_1_1 v8 hz st h1 c1_0 s1_1_0 s1_1_1 c1_1 h8 s8 h9 h10 r hr
  unfold train_first__rulebook_train_place_7_0 at hr
  refine W.loop1 ?_
  refine W.seq (W.region ?_)
  refine sx rfl (pLss (k := .i64) (a := x10) (b := x9) rfl h10 h9) ?_
  refine SeqW.done fun fr11 hf12 => ?_
  have h1 := (congrFun hf12 1).trans h1
  have h8 := (congrFun hf12 8).trans h8
  have h9 := (congrFun hf12 9).trans h9
  have h10 := (congrFun hf12 10).trans h10
  have h11 : fr11 11 = (vB (decide (x10 < x9))) := (congrFun hf12 11).trans rfl
  clear hf12
  refine thenQ.n (W.seq ?_)
  rcases if_some hr with ⟨hc13, hr⟩ | ⟨hc40, hr⟩
  ·refine W.condT h11 hc13 (W.skip ?_)
   refine thenQ.n (W.seq ?_)
   refine W.block ?_
   refine W.seq (W.region ?_)
   refine sx rfl (pMove (v := (vI x10)) rfl h10) ?_
   obtain ⟨y14, hy14, hr⟩ := bind_some hr
   refine SeqW.consX rfl (kIdxR (T := TWagon) (xs := x8) (n := x10) rfl Try.underlying24 Try.type36 rfl h8 h10 s8 hy14 ?_)
   intro B15 f16 cs17 hd18 hc19
   obtain rfl := hd18
   refine SeqW.consX rfl (kLoadA rfl Try.underlying36 rfl Try.type36 rfl rfl (st.loads hc19) ?_)
   refine SeqW.consX rfl (kAlloc rfl Try.type36 rfl rfl rfl [(str []), (vI 0), (vI 0), (vI 0), (vI 0), (vI 0), (vB false), (str [])] rfl st ?_)
   intro B21 m22  st X23 sm24 hap25
   refine sx rfl (pAssign (v := (vI x10)) rfl rfl) ?_
   refine SeqW.consX rfl (kPut (off := 0) (w := (Value.agg [(str y14.number), (vI y14.length), (vI y14.axles), (vI y14.mass), (vI y14.brake), (vI y14.goods), (vB y14.gentle), (str y14.dest)].toArray)) (new := [(str y14.number), (vI y14.length), (vI y14.axles), (vI y14.mass), (vI y14.brake), (vI y14.goods), (vB y14.gentle), (str y14.dest)]) rfl Try.type36 rfl rfl rfl rfl rfl X23 rfl [(str y14.number), (vI y14.length), (vI y14.axles), (vI y14.mass), (vI y14.brake), (vI y14.goods), (vB y14.gentle), (str y14.dest)] rfl st ?_)
   intro m27 st X23 sm28
   refine SeqW.done fun fr29 hf30 => ?_
   have h1 := (congrFun hf30 1).trans h1
   have h5 : fr29 5 = (vI x10) := (congrFun hf30 5).trans rfl
   have h6 : fr29 6 = (vP B21) := (congrFun hf30 6).trans rfl
   have h8 := (congrFun hf30 8).trans h8
   have h9 := (congrFun hf30 9).trans h9
   have h10 := (congrFun hf30 10).trans h10
   clear hf30
   refine thenQ.n (W.seq (W.region ?_))
   refine sx rfl (pMove (v := (Value.func (.func 53) #[] #[(Value.pointer (some ⟨b1_0, f1_0, none⟩)), (Value.pointer (some ⟨b1_1, f1_1, none⟩))])) rfl h1) ?_
   refine sx rfl (pMove (v := (vI x10)) rfl h5) ?_
   refine SeqW.consX rfl (kLoadA rfl Try.underlying36 rfl Try.type36 rfl h6 X23.loads ?_)
   obtain ⟨y31, hy31, hr⟩ := bind_some hr
   refine SeqW.consX rfl (StepX.call (gCalleeV (args := #[(vI x10), (Value.agg [(str y14.number), (vI y14.length), (vI y14.axles), (vI y14.mass), (vI y14.brake), (vI y14.goods), (vB y14.gentle), (str y14.dest)].toArray)]) (caps := #[(Value.pointer (some ⟨b1_0, f1_0, none⟩)), (Value.pointer (some ⟨b1_1, f1_1, none⟩))]) rfl rfl (args2 rfl rfl) rfl) ((c_rulebook_train_place_7 (x1 := y14) (x2 := x1.1) (x3 := x1.2) (z := z) st.fz st.dead c1_0 s1_1_0 s1_1_1 c1_1 hy31).mono ?_))
   rintro _ _ ⟨rfl, rfl⟩
   refine SeqW.done fun fr32 hf33 => ?_
   have h1 := (congrFun hf33 1).trans h1
   have h5 := (congrFun hf33 5).trans h5
   have h8 := (congrFun hf33 8).trans h8
   have h9 := (congrFun hf33 9).trans h9
   have h10 := (congrFun hf33 10).trans h10
   have h18 : fr32 18 = (vB y31) := (congrFun hf33 18).trans rfl
   clear hf33
   refine thenQ.n ?_
   rcases if_some hr with ⟨hc34, hr⟩ | ⟨hc37, hr⟩
   ·refine W.condT h18 hc34 (W.seq (W.region ?_))
    refine sx rfl (pMove (v := (vI x10)) rfl h5) ?_
    refine sx rfl (pAssign (v := (vI x10)) rfl rfl) ?_
    refine SeqW.done fun fr35 hf36 => ?_
    have h4 : fr35 4 = (vI x10) := (congrFun hf36 4).trans rfl
    clear hf36
    refine thenQ.n ?_
    refine W.ret ?_
    refine blockQ.r ?_
    refine thenQ.r ?_
    refine thenQ.r ?_
    obtain rfl := Option.some.inj hr
    exact ⟨z, hz, st, .inr ⟨_, rfl, rfl, h4, trivial⟩⟩
   ·refine W.condF h18 hc37 (W.skip ?_)
    refine blockQ.n ?_
    refine thenQ.n (W.region ?_)
    refine sx rfl (pAdd (k := .i64) (a := x10) (b := 1) rfl h10 rfl) ?_
    refine sx rfl (pMove (v := (vI (IntKind.wrap .i64 (x10 + 1)))) rfl rfl) ?_
    refine SeqW.done fun fr38 hf39 => ?_
    have h1 := (congrFun hf39 1).trans h1
    have h8 := (congrFun hf39 8).trans h8
    have h9 := (congrFun hf39 9).trans h9
    have h10 : fr38 10 = (vI (IntKind.wrap .i64 (x10 + 1))) := (congrFun hf39 10).trans rfl
    clear hf39
    refine thenQ.n ?_
    exact ih (x1 := x1) hz st h1 c1_0 s1_1_0 s1_1_1 c1_1 h8 s8 h9 h10 hr
  ·refine W.condF h11 hc40 ?_
   refine W.exit ?_
   refine thenQ.x ?_
   refine thenQ.x ?_
   obtain rfl := Option.some.inj hr
   exact ⟨z, hz, st, .inl ⟨_, rfl, rfl, trivial⟩⟩

theorem u_train_first__rulebook_train_place_7 {N : Nat}  {z0 z : Nat → Blk} {e m : Mem} {k : Option Nat} {fr : Nat → Value} {x0 : Train} {x1 : Rule × Train} {v0_0 : Value} {v0_1 : Value} {b1_0 : Nat} {f1_0 : Nat} {b1_1 : Nat} {f1_1 : Nat} {v1_1_0 : Value} {v1_1_1 : Value} (hz : Zx e.next z0 z) (st : St z e m k) (h0 : fr 0 = (Value.agg [v0_0, v0_1, (vI x0.total.length), (vI x0.total.axles), (vI x0.total.mass), (vI x0.total.braked), (vI x0.total.percent), (vI x0.total.required), (vI x0.total.missing)].toArray)) (s0_0 : SlR TWagon z x0.l v0_0) (s0_1 : SlR (TInt 3 .i64) z x0.off v0_1) (h1 : fr 1 = (Value.func (.func 53) #[] #[(Value.pointer (some ⟨b1_0, f1_0, none⟩)), (Value.pointer (some ⟨b1_1, f1_1, none⟩))])) (c1_0 : cellsAt z b1_0 f1_0 [(vI x1.1.number), (vI x1.1.kind), (vI x1.1.a), (vI x1.1.b), (vI x1.1.c)]) (s1_1_0 : SlR TWagon z x1.2.l v1_1_0) (s1_1_1 : SlR (TInt 3 .i64) z x1.2.off v1_1_1) (c1_1 : cellsAt z b1_1 f1_1 [v1_1_0, v1_1_1, (vI x1.2.total.length), (vI x1.2.total.axles), (vI x1.2.total.mass), (vI x1.2.total.braked), (vI x1.2.total.percent), (vI x1.2.total.required), (vI x1.2.total.missing)]) {r : Int} (hr : train_first__rulebook_train_place_7 N x0 x1 = some r) : W Try.prog (sub (bodyOf Try.f47) []) (fun ex fr' m' => ∃ z', Zx e.next z0 z' ∧ St z' e m' k ∧ (ex = .normal ∨ ex = .ret) ∧ fr' 4 = (vI r) ∧ True) fr m := by
 unfold train_first__rulebook_train_place_7 at hr
 refine W.seq (W.region ?_)
 refine SeqW.consX rfl (kBox (v := (Value.agg [v0_0, v0_1, (vI x0.total.length), (vI x0.total.axles), (vI x0.total.mass), (vI x0.total.braked), (vI x0.total.percent), (vI x0.total.required), (vI x0.total.missing)].toArray)) rfl Try.type63 h0 rfl [v0_0, v0_1, (vI x0.total.length), (vI x0.total.axles), (vI x0.total.mass), (vI x0.total.braked), (vI x0.total.percent), (vI x0.total.required), (vI x0.total.missing)] rfl rfl st ?_)
 intro B1 m2  st X3 sm4 hap5
 refine sx rfl (pAssign (v := (vI 0)) rfl rfl) ?_
 refine SeqW.done fun fr7 hf8 => ?_
 have h1 := (congrFun hf8 1).trans h1
 have h2 : fr7 2 = (vP B1) := (congrFun hf8 2).trans rfl
 clear hf8
 refine thenQ.n (W.seq ?_)
 refine W.seq (W.region ?_)
 refine SeqW.consX rfl (kField rfl Try.underlying63 rfl Try.type24 rfl h2 rfl ?_)
 refine SeqW.consX rfl (kLoad rfl Try.underlying24 rfl rfl (X3.load (v := v0_0) rfl) ?_)
 refine sx rfl (pLenR (xs := x0.l) rfl Try.underlying24 rfl s0_0) ?_
 refine sx rfl (pMove (v := (vI 0)) rfl rfl) ?_
 refine SeqW.done fun fr9 hf10 => ?_
 have h1 := (congrFun hf10 1).trans h1
 have h8 : fr9 8 = v0_0 := (congrFun hf10 8).trans rfl
 have h9 : fr9 9 = (vI (x0.l.length : Int)) := (congrFun hf10 9).trans rfl
 have h10 : fr9 10 = (vI 0) := (congrFun hf10 10).trans rfl
 clear hf10
 refine thenQ.n ?_
 refine W.block ?_
 obtain ⟨y41, hy41, hr⟩ := bind_some hr
 refine W.keep (u_train_first__rulebook_train_place_7_0 (x1 := x1) _ (Zx.refl _) st h1 c1_0 s1_1_0 s1_1_1 c1_1 h8 s0_0 h9 h10 hy41) ?_
 rintro ex47 fr42 m43 hk45 ⟨z44, hz46, st, ⟨y48, rfl, rfl, -⟩ | ⟨y51, rfl, rfl, h4, -⟩⟩
 ·dsimp only at hr
  replace hz := hz.trans hz46
  clear hk45
  refine blockQ.hit ?_
  refine thenQ.n (W.seq (W.region ?_))
  refine sx rfl (pAssign (v := (vI (-1))) rfl rfl) ?_
  refine SeqW.done fun fr49 hf50 => ?_
  have h4 : fr49 4 = (vI (-1)) := (congrFun hf50 4).trans rfl
  clear hf50
  refine thenQ.n ?_
  refine W.ret ?_
  obtain rfl := Option.some.inj hr
  exact ⟨z44, hz, st, .inr rfl, h4, trivial⟩
 ·dsimp only at hr
  replace hz := hz.trans hz46
  clear hk45
  refine blockQ.r ?_
  refine thenQ.r ?_
  obtain rfl := Option.some.inj hr
  exact ⟨z44, hz, st, .inr rfl, h4, trivial⟩

theorem c_train_first__rulebook_train_place_7 {N : Nat} {z : Nat → Blk} {m : Mem} {x0 : Train} {x1 : Rule × Train} {v0_0 : Value} {v0_1 : Value} {b1_0 : Nat} {f1_0 : Nat} {b1_1 : Nat} {f1_1 : Nat} {v1_1_0 : Value} {v1_1_1 : Value} (fz : Fz z m) (hd : ∀ b, m.next ≤ b → m.blk b = .dead) (s0_0 : SlR TWagon z x0.l v0_0) (s0_1 : SlR (TInt 3 .i64) z x0.off v0_1) (c1_0 : cellsAt z b1_0 f1_0 [(vI x1.1.number), (vI x1.1.kind), (vI x1.1.a), (vI x1.1.b), (vI x1.1.c)]) (s1_1_0 : SlR TWagon z x1.2.l v1_1_0) (s1_1_1 : SlR (TInt 3 .i64) z x1.2.off v1_1_1) (c1_1 : cellsAt z b1_1 f1_1 [v1_1_0, v1_1_1, (vI x1.2.total.length), (vI x1.2.total.axles), (vI x1.2.total.mass), (vI x1.2.total.braked), (vI x1.2.total.percent), (vI x1.2.total.required), (vI x1.2.total.missing)]) {r : Int} (hr : train_first__rulebook_train_place_7 N x0 x1 = some r) : CallW Try.prog 47 #[(Value.agg [v0_0, v0_1, (vI x0.total.length), (vI x0.total.axles), (vI x0.total.mass), (vI x0.total.braked), (vI x0.total.percent), (vI x0.total.required), (vI x0.total.missing)].toArray), (Value.func (.func 53) #[] #[(Value.pointer (some ⟨b1_0, f1_0, none⟩)), (Value.pointer (some ⟨b1_1, f1_1, none⟩))])] m fun v m' => v = (vI r) ∧ m' = m := by
 refine CallW.flat Try.func47 rfl (by kernel_rfl) (Nat.le_of_ble_eq_true rfl) rfl (z := z) (fun fr hf => ?_)
 have h0 : fr 0 = _ := hf 0 _ rfl
 have h1 : fr 1 = _ := hf 1 _ rfl
 refine (u_train_first__rulebook_train_place_7 (k := none) (Zx.refl _) (St.start fz hd) h0 s0_0 s0_1 h1 c1_0 s1_1_0 s1_1_1 c1_1 hr).mono ?_
 rintro ex fr' m' ⟨z', hz, st, he, h4, -⟩
 exact ⟨he, z', st, [(vI r)], ⟨h4.symm, trivial⟩, .inl rfl, rfl⟩

/-! ### (humpyard/rulebook.train).place -/

theorem u_train_place_0 {N : Nat}  {z0 z : Nat → Blk} {e m : Mem} {k : Option Nat} {fr : Nat → Value} {x2 : Train} {x3 : Rule} {v2_0 : Value} {v2_1 : Value} {b2 : Nat} {b3 : Nat} (hz : Zx e.next z0 z) (st : St z e m k) (h2 : fr 2 = (vP b2)) (s2_0 : SlR TWagon z x2.l v2_0) (s2_1 : SlR (TInt 3 .i64) z x2.off v2_1) (bx2 : Bx z e m k b2 [v2_0, v2_1, (vI x2.total.length), (vI x2.total.axles), (vI x2.total.mass), (vI x2.total.braked), (vI x2.total.percent), (vI x2.total.required), (vI x2.total.missing)] 63) (h3 : fr 3 = (vP b3)) (bx3 : Bx z e m k b3 [(vI x3.number), (vI x3.kind), (vI x3.a), (vI x3.b), (vI x3.c)] 32) (ao2_o3 : Ap (some b2) (some b3)) {r : Int} (hr : train_place_0 N x2 x3 = some r) : W Try.prog (sub (bodyOf Try.f30) [1, 0, 1, 0, 1, 1, 1, 1, 1, 1, 1, 0, 0]) (fun ex fr' m' => ∃ z', Zx e.next z0 z' ∧ St z' e m' k ∧ ex = AExit.normal ∧ fr' 4 = (vI r) ∧ True) fr m := by
 unfold train_place_0 at hr
 refine W.region ?_
 refine SeqW.consX rfl (kLoadA rfl Try.underlying63 rfl Try.type63 rfl h2 bx2.loads ?_)
 refine SeqW.consX rfl (kField rfl Try.underlying63 rfl Try.type24 rfl h2 rfl ?_)
 refine SeqW.consX rfl (kLoad rfl Try.underlying24 rfl rfl (bx2.load (v := v2_0) rfl) ?_)
 refine sx rfl (pLenR (xs := x2.l) rfl Try.underlying24 rfl s2_0) ?_
 refine sx rfl (pGtr (k := .i64) (a := (x2.l.length : Int)) (b := 0) rfl rfl rfl) ?_
 refine sx rfl (pMove (v := (vB (decide (0 < (x2.l.length : Int))))) rfl rfl) ?_
 rcases if_some hr with ⟨hc48, hr⟩ | ⟨hc52, hr⟩
 ·refine SeqW.consG rfl rfl rfl hc48 (kField rfl Try.underlying63 rfl Try.type59 rfl h2 rfl ?_)
  refine SeqW.consG rfl rfl rfl hc48 (kField rfl Try.underlying59 rfl Try.type3 rfl rfl rfl ?_)
  refine SeqW.consG rfl rfl rfl hc48 (kLoad rfl Try.underlying3 rfl rfl (bx2.load (v := (vI x2.total.percent)) rfl) ?_)
  refine SeqW.consG rfl rfl rfl hc48 (kField rfl Try.underlying32 rfl Try.type3 rfl h3 rfl ?_)
  refine SeqW.consG rfl rfl rfl hc48 (kLoad rfl Try.underlying3 rfl rfl (bx3.load (v := (vI x3.a)) rfl) ?_)
  refine SeqW.consG rfl rfl rfl hc48 (StepX.pure (pLss (k := .i64) (a := x2.total.percent) (b := x3.a) rfl rfl rfl) ?_)
  refine sx rfl (pPick (t := true) (v := (vB (decide (x2.total.percent < x3.a)))) rfl ((congrArg vB hc48)) rfl) ?_
  obtain ⟨y49, hy49, hr⟩ := bind_some hr
  refine SeqW.consX rfl (StepX.call (gCallee rfl rfl (args2 rfl rfl)) ((c_train_end (x0 := x2) (z := z) st.fz st.dead s2_0 s2_1 hy49).mono ?_))
  rintro _ _ ⟨rfl, rfl⟩
  refine sx rfl (pAssign (v := (vI y49)) rfl rfl) ?_
  refine SeqW.done fun fr50 hf51 => ?_
  have h4 : fr50 4 = (vI y49) := (congrFun hf51 4).trans rfl
  clear hf51
  obtain rfl := Option.some.inj hr
  exact ⟨z, hz, st, rfl, h4, trivial⟩
 ·refine kx rfl rfl rfl hc52 ?_
  iterate 5 refine kx rfl rfl rfl hc52 ?_
  refine sx rfl (pPick (t := false) (v := (vB false)) rfl ((congrArg vB hc52)) rfl) ?_
  obtain ⟨y53, hy53, hr⟩ := bind_some hr
  refine SeqW.consX rfl (StepX.call (gCallee rfl rfl (args2 rfl rfl)) ((c_train_end (x0 := x2) (z := z) st.fz st.dead s2_0 s2_1 hy53).mono ?_))
  rintro _ _ ⟨rfl, rfl⟩
  refine sx rfl (pAssign (v := (vI y53)) rfl rfl) ?_
  refine SeqW.done fun fr54 hf55 => ?_
  have h4 : fr54 4 = (vI y53) := (congrFun hf55 4).trans rfl
  clear hf55
  obtain rfl := Option.some.inj hr
  exact ⟨z, hz, st, rfl, h4, trivial⟩

theorem u_train_place {N : Nat}  {z0 z : Nat → Blk} {e m : Mem} {k : Option Nat} {fr : Nat → Value} {x0 : Train} {x1 : Rule} {v0_0 : Value} {v0_1 : Value} (hz : Zx e.next z0 z) (st : St z e m k) (h0 : fr 0 = (Value.agg [v0_0, v0_1, (vI x0.total.length), (vI x0.total.axles), (vI x0.total.mass), (vI x0.total.braked), (vI x0.total.percent), (vI x0.total.required), (vI x0.total.missing)].toArray)) (s0_0 : SlR TWagon z x0.l v0_0) (s0_1 : SlR (TInt 3 .i64) z x0.off v0_1) (h1 : fr 1 = (Value.agg [(vI x1.number), (vI x1.kind), (vI x1.a), (vI x1.b), (vI x1.c)].toArray)) {r : Int} (hr : train_place N x0 x1 = some r) : W Try.prog (sub (bodyOf Try.f30) []) (fun ex fr' m' => ∃ z', Zx e.next z0 z' ∧ St z' e m' k ∧ (ex = .normal ∨ ex = .ret) ∧ fr' 4 = (vI r) ∧ True) fr m := by
 unfold train_place at hr
 refine W.seq (W.region ?_)
 refine SeqW.consX rfl (kBoxN (v := (Value.agg [v0_0, v0_1, (vI x0.total.length), (vI x0.total.axles), (vI x0.total.mass), (vI x0.total.braked), (vI x0.total.percent), (vI x0.total.required), (vI x0.total.missing)].toArray)) rfl Try.type63 h0 rfl [v0_0, v0_1, (vI x0.total.length), (vI x0.total.axles), (vI x0.total.mass), (vI x0.total.braked), (vI x0.total.percent), (vI x0.total.required), (vI x0.total.missing)] rfl rfl st ?_)
 intro B1 m2 hn6 st X3 sm4 hap5
 refine SeqW.consX rfl (kBoxN (v := (Value.agg [(vI x1.number), (vI x1.kind), (vI x1.a), (vI x1.b), (vI x1.c)].toArray)) rfl Try.type32 h1 rfl [(vI x1.number), (vI x1.kind), (vI x1.a), (vI x1.b), (vI x1.c)] rfl rfl st ?_)
 intro B8 m9 hn13 st X10 sm11 hap12
 have A15 := hap12 _ X3.lt'
 replace X3 := X3.same sm11 Ap.none'
 refine sx rfl (pAssign (v := (vI 0)) rfl rfl) ?_
 refine SeqW.done fun fr16 hf17 => ?_
 have h2 : fr16 2 = (vP B1) := (congrFun hf17 2).trans rfl
 have h3 : fr16 3 = (vP B8) := (congrFun hf17 3).trans rfl
 clear hf17
 refine thenQ.n (W.seq ?_)
 refine W.seq (W.region ?_)
 refine SeqW.consX rfl (kField rfl Try.underlying32 rfl Try.type3 rfl h3 rfl ?_)
 refine SeqW.consX rfl (kLoad rfl Try.underlying3 rfl rfl (X10.load (v := (vI x1.kind)) rfl) ?_)
 refine SeqW.done fun fr18 hf19 => ?_
 have h2 := (congrFun hf19 2).trans h2
 have h3 := (congrFun hf19 3).trans h3
 have h6 : fr18 6 = (vI x1.kind) := (congrFun hf19 6).trans rfl
 clear hf19
 refine thenQ.n ?_
 refine W.block ?_
 refine W.seq (W.region ?_)
 refine sx rfl (pEql (k := .i64) (a := x1.kind) (b := 1) rfl h6 rfl) ?_
 obtain ⟨y20, hy20, hr⟩ := lt_some hr
 refine sx rfl (pAssign rfl (congrArg vB hy20)) ?_
 refine SeqW.done fun fr21 hf22 => ?_
 have h2 := (congrFun hf22 2).trans h2
 have h3 := (congrFun hf22 3).trans h3
 have h6 := (congrFun hf22 6).trans h6
 have h7 : fr21 7 = (vB y20) := (congrFun hf22 7).trans rfl
 clear hf22
 refine thenQ.n ?_
 rcases if_some hr with ⟨hc23, hr⟩ | ⟨hc27, hr⟩
 ·refine W.condT h7 hc23 (W.seq (W.region ?_))
  refine SeqW.consX rfl (kLoadA rfl Try.underlying63 rfl Try.type63 rfl h2 X3.loads ?_)
  refine SeqW.consX rfl (kField rfl Try.underlying32 rfl Try.type3 rfl h3 rfl ?_)
  refine SeqW.consX rfl (kLoad rfl Try.underlying3 rfl rfl (X10.load (v := (vI x1.a)) rfl) ?_)
  obtain ⟨y24, hy24, hr⟩ := bind_some hr
  refine SeqW.consX rfl (StepX.call (gCallee rfl rfl (args3 rfl rfl rfl)) ((c_train_beyond__rulebook_train_place_1 (x0 := x0) (z := z) st.fz st.dead s0_0 s0_1 hy24).mono ?_))
  rintro _ _ ⟨rfl, rfl⟩
  refine sx rfl (pAssign (v := (vI y24)) rfl rfl) ?_
  refine SeqW.done fun fr25 hf26 => ?_
  have h4 : fr25 4 = (vI y24) := (congrFun hf26 4).trans rfl
  clear hf26
  refine thenQ.n ?_
  refine W.ret ?_
  refine blockQ.r ?_
  refine thenQ.r ?_
  obtain rfl := Option.some.inj hr
  exact ⟨z, hz, st, .inr rfl, h4, trivial⟩
 ·refine W.condF h7 hc27 (W.seq (W.region ?_))
  refine sx rfl (pEql (k := .i64) (a := x1.kind) (b := 2) rfl h6 rfl) ?_
  obtain ⟨y28, hy28, hr⟩ := lt_some hr
  refine sx rfl (pAssign rfl (congrArg vB hy28)) ?_
  refine SeqW.done fun fr29 hf30 => ?_
  have h2 := (congrFun hf30 2).trans h2
  have h3 := (congrFun hf30 3).trans h3
  have h6 := (congrFun hf30 6).trans h6
  have h13 : fr29 13 = (vB y28) := (congrFun hf30 13).trans rfl
  clear hf30
  refine thenQ.n ?_
  rcases if_some hr with ⟨hc31, hr⟩ | ⟨hc35, hr⟩
  ·refine W.condT h13 hc31 (W.seq (W.region ?_))
   refine SeqW.consX rfl (kLoadA rfl Try.underlying63 rfl Try.type63 rfl h2 X3.loads ?_)
   refine SeqW.consX rfl (kField rfl Try.underlying32 rfl Try.type3 rfl h3 rfl ?_)
   refine SeqW.consX rfl (kLoad rfl Try.underlying3 rfl rfl (X10.load (v := (vI x1.a)) rfl) ?_)
   obtain ⟨y32, hy32, hr⟩ := bind_some hr
   refine SeqW.consX rfl (StepX.call (gCallee rfl rfl (args3 rfl rfl rfl)) ((c_train_beyond__rulebook_train_place_2 (x0 := x0) (z := z) st.fz st.dead s0_0 s0_1 hy32).mono ?_))
   rintro _ _ ⟨rfl, rfl⟩
   refine sx rfl (pAssign (v := (vI y32)) rfl rfl) ?_
   refine SeqW.done fun fr33 hf34 => ?_
   have h4 : fr33 4 = (vI y32) := (congrFun hf34 4).trans rfl
   clear hf34
   refine thenQ.n ?_
   refine W.ret ?_
   refine blockQ.r ?_
   refine thenQ.r ?_
   obtain rfl := Option.some.inj hr
   exact ⟨z, hz, st, .inr rfl, h4, trivial⟩
  ·refine W.condF h13 hc35 (W.seq (W.region ?_))
   refine sx rfl (pEql (k := .i64) (a := x1.kind) (b := 3) rfl h6 rfl) ?_
   obtain ⟨y36, hy36, hr⟩ := lt_some hr
   refine sx rfl (pAssign rfl (congrArg vB hy36)) ?_
   refine SeqW.done fun fr37 hf38 => ?_
   have h2 := (congrFun hf38 2).trans h2
   have h3 := (congrFun hf38 3).trans h3
   have h6 := (congrFun hf38 6).trans h6
   have h19 : fr37 19 = (vB y36) := (congrFun hf38 19).trans rfl
   clear hf38
   refine thenQ.n ?_
   rcases if_some hr with ⟨hc39, hr⟩ | ⟨hc43, hr⟩
   ·refine W.condT h19 hc39 (W.seq (W.region ?_))
    refine SeqW.consX rfl (kLoadA rfl Try.underlying63 rfl Try.type63 rfl h2 X3.loads ?_)
    refine SeqW.consX rfl (kField rfl Try.underlying32 rfl Try.type3 rfl h3 rfl ?_)
    refine SeqW.consX rfl (kLoad rfl Try.underlying3 rfl rfl (X10.load (v := (vI x1.a)) rfl) ?_)
    obtain ⟨y40, hy40, hr⟩ := bind_some hr
    refine SeqW.consX rfl (StepX.call (gCallee rfl rfl (args3 rfl rfl rfl)) ((c_train_beyond__rulebook_train_place_3 (x0 := x0) (z := z) st.fz st.dead s0_0 s0_1 hy40).mono ?_))
    rintro _ _ ⟨rfl, rfl⟩
    refine sx rfl (pAssign (v := (vI y40)) rfl rfl) ?_
    refine SeqW.done fun fr41 hf42 => ?_
    have h4 : fr41 4 = (vI y40) := (congrFun hf42 4).trans rfl
    clear hf42
    refine thenQ.n ?_
    refine W.ret ?_
    refine blockQ.r ?_
    refine thenQ.r ?_
    obtain rfl := Option.some.inj hr
    exact ⟨z, hz, st, .inr rfl, h4, trivial⟩
   ·refine W.condF h19 hc43 (W.seq (W.region ?_))
    refine sx rfl (pEql (k := .i64) (a := x1.kind) (b := 4) rfl h6 rfl) ?_
    obtain ⟨y44, hy44, hr⟩ := lt_some hr
    refine sx rfl (pAssign rfl (congrArg vB hy44)) ?_
    refine SeqW.done fun fr45 hf46 => ?_
    have h2 := (congrFun hf46 2).trans h2
    have h3 := (congrFun hf46 3).trans h3
    have h6 := (congrFun hf46 6).trans h6
    have h25 : fr45 25 = (vB y44) := (congrFun hf46 25).trans rfl
    clear hf46
    refine thenQ.n ?_
    rcases if_some hr with ⟨hc47, hr⟩ | ⟨hc63, hr⟩
    ·refine W.condT h25 hc47 (W.seq ?_)
     obtain ⟨y56, hy56, hr⟩ := bind_some hr
     refine W.keep (u_train_place_0 (x2 := x0) (x3 := x1) (Zx.refl _) st h2 s0_0 s0_1 X3 h3 X10 A15 hy56) ?_
     rintro ex62 fr57 m58 hk60 ⟨z59, hz61, st, rfl, h4, -⟩
     replace hz := hz.trans hz61
     clear hk60
     refine thenQ.n ?_
     refine W.ret ?_
     refine blockQ.r ?_
     refine thenQ.r ?_
     obtain rfl := Option.some.inj hr
     exact ⟨z59, hz, st, .inr rfl, h4, trivial⟩
    ·refine W.condF h25 hc63 (W.seq (W.region ?_))
     refine sx rfl (pEql (k := .i64) (a := x1.kind) (b := 5) rfl h6 rfl) ?_
     obtain ⟨y64, hy64, hr⟩ := lt_some hr
     refine sx rfl (pAssign rfl (congrArg vB hy64)) ?_
     refine SeqW.done fun fr65 hf66 => ?_
     have h2 := (congrFun hf66 2).trans h2
     have h3 := (congrFun hf66 3).trans h3
     have h6 := (congrFun hf66 6).trans h6
     have h41 : fr65 41 = (vB y64) := (congrFun hf66 41).trans rfl
     clear hf66
     refine thenQ.n ?_
     rcases if_some hr with ⟨hc67, hr⟩ | ⟨hc79, hr⟩
     ·refine W.condT h41 hc67 (W.seq (W.region ?_))
      refine SeqW.consX rfl (kLoadA rfl Try.underlying63 rfl Try.type63 rfl h2 X3.loads ?_)
      obtain ⟨z68, hz69, st, Q70, hl71⟩ := X3.freeze hn6 st
      replace s0_0 := s0_0.mono hz69.le
      replace s0_1 := s0_1.mono hz69.le
      replace X10 := X10.zle (hl71 _ (Ap.symm A15))
      replace hz := hz.trans hz69
      obtain ⟨z72, hz73, st, Q74, hl75⟩ := X10.freeze hn13 st
      replace s0_0 := s0_0.mono hz73.le
      replace s0_1 := s0_1.mono hz73.le
      replace Q70 := Q70.mono hz73.le
      replace hz := hz.trans hz73
      refine sx rfl (pFunc (caps := #[(vP B1), (vP B8)]) rfl (args2 h2 h3) rfl) ?_
      obtain ⟨y76, hy76, hr⟩ := bind_some hr
      refine SeqW.consX rfl (StepX.call (gCallee rfl rfl (args2 rfl rfl)) ((c_train_first__rulebook_train_place_4 (x0 := x0) (x1 := (x0, x1)) (z := z72) st.fz st.dead s0_0 s0_1 s0_0 s0_1 Q70 Q74 hy76).mono ?_))
      rintro _ _ ⟨rfl, rfl⟩
      refine sx rfl (pAssign (v := (vI y76)) rfl rfl) ?_
      refine SeqW.done fun fr77 hf78 => ?_
      have h4 : fr77 4 = (vI y76) := (congrFun hf78 4).trans rfl
      clear hf78
      refine thenQ.n ?_
      refine W.ret ?_
      refine blockQ.r ?_
      refine thenQ.r ?_
      obtain rfl := Option.some.inj hr
      exact ⟨z72, hz, st, .inr rfl, h4, trivial⟩
     ·refine W.condF h41 hc79 (W.seq (W.region ?_))
      refine sx rfl (pEql (k := .i64) (a := x1.kind) (b := 6) rfl h6 rfl) ?_
      obtain ⟨y80, hy80, hr⟩ := lt_some hr
      refine sx rfl (pAssign rfl (congrArg vB hy80)) ?_
      refine SeqW.done fun fr81 hf82 => ?_
      have h2 := (congrFun hf82 2).trans h2
      have h3 := (congrFun hf82 3).trans h3
      have h6 := (congrFun hf82 6).trans h6
      have h46 : fr81 46 = (vB y80) := (congrFun hf82 46).trans rfl
      clear hf82
      refine thenQ.n ?_
      rcases if_some hr with ⟨hc83, hr⟩ | ⟨hc91, hr⟩
      ·refine W.condT h46 hc83 (W.seq (W.region ?_))
       refine SeqW.consX rfl (kLoadA rfl Try.underlying63 rfl Try.type63 rfl h2 X3.loads ?_)
       obtain ⟨z84, hz85, st, Q86, hl87⟩ := X10.freeze hn13 st
       replace s0_0 := s0_0.mono hz85.le
       replace s0_1 := s0_1.mono hz85.le
       replace hz := hz.trans hz85
       refine sx rfl (pFunc (caps := #[(vP B8)]) rfl (args1 h3) rfl) ?_
       obtain ⟨y88, hy88, hr⟩ := bind_some hr
       refine SeqW.consX rfl (StepX.call (gCallee rfl rfl (args2 rfl rfl)) ((c_train_first__rulebook_train_place_5 (x0 := x0) (x1 := x1) (z := z84) st.fz st.dead s0_0 s0_1 Q86 hy88).mono ?_))
       rintro _ _ ⟨rfl, rfl⟩
       refine sx rfl (pAssign (v := (vI y88)) rfl rfl) ?_
       refine SeqW.done fun fr89 hf90 => ?_
       have h4 : fr89 4 = (vI y88) := (congrFun hf90 4).trans rfl
       clear hf90
       refine thenQ.n ?_
       refine W.ret ?_
       refine blockQ.r ?_
       refine thenQ.r ?_
       obtain rfl := Option.some.inj hr
       exact ⟨z84, hz, st, .inr rfl, h4, trivial⟩
      ·refine W.condF h46 hc91 (W.seq (W.region ?_))
       refine sx rfl (pEql (k := .i64) (a := x1.kind) (b := 7) rfl h6 rfl) ?_
       obtain ⟨y92, hy92, hr⟩ := lt_some hr
       refine sx rfl (pAssign rfl (congrArg vB hy92)) ?_
       refine SeqW.done fun fr93 hf94 => ?_
       have h2 := (congrFun hf94 2).trans h2
       have h3 := (congrFun hf94 3).trans h3
       have h6 := (congrFun hf94 6).trans h6
       have h51 : fr93 51 = (vB y92) := (congrFun hf94 51).trans rfl
       clear hf94
       refine thenQ.n ?_
       rcases if_some hr with ⟨hc95, hr⟩ | ⟨hc102, hr⟩
       ·refine W.condT h51 hc95 (W.seq ?_)
        refine W.draw ?_
        refine DrawW.cons rfl (kLoadA rfl Try.underlying63 rfl Try.type63 rfl h2 X3.loads ?_)
        refine ⟨?_, ?_⟩
        ·exact demN
        refine DrawW.cons rfl (kLoadA rfl Try.underlying63 rfl Try.type63 rfl h2 X3.loads ?_)
        refine ⟨?_, ?_⟩
        ·exact demN
        refine DrawW.cons rfl (kLoadA rfl Try.underlying32 rfl Try.type32 rfl h3 X10.loads ?_)
        refine ⟨?_, ?_⟩
        ·exact demN
        have sto96 := st
        obtain ⟨y97, hy97, hr⟩ := bind_some hr
        refine DrawW.cons rfl (StepX.call (gCallee rfl rfl (args2 rfl rfl)) ((c_train_tail (x0 := x0) (x1 := x1) (z := z) st.fz st.dead s0_0 s0_1 hy97).mono ?_))
        rintro _ _ ⟨rfl, rfl⟩
        refine ⟨⟨?_, ?_⟩, ?_⟩
        ·first | refine demP (gLoadA rfl Try.underlying32 rfl Try.type32 rfl h3 X10.loads) ?_ | refine demA (by decide +kernel) ?_
         first | refine demP (gLoadA rfl Try.underlying63 rfl Try.type63 rfl h2 X3.loads) ?_ | refine demA (by decide +kernel) ?_
         first | refine demP (gLoadA rfl Try.underlying63 rfl Try.type63 rfl h2 X3.loads) ?_ | refine demA (by decide +kernel) ?_
         exact demN
        ·exact demN
        have sto98 := st
        obtain ⟨y99, hy99, hr⟩ := bind_some hr
        refine DrawW.cons rfl (StepX.call (gCallee rfl rfl (args2 rfl rfl)) ((c_train_end (x0 := x0) (z := z) st.fz st.dead s0_0 s0_1 hy99).mono ?_))
        rintro _ _ ⟨rfl, rfl⟩
        refine ⟨⟨?_, ?_⟩, ?_⟩
        ·first | refine demP (gLoadA rfl Try.underlying32 rfl Try.type32 rfl h3 X10.loads) ?_ | refine demA (by decide +kernel) ?_
         first | refine demP (gLoadA rfl Try.underlying63 rfl Try.type63 rfl h2 X3.loads) ?_ | refine demA (by decide +kernel) ?_
         first | refine demP (gLoadA rfl Try.underlying63 rfl Try.type63 rfl h2 X3.loads) ?_ | refine demA (by decide +kernel) ?_
         exact demN
        ·exact demN
        refine DrawW.cons rfl (StepX.pure (pAssign (v := (vI y99)) rfl rfl) ?_)
        refine ⟨trivial, ?_⟩
        refine DrawW.done fun fr100 hf101 => ?_
        have h4 : fr100 4 = (vI y99) := (congrFun hf101 4).trans rfl
        clear hf101
        refine thenQ.n ?_
        refine W.ret ?_
        refine blockQ.r ?_
        refine thenQ.r ?_
        obtain rfl := Option.some.inj hr
        exact ⟨z, hz, st, .inr rfl, h4, trivial⟩
       ·refine W.condF h51 hc102 (W.seq (W.region ?_))
        refine sx rfl (pEql (k := .i64) (a := x1.kind) (b := 8) rfl h6 rfl) ?_
        obtain ⟨y103, hy103, hr⟩ := lt_some hr
        refine sx rfl (pAssign rfl (congrArg vB hy103)) ?_
        refine SeqW.done fun fr104 hf105 => ?_
        have h2 := (congrFun hf105 2).trans h2
        have h3 := (congrFun hf105 3).trans h3
        have h58 : fr104 58 = (vB y103) := (congrFun hf105 58).trans rfl
        clear hf105
        refine thenQ.n ?_
        rcases if_some hr with ⟨hc106, hr⟩ | ⟨hc114, hr⟩
        ·refine W.condT h58 hc106 (W.seq (W.region ?_))
         refine SeqW.consX rfl (kLoadA rfl Try.underlying63 rfl Try.type63 rfl h2 X3.loads ?_)
         obtain ⟨z107, hz108, st, Q109, hl110⟩ := X10.freeze hn13 st
         replace s0_0 := s0_0.mono hz108.le
         replace s0_1 := s0_1.mono hz108.le
         replace hz := hz.trans hz108
         refine sx rfl (pFunc (caps := #[(vP B8)]) rfl (args1 h3) rfl) ?_
         obtain ⟨y111, hy111, hr⟩ := bind_some hr
         refine SeqW.consX rfl (StepX.call (gCallee rfl rfl (args2 rfl rfl)) ((c_train_first__rulebook_train_place_6 (x0 := x0) (x1 := x1) (z := z107) st.fz st.dead s0_0 s0_1 Q109 hy111).mono ?_))
         rintro _ _ ⟨rfl, rfl⟩
         refine sx rfl (pAssign (v := (vI y111)) rfl rfl) ?_
         refine SeqW.done fun fr112 hf113 => ?_
         have h4 : fr112 4 = (vI y111) := (congrFun hf113 4).trans rfl
         clear hf113
         refine thenQ.n ?_
         refine W.ret ?_
         refine blockQ.r ?_
         refine thenQ.r ?_
         obtain rfl := Option.some.inj hr
         exact ⟨z107, hz, st, .inr rfl, h4, trivial⟩
        ·refine W.condF h58 hc114 (W.skip ?_)
         refine blockQ.n ?_
         refine thenQ.n (W.seq (W.region ?_))
         refine SeqW.consX rfl (kLoadA rfl Try.underlying63 rfl Try.type63 rfl h2 X3.loads ?_)
         obtain ⟨z115, hz116, st, Q117, hl118⟩ := X10.freeze hn13 st
         replace s0_0 := s0_0.mono hz116.le
         replace s0_1 := s0_1.mono hz116.le
         replace X3 := X3.zle (hl118 _ A15)
         replace hz := hz.trans hz116
         obtain ⟨z119, hz120, st, Q121, hl122⟩ := X3.freeze hn6 st
         replace s0_0 := s0_0.mono hz120.le
         replace s0_1 := s0_1.mono hz120.le
         replace Q117 := Q117.mono hz120.le
         replace hz := hz.trans hz120
         refine sx rfl (pFunc (caps := #[(vP B8), (vP B1)]) rfl (args2 h3 h2) rfl) ?_
         obtain ⟨y123, hy123, hr⟩ := bind_some hr
         refine SeqW.consX rfl (StepX.call (gCallee rfl rfl (args2 rfl rfl)) ((c_train_first__rulebook_train_place_7 (x0 := x0) (x1 := (x1, x0)) (z := z119) st.fz st.dead s0_0 s0_1 Q117 s0_0 s0_1 Q121 hy123).mono ?_))
         rintro _ _ ⟨rfl, rfl⟩
         refine sx rfl (pAssign (v := (vI y123)) rfl rfl) ?_
         refine SeqW.done fun fr124 hf125 => ?_
         have h4 : fr124 4 = (vI y123) := (congrFun hf125 4).trans rfl
         clear hf125
         refine thenQ.n ?_
         refine W.ret ?_
         obtain rfl := Option.some.inj hr
         exact ⟨z119, hz, st, .inr rfl, h4, trivial⟩

theorem c_train_place {N : Nat} {z : Nat → Blk} {m : Mem} {x0 : Train} {x1 : Rule} {v0_0 : Value} {v0_1 : Value} (fz : Fz z m) (hd : ∀ b, m.next ≤ b → m.blk b = .dead) (s0_0 : SlR TWagon z x0.l v0_0) (s0_1 : SlR (TInt 3 .i64) z x0.off v0_1) {r : Int} (hr : train_place N x0 x1 = some r) : CallW Try.prog 30 #[(Value.agg [v0_0, v0_1, (vI x0.total.length), (vI x0.total.axles), (vI x0.total.mass), (vI x0.total.braked), (vI x0.total.percent), (vI x0.total.required), (vI x0.total.missing)].toArray), (Value.agg [(vI x1.number), (vI x1.kind), (vI x1.a), (vI x1.b), (vI x1.c)].toArray)] m fun v m' => v = (vI r) ∧ m' = m := by
 refine CallW.flat Try.func30 rfl (by kernel_rfl) (Nat.le_of_ble_eq_true rfl) rfl (z := z) (fun fr hf => ?_)
 have h0 : fr 0 = _ := hf 0 _ rfl
 have h1 : fr 1 = _ := hf 1 _ rfl
 refine (u_train_place (k := none) (Zx.refl _) (St.start fz hd) h0 s0_0 s0_1 h1 hr).mono ?_
 rintro ex fr' m' ⟨z', hz, st, he, h4, -⟩
 exact ⟨he, z', st, [(vI r)], ⟨h4.symm, trivial⟩, .inl rfl, rfl⟩

/-! ### humpyard/rulebook.Check -/

theorem u_rulebook_Check_0 : ∀ (n : Nat) {N : Nat}  {z0 z : Nat → Blk} {e m : Mem} {k : Option Nat} {fr : Nat → Value} {x10 : Train} {x31 : List Rule} {x32 : Int} {x33 : Int} {v10_0 : Value} {v10_1 : Value} {b10 : Nat} {v31 : Value} (hz : Zx e.next z0 z) (st : St z e m k) (h10 : fr 10 = (vP b10)) (s10_0 : SlR TWagon z x10.l v10_0) (s10_1 : SlR (TInt 3 .i64) z x10.off v10_1) (bx10 : Bx z e m k b10 [v10_0, v10_1, (vI x10.total.length), (vI x10.total.axles), (vI x10.total.mass), (vI x10.total.braked), (vI x10.total.percent), (vI x10.total.required), (vI x10.total.missing)] 63) (h31 : fr 31 = v31) (s31 : SlR TRule z x31 v31) (h32 : fr 32 = (vI x32)) (h33 : fr 33 = (vI x33)) {r : Sum (Unit) (Int × Int × Int)} (hr : rulebook_Check_0 N x10 x31 x32 n x33 = some r), W Try.prog (sub (bodyOf Try.f18) [1, 1, 1, 1, 1, 0, 1, 0]) (fun ex fr' m' => ∃ z', Zx e.next z0 z' ∧ St z' e m' k ∧ ((∃ q, r = Sum.inl q ∧ ex = AExit.exit 0 ∧ True) ∨ (∃ q, r = Sum.inr q ∧ ex = AExit.ret ∧ fr' 6 = (vI q.1) ∧ fr' 7 = (vI q.2.1) ∧ fr' 8 = (vI q.2.2) ∧ True))) fr m := by
 intro n
 induction n with
 | zero => intro N z0 z e m k fr x10 x31 x32 x33 v10_0 v10_1 b10 v31 hz st h10 s10_0 s10_1 bx10 h31 s31 h32 h33 r hr; cases (show (none : Option _) = some r from hr)
 | succ n ih =>
  intro N z0 z e m k fr x10 x31 x32 x33 v10_0 v10_1 b10 v31 hz st h10 s10_0 s10_1 bx10 h31 s31 h32 h33 r hr
  unfold rulebook_Check_0 at hr
  refine W.loop1 ?_
  refine W.seq (W.region ?_)
  refine sx rfl (pLss (k := .i64) (a := x33) (b := x32) rfl h33 h32) ?_
  refine SeqW.done fun fr50 hf51 => ?_
  have h10 := (congrFun hf51 10).trans h10
  have h31 := (congrFun hf51 31).trans h31
  have h32 := (congrFun hf51 32).trans h32
  have h33 := (congrFun hf51 33).trans h33
  have h34 : fr50 34 = (vB (decide (x33 < x32))) := (congrFun hf51 34).trans rfl
  clear hf51
  refine thenQ.n (W.seq ?_)
  rcases if_some hr with ⟨hc52, hr⟩ | ⟨hc82, hr⟩
  ·refine W.condT h34 hc52 (W.skip ?_)
   refine thenQ.n (W.seq ?_)
   refine W.block ?_
   refine W.seq (W.region ?_)
   obtain ⟨y53, hy53, hr⟩ := bind_some hr
   refine SeqW.consX rfl (kIdxR (T := TRule) (xs := x31) (n := x33) rfl Try.underlying23 Try.type32 rfl h31 h33 s31 hy53 ?_)
   intro B54 f55 cs56 hd57 hc58
   obtain rfl := hd57
   refine SeqW.consX rfl (kLoadA rfl Try.underlying32 rfl Try.type32 rfl rfl (st.loads hc58) ?_)
   refine SeqW.consX rfl (kAlloc rfl Try.type32 rfl rfl rfl [(vI 0), (vI 0), (vI 0), (vI 0), (vI 0)] rfl st ?_)
   intro B60 m61  st X62 sm63 hap64
   have A66 := hap64 _ bx10.lt'
   replace bx10 := bx10.same sm63 Ap.none'
   refine SeqW.consX rfl (kPut (off := 0) (w := (Value.agg [(vI y53.number), (vI y53.kind), (vI y53.a), (vI y53.b), (vI y53.c)].toArray)) (new := [(vI y53.number), (vI y53.kind), (vI y53.a), (vI y53.b), (vI y53.c)]) rfl Try.type32 rfl rfl rfl rfl rfl X62 rfl [(vI y53.number), (vI y53.kind), (vI y53.a), (vI y53.b), (vI y53.c)] rfl st ?_)
   intro m67 st X62 sm68
   replace bx10 := bx10.same sm68 A66
   refine SeqW.done fun fr69 hf70 => ?_
   have h10 := (congrFun hf70 10).trans h10
   have h12 : fr69 12 = (vP B60) := (congrFun hf70 12).trans rfl
   have h31 := (congrFun hf70 31).trans h31
   have h32 := (congrFun hf70 32).trans h32
   have h33 := (congrFun hf70 33).trans h33
   clear hf70
   refine thenQ.n (W.seq (W.region ?_))
   refine SeqW.consX rfl (kLoadA rfl Try.underlying63 rfl Try.type63 rfl h10 bx10.loads ?_)
   refine SeqW.consX rfl (kLoadA rfl Try.underlying32 rfl Try.type32 rfl h12 X62.loads ?_)
   obtain ⟨y71, hy71, hr⟩ := bind_some hr
   refine SeqW.consX rfl (StepX.call (gCallee rfl rfl (args2 rfl rfl)) ((c_train_place (x0 := x10) (x1 := y53) (z := z) st.fz st.dead s10_0 s10_1 hy71).mono ?_))
   rintro _ _ ⟨rfl, rfl⟩
   refine sx rfl (pAssign (v := (vI y71)) rfl rfl) ?_
   refine SeqW.done fun fr72 hf73 => ?_
   have h7 : fr72 7 = (vI y71) := (congrFun hf73 7).trans rfl
   have h10 := (congrFun hf73 10).trans h10
   have h12 := (congrFun hf73 12).trans h12
   have h31 := (congrFun hf73 31).trans h31
   have h32 := (congrFun hf73 32).trans h32
   have h33 := (congrFun hf73 33).trans h33
   clear hf73
   refine thenQ.n (W.seq (W.region ?_))
   refine sx rfl (pMove (v := (vI y71)) rfl h7) ?_
   refine sx rfl (pGeq (k := .i64) (a := y71) (b := 0) rfl rfl rfl) ?_
   refine SeqW.done fun fr74 hf75 => ?_
   have h7 := (congrFun hf75 7).trans h7
   have h10 := (congrFun hf75 10).trans h10
   have h12 := (congrFun hf75 12).trans h12
   have h31 := (congrFun hf75 31).trans h31
   have h32 := (congrFun hf75 32).trans h32
   have h33 := (congrFun hf75 33).trans h33
   have h41 : fr74 41 = (vB (decide (0 ≤ y71))) := (congrFun hf75 41).trans rfl
   clear hf75
   refine thenQ.n ?_
   rcases if_some hr with ⟨hc76, hr⟩ | ⟨hc79, hr⟩
   ·refine W.condT h41 hc76 (W.seq (W.region ?_))
    refine SeqW.consX rfl (kField rfl Try.underlying32 rfl Try.type3 rfl h12 rfl ?_)
    refine SeqW.consX rfl (kLoad rfl Try.underlying3 rfl rfl (X62.load (v := (vI y53.number)) rfl) ?_)
    refine sx rfl (pMove (v := (vI y71)) rfl h7) ?_
    refine sx rfl (pAssign (v := (vI y53.number)) rfl rfl) ?_
    refine sx rfl (pAssign (v := (vI y71)) rfl rfl) ?_
    refine sx rfl (pAssign (v := (vI 0)) rfl rfl) ?_
    refine SeqW.done fun fr77 hf78 => ?_
    have h6 : fr77 6 = (vI y53.number) := (congrFun hf78 6).trans rfl
    have h7 : fr77 7 = (vI y71) := (congrFun hf78 7).trans rfl
    have h8 : fr77 8 = (vI 0) := (congrFun hf78 8).trans rfl
    clear hf78
    refine thenQ.n ?_
    refine W.ret ?_
    refine blockQ.r ?_
    refine thenQ.r ?_
    refine thenQ.r ?_
    obtain rfl := Option.some.inj hr
    exact ⟨z, hz, st, .inr ⟨_, rfl, rfl, h6, h7, h8, trivial⟩⟩
   ·refine W.condF h41 hc79 (W.skip ?_)
    refine blockQ.n ?_
    refine thenQ.n (W.region ?_)
    refine sx rfl (pAdd (k := .i64) (a := x33) (b := 1) rfl h33 rfl) ?_
    refine sx rfl (pMove (v := (vI (IntKind.wrap .i64 (x33 + 1)))) rfl rfl) ?_
    refine SeqW.done fun fr80 hf81 => ?_
    have h10 := (congrFun hf81 10).trans h10
    have h31 := (congrFun hf81 31).trans h31
    have h32 := (congrFun hf81 32).trans h32
    have h33 : fr80 33 = (vI (IntKind.wrap .i64 (x33 + 1))) := (congrFun hf81 33).trans rfl
    clear hf81
    refine thenQ.n ?_
    exact ih (x10 := x10) hz st h10 s10_0 s10_1 bx10 h31 s31 h32 h33 hr
  ·refine W.condF h34 hc82 ?_
   refine W.exit ?_
   refine thenQ.x ?_
   refine thenQ.x ?_
   obtain rfl := Option.some.inj hr
   exact ⟨z, hz, st, .inl ⟨_, rfl, rfl, trivial⟩⟩

theorem u_rulebook_Check {N : Nat}  {z0 z : Nat → Blk} {e m : Mem} {k : Option Nat} {fr : Nat → Value} {x0 : List Rule} {x1 : List Wagon} {x2 : List Int} {v0 : Value} {v1 : Value} {v2 : Value} (hz : Zx e.next z0 z) (st : St z e m k) (h0 : fr 0 = v0) (s0 : SlR TRule z x0 v0) (h1 : fr 1 = v1) (s1 : SlR TWagon z x1 v1) (h2 : fr 2 = v2) (s2 : SlR (TInt 3 .i64) z x2 v2) {r : Int × Int × Int} (hr : rulebook_Check N x0 x1 x2 = some r) : W Try.prog (sub (bodyOf Try.f18) []) (fun ex fr' m' => ∃ z', Zx e.next z0 z' ∧ St z' e m' k ∧ (ex = .normal ∨ ex = .ret) ∧ fr' 6 = (vI r.1) ∧ fr' 7 = (vI r.2.1) ∧ fr' 8 = (vI r.2.2) ∧ True) fr m := by
 unfold rulebook_Check at hr
 refine W.seq (W.region ?_)
 refine sx rfl (pAssign (v := (vI 0)) rfl rfl) ?_
 refine sx rfl (pAssign (v := (vI 0)) rfl rfl) ?_
 refine sx rfl (pAssign (v := (vI 0)) rfl rfl) ?_
 refine SeqW.done fun fr1 hf2 => ?_
 have h0 := (congrFun hf2 0).trans h0
 have h1 := (congrFun hf2 1).trans h1
 have h2 := (congrFun hf2 2).trans h2
 clear hf2
 refine thenQ.n (W.seq ?_)
 refine W.seq (W.region ?_)
 refine sx rfl (pMove (v := v0) rfl h0) ?_
 obtain ⟨y3, hy3, hr⟩ := bind_some hr
 refine SeqW.consX rfl (StepX.call (gCallee rfl rfl (args1 rfl)) ((c_rulebook_Valid (z := z) st.fz st.dead s0 hy3).mono ?_))
 rintro _ _ ⟨rfl, rfl⟩
 refine sx rfl (pAssign (v := (vI y3)) rfl rfl) ?_
 refine SeqW.done fun fr4 hf5 => ?_
 have h0 := (congrFun hf5 0).trans h0
 have h1 := (congrFun hf5 1).trans h1
 have h2 := (congrFun hf5 2).trans h2
 have h8 : fr4 8 = (vI y3) := (congrFun hf5 8).trans rfl
 clear hf5
 refine thenQ.n (W.seq (W.region ?_))
 refine sx rfl (pMove (v := (vI y3)) rfl h8) ?_
 refine sx rfl (pNeq (k := .i64) (a := y3) (b := 0) rfl rfl rfl) ?_
 refine SeqW.done fun fr6 hf7 => ?_
 have h0 := (congrFun hf7 0).trans h0
 have h1 := (congrFun hf7 1).trans h1
 have h2 := (congrFun hf7 2).trans h2
 have h8 := (congrFun hf7 8).trans h8
 have h16 : fr6 16 = (vB (y3 != 0)) := (congrFun hf7 16).trans rfl
 clear hf7
 refine thenQ.n ?_
 rcases if_some hr with ⟨hc8, hr⟩ | ⟨hc11, hr⟩
 ·refine W.condT h16 hc8 (W.seq (W.region ?_))
  refine sx rfl (pMove (v := (vI y3)) rfl h8) ?_
  refine sx rfl (pAssign (v := (vI 0)) rfl rfl) ?_
  refine sx rfl (pAssign (v := (vI 0)) rfl rfl) ?_
  refine sx rfl (pAssign (v := (vI y3)) rfl rfl) ?_
  refine SeqW.done fun fr9 hf10 => ?_
  have h6 : fr9 6 = (vI 0) := (congrFun hf10 6).trans rfl
  have h7 : fr9 7 = (vI 0) := (congrFun hf10 7).trans rfl
  have h8 : fr9 8 = (vI y3) := (congrFun hf10 8).trans rfl
  clear hf10
  refine thenQ.n ?_
  refine W.ret ?_
  refine thenQ.r ?_
  obtain rfl := Option.some.inj hr
  exact ⟨z, hz, st, .inr rfl, h6, h7, h8, trivial⟩
 ·refine W.condF h16 hc11 (W.skip ?_)
  refine thenQ.n (W.seq (W.region ?_))
  refine sx rfl (pMove (v := v1) rfl h1) ?_
  refine sx rfl (pMove (v := v2) rfl h2) ?_
  obtain ⟨y12, hy12, hr⟩ := bind_some hr
  refine SeqW.consX rfl (StepX.call (gCallee rfl rfl (args2 rfl rfl)) ((c_brake_Total (z := z) st.fz st.dead s1 s2 hy12).mono ?_))
  rintro _ m17 ⟨z13, hzx14, fz15, sm16, rfl, -⟩
  replace s0 := s0.mono hzx14.le
  replace s1 := s1.mono hzx14.le
  replace s2 := s2.mono hzx14.le
  replace hz := hz.trans (Zx.here st hzx14)
  replace st := st.call hzx14 fz15 sm16 no_hq
  refine sx rfl (pMove (v := (Value.tuple [(Value.agg [(vI y12.1.length), (vI y12.1.axles), (vI y12.1.mass), (vI y12.1.braked), (vI y12.1.percent), (vI y12.1.required), (vI y12.1.missing)].toArray), (vI y12.2)].toArray)) rfl rfl) ?_
  refine sx rfl (pExtract (vs := [(Value.agg [(vI y12.1.length), (vI y12.1.axles), (vI y12.1.mass), (vI y12.1.braked), (vI y12.1.percent), (vI y12.1.required), (vI y12.1.missing)].toArray), (vI y12.2)]) (v := (Value.agg [(vI y12.1.length), (vI y12.1.axles), (vI y12.1.mass), (vI y12.1.braked), (vI y12.1.percent), (vI y12.1.required), (vI y12.1.missing)].toArray)) rfl rfl rfl) ?_
  refine sx rfl (pExtract (vs := [(Value.agg [(vI y12.1.length), (vI y12.1.axles), (vI y12.1.mass), (vI y12.1.braked), (vI y12.1.percent), (vI y12.1.required), (vI y12.1.missing)].toArray), (vI y12.2)]) (v := (vI y12.2)) rfl rfl rfl) ?_
  refine SeqW.consX rfl (kAlloc rfl Try.type59 rfl rfl rfl [(vI 0), (vI 0), (vI 0), (vI 0), (vI 0), (vI 0), (vI 0)] rfl st ?_)
  intro B18 m19  st X20 sm21 hap22
  refine SeqW.consX rfl (kPut (off := 0) (w := (Value.agg [(vI y12.1.length), (vI y12.1.axles), (vI y12.1.mass), (vI y12.1.braked), (vI y12.1.percent), (vI y12.1.required), (vI y12.1.missing)].toArray)) (new := [(vI y12.1.length), (vI y12.1.axles), (vI y12.1.mass), (vI y12.1.braked), (vI y12.1.percent), (vI y12.1.required), (vI y12.1.missing)]) rfl Try.type59 rfl rfl rfl rfl rfl X20 rfl [(vI y12.1.length), (vI y12.1.axles), (vI y12.1.mass), (vI y12.1.braked), (vI y12.1.percent), (vI y12.1.required), (vI y12.1.missing)] rfl st ?_)
  intro m24 st X20 sm25
  refine sx rfl (pAssign (v := (vI y12.2)) rfl rfl) ?_
  refine SeqW.done fun fr26 hf27 => ?_
  have h0 := (congrFun hf27 0).trans h0
  have h1 := (congrFun hf27 1).trans h1
  have h2 := (congrFun hf27 2).trans h2
  have h8 : fr26 8 = (vI y12.2) := (congrFun hf27 8).trans rfl
  have h9 : fr26 9 = (vP B18) := (congrFun hf27 9).trans rfl
  clear hf27
  refine thenQ.n (W.seq ?_)
  refine W.seq (W.region ?_)
  refine sx rfl (pMove (v := (vI y12.2)) rfl h8) ?_
  refine sx rfl (pNeq (k := .i64) (a := y12.2) (b := 0) rfl rfl rfl) ?_
  refine SeqW.done fun fr28 hf29 => ?_
  have h0 := (congrFun hf29 0).trans h0
  have h1 := (congrFun hf29 1).trans h1
  have h2 := (congrFun hf29 2).trans h2
  have h8 := (congrFun hf29 8).trans h8
  have h9 := (congrFun hf29 9).trans h9
  have h25 : fr28 25 = (vB (y12.2 != 0)) := (congrFun hf29 25).trans rfl
  clear hf29
  refine thenQ.n ?_
  rcases if_some hr with ⟨hc30, hr⟩ | ⟨hc33, hr⟩
  ·refine W.condT h25 hc30 (W.seq (W.region ?_))
   refine sx rfl (pMove (v := (vI y12.2)) rfl h8) ?_
   refine sx rfl (pAssign (v := (vI 0)) rfl rfl) ?_
   refine sx rfl (pAssign (v := (vI 0)) rfl rfl) ?_
   refine sx rfl (pAssign (v := (vI y12.2)) rfl rfl) ?_
   refine SeqW.done fun fr31 hf32 => ?_
   have h6 : fr31 6 = (vI 0) := (congrFun hf32 6).trans rfl
   have h7 : fr31 7 = (vI 0) := (congrFun hf32 7).trans rfl
   have h8 : fr31 8 = (vI y12.2) := (congrFun hf32 8).trans rfl
   clear hf32
   refine thenQ.n ?_
   refine W.ret ?_
   refine thenQ.r ?_
   obtain rfl := Option.some.inj hr
   exact ⟨z13, hz, st, .inr rfl, h6, h7, h8, trivial⟩
  ·refine W.condF h25 hc33 (W.skip ?_)
   refine thenQ.n (W.seq (W.region ?_))
   refine sx rfl (pMove (v := v1) rfl h1) ?_
   refine sx rfl (pMove (v := v2) rfl h2) ?_
   refine SeqW.consX rfl (kLoadA rfl Try.underlying59 rfl Try.type59 rfl h9 X20.loads ?_)
   obtain ⟨A34, c35, eA34⟩ := s1.len
   subst eA34
   obtain ⟨A36, c37, eA36⟩ := s2.len
   subst eA36
   refine SeqW.consX rfl (kBuildS [(0, (Value.slice A34 (x1).length c35)), (1, (Value.slice A36 (x2).length c37)), (2, (Value.agg [(vI y12.1.length), (vI y12.1.axles), (vI y12.1.mass), (vI y12.1.braked), (vI y12.1.percent), (vI y12.1.required), (vI y12.1.missing)].toArray))] [(Value.slice A34 (x1).length c35), (Value.slice A36 (x2).length c37), (vI y12.1.length), (vI y12.1.axles), (vI y12.1.mass), (vI y12.1.braked), (vI y12.1.percent), (vI y12.1.required), (vI y12.1.missing)] rfl Try.underlying63 Try.type63 rfl rfl (places63 Try.underlying63) rfl (rfl) rfl ?_)
   refine SeqW.consX rfl (kAlloc rfl Try.type63 rfl rfl rfl [(Value.slice none 0 0), (Value.slice none 0 0), (vI 0), (vI 0), (vI 0), (vI 0), (vI 0), (vI 0), (vI 0)] rfl st ?_)
   intro B38 m39  st X40 sm41 hap42
   refine SeqW.consX rfl (kPut (off := 0) (w := (Value.agg [(Value.slice A34 (x1).length c35), (Value.slice A36 (x2).length c37), (vI y12.1.length), (vI y12.1.axles), (vI y12.1.mass), (vI y12.1.braked), (vI y12.1.percent), (vI y12.1.required), (vI y12.1.missing)].toArray)) (new := [(Value.slice A34 (x1).length c35), (Value.slice A36 (x2).length c37), (vI y12.1.length), (vI y12.1.axles), (vI y12.1.mass), (vI y12.1.braked), (vI y12.1.percent), (vI y12.1.required), (vI y12.1.missing)]) rfl Try.type63 rfl rfl rfl rfl rfl X40 rfl [(Value.slice A34 (x1).length c35), (Value.slice A36 (x2).length c37), (vI y12.1.length), (vI y12.1.axles), (vI y12.1.mass), (vI y12.1.braked), (vI y12.1.percent), (vI y12.1.required), (vI y12.1.missing)] rfl st ?_)
   intro m44 st X40 sm45
   refine SeqW.done fun fr46 hf47 => ?_
   have h0 := (congrFun hf47 0).trans h0
   have h10 : fr46 10 = (vP B38) := (congrFun hf47 10).trans rfl
   clear hf47
   refine thenQ.n (W.seq ?_)
   refine W.seq (W.region ?_)
   refine sx rfl (pMove (v := v0) rfl h0) ?_
   refine sx rfl (pLenR (xs := x0) rfl Try.underlying23 rfl s0) ?_
   refine sx rfl (pMove (v := (vI 0)) rfl rfl) ?_
   refine SeqW.done fun fr48 hf49 => ?_
   have h10 := (congrFun hf49 10).trans h10
   have h31 : fr48 31 = v0 := (congrFun hf49 31).trans rfl
   have h32 : fr48 32 = (vI (x0.length : Int)) := (congrFun hf49 32).trans rfl
   have h33 : fr48 33 = (vI 0) := (congrFun hf49 33).trans rfl
   clear hf49
   refine thenQ.n ?_
   refine W.block ?_
   obtain ⟨y83, hy83, hr⟩ := bind_some hr
   refine W.keep (u_rulebook_Check_0 (x10 := (Train.mk x1 x2 (Brakes.mk y12.1.length y12.1.axles y12.1.mass y12.1.braked y12.1.percent y12.1.required y12.1.missing))) _ (Zx.refl _) st h10 s1 s2 X40 h31 s0 h32 h33 hy83) ?_
   rintro ex89 fr84 m85 hk87 ⟨z86, hz88, st, ⟨y90, rfl, rfl, -⟩ | ⟨y93, rfl, rfl, h6, h7, h8, -⟩⟩
   ·dsimp only at hr
    replace hz := hz.trans hz88
    clear hk87
    refine blockQ.hit ?_
    refine thenQ.n (W.seq (W.region ?_))
    refine sx rfl (pAssign (v := (vI 0)) rfl rfl) ?_
    refine sx rfl (pAssign (v := (vI (-1))) rfl rfl) ?_
    refine sx rfl (pAssign (v := (vI 0)) rfl rfl) ?_
    refine SeqW.done fun fr91 hf92 => ?_
    have h6 : fr91 6 = (vI 0) := (congrFun hf92 6).trans rfl
    have h7 : fr91 7 = (vI (-1)) := (congrFun hf92 7).trans rfl
    have h8 : fr91 8 = (vI 0) := (congrFun hf92 8).trans rfl
    clear hf92
    refine thenQ.n ?_
    refine W.ret ?_
    obtain rfl := Option.some.inj hr
    exact ⟨z86, hz, st, .inr rfl, h6, h7, h8, trivial⟩
   ·dsimp only at hr
    replace hz := hz.trans hz88
    clear hk87
    refine blockQ.r ?_
    refine thenQ.r ?_
    obtain rfl := Option.some.inj hr
    exact ⟨z86, hz, st, .inr rfl, h6, h7, h8, trivial⟩

theorem c_rulebook_Check {N : Nat} {z : Nat → Blk} {m : Mem} {x0 : List Rule} {x1 : List Wagon} {x2 : List Int} {v0 : Value} {v1 : Value} {v2 : Value} (fz : Fz z m) (hd : ∀ b, m.next ≤ b → m.blk b = .dead) (s0 : SlR TRule z x0 v0) (s1 : SlR TWagon z x1 v1) (s2 : SlR (TInt 3 .i64) z x2 v2) {r : Int × Int × Int} (hr : rulebook_Check N x0 x1 x2 = some r) : CallW Try.prog 18 #[v0, v1, v2] m fun v m' => v = (Value.tuple [(vI r.1), (vI r.2.1), (vI r.2.2)].toArray) ∧ m' = m := by
 refine CallW.flat Try.func18 rfl (by kernel_rfl) (Nat.le_of_ble_eq_true rfl) rfl (z := z) (fun fr hf => ?_)
 have h0 : fr 0 = _ := hf 0 _ rfl
 have h1 : fr 1 = _ := hf 1 _ rfl
 have h2 : fr 2 = _ := hf 2 _ rfl
 refine (u_rulebook_Check (k := none) (Zx.refl _) (St.start fz hd) h0 s0 h1 s1 h2 s2 hr).mono ?_
 rintro ex fr' m' ⟨z', hz, st, he, h6, h7, h8, -⟩
 exact ⟨he, z', st, [(vI r.1), (vI r.2.1), (vI r.2.2)], ⟨h6.symm, h7.symm, h8.symm, trivial⟩, .inr (List.forall_mem_cons.2 ⟨rfl, List.forall_mem_cons.2 ⟨rfl, List.forall_mem_cons.2 ⟨rfl, fun _ h => nomatch h⟩⟩⟩), rfl⟩

end Go.W
