/- The models are what the program computes. -/
import Derived.Test.YtmbppeancpipiaaW1
set_option linter.unusedVariables false
set_option linter.unusedSimpArgs false
set_option maxRecDepth 100000
set_option maxHeartbeats 4000000
namespace Go.W
open Go.AM Go.Proofs


/-! ### humpyard/brake.Total -/

theorem u_brake_Total_0 : ∀ (n : Nat) {N : Nat}  {z0 z : Nat → Blk} {e m : Mem} {k : Option Nat} {fr : Nat → Value} {x0 : List Wagon} {x4 : Brakes} {x32 : List Int} {x33 : Int} {x34 : Int} {v0 : Value} {b4 : Nat} {x10 : List Bool} {v10 : Value} {v32 : Value} (hz : Zx e.next z0 z) (st : St z e m k) (h0 : fr 0 = v0) (s0 : SlR TWagon z x0 v0) (h4 : fr 4 = (Value.pointer (some ⟨b4, 0, none⟩))) (bx4 : Bx z e m k b4 [(Value.int .i64 x4.length), (Value.int .i64 x4.axles), (Value.int .i64 x4.mass), (Value.int .i64 x4.braked), (Value.int .i64 x4.percent), (Value.int .i64 x4.required), (Value.int .i64 x4.missing)] 33) (h10 : fr 10 = v10) (o10 : OwF (TBool 4) z e m k x10 v10) (h32 : fr 32 = v32) (s32 : SlR (TInt 3 .i64) z x32 v32) (h33 : fr 33 = (Value.int .i64 x33)) (h34 : fr 34 = (Value.int .i64 x34)) (ao4_o10 : Ap (some b4) (blkOf v10)) {r : Sum (Brakes) (Brakes × Int)} (hr : brake_Total_0 N x0 x32 x33 n x4 x34 = some r), W Try.prog (sub (bodyOf Try.f18) [1, 1, 1, 1, 0, 1, 0]) (fun ex fr' m' => ∃ z', Zx e.next z0 z' ∧ St z' e m' k ∧ ((∃ q, r = Sum.inl q ∧ ex = AExit.exit 0 ∧ fr' 4 = (Value.pointer (some ⟨b4, 0, none⟩)) ∧ Bx z' e m' k b4 [(Value.int .i64 q.length), (Value.int .i64 q.axles), (Value.int .i64 q.mass), (Value.int .i64 q.braked), (Value.int .i64 q.percent), (Value.int .i64 q.required), (Value.int .i64 q.missing)] 33 ∧ OwF (TBool 4) z' e m' k x10 v10 ∧ Ap (some b4) (blkOf v10) ∧ True) ∨ (∃ q, r = Sum.inr q ∧ ex = AExit.ret ∧ fr' 4 = (Value.pointer (some ⟨b4, 0, none⟩)) ∧ Bx z' e m' k b4 [(Value.int .i64 q.1.length), (Value.int .i64 q.1.axles), (Value.int .i64 q.1.mass), (Value.int .i64 q.1.braked), (Value.int .i64 q.1.percent), (Value.int .i64 q.1.required), (Value.int .i64 q.1.missing)] 33 ∧ fr' 5 = (Value.int .i64 q.2) ∧ True))) fr m := by
  intro n
  induction n with
  | zero => intro N z0 z e m k fr x0 x4 x32 x33 x34 v0 b4 x10 v10 v32 hz st h0 s0 h4 bx4 h10 o10 h32 s32 h33 h34 ao4_o10 r hr; cases (show (none : Option _) = some r from hr)
  | succ n ih =>
    intro N z0 z e m k fr x0 x4 x32 x33 x34 v0 b4 x10 v10 v32 hz st h0 s0 h4 bx4 h10 o10 h32 s32 h33 h34 ao4_o10 r hr
    unfold brake_Total_0 at hr
    refine W.loop1 ?_
    refine W.seq ?_
    refine W.region ?_
    refine SeqW.consX rfl (StepX.pure (pLss (k := .i64) (a := x34) (b := x33) rfl h34 h33) ?_)
    refine SeqW.done fun fr32 hf33 => ?_
    have h0 : fr32 0 = v0 := (congrFun hf33 0).trans h0
    have h4 : fr32 4 = (Value.pointer (some ⟨b4, 0, none⟩)) := (congrFun hf33 4).trans h4
    have h10 : fr32 10 = v10 := (congrFun hf33 10).trans h10
    have h32 : fr32 32 = v32 := (congrFun hf33 32).trans h32
    have h33 : fr32 33 = (Value.int .i64 x33) := (congrFun hf33 33).trans h33
    have h34 : fr32 34 = (Value.int .i64 x34) := (congrFun hf33 34).trans h34
    have h35 : fr32 35 = (Value.bool (decide (x34 < x33))) := (congrFun hf33 35).trans rfl
    clear hf33
    refine thenQ.n ?_
    refine W.seq ?_
    rcases if_some hr with ⟨hc34, hr⟩ | ⟨hc54, hr⟩
    · refine W.condT h35 hc34 ?_
      refine W.skip ?_
      refine thenQ.n ?_
      refine W.seq ?_
      refine W.block ?_
      refine W.seq ?_
      refine W.region ?_
      obtain ⟨y35, hy35, hr⟩ := bind_some hr
      refine SeqW.consX rfl (kIdxR (T := (TInt 3 .i64)) (xs := x32) (n := x34) rfl Try.underlying22 Try.type3 rfl h32 h34 s32 hy35 ?_)
      intro B36 f37 cs38 hd39 hc40
      obtain rfl := hd39
      refine SeqW.consX rfl (kLoad (v := (Value.int .i64 y35)) rfl Try.underlying3 rfl rfl (ldz_load st.fz (hc40 0 _ rfl)) ?_)
      refine SeqW.consX rfl (StepX.pure (pAssign (v := (Value.int .i64 y35)) rfl rfl) ?_)
      refine SeqW.done fun fr41 hf42 => ?_
      have h0 : fr41 0 = v0 := (congrFun hf42 0).trans h0
      have h4 : fr41 4 = (Value.pointer (some ⟨b4, 0, none⟩)) := (congrFun hf42 4).trans h4
      have h10 : fr41 10 = v10 := (congrFun hf42 10).trans h10
      have h12 : fr41 12 = (Value.int .i64 y35) := (congrFun hf42 12).trans rfl
      have h32 : fr41 32 = v32 := (congrFun hf42 32).trans h32
      have h33 : fr41 33 = (Value.int .i64 x33) := (congrFun hf42 33).trans h33
      have h34 : fr41 34 = (Value.int .i64 x34) := (congrFun hf42 34).trans h34
      clear hf42
      refine thenQ.n ?_
      refine W.seq ?_
      refine W.region ?_
      refine SeqW.consX rfl (StepX.pure (pMove (v := (Value.int .i64 y35)) rfl h12) ?_)
      refine SeqW.consX rfl (StepX.pure (pMove (v := v0) rfl h0) ?_)
      refine SeqW.consX rfl (StepX.pure (pLenR (xs := x0) rfl Try.underlying25 rfl s0) ?_)
      refine SeqW.consX rfl (StepX.pure (pSub (k := .i64) (a := (x0.length : Int)) (b := 1) rfl rfl rfl) ?_)
      obtain ⟨y43, hy43, hr⟩ := bind_some hr
      refine SeqW.consX rfl (StepX.call (gCallee rfl rfl (args3 rfl rfl rfl)) ((c_brake_in (z := z) st.fz st.dead  hy43).mono ?_))
      rintro _ _ ⟨rfl, rfl⟩
      refine SeqW.consX rfl (StepX.pure (pNot (b := y43) rfl rfl) ?_)
      refine SeqW.done fun fr44 hf45 => ?_
      have h0 : fr44 0 = v0 := (congrFun hf45 0).trans h0
      have h4 : fr44 4 = (Value.pointer (some ⟨b4, 0, none⟩)) := (congrFun hf45 4).trans h4
      have h10 : fr44 10 = v10 := (congrFun hf45 10).trans h10
      have h32 : fr44 32 = v32 := (congrFun hf45 32).trans h32
      have h33 : fr44 33 = (Value.int .i64 x33) := (congrFun hf45 33).trans h33
      have h34 : fr44 34 = (Value.int .i64 x34) := (congrFun hf45 34).trans h34
      have h43 : fr44 43 = (Value.bool (!y43)) := (congrFun hf45 43).trans rfl
      clear hf45
      refine thenQ.n ?_
      rcases if_some hr with ⟨hc46, hr⟩ | ⟨hc51, hr⟩
      · refine W.condT h43 hc46 ?_
        refine W.seq ?_
        refine W.region ?_
        refine SeqW.consX rfl (kBuildS [] [(Value.int .i64 0), (Value.int .i64 0), (Value.int .i64 0), (Value.int .i64 0), (Value.int .i64 0), (Value.int .i64 0), (Value.int .i64 0)] rfl Try.underlying33 Try.type33 rfl rfl (places33 Try.underlying33) rfl (rfl) rfl ?_)
        refine SeqW.consX rfl (kPut (off := 0) (w := (Value.agg [(Value.int .i64 0), (Value.int .i64 0), (Value.int .i64 0), (Value.int .i64 0), (Value.int .i64 0), (Value.int .i64 0), (Value.int .i64 0)].toArray)) (new := [(Value.int .i64 0), (Value.int .i64 0), (Value.int .i64 0), (Value.int .i64 0), (Value.int .i64 0), (Value.int .i64 0), (Value.int .i64 0)]) rfl Try.type33 h4 rfl rfl rfl rfl bx4 rfl [(Value.int .i64 0), (Value.int .i64 0), (Value.int .i64 0), (Value.int .i64 0), (Value.int .i64 0), (Value.int .i64 0), (Value.int .i64 0)] rfl st ?_)
        intro m47 st bx4 sm48
        refine SeqW.consX rfl (StepX.pure (pAssign (v := (Value.int .i64 2)) rfl rfl) ?_)
        refine SeqW.done fun fr49 hf50 => ?_
        have h4 : fr49 4 = (Value.pointer (some ⟨b4, 0, none⟩)) := (congrFun hf50 4).trans h4
        have h5 : fr49 5 = (Value.int .i64 2) := (congrFun hf50 5).trans rfl
        clear hf50
        refine thenQ.n ?_
        refine W.ret ?_
        refine blockQ.r ?_
        refine thenQ.r ?_
        refine thenQ.r ?_
        obtain rfl := Option.some.inj hr
        exact ⟨z, hz, st, .inr ⟨_, rfl, rfl, h4, bx4, h5, trivial⟩⟩
      · refine W.condF h43 hc51 ?_
        refine W.skip ?_
        refine blockQ.n ?_
        refine thenQ.n ?_
        refine W.region ?_
        refine SeqW.consX rfl (StepX.pure (pAdd (k := .i64) (a := x34) (b := 1) rfl h34 rfl) ?_)
        refine SeqW.consX rfl (StepX.pure (pMove (v := (Value.int .i64 (IntKind.wrap .i64 (x34 + 1)))) rfl rfl) ?_)
        refine SeqW.done fun fr52 hf53 => ?_
        have h0 : fr52 0 = v0 := (congrFun hf53 0).trans h0
        have h4 : fr52 4 = (Value.pointer (some ⟨b4, 0, none⟩)) := (congrFun hf53 4).trans h4
        have h10 : fr52 10 = v10 := (congrFun hf53 10).trans h10
        have h32 : fr52 32 = v32 := (congrFun hf53 32).trans h32
        have h33 : fr52 33 = (Value.int .i64 x33) := (congrFun hf53 33).trans h33
        have h34 : fr52 34 = (Value.int .i64 (IntKind.wrap .i64 (x34 + 1))) := (congrFun hf53 34).trans rfl
        clear hf53
        refine thenQ.n ?_
        exact ih (x4 := x4) hz st h0 s0 h4 bx4 h10 o10 h32 s32 h33 h34 ao4_o10 hr
    · refine W.condF h35 hc54 ?_
      refine W.exit ?_
      refine thenQ.x ?_
      refine thenQ.x ?_
      obtain rfl := Option.some.inj hr
      exact ⟨z, hz, st, .inl ⟨_, rfl, rfl, h4, bx4, o10, ao4_o10, trivial⟩⟩

theorem u_brake_Total_1 : ∀ (n : Nat) {N : Nat}  {z0 z : Nat → Blk} {e m : Mem} {k : Option Nat} {fr : Nat → Value} {x4 : Brakes} {x10 : List Bool} {x46 : List Int} {x47 : Int} {x48 : Int} {b4 : Nat} {v10 : Value} {v46 : Value} (hz : Zx e.next z0 z) (st : St z e m k) (h4 : fr 4 = (Value.pointer (some ⟨b4, 0, none⟩))) (bx4 : Bx z e m k b4 [(Value.int .i64 x4.length), (Value.int .i64 x4.axles), (Value.int .i64 x4.mass), (Value.int .i64 x4.braked), (Value.int .i64 x4.percent), (Value.int .i64 x4.required), (Value.int .i64 x4.missing)] 33) (h10 : fr 10 = v10) (o10 : OwF (TBool 4) z e m k x10 v10) (h46 : fr 46 = v46) (s46 : SlR (TInt 3 .i64) z x46 v46) (h47 : fr 47 = (Value.int .i64 x47)) (h48 : fr 48 = (Value.int .i64 x48)) (ao4_o10 : Ap (some b4) (blkOf v10)) {r : Sum (Brakes × List Bool) (Brakes × Int)} (hr : brake_Total_1 N x46 x47 n x4 x10 x48 = some r), W Try.prog (sub (bodyOf Try.f18) [1, 1, 1, 1, 1, 0, 1, 0]) (fun ex fr' m' => ∃ z', Zx e.next z0 z' ∧ St z' e m' k ∧ ((∃ q, r = Sum.inl q ∧ ex = AExit.exit 2 ∧ fr' 4 = (Value.pointer (some ⟨b4, 0, none⟩)) ∧ Bx z' e m' k b4 [(Value.int .i64 q.1.length), (Value.int .i64 q.1.axles), (Value.int .i64 q.1.mass), (Value.int .i64 q.1.braked), (Value.int .i64 q.1.percent), (Value.int .i64 q.1.required), (Value.int .i64 q.1.missing)] 33 ∧ fr' 10 = v10 ∧ OwF (TBool 4) z' e m' k q.2 v10 ∧ Ap (some b4) (blkOf v10) ∧ True) ∨ (∃ q, r = Sum.inr q ∧ ex = AExit.ret ∧ fr' 4 = (Value.pointer (some ⟨b4, 0, none⟩)) ∧ Bx z' e m' k b4 [(Value.int .i64 q.1.length), (Value.int .i64 q.1.axles), (Value.int .i64 q.1.mass), (Value.int .i64 q.1.braked), (Value.int .i64 q.1.percent), (Value.int .i64 q.1.required), (Value.int .i64 q.1.missing)] 33 ∧ fr' 5 = (Value.int .i64 q.2) ∧ True))) fr m := by
  intro n
  induction n with
  | zero => intro N z0 z e m k fr x4 x10 x46 x47 x48 b4 v10 v46 hz st h4 bx4 h10 o10 h46 s46 h47 h48 ao4_o10 r hr; cases (show (none : Option _) = some r from hr)
  | succ n ih =>
    intro N z0 z e m k fr x4 x10 x46 x47 x48 b4 v10 v46 hz st h4 bx4 h10 o10 h46 s46 h47 h48 ao4_o10 r hr
    unfold brake_Total_1 at hr
    refine W.loop1 ?_
    refine W.seq ?_
    refine W.region ?_
    refine SeqW.consX rfl (StepX.pure (pLss (k := .i64) (a := x48) (b := x47) rfl h48 h47) ?_)
    refine SeqW.done fun fr69 hf70 => ?_
    have h4 : fr69 4 = (Value.pointer (some ⟨b4, 0, none⟩)) := (congrFun hf70 4).trans h4
    have h10 : fr69 10 = v10 := (congrFun hf70 10).trans h10
    have h46 : fr69 46 = v46 := (congrFun hf70 46).trans h46
    have h47 : fr69 47 = (Value.int .i64 x47) := (congrFun hf70 47).trans h47
    have h48 : fr69 48 = (Value.int .i64 x48) := (congrFun hf70 48).trans h48
    have h49 : fr69 49 = (Value.bool (decide (x48 < x47))) := (congrFun hf70 49).trans rfl
    clear hf70
    refine thenQ.n ?_
    refine W.seq ?_
    rcases if_some hr with ⟨hc71, hr⟩ | ⟨hc113, hr⟩
    · refine W.condT h49 hc71 ?_
      refine W.skip ?_
      refine thenQ.n ?_
      refine W.seq ?_
      refine W.block ?_
      refine W.seq ?_
      refine W.region ?_
      obtain ⟨y72, hy72, hr⟩ := bind_some hr
      refine SeqW.consX rfl (kIdxR (T := (TInt 3 .i64)) (xs := x46) (n := x48) rfl Try.underlying22 Try.type3 rfl h46 h48 s46 hy72 ?_)
      intro B73 f74 cs75 hd76 hc77
      obtain rfl := hd76
      refine SeqW.consX rfl (kLoad (v := (Value.int .i64 y72)) rfl Try.underlying3 rfl rfl (ldz_load st.fz (hc77 0 _ rfl)) ?_)
      refine SeqW.consX rfl (StepX.pure (pAssign (v := (Value.int .i64 y72)) rfl rfl) ?_)
      refine SeqW.done fun fr78 hf79 => ?_
      have h4 : fr78 4 = (Value.pointer (some ⟨b4, 0, none⟩)) := (congrFun hf79 4).trans h4
      have h10 : fr78 10 = v10 := (congrFun hf79 10).trans h10
      have h14 : fr78 14 = (Value.int .i64 y72) := (congrFun hf79 14).trans rfl
      have h46 : fr78 46 = v46 := (congrFun hf79 46).trans h46
      have h47 : fr78 47 = (Value.int .i64 x47) := (congrFun hf79 47).trans h47
      have h48 : fr78 48 = (Value.int .i64 x48) := (congrFun hf79 48).trans h48
      clear hf79
      refine thenQ.n ?_
      refine W.seq ?_
      refine W.seq ?_
      refine W.region ?_
      refine SeqW.consX rfl (StepX.pure (pMove (v := v10) rfl h10) ?_)
      refine SeqW.consX rfl (StepX.pure (pMove (v := (Value.int .i64 y72)) rfl h14) ?_)
      obtain ⟨y80, hy80, hr⟩ := bind_some hr
      refine SeqW.consX rfl (kIdxO (T := (TBool 4)) (xs := x10) (n := y72) rfl Try.underlying62 Try.type4 rfl rfl rfl o10 hy80 ?_)
      intro B81 l82 c83 cs84 hv85 hd86 hg87 hc88
      have hd860 := hd86
      obtain rfl := hd860
      refine SeqW.consX rfl (kLoad (v := (Value.bool y80)) rfl Try.underlying4 rfl rfl (hc88 0 _ rfl) ?_)
      refine SeqW.done fun fr89 hf90 => ?_
      have h4 : fr89 4 = (Value.pointer (some ⟨b4, 0, none⟩)) := (congrFun hf90 4).trans h4
      have h10 : fr89 10 = v10 := (congrFun hf90 10).trans h10
      have h14 : fr89 14 = (Value.int .i64 y72) := (congrFun hf90 14).trans h14
      have h46 : fr89 46 = v46 := (congrFun hf90 46).trans h46
      have h47 : fr89 47 = (Value.int .i64 x47) := (congrFun hf90 47).trans h47
      have h48 : fr89 48 = (Value.int .i64 x48) := (congrFun hf90 48).trans h48
      have h55 : fr89 55 = (Value.bool y80) := (congrFun hf90 55).trans rfl
      clear hf90
      refine thenQ.n ?_
      rcases if_some hr with ⟨hc91, hr⟩ | ⟨hc96, hr⟩
      · refine W.condT h55 hc91 ?_
        refine W.seq ?_
        refine W.region ?_
        refine SeqW.consX rfl (kBuildS [] [(Value.int .i64 0), (Value.int .i64 0), (Value.int .i64 0), (Value.int .i64 0), (Value.int .i64 0), (Value.int .i64 0), (Value.int .i64 0)] rfl Try.underlying33 Try.type33 rfl rfl (places33 Try.underlying33) rfl (rfl) rfl ?_)
        refine SeqW.consX rfl (kPut (off := 0) (w := (Value.agg [(Value.int .i64 0), (Value.int .i64 0), (Value.int .i64 0), (Value.int .i64 0), (Value.int .i64 0), (Value.int .i64 0), (Value.int .i64 0)].toArray)) (new := [(Value.int .i64 0), (Value.int .i64 0), (Value.int .i64 0), (Value.int .i64 0), (Value.int .i64 0), (Value.int .i64 0), (Value.int .i64 0)]) rfl Try.type33 h4 rfl rfl rfl rfl bx4 rfl [(Value.int .i64 0), (Value.int .i64 0), (Value.int .i64 0), (Value.int .i64 0), (Value.int .i64 0), (Value.int .i64 0), (Value.int .i64 0)] rfl st ?_)
        intro m92 st bx4 sm93
        refine SeqW.consX rfl (StepX.pure (pAssign (v := (Value.int .i64 8)) rfl rfl) ?_)
        refine SeqW.done fun fr94 hf95 => ?_
        have h4 : fr94 4 = (Value.pointer (some ⟨b4, 0, none⟩)) := (congrFun hf95 4).trans h4
        have h5 : fr94 5 = (Value.int .i64 8) := (congrFun hf95 5).trans rfl
        clear hf95
        refine thenQ.n ?_
        refine W.ret ?_
        refine thenQ.r ?_
        refine blockQ.r ?_
        refine thenQ.r ?_
        refine thenQ.r ?_
        obtain rfl := Option.some.inj hr
        exact ⟨z, hz, st, .inr ⟨_, rfl, rfl, h4, bx4, h5, trivial⟩⟩
      · refine W.condF h55 hc96 ?_
        refine W.skip ?_
        refine thenQ.n ?_
        refine W.region ?_
        refine SeqW.consX rfl (StepX.pure (pMove (v := v10) rfl h10) ?_)
        refine SeqW.consX rfl (StepX.pure (pMove (v := (Value.int .i64 y72)) rfl h14) ?_)
        obtain ⟨y97, hy97, hr⟩ := bind_some hr
        refine SeqW.consX rfl (kIdxO (T := (TBool 4)) (xs := x10) (n := y72) rfl Try.underlying62 Try.type4 rfl rfl rfl o10 hy97 ?_)
        intro B98 l99 c100 cs101 hv102 hd103 hg104 hc105
        have hd1030 := hd103
        obtain rfl := hd1030
        refine SeqW.consX rfl (kSet (T := (TBool 4)) (off := (y72 : Int).toNat * ((TBool 4)).sz) (n := (y72 : Int).toNat) (f := 0) (w := (Value.bool true)) (new := [(Value.bool true)]) (ecs := [(Value.bool y97)]) (ecs' := [(Value.bool true)]) (a := y97) (a' := true) rfl Try.type4 rfl rfl rfl rfl rfl rfl o10 hv102 hg104 hd103 hc105 rfl rfl rfl st ?_)
        intro m106 st o10 sm107
        obtain ⟨y108, hy108, hr⟩ := lt_some hr
        rw [hy108] at o10
        replace bx4 := bx4.same sm107 ao4_o10
        refine SeqW.done fun fr109 hf110 => ?_
        have h4 : fr109 4 = (Value.pointer (some ⟨b4, 0, none⟩)) := (congrFun hf110 4).trans h4
        have h10 : fr109 10 = v10 := (congrFun hf110 10).trans h10
        have h46 : fr109 46 = v46 := (congrFun hf110 46).trans h46
        have h47 : fr109 47 = (Value.int .i64 x47) := (congrFun hf110 47).trans h47
        have h48 : fr109 48 = (Value.int .i64 x48) := (congrFun hf110 48).trans h48
        clear hf110
        refine blockQ.n ?_
        refine thenQ.n ?_
        refine W.region ?_
        refine SeqW.consX rfl (StepX.pure (pAdd (k := .i64) (a := x48) (b := 1) rfl h48 rfl) ?_)
        refine SeqW.consX rfl (StepX.pure (pMove (v := (Value.int .i64 (IntKind.wrap .i64 (x48 + 1)))) rfl rfl) ?_)
        refine SeqW.done fun fr111 hf112 => ?_
        have h4 : fr111 4 = (Value.pointer (some ⟨b4, 0, none⟩)) := (congrFun hf112 4).trans h4
        have h10 : fr111 10 = v10 := (congrFun hf112 10).trans h10
        have h46 : fr111 46 = v46 := (congrFun hf112 46).trans h46
        have h47 : fr111 47 = (Value.int .i64 x47) := (congrFun hf112 47).trans h47
        have h48 : fr111 48 = (Value.int .i64 (IntKind.wrap .i64 (x48 + 1))) := (congrFun hf112 48).trans rfl
        clear hf112
        refine thenQ.n ?_
        exact ih (x4 := x4) hz st h4 bx4 h10 o10 h46 s46 h47 h48 ao4_o10 hr
    · refine W.condF h49 hc113 ?_
      refine W.exit ?_
      refine thenQ.x ?_
      refine thenQ.x ?_
      obtain rfl := Option.some.inj hr
      exact ⟨z, hz, st, .inl ⟨_, rfl, rfl, h4, bx4, h10, o10, ao4_o10, trivial⟩⟩

theorem u_brake_Total_3 {N : Nat}  {z0 z : Nat → Blk} {e m : Mem} {k : Option Nat} {fr : Nat → Value} {x10 : List Bool} {x15 : Brakes} {x65 : List Wagon} {x67 : Int} {x4 : Brakes} {b4 : Nat} {v10 : Value} {b15 : Nat} {v65 : Value} (hz : Zx e.next z0 z) (st : St z e m k) (h4 : fr 4 = (Value.pointer (some ⟨b4, 0, none⟩))) (bx4 : Bx z e m k b4 [(Value.int .i64 x4.length), (Value.int .i64 x4.axles), (Value.int .i64 x4.mass), (Value.int .i64 x4.braked), (Value.int .i64 x4.percent), (Value.int .i64 x4.required), (Value.int .i64 x4.missing)] 33) (h10 : fr 10 = v10) (o10 : OwF (TBool 4) z e m k x10 v10) (h15 : fr 15 = (Value.pointer (some ⟨b15, 0, none⟩))) (bx15 : Bx z e m k b15 [(Value.int .i64 x15.length), (Value.int .i64 x15.axles), (Value.int .i64 x15.mass), (Value.int .i64 x15.braked), (Value.int .i64 x15.percent), (Value.int .i64 x15.required), (Value.int .i64 x15.missing)] 33) (h65 : fr 65 = v65) (s65 : SlR TWagon z x65 v65) (h67 : fr 67 = (Value.int .i64 x67)) (ao4_o10 : Ap (some b4) (blkOf v10)) (ao4_o15 : Ap (some b4) (some b15)) (ao10_o15 : Ap (blkOf v10) (some b15)) {r : Brakes} (hr : brake_Total_3 N x10 x15 x65 x67 = some r) : W Try.prog (sub (bodyOf Try.f18) [1, 1, 1, 1, 1, 1, 1, 0, 1, 0, 0, 1, 1, 0]) (fun ex fr' m' => ∃ z', Zx e.next z0 z' ∧ St z' e m' k ∧ ex = AExit.normal ∧ fr' 15 = (Value.pointer (some ⟨b15, 0, none⟩)) ∧ Bx z' e m' k b15 [(Value.int .i64 r.length), (Value.int .i64 r.axles), (Value.int .i64 r.mass), (Value.int .i64 r.braked), (Value.int .i64 r.percent), (Value.int .i64 r.required), (Value.int .i64 r.missing)] 33 ∧ Bx z' e m' k b4 [(Value.int .i64 x4.length), (Value.int .i64 x4.axles), (Value.int .i64 x4.mass), (Value.int .i64 x4.braked), (Value.int .i64 x4.percent), (Value.int .i64 x4.required), (Value.int .i64 x4.missing)] 33 ∧ OwF (TBool 4) z' e m' k x10 v10 ∧ Ap (some b15) (some b4) ∧ Ap (some b15) (blkOf v10) ∧ Ap (some b4) (blkOf v10) ∧ True) fr m := by
  unfold brake_Total_3 at hr
  refine W.block ?_
  refine W.seq ?_
  refine W.region ?_
  refine SeqW.consX rfl (StepX.pure (pMove (v := (Value.int .i64 x67)) rfl h67) ?_)
  obtain ⟨y144, hy144, hr⟩ := bind_some hr
  refine SeqW.consX rfl (kIdxR (T := TWagon) (xs := x65) (n := x67) rfl Try.underlying25 Try.type48 rfl h65 h67 s65 hy144 ?_)
  intro B145 f146 cs147 hd148 hc149
  obtain rfl := hd148
  refine SeqW.consX rfl (kLoadA rfl Try.underlying48 rfl Try.type48 rfl rfl (st.loads hc149) ?_)
  refine SeqW.consX rfl (kAlloc rfl Try.type48 rfl rfl rfl [(str []), (Value.int .i64 0), (Value.int .i64 0), (Value.int .i64 0), (Value.int .i64 0), (Value.int .i64 0), (Value.bool false), (str [])] rfl st ?_)
  intro B150 m151 st X152 sm153 hap154
  have A156 := hap154 _ bx4.lt'
  have A157 := hap154 _ o10.lt
  have A158 := hap154 _ bx15.lt'
  replace bx4 := bx4.same sm153 Ap.none'
  replace o10 := o10.same sm153 Ap.none'
  replace bx15 := bx15.same sm153 Ap.none'
  refine SeqW.consX rfl (StepX.pure (pAssign (v := (Value.int .i64 x67)) rfl rfl) ?_)
  refine SeqW.consX rfl (kPut (off := 0) (w := (Value.agg [(str y144.number), (Value.int .i64 y144.length), (Value.int .i64 y144.axles), (Value.int .i64 y144.mass), (Value.int .i64 y144.brake), (Value.int .i64 y144.goods), (Value.bool y144.gentle), (str y144.dest)].toArray)) (new := [(str y144.number), (Value.int .i64 y144.length), (Value.int .i64 y144.axles), (Value.int .i64 y144.mass), (Value.int .i64 y144.brake), (Value.int .i64 y144.goods), (Value.bool y144.gentle), (str y144.dest)]) rfl Try.type48 rfl rfl rfl rfl rfl X152 rfl [(str y144.number), (Value.int .i64 y144.length), (Value.int .i64 y144.axles), (Value.int .i64 y144.mass), (Value.int .i64 y144.brake), (Value.int .i64 y144.goods), (Value.bool y144.gentle), (str y144.dest)] rfl st ?_)
  intro m159 st X152 sm160
  replace bx4 := bx4.same sm160 A156
  replace o10 := o10.same sm160 A157
  replace bx15 := bx15.same sm160 A158
  refine SeqW.done fun fr161 hf162 => ?_
  have h4 : fr161 4 = (Value.pointer (some ⟨b4, 0, none⟩)) := (congrFun hf162 4).trans h4
  have h10 : fr161 10 = v10 := (congrFun hf162 10).trans h10
  have h15 : fr161 15 = (Value.pointer (some ⟨b15, 0, none⟩)) := (congrFun hf162 15).trans h15
  have h16 : fr161 16 = (Value.int .i64 x67) := (congrFun hf162 16).trans rfl
  have h17 : fr161 17 = (Value.pointer (some ⟨B150, 0, none⟩)) := (congrFun hf162 17).trans rfl
  have h65 : fr161 65 = v65 := (congrFun hf162 65).trans h65
  have h67 : fr161 67 = (Value.int .i64 x67) := (congrFun hf162 67).trans h67
  clear hf162
  refine thenQ.n ?_
  refine W.seq ?_
  refine W.region ?_
  refine SeqW.consX rfl (StepX.pure (pMove (v := v10) rfl h10) ?_)
  refine SeqW.consX rfl (StepX.pure (pMove (v := (Value.int .i64 x67)) rfl h16) ?_)
  obtain ⟨y163, hy163, hr⟩ := bind_some hr
  refine SeqW.consX rfl (kIdxO (T := (TBool 4)) (xs := x10) (n := x67) rfl Try.underlying62 Try.type4 rfl rfl rfl o10 hy163 ?_)
  intro B164 l165 c166 cs167 hv168 hd169 hg170 hc171
  have hd1690 := hd169
  obtain rfl := hd1690
  refine SeqW.consX rfl (kLoad (v := (Value.bool y163)) rfl Try.underlying4 rfl rfl (hc171 0 _ rfl) ?_)
  refine SeqW.consX rfl (StepX.pure (pNot (b := y163) rfl rfl) ?_)
  refine SeqW.done fun fr172 hf173 => ?_
  have h4 : fr172 4 = (Value.pointer (some ⟨b4, 0, none⟩)) := (congrFun hf173 4).trans h4
  have h10 : fr172 10 = v10 := (congrFun hf173 10).trans h10
  have h15 : fr172 15 = (Value.pointer (some ⟨b15, 0, none⟩)) := (congrFun hf173 15).trans h15
  have h17 : fr172 17 = (Value.pointer (some ⟨B150, 0, none⟩)) := (congrFun hf173 17).trans h17
  have h65 : fr172 65 = v65 := (congrFun hf173 65).trans h65
  have h67 : fr172 67 = (Value.int .i64 x67) := (congrFun hf173 67).trans h67
  have h76 : fr172 76 = (Value.bool (!y163)) := (congrFun hf173 76).trans rfl
  clear hf173
  refine thenQ.n ?_
  rcases if_some hr with ⟨hc174, hr⟩ | ⟨hc179, hr⟩
  · refine W.condT h76 hc174 ?_
    refine W.region ?_
    refine SeqW.consX rfl (kField rfl Try.underlying33 rfl Try.type3 rfl h15 rfl ?_)
    refine SeqW.consX rfl (kLoad rfl Try.underlying3 rfl rfl (bx15.load (v := (Value.int .i64 x15.braked)) rfl) ?_)
    refine SeqW.consX rfl (kField rfl Try.underlying48 rfl Try.type3 rfl h17 rfl ?_)
    refine SeqW.consX rfl (kLoad rfl Try.underlying3 rfl rfl (X152.load (v := (Value.int .i64 y144.brake)) rfl) ?_)
    refine SeqW.consX rfl (StepX.pure (pAdd (k := .i64) (a := x15.braked) (b := y144.brake) rfl rfl rfl) ?_)
    refine SeqW.consX rfl (kField rfl Try.underlying33 rfl Try.type3 rfl h15 rfl ?_)
    refine SeqW.consX rfl (kPut (off := 3) (w := (Value.int .i64 (IntKind.wrap .i64 (x15.braked + y144.brake)))) (new := [(Value.int .i64 (IntKind.wrap .i64 (x15.braked + y144.brake)))]) rfl Try.type3 rfl rfl rfl rfl rfl bx15 rfl [(Value.int .i64 x15.length), (Value.int .i64 x15.axles), (Value.int .i64 x15.mass), (Value.int .i64 (IntKind.wrap .i64 (x15.braked + y144.brake))), (Value.int .i64 x15.percent), (Value.int .i64 x15.required), (Value.int .i64 x15.missing)] rfl st ?_)
    intro m175 st bx15 sm176
    replace bx4 := bx4.same sm176 ao4_o15
    replace o10 := o10.same sm176 ao10_o15
    refine SeqW.done fun fr177 hf178 => ?_
    have h4 : fr177 4 = (Value.pointer (some ⟨b4, 0, none⟩)) := (congrFun hf178 4).trans h4
    have h10 : fr177 10 = v10 := (congrFun hf178 10).trans h10
    have h15 : fr177 15 = (Value.pointer (some ⟨b15, 0, none⟩)) := (congrFun hf178 15).trans h15
    have h65 : fr177 65 = v65 := (congrFun hf178 65).trans h65
    have h67 : fr177 67 = (Value.int .i64 x67) := (congrFun hf178 67).trans h67
    clear hf178
    refine blockQ.n ?_
    obtain rfl := Option.some.inj hr
    exact ⟨z, hz, st, rfl, h15, bx15, bx4, o10, (Ap.symm ao4_o15), (Ap.symm ao10_o15), ao4_o10, trivial⟩
  · refine W.condF h76 hc179 ?_
    refine W.skip ?_
    refine blockQ.n ?_
    obtain rfl := Option.some.inj hr
    exact ⟨z, hz, st, rfl, h15, bx15, bx4, o10, (Ap.symm ao4_o15), (Ap.symm ao10_o15), ao4_o10, trivial⟩

theorem u_brake_Total_2 : ∀ (n : Nat) {N : Nat}  {z0 z : Nat → Blk} {e m : Mem} {k : Option Nat} {fr : Nat → Value} {x10 : List Bool} {x15 : Brakes} {x65 : List Wagon} {x66 : Int} {x67 : Int} {x4 : Brakes} {b4 : Nat} {v10 : Value} {b15 : Nat} {v65 : Value} (hz : Zx e.next z0 z) (st : St z e m k) (h4 : fr 4 = (Value.pointer (some ⟨b4, 0, none⟩))) (bx4 : Bx z e m k b4 [(Value.int .i64 x4.length), (Value.int .i64 x4.axles), (Value.int .i64 x4.mass), (Value.int .i64 x4.braked), (Value.int .i64 x4.percent), (Value.int .i64 x4.required), (Value.int .i64 x4.missing)] 33) (h10 : fr 10 = v10) (o10 : OwF (TBool 4) z e m k x10 v10) (h15 : fr 15 = (Value.pointer (some ⟨b15, 0, none⟩))) (bx15 : Bx z e m k b15 [(Value.int .i64 x15.length), (Value.int .i64 x15.axles), (Value.int .i64 x15.mass), (Value.int .i64 x15.braked), (Value.int .i64 x15.percent), (Value.int .i64 x15.required), (Value.int .i64 x15.missing)] 33) (h65 : fr 65 = v65) (s65 : SlR TWagon z x65 v65) (h66 : fr 66 = (Value.int .i64 x66)) (h67 : fr 67 = (Value.int .i64 x67)) (ao4_o10 : Ap (some b4) (blkOf v10)) (ao4_o15 : Ap (some b4) (some b15)) (ao10_o15 : Ap (blkOf v10) (some b15)) {r : Brakes} (hr : brake_Total_2 N x10 x65 x66 n x15 x67 = some r), W Try.prog (sub (bodyOf Try.f18) [1, 1, 1, 1, 1, 1, 1, 0, 1, 0]) (fun ex fr' m' => ∃ z', Zx e.next z0 z' ∧ St z' e m' k ∧ ex = AExit.exit 4 ∧ fr' 15 = (Value.pointer (some ⟨b15, 0, none⟩)) ∧ Bx z' e m' k b15 [(Value.int .i64 r.length), (Value.int .i64 r.axles), (Value.int .i64 r.mass), (Value.int .i64 r.braked), (Value.int .i64 r.percent), (Value.int .i64 r.required), (Value.int .i64 r.missing)] 33 ∧ Bx z' e m' k b4 [(Value.int .i64 x4.length), (Value.int .i64 x4.axles), (Value.int .i64 x4.mass), (Value.int .i64 x4.braked), (Value.int .i64 x4.percent), (Value.int .i64 x4.required), (Value.int .i64 x4.missing)] 33 ∧ Ap (some b15) (some b4) ∧ True) fr m := by
  intro n
  induction n with
  | zero => intro N z0 z e m k fr x10 x15 x65 x66 x67 x4 b4 v10 b15 v65 hz st h4 bx4 h10 o10 h15 bx15 h65 s65 h66 h67 ao4_o10 ao4_o15 ao10_o15 r hr; cases (show (none : Option _) = some r from hr)
  | succ n ih =>
    intro N z0 z e m k fr x10 x15 x65 x66 x67 x4 b4 v10 b15 v65 hz st h4 bx4 h10 o10 h15 bx15 h65 s65 h66 h67 ao4_o10 ao4_o15 ao10_o15 r hr
    unfold brake_Total_2 at hr
    refine W.loop1 ?_
    refine W.seq ?_
    refine W.region ?_
    refine SeqW.consX rfl (StepX.pure (pLss (k := .i64) (a := x67) (b := x66) rfl h67 h66) ?_)
    refine SeqW.done fun fr141 hf142 => ?_
    have h4 : fr141 4 = (Value.pointer (some ⟨b4, 0, none⟩)) := (congrFun hf142 4).trans h4
    have h10 : fr141 10 = v10 := (congrFun hf142 10).trans h10
    have h15 : fr141 15 = (Value.pointer (some ⟨b15, 0, none⟩)) := (congrFun hf142 15).trans h15
    have h65 : fr141 65 = v65 := (congrFun hf142 65).trans h65
    have h66 : fr141 66 = (Value.int .i64 x66) := (congrFun hf142 66).trans h66
    have h67 : fr141 67 = (Value.int .i64 x67) := (congrFun hf142 67).trans h67
    have h68 : fr141 68 = (Value.bool (decide (x67 < x66))) := (congrFun hf142 68).trans rfl
    clear hf142
    refine thenQ.n ?_
    refine W.seq ?_
    rcases if_some hr with ⟨hc143, hr⟩ | ⟨hc196, hr⟩
    · refine W.condT h68 hc143 ?_
      refine W.skip ?_
      refine thenQ.n ?_
      refine W.seq ?_
      obtain ⟨y180, hy180, hr⟩ := bind_some hr
      refine W.keep (u_brake_Total_3 (x4 := x4) (x15 := x15) (Zx.refl _) st h4 bx4 h10 o10 h15 bx15 h65 s65 h67 ao4_o10 ao4_o15 ao10_o15 hy180) ?_
      rintro ex186 fr181 m182 hk184 ⟨z183, hz185, st, rfl, h15, X188, O189, O190, A191, A192, A193, -⟩
      replace s65 := s65.mono hz185.le
      have h4 := (hk184 4 rfl).trans h4
      have h10 := (hk184 10 rfl).trans h10
      have h65 := (hk184 65 rfl).trans h65
      have h66 := (hk184 66 rfl).trans h66
      have h67 := (hk184 67 rfl).trans h67
      replace hz := hz.trans hz185
      clear hk184
      refine thenQ.n ?_
      refine W.region ?_
      refine SeqW.consX rfl (StepX.pure (pAdd (k := .i64) (a := x67) (b := 1) rfl h67 rfl) ?_)
      refine SeqW.consX rfl (StepX.pure (pMove (v := (Value.int .i64 (IntKind.wrap .i64 (x67 + 1)))) rfl rfl) ?_)
      refine SeqW.done fun fr194 hf195 => ?_
      have h4 : fr194 4 = (Value.pointer (some ⟨b4, 0, none⟩)) := (congrFun hf195 4).trans h4
      have h10 : fr194 10 = v10 := (congrFun hf195 10).trans h10
      have h15 : fr194 15 = (Value.pointer (some ⟨b15, 0, none⟩)) := (congrFun hf195 15).trans h15
      have h65 : fr194 65 = v65 := (congrFun hf195 65).trans h65
      have h66 : fr194 66 = (Value.int .i64 x66) := (congrFun hf195 66).trans h66
      have h67 : fr194 67 = (Value.int .i64 (IntKind.wrap .i64 (x67 + 1))) := (congrFun hf195 67).trans rfl
      clear hf195
      refine thenQ.n ?_
      exact ih (x4 := x4) (x15 := y180) hz st h4 O189 h10 O190 h15 X188 h65 s65 h66 h67 A193 (Ap.symm A191) (Ap.symm A192) hr
    · refine W.condF h68 hc196 ?_
      refine W.exit ?_
      refine thenQ.x ?_
      refine thenQ.x ?_
      obtain rfl := Option.some.inj hr
      exact ⟨z, hz, st, rfl, h15, bx15, bx4, (Ap.symm ao4_o15), trivial⟩

theorem u_brake_Total_4 {N : Nat}  {z0 z : Nat → Blk} {e m : Mem} {k : Option Nat} {fr : Nat → Value} {x7 : Int} {x15 : Brakes} {x92 : Bool} {x4 : Brakes} {b4 : Nat} {b15 : Nat} (hz : Zx e.next z0 z) (st : St z e m k) (h4 : fr 4 = (Value.pointer (some ⟨b4, 0, none⟩))) (bx4 : Bx z e m k b4 [(Value.int .i64 x4.length), (Value.int .i64 x4.axles), (Value.int .i64 x4.mass), (Value.int .i64 x4.braked), (Value.int .i64 x4.percent), (Value.int .i64 x4.required), (Value.int .i64 x4.missing)] 33) (h7 : fr 7 = (Value.int .i64 x7)) (h15 : fr 15 = (Value.pointer (some ⟨b15, 0, none⟩))) (bx15 : Bx z e m k b15 [(Value.int .i64 x15.length), (Value.int .i64 x15.axles), (Value.int .i64 x15.mass), (Value.int .i64 x15.braked), (Value.int .i64 x15.percent), (Value.int .i64 x15.required), (Value.int .i64 x15.missing)] 33) (h92 : fr 92 = (Value.bool x92)) (ao4_o15 : Ap (some b4) (some b15)) {r : Brakes} (hr : brake_Total_4 N x7 x15 x92 = some r) : W Try.prog (sub (bodyOf Try.f18) [1, 1, 1, 1, 1, 1, 1, 1, 1, 0, 1]) (fun ex fr' m' => ∃ z', Zx e.next z0 z' ∧ St z' e m' k ∧ ex = AExit.normal ∧ fr' 15 = (Value.pointer (some ⟨b15, 0, none⟩)) ∧ Bx z' e m' k b15 [(Value.int .i64 r.length), (Value.int .i64 r.axles), (Value.int .i64 r.mass), (Value.int .i64 r.braked), (Value.int .i64 r.percent), (Value.int .i64 r.required), (Value.int .i64 r.missing)] 33 ∧ Bx z' e m' k b4 [(Value.int .i64 x4.length), (Value.int .i64 x4.axles), (Value.int .i64 x4.mass), (Value.int .i64 x4.braked), (Value.int .i64 x4.percent), (Value.int .i64 x4.required), (Value.int .i64 x4.missing)] 33 ∧ Ap (some b15) (some b4) ∧ True) fr m := by
  unfold brake_Total_4 at hr
  rcases if_some hr with ⟨hc221, hr⟩ | ⟨hc227, hr⟩
  · refine W.condT h92 hc221 ?_
    refine W.region ?_
    refine SeqW.consX rfl (kField rfl Try.underlying33 rfl Try.type3 rfl h15 rfl ?_)
    refine SeqW.consX rfl (kLoad rfl Try.underlying3 rfl rfl (bx15.load (v := (Value.int .i64 x15.braked)) rfl) ?_)
    refine SeqW.consX rfl (StepX.pure (pMul (k := .i64) (a := 100) (b := x15.braked) rfl rfl rfl) ?_)
    refine SeqW.consX rfl (StepX.pure (pMove (v := (Value.int .i64 x7)) rfl h7) ?_)
    obtain ⟨y222, hy222, hr⟩ := bind_some hr
    refine SeqW.consX rfl (kQuo (k1 := .i64) (a := (IntKind.wrap .i64 (100 * x15.braked))) (b := x7) rfl rfl rfl hy222 ?_)
    refine SeqW.consX rfl (kField rfl Try.underlying33 rfl Try.type3 rfl h15 rfl ?_)
    refine SeqW.consX rfl (kPut (off := 4) (w := (Value.int .i64 (IntKind.wrap .i64 (y222)))) (new := [(Value.int .i64 (IntKind.wrap .i64 (y222)))]) rfl Try.type3 rfl rfl rfl rfl rfl bx15 rfl [(Value.int .i64 x15.length), (Value.int .i64 x15.axles), (Value.int .i64 x15.mass), (Value.int .i64 x15.braked), (Value.int .i64 (IntKind.wrap .i64 (y222))), (Value.int .i64 x15.required), (Value.int .i64 x15.missing)] rfl st ?_)
    intro m223 st bx15 sm224
    replace bx4 := bx4.same sm224 ao4_o15
    refine SeqW.done fun fr225 hf226 => ?_
    have h4 : fr225 4 = (Value.pointer (some ⟨b4, 0, none⟩)) := (congrFun hf226 4).trans h4
    have h15 : fr225 15 = (Value.pointer (some ⟨b15, 0, none⟩)) := (congrFun hf226 15).trans h15
    clear hf226
    obtain rfl := Option.some.inj hr
    exact ⟨z, hz, st, rfl, h15, bx15, bx4, (Ap.symm ao4_o15), trivial⟩
  · refine W.condF h92 hc227 ?_
    refine W.skip ?_
    obtain rfl := Option.some.inj hr
    exact ⟨z, hz, st, rfl, h15, bx15, bx4, (Ap.symm ao4_o15), trivial⟩

theorem u_brake_Total {N : Nat}  {z0 z : Nat → Blk} {e m : Mem} {k : Option Nat} {fr : Nat → Value} {x0 : List Wagon} {x1 : List Int} {v0 : Value} {v1 : Value} (hz : Zx e.next z0 z) (st : St z e m k) (h0 : fr 0 = v0) (s0 : SlR TWagon z x0 v0) (h1 : fr 1 = v1) (s1 : SlR (TInt 3 .i64) z x1 v1) {r : Brakes × Int} (hr : brake_Total N x0 x1 = some r) : W Try.prog (sub (bodyOf Try.f18) []) (fun ex fr' m' => ∃ z', Zx e.next z0 z' ∧ St z' e m' k ∧ (ex = .normal ∨ ex = .ret) ∧ ∃ (c4 : Nat), fr' 4 = (Value.pointer (some ⟨c4, 0, none⟩)) ∧ Bx z' e m' k c4 [(Value.int .i64 r.1.length), (Value.int .i64 r.1.axles), (Value.int .i64 r.1.mass), (Value.int .i64 r.1.braked), (Value.int .i64 r.1.percent), (Value.int .i64 r.1.required), (Value.int .i64 r.1.missing)] 33 ∧ (e.next ≤ c4 ∨ k = some c4) ∧ fr' 5 = (Value.int .i64 r.2) ∧ True) fr m := by
  unfold brake_Total at hr
  refine W.seq ?_
  refine W.region ?_
  refine SeqW.consX rfl (kAlloc rfl Try.type33 rfl rfl rfl [(Value.int .i64 0), (Value.int .i64 0), (Value.int .i64 0), (Value.int .i64 0), (Value.int .i64 0), (Value.int .i64 0), (Value.int .i64 0)] rfl st ?_)
  intro B1 m2 st X3 sm4 hap5
  refine SeqW.consX rfl (StepX.pure (pAssign (v := (Value.int .i64 0)) rfl rfl) ?_)
  refine SeqW.done fun fr7 hf8 => ?_
  have h0 : fr7 0 = v0 := (congrFun hf8 0).trans h0
  have h1 : fr7 1 = v1 := (congrFun hf8 1).trans h1
  have h4 : fr7 4 = (Value.pointer (some ⟨B1, 0, none⟩)) := (congrFun hf8 4).trans rfl
  clear hf8
  refine thenQ.n ?_
  refine W.seq ?_
  refine W.region ?_
  refine SeqW.consX rfl (StepX.pure (pMove (v := v0) rfl h0) ?_)
  obtain ⟨y9, hy9, hr⟩ := bind_some hr
  refine SeqW.consX rfl (StepX.call (gCallee rfl rfl (args1 rfl)) ((c_consist_Total (z := z) st.fz st.dead s0 hy9).mono ?_))
  rintro _ _ ⟨rfl, rfl⟩
  refine SeqW.consX rfl (StepX.pure (pMove (v := (Value.tuple [(Value.int .i64 y9.1), (Value.int .i64 y9.2.1), (Value.int .i64 y9.2.2.1), (Value.int .i64 y9.2.2.2)].toArray)) rfl rfl) ?_)
  refine SeqW.consX rfl (StepX.pure (pExtract (vs := [(Value.int .i64 y9.1), (Value.int .i64 y9.2.1), (Value.int .i64 y9.2.2.1), (Value.int .i64 y9.2.2.2)]) (v := (Value.int .i64 y9.1)) rfl rfl rfl) ?_)
  refine SeqW.consX rfl (StepX.pure (pExtract (vs := [(Value.int .i64 y9.1), (Value.int .i64 y9.2.1), (Value.int .i64 y9.2.2.1), (Value.int .i64 y9.2.2.2)]) (v := (Value.int .i64 y9.2.1)) rfl rfl rfl) ?_)
  refine SeqW.consX rfl (StepX.pure (pExtract (vs := [(Value.int .i64 y9.1), (Value.int .i64 y9.2.1), (Value.int .i64 y9.2.2.1), (Value.int .i64 y9.2.2.2)]) (v := (Value.int .i64 y9.2.2.1)) rfl rfl rfl) ?_)
  refine SeqW.consX rfl (StepX.pure (pExtract (vs := [(Value.int .i64 y9.1), (Value.int .i64 y9.2.1), (Value.int .i64 y9.2.2.1), (Value.int .i64 y9.2.2.2)]) (v := (Value.int .i64 y9.2.2.2)) rfl rfl rfl) ?_)
  refine SeqW.consX rfl (StepX.pure (pAssign (v := (Value.int .i64 y9.1)) rfl rfl) ?_)
  refine SeqW.consX rfl (StepX.pure (pAssign (v := (Value.int .i64 y9.2.1)) rfl rfl) ?_)
  refine SeqW.consX rfl (StepX.pure (pAssign (v := (Value.int .i64 y9.2.2.1)) rfl rfl) ?_)
  refine SeqW.consX rfl (StepX.pure (pAssign (v := (Value.int .i64 y9.2.2.2)) rfl rfl) ?_)
  refine SeqW.done fun fr10 hf11 => ?_
  have h0 : fr10 0 = v0 := (congrFun hf11 0).trans h0
  have h1 : fr10 1 = v1 := (congrFun hf11 1).trans h1
  have h4 : fr10 4 = (Value.pointer (some ⟨B1, 0, none⟩)) := (congrFun hf11 4).trans h4
  have h6 : fr10 6 = (Value.int .i64 y9.1) := (congrFun hf11 6).trans rfl
  have h7 : fr10 7 = (Value.int .i64 y9.2.1) := (congrFun hf11 7).trans rfl
  have h8 : fr10 8 = (Value.int .i64 y9.2.2.1) := (congrFun hf11 8).trans rfl
  have h9 : fr10 9 = (Value.int .i64 y9.2.2.2) := (congrFun hf11 9).trans rfl
  clear hf11
  refine thenQ.n ?_
  refine W.seq ?_
  refine W.seq ?_
  refine W.region ?_
  refine SeqW.consX rfl (StepX.pure (pMove (v := (Value.int .i64 y9.2.2.2)) rfl h9) ?_)
  refine SeqW.consX rfl (StepX.pure (pNeq (k := .i64) (a := y9.2.2.2) (b := 0) rfl rfl rfl) ?_)
  refine SeqW.done fun fr12 hf13 => ?_
  have h0 : fr12 0 = v0 := (congrFun hf13 0).trans h0
  have h1 : fr12 1 = v1 := (congrFun hf13 1).trans h1
  have h4 : fr12 4 = (Value.pointer (some ⟨B1, 0, none⟩)) := (congrFun hf13 4).trans h4
  have h6 : fr12 6 = (Value.int .i64 y9.1) := (congrFun hf13 6).trans h6
  have h7 : fr12 7 = (Value.int .i64 y9.2.1) := (congrFun hf13 7).trans h7
  have h8 : fr12 8 = (Value.int .i64 y9.2.2.1) := (congrFun hf13 8).trans h8
  have h9 : fr12 9 = (Value.int .i64 y9.2.2.2) := (congrFun hf13 9).trans h9
  have h26 : fr12 26 = (Value.bool (y9.2.2.2 != 0)) := (congrFun hf13 26).trans rfl
  clear hf13
  refine thenQ.n ?_
  rcases if_some hr with ⟨hc14, hr⟩ | ⟨hc19, hr⟩
  · refine W.condT h26 hc14 ?_
    refine W.seq ?_
    refine W.region ?_
    refine SeqW.consX rfl (kBuildS [] [(Value.int .i64 0), (Value.int .i64 0), (Value.int .i64 0), (Value.int .i64 0), (Value.int .i64 0), (Value.int .i64 0), (Value.int .i64 0)] rfl Try.underlying33 Try.type33 rfl rfl (places33 Try.underlying33) rfl (rfl) rfl ?_)
    refine SeqW.consX rfl (StepX.pure (pMove (v := (Value.int .i64 y9.2.2.2)) rfl h9) ?_)
    refine SeqW.consX rfl (kPut (off := 0) (w := (Value.agg [(Value.int .i64 0), (Value.int .i64 0), (Value.int .i64 0), (Value.int .i64 0), (Value.int .i64 0), (Value.int .i64 0), (Value.int .i64 0)].toArray)) (new := [(Value.int .i64 0), (Value.int .i64 0), (Value.int .i64 0), (Value.int .i64 0), (Value.int .i64 0), (Value.int .i64 0), (Value.int .i64 0)]) rfl Try.type33 h4 rfl rfl rfl rfl X3 rfl [(Value.int .i64 0), (Value.int .i64 0), (Value.int .i64 0), (Value.int .i64 0), (Value.int .i64 0), (Value.int .i64 0), (Value.int .i64 0)] rfl st ?_)
    intro m15 st X3 sm16
    refine SeqW.consX rfl (StepX.pure (pAssign (v := (Value.int .i64 y9.2.2.2)) rfl rfl) ?_)
    refine SeqW.done fun fr17 hf18 => ?_
    have h4 : fr17 4 = (Value.pointer (some ⟨B1, 0, none⟩)) := (congrFun hf18 4).trans h4
    have h5 : fr17 5 = (Value.int .i64 y9.2.2.2) := (congrFun hf18 5).trans rfl
    clear hf18
    refine thenQ.n ?_
    refine W.ret ?_
    refine thenQ.r ?_
    obtain rfl := Option.some.inj hr
    exact ⟨z, hz, st, .inr rfl, B1, h4, X3, X3.fresh, h5, trivial⟩
  · refine W.condF h26 hc19 ?_
    refine W.skip ?_
    refine thenQ.n ?_
    refine W.seq ?_
    refine W.region ?_
    refine SeqW.consX rfl (StepX.pure (pMove (v := v0) rfl h0) ?_)
    refine SeqW.consX rfl (StepX.pure (pLenR (xs := x0) rfl Try.underlying25 rfl s0) ?_)
    obtain ⟨y20, hy20, hr⟩ := bind_some hr
    refine SeqW.consX rfl (kMake (T := (TBool 4)) (x0 := false) (n := (x0.length : Int)) rfl Try.underlying62 Try.type4 rfl rfl rfl rfl rfl rfl rfl rfl st hy20 ?_)
    intro V21 m22 st O23 sm24 hap25
    have A27 := hap25 _ X3.lt'
    replace X3 := X3.same sm24 Ap.none'
    refine SeqW.consX rfl (StepX.pure (pAssign (v := V21) rfl rfl) ?_)
    refine SeqW.done fun fr28 hf29 => ?_
    have h0 : fr28 0 = v0 := (congrFun hf29 0).trans h0
    have h1 : fr28 1 = v1 := (congrFun hf29 1).trans h1
    have h4 : fr28 4 = (Value.pointer (some ⟨B1, 0, none⟩)) := (congrFun hf29 4).trans h4
    have h6 : fr28 6 = (Value.int .i64 y9.1) := (congrFun hf29 6).trans h6
    have h7 : fr28 7 = (Value.int .i64 y9.2.1) := (congrFun hf29 7).trans h7
    have h8 : fr28 8 = (Value.int .i64 y9.2.2.1) := (congrFun hf29 8).trans h8
    have h10 : fr28 10 = V21 := (congrFun hf29 10).trans rfl
    clear hf29
    refine thenQ.n ?_
    refine W.seq ?_
    refine W.seq ?_
    refine W.region ?_
    refine SeqW.consX rfl (StepX.pure (pMove (v := v1) rfl h1) ?_)
    refine SeqW.consX rfl (StepX.pure (pLenR (xs := x1) rfl Try.underlying22 rfl s1) ?_)
    refine SeqW.consX rfl (StepX.pure (pMove (v := (Value.int .i64 0)) rfl rfl) ?_)
    refine SeqW.done fun fr30 hf31 => ?_
    have h0 : fr30 0 = v0 := (congrFun hf31 0).trans h0
    have h1 : fr30 1 = v1 := (congrFun hf31 1).trans h1
    have h4 : fr30 4 = (Value.pointer (some ⟨B1, 0, none⟩)) := (congrFun hf31 4).trans h4
    have h6 : fr30 6 = (Value.int .i64 y9.1) := (congrFun hf31 6).trans h6
    have h7 : fr30 7 = (Value.int .i64 y9.2.1) := (congrFun hf31 7).trans h7
    have h8 : fr30 8 = (Value.int .i64 y9.2.2.1) := (congrFun hf31 8).trans h8
    have h10 : fr30 10 = V21 := (congrFun hf31 10).trans h10
    have h32 : fr30 32 = v1 := (congrFun hf31 32).trans rfl
    have h33 : fr30 33 = (Value.int .i64 (x1.length : Int)) := (congrFun hf31 33).trans rfl
    have h34 : fr30 34 = (Value.int .i64 0) := (congrFun hf31 34).trans rfl
    clear hf31
    refine thenQ.n ?_
    refine W.block ?_
    obtain ⟨y55, hy55, hr⟩ := bind_some hr
    refine W.keep (u_brake_Total_0 (x4 := (Brakes.mk 0 0 0 0 0 0 0)) _ (Zx.refl _) st h0 s0 h4 X3 h10 O23 h32 s1 h33 h34 A27 hy55) ?_
    rintro ex61 fr56 m57 hk59 ⟨z58, hz60, st, ⟨y62, rfl, rfl, h4, X64, O65, A66, -⟩ | ⟨y246, rfl, rfl, h4, X248, h5, -⟩⟩
    · dsimp only at hr
      replace s0 := s0.mono hz60.le
      replace s1 := s1.mono hz60.le
      have h0 := (hk59 0 rfl).trans h0
      have h1 := (hk59 1 rfl).trans h1
      have h6 := (hk59 6 rfl).trans h6
      have h7 := (hk59 7 rfl).trans h7
      have h8 := (hk59 8 rfl).trans h8
      have h10 := (hk59 10 rfl).trans h10
      replace hz := hz.trans hz60
      clear hk59
      refine blockQ.hit ?_
      refine thenQ.n ?_
      refine W.seq ?_
      refine W.seq ?_
      refine W.region ?_
      refine SeqW.consX rfl (StepX.pure (pMove (v := v1) rfl h1) ?_)
      refine SeqW.consX rfl (StepX.pure (pLenR (xs := x1) rfl Try.underlying22 rfl s1) ?_)
      refine SeqW.consX rfl (StepX.pure (pMove (v := (Value.int .i64 0)) rfl rfl) ?_)
      refine SeqW.done fun fr67 hf68 => ?_
      have h0 : fr67 0 = v0 := (congrFun hf68 0).trans h0
      have h4 : fr67 4 = (Value.pointer (some ⟨B1, 0, none⟩)) := (congrFun hf68 4).trans h4
      have h6 : fr67 6 = (Value.int .i64 y9.1) := (congrFun hf68 6).trans h6
      have h7 : fr67 7 = (Value.int .i64 y9.2.1) := (congrFun hf68 7).trans h7
      have h8 : fr67 8 = (Value.int .i64 y9.2.2.1) := (congrFun hf68 8).trans h8
      have h10 : fr67 10 = V21 := (congrFun hf68 10).trans h10
      have h46 : fr67 46 = v1 := (congrFun hf68 46).trans rfl
      have h47 : fr67 47 = (Value.int .i64 (x1.length : Int)) := (congrFun hf68 47).trans rfl
      have h48 : fr67 48 = (Value.int .i64 0) := (congrFun hf68 48).trans rfl
      clear hf68
      refine thenQ.n ?_
      refine W.block ?_
      obtain ⟨y114, hy114, hr⟩ := bind_some hr
      refine W.keep (u_brake_Total_1 (x4 := y62) _ (Zx.refl _) st h4 X64 h10 O65 h46 s1 h47 h48 A66 hy114) ?_
      rintro ex120 fr115 m116 hk118 ⟨z117, hz119, st, ⟨y121, rfl, rfl, h4, X123, h10, O125, A126, -⟩ | ⟨y243, rfl, rfl, h4, X245, h5, -⟩⟩
      · dsimp only at hr
        replace s0 := s0.mono hz119.le
        have h0 := (hk118 0 rfl).trans h0
        have h6 := (hk118 6 rfl).trans h6
        have h7 := (hk118 7 rfl).trans h7
        have h8 := (hk118 8 rfl).trans h8
        replace hz := hz.trans hz119
        clear hk118
        refine blockQ.hit ?_
        refine thenQ.n ?_
        refine W.seq ?_
        refine W.region ?_
        refine SeqW.consX rfl (StepX.pure (pMove (v := (Value.int .i64 y9.1)) rfl h6) ?_)
        refine SeqW.consX rfl (StepX.pure (pMove (v := (Value.int .i64 y9.2.2.1)) rfl h8) ?_)
        refine SeqW.consX rfl (StepX.pure (pMove (v := (Value.int .i64 y9.2.1)) rfl h7) ?_)
        refine SeqW.consX rfl (kBuildS [(0, (Value.int .i64 y9.1)), (1, (Value.int .i64 y9.2.2.1)), (2, (Value.int .i64 y9.2.1))] [(Value.int .i64 y9.1), (Value.int .i64 y9.2.2.1), (Value.int .i64 y9.2.1), (Value.int .i64 0), (Value.int .i64 0), (Value.int .i64 0), (Value.int .i64 0)] rfl Try.underlying33 Try.type33 rfl rfl (places33 Try.underlying33) rfl (rfl) rfl ?_)
        refine SeqW.consX rfl (kAlloc rfl Try.type33 rfl rfl rfl [(Value.int .i64 0), (Value.int .i64 0), (Value.int .i64 0), (Value.int .i64 0), (Value.int .i64 0), (Value.int .i64 0), (Value.int .i64 0)] rfl st ?_)
        intro B127 m128 st X129 sm130 hap131
        have A133 := hap131 _ X123.lt'
        have A134 := hap131 _ O125.lt
        replace X123 := X123.same sm130 Ap.none'
        replace O125 := O125.same sm130 Ap.none'
        refine SeqW.consX rfl (kPut (off := 0) (w := (Value.agg [(Value.int .i64 y9.1), (Value.int .i64 y9.2.2.1), (Value.int .i64 y9.2.1), (Value.int .i64 0), (Value.int .i64 0), (Value.int .i64 0), (Value.int .i64 0)].toArray)) (new := [(Value.int .i64 y9.1), (Value.int .i64 y9.2.2.1), (Value.int .i64 y9.2.1), (Value.int .i64 0), (Value.int .i64 0), (Value.int .i64 0), (Value.int .i64 0)]) rfl Try.type33 rfl rfl rfl rfl rfl X129 rfl [(Value.int .i64 y9.1), (Value.int .i64 y9.2.2.1), (Value.int .i64 y9.2.1), (Value.int .i64 0), (Value.int .i64 0), (Value.int .i64 0), (Value.int .i64 0)] rfl st ?_)
        intro m135 st X129 sm136
        replace X123 := X123.same sm136 A133
        replace O125 := O125.same sm136 A134
        refine SeqW.done fun fr137 hf138 => ?_
        have h0 : fr137 0 = v0 := (congrFun hf138 0).trans h0
        have h4 : fr137 4 = (Value.pointer (some ⟨B1, 0, none⟩)) := (congrFun hf138 4).trans h4
        have h6 : fr137 6 = (Value.int .i64 y9.1) := (congrFun hf138 6).trans h6
        have h7 : fr137 7 = (Value.int .i64 y9.2.1) := (congrFun hf138 7).trans h7
        have h10 : fr137 10 = V21 := (congrFun hf138 10).trans h10
        have h15 : fr137 15 = (Value.pointer (some ⟨B127, 0, none⟩)) := (congrFun hf138 15).trans rfl
        clear hf138
        refine thenQ.n ?_
        refine W.seq ?_
        refine W.seq ?_
        refine W.region ?_
        refine SeqW.consX rfl (StepX.pure (pMove (v := v0) rfl h0) ?_)
        refine SeqW.consX rfl (StepX.pure (pLenR (xs := x0) rfl Try.underlying25 rfl s0) ?_)
        refine SeqW.consX rfl (StepX.pure (pMove (v := (Value.int .i64 0)) rfl rfl) ?_)
        refine SeqW.done fun fr139 hf140 => ?_
        have h4 : fr139 4 = (Value.pointer (some ⟨B1, 0, none⟩)) := (congrFun hf140 4).trans h4
        have h6 : fr139 6 = (Value.int .i64 y9.1) := (congrFun hf140 6).trans h6
        have h7 : fr139 7 = (Value.int .i64 y9.2.1) := (congrFun hf140 7).trans h7
        have h10 : fr139 10 = V21 := (congrFun hf140 10).trans h10
        have h15 : fr139 15 = (Value.pointer (some ⟨B127, 0, none⟩)) := (congrFun hf140 15).trans h15
        have h65 : fr139 65 = v0 := (congrFun hf140 65).trans rfl
        have h66 : fr139 66 = (Value.int .i64 (x0.length : Int)) := (congrFun hf140 66).trans rfl
        have h67 : fr139 67 = (Value.int .i64 0) := (congrFun hf140 67).trans rfl
        clear hf140
        refine thenQ.n ?_
        refine W.block ?_
        obtain ⟨y197, hy197, hr⟩ := bind_some hr
        refine W.keep (u_brake_Total_2 (x4 := y121.1) (x15 := (Brakes.mk y9.1 y9.2.2.1 y9.2.1 0 0 0 0)) _ (Zx.refl _) st h4 X123 h10 O125 h15 X129 h65 s0 h66 h67 A126 A133 A134 hy197) ?_
        rintro ex203 fr198 m199 hk201 ⟨z200, hz202, st, rfl, h15, X205, O206, A207, -⟩
        have h4 := (hk201 4 rfl).trans h4
        have h6 := (hk201 6 rfl).trans h6
        have h7 := (hk201 7 rfl).trans h7
        replace hz := hz.trans hz202
        clear hk201
        refine blockQ.hit ?_
        refine thenQ.n ?_
        refine W.seq ?_
        refine W.draw ?_
        refine DrawW.cons rfl (kField rfl Try.underlying33 rfl Try.type3 rfl h15 rfl ?_)
        refine ⟨trivial, ?_⟩
        refine DrawW.cons rfl (kLoad rfl Try.underlying3 rfl rfl (X205.load (v := (Value.int .i64 y197.braked)) rfl) ?_)
        refine ⟨?_, ?_⟩
        · exact demN
        refine DrawW.cons rfl (StepX.pure (pMove (v := (Value.int .i64 y9.1)) rfl h6) ?_)
        refine ⟨trivial, ?_⟩
        have sto208 := st
        have old209 := O206
        have old210 := X205
        obtain ⟨y211, hy211, hr⟩ := bind_some hr
        refine DrawW.cons rfl (StepX.call (gCallee rfl rfl (args1 rfl)) ((c_brake_Factor (z := z200) st.fz st.dead  hy211).mono ?_))
        rintro _ _ ⟨rfl, rfl⟩
        refine ⟨⟨?_, ?_⟩, ?_⟩
        · first | refine demP (gLoad rfl Try.underlying3 rfl rfl (X205.load (v := (Value.int .i64 y197.braked)) rfl)) ?_ | refine demA (by decide) ?_
          exact demN
        · exact demN
        refine DrawW.cons rfl (StepX.pure (pMul (k := .i64) (a := y197.braked) (b := y211) rfl rfl rfl) ?_)
        refine ⟨trivial, ?_⟩
        refine DrawW.cons rfl (StepX.pure (pQuo (k := .i64) (a := (IntKind.wrap .i64 (y197.braked * y211))) (b := 100) rfl rfl rfl (by decide)) ?_)
        refine ⟨trivial, ?_⟩
        refine DrawW.cons rfl (kField rfl Try.underlying33 rfl Try.type3 rfl h15 rfl ?_)
        refine ⟨trivial, ?_⟩
        have sto212 := st
        have old213 := O206
        have old214 := X205
        refine DrawW.cons rfl (kPut (off := 3) (w := (Value.int .i64 (IntKind.wrap .i64 (Int.tdiv (IntKind.wrap .i64 (y197.braked * y211)) 100)))) (new := [(Value.int .i64 (IntKind.wrap .i64 (Int.tdiv (IntKind.wrap .i64 (y197.braked * y211)) 100)))]) rfl Try.type3 rfl rfl rfl rfl rfl X205 rfl [(Value.int .i64 y197.length), (Value.int .i64 y197.axles), (Value.int .i64 y197.mass), (Value.int .i64 (IntKind.wrap .i64 (Int.tdiv (IntKind.wrap .i64 (y197.braked * y211)) 100))), (Value.int .i64 y197.percent), (Value.int .i64 y197.required), (Value.int .i64 y197.missing)] rfl st ?_)
        intro m215 st X205 sm216
        replace O206 := O206.same sm216 (Ap.symm A207)
        refine ⟨⟨?_, ?_⟩, ?_⟩
        · first | refine demP (gLoad rfl Try.underlying3 rfl rfl (X205.load (v := (Value.int .i64 y197.braked)) rfl)) ?_ | refine demA (by decide) ?_
          exact demN
        · exact demN
        refine DrawW.done fun fr217 hf218 => ?_
        have h4 : fr217 4 = (Value.pointer (some ⟨B1, 0, none⟩)) := (congrFun hf218 4).trans h4
        have h7 : fr217 7 = (Value.int .i64 y9.2.1) := (congrFun hf218 7).trans h7
        have h15 : fr217 15 = (Value.pointer (some ⟨B127, 0, none⟩)) := (congrFun hf218 15).trans h15
        clear hf218
        refine thenQ.n ?_
        refine W.seq ?_
        refine W.seq ?_
        refine W.region ?_
        refine SeqW.consX rfl (StepX.pure (pMove (v := (Value.int .i64 y9.2.1)) rfl h7) ?_)
        refine SeqW.consX rfl (StepX.pure (pGtr (k := .i64) (a := y9.2.1) (b := 0) rfl rfl rfl) ?_)
        refine SeqW.done fun fr219 hf220 => ?_
        have h4 : fr219 4 = (Value.pointer (some ⟨B1, 0, none⟩)) := (congrFun hf220 4).trans h4
        have h7 : fr219 7 = (Value.int .i64 y9.2.1) := (congrFun hf220 7).trans h7
        have h15 : fr219 15 = (Value.pointer (some ⟨B127, 0, none⟩)) := (congrFun hf220 15).trans h15
        have h92 : fr219 92 = (Value.bool (decide (0 < y9.2.1))) := (congrFun hf220 92).trans rfl
        clear hf220
        refine thenQ.n ?_
        obtain ⟨y228, hy228, hr⟩ := bind_some hr
        refine W.keep (u_brake_Total_4 (x4 := y121.1) (x15 := (Brakes.mk y197.length y197.axles y197.mass (IntKind.wrap .i64 (Int.tdiv (IntKind.wrap .i64 (y197.braked * y211)) 100)) y197.percent y197.required y197.missing)) (Zx.refl _) st h4 O206 h7 h15 X205 h92 (Ap.symm A207) hy228) ?_
        rintro ex234 fr229 m230 hk232 ⟨z231, hz233, st, rfl, h15, X236, O237, A238, -⟩
        have h4 := (hk232 4 rfl).trans h4
        replace hz := hz.trans hz233
        clear hk232
        refine thenQ.n ?_
        refine W.seq ?_
        refine W.region ?_
        refine SeqW.consX rfl (kLoadA rfl Try.underlying33 rfl Try.type33 rfl h15 X236.loads ?_)
        refine SeqW.consX rfl (kPut (off := 0) (w := (Value.agg [(Value.int .i64 y228.length), (Value.int .i64 y228.axles), (Value.int .i64 y228.mass), (Value.int .i64 y228.braked), (Value.int .i64 y228.percent), (Value.int .i64 y228.required), (Value.int .i64 y228.missing)].toArray)) (new := [(Value.int .i64 y228.length), (Value.int .i64 y228.axles), (Value.int .i64 y228.mass), (Value.int .i64 y228.braked), (Value.int .i64 y228.percent), (Value.int .i64 y228.required), (Value.int .i64 y228.missing)]) rfl Try.type33 h4 rfl rfl rfl rfl O237 rfl [(Value.int .i64 y228.length), (Value.int .i64 y228.axles), (Value.int .i64 y228.mass), (Value.int .i64 y228.braked), (Value.int .i64 y228.percent), (Value.int .i64 y228.required), (Value.int .i64 y228.missing)] rfl st ?_)
        intro m239 st O237 sm240
        refine SeqW.consX rfl (StepX.pure (pAssign (v := (Value.int .i64 0)) rfl rfl) ?_)
        refine SeqW.done fun fr241 hf242 => ?_
        have h4 : fr241 4 = (Value.pointer (some ⟨B1, 0, none⟩)) := (congrFun hf242 4).trans h4
        have h5 : fr241 5 = (Value.int .i64 0) := (congrFun hf242 5).trans rfl
        clear hf242
        refine thenQ.n ?_
        refine W.ret ?_
        obtain rfl := Option.some.inj hr
        exact ⟨z231, hz, st, .inr rfl, B1, h4, O237, O237.fresh, h5, trivial⟩
      · dsimp only at hr
        replace hz := hz.trans hz119
        clear hk118
        refine blockQ.r ?_
        refine thenQ.r ?_
        obtain rfl := Option.some.inj hr
        exact ⟨z117, hz, st, .inr rfl, B1, h4, X245, X245.fresh, h5, trivial⟩
    · dsimp only at hr
      replace hz := hz.trans hz60
      clear hk59
      refine blockQ.r ?_
      refine thenQ.r ?_
      obtain rfl := Option.some.inj hr
      exact ⟨z58, hz, st, .inr rfl, B1, h4, X248, X248.fresh, h5, trivial⟩

theorem c_brake_Total {N : Nat} {z : Nat → Blk} {m : Mem} {x0 : List Wagon} {x1 : List Int} {v0 : Value} {v1 : Value} (fz : Fz z m) (hd : ∀ b, m.next ≤ b → m.blk b = .dead) (s0 : SlR TWagon z x0 v0) (s1 : SlR (TInt 3 .i64) z x1 v1) {r : Brakes × Int} (hr : brake_Total N x0 x1 = some r) : CallW Try.prog 18 #[v0, v1] m fun v m' => ∃ z', Zx m.next z z' ∧ Fz z' m' ∧ Same m m' none ∧ v = (Value.tuple [(Value.agg [(Value.int .i64 r.1.length), (Value.int .i64 r.1.axles), (Value.int .i64 r.1.mass), (Value.int .i64 r.1.braked), (Value.int .i64 r.1.percent), (Value.int .i64 r.1.required), (Value.int .i64 r.1.missing)].toArray), (Value.int .i64 r.2)].toArray) ∧ True := by
  refine CallW.any Try.func18 rfl (by kernel_rfl) (Nat.le_of_ble_eq_true rfl) (fun fr hf => ?_)
  have h0 : fr 0 = _ := hf 0 _ rfl
  have h1 : fr 1 = _ := hf 1 _ rfl
  refine (u_brake_Total (k := none) (Zx.refl _) (St.start fz hd) h0 s0 h1 s1 hr).mono ?_
  rintro ex fr' m' ⟨z', hz, st, he, c4, h4, bx4, fx4, h5, -⟩
  exact ⟨he, [(Value.agg [(Value.int .i64 r.1.length), (Value.int .i64 r.1.axles), (Value.int .i64 r.1.mass), (Value.int .i64 r.1.braked), (Value.int .i64 r.1.percent), (Value.int .i64 r.1.required), (Value.int .i64 r.1.missing)].toArray), (Value.int .i64 r.2)], ⟨resCell h4 bx4 Try.underlying33 rfl Try.type33 rfl, h5.symm, trivial⟩, .inr (List.forall_mem_cons.2 ⟨rfl, List.forall_mem_cons.2 ⟨rfl, fun _ h => nomatch h⟩⟩), z', hz, st.fz, st.toSame, rfl, trivial⟩

/-! ### humpyard/brake.Sheet -/

theorem u_brake_Sheet {N : Nat}  {z0 z : Nat → Blk} {e m : Mem} {k : Option Nat} {fr : Nat → Value} {x0 : List Wagon} {x1 : List Int} {x2 : List BrakeRow} {x3 : Int} {x4 : Int} {v0 : Value} {v1 : Value} {v2 : Value} (hz : Zx e.next z0 z) (st : St z e m k) (h0 : fr 0 = v0) (s0 : SlR TWagon z x0 v0) (h1 : fr 1 = v1) (s1 : SlR (TInt 3 .i64) z x1 v1) (h2 : fr 2 = v2) (s2 : SlR TBrakeRow z x2 v2) (h3 : fr 3 = (Value.int .i64 x3)) (h4 : fr 4 = (Value.int .i64 x4)) {r : Brakes × Int} (hr : brake_Sheet N x0 x1 x2 x3 x4 = some r) : W Try.prog (sub (bodyOf Try.f13) []) (fun ex fr' m' => ∃ z', Zx e.next z0 z' ∧ St z' e m' k ∧ (ex = .normal ∨ ex = .ret) ∧ ∃ (c10 : Nat), fr' 10 = (Value.pointer (some ⟨c10, 0, none⟩)) ∧ Bx z' e m' k c10 [(Value.int .i64 r.1.length), (Value.int .i64 r.1.axles), (Value.int .i64 r.1.mass), (Value.int .i64 r.1.braked), (Value.int .i64 r.1.percent), (Value.int .i64 r.1.required), (Value.int .i64 r.1.missing)] 33 ∧ (e.next ≤ c10 ∨ k = some c10) ∧ fr' 11 = (Value.int .i64 r.2) ∧ True) fr m := by
  unfold brake_Sheet at hr
  refine W.seq ?_
  refine W.region ?_
  refine SeqW.consX rfl (kAlloc rfl Try.type33 rfl rfl rfl [(Value.int .i64 0), (Value.int .i64 0), (Value.int .i64 0), (Value.int .i64 0), (Value.int .i64 0), (Value.int .i64 0), (Value.int .i64 0)] rfl st ?_)
  intro B1 m2 st X3 sm4 hap5
  refine SeqW.consX rfl (StepX.pure (pAssign (v := (Value.int .i64 0)) rfl rfl) ?_)
  refine SeqW.done fun fr7 hf8 => ?_
  have h0 : fr7 0 = v0 := (congrFun hf8 0).trans h0
  have h1 : fr7 1 = v1 := (congrFun hf8 1).trans h1
  have h2 : fr7 2 = v2 := (congrFun hf8 2).trans h2
  have h3 : fr7 3 = (Value.int .i64 x3) := (congrFun hf8 3).trans h3
  have h4 : fr7 4 = (Value.int .i64 x4) := (congrFun hf8 4).trans h4
  have h10 : fr7 10 = (Value.pointer (some ⟨B1, 0, none⟩)) := (congrFun hf8 10).trans rfl
  clear hf8
  refine thenQ.n ?_
  refine W.seq ?_
  refine W.region ?_
  refine SeqW.consX rfl (StepX.pure (pMove (v := v0) rfl h0) ?_)
  refine SeqW.consX rfl (StepX.pure (pMove (v := v1) rfl h1) ?_)
  obtain ⟨y9, hy9, hr⟩ := bind_some hr
  refine SeqW.consX rfl (StepX.call (gCallee rfl rfl (args2 rfl rfl)) ((c_brake_Total (z := z) st.fz st.dead s0 s1 hy9).mono ?_))
  rintro _ m14 ⟨z10, hzx11, fz12, sm13, rfl, -⟩
  replace s0 := s0.mono hzx11.le
  replace s1 := s1.mono hzx11.le
  replace s2 := s2.mono hzx11.le
  replace X3 := X3.call hzx11 sm13 Ap.none'
  replace hz := hz.trans (Zx.here st hzx11)
  replace st := st.call hzx11 fz12 sm13 no_hq
  refine SeqW.consX rfl (StepX.pure (pMove (v := (Value.tuple [(Value.agg [(Value.int .i64 y9.1.length), (Value.int .i64 y9.1.axles), (Value.int .i64 y9.1.mass), (Value.int .i64 y9.1.braked), (Value.int .i64 y9.1.percent), (Value.int .i64 y9.1.required), (Value.int .i64 y9.1.missing)].toArray), (Value.int .i64 y9.2)].toArray)) rfl rfl) ?_)
  refine SeqW.consX rfl (StepX.pure (pExtract (vs := [(Value.agg [(Value.int .i64 y9.1.length), (Value.int .i64 y9.1.axles), (Value.int .i64 y9.1.mass), (Value.int .i64 y9.1.braked), (Value.int .i64 y9.1.percent), (Value.int .i64 y9.1.required), (Value.int .i64 y9.1.missing)].toArray), (Value.int .i64 y9.2)]) (v := (Value.agg [(Value.int .i64 y9.1.length), (Value.int .i64 y9.1.axles), (Value.int .i64 y9.1.mass), (Value.int .i64 y9.1.braked), (Value.int .i64 y9.1.percent), (Value.int .i64 y9.1.required), (Value.int .i64 y9.1.missing)].toArray)) rfl rfl rfl) ?_)
  refine SeqW.consX rfl (StepX.pure (pExtract (vs := [(Value.agg [(Value.int .i64 y9.1.length), (Value.int .i64 y9.1.axles), (Value.int .i64 y9.1.mass), (Value.int .i64 y9.1.braked), (Value.int .i64 y9.1.percent), (Value.int .i64 y9.1.required), (Value.int .i64 y9.1.missing)].toArray), (Value.int .i64 y9.2)]) (v := (Value.int .i64 y9.2)) rfl rfl rfl) ?_)
  refine SeqW.consX rfl (kAlloc rfl Try.type33 rfl rfl rfl [(Value.int .i64 0), (Value.int .i64 0), (Value.int .i64 0), (Value.int .i64 0), (Value.int .i64 0), (Value.int .i64 0), (Value.int .i64 0)] rfl st ?_)
  intro B15 m16 st X17 sm18 hap19
  have A21 := hap19 _ X3.lt'
  replace X3 := X3.same sm18 Ap.none'
  refine SeqW.consX rfl (kPut (off := 0) (w := (Value.agg [(Value.int .i64 y9.1.length), (Value.int .i64 y9.1.axles), (Value.int .i64 y9.1.mass), (Value.int .i64 y9.1.braked), (Value.int .i64 y9.1.percent), (Value.int .i64 y9.1.required), (Value.int .i64 y9.1.missing)].toArray)) (new := [(Value.int .i64 y9.1.length), (Value.int .i64 y9.1.axles), (Value.int .i64 y9.1.mass), (Value.int .i64 y9.1.braked), (Value.int .i64 y9.1.percent), (Value.int .i64 y9.1.required), (Value.int .i64 y9.1.missing)]) rfl Try.type33 rfl rfl rfl rfl rfl X17 rfl [(Value.int .i64 y9.1.length), (Value.int .i64 y9.1.axles), (Value.int .i64 y9.1.mass), (Value.int .i64 y9.1.braked), (Value.int .i64 y9.1.percent), (Value.int .i64 y9.1.required), (Value.int .i64 y9.1.missing)] rfl st ?_)
  intro m22 st X17 sm23
  replace X3 := X3.same sm23 A21
  refine SeqW.consX rfl (StepX.pure (pAssign (v := (Value.int .i64 y9.2)) rfl rfl) ?_)
  refine SeqW.done fun fr24 hf25 => ?_
  have h2 : fr24 2 = v2 := (congrFun hf25 2).trans h2
  have h3 : fr24 3 = (Value.int .i64 x3) := (congrFun hf25 3).trans h3
  have h4 : fr24 4 = (Value.int .i64 x4) := (congrFun hf25 4).trans h4
  have h10 : fr24 10 = (Value.pointer (some ⟨B1, 0, none⟩)) := (congrFun hf25 10).trans h10
  have h12 : fr24 12 = (Value.pointer (some ⟨B15, 0, none⟩)) := (congrFun hf25 12).trans rfl
  have h13 : fr24 13 = (Value.int .i64 y9.2) := (congrFun hf25 13).trans rfl
  clear hf25
  refine thenQ.n ?_
  refine W.seq ?_
  refine W.seq ?_
  refine W.region ?_
  refine SeqW.consX rfl (StepX.pure (pMove (v := (Value.int .i64 y9.2)) rfl h13) ?_)
  refine SeqW.consX rfl (StepX.pure (pNeq (k := .i64) (a := y9.2) (b := 0) rfl rfl rfl) ?_)
  refine SeqW.done fun fr26 hf27 => ?_
  have h2 : fr26 2 = v2 := (congrFun hf27 2).trans h2
  have h3 : fr26 3 = (Value.int .i64 x3) := (congrFun hf27 3).trans h3
  have h4 : fr26 4 = (Value.int .i64 x4) := (congrFun hf27 4).trans h4
  have h10 : fr26 10 = (Value.pointer (some ⟨B1, 0, none⟩)) := (congrFun hf27 10).trans h10
  have h12 : fr26 12 = (Value.pointer (some ⟨B15, 0, none⟩)) := (congrFun hf27 12).trans h12
  have h13 : fr26 13 = (Value.int .i64 y9.2) := (congrFun hf27 13).trans h13
  have h22 : fr26 22 = (Value.bool (y9.2 != 0)) := (congrFun hf27 22).trans rfl
  clear hf27
  refine thenQ.n ?_
  rcases if_some hr with ⟨hc28, hr⟩ | ⟨hc33, hr⟩
  · refine W.condT h22 hc28 ?_
    refine W.seq ?_
    refine W.region ?_
    refine SeqW.consX rfl (kBuildS [] [(Value.int .i64 0), (Value.int .i64 0), (Value.int .i64 0), (Value.int .i64 0), (Value.int .i64 0), (Value.int .i64 0), (Value.int .i64 0)] rfl Try.underlying33 Try.type33 rfl rfl (places33 Try.underlying33) rfl (rfl) rfl ?_)
    refine SeqW.consX rfl (StepX.pure (pMove (v := (Value.int .i64 y9.2)) rfl h13) ?_)
    refine SeqW.consX rfl (kPut (off := 0) (w := (Value.agg [(Value.int .i64 0), (Value.int .i64 0), (Value.int .i64 0), (Value.int .i64 0), (Value.int .i64 0), (Value.int .i64 0), (Value.int .i64 0)].toArray)) (new := [(Value.int .i64 0), (Value.int .i64 0), (Value.int .i64 0), (Value.int .i64 0), (Value.int .i64 0), (Value.int .i64 0), (Value.int .i64 0)]) rfl Try.type33 h10 rfl rfl rfl rfl X3 rfl [(Value.int .i64 0), (Value.int .i64 0), (Value.int .i64 0), (Value.int .i64 0), (Value.int .i64 0), (Value.int .i64 0), (Value.int .i64 0)] rfl st ?_)
    intro m29 st X3 sm30
    refine SeqW.consX rfl (StepX.pure (pAssign (v := (Value.int .i64 y9.2)) rfl rfl) ?_)
    refine SeqW.done fun fr31 hf32 => ?_
    have h10 : fr31 10 = (Value.pointer (some ⟨B1, 0, none⟩)) := (congrFun hf32 10).trans h10
    have h11 : fr31 11 = (Value.int .i64 y9.2) := (congrFun hf32 11).trans rfl
    clear hf32
    refine thenQ.n ?_
    refine W.ret ?_
    refine thenQ.r ?_
    obtain rfl := Option.some.inj hr
    exact ⟨z10, hz, st, .inr rfl, B1, h10, X3, X3.fresh, h11, trivial⟩
  · refine W.condF h22 hc33 ?_
    refine W.skip ?_
    refine thenQ.n ?_
    refine W.seq ?_
    refine W.region ?_
    refine SeqW.consX rfl (StepX.pure (pMove (v := v2) rfl h2) ?_)
    refine SeqW.consX rfl (StepX.pure (pMove (v := (Value.int .i64 x3)) rfl h3) ?_)
    refine SeqW.consX rfl (StepX.pure (pMove (v := (Value.int .i64 x4)) rfl h4) ?_)
    obtain ⟨y34, hy34, hr⟩ := bind_some hr
    refine SeqW.consX rfl (StepX.call (gCallee rfl rfl (args3 rfl rfl rfl)) ((c_brake_Required (z := z10) st.fz st.dead s2 hy34).mono ?_))
    rintro _ _ ⟨rfl, rfl⟩
    refine SeqW.consX rfl (StepX.pure (pMove (v := (Value.tuple [(Value.int .i64 y34.1), (Value.int .i64 y34.2)].toArray)) rfl rfl) ?_)
    refine SeqW.consX rfl (StepX.pure (pExtract (vs := [(Value.int .i64 y34.1), (Value.int .i64 y34.2)]) (v := (Value.int .i64 y34.1)) rfl rfl rfl) ?_)
    refine SeqW.consX rfl (StepX.pure (pExtract (vs := [(Value.int .i64 y34.1), (Value.int .i64 y34.2)]) (v := (Value.int .i64 y34.2)) rfl rfl rfl) ?_)
    refine SeqW.consX rfl (StepX.pure (pAssign (v := (Value.int .i64 y34.1)) rfl rfl) ?_)
    refine SeqW.consX rfl (StepX.pure (pAssign (v := (Value.int .i64 y34.2)) rfl rfl) ?_)
    refine SeqW.done fun fr35 hf36 => ?_
    have h10 : fr35 10 = (Value.pointer (some ⟨B1, 0, none⟩)) := (congrFun hf36 10).trans h10
    have h12 : fr35 12 = (Value.pointer (some ⟨B15, 0, none⟩)) := (congrFun hf36 12).trans h12
    have h13 : fr35 13 = (Value.int .i64 y34.2) := (congrFun hf36 13).trans rfl
    have h14 : fr35 14 = (Value.int .i64 y34.1) := (congrFun hf36 14).trans rfl
    clear hf36
    refine thenQ.n ?_
    refine W.seq ?_
    refine W.seq ?_
    refine W.region ?_
    refine SeqW.consX rfl (StepX.pure (pMove (v := (Value.int .i64 y34.2)) rfl h13) ?_)
    refine SeqW.consX rfl (StepX.pure (pNeq (k := .i64) (a := y34.2) (b := 0) rfl rfl rfl) ?_)
    refine SeqW.done fun fr37 hf38 => ?_
    have h10 : fr37 10 = (Value.pointer (some ⟨B1, 0, none⟩)) := (congrFun hf38 10).trans h10
    have h12 : fr37 12 = (Value.pointer (some ⟨B15, 0, none⟩)) := (congrFun hf38 12).trans h12
    have h13 : fr37 13 = (Value.int .i64 y34.2) := (congrFun hf38 13).trans h13
    have h14 : fr37 14 = (Value.int .i64 y34.1) := (congrFun hf38 14).trans h14
    have h33 : fr37 33 = (Value.bool (y34.2 != 0)) := (congrFun hf38 33).trans rfl
    clear hf38
    refine thenQ.n ?_
    rcases if_some hr with ⟨hc39, hr⟩ | ⟨hc44, hr⟩
    · refine W.condT h33 hc39 ?_
      refine W.seq ?_
      refine W.region ?_
      refine SeqW.consX rfl (kBuildS [] [(Value.int .i64 0), (Value.int .i64 0), (Value.int .i64 0), (Value.int .i64 0), (Value.int .i64 0), (Value.int .i64 0), (Value.int .i64 0)] rfl Try.underlying33 Try.type33 rfl rfl (places33 Try.underlying33) rfl (rfl) rfl ?_)
      refine SeqW.consX rfl (StepX.pure (pMove (v := (Value.int .i64 y34.2)) rfl h13) ?_)
      refine SeqW.consX rfl (kPut (off := 0) (w := (Value.agg [(Value.int .i64 0), (Value.int .i64 0), (Value.int .i64 0), (Value.int .i64 0), (Value.int .i64 0), (Value.int .i64 0), (Value.int .i64 0)].toArray)) (new := [(Value.int .i64 0), (Value.int .i64 0), (Value.int .i64 0), (Value.int .i64 0), (Value.int .i64 0), (Value.int .i64 0), (Value.int .i64 0)]) rfl Try.type33 h10 rfl rfl rfl rfl X3 rfl [(Value.int .i64 0), (Value.int .i64 0), (Value.int .i64 0), (Value.int .i64 0), (Value.int .i64 0), (Value.int .i64 0), (Value.int .i64 0)] rfl st ?_)
      intro m40 st X3 sm41
      refine SeqW.consX rfl (StepX.pure (pAssign (v := (Value.int .i64 y34.2)) rfl rfl) ?_)
      refine SeqW.done fun fr42 hf43 => ?_
      have h10 : fr42 10 = (Value.pointer (some ⟨B1, 0, none⟩)) := (congrFun hf43 10).trans h10
      have h11 : fr42 11 = (Value.int .i64 y34.2) := (congrFun hf43 11).trans rfl
      clear hf43
      refine thenQ.n ?_
      refine W.ret ?_
      refine thenQ.r ?_
      obtain rfl := Option.some.inj hr
      exact ⟨z10, hz, st, .inr rfl, B1, h10, X3, X3.fresh, h11, trivial⟩
    · refine W.condF h33 hc44 ?_
      refine W.skip ?_
      refine thenQ.n ?_
      refine W.seq ?_
      refine W.region ?_
      refine SeqW.consX rfl (StepX.pure (pMove (v := (Value.int .i64 y34.1)) rfl h14) ?_)
      refine SeqW.consX rfl (kField rfl Try.underlying33 rfl Try.type3 rfl h12 rfl ?_)
      refine SeqW.consX rfl (kPut (off := 5) (w := (Value.int .i64 y34.1)) (new := [(Value.int .i64 y34.1)]) rfl Try.type3 rfl rfl rfl rfl rfl X17 rfl [(Value.int .i64 y9.1.length), (Value.int .i64 y9.1.axles), (Value.int .i64 y9.1.mass), (Value.int .i64 y9.1.braked), (Value.int .i64 y9.1.percent), (Value.int .i64 y34.1), (Value.int .i64 y9.1.missing)] rfl st ?_)
      intro m45 st X17 sm46
      replace X3 := X3.same sm46 A21
      refine SeqW.done fun fr47 hf48 => ?_
      have h10 : fr47 10 = (Value.pointer (some ⟨B1, 0, none⟩)) := (congrFun hf48 10).trans h10
      have h12 : fr47 12 = (Value.pointer (some ⟨B15, 0, none⟩)) := (congrFun hf48 12).trans h12
      have h14 : fr47 14 = (Value.int .i64 y34.1) := (congrFun hf48 14).trans h14
      clear hf48
      refine thenQ.n ?_
      refine W.seq ?_
      refine W.region ?_
      refine SeqW.consX rfl (StepX.pure (pMove (v := (Value.int .i64 y34.1)) rfl h14) ?_)
      refine SeqW.consX rfl (kField rfl Try.underlying33 rfl Try.type3 rfl h12 rfl ?_)
      refine SeqW.consX rfl (kLoad rfl Try.underlying3 rfl rfl (X17.load (v := (Value.int .i64 y9.1.mass)) rfl) ?_)
      refine SeqW.consX rfl (StepX.pure (pMul (k := .i64) (a := y34.1) (b := y9.1.mass) rfl rfl rfl) ?_)
      refine SeqW.consX rfl (StepX.pure (pAdd (k := .i64) (a := (IntKind.wrap .i64 (y34.1 * y9.1.mass))) (b := 99) rfl rfl rfl) ?_)
      refine SeqW.consX rfl (StepX.pure (pQuo (k := .i64) (a := (IntKind.wrap .i64 ((IntKind.wrap .i64 (y34.1 * y9.1.mass)) + 99))) (b := 100) rfl rfl rfl (by decide)) ?_)
      refine SeqW.consX rfl (kField rfl Try.underlying33 rfl Try.type3 rfl h12 rfl ?_)
      refine SeqW.consX rfl (kLoad rfl Try.underlying3 rfl rfl (X17.load (v := (Value.int .i64 y9.1.braked)) rfl) ?_)
      refine SeqW.consX rfl (StepX.pure (pSub (k := .i64) (a := (IntKind.wrap .i64 (Int.tdiv (IntKind.wrap .i64 ((IntKind.wrap .i64 (y34.1 * y9.1.mass)) + 99)) 100))) (b := y9.1.braked) rfl rfl rfl) ?_)
      refine SeqW.consX rfl (StepX.pure (pMax2 (k := .i64) (a := 0) (b := (IntKind.wrap .i64 ((IntKind.wrap .i64 (Int.tdiv (IntKind.wrap .i64 ((IntKind.wrap .i64 (y34.1 * y9.1.mass)) + 99)) 100)) - y9.1.braked))) rfl rfl rfl) ?_)
      refine SeqW.consX rfl (kField rfl Try.underlying33 rfl Try.type3 rfl h12 rfl ?_)
      refine SeqW.consX rfl (kPut (off := 6) (w := (Value.int .i64 (max 0 (IntKind.wrap .i64 ((IntKind.wrap .i64 (Int.tdiv (IntKind.wrap .i64 ((IntKind.wrap .i64 (y34.1 * y9.1.mass)) + 99)) 100)) - y9.1.braked))))) (new := [(Value.int .i64 (max 0 (IntKind.wrap .i64 ((IntKind.wrap .i64 (Int.tdiv (IntKind.wrap .i64 ((IntKind.wrap .i64 (y34.1 * y9.1.mass)) + 99)) 100)) - y9.1.braked))))]) rfl Try.type3 rfl rfl rfl rfl rfl X17 rfl [(Value.int .i64 y9.1.length), (Value.int .i64 y9.1.axles), (Value.int .i64 y9.1.mass), (Value.int .i64 y9.1.braked), (Value.int .i64 y9.1.percent), (Value.int .i64 y34.1), (Value.int .i64 (max 0 (IntKind.wrap .i64 ((IntKind.wrap .i64 (Int.tdiv (IntKind.wrap .i64 ((IntKind.wrap .i64 (y34.1 * y9.1.mass)) + 99)) 100)) - y9.1.braked))))] rfl st ?_)
      intro m49 st X17 sm50
      replace X3 := X3.same sm50 A21
      refine SeqW.done fun fr51 hf52 => ?_
      have h10 : fr51 10 = (Value.pointer (some ⟨B1, 0, none⟩)) := (congrFun hf52 10).trans h10
      have h12 : fr51 12 = (Value.pointer (some ⟨B15, 0, none⟩)) := (congrFun hf52 12).trans h12
      clear hf52
      refine thenQ.n ?_
      refine W.seq ?_
      refine W.region ?_
      refine SeqW.consX rfl (kLoadA rfl Try.underlying33 rfl Try.type33 rfl h12 X17.loads ?_)
      refine SeqW.consX rfl (kPut (off := 0) (w := (Value.agg [(Value.int .i64 y9.1.length), (Value.int .i64 y9.1.axles), (Value.int .i64 y9.1.mass), (Value.int .i64 y9.1.braked), (Value.int .i64 y9.1.percent), (Value.int .i64 y34.1), (Value.int .i64 (max 0 (IntKind.wrap .i64 ((IntKind.wrap .i64 (Int.tdiv (IntKind.wrap .i64 ((IntKind.wrap .i64 (y34.1 * y9.1.mass)) + 99)) 100)) - y9.1.braked))))].toArray)) (new := [(Value.int .i64 y9.1.length), (Value.int .i64 y9.1.axles), (Value.int .i64 y9.1.mass), (Value.int .i64 y9.1.braked), (Value.int .i64 y9.1.percent), (Value.int .i64 y34.1), (Value.int .i64 (max 0 (IntKind.wrap .i64 ((IntKind.wrap .i64 (Int.tdiv (IntKind.wrap .i64 ((IntKind.wrap .i64 (y34.1 * y9.1.mass)) + 99)) 100)) - y9.1.braked))))]) rfl Try.type33 h10 rfl rfl rfl rfl X3 rfl [(Value.int .i64 y9.1.length), (Value.int .i64 y9.1.axles), (Value.int .i64 y9.1.mass), (Value.int .i64 y9.1.braked), (Value.int .i64 y9.1.percent), (Value.int .i64 y34.1), (Value.int .i64 (max 0 (IntKind.wrap .i64 ((IntKind.wrap .i64 (Int.tdiv (IntKind.wrap .i64 ((IntKind.wrap .i64 (y34.1 * y9.1.mass)) + 99)) 100)) - y9.1.braked))))] rfl st ?_)
      intro m53 st X3 sm54
      refine SeqW.consX rfl (StepX.pure (pAssign (v := (Value.int .i64 0)) rfl rfl) ?_)
      refine SeqW.done fun fr55 hf56 => ?_
      have h10 : fr55 10 = (Value.pointer (some ⟨B1, 0, none⟩)) := (congrFun hf56 10).trans h10
      have h11 : fr55 11 = (Value.int .i64 0) := (congrFun hf56 11).trans rfl
      clear hf56
      refine thenQ.n ?_
      refine W.ret ?_
      obtain rfl := Option.some.inj hr
      exact ⟨z10, hz, st, .inr rfl, B1, h10, X3, X3.fresh, h11, trivial⟩

theorem c_brake_Sheet {N : Nat} {z : Nat → Blk} {m : Mem} {x0 : List Wagon} {x1 : List Int} {x2 : List BrakeRow} {x3 : Int} {x4 : Int} {v0 : Value} {v1 : Value} {v2 : Value} (fz : Fz z m) (hd : ∀ b, m.next ≤ b → m.blk b = .dead) (s0 : SlR TWagon z x0 v0) (s1 : SlR (TInt 3 .i64) z x1 v1) (s2 : SlR TBrakeRow z x2 v2) {r : Brakes × Int} (hr : brake_Sheet N x0 x1 x2 x3 x4 = some r) : CallW Try.prog 13 #[v0, v1, v2, (Value.int .i64 x3), (Value.int .i64 x4)] m fun v m' => ∃ z', Zx m.next z z' ∧ Fz z' m' ∧ Same m m' none ∧ v = (Value.tuple [(Value.agg [(Value.int .i64 r.1.length), (Value.int .i64 r.1.axles), (Value.int .i64 r.1.mass), (Value.int .i64 r.1.braked), (Value.int .i64 r.1.percent), (Value.int .i64 r.1.required), (Value.int .i64 r.1.missing)].toArray), (Value.int .i64 r.2)].toArray) ∧ True := by
  refine CallW.any Try.func13 rfl (by kernel_rfl) (Nat.le_of_ble_eq_true rfl) (fun fr hf => ?_)
  have h0 : fr 0 = _ := hf 0 _ rfl
  have h1 : fr 1 = _ := hf 1 _ rfl
  have h2 : fr 2 = _ := hf 2 _ rfl
  have h3 : fr 3 = _ := hf 3 _ rfl
  have h4 : fr 4 = _ := hf 4 _ rfl
  refine (u_brake_Sheet (k := none) (Zx.refl _) (St.start fz hd) h0 s0 h1 s1 h2 s2 h3 h4 hr).mono ?_
  rintro ex fr' m' ⟨z', hz, st, he, c10, h10, bx10, fx10, h11, -⟩
  exact ⟨he, [(Value.agg [(Value.int .i64 r.1.length), (Value.int .i64 r.1.axles), (Value.int .i64 r.1.mass), (Value.int .i64 r.1.braked), (Value.int .i64 r.1.percent), (Value.int .i64 r.1.required), (Value.int .i64 r.1.missing)].toArray), (Value.int .i64 r.2)], ⟨resCell h10 bx10 Try.underlying33 rfl Try.type33 rfl, h11.symm, trivial⟩, .inr (List.forall_mem_cons.2 ⟨rfl, List.forall_mem_cons.2 ⟨rfl, fun _ h => nomatch h⟩⟩), z', hz, st.fz, st.toSame, rfl, trivial⟩

/-! ### (*humpyard/humpgen.Maker).Digits -/

theorem u_Maker_Digits_0 : ∀ (n : Nat) {N : Nat}  {z0 z : Nat → Blk} {e m : Mem} {k : Option Nat} {fr : Nat → Value} {x0 : Maker} {x1 : Int} {x5 : List UInt8} {x6 : Int} {v0_0 : Value} {b0 : Nat} {v5 : Value} (hz : Zx e.next z0 z) (st : St z e m k) (h0 : fr 0 = (Value.pointer (some ⟨b0, 0, none⟩))) (s0_0 : SlR (TInt 3 .i64) z x0.l v0_0) (bx0 : Bx z e m k b0 [v0_0, (Value.int .i64 x0.n)] 54) (h1 : fr 1 = (Value.int .i64 x1)) (h5 : fr 5 = v5) (o5 : OwF (TU8 5) z e m k x5 v5) (h6 : fr 6 = (Value.int .i64 x6)) (ao0_o5 : Ap (some b0) (blkOf v5)) {r : Maker × List UInt8} (hr : Maker_Digits_0 N x1 n x0 x5 x6 = some r), W Try.prog (sub (bodyOf Try.f43) [1, 1, 0, 1, 0]) (fun ex fr' m' => ∃ z', Zx e.next z0 z' ∧ St z' e m' k ∧ ex = AExit.exit 0 ∧ ∃ (w0_0 : Value), fr' 0 = (Value.pointer (some ⟨b0, 0, none⟩)) ∧ SlR (TInt 3 .i64) z' r.1.l w0_0 ∧ Bx z' e m' k b0 [w0_0, (Value.int .i64 r.1.n)] 54 ∧ fr' 5 = v5 ∧ OwF (TU8 5) z' e m' k r.2 v5 ∧ Ap (some b0) (blkOf v5) ∧ True) fr m := by
  intro n
  induction n with
  | zero => intro N z0 z e m k fr x0 x1 x5 x6 v0_0 b0 v5 hz st h0 s0_0 bx0 h1 h5 o5 h6 ao0_o5 r hr; cases (show (none : Option _) = some r from hr)
  | succ n ih =>
    intro N z0 z e m k fr x0 x1 x5 x6 v0_0 b0 v5 hz st h0 s0_0 bx0 h1 h5 o5 h6 ao0_o5 r hr
    unfold Maker_Digits_0 at hr
    refine W.loop1 ?_
    refine W.seq ?_
    refine W.seq ?_
    refine W.region ?_
    refine SeqW.consX rfl (StepX.pure (pMove (v := (Value.int .i64 x6)) rfl h6) ?_)
    refine SeqW.consX rfl (StepX.pure (pMove (v := (Value.int .i64 x1)) rfl h1) ?_)
    refine SeqW.consX rfl (StepX.pure (pLss (k := .i64) (a := x6) (b := x1) rfl rfl rfl) ?_)
    refine SeqW.done fun fr15 hf16 => ?_
    have h0 : fr15 0 = (Value.pointer (some ⟨b0, 0, none⟩)) := (congrFun hf16 0).trans h0
    have h1 : fr15 1 = (Value.int .i64 x1) := (congrFun hf16 1).trans h1
    have h5 : fr15 5 = v5 := (congrFun hf16 5).trans h5
    have h6 : fr15 6 = (Value.int .i64 x6) := (congrFun hf16 6).trans h6
    have h11 : fr15 11 = (Value.bool (decide (x6 < x1))) := (congrFun hf16 11).trans rfl
    clear hf16
    refine thenQ.n ?_
    rcases if_some hr with ⟨hc17, hr⟩ | ⟨hc46, hr⟩
    · refine W.condT h11 hc17 ?_
      refine W.skip ?_
      refine thenQ.n ?_
      refine W.seq ?_
      refine W.block ?_
      refine W.region ?_
      refine SeqW.consX rfl (StepX.pure (pMove (v := v5) rfl h5) ?_)
      refine SeqW.consX rfl (StepX.pure (pMove (v := (Value.int .i64 x6)) rfl h6) ?_)
      refine SeqW.consX rfl (StepX.pure (pMove (v := (Value.pointer (some ⟨b0, 0, none⟩))) rfl h0) ?_)
      obtain ⟨y18, hy18, hr⟩ := bind_some hr
      refine SeqW.consX rfl (StepX.call (gCallee rfl rfl (args2 rfl rfl)) ((c_Maker_Next (x0 := x0) (z := z) st.fz st.dead s0_0 ⟨bx0.blk, bx0.lt, bx0.dead, .inr rfl⟩ hy18).mono ?_))
      rintro _ m23 ⟨z19, V24, hzx20, fz21, sm22, rfl, Q25, X27, -⟩
      replace s0_0 := s0_0.mono hzx20.le
      replace o5 := o5.call hzx20 sm22 (Ap.symm ao0_o5)
      have bx0n : Bx z19 e m23 k b0 _ _ := ⟨X27.blk, X27.lt, X27.dead, bx0.fresh⟩
      replace hz := hz.trans (Zx.here st hzx20)
      replace st := st.call hzx20 fz21 sm22 bx0.hq
      refine SeqW.consX rfl (StepX.pure (pAdd (k := .i64) (a := 48) (b := y18.1) rfl rfl rfl) ?_)
      refine SeqW.consX rfl (StepX.pure (pConv (k := .i64) (a := (IntKind.wrap .i64 (48 + y18.1))) rfl Try.underlying3 Try.underlying5 rfl) ?_)
      obtain ⟨y28, hy28, hr⟩ := bind_some hr
      refine SeqW.consX rfl (kIdxO (T := (TU8 5)) (xs := x5) (n := x6) rfl Try.underlying68 Try.type5 rfl rfl rfl o5 hy28 ?_)
      intro B29 l30 c31 cs32 hv33 hd34 hg35 hc36
      have hd340 := hd34
      obtain rfl := hd340
      obtain ⟨y39, hy39, hr⟩ := bind_some hr
      refine SeqW.consX rfl (kSet (T := (TU8 5)) (off := (x6 : Int).toNat * ((TU8 5)).sz) (n := (x6 : Int).toNat) (f := 0) (w := (Value.int .u8 (UInt8.toNat y39 : Int))) (new := [(Value.int .u8 (UInt8.toNat y39 : Int))]) (ecs := [(Value.int .u8 (UInt8.toNat y28 : Int))]) (ecs' := [(Value.int .u8 (UInt8.toNat y39 : Int))]) (a := y28) (a' := y39) rfl Try.type5 rfl rfl (by rw [← toU8_some hy39]; exact rfl) rfl rfl rfl o5 hv33 hg35 hd34 hc36 rfl rfl rfl st ?_)
      intro m37 st o5 sm38
      obtain ⟨y40, hy40, hr⟩ := lt_some hr
      rw [hy40] at o5
      replace bx0n := bx0n.same sm38 ao0_o5
      refine SeqW.done fun fr41 hf42 => ?_
      have h0 : fr41 0 = (Value.pointer (some ⟨b0, 0, none⟩)) := (congrFun hf42 0).trans h0
      have h1 : fr41 1 = (Value.int .i64 x1) := (congrFun hf42 1).trans h1
      have h5 : fr41 5 = v5 := (congrFun hf42 5).trans h5
      have h6 : fr41 6 = (Value.int .i64 x6) := (congrFun hf42 6).trans h6
      clear hf42
      refine blockQ.n ?_
      refine thenQ.n ?_
      refine W.region ?_
      refine SeqW.consX rfl (StepX.pure (pMove (v := (Value.int .i64 x6)) rfl h6) ?_)
      refine SeqW.consX rfl (StepX.pure (pAdd (k := .i64) (a := x6) (b := 1) rfl rfl rfl) ?_)
      obtain ⟨y43, hy43, hr⟩ := lt_some hr
      refine SeqW.consX rfl (StepX.pure (pAssign rfl (congrArg (Value.int .i64) hy43)) ?_)
      refine SeqW.done fun fr44 hf45 => ?_
      have h0 : fr44 0 = (Value.pointer (some ⟨b0, 0, none⟩)) := (congrFun hf45 0).trans h0
      have h1 : fr44 1 = (Value.int .i64 x1) := (congrFun hf45 1).trans h1
      have h5 : fr44 5 = v5 := (congrFun hf45 5).trans h5
      have h6 : fr44 6 = (Value.int .i64 y43) := (congrFun hf45 6).trans rfl
      clear hf45
      refine thenQ.n ?_
      exact ih (x0 := y18.2) hz st h0 Q25 bx0n h1 h5 o5 h6 ao0_o5 hr
    · refine W.condF h11 hc46 ?_
      refine W.exit ?_
      refine thenQ.x ?_
      refine thenQ.x ?_
      obtain rfl := Option.some.inj hr
      exact ⟨z, hz, st, rfl, v0_0, h0, s0_0, bx0, h5, o5, ao0_o5, trivial⟩

theorem u_Maker_Digits {N : Nat}  {z0 z : Nat → Blk} {e m : Mem} {k : Option Nat} {fr : Nat → Value} {x0 : Maker} {x1 : Int} {v0_0 : Value} {b0 : Nat} (hz : Zx e.next z0 z) (st : St z e m k) (h0 : fr 0 = (Value.pointer (some ⟨b0, 0, none⟩))) (s0_0 : SlR (TInt 3 .i64) z x0.l v0_0) (bx0 : Bx z e m k b0 [v0_0, (Value.int .i64 x0.n)] 54) (h1 : fr 1 = (Value.int .i64 x1)) {r : List UInt8 × Maker} (hr : Maker_Digits N x0 x1 = some r) : W Try.prog (sub (bodyOf Try.f43) []) (fun ex fr' m' => ∃ z', Zx e.next z0 z' ∧ St z' e m' k ∧ (ex = .normal ∨ ex = .ret) ∧ ∃ (wr_0 : Value), fr' 4 = (str r.1) ∧ SlR (TInt 3 .i64) z' r.2.l wr_0 ∧ Bx z' e m' k b0 [wr_0, (Value.int .i64 r.2.n)] 54 ∧ True) fr m := by
  unfold Maker_Digits at hr
  refine W.seq ?_
  refine W.region ?_
  refine SeqW.consX rfl (StepX.pure (pAssign (v := (str [])) rfl rfl) ?_)
  refine SeqW.done fun fr1 hf2 => ?_
  have h0 : fr1 0 = (Value.pointer (some ⟨b0, 0, none⟩)) := (congrFun hf2 0).trans h0
  have h1 : fr1 1 = (Value.int .i64 x1) := (congrFun hf2 1).trans h1
  clear hf2
  refine thenQ.n ?_
  refine W.seq ?_
  refine W.region ?_
  refine SeqW.consX rfl (StepX.pure (pMove (v := (Value.int .i64 x1)) rfl h1) ?_)
  obtain ⟨y3, hy3, hr⟩ := bind_some hr
  refine SeqW.consX rfl (kMake (T := (TU8 5)) (x0 := 0) (n := x1) rfl Try.underlying68 Try.type5 rfl rfl rfl rfl rfl rfl rfl rfl st hy3 ?_)
  intro V4 m5 st O6 sm7 hap8
  have A10 := hap8 _ bx0.lt'
  replace bx0 := bx0.same sm7 Ap.none'
  refine SeqW.consX rfl (StepX.pure (pAssign (v := V4) rfl rfl) ?_)
  refine SeqW.done fun fr11 hf12 => ?_
  have h0 : fr11 0 = (Value.pointer (some ⟨b0, 0, none⟩)) := (congrFun hf12 0).trans h0
  have h1 : fr11 1 = (Value.int .i64 x1) := (congrFun hf12 1).trans h1
  have h5 : fr11 5 = V4 := (congrFun hf12 5).trans rfl
  clear hf12
  refine thenQ.n ?_
  refine W.seq ?_
  refine W.seq ?_
  refine W.region ?_
  refine SeqW.consX rfl (StepX.pure (pAssign (v := (Value.int .i64 0)) rfl rfl) ?_)
  refine SeqW.done fun fr13 hf14 => ?_
  have h0 : fr13 0 = (Value.pointer (some ⟨b0, 0, none⟩)) := (congrFun hf14 0).trans h0
  have h1 : fr13 1 = (Value.int .i64 x1) := (congrFun hf14 1).trans h1
  have h5 : fr13 5 = V4 := (congrFun hf14 5).trans h5
  have h6 : fr13 6 = (Value.int .i64 0) := (congrFun hf14 6).trans rfl
  clear hf14
  refine thenQ.n ?_
  refine W.block ?_
  obtain ⟨y47, hy47, hr⟩ := bind_some hr
  refine W.keep (u_Maker_Digits_0 (x0 := x0) _ (Zx.refl _) st h0 s0_0 bx0 h1 h5 O6 h6 A10 hy47) ?_
  rintro ex53 fr48 m49 hk51 ⟨z50, hz52, st, rfl, w54, h0, Q56, X58, h5, O60, A61, -⟩
  replace hz := hz.trans hz52
  clear hk51
  refine blockQ.hit ?_
  refine thenQ.n ?_
  refine W.seq ?_
  refine W.region ?_
  refine SeqW.consX rfl (StepX.pure (pMove (v := V4) rfl h5) ?_)
  refine SeqW.consX rfl (kStrO (s := y47.2) rfl Try.underlying68 Try.underlying5 Try.underlying9 rfl O60 ?_)
  refine SeqW.consX rfl (StepX.pure (pAssign (v := (str y47.2)) rfl rfl) ?_)
  refine SeqW.done fun fr62 hf63 => ?_
  have h0 : fr62 0 = (Value.pointer (some ⟨b0, 0, none⟩)) := (congrFun hf63 0).trans h0
  have h4 : fr62 4 = (str y47.2) := (congrFun hf63 4).trans rfl
  clear hf63
  refine thenQ.n ?_
  refine W.ret ?_
  obtain rfl := Option.some.inj hr
  exact ⟨z50, hz, st, .inr rfl, w54, h4, Q56, X58, trivial⟩

theorem c_Maker_Digits {N : Nat} {z : Nat → Blk} {m : Mem} {x0 : Maker} {x1 : Int} {v0_0 : Value} {b0 : Nat} (fz : Fz z m) (hd : ∀ b, m.next ≤ b → m.blk b = .dead) (s0_0 : SlR (TInt 3 .i64) z x0.l v0_0) (bx0 : Bx z m m (some b0) b0 [v0_0, (Value.int .i64 x0.n)] 54) {r : List UInt8 × Maker} (hr : Maker_Digits N x0 x1 = some r) : CallW Try.prog 43 #[(Value.pointer (some ⟨b0, 0, none⟩)), (Value.int .i64 x1)] m fun v m' => ∃ z' wr_0, Zx m.next z z' ∧ Fz z' m' ∧ Same m m' (some b0) ∧ v = (str r.1) ∧ SlR (TInt 3 .i64) z' r.2.l wr_0 ∧ Bx z' m m' (some b0) b0 [wr_0, (Value.int .i64 r.2.n)] 54 ∧ True := by
  refine CallW.any Try.func43 rfl (by kernel_rfl) (Nat.le_of_ble_eq_true rfl) (fun fr hf => ?_)
  have h0 : fr 0 = _ := hf 0 _ rfl
  have h1 : fr 1 = _ := hf 1 _ rfl
  refine (u_Maker_Digits (k := (some b0)) (Zx.refl _) (St.start fz hd) h0 s0_0 bx0 h1 hr).mono ?_
  rintro ex fr' m' ⟨z', hz, st, he, wr_0, h4, sr_0, bxr, -⟩
  exact ⟨he, [(str r.1)], ⟨h4.symm, trivial⟩, .inl rfl, z', wr_0, hz, st.fz, st.toSame, rfl, sr_0, bxr, trivial⟩

/-! ### humpyard/humpyardref02.digits -/

theorem u_r02_digits_1 {N : Nat}  {z0 z : Nat → Blk} {e m : Mem} {k : Option Nat} {fr : Nat → Value} {x0 : List UInt8} {x5 : Int} (hz : Zx e.next z0 z) (st : St z e m k) (h0 : fr 0 = (str x0)) (h5 : fr 5 = (Value.int .i64 x5)) {r : Bool} (hr : r02_digits_1 N x0 x5 = some r) : W Try.prog (sub (bodyOf Try.f47) [1, 1, 0, 1, 0, 0, 1, 0, 0, 0]) (fun ex fr' m' => ∃ z', Zx e.next z0 z' ∧ St z' e m' k ∧ ex = AExit.normal ∧ fr' 24 = (Value.bool r) ∧ True) fr m := by
  unfold r02_digits_1 at hr
  refine W.region ?_
  refine SeqW.consX rfl (StepX.pure (pMove (v := (str x0)) rfl h0) ?_)
  refine SeqW.consX rfl (StepX.pure (pMove (v := (Value.int .i64 x5)) rfl h5) ?_)
  obtain ⟨y14, hy14, hr⟩ := bind_some hr
  refine SeqW.consX rfl (kIndexS (s := x0) (n := x5) rfl Try.underlying9 rfl rfl hy14 ?_)
  refine SeqW.consX rfl (StepX.pure (pLss (k := .u8) (a := (UInt8.toNat y14 : Int)) (b := 48) rfl rfl rfl) ?_)
  refine SeqW.consX rfl (StepX.pure (pMove (v := (Value.bool (decide ((UInt8.toNat y14 : Int) < 48)))) rfl rfl) ?_)
  rcases if_some hr with ⟨hc15, hr⟩ | ⟨hc18, hr⟩
  · refine SeqW.skipG rfl rfl rfl hc15 ?_
    refine SeqW.skipG rfl rfl rfl hc15 ?_
    refine SeqW.skipG rfl rfl rfl hc15 ?_
    refine SeqW.skipG rfl rfl rfl hc15 ?_
    refine SeqW.consX rfl (StepX.pure (pPick (t := true) (v := (Value.bool true)) rfl ((congrArg Value.bool hc15)) rfl) ?_)
    refine SeqW.done fun fr16 hf17 => ?_
    have h0 : fr16 0 = (str x0) := (congrFun hf17 0).trans h0
    have h5 : fr16 5 = (Value.int .i64 x5) := (congrFun hf17 5).trans h5
    have h24 : fr16 24 = (Value.bool true) := (congrFun hf17 24).trans rfl
    clear hf17
    obtain rfl := Option.some.inj hr
    exact ⟨z, hz, st, rfl, h24, trivial⟩
  · refine SeqW.consG rfl rfl rfl hc18 (StepX.pure (pMove (v := (str x0)) rfl h0) ?_)
    refine SeqW.consG rfl rfl rfl hc18 (StepX.pure (pMove (v := (Value.int .i64 x5)) rfl h5) ?_)
    obtain ⟨y19, hy19, hr⟩ := bind_some hr
    refine SeqW.consG rfl rfl rfl hc18 (kIndexS (s := x0) (n := x5) rfl Try.underlying9 rfl rfl hy19 ?_)
    refine SeqW.consG rfl rfl rfl hc18 (StepX.pure (pGtr (k := .u8) (a := (UInt8.toNat y19 : Int)) (b := 57) rfl rfl rfl) ?_)
    refine SeqW.consX rfl (StepX.pure (pPick (t := false) (v := (Value.bool (decide (57 < (UInt8.toNat y19 : Int))))) rfl ((congrArg Value.bool hc18)) rfl) ?_)
    refine SeqW.done fun fr20 hf21 => ?_
    have h0 : fr20 0 = (str x0) := (congrFun hf21 0).trans h0
    have h5 : fr20 5 = (Value.int .i64 x5) := (congrFun hf21 5).trans h5
    have h24 : fr20 24 = (Value.bool (decide (57 < (UInt8.toNat y19 : Int)))) := (congrFun hf21 24).trans rfl
    clear hf21
    obtain rfl := Option.some.inj hr
    exact ⟨z, hz, st, rfl, h24, trivial⟩

theorem u_r02_digits_0 : ∀ (n : Nat) {N : Nat}  {z0 z : Nat → Blk} {e m : Mem} {k : Option Nat} {fr : Nat → Value} {x0 : List UInt8} {x1 : Int} {x5 : Int} (hz : Zx e.next z0 z) (st : St z e m k) (h0 : fr 0 = (str x0)) (h1 : fr 1 = (Value.int .i64 x1)) (h5 : fr 5 = (Value.int .i64 x5)) {r : Sum (Unit) (Bool)} (hr : r02_digits_0 N x0 x1 n x5 = some r), W Try.prog (sub (bodyOf Try.f47) [1, 1, 0, 1, 0]) (fun ex fr' m' => ∃ z', Zx e.next z0 z' ∧ St z' e m' k ∧ ((∃ q, r = Sum.inl q ∧ ex = AExit.exit 0 ∧ True) ∨ (∃ q, r = Sum.inr q ∧ ex = AExit.ret ∧ fr' 4 = (Value.bool q) ∧ True))) fr m := by
  intro n
  induction n with
  | zero => intro N z0 z e m k fr x0 x1 x5 hz st h0 h1 h5 r hr; cases (show (none : Option _) = some r from hr)
  | succ n ih =>
    intro N z0 z e m k fr x0 x1 x5 hz st h0 h1 h5 r hr
    unfold r02_digits_0 at hr
    refine W.loop1 ?_
    refine W.seq ?_
    refine W.seq ?_
    refine W.region ?_
    refine SeqW.consX rfl (StepX.pure (pMove (v := (Value.int .i64 x5)) rfl h5) ?_)
    refine SeqW.consX rfl (StepX.pure (pMove (v := (Value.int .i64 x1)) rfl h1) ?_)
    refine SeqW.consX rfl (StepX.pure (pLss (k := .i64) (a := x5) (b := x1) rfl rfl rfl) ?_)
    refine SeqW.done fun fr11 hf12 => ?_
    have h0 : fr11 0 = (str x0) := (congrFun hf12 0).trans h0
    have h1 : fr11 1 = (Value.int .i64 x1) := (congrFun hf12 1).trans h1
    have h5 : fr11 5 = (Value.int .i64 x5) := (congrFun hf12 5).trans h5
    have h12 : fr11 12 = (Value.bool (decide (x5 < x1))) := (congrFun hf12 12).trans rfl
    clear hf12
    refine thenQ.n ?_
    rcases if_some hr with ⟨hc13, hr⟩ | ⟨hc36, hr⟩
    · refine W.condT h12 hc13 ?_
      refine W.skip ?_
      refine thenQ.n ?_
      refine W.seq ?_
      refine W.block ?_
      refine W.seq ?_
      obtain ⟨y22, hy22, hr⟩ := bind_some hr
      refine W.keep (u_r02_digits_1 (Zx.refl _) st h0 h5 hy22) ?_
      rintro ex28 fr23 m24 hk26 ⟨z25, hz27, st, rfl, h24, -⟩
      have h0 := (hk26 0 rfl).trans h0
      have h1 := (hk26 1 rfl).trans h1
      have h5 := (hk26 5 rfl).trans h5
      replace hz := hz.trans hz27
      clear hk26
      refine thenQ.n ?_
      rcases if_some hr with ⟨hc29, hr⟩ | ⟨hc32, hr⟩
      · refine W.condT h24 hc29 ?_
        refine W.seq ?_
        refine W.region ?_
        refine SeqW.consX rfl (StepX.pure (pAssign (v := (Value.bool false)) rfl rfl) ?_)
        refine SeqW.done fun fr30 hf31 => ?_
        have h4 : fr30 4 = (Value.bool false) := (congrFun hf31 4).trans rfl
        clear hf31
        refine thenQ.n ?_
        refine W.ret ?_
        refine blockQ.r ?_
        refine thenQ.r ?_
        refine thenQ.r ?_
        obtain rfl := Option.some.inj hr
        exact ⟨z25, hz, st, .inr ⟨_, rfl, rfl, h4, trivial⟩⟩
      · refine W.condF h24 hc32 ?_
        refine W.skip ?_
        refine blockQ.n ?_
        refine thenQ.n ?_
        refine W.region ?_
        refine SeqW.consX rfl (StepX.pure (pMove (v := (Value.int .i64 x5)) rfl h5) ?_)
        refine SeqW.consX rfl (StepX.pure (pAdd (k := .i64) (a := x5) (b := 1) rfl rfl rfl) ?_)
        obtain ⟨y33, hy33, hr⟩ := lt_some hr
        refine SeqW.consX rfl (StepX.pure (pAssign rfl (congrArg (Value.int .i64) hy33)) ?_)
        refine SeqW.done fun fr34 hf35 => ?_
        have h0 : fr34 0 = (str x0) := (congrFun hf35 0).trans h0
        have h1 : fr34 1 = (Value.int .i64 x1) := (congrFun hf35 1).trans h1
        have h5 : fr34 5 = (Value.int .i64 y33) := (congrFun hf35 5).trans rfl
        clear hf35
        refine thenQ.n ?_
        exact ih hz st h0 h1 h5 hr
    · refine W.condF h12 hc36 ?_
      refine W.exit ?_
      refine thenQ.x ?_
      refine thenQ.x ?_
      obtain rfl := Option.some.inj hr
      exact ⟨z, hz, st, .inl ⟨_, rfl, rfl, trivial⟩⟩

theorem u_r02_digits {N : Nat}  {z0 z : Nat → Blk} {e m : Mem} {k : Option Nat} {fr : Nat → Value} {x0 : List UInt8} {x1 : Int} (hz : Zx e.next z0 z) (st : St z e m k) (h0 : fr 0 = (str x0)) (h1 : fr 1 = (Value.int .i64 x1)) {r : Bool} (hr : r02_digits N x0 x1 = some r) : W Try.prog (sub (bodyOf Try.f47) []) (fun ex fr' m' => ∃ z', Zx e.next z0 z' ∧ St z' e m' k ∧ (ex = .normal ∨ ex = .ret) ∧ fr' 4 = (Value.bool r) ∧ True) fr m := by
  unfold r02_digits at hr
  refine W.seq ?_
  refine W.region ?_
  refine SeqW.consX rfl (StepX.pure (pAssign (v := (Value.bool false)) rfl rfl) ?_)
  refine SeqW.done fun fr1 hf2 => ?_
  have h0 : fr1 0 = (str x0) := (congrFun hf2 0).trans h0
  have h1 : fr1 1 = (Value.int .i64 x1) := (congrFun hf2 1).trans h1
  clear hf2
  refine thenQ.n ?_
  refine W.seq ?_
  refine W.seq ?_
  refine W.region ?_
  refine SeqW.consX rfl (StepX.pure (pMove (v := (str x0)) rfl h0) ?_)
  refine SeqW.consX rfl (StepX.pure (pLenS (s := x0) rfl rfl Try.underlying9 rfl) ?_)
  refine SeqW.consX rfl (StepX.pure (pMove (v := (Value.int .i64 x1)) rfl h1) ?_)
  refine SeqW.consX rfl (StepX.pure (pNeq (k := .i64) (a := (x0.length : Int)) (b := x1) rfl rfl rfl) ?_)
  refine SeqW.done fun fr3 hf4 => ?_
  have h0 : fr3 0 = (str x0) := (congrFun hf4 0).trans h0
  have h1 : fr3 1 = (Value.int .i64 x1) := (congrFun hf4 1).trans h1
  have h9 : fr3 9 = (Value.bool ((x0.length : Int) != x1)) := (congrFun hf4 9).trans rfl
  clear hf4
  refine thenQ.n ?_
  rcases if_some hr with ⟨hc5, hr⟩ | ⟨hc8, hr⟩
  · refine W.condT h9 hc5 ?_
    refine W.seq ?_
    refine W.region ?_
    refine SeqW.consX rfl (StepX.pure (pAssign (v := (Value.bool false)) rfl rfl) ?_)
    refine SeqW.done fun fr6 hf7 => ?_
    have h4 : fr6 4 = (Value.bool false) := (congrFun hf7 4).trans rfl
    clear hf7
    refine thenQ.n ?_
    refine W.ret ?_
    refine thenQ.r ?_
    obtain rfl := Option.some.inj hr
    exact ⟨z, hz, st, .inr rfl, h4, trivial⟩
  · refine W.condF h9 hc8 ?_
    refine W.skip ?_
    refine thenQ.n ?_
    refine W.seq ?_
    refine W.seq ?_
    refine W.region ?_
    refine SeqW.consX rfl (StepX.pure (pAssign (v := (Value.int .i64 0)) rfl rfl) ?_)
    refine SeqW.done fun fr9 hf10 => ?_
    have h0 : fr9 0 = (str x0) := (congrFun hf10 0).trans h0
    have h1 : fr9 1 = (Value.int .i64 x1) := (congrFun hf10 1).trans h1
    have h5 : fr9 5 = (Value.int .i64 0) := (congrFun hf10 5).trans rfl
    clear hf10
    refine thenQ.n ?_
    refine W.block ?_
    obtain ⟨y37, hy37, hr⟩ := bind_some hr
    refine W.keep (u_r02_digits_0 _ (Zx.refl _) st h0 h1 h5 hy37) ?_
    rintro ex43 fr38 m39 hk41 ⟨z40, hz42, st, ⟨y44, rfl, rfl, -⟩ | ⟨y47, rfl, rfl, h4, -⟩⟩
    · dsimp only at hr
      replace hz := hz.trans hz42
      clear hk41
      refine blockQ.hit ?_
      refine thenQ.n ?_
      refine W.seq ?_
      refine W.region ?_
      refine SeqW.consX rfl (StepX.pure (pAssign (v := (Value.bool true)) rfl rfl) ?_)
      refine SeqW.done fun fr45 hf46 => ?_
      have h4 : fr45 4 = (Value.bool true) := (congrFun hf46 4).trans rfl
      clear hf46
      refine thenQ.n ?_
      refine W.ret ?_
      obtain rfl := Option.some.inj hr
      exact ⟨z40, hz, st, .inr rfl, h4, trivial⟩
    · dsimp only at hr
      replace hz := hz.trans hz42
      clear hk41
      refine blockQ.r ?_
      refine thenQ.r ?_
      obtain rfl := Option.some.inj hr
      exact ⟨z40, hz, st, .inr rfl, h4, trivial⟩

theorem c_r02_digits {N : Nat} {z : Nat → Blk} {m : Mem} {x0 : List UInt8} {x1 : Int} (fz : Fz z m) (hd : ∀ b, m.next ≤ b → m.blk b = .dead)  {r : Bool} (hr : r02_digits N x0 x1 = some r) : CallW Try.prog 47 #[(str x0), (Value.int .i64 x1)] m fun v m' => v = (Value.bool r) ∧ m' = m := by
  refine CallW.flat Try.func47 rfl (by kernel_rfl) (Nat.le_of_ble_eq_true rfl) rfl (z := z) (fun fr hf => ?_)
  have h0 : fr 0 = _ := hf 0 _ rfl
  have h1 : fr 1 = _ := hf 1 _ rfl
  refine (u_r02_digits (k := none) (Zx.refl _) (St.start fz hd) h0 h1 hr).mono ?_
  rintro ex fr' m' ⟨z', hz, st, he, h4, -⟩
  exact ⟨he, z', st, [(Value.bool r)], ⟨h4.symm, trivial⟩, .inl rfl, rfl⟩

/-! ### humpyard/humpyardref02.sum -/

theorem u_r02_sum_1 {N : Nat}  {z0 z : Nat → Blk} {e m : Mem} {k : Option Nat} {fr : Nat → Value} {x7 : Int} {x20 : Bool} (hz : Zx e.next z0 z) (st : St z e m k) (h7 : fr 7 = (Value.int .i64 x7)) (h20 : fr 20 = (Value.bool x20)) {r : Int} (hr : r02_sum_1 N x7 x20 = some r) : W Try.prog (sub (bodyOf Try.f48) [1, 1, 0, 1, 0, 0, 1, 0, 0, 1, 0, 1]) (fun ex fr' m' => ∃ z', Zx e.next z0 z' ∧ St z' e m' k ∧ ex = AExit.normal ∧ fr' 7 = (Value.int .i64 r) ∧ True) fr m := by
  unfold r02_sum_1 at hr
  rcases if_some hr with ⟨hc16, hr⟩ | ⟨hc27, hr⟩
  · refine W.condT h20 hc16 ?_
    refine W.seq ?_
    refine W.region ?_
    refine SeqW.consX rfl (StepX.pure (pMove (v := (Value.int .i64 x7)) rfl h7) ?_)
    refine SeqW.consX rfl (StepX.pure (pMul (k := .i64) (a := x7) (b := 2) rfl rfl rfl) ?_)
    obtain ⟨y17, hy17, hr⟩ := lt_some hr
    refine SeqW.consX rfl (StepX.pure (pAssign rfl (congrArg (Value.int .i64) hy17)) ?_)
    refine SeqW.done fun fr18 hf19 => ?_
    have h7 : fr18 7 = (Value.int .i64 y17) := (congrFun hf19 7).trans rfl
    clear hf19
    refine thenQ.n ?_
    refine W.seq ?_
    refine W.region ?_
    refine SeqW.consX rfl (StepX.pure (pMove (v := (Value.int .i64 y17)) rfl h7) ?_)
    refine SeqW.consX rfl (StepX.pure (pGtr (k := .i64) (a := y17) (b := 9) rfl rfl rfl) ?_)
    refine SeqW.done fun fr20 hf21 => ?_
    have h7 : fr20 7 = (Value.int .i64 y17) := (congrFun hf21 7).trans h7
    have h24 : fr20 24 = (Value.bool (decide (9 < y17))) := (congrFun hf21 24).trans rfl
    clear hf21
    refine thenQ.n ?_
    rcases if_some hr with ⟨hc22, hr⟩ | ⟨hc26, hr⟩
    · refine W.condT h24 hc22 ?_
      refine W.region ?_
      refine SeqW.consX rfl (StepX.pure (pMove (v := (Value.int .i64 y17)) rfl h7) ?_)
      refine SeqW.consX rfl (StepX.pure (pSub (k := .i64) (a := y17) (b := 9) rfl rfl rfl) ?_)
      obtain ⟨y23, hy23, hr⟩ := lt_some hr
      refine SeqW.consX rfl (StepX.pure (pAssign rfl (congrArg (Value.int .i64) hy23)) ?_)
      refine SeqW.done fun fr24 hf25 => ?_
      have h7 : fr24 7 = (Value.int .i64 y23) := (congrFun hf25 7).trans rfl
      clear hf25
      obtain rfl := Option.some.inj hr
      exact ⟨z, hz, st, rfl, h7, trivial⟩
    · refine W.condF h24 hc26 ?_
      refine W.skip ?_
      obtain rfl := Option.some.inj hr
      exact ⟨z, hz, st, rfl, h7, trivial⟩
  · refine W.condF h20 hc27 ?_
    refine W.skip ?_
    obtain rfl := Option.some.inj hr
    exact ⟨z, hz, st, rfl, h7, trivial⟩

theorem u_r02_sum_0 : ∀ (n : Nat) {N : Nat}  {z0 z : Nat → Blk} {e m : Mem} {k : Option Nat} {fr : Nat → Value} {x0 : List UInt8} {x1 : Int} {x5 : Int} {x6 : Int} (hz : Zx e.next z0 z) (st : St z e m k) (h0 : fr 0 = (str x0)) (h1 : fr 1 = (Value.int .i64 x1)) (h5 : fr 5 = (Value.int .i64 x5)) (h6 : fr 6 = (Value.int .i64 x6)) {r : Int} (hr : r02_sum_0 N x0 x1 n x5 x6 = some r), W Try.prog (sub (bodyOf Try.f48) [1, 1, 0, 1, 0]) (fun ex fr' m' => ∃ z', Zx e.next z0 z' ∧ St z' e m' k ∧ ex = AExit.exit 0 ∧ fr' 5 = (Value.int .i64 r) ∧ True) fr m := by
  intro n
  induction n with
  | zero => intro N z0 z e m k fr x0 x1 x5 x6 hz st h0 h1 h5 h6 r hr; cases (show (none : Option _) = some r from hr)
  | succ n ih =>
    intro N z0 z e m k fr x0 x1 x5 x6 hz st h0 h1 h5 h6 r hr
    unfold r02_sum_0 at hr
    refine W.loop1 ?_
    refine W.seq ?_
    refine W.seq ?_
    refine W.region ?_
    refine SeqW.consX rfl (StepX.pure (pMove (v := (Value.int .i64 x6)) rfl h6) ?_)
    refine SeqW.consX rfl (StepX.pure (pMove (v := (Value.int .i64 x1)) rfl h1) ?_)
    refine SeqW.consX rfl (StepX.pure (pLss (k := .i64) (a := x6) (b := x1) rfl rfl rfl) ?_)
    refine SeqW.done fun fr7 hf8 => ?_
    have h0 : fr7 0 = (str x0) := (congrFun hf8 0).trans h0
    have h1 : fr7 1 = (Value.int .i64 x1) := (congrFun hf8 1).trans h1
    have h5 : fr7 5 = (Value.int .i64 x5) := (congrFun hf8 5).trans h5
    have h6 : fr7 6 = (Value.int .i64 x6) := (congrFun hf8 6).trans h6
    have h10 : fr7 10 = (Value.bool (decide (x6 < x1))) := (congrFun hf8 10).trans rfl
    clear hf8
    refine thenQ.n ?_
    rcases if_some hr with ⟨hc9, hr⟩ | ⟨hc41, hr⟩
    · refine W.condT h10 hc9 ?_
      refine W.skip ?_
      refine thenQ.n ?_
      refine W.seq ?_
      refine W.block ?_
      refine W.seq ?_
      refine W.region ?_
      refine SeqW.consX rfl (StepX.pure (pMove (v := (str x0)) rfl h0) ?_)
      refine SeqW.consX rfl (StepX.pure (pMove (v := (Value.int .i64 x6)) rfl h6) ?_)
      obtain ⟨y10, hy10, hr⟩ := bind_some hr
      refine SeqW.consX rfl (kIndexS (s := x0) (n := x6) rfl Try.underlying9 rfl rfl hy10 ?_)
      refine SeqW.consX rfl (StepX.pure (pSub (k := .u8) (a := (UInt8.toNat y10 : Int)) (b := 48) rfl rfl rfl) ?_)
      refine SeqW.consX rfl (StepX.pure (pConv (k := .u8) (a := (IntKind.wrap .u8 ((UInt8.toNat y10 : Int) - 48))) rfl Try.underlying5 Try.underlying3 rfl) ?_)
      obtain ⟨y11, hy11, hr⟩ := lt_some hr
      refine SeqW.consX rfl (StepX.pure (pAssign rfl (congrArg (Value.int .i64) hy11)) ?_)
      refine SeqW.done fun fr12 hf13 => ?_
      have h0 : fr12 0 = (str x0) := (congrFun hf13 0).trans h0
      have h1 : fr12 1 = (Value.int .i64 x1) := (congrFun hf13 1).trans h1
      have h5 : fr12 5 = (Value.int .i64 x5) := (congrFun hf13 5).trans h5
      have h6 : fr12 6 = (Value.int .i64 x6) := (congrFun hf13 6).trans h6
      have h7 : fr12 7 = (Value.int .i64 y11) := (congrFun hf13 7).trans rfl
      clear hf13
      refine thenQ.n ?_
      refine W.seq ?_
      refine W.seq ?_
      refine W.region ?_
      refine SeqW.consX rfl (StepX.pure (pMove (v := (Value.int .i64 x6)) rfl h6) ?_)
      refine SeqW.consX rfl (StepX.pure (pRem (k := .i64) (a := x6) (b := 2) rfl rfl rfl (by decide)) ?_)
      refine SeqW.consX rfl (StepX.pure (pEql (k := .i64) (a := (Int.tmod x6 2)) (b := 0) rfl rfl rfl) ?_)
      refine SeqW.done fun fr14 hf15 => ?_
      have h0 : fr14 0 = (str x0) := (congrFun hf15 0).trans h0
      have h1 : fr14 1 = (Value.int .i64 x1) := (congrFun hf15 1).trans h1
      have h5 : fr14 5 = (Value.int .i64 x5) := (congrFun hf15 5).trans h5
      have h6 : fr14 6 = (Value.int .i64 x6) := (congrFun hf15 6).trans h6
      have h7 : fr14 7 = (Value.int .i64 y11) := (congrFun hf15 7).trans h7
      have h20 : fr14 20 = (Value.bool ((Int.tmod x6 2) == 0)) := (congrFun hf15 20).trans rfl
      clear hf15
      refine thenQ.n ?_
      obtain ⟨y28, hy28, hr⟩ := bind_some hr
      refine W.keep (u_r02_sum_1 (Zx.refl _) st h7 h20 hy28) ?_
      rintro ex34 fr29 m30 hk32 ⟨z31, hz33, st, rfl, h7, -⟩
      have h0 := (hk32 0 rfl).trans h0
      have h1 := (hk32 1 rfl).trans h1
      have h5 := (hk32 5 rfl).trans h5
      have h6 := (hk32 6 rfl).trans h6
      replace hz := hz.trans hz33
      clear hk32
      refine thenQ.n ?_
      refine W.region ?_
      refine SeqW.consX rfl (StepX.pure (pMove (v := (Value.int .i64 x5)) rfl h5) ?_)
      refine SeqW.consX rfl (StepX.pure (pMove (v := (Value.int .i64 y28)) rfl h7) ?_)
      refine SeqW.consX rfl (StepX.pure (pAdd (k := .i64) (a := x5) (b := y28) rfl rfl rfl) ?_)
      obtain ⟨y35, hy35, hr⟩ := lt_some hr
      refine SeqW.consX rfl (StepX.pure (pAssign rfl (congrArg (Value.int .i64) hy35)) ?_)
      refine SeqW.done fun fr36 hf37 => ?_
      have h0 : fr36 0 = (str x0) := (congrFun hf37 0).trans h0
      have h1 : fr36 1 = (Value.int .i64 x1) := (congrFun hf37 1).trans h1
      have h5 : fr36 5 = (Value.int .i64 y35) := (congrFun hf37 5).trans rfl
      have h6 : fr36 6 = (Value.int .i64 x6) := (congrFun hf37 6).trans h6
      clear hf37
      refine blockQ.n ?_
      refine thenQ.n ?_
      refine W.region ?_
      refine SeqW.consX rfl (StepX.pure (pMove (v := (Value.int .i64 x6)) rfl h6) ?_)
      refine SeqW.consX rfl (StepX.pure (pAdd (k := .i64) (a := x6) (b := 1) rfl rfl rfl) ?_)
      obtain ⟨y38, hy38, hr⟩ := lt_some hr
      refine SeqW.consX rfl (StepX.pure (pAssign rfl (congrArg (Value.int .i64) hy38)) ?_)
      refine SeqW.done fun fr39 hf40 => ?_
      have h0 : fr39 0 = (str x0) := (congrFun hf40 0).trans h0
      have h1 : fr39 1 = (Value.int .i64 x1) := (congrFun hf40 1).trans h1
      have h5 : fr39 5 = (Value.int .i64 y35) := (congrFun hf40 5).trans h5
      have h6 : fr39 6 = (Value.int .i64 y38) := (congrFun hf40 6).trans rfl
      clear hf40
      refine thenQ.n ?_
      exact ih hz st h0 h1 h5 h6 hr
    · refine W.condF h10 hc41 ?_
      refine W.exit ?_
      refine thenQ.x ?_
      refine thenQ.x ?_
      obtain rfl := Option.some.inj hr
      exact ⟨z, hz, st, rfl, h5, trivial⟩

theorem u_r02_sum {N : Nat}  {z0 z : Nat → Blk} {e m : Mem} {k : Option Nat} {fr : Nat → Value} {x0 : List UInt8} {x1 : Int} (hz : Zx e.next z0 z) (st : St z e m k) (h0 : fr 0 = (str x0)) (h1 : fr 1 = (Value.int .i64 x1)) {r : Int} (hr : r02_sum N x0 x1 = some r) : W Try.prog (sub (bodyOf Try.f48) []) (fun ex fr' m' => ∃ z', Zx e.next z0 z' ∧ St z' e m' k ∧ (ex = .normal ∨ ex = .ret) ∧ fr' 4 = (Value.int .i64 r) ∧ True) fr m := by
  unfold r02_sum at hr
  refine W.seq ?_
  refine W.region ?_
  refine SeqW.consX rfl (StepX.pure (pAssign (v := (Value.int .i64 0)) rfl rfl) ?_)
  refine SeqW.done fun fr1 hf2 => ?_
  have h0 : fr1 0 = (str x0) := (congrFun hf2 0).trans h0
  have h1 : fr1 1 = (Value.int .i64 x1) := (congrFun hf2 1).trans h1
  clear hf2
  refine thenQ.n ?_
  refine W.seq ?_
  refine W.region ?_
  refine SeqW.consX rfl (StepX.pure (pAssign (v := (Value.int .i64 0)) rfl rfl) ?_)
  refine SeqW.done fun fr3 hf4 => ?_
  have h0 : fr3 0 = (str x0) := (congrFun hf4 0).trans h0
  have h1 : fr3 1 = (Value.int .i64 x1) := (congrFun hf4 1).trans h1
  have h5 : fr3 5 = (Value.int .i64 0) := (congrFun hf4 5).trans rfl
  clear hf4
  refine thenQ.n ?_
  refine W.seq ?_
  refine W.seq ?_
  refine W.region ?_
  refine SeqW.consX rfl (StepX.pure (pAssign (v := (Value.int .i64 0)) rfl rfl) ?_)
  refine SeqW.done fun fr5 hf6 => ?_
  have h0 : fr5 0 = (str x0) := (congrFun hf6 0).trans h0
  have h1 : fr5 1 = (Value.int .i64 x1) := (congrFun hf6 1).trans h1
  have h5 : fr5 5 = (Value.int .i64 0) := (congrFun hf6 5).trans h5
  have h6 : fr5 6 = (Value.int .i64 0) := (congrFun hf6 6).trans rfl
  clear hf6
  refine thenQ.n ?_
  refine W.block ?_
  obtain ⟨y42, hy42, hr⟩ := bind_some hr
  refine W.keep (u_r02_sum_0 _ (Zx.refl _) st h0 h1 h5 h6 hy42) ?_
  rintro ex48 fr43 m44 hk46 ⟨z45, hz47, st, rfl, h5, -⟩
  replace hz := hz.trans hz47
  clear hk46
  refine blockQ.hit ?_
  refine thenQ.n ?_
  refine W.seq ?_
  refine W.region ?_
  refine SeqW.consX rfl (StepX.pure (pMove (v := (Value.int .i64 y42)) rfl h5) ?_)
  refine SeqW.consX rfl (StepX.pure (pAssign (v := (Value.int .i64 y42)) rfl rfl) ?_)
  refine SeqW.done fun fr49 hf50 => ?_
  have h4 : fr49 4 = (Value.int .i64 y42) := (congrFun hf50 4).trans rfl
  clear hf50
  refine thenQ.n ?_
  refine W.ret ?_
  obtain rfl := Option.some.inj hr
  exact ⟨z45, hz, st, .inr rfl, h4, trivial⟩

theorem c_r02_sum {N : Nat} {z : Nat → Blk} {m : Mem} {x0 : List UInt8} {x1 : Int} (fz : Fz z m) (hd : ∀ b, m.next ≤ b → m.blk b = .dead)  {r : Int} (hr : r02_sum N x0 x1 = some r) : CallW Try.prog 48 #[(str x0), (Value.int .i64 x1)] m fun v m' => v = (Value.int .i64 r) ∧ m' = m := by
  refine CallW.flat Try.func48 rfl (by kernel_rfl) (Nat.le_of_ble_eq_true rfl) rfl (z := z) (fun fr hf => ?_)
  have h0 : fr 0 = _ := hf 0 _ rfl
  have h1 : fr 1 = _ := hf 1 _ rfl
  refine (u_r02_sum (k := none) (Zx.refl _) (St.start fz hd) h0 h1 hr).mono ?_
  rintro ex fr' m' ⟨z', hz, st, he, h4, -⟩
  exact ⟨he, z', st, [(Value.int .i64 r)], ⟨h4.symm, trivial⟩, .inl rfl, rfl⟩

/-! ### humpyard/humpyardref02.Digit -/

theorem u_r02_Digit {N : Nat}  {z0 z : Nat → Blk} {e m : Mem} {k : Option Nat} {fr : Nat → Value} {x0 : List UInt8} (hz : Zx e.next z0 z) (st : St z e m k) (h0 : fr 0 = (str x0)) {r : Int × Int} (hr : r02_Digit N x0 = some r) : W Try.prog (sub (bodyOf Try.f44) []) (fun ex fr' m' => ∃ z', Zx e.next z0 z' ∧ St z' e m' k ∧ (ex = .normal ∨ ex = .ret) ∧ fr' 2 = (Value.int .i64 r.1) ∧ fr' 3 = (Value.int .i64 r.2) ∧ True) fr m := by
  unfold r02_Digit at hr
  refine W.seq ?_
  refine W.region ?_
  refine SeqW.consX rfl (StepX.pure (pAssign (v := (Value.int .i64 0)) rfl rfl) ?_)
  refine SeqW.consX rfl (StepX.pure (pAssign (v := (Value.int .i64 0)) rfl rfl) ?_)
  refine SeqW.done fun fr1 hf2 => ?_
  have h0 : fr1 0 = (str x0) := (congrFun hf2 0).trans h0
  clear hf2
  refine thenQ.n ?_
  refine W.seq ?_
  refine W.seq ?_
  refine W.region ?_
  refine SeqW.consX rfl (StepX.pure (pMove (v := (str x0)) rfl h0) ?_)
  obtain ⟨y3, hy3, hr⟩ := bind_some hr
  refine SeqW.consX rfl (StepX.call (gCallee rfl rfl (args2 rfl rfl)) ((c_r02_digits (z := z) st.fz st.dead  hy3).mono ?_))
  rintro _ _ ⟨rfl, rfl⟩
  refine SeqW.consX rfl (StepX.pure (pNot (b := y3) rfl rfl) ?_)
  refine SeqW.done fun fr4 hf5 => ?_
  have h0 : fr4 0 = (str x0) := (congrFun hf5 0).trans h0
  have h6 : fr4 6 = (Value.bool (!y3)) := (congrFun hf5 6).trans rfl
  clear hf5
  refine thenQ.n ?_
  rcases if_some hr with ⟨hc6, hr⟩ | ⟨hc9, hr⟩
  · refine W.condT h6 hc6 ?_
    refine W.seq ?_
    refine W.region ?_
    refine SeqW.consX rfl (StepX.pure (pAssign (v := (Value.int .i64 0)) rfl rfl) ?_)
    refine SeqW.consX rfl (StepX.pure (pAssign (v := (Value.int .i64 11)) rfl rfl) ?_)
    refine SeqW.done fun fr7 hf8 => ?_
    have h2 : fr7 2 = (Value.int .i64 0) := (congrFun hf8 2).trans rfl
    have h3 : fr7 3 = (Value.int .i64 11) := (congrFun hf8 3).trans rfl
    clear hf8
    refine thenQ.n ?_
    refine W.ret ?_
    refine thenQ.r ?_
    obtain rfl := Option.some.inj hr
    exact ⟨z, hz, st, .inr rfl, h2, h3, trivial⟩
  · refine W.condF h6 hc9 ?_
    refine W.skip ?_
    refine thenQ.n ?_
    refine W.seq ?_
    refine W.region ?_
    refine SeqW.consX rfl (StepX.pure (pMove (v := (str x0)) rfl h0) ?_)
    obtain ⟨y10, hy10, hr⟩ := bind_some hr
    refine SeqW.consX rfl (StepX.call (gCallee rfl rfl (args2 rfl rfl)) ((c_r02_sum (z := z) st.fz st.dead  hy10).mono ?_))
    rintro _ _ ⟨rfl, rfl⟩
    refine SeqW.consX rfl (StepX.pure (pRem (k := .i64) (a := y10) (b := 10) rfl rfl rfl (by decide)) ?_)
    refine SeqW.consX rfl (StepX.pure (pSub (k := .i64) (a := 10) (b := (Int.tmod y10 10)) rfl rfl rfl) ?_)
    refine SeqW.consX rfl (StepX.pure (pRem (k := .i64) (a := (IntKind.wrap .i64 (10 - (Int.tmod y10 10)))) (b := 10) rfl rfl rfl (by decide)) ?_)
    obtain ⟨y11, hy11, hr⟩ := lt_some hr
    refine SeqW.consX rfl (StepX.pure (pAssign rfl (congrArg (Value.int .i64) hy11)) ?_)
    refine SeqW.consX rfl (StepX.pure (pAssign (v := (Value.int .i64 0)) rfl rfl) ?_)
    refine SeqW.done fun fr12 hf13 => ?_
    have h2 : fr12 2 = (Value.int .i64 y11) := (congrFun hf13 2).trans rfl
    have h3 : fr12 3 = (Value.int .i64 0) := (congrFun hf13 3).trans rfl
    clear hf13
    refine thenQ.n ?_
    refine W.ret ?_
    obtain rfl := Option.some.inj hr
    exact ⟨z, hz, st, .inr rfl, h2, h3, trivial⟩

theorem c_r02_Digit {N : Nat} {z : Nat → Blk} {m : Mem} {x0 : List UInt8} (fz : Fz z m) (hd : ∀ b, m.next ≤ b → m.blk b = .dead)  {r : Int × Int} (hr : r02_Digit N x0 = some r) : CallW Try.prog 44 #[(str x0)] m fun v m' => v = (Value.tuple [(Value.int .i64 r.1), (Value.int .i64 r.2)].toArray) ∧ m' = m := by
  refine CallW.flat Try.func44 rfl (by kernel_rfl) (Nat.le_of_ble_eq_true rfl) rfl (z := z) (fun fr hf => ?_)
  have h0 : fr 0 = _ := hf 0 _ rfl
  refine (u_r02_Digit (k := none) (Zx.refl _) (St.start fz hd) h0 hr).mono ?_
  rintro ex fr' m' ⟨z', hz, st, he, h2, h3, -⟩
  exact ⟨he, z', st, [(Value.int .i64 r.1), (Value.int .i64 r.2)], ⟨h2.symm, h3.symm, trivial⟩, .inr (List.forall_mem_cons.2 ⟨rfl, List.forall_mem_cons.2 ⟨rfl, fun _ h => nomatch h⟩⟩), rfl⟩

/-! ### (*humpyard/humpgen.Maker).Number -/

theorem u_Maker_Number {N : Nat}  {z0 z : Nat → Blk} {e m : Mem} {k : Option Nat} {fr : Nat → Value} {x0 : Maker} {x1 : Int} {v0_0 : Value} {b0 : Nat} (hz : Zx e.next z0 z) (st : St z e m k) (h0 : fr 0 = (Value.pointer (some ⟨b0, 0, none⟩))) (s0_0 : SlR (TInt 3 .i64) z x0.l v0_0) (bx0 : Bx z e m k b0 [v0_0, (Value.int .i64 x0.n)] 54) (h1 : fr 1 = (Value.int .i64 x1)) {r : List UInt8 × Maker} (hr : Maker_Number N x0 x1 = some r) : W Try.prog (sub (bodyOf Try.f38) []) (fun ex fr' m' => ∃ z', Zx e.next z0 z' ∧ St z' e m' k ∧ (ex = .normal ∨ ex = .ret) ∧ ∃ (wr_0 : Value), fr' 4 = (str r.1) ∧ SlR (TInt 3 .i64) z' r.2.l wr_0 ∧ Bx z' e m' k b0 [wr_0, (Value.int .i64 r.2.n)] 54 ∧ True) fr m := by
  unfold Maker_Number at hr
  refine W.seq ?_
  refine W.region ?_
  refine SeqW.consX rfl (StepX.pure (pAssign (v := (str [])) rfl rfl) ?_)
  refine SeqW.done fun fr1 hf2 => ?_
  have h0 : fr1 0 = (Value.pointer (some ⟨b0, 0, none⟩)) := (congrFun hf2 0).trans h0
  have h1 : fr1 1 = (Value.int .i64 x1) := (congrFun hf2 1).trans h1
  clear hf2
  refine thenQ.n ?_
  refine W.seq ?_
  refine W.region ?_
  refine SeqW.consX rfl (StepX.pure (pMove (v := (Value.pointer (some ⟨b0, 0, none⟩))) rfl h0) ?_)
  obtain ⟨y3, hy3, hr⟩ := bind_some hr
  refine SeqW.consX rfl (StepX.call (gCallee rfl rfl (args2 rfl rfl)) ((c_Maker_Digits (x0 := x0) (z := z) st.fz st.dead s0_0 ⟨bx0.blk, bx0.lt, bx0.dead, .inr rfl⟩ hy3).mono ?_))
  rintro _ m8 ⟨z4, V9, hzx5, fz6, sm7, rfl, Q10, X12, -⟩
  replace s0_0 := s0_0.mono hzx5.le
  have bx0n : Bx z4 e m8 k b0 _ _ := ⟨X12.blk, X12.lt, X12.dead, bx0.fresh⟩
  replace hz := hz.trans (Zx.here st hzx5)
  replace st := st.call hzx5 fz6 sm7 bx0.hq
  obtain ⟨y13, hy13, hr⟩ := bind_some hr
  refine SeqW.consX rfl (kBytes (s := y3.1) rfl Try.underlying9 Try.underlying68 Try.underlying5 Try.type5 rfl rfl hy13 st ?_)
  intro V14 m15 st O16 sm17 hap18
  have A20 := hap18 _ bx0n.lt'
  replace bx0n := bx0n.same sm17 Ap.none'
  refine SeqW.consX rfl (StepX.pure (pAssign (v := V14) rfl rfl) ?_)
  refine SeqW.done fun fr21 hf22 => ?_
  have h0 : fr21 0 = (Value.pointer (some ⟨b0, 0, none⟩)) := (congrFun hf22 0).trans h0
  have h1 : fr21 1 = (Value.int .i64 x1) := (congrFun hf22 1).trans h1
  have h5 : fr21 5 = V14 := (congrFun hf22 5).trans rfl
  clear hf22
  refine thenQ.n ?_
  refine W.seq ?_
  refine W.region ?_
  refine SeqW.consX rfl (StepX.pure (pMove (v := V14) rfl h5) ?_)
  refine SeqW.consX rfl (StepX.pure (pMove (v := V14) rfl h5) ?_)
  refine SeqW.consX rfl (StepX.pure (pMove (v := V14) rfl h5) ?_)
  refine SeqW.consX rfl (StepX.pure (pMove (v := (Value.int .i64 x1)) rfl h1) ?_)
  refine SeqW.consX rfl (StepX.pure (pQuo (k := .i64) (a := x1) (b := 100) rfl rfl rfl (by decide)) ?_)
  refine SeqW.consX rfl (StepX.pure (pRem (k := .i64) (a := (IntKind.wrap .i64 (Int.tdiv x1 100))) (b := 10) rfl rfl rfl (by decide)) ?_)
  refine SeqW.consX rfl (StepX.pure (pAdd (k := .i64) (a := 48) (b := (Int.tmod (IntKind.wrap .i64 (Int.tdiv x1 100)) 10)) rfl rfl rfl) ?_)
  refine SeqW.consX rfl (StepX.pure (pConv (k := .i64) (a := (IntKind.wrap .i64 (48 + (Int.tmod (IntKind.wrap .i64 (Int.tdiv x1 100)) 10)))) rfl Try.underlying3 Try.underlying5 rfl) ?_)
  refine SeqW.consX rfl (StepX.pure (pMove (v := (Value.int .i64 x1)) rfl h1) ?_)
  refine SeqW.consX rfl (StepX.pure (pQuo (k := .i64) (a := x1) (b := 10) rfl rfl rfl (by decide)) ?_)
  refine SeqW.consX rfl (StepX.pure (pRem (k := .i64) (a := (IntKind.wrap .i64 (Int.tdiv x1 10))) (b := 10) rfl rfl rfl (by decide)) ?_)
  refine SeqW.consX rfl (StepX.pure (pAdd (k := .i64) (a := 48) (b := (Int.tmod (IntKind.wrap .i64 (Int.tdiv x1 10)) 10)) rfl rfl rfl) ?_)
  refine SeqW.consX rfl (StepX.pure (pConv (k := .i64) (a := (IntKind.wrap .i64 (48 + (Int.tmod (IntKind.wrap .i64 (Int.tdiv x1 10)) 10)))) rfl Try.underlying3 Try.underlying5 rfl) ?_)
  refine SeqW.consX rfl (StepX.pure (pMove (v := (Value.int .i64 x1)) rfl h1) ?_)
  refine SeqW.consX rfl (StepX.pure (pRem (k := .i64) (a := x1) (b := 10) rfl rfl rfl (by decide)) ?_)
  refine SeqW.consX rfl (StepX.pure (pAdd (k := .i64) (a := 48) (b := (Int.tmod x1 10)) rfl rfl rfl) ?_)
  refine SeqW.consX rfl (StepX.pure (pConv (k := .i64) (a := (IntKind.wrap .i64 (48 + (Int.tmod x1 10)))) rfl Try.underlying3 Try.underlying5 rfl) ?_)
  obtain ⟨y23, hy23, hr⟩ := bind_some hr
  refine SeqW.consX rfl (kIdxO (T := (TU8 5)) (xs := y13) (n := 8) rfl Try.underlying68 Try.type5 rfl rfl rfl O16 hy23 ?_)
  intro B24 l25 c26 cs27 hv28 hd29 hg30 hc31
  have hd290 := hd29
  obtain rfl := hd290
  obtain ⟨y34, hy34, hr⟩ := bind_some hr
  refine SeqW.consX rfl (kSet (T := (TU8 5)) (off := (8 : Int).toNat * ((TU8 5)).sz) (n := (8 : Int).toNat) (f := 0) (w := (Value.int .u8 (UInt8.toNat y34 : Int))) (new := [(Value.int .u8 (UInt8.toNat y34 : Int))]) (ecs := [(Value.int .u8 (UInt8.toNat y23 : Int))]) (ecs' := [(Value.int .u8 (UInt8.toNat y34 : Int))]) (a := y23) (a' := y34) rfl Try.type5 rfl rfl (by rw [← toU8_some hy34]; exact rfl) rfl rfl rfl O16 hv28 hg30 hd29 hc31 rfl rfl rfl st ?_)
  intro m32 st O16 sm33
  obtain ⟨y35, hy35, hr⟩ := lt_some hr
  rw [hy35] at O16
  replace bx0n := bx0n.same sm33 A20
  obtain ⟨y36, hy36, hr⟩ := bind_some hr
  refine SeqW.consX rfl (kIdxO (T := (TU8 5)) (xs := y35) (n := 9) rfl Try.underlying68 Try.type5 rfl rfl rfl O16 hy36 ?_)
  intro B37 l38 c39 cs40 hv41 hd42 hg43 hc44
  have hd420 := hd42
  obtain rfl := hd420
  obtain ⟨y47, hy47, hr⟩ := bind_some hr
  refine SeqW.consX rfl (kSet (T := (TU8 5)) (off := (9 : Int).toNat * ((TU8 5)).sz) (n := (9 : Int).toNat) (f := 0) (w := (Value.int .u8 (UInt8.toNat y47 : Int))) (new := [(Value.int .u8 (UInt8.toNat y47 : Int))]) (ecs := [(Value.int .u8 (UInt8.toNat y36 : Int))]) (ecs' := [(Value.int .u8 (UInt8.toNat y47 : Int))]) (a := y36) (a' := y47) rfl Try.type5 rfl rfl (by rw [← toU8_some hy47]; exact rfl) rfl rfl rfl O16 hv41 hg43 hd42 hc44 rfl rfl rfl st ?_)
  intro m45 st O16 sm46
  obtain ⟨y48, hy48, hr⟩ := lt_some hr
  rw [hy48] at O16
  replace bx0n := bx0n.same sm46 A20
  obtain ⟨y49, hy49, hr⟩ := bind_some hr
  refine SeqW.consX rfl (kIdxO (T := (TU8 5)) (xs := y48) (n := 10) rfl Try.underlying68 Try.type5 rfl rfl rfl O16 hy49 ?_)
  intro B50 l51 c52 cs53 hv54 hd55 hg56 hc57
  have hd550 := hd55
  obtain rfl := hd550
  obtain ⟨y60, hy60, hr⟩ := bind_some hr
  refine SeqW.consX rfl (kSet (T := (TU8 5)) (off := (10 : Int).toNat * ((TU8 5)).sz) (n := (10 : Int).toNat) (f := 0) (w := (Value.int .u8 (UInt8.toNat y60 : Int))) (new := [(Value.int .u8 (UInt8.toNat y60 : Int))]) (ecs := [(Value.int .u8 (UInt8.toNat y49 : Int))]) (ecs' := [(Value.int .u8 (UInt8.toNat y60 : Int))]) (a := y49) (a' := y60) rfl Try.type5 rfl rfl (by rw [← toU8_some hy60]; exact rfl) rfl rfl rfl O16 hv54 hg56 hd55 hc57 rfl rfl rfl st ?_)
  intro m58 st O16 sm59
  obtain ⟨y61, hy61, hr⟩ := lt_some hr
  rw [hy61] at O16
  replace bx0n := bx0n.same sm59 A20
  refine SeqW.done fun fr62 hf63 => ?_
  have h0 : fr62 0 = (Value.pointer (some ⟨b0, 0, none⟩)) := (congrFun hf63 0).trans h0
  have h5 : fr62 5 = V14 := (congrFun hf63 5).trans h5
  clear hf63
  refine thenQ.n ?_
  refine W.seq ?_
  refine W.region ?_
  refine SeqW.consX rfl (StepX.pure (pMove (v := V14) rfl h5) ?_)
  refine SeqW.consX rfl (kStrO (s := y61) rfl Try.underlying68 Try.underlying5 Try.underlying9 rfl O16 ?_)
  obtain ⟨y64, hy64, hr⟩ := bind_some hr
  refine SeqW.consX rfl (StepX.call (gCallee rfl rfl (args1 rfl)) ((c_r02_Digit (z := z4) st.fz st.dead  hy64).mono ?_))
  rintro _ _ ⟨rfl, rfl⟩
  refine SeqW.consX rfl (StepX.pure (pMove (v := (Value.tuple [(Value.int .i64 y64.1), (Value.int .i64 y64.2)].toArray)) rfl rfl) ?_)
  refine SeqW.consX rfl (StepX.pure (pExtract (vs := [(Value.int .i64 y64.1), (Value.int .i64 y64.2)]) (v := (Value.int .i64 y64.1)) rfl rfl rfl) ?_)
  refine SeqW.consX rfl (StepX.pure (pExtract (vs := [(Value.int .i64 y64.1), (Value.int .i64 y64.2)]) (v := (Value.int .i64 y64.2)) rfl rfl rfl) ?_)
  refine SeqW.consX rfl (StepX.pure (pAssign (v := (Value.int .i64 y64.1)) rfl rfl) ?_)
  refine SeqW.consX rfl (StepX.pure (pAssign (v := (Value.int .i64 y64.2)) rfl rfl) ?_)
  refine SeqW.done fun fr65 hf66 => ?_
  have h0 : fr65 0 = (Value.pointer (some ⟨b0, 0, none⟩)) := (congrFun hf66 0).trans h0
  have h5 : fr65 5 = V14 := (congrFun hf66 5).trans h5
  have h6 : fr65 6 = (Value.int .i64 y64.1) := (congrFun hf66 6).trans rfl
  clear hf66
  refine thenQ.n ?_
  refine W.seq ?_
  refine W.region ?_
  refine SeqW.consX rfl (StepX.pure (pMove (v := V14) rfl h5) ?_)
  refine SeqW.consX rfl (kStrO (s := y61) rfl Try.underlying68 Try.underlying5 Try.underlying9 rfl O16 ?_)
  refine SeqW.consX rfl (StepX.pure (pMove (v := (Value.int .i64 y64.1)) rfl h6) ?_)
  refine SeqW.consX rfl (StepX.pure (pAdd (k := .i64) (a := 48) (b := y64.1) rfl rfl rfl) ?_)
  refine SeqW.consX rfl (StepX.pure (pConv (k := .i64) (a := (IntKind.wrap .i64 (48 + y64.1))) rfl Try.underlying3 Try.underlying5 rfl) ?_)
  obtain ⟨y67, hy67, hr⟩ := bind_some hr
  refine SeqW.consX rfl (kBuild (T := (TU8 5)) rfl Try.underlying68 Try.type5 rfl rfl rfl rfl ([y67] : List UInt8) [[Value.int .u8 (UInt8.toNat y67 : Int)]] rfl rfl rfl (BuildOk.mk (w := (Value.int .u8 (UInt8.toNat y67 : Int))) (by rw [← toU8_some hy67]; exact rfl) rfl rfl rfl trivial) st ?_)
  intro V68 m69 st O70 sm71 hap72
  have A74 := hap72 _ bx0n.lt'
  replace bx0n := bx0n.same sm71 Ap.none'
  refine SeqW.consX rfl (kStrO (s := ([y67] : List UInt8)) rfl Try.underlying68 Try.underlying5 Try.underlying9 rfl O70 ?_)
  obtain ⟨y75, hy75, hr⟩ := bind_some hr
  refine SeqW.consX rfl (kAddS (s := y61) (r := ([y67] : List UInt8)) rfl rfl rfl hy75 ?_)
  refine SeqW.consX rfl (StepX.pure (pAssign (v := (str y75)) rfl rfl) ?_)
  refine SeqW.done fun fr76 hf77 => ?_
  have h0 : fr76 0 = (Value.pointer (some ⟨b0, 0, none⟩)) := (congrFun hf77 0).trans h0
  have h4 : fr76 4 = (str y75) := (congrFun hf77 4).trans rfl
  clear hf77
  refine thenQ.n ?_
  refine W.ret ?_
  obtain rfl := Option.some.inj hr
  exact ⟨z4, hz, st, .inr rfl, V9, h4, Q10, bx0n, trivial⟩

theorem c_Maker_Number {N : Nat} {z : Nat → Blk} {m : Mem} {x0 : Maker} {x1 : Int} {v0_0 : Value} {b0 : Nat} (fz : Fz z m) (hd : ∀ b, m.next ≤ b → m.blk b = .dead) (s0_0 : SlR (TInt 3 .i64) z x0.l v0_0) (bx0 : Bx z m m (some b0) b0 [v0_0, (Value.int .i64 x0.n)] 54) {r : List UInt8 × Maker} (hr : Maker_Number N x0 x1 = some r) : CallW Try.prog 38 #[(Value.pointer (some ⟨b0, 0, none⟩)), (Value.int .i64 x1)] m fun v m' => ∃ z' wr_0, Zx m.next z z' ∧ Fz z' m' ∧ Same m m' (some b0) ∧ v = (str r.1) ∧ SlR (TInt 3 .i64) z' r.2.l wr_0 ∧ Bx z' m m' (some b0) b0 [wr_0, (Value.int .i64 r.2.n)] 54 ∧ True := by
  refine CallW.any Try.func38 rfl (by kernel_rfl) (Nat.le_of_ble_eq_true rfl) (fun fr hf => ?_)
  have h0 : fr 0 = _ := hf 0 _ rfl
  have h1 : fr 1 = _ := hf 1 _ rfl
  refine (u_Maker_Number (k := (some b0)) (Zx.refl _) (St.start fz hd) h0 s0_0 bx0 h1 hr).mono ?_
  rintro ex fr' m' ⟨z', hz, st, he, wr_0, h4, sr_0, bxr, -⟩
  exact ⟨he, [(str r.1)], ⟨h4.symm, trivial⟩, .inl rfl, z', wr_0, hz, st.fz, st.toSame, rfl, sr_0, bxr, trivial⟩

/-! ### (*humpyard/humpgen.Maker).Name -/

theorem u_Maker_Name {N : Nat}  {z0 z : Nat → Blk} {e m : Mem} {k : Option Nat} {fr : Nat → Value} {x0 : Maker} {v0_0 : Value} {b0 : Nat} (hz : Zx e.next z0 z) (st : St z e m k) (h0 : fr 0 = (Value.pointer (some ⟨b0, 0, none⟩))) (s0_0 : SlR (TInt 3 .i64) z x0.l v0_0) (bx0 : Bx z e m k b0 [v0_0, (Value.int .i64 x0.n)] 54) {r : List UInt8 × Maker} (hr : Maker_Name N x0 = some r) : W Try.prog (sub (bodyOf Try.f39) []) (fun ex fr' m' => ∃ z', Zx e.next z0 z' ∧ St z' e m' k ∧ (ex = .normal ∨ ex = .ret) ∧ ∃ (wr_0 : Value), fr' 2 = (str r.1) ∧ SlR (TInt 3 .i64) z' r.2.l wr_0 ∧ Bx z' e m' k b0 [wr_0, (Value.int .i64 r.2.n)] 54 ∧ True) fr m := by
  unfold Maker_Name at hr
  refine W.seq ?_
  refine W.region ?_
  refine SeqW.consX rfl (StepX.pure (pAssign (v := (str [])) rfl rfl) ?_)
  refine SeqW.done fun fr1 hf2 => ?_
  have h0 : fr1 0 = (Value.pointer (some ⟨b0, 0, none⟩)) := (congrFun hf2 0).trans h0
  clear hf2
  refine thenQ.n ?_
  refine W.seq ?_
  refine W.region ?_
  refine SeqW.consX rfl (kBuild (T := (TStr 9)) rfl Try.underlying64 Try.type9 rfl rfl rfl rfl ([[97], [98], [99], [100], [101], [110, 111, 114, 116, 104], [115, 111, 117, 116, 104], [112, 111, 114, 116, 49], [120, 57], [97, 98, 99, 100, 101, 102, 103, 104, 105, 106, 107, 108]] : List (List UInt8)) [[(str [97])], [(str [98])], [(str [99])], [(str [100])], [(str [101])], [(str [110, 111, 114, 116, 104])], [(str [115, 111, 117, 116, 104])], [(str [112, 111, 114, 116, 49])], [(str [120, 57])], [(str [97, 98, 99, 100, 101, 102, 103, 104, 105, 106, 107, 108])]] rfl rfl rfl (BuildOk.mk (w := (str [97])) rfl rfl rfl rfl (BuildOk.mk (w := (str [98])) rfl rfl rfl rfl (BuildOk.mk (w := (str [99])) rfl rfl rfl rfl (BuildOk.mk (w := (str [100])) rfl rfl rfl rfl (BuildOk.mk (w := (str [101])) rfl rfl rfl rfl (BuildOk.mk (w := (str [110, 111, 114, 116, 104])) rfl rfl rfl rfl (BuildOk.mk (w := (str [115, 111, 117, 116, 104])) rfl rfl rfl rfl (BuildOk.mk (w := (str [112, 111, 114, 116, 49])) rfl rfl rfl rfl (BuildOk.mk (w := (str [120, 57])) rfl rfl rfl rfl (BuildOk.mk (w := (str [97, 98, 99, 100, 101, 102, 103, 104, 105, 106, 107, 108])) rfl rfl rfl rfl trivial)))))))))) st ?_)
  intro V3 m4 st O5 sm6 hap7
  have A9 := hap7 _ bx0.lt'
  replace bx0 := bx0.same sm6 Ap.none'
  refine SeqW.consX rfl (StepX.pure (pMove (v := (Value.pointer (some ⟨b0, 0, none⟩))) rfl h0) ?_)
  obtain ⟨y10, hy10, hr⟩ := bind_some hr
  refine SeqW.consX rfl (StepX.call (gCallee rfl rfl (args2 rfl rfl)) ((c_Maker_Next (x0 := x0) (z := z) st.fz st.dead s0_0 ⟨bx0.blk, bx0.lt, bx0.dead, .inr rfl⟩ hy10).mono ?_))
  rintro _ m15 ⟨z11, V16, hzx12, fz13, sm14, rfl, Q17, X19, -⟩
  replace s0_0 := s0_0.mono hzx12.le
  replace O5 := O5.call hzx12 sm14 (Ap.symm A9)
  have bx0n : Bx z11 e m15 k b0 _ _ := ⟨X19.blk, X19.lt, X19.dead, bx0.fresh⟩
  replace hz := hz.trans (Zx.here st hzx12)
  replace st := st.call hzx12 fz13 sm14 bx0.hq
  obtain ⟨y20, hy20, hr⟩ := bind_some hr
  refine SeqW.consX rfl (kIdxO (T := (TStr 9)) (xs := ([[97], [98], [99], [100], [101], [110, 111, 114, 116, 104], [115, 111, 117, 116, 104], [112, 111, 114, 116, 49], [120, 57], [97, 98, 99, 100, 101, 102, 103, 104, 105, 106, 107, 108]] : List (List UInt8))) (n := y10.1) rfl Try.underlying64 Try.type9 rfl rfl rfl O5 hy20 ?_)
  intro B21 l22 c23 cs24 hv25 hd26 hg27 hc28
  have hd260 := hd26
  obtain rfl := hd260
  refine SeqW.consX rfl (kLoad (v := (str y20)) rfl Try.underlying9 rfl rfl (hc28 0 _ rfl) ?_)
  refine SeqW.consX rfl (StepX.pure (pAssign (v := (str y20)) rfl rfl) ?_)
  refine SeqW.done fun fr29 hf30 => ?_
  have h0 : fr29 0 = (Value.pointer (some ⟨b0, 0, none⟩)) := (congrFun hf30 0).trans h0
  have h2 : fr29 2 = (str y20) := (congrFun hf30 2).trans rfl
  clear hf30
  refine thenQ.n ?_
  refine W.ret ?_
  obtain rfl := Option.some.inj hr
  exact ⟨z11, hz, st, .inr rfl, V16, h2, Q17, bx0n, trivial⟩

theorem c_Maker_Name {N : Nat} {z : Nat → Blk} {m : Mem} {x0 : Maker} {v0_0 : Value} {b0 : Nat} (fz : Fz z m) (hd : ∀ b, m.next ≤ b → m.blk b = .dead) (s0_0 : SlR (TInt 3 .i64) z x0.l v0_0) (bx0 : Bx z m m (some b0) b0 [v0_0, (Value.int .i64 x0.n)] 54) {r : List UInt8 × Maker} (hr : Maker_Name N x0 = some r) : CallW Try.prog 39 #[(Value.pointer (some ⟨b0, 0, none⟩))] m fun v m' => ∃ z' wr_0, Zx m.next z z' ∧ Fz z' m' ∧ Same m m' (some b0) ∧ v = (str r.1) ∧ SlR (TInt 3 .i64) z' r.2.l wr_0 ∧ Bx z' m m' (some b0) b0 [wr_0, (Value.int .i64 r.2.n)] 54 ∧ True := by
  refine CallW.any Try.func39 rfl (by kernel_rfl) (Nat.le_of_ble_eq_true rfl) (fun fr hf => ?_)
  have h0 : fr 0 = _ := hf 0 _ rfl
  refine (u_Maker_Name (k := (some b0)) (Zx.refl _) (St.start fz hd) h0 s0_0 bx0 hr).mono ?_
  rintro ex fr' m' ⟨z', hz, st, he, wr_0, h2, sr_0, bxr, -⟩
  exact ⟨he, [(str r.1)], ⟨h2.symm, trivial⟩, .inl rfl, z', wr_0, hz, st.fz, st.toSame, rfl, sr_0, bxr, trivial⟩

/-! ### (*humpyard/humpgen.Maker).Wagon -/

theorem u_Maker_Wagon_1 {N : Nat}  {z0 z : Nat → Blk} {e m : Mem} {k : Option Nat} {fr : Nat → Value} {x26 : Int} {x27 : Bool} {x0 : Maker} {v0_0 : Value} {b0 : Nat} {x4 : Wagon} {b4 : Nat} {x5 : Wagon} {b5 : Nat} (hz : Zx e.next z0 z) (st : St z e m k) (h0 : fr 0 = (Value.pointer (some ⟨b0, 0, none⟩))) (s0_0 : SlR (TInt 3 .i64) z x0.l v0_0) (bx0 : Bx z e m k b0 [v0_0, (Value.int .i64 x0.n)] 54) (h4 : fr 4 = (Value.pointer (some ⟨b4, 0, none⟩))) (bx4 : Bx z e m k b4 [(str x4.number), (Value.int .i64 x4.length), (Value.int .i64 x4.axles), (Value.int .i64 x4.mass), (Value.int .i64 x4.brake), (Value.int .i64 x4.goods), (Value.bool x4.gentle), (str x4.dest)] 48) (h5 : fr 5 = (Value.pointer (some ⟨b5, 0, none⟩))) (bx5 : Bx z e m k b5 [(str x5.number), (Value.int .i64 x5.length), (Value.int .i64 x5.axles), (Value.int .i64 x5.mass), (Value.int .i64 x5.brake), (Value.int .i64 x5.goods), (Value.bool x5.gentle), (str x5.dest)] 48) (h26 : fr 26 = (Value.int .u8 x26)) (h27 : fr 27 = (Value.bool x27)) (ao0_o4 : Ap (some b0) (some b4)) (ao0_o5 : Ap (some b0) (some b5)) (ao4_o5 : Ap (some b4) (some b5)) {r : Bool} (hr : Maker_Wagon_1 N x26 x27 = some r) : W Try.prog (sub (bodyOf Try.f27) [1, 1, 0, 1, 0, 0, 1]) (fun ex fr' m' => ∃ z', Zx e.next z0 z' ∧ St z' e m' k ∧ ex = AExit.normal ∧ fr' 27 = (Value.bool r) ∧ Bx z' e m' k b0 [v0_0, (Value.int .i64 x0.n)] 54 ∧ Bx z' e m' k b4 [(str x4.number), (Value.int .i64 x4.length), (Value.int .i64 x4.axles), (Value.int .i64 x4.mass), (Value.int .i64 x4.brake), (Value.int .i64 x4.goods), (Value.bool x4.gentle), (str x4.dest)] 48 ∧ Bx z' e m' k b5 [(str x5.number), (Value.int .i64 x5.length), (Value.int .i64 x5.axles), (Value.int .i64 x5.mass), (Value.int .i64 x5.brake), (Value.int .i64 x5.goods), (Value.bool x5.gentle), (str x5.dest)] 48 ∧ Ap (some b0) (some b4) ∧ Ap (some b0) (some b5) ∧ Ap (some b4) (some b5) ∧ True) fr m := by
  unfold Maker_Wagon_1 at hr
  rcases if_some hr with ⟨hc124, hr⟩ | ⟨hc125, hr⟩
  · refine W.condT h27 hc124 ?_
    refine W.skip ?_
    obtain rfl := Option.some.inj hr
    exact ⟨z, hz, st, rfl, h27, bx0, bx4, bx5, ao0_o4, ao0_o5, ao4_o5, trivial⟩
  · refine W.condF h27 hc125 ?_
    refine W.region ?_
    refine SeqW.consX rfl (StepX.pure (pEql (k := .u8) (a := x26) (b := 52) rfl h26 rfl) ?_)
    obtain ⟨y126, hy126, hr⟩ := lt_some hr
    refine SeqW.consX rfl (StepX.pure (pAssign rfl (congrArg Value.bool hy126)) ?_)
    refine SeqW.done fun fr127 hf128 => ?_
    have h0 : fr127 0 = (Value.pointer (some ⟨b0, 0, none⟩)) := (congrFun hf128 0).trans h0
    have h4 : fr127 4 = (Value.pointer (some ⟨b4, 0, none⟩)) := (congrFun hf128 4).trans h4
    have h5 : fr127 5 = (Value.pointer (some ⟨b5, 0, none⟩)) := (congrFun hf128 5).trans h5
    have h26 : fr127 26 = (Value.int .u8 x26) := (congrFun hf128 26).trans h26
    have h27 : fr127 27 = (Value.bool y126) := (congrFun hf128 27).trans rfl
    clear hf128
    obtain rfl := Option.some.inj hr
    exact ⟨z, hz, st, rfl, h27, bx0, bx4, bx5, ao0_o4, ao0_o5, ao4_o5, trivial⟩

theorem u_Maker_Wagon_0 {N : Nat}  {z0 z : Nat → Blk} {e m : Mem} {k : Option Nat} {fr : Nat → Value} {x5 : Wagon} {x26 : Int} {x0 : Maker} {v0_0 : Value} {b0 : Nat} {x4 : Wagon} {b4 : Nat} {b5 : Nat} (hz : Zx e.next z0 z) (st : St z e m k) (h0 : fr 0 = (Value.pointer (some ⟨b0, 0, none⟩))) (s0_0 : SlR (TInt 3 .i64) z x0.l v0_0) (bx0 : Bx z e m k b0 [v0_0, (Value.int .i64 x0.n)] 54) (h4 : fr 4 = (Value.pointer (some ⟨b4, 0, none⟩))) (bx4 : Bx z e m k b4 [(str x4.number), (Value.int .i64 x4.length), (Value.int .i64 x4.axles), (Value.int .i64 x4.mass), (Value.int .i64 x4.brake), (Value.int .i64 x4.goods), (Value.bool x4.gentle), (str x4.dest)] 48) (h5 : fr 5 = (Value.pointer (some ⟨b5, 0, none⟩))) (bx5 : Bx z e m k b5 [(str x5.number), (Value.int .i64 x5.length), (Value.int .i64 x5.axles), (Value.int .i64 x5.mass), (Value.int .i64 x5.brake), (Value.int .i64 x5.goods), (Value.bool x5.gentle), (str x5.dest)] 48) (h26 : fr 26 = (Value.int .u8 x26)) (ao0_o4 : Ap (some b0) (some b4)) (ao0_o5 : Ap (some b0) (some b5)) (ao4_o5 : Ap (some b4) (some b5)) {r : Wagon} (hr : Maker_Wagon_0 N x5 x26 = some r) : W Try.prog (sub (bodyOf Try.f27) [1, 1, 0, 1]) (fun ex fr' m' => ∃ z', Zx e.next z0 z' ∧ St z' e m' k ∧ ex = AExit.normal ∧ fr' 5 = (Value.pointer (some ⟨b5, 0, none⟩)) ∧ Bx z' e m' k b5 [(str r.number), (Value.int .i64 r.length), (Value.int .i64 r.axles), (Value.int .i64 r.mass), (Value.int .i64 r.brake), (Value.int .i64 r.goods), (Value.bool r.gentle), (str r.dest)] 48 ∧ Bx z' e m' k b0 [v0_0, (Value.int .i64 x0.n)] 54 ∧ Bx z' e m' k b4 [(str x4.number), (Value.int .i64 x4.length), (Value.int .i64 x4.axles), (Value.int .i64 x4.mass), (Value.int .i64 x4.brake), (Value.int .i64 x4.goods), (Value.bool x4.gentle), (str x4.dest)] 48 ∧ Ap (some b5) (some b0) ∧ Ap (some b5) (some b4) ∧ Ap (some b0) (some b4) ∧ True) fr m := by
  unfold Maker_Wagon_0 at hr
  refine W.block ?_
  refine W.seq ?_
  refine W.seq ?_
  refine W.region ?_
  refine SeqW.consX rfl (StepX.pure (pEql (k := .u8) (a := x26) (b := 50) rfl h26 rfl) ?_)
  obtain ⟨y121, hy121, hr⟩ := lt_some hr
  refine SeqW.consX rfl (StepX.pure (pAssign rfl (congrArg Value.bool hy121)) ?_)
  refine SeqW.done fun fr122 hf123 => ?_
  have h0 : fr122 0 = (Value.pointer (some ⟨b0, 0, none⟩)) := (congrFun hf123 0).trans h0
  have h4 : fr122 4 = (Value.pointer (some ⟨b4, 0, none⟩)) := (congrFun hf123 4).trans h4
  have h5 : fr122 5 = (Value.pointer (some ⟨b5, 0, none⟩)) := (congrFun hf123 5).trans h5
  have h26 : fr122 26 = (Value.int .u8 x26) := (congrFun hf123 26).trans h26
  have h27 : fr122 27 = (Value.bool y121) := (congrFun hf123 27).trans rfl
  clear hf123
  refine thenQ.n ?_
  obtain ⟨y129, hy129, hr⟩ := bind_some hr
  refine W.keep (u_Maker_Wagon_1 (x0 := x0) (x4 := x4) (x5 := x5) (Zx.refl _) st h0 s0_0 bx0 h4 bx4 h5 bx5 h26 h27 ao0_o4 ao0_o5 ao4_o5 hy129) ?_
  rintro ex135 fr130 m131 hk133 ⟨z132, hz134, st, rfl, h27, O136, O137, O138, A139, A140, A141, -⟩
  replace s0_0 := s0_0.mono hz134.le
  have h0 := (hk133 0 rfl).trans h0
  have h4 := (hk133 4 rfl).trans h4
  have h5 := (hk133 5 rfl).trans h5
  have h26 := (hk133 26 rfl).trans h26
  replace hz := hz.trans hz134
  clear hk133
  refine thenQ.n ?_
  rcases if_some hr with ⟨hc142, hr⟩ | ⟨hc147, hr⟩
  · refine W.condT h27 hc142 ?_
    refine W.region ?_
    refine SeqW.consX rfl (kField rfl Try.underlying48 rfl Try.type3 rfl h5 rfl ?_)
    refine SeqW.consX rfl (kPut (off := 2) (w := (Value.int .i64 2)) (new := [(Value.int .i64 2)]) rfl Try.type3 rfl rfl rfl rfl rfl O138 rfl [(str x5.number), (Value.int .i64 x5.length), (Value.int .i64 2), (Value.int .i64 x5.mass), (Value.int .i64 x5.brake), (Value.int .i64 x5.goods), (Value.bool x5.gentle), (str x5.dest)] rfl st ?_)
    intro m143 st O138 sm144
    replace O136 := O136.same sm144 A140
    replace O137 := O137.same sm144 A141
    refine SeqW.done fun fr145 hf146 => ?_
    have h0 : fr145 0 = (Value.pointer (some ⟨b0, 0, none⟩)) := (congrFun hf146 0).trans h0
    have h4 : fr145 4 = (Value.pointer (some ⟨b4, 0, none⟩)) := (congrFun hf146 4).trans h4
    have h5 : fr145 5 = (Value.pointer (some ⟨b5, 0, none⟩)) := (congrFun hf146 5).trans h5
    clear hf146
    refine blockQ.n ?_
    obtain rfl := Option.some.inj hr
    exact ⟨z132, hz, st, rfl, h5, O138, O136, O137, (Ap.symm A140), (Ap.symm A141), A139, trivial⟩
  · refine W.condF h27 hc147 ?_
    refine W.seq ?_
    refine W.region ?_
    refine SeqW.consX rfl (StepX.pure (pEql (k := .u8) (a := x26) (b := 57) rfl h26 rfl) ?_)
    obtain ⟨y148, hy148, hr⟩ := lt_some hr
    refine SeqW.consX rfl (StepX.pure (pAssign rfl (congrArg Value.bool hy148)) ?_)
    refine SeqW.done fun fr149 hf150 => ?_
    have h0 : fr149 0 = (Value.pointer (some ⟨b0, 0, none⟩)) := (congrFun hf150 0).trans h0
    have h4 : fr149 4 = (Value.pointer (some ⟨b4, 0, none⟩)) := (congrFun hf150 4).trans h4
    have h5 : fr149 5 = (Value.pointer (some ⟨b5, 0, none⟩)) := (congrFun hf150 5).trans h5
    have h31 : fr149 31 = (Value.bool y148) := (congrFun hf150 31).trans rfl
    clear hf150
    refine thenQ.n ?_
    rcases if_some hr with ⟨hc151, hr⟩ | ⟨hc160, hr⟩
    · refine W.condT h31 hc151 ?_
      refine W.seq ?_
      refine W.region ?_
      refine SeqW.consX rfl (kField rfl Try.underlying48 rfl Try.type3 rfl h5 rfl ?_)
      refine SeqW.consX rfl (kPut (off := 2) (w := (Value.int .i64 6)) (new := [(Value.int .i64 6)]) rfl Try.type3 rfl rfl rfl rfl rfl O138 rfl [(str x5.number), (Value.int .i64 x5.length), (Value.int .i64 6), (Value.int .i64 x5.mass), (Value.int .i64 x5.brake), (Value.int .i64 x5.goods), (Value.bool x5.gentle), (str x5.dest)] rfl st ?_)
      intro m152 st O138 sm153
      replace O136 := O136.same sm153 A140
      replace O137 := O137.same sm153 A141
      refine SeqW.done fun fr154 hf155 => ?_
      have h0 : fr154 0 = (Value.pointer (some ⟨b0, 0, none⟩)) := (congrFun hf155 0).trans h0
      have h4 : fr154 4 = (Value.pointer (some ⟨b4, 0, none⟩)) := (congrFun hf155 4).trans h4
      have h5 : fr154 5 = (Value.pointer (some ⟨b5, 0, none⟩)) := (congrFun hf155 5).trans h5
      clear hf155
      refine thenQ.n ?_
      refine W.region ?_
      refine SeqW.consX rfl (kField rfl Try.underlying48 rfl Try.type3 rfl h5 rfl ?_)
      refine SeqW.consX rfl (kLoad rfl Try.underlying3 rfl rfl (O138.load (v := (Value.int .i64 x5.length)) rfl) ?_)
      refine SeqW.consX rfl (StepX.pure (pMax2 (k := .i64) (a := x5.length) (b := 120) rfl rfl rfl) ?_)
      refine SeqW.consX rfl (kField rfl Try.underlying48 rfl Try.type3 rfl h5 rfl ?_)
      refine SeqW.consX rfl (kPut (off := 1) (w := (Value.int .i64 (max x5.length 120))) (new := [(Value.int .i64 (max x5.length 120))]) rfl Try.type3 rfl rfl rfl rfl rfl O138 rfl [(str x5.number), (Value.int .i64 (max x5.length 120)), (Value.int .i64 6), (Value.int .i64 x5.mass), (Value.int .i64 x5.brake), (Value.int .i64 x5.goods), (Value.bool x5.gentle), (str x5.dest)] rfl st ?_)
      intro m156 st O138 sm157
      replace O136 := O136.same sm157 A140
      replace O137 := O137.same sm157 A141
      refine SeqW.done fun fr158 hf159 => ?_
      have h0 : fr158 0 = (Value.pointer (some ⟨b0, 0, none⟩)) := (congrFun hf159 0).trans h0
      have h4 : fr158 4 = (Value.pointer (some ⟨b4, 0, none⟩)) := (congrFun hf159 4).trans h4
      have h5 : fr158 5 = (Value.pointer (some ⟨b5, 0, none⟩)) := (congrFun hf159 5).trans h5
      clear hf159
      refine blockQ.n ?_
      obtain rfl := Option.some.inj hr
      exact ⟨z132, hz, st, rfl, h5, O138, O136, O137, (Ap.symm A140), (Ap.symm A141), A139, trivial⟩
    · refine W.condF h31 hc160 ?_
      refine W.skip ?_
      refine blockQ.n ?_
      obtain rfl := Option.some.inj hr
      exact ⟨z132, hz, st, rfl, h5, O138, O136, O137, (Ap.symm A140), (Ap.symm A141), A139, trivial⟩

theorem u_Maker_Wagon {N : Nat}  {z0 z : Nat → Blk} {e m : Mem} {k : Option Nat} {fr : Nat → Value} {x0 : Maker} {x1 : Int} {v0_0 : Value} {b0 : Nat} (hz : Zx e.next z0 z) (st : St z e m k) (h0 : fr 0 = (Value.pointer (some ⟨b0, 0, none⟩))) (s0_0 : SlR (TInt 3 .i64) z x0.l v0_0) (bx0 : Bx z e m k b0 [v0_0, (Value.int .i64 x0.n)] 54) (h1 : fr 1 = (Value.int .i64 x1)) {r : Wagon × Maker} (hr : Maker_Wagon N x0 x1 = some r) : W Try.prog (sub (bodyOf Try.f27) []) (fun ex fr' m' => ∃ z', Zx e.next z0 z' ∧ St z' e m' k ∧ (ex = .normal ∨ ex = .ret) ∧ ∃ (c4 : Nat) (wr_0 : Value), fr' 4 = (Value.pointer (some ⟨c4, 0, none⟩)) ∧ Bx z' e m' k c4 [(str r.1.number), (Value.int .i64 r.1.length), (Value.int .i64 r.1.axles), (Value.int .i64 r.1.mass), (Value.int .i64 r.1.brake), (Value.int .i64 r.1.goods), (Value.bool r.1.gentle), (str r.1.dest)] 48 ∧ (e.next ≤ c4 ∨ k = some c4) ∧ SlR (TInt 3 .i64) z' r.2.l wr_0 ∧ Bx z' e m' k b0 [wr_0, (Value.int .i64 r.2.n)] 54 ∧ True) fr m := by
  unfold Maker_Wagon at hr
  refine W.seq ?_
  refine W.region ?_
  refine SeqW.consX rfl (kAlloc rfl Try.type48 rfl rfl rfl [(str []), (Value.int .i64 0), (Value.int .i64 0), (Value.int .i64 0), (Value.int .i64 0), (Value.int .i64 0), (Value.bool false), (str [])] rfl st ?_)
  intro B1 m2 st X3 sm4 hap5
  have A7 := hap5 _ bx0.lt'
  replace bx0 := bx0.same sm4 Ap.none'
  refine SeqW.done fun fr8 hf9 => ?_
  have h0 : fr8 0 = (Value.pointer (some ⟨b0, 0, none⟩)) := (congrFun hf9 0).trans h0
  have h1 : fr8 1 = (Value.int .i64 x1) := (congrFun hf9 1).trans h1
  have h4 : fr8 4 = (Value.pointer (some ⟨B1, 0, none⟩)) := (congrFun hf9 4).trans rfl
  clear hf9
  refine thenQ.n ?_
  refine W.seq ?_
  refine W.region ?_
  refine SeqW.consX rfl (StepX.pure (pMove (v := (Value.pointer (some ⟨b0, 0, none⟩))) rfl h0) ?_)
  refine SeqW.consX rfl (StepX.pure (pMove (v := (Value.int .i64 x1)) rfl h1) ?_)
  obtain ⟨y10, hy10, hr⟩ := bind_some hr
  refine SeqW.consX rfl (StepX.call (gCallee rfl rfl (args2 rfl rfl)) ((c_Maker_Number (x0 := x0) (z := z) st.fz st.dead s0_0 ⟨bx0.blk, bx0.lt, bx0.dead, .inr rfl⟩ hy10).mono ?_))
  rintro _ m15 ⟨z11, V16, hzx12, fz13, sm14, rfl, Q17, X19, -⟩
  replace s0_0 := s0_0.mono hzx12.le
  replace X3 := X3.call hzx12 sm14 (Ap.symm A7)
  have bx0n : Bx z11 e m15 k b0 _ _ := ⟨X19.blk, X19.lt, X19.dead, bx0.fresh⟩
  replace hz := hz.trans (Zx.here st hzx12)
  replace st := st.call hzx12 fz13 sm14 bx0.hq
  refine SeqW.consX rfl (StepX.pure (pMove (v := (Value.pointer (some ⟨b0, 0, none⟩))) rfl h0) ?_)
  refine SeqW.consX rfl (kBuild (T := (TInt 3 .i64)) rfl Try.underlying22 Try.type3 rfl rfl rfl rfl ([80, 120, 142, 199, 262, 400] : List Int) [[(Value.int .i64 80)], [(Value.int .i64 120)], [(Value.int .i64 142)], [(Value.int .i64 199)], [(Value.int .i64 262)], [(Value.int .i64 400)]] rfl rfl rfl (BuildOk.mk (w := (Value.int .i64 80)) rfl rfl rfl rfl (BuildOk.mk (w := (Value.int .i64 120)) rfl rfl rfl rfl (BuildOk.mk (w := (Value.int .i64 142)) rfl rfl rfl rfl (BuildOk.mk (w := (Value.int .i64 199)) rfl rfl rfl rfl (BuildOk.mk (w := (Value.int .i64 262)) rfl rfl rfl rfl (BuildOk.mk (w := (Value.int .i64 400)) rfl rfl rfl rfl trivial)))))) st ?_)
  intro V20 m21 st O22 sm23 hap24
  have A26 := hap24 _ bx0n.lt'
  have A27 := hap24 _ X3.lt'
  replace bx0n := bx0n.same sm23 Ap.none'
  replace X3 := X3.same sm23 Ap.none'
  obtain ⟨z28, hz29, st, Q30, hl31⟩ := O22.freeze st
  replace bx0n := bx0n.zle (hl31 _ A26)
  replace X3 := X3.zle (hl31 _ A27)
  replace Q17 := Q17.mono hz29.le
  replace hz := hz.trans hz29
  obtain ⟨y32, hy32, hr⟩ := bind_some hr
  refine SeqW.consX rfl (StepX.call (gCallee rfl rfl (args2 rfl rfl)) ((c_Maker_Pick (x0 := y10.2) (z := z28) st.fz st.dead Q17 ⟨bx0n.blk, bx0n.lt, bx0n.dead, .inr rfl⟩ Q30 hy32).mono ?_))
  rintro _ m37 ⟨z33, V38, hzx34, fz35, sm36, rfl, Q39, X41, -⟩
  replace X3 := X3.call hzx34 sm36 (Ap.symm A7)
  replace Q17 := Q17.mono hzx34.le
  replace Q30 := Q30.mono hzx34.le
  have bx0nn : Bx z33 e m37 k b0 _ _ := ⟨X41.blk, X41.lt, X41.dead, bx0n.fresh⟩
  replace hz := hz.trans (Zx.here st hzx34)
  replace st := st.call hzx34 fz35 sm36 bx0n.hq
  refine SeqW.consX rfl (StepX.pure (pMove (v := (Value.pointer (some ⟨b0, 0, none⟩))) rfl h0) ?_)
  refine SeqW.consX rfl (kBuild (T := (TInt 3 .i64)) rfl Try.underlying22 Try.type3 rfl rfl rfl rfl ([50, 120, 400, 800, 2000] : List Int) [[(Value.int .i64 50)], [(Value.int .i64 120)], [(Value.int .i64 400)], [(Value.int .i64 800)], [(Value.int .i64 2000)]] rfl rfl rfl (BuildOk.mk (w := (Value.int .i64 50)) rfl rfl rfl rfl (BuildOk.mk (w := (Value.int .i64 120)) rfl rfl rfl rfl (BuildOk.mk (w := (Value.int .i64 400)) rfl rfl rfl rfl (BuildOk.mk (w := (Value.int .i64 800)) rfl rfl rfl rfl (BuildOk.mk (w := (Value.int .i64 2000)) rfl rfl rfl rfl trivial))))) st ?_)
  intro V42 m43 st O44 sm45 hap46
  have A48 := hap46 _ bx0nn.lt'
  have A49 := hap46 _ X3.lt'
  replace bx0nn := bx0nn.same sm45 Ap.none'
  replace X3 := X3.same sm45 Ap.none'
  obtain ⟨z50, hz51, st, Q52, hl53⟩ := O44.freeze st
  replace bx0nn := bx0nn.zle (hl53 _ A48)
  replace X3 := X3.zle (hl53 _ A49)
  replace Q39 := Q39.mono hz51.le
  replace hz := hz.trans hz51
  obtain ⟨y54, hy54, hr⟩ := bind_some hr
  refine SeqW.consX rfl (StepX.call (gCallee rfl rfl (args2 rfl rfl)) ((c_Maker_Pick (x0 := y32.2) (z := z50) st.fz st.dead Q39 ⟨bx0nn.blk, bx0nn.lt, bx0nn.dead, .inr rfl⟩ Q52 hy54).mono ?_))
  rintro _ m59 ⟨z55, V60, hzx56, fz57, sm58, rfl, Q61, X63, -⟩
  replace X3 := X3.call hzx56 sm58 (Ap.symm A7)
  replace Q39 := Q39.mono hzx56.le
  replace Q52 := Q52.mono hzx56.le
  have bx0nnn : Bx z55 e m59 k b0 _ _ := ⟨X63.blk, X63.lt, X63.dead, bx0nn.fresh⟩
  replace hz := hz.trans (Zx.here st hzx56)
  replace st := st.call hzx56 fz57 sm58 bx0nn.hq
  refine SeqW.consX rfl (StepX.pure (pMove (v := (Value.pointer (some ⟨b0, 0, none⟩))) rfl h0) ?_)
  refine SeqW.consX rfl (kBuild (T := (TInt 3 .i64)) rfl Try.underlying22 Try.type3 rfl rfl rfl rfl ([0, 0, 0, 1, 3, 9] : List Int) [[(Value.int .i64 0)], [(Value.int .i64 0)], [(Value.int .i64 0)], [(Value.int .i64 1)], [(Value.int .i64 3)], [(Value.int .i64 9)]] rfl rfl rfl (BuildOk.mk (w := (Value.int .i64 0)) rfl rfl rfl rfl (BuildOk.mk (w := (Value.int .i64 0)) rfl rfl rfl rfl (BuildOk.mk (w := (Value.int .i64 0)) rfl rfl rfl rfl (BuildOk.mk (w := (Value.int .i64 1)) rfl rfl rfl rfl (BuildOk.mk (w := (Value.int .i64 3)) rfl rfl rfl rfl (BuildOk.mk (w := (Value.int .i64 9)) rfl rfl rfl rfl trivial)))))) st ?_)
  intro V64 m65 st O66 sm67 hap68
  have A70 := hap68 _ bx0nnn.lt'
  have A71 := hap68 _ X3.lt'
  replace bx0nnn := bx0nnn.same sm67 Ap.none'
  replace X3 := X3.same sm67 Ap.none'
  obtain ⟨z72, hz73, st, Q74, hl75⟩ := O66.freeze st
  replace bx0nnn := bx0nnn.zle (hl75 _ A70)
  replace X3 := X3.zle (hl75 _ A71)
  replace Q61 := Q61.mono hz73.le
  replace hz := hz.trans hz73
  obtain ⟨y76, hy76, hr⟩ := bind_some hr
  refine SeqW.consX rfl (StepX.call (gCallee rfl rfl (args2 rfl rfl)) ((c_Maker_Pick (x0 := y54.2) (z := z72) st.fz st.dead Q61 ⟨bx0nnn.blk, bx0nnn.lt, bx0nnn.dead, .inr rfl⟩ Q74 hy76).mono ?_))
  rintro _ m81 ⟨z77, V82, hzx78, fz79, sm80, rfl, Q83, X85, -⟩
  replace X3 := X3.call hzx78 sm80 (Ap.symm A7)
  replace Q61 := Q61.mono hzx78.le
  replace Q74 := Q74.mono hzx78.le
  have bx0nnnn : Bx z77 e m81 k b0 _ _ := ⟨X85.blk, X85.lt, X85.dead, bx0nnn.fresh⟩
  replace hz := hz.trans (Zx.here st hzx78)
  replace st := st.call hzx78 fz79 sm80 bx0nnn.hq
  refine SeqW.consX rfl (StepX.pure (pMove (v := (Value.pointer (some ⟨b0, 0, none⟩))) rfl h0) ?_)
  obtain ⟨y86, hy86, hr⟩ := bind_some hr
  refine SeqW.consX rfl (StepX.call (gCallee rfl rfl (args2 rfl rfl)) ((c_Maker_Next (x0 := y76.2) (z := z77) st.fz st.dead Q83 ⟨bx0nnnn.blk, bx0nnnn.lt, bx0nnnn.dead, .inr rfl⟩ hy86).mono ?_))
  rintro _ m91 ⟨z87, V92, hzx88, fz89, sm90, rfl, Q93, X95, -⟩
  replace X3 := X3.call hzx88 sm90 (Ap.symm A7)
  replace Q83 := Q83.mono hzx88.le
  have bx0nnnnn : Bx z87 e m91 k b0 _ _ := ⟨X95.blk, X95.lt, X95.dead, bx0nnnn.fresh⟩
  replace hz := hz.trans (Zx.here st hzx88)
  replace st := st.call hzx88 fz89 sm90 bx0nnnn.hq
  refine SeqW.consX rfl (StepX.pure (pEql (k := .i64) (a := y86.1) (b := 0) rfl rfl rfl) ?_)
  refine SeqW.consX rfl (StepX.pure (pMove (v := (Value.pointer (some ⟨b0, 0, none⟩))) rfl h0) ?_)
  obtain ⟨y96, hy96, hr⟩ := bind_some hr
  refine SeqW.consX rfl (StepX.call (gCallee rfl rfl (args1 rfl)) ((c_Maker_Name (x0 := y86.2) (z := z87) st.fz st.dead Q93 ⟨bx0nnnnn.blk, bx0nnnnn.lt, bx0nnnnn.dead, .inr rfl⟩ hy96).mono ?_))
  rintro _ m101 ⟨z97, V102, hzx98, fz99, sm100, rfl, Q103, X105, -⟩
  replace X3 := X3.call hzx98 sm100 (Ap.symm A7)
  replace Q93 := Q93.mono hzx98.le
  have bx0nnnnnn : Bx z97 e m101 k b0 _ _ := ⟨X105.blk, X105.lt, X105.dead, bx0nnnnn.fresh⟩
  replace hz := hz.trans (Zx.here st hzx98)
  replace st := st.call hzx98 fz99 sm100 bx0nnnnn.hq
  refine SeqW.consX rfl (kBuildS [(0, (str y10.1)), (2, (Value.int .i64 4)), (1, (Value.int .i64 y32.1)), (3, (Value.int .i64 y54.1)), (5, (Value.int .i64 y76.1)), (6, (Value.bool (y86.1 == 0))), (7, (str y96.1))] [(str y10.1), (Value.int .i64 y32.1), (Value.int .i64 4), (Value.int .i64 y54.1), (Value.int .i64 0), (Value.int .i64 y76.1), (Value.bool (y86.1 == 0)), (str y96.1)] rfl Try.underlying48 Try.type48 rfl rfl (places48 Try.underlying48) rfl (rfl) rfl ?_)
  refine SeqW.consX rfl (kAlloc rfl Try.type48 rfl rfl rfl [(str []), (Value.int .i64 0), (Value.int .i64 0), (Value.int .i64 0), (Value.int .i64 0), (Value.int .i64 0), (Value.bool false), (str [])] rfl st ?_)
  intro B106 m107 st X108 sm109 hap110
  have A112 := hap110 _ bx0nnnnnn.lt'
  have A113 := hap110 _ X3.lt'
  replace bx0nnnnnn := bx0nnnnnn.same sm109 Ap.none'
  replace X3 := X3.same sm109 Ap.none'
  refine SeqW.consX rfl (kPut (off := 0) (w := (Value.agg [(str y10.1), (Value.int .i64 y32.1), (Value.int .i64 4), (Value.int .i64 y54.1), (Value.int .i64 0), (Value.int .i64 y76.1), (Value.bool (y86.1 == 0)), (str y96.1)].toArray)) (new := [(str y10.1), (Value.int .i64 y32.1), (Value.int .i64 4), (Value.int .i64 y54.1), (Value.int .i64 0), (Value.int .i64 y76.1), (Value.bool (y86.1 == 0)), (str y96.1)]) rfl Try.type48 rfl rfl rfl rfl rfl X108 rfl [(str y10.1), (Value.int .i64 y32.1), (Value.int .i64 4), (Value.int .i64 y54.1), (Value.int .i64 0), (Value.int .i64 y76.1), (Value.bool (y86.1 == 0)), (str y96.1)] rfl st ?_)
  intro m114 st X108 sm115
  replace bx0nnnnnn := bx0nnnnnn.same sm115 A112
  replace X3 := X3.same sm115 A113
  refine SeqW.done fun fr116 hf117 => ?_
  have h0 : fr116 0 = (Value.pointer (some ⟨b0, 0, none⟩)) := (congrFun hf117 0).trans h0
  have h4 : fr116 4 = (Value.pointer (some ⟨B1, 0, none⟩)) := (congrFun hf117 4).trans h4
  have h5 : fr116 5 = (Value.pointer (some ⟨B106, 0, none⟩)) := (congrFun hf117 5).trans rfl
  clear hf117
  refine thenQ.n ?_
  refine W.seq ?_
  refine W.seq ?_
  refine W.region ?_
  refine SeqW.consX rfl (kField rfl Try.underlying48 rfl Try.type9 rfl h5 rfl ?_)
  refine SeqW.consX rfl (kLoad rfl Try.underlying9 rfl rfl (X108.load (v := (str y10.1)) rfl) ?_)
  obtain ⟨y118, hy118, hr⟩ := bind_some hr
  refine SeqW.consX rfl (kIndexS (s := y10.1) (n := 4) rfl Try.underlying9 rfl rfl hy118 ?_)
  refine SeqW.done fun fr119 hf120 => ?_
  have h0 : fr119 0 = (Value.pointer (some ⟨b0, 0, none⟩)) := (congrFun hf120 0).trans h0
  have h4 : fr119 4 = (Value.pointer (some ⟨B1, 0, none⟩)) := (congrFun hf120 4).trans h4
  have h5 : fr119 5 = (Value.pointer (some ⟨B106, 0, none⟩)) := (congrFun hf120 5).trans h5
  have h26 : fr119 26 = (Value.int .u8 (UInt8.toNat y118 : Int)) := (congrFun hf120 26).trans rfl
  clear hf120
  refine thenQ.n ?_
  obtain ⟨y161, hy161, hr⟩ := bind_some hr
  refine W.keep (u_Maker_Wagon_0 (x0 := y96.2) (x4 := (Wagon.mk [] 0 0 0 0 0 false [])) (x5 := (Wagon.mk y10.1 y32.1 4 y54.1 0 y76.1 (y86.1 == 0) y96.1)) (Zx.refl _) st h0 Q103 bx0nnnnnn h4 X3 h5 X108 h26 A7 A112 A113 hy161) ?_
  rintro ex167 fr162 m163 hk165 ⟨z164, hz166, st, rfl, h5, X169, O170, O171, A172, A173, A174, -⟩
  replace Q103 := Q103.mono hz166.le
  have h0 := (hk165 0 rfl).trans h0
  have h4 := (hk165 4 rfl).trans h4
  replace hz := hz.trans hz166
  clear hk165
  refine thenQ.n ?_
  refine W.seq ?_
  refine W.draw ?_
  refine DrawW.cons rfl (kField rfl Try.underlying48 rfl Try.type3 rfl h5 rfl ?_)
  refine ⟨trivial, ?_⟩
  refine DrawW.cons rfl (kLoad rfl Try.underlying3 rfl rfl (X169.load (v := (Value.int .i64 y161.mass)) rfl) ?_)
  refine ⟨?_, ?_⟩
  · exact demN
  refine DrawW.cons rfl (StepX.pure (pMove (v := (Value.pointer (some ⟨b0, 0, none⟩))) rfl h0) ?_)
  refine ⟨trivial, ?_⟩
  have sto175 := st
  have old176 := O170
  have old177 := O171
  have old178 := X169
  obtain ⟨y179, hy179, hr⟩ := bind_some hr
  refine DrawW.cons rfl (StepX.call (gCallee rfl rfl (args2 rfl rfl)) ((c_Maker_Next (x0 := y96.2) (z := z164) st.fz st.dead Q103 ⟨O170.blk, O170.lt, O170.dead, .inr rfl⟩ hy179).mono ?_))
  rintro _ m184 ⟨z180, V185, hzx181, fz182, sm183, rfl, Q186, X188, -⟩
  replace O171 := O171.call hzx181 sm183 (Ap.symm A174)
  replace Q103 := Q103.mono hzx181.le
  replace X169 := X169.call hzx181 sm183 A172
  have O170n : Bx z180 e m184 k b0 _ _ := ⟨X188.blk, X188.lt, X188.dead, O170.fresh⟩
  replace hz := hz.trans (Zx.here st hzx181)
  replace st := st.call hzx181 fz182 sm183 O170.hq
  refine ⟨⟨?_, ?_⟩, ?_⟩
  · first | refine demP (gLoad rfl Try.underlying3 rfl rfl (X169.load (v := (Value.int .i64 y161.mass)) rfl)) ?_ | refine demA (by decide) ?_
    exact demN
  · exact demN
  refine DrawW.cons rfl (StepX.pure (pMul (k := .i64) (a := y161.mass) (b := y179.1) rfl rfl rfl) ?_)
  refine ⟨trivial, ?_⟩
  refine DrawW.cons rfl (StepX.pure (pQuo (k := .i64) (a := (IntKind.wrap .i64 (y161.mass * y179.1))) (b := 4) rfl rfl rfl (by decide)) ?_)
  refine ⟨trivial, ?_⟩
  refine DrawW.cons rfl (kField rfl Try.underlying48 rfl Try.type3 rfl h5 rfl ?_)
  refine ⟨trivial, ?_⟩
  have sto189 := st
  have old190 := O170n
  have old191 := O171
  have old192 := X169
  refine DrawW.cons rfl (kPut (off := 4) (w := (Value.int .i64 (IntKind.wrap .i64 (Int.tdiv (IntKind.wrap .i64 (y161.mass * y179.1)) 4)))) (new := [(Value.int .i64 (IntKind.wrap .i64 (Int.tdiv (IntKind.wrap .i64 (y161.mass * y179.1)) 4)))]) rfl Try.type3 rfl rfl rfl rfl rfl X169 rfl [(str y161.number), (Value.int .i64 y161.length), (Value.int .i64 y161.axles), (Value.int .i64 y161.mass), (Value.int .i64 (IntKind.wrap .i64 (Int.tdiv (IntKind.wrap .i64 (y161.mass * y179.1)) 4))), (Value.int .i64 y161.goods), (Value.bool y161.gentle), (str y161.dest)] rfl st ?_)
  intro m193 st X169 sm194
  replace O170n := O170n.same sm194 (Ap.symm A172)
  replace O171 := O171.same sm194 (Ap.symm A173)
  refine ⟨⟨?_, ?_⟩, ?_⟩
  · first | refine demP (gLoad rfl Try.underlying3 rfl rfl (X169.load (v := (Value.int .i64 y161.mass)) rfl)) ?_ | refine demA (by decide) ?_
    exact demN
  · exact demN
  refine DrawW.done fun fr195 hf196 => ?_
  have h0 : fr195 0 = (Value.pointer (some ⟨b0, 0, none⟩)) := (congrFun hf196 0).trans h0
  have h4 : fr195 4 = (Value.pointer (some ⟨B1, 0, none⟩)) := (congrFun hf196 4).trans h4
  have h5 : fr195 5 = (Value.pointer (some ⟨B106, 0, none⟩)) := (congrFun hf196 5).trans h5
  clear hf196
  refine thenQ.n ?_
  refine W.seq ?_
  refine W.region ?_
  refine SeqW.consX rfl (kLoadA rfl Try.underlying48 rfl Try.type48 rfl h5 X169.loads ?_)
  refine SeqW.consX rfl (kPut (off := 0) (w := (Value.agg [(str y161.number), (Value.int .i64 y161.length), (Value.int .i64 y161.axles), (Value.int .i64 y161.mass), (Value.int .i64 (IntKind.wrap .i64 (Int.tdiv (IntKind.wrap .i64 (y161.mass * y179.1)) 4))), (Value.int .i64 y161.goods), (Value.bool y161.gentle), (str y161.dest)].toArray)) (new := [(str y161.number), (Value.int .i64 y161.length), (Value.int .i64 y161.axles), (Value.int .i64 y161.mass), (Value.int .i64 (IntKind.wrap .i64 (Int.tdiv (IntKind.wrap .i64 (y161.mass * y179.1)) 4))), (Value.int .i64 y161.goods), (Value.bool y161.gentle), (str y161.dest)]) rfl Try.type48 h4 rfl rfl rfl rfl O171 rfl [(str y161.number), (Value.int .i64 y161.length), (Value.int .i64 y161.axles), (Value.int .i64 y161.mass), (Value.int .i64 (IntKind.wrap .i64 (Int.tdiv (IntKind.wrap .i64 (y161.mass * y179.1)) 4))), (Value.int .i64 y161.goods), (Value.bool y161.gentle), (str y161.dest)] rfl st ?_)
  intro m197 st O171 sm198
  replace O170n := O170n.same sm198 A174
  refine SeqW.done fun fr199 hf200 => ?_
  have h0 : fr199 0 = (Value.pointer (some ⟨b0, 0, none⟩)) := (congrFun hf200 0).trans h0
  have h4 : fr199 4 = (Value.pointer (some ⟨B1, 0, none⟩)) := (congrFun hf200 4).trans h4
  clear hf200
  refine thenQ.n ?_
  refine W.ret ?_
  obtain rfl := Option.some.inj hr
  exact ⟨z180, hz, st, .inr rfl, B1, V185, h4, O171, O171.fresh, Q186, O170n, trivial⟩

theorem c_Maker_Wagon {N : Nat} {z : Nat → Blk} {m : Mem} {x0 : Maker} {x1 : Int} {v0_0 : Value} {b0 : Nat} (fz : Fz z m) (hd : ∀ b, m.next ≤ b → m.blk b = .dead) (s0_0 : SlR (TInt 3 .i64) z x0.l v0_0) (bx0 : Bx z m m (some b0) b0 [v0_0, (Value.int .i64 x0.n)] 54) {r : Wagon × Maker} (hr : Maker_Wagon N x0 x1 = some r) : CallW Try.prog 27 #[(Value.pointer (some ⟨b0, 0, none⟩)), (Value.int .i64 x1)] m fun v m' => ∃ z' wr_0, Zx m.next z z' ∧ Fz z' m' ∧ Same m m' (some b0) ∧ v = (Value.agg [(str r.1.number), (Value.int .i64 r.1.length), (Value.int .i64 r.1.axles), (Value.int .i64 r.1.mass), (Value.int .i64 r.1.brake), (Value.int .i64 r.1.goods), (Value.bool r.1.gentle), (str r.1.dest)].toArray) ∧ SlR (TInt 3 .i64) z' r.2.l wr_0 ∧ Bx z' m m' (some b0) b0 [wr_0, (Value.int .i64 r.2.n)] 54 ∧ True := by
  refine CallW.any Try.func27 rfl (by kernel_rfl) (Nat.le_of_ble_eq_true rfl) (fun fr hf => ?_)
  have h0 : fr 0 = _ := hf 0 _ rfl
  have h1 : fr 1 = _ := hf 1 _ rfl
  refine (u_Maker_Wagon (k := (some b0)) (Zx.refl _) (St.start fz hd) h0 s0_0 bx0 h1 hr).mono ?_
  rintro ex fr' m' ⟨z', hz, st, he, c4, wr_0, h4, bx4, fx4, sr_0, bxr, -⟩
  exact ⟨he, [(Value.agg [(str r.1.number), (Value.int .i64 r.1.length), (Value.int .i64 r.1.axles), (Value.int .i64 r.1.mass), (Value.int .i64 r.1.brake), (Value.int .i64 r.1.goods), (Value.bool r.1.gentle), (str r.1.dest)].toArray)], ⟨resCell h4 bx4 Try.underlying48 rfl Try.type48 rfl, trivial⟩, .inl rfl, z', wr_0, hz, st.fz, st.toSame, rfl, sr_0, bxr, trivial⟩

/-! ### humpyard/humpyardlaw35.sane -/

theorem u_l35_sane_0 {N : Nat}  {z0 z : Nat → Blk} {e m : Mem} {k : Option Nat} {fr : Nat → Value} {x4 : Brakes} {x5 : Int} {x6 : Brakes} {x7 : Int} {x9 : Int} {b4 : Nat} {b6 : Nat} (hz : Zx e.next z0 z) (st : St z e m k) (h4 : fr 4 = (Value.pointer (some ⟨b4, 0, none⟩))) (bx4 : Bx z e m k b4 [(Value.int .i64 x4.length), (Value.int .i64 x4.axles), (Value.int .i64 x4.mass), (Value.int .i64 x4.braked), (Value.int .i64 x4.percent), (Value.int .i64 x4.required), (Value.int .i64 x4.missing)] 33) (h5 : fr 5 = (Value.int .i64 x5)) (h6 : fr 6 = (Value.pointer (some ⟨b6, 0, none⟩))) (bx6 : Bx z e m k b6 [(Value.int .i64 x6.length), (Value.int .i64 x6.axles), (Value.int .i64 x6.mass), (Value.int .i64 x6.braked), (Value.int .i64 x6.percent), (Value.int .i64 x6.required), (Value.int .i64 x6.missing)] 33) (h7 : fr 7 = (Value.int .i64 x7)) (h9 : fr 9 = (Value.int .i64 x9)) (ao4_o6 : Ap (some b4) (some b6)) {r : Bool} (hr : l35_sane_0 N x4 x5 x6 x7 x9 = some r) : W Try.prog (sub (bodyOf Try.f16) [1, 1, 1, 1, 1, 1, 1, 1, 0]) (fun ex fr' m' => ∃ z', Zx e.next z0 z' ∧ St z' e m' k ∧ ex = AExit.normal ∧ fr' 0 = (Value.bool r) ∧ True) fr m := by
  unfold l35_sane_0 at hr
  refine W.region ?_
  obtain ⟨y124, hy124, hr⟩ := bind_some hr
  refine SeqW.consX rfl (StepX.call (gCallee rfl rfl (args1 rfl)) ((c_brake_Factor (z := z) st.fz st.dead  hy124).mono ?_))
  rintro _ _ ⟨rfl, rfl⟩
  refine SeqW.consX rfl (StepX.pure (pEql (k := .i64) (a := y124) (b := 100) rfl rfl rfl) ?_)
  refine SeqW.consX rfl (StepX.pure (pMove (v := (Value.bool (y124 == 100))) rfl rfl) ?_)
  rcases if_some hr with ⟨hc125, hr⟩ | ⟨hc167, hr⟩
  · obtain ⟨y126, hy126, hr⟩ := bind_some hr
    refine SeqW.consG rfl rfl rfl hc125 (StepX.call (gCallee rfl rfl (args1 rfl)) ((c_brake_Factor (z := z) st.fz st.dead  hy126).mono ?_))
    rintro _ _ ⟨rfl, rfl⟩
    refine SeqW.consG rfl rfl rfl hc125 (StepX.pure (pEql (k := .i64) (a := y126) (b := 99) rfl rfl rfl) ?_)
    refine SeqW.consX rfl (StepX.pure (pPick (t := true) (v := (Value.bool (y126 == 99))) rfl ((congrArg Value.bool hc125)) rfl) ?_)
    refine SeqW.consX rfl (StepX.pure (pMove (v := (Value.bool (y126 == 99))) rfl rfl) ?_)
    rcases if_some hr with ⟨hc127, hr⟩ | ⟨hc164, hr⟩
    · obtain ⟨y128, hy128, hr⟩ := bind_some hr
      refine SeqW.consG rfl rfl rfl hc127 (StepX.call (gCallee rfl rfl (args1 rfl)) ((c_brake_Factor (z := z) st.fz st.dead  hy128).mono ?_))
      rintro _ _ ⟨rfl, rfl⟩
      refine SeqW.consG rfl rfl rfl hc127 (StepX.pure (pEql (k := .i64) (a := y128) (b := 80) rfl rfl rfl) ?_)
      refine SeqW.consX rfl (StepX.pure (pPick (t := true) (v := (Value.bool (y128 == 80))) rfl ((congrArg Value.bool hc127)) rfl) ?_)
      refine SeqW.consX rfl (StepX.pure (pMove (v := (Value.bool (y128 == 80))) rfl rfl) ?_)
      rcases if_some hr with ⟨hc129, hr⟩ | ⟨hc161, hr⟩
      · refine SeqW.consG rfl rfl rfl hc129 (StepX.pure (pMove (v := (Value.int .i64 x5)) rfl h5) ?_)
        refine SeqW.consG rfl rfl rfl hc129 (StepX.pure (pEql (k := .i64) (a := x5) (b := 0) rfl rfl rfl) ?_)
        refine SeqW.consX rfl (StepX.pure (pPick (t := true) (v := (Value.bool (x5 == 0))) rfl ((congrArg Value.bool hc129)) rfl) ?_)
        refine SeqW.consX rfl (StepX.pure (pMove (v := (Value.bool (x5 == 0))) rfl rfl) ?_)
        rcases if_some hr with ⟨hc130, hr⟩ | ⟨hc158, hr⟩
        · refine SeqW.consG rfl rfl rfl hc130 (kField rfl Try.underlying33 rfl Try.type3 rfl h4 rfl ?_)
          refine SeqW.consG rfl rfl rfl hc130 (kLoad rfl Try.underlying3 rfl rfl (bx4.load (v := (Value.int .i64 x4.percent)) rfl) ?_)
          refine SeqW.consG rfl rfl rfl hc130 (StepX.pure (pEql (k := .i64) (a := x4.percent) (b := 56) rfl rfl rfl) ?_)
          refine SeqW.consX rfl (StepX.pure (pPick (t := true) (v := (Value.bool (x4.percent == 56))) rfl ((congrArg Value.bool hc130)) rfl) ?_)
          refine SeqW.consX rfl (StepX.pure (pMove (v := (Value.bool (x4.percent == 56))) rfl rfl) ?_)
          rcases if_some hr with ⟨hc131, hr⟩ | ⟨hc155, hr⟩
          · refine SeqW.consG rfl rfl rfl hc131 (kField rfl Try.underlying33 rfl Try.type3 rfl h4 rfl ?_)
            refine SeqW.consG rfl rfl rfl hc131 (kLoad rfl Try.underlying3 rfl rfl (bx4.load (v := (Value.int .i64 x4.required)) rfl) ?_)
            refine SeqW.consG rfl rfl rfl hc131 (StepX.pure (pEql (k := .i64) (a := x4.required) (b := 65) rfl rfl rfl) ?_)
            refine SeqW.consX rfl (StepX.pure (pPick (t := true) (v := (Value.bool (x4.required == 65))) rfl ((congrArg Value.bool hc131)) rfl) ?_)
            refine SeqW.consX rfl (StepX.pure (pMove (v := (Value.bool (x4.required == 65))) rfl rfl) ?_)
            rcases if_some hr with ⟨hc132, hr⟩ | ⟨hc152, hr⟩
            · refine SeqW.consG rfl rfl rfl hc132 (kField rfl Try.underlying33 rfl Try.type3 rfl h4 rfl ?_)
              refine SeqW.consG rfl rfl rfl hc132 (kLoad rfl Try.underlying3 rfl rfl (bx4.load (v := (Value.int .i64 x4.missing)) rfl) ?_)
              refine SeqW.consG rfl rfl rfl hc132 (StepX.pure (pEql (k := .i64) (a := x4.missing) (b := 70) rfl rfl rfl) ?_)
              refine SeqW.consX rfl (StepX.pure (pPick (t := true) (v := (Value.bool (x4.missing == 70))) rfl ((congrArg Value.bool hc132)) rfl) ?_)
              refine SeqW.consX rfl (StepX.pure (pMove (v := (Value.bool (x4.missing == 70))) rfl rfl) ?_)
              rcases if_some hr with ⟨hc133, hr⟩ | ⟨hc149, hr⟩
              · refine SeqW.consG rfl rfl rfl hc133 (StepX.pure (pMove (v := (Value.int .i64 x7)) rfl h7) ?_)
                refine SeqW.consG rfl rfl rfl hc133 (StepX.pure (pEql (k := .i64) (a := x7) (b := 0) rfl rfl rfl) ?_)
                refine SeqW.consX rfl (StepX.pure (pPick (t := true) (v := (Value.bool (x7 == 0))) rfl ((congrArg Value.bool hc133)) rfl) ?_)
                refine SeqW.consX rfl (StepX.pure (pMove (v := (Value.bool (x7 == 0))) rfl rfl) ?_)
                rcases if_some hr with ⟨hc134, hr⟩ | ⟨hc146, hr⟩
                · refine SeqW.consG rfl rfl rfl hc134 (kField rfl Try.underlying33 rfl Try.type3 rfl h6 rfl ?_)
                  refine SeqW.consG rfl rfl rfl hc134 (kLoad rfl Try.underlying3 rfl rfl (bx6.load (v := (Value.int .i64 x6.percent)) rfl) ?_)
                  refine SeqW.consG rfl rfl rfl hc134 (StepX.pure (pEql (k := .i64) (a := x6.percent) (b := 0) rfl rfl rfl) ?_)
                  refine SeqW.consX rfl (StepX.pure (pPick (t := true) (v := (Value.bool (x6.percent == 0))) rfl ((congrArg Value.bool hc134)) rfl) ?_)
                  refine SeqW.consX rfl (StepX.pure (pMove (v := (Value.bool (x6.percent == 0))) rfl rfl) ?_)
                  rcases if_some hr with ⟨hc135, hr⟩ | ⟨hc143, hr⟩
                  · refine SeqW.consG rfl rfl rfl hc135 (kField rfl Try.underlying33 rfl Try.type3 rfl h6 rfl ?_)
                    refine SeqW.consG rfl rfl rfl hc135 (kLoad rfl Try.underlying3 rfl rfl (bx6.load (v := (Value.int .i64 x6.missing)) rfl) ?_)
                    refine SeqW.consG rfl rfl rfl hc135 (StepX.pure (pEql (k := .i64) (a := x6.missing) (b := 520) rfl rfl rfl) ?_)
                    refine SeqW.consX rfl (StepX.pure (pPick (t := true) (v := (Value.bool (x6.missing == 520))) rfl ((congrArg Value.bool hc135)) rfl) ?_)
                    refine SeqW.consX rfl (StepX.pure (pMove (v := (Value.bool (x6.missing == 520))) rfl rfl) ?_)
                    rcases if_some hr with ⟨hc136, hr⟩ | ⟨hc140, hr⟩
                    · refine SeqW.consG rfl rfl rfl hc136 (StepX.pure (pMove (v := (Value.int .i64 x9)) rfl h9) ?_)
                      refine SeqW.consG rfl rfl rfl hc136 (StepX.pure (pEql (k := .i64) (a := x9) (b := 2) rfl rfl rfl) ?_)
                      refine SeqW.consX rfl (StepX.pure (pPick (t := true) (v := (Value.bool (x9 == 2))) rfl ((congrArg Value.bool hc136)) rfl) ?_)
                      obtain ⟨y137, hy137, hr⟩ := lt_some hr
                      refine SeqW.consX rfl (StepX.pure (pAssign rfl (congrArg Value.bool hy137)) ?_)
                      refine SeqW.done fun fr138 hf139 => ?_
                      have h0 : fr138 0 = (Value.bool y137) := (congrFun hf139 0).trans rfl
                      clear hf139
                      obtain rfl := Option.some.inj hr
                      exact ⟨z, hz, st, rfl, h0, trivial⟩
                    · refine SeqW.skipG rfl rfl rfl hc140 ?_
                      refine SeqW.skipG rfl rfl rfl hc140 ?_
                      refine SeqW.consX rfl (StepX.pure (pPick (t := false) (v := (Value.bool false)) rfl ((congrArg Value.bool hc140)) rfl) ?_)
                      refine SeqW.consX rfl (StepX.pure (pAssign (v := (Value.bool false)) rfl rfl) ?_)
                      refine SeqW.done fun fr141 hf142 => ?_
                      have h0 : fr141 0 = (Value.bool false) := (congrFun hf142 0).trans rfl
                      clear hf142
                      obtain rfl := Option.some.inj hr
                      exact ⟨z, hz, st, rfl, h0, trivial⟩
                  · refine SeqW.skipG rfl rfl rfl hc143 ?_
                    refine SeqW.skipG rfl rfl rfl hc143 ?_
                    refine SeqW.skipG rfl rfl rfl hc143 ?_
                    refine SeqW.consX rfl (StepX.pure (pPick (t := false) (v := (Value.bool false)) rfl ((congrArg Value.bool hc143)) rfl) ?_)
                    refine SeqW.consX rfl (StepX.pure (pMove (v := (Value.bool false)) rfl rfl) ?_)
                    refine SeqW.skipG rfl rfl rfl rfl ?_
                    refine SeqW.skipG rfl rfl rfl rfl ?_
                    refine SeqW.consX rfl (StepX.pure (pPick (t := false) (v := (Value.bool false)) rfl ((congrArg Value.bool (rfl : false = false))) rfl) ?_)
                    refine SeqW.consX rfl (StepX.pure (pAssign (v := (Value.bool false)) rfl rfl) ?_)
                    refine SeqW.done fun fr144 hf145 => ?_
                    have h0 : fr144 0 = (Value.bool false) := (congrFun hf145 0).trans rfl
                    clear hf145
                    obtain rfl := Option.some.inj hr
                    exact ⟨z, hz, st, rfl, h0, trivial⟩
                · refine SeqW.skipG rfl rfl rfl hc146 ?_
                  refine SeqW.skipG rfl rfl rfl hc146 ?_
                  refine SeqW.skipG rfl rfl rfl hc146 ?_
                  refine SeqW.consX rfl (StepX.pure (pPick (t := false) (v := (Value.bool false)) rfl ((congrArg Value.bool hc146)) rfl) ?_)
                  refine SeqW.consX rfl (StepX.pure (pMove (v := (Value.bool false)) rfl rfl) ?_)
                  refine SeqW.skipG rfl rfl rfl rfl ?_
                  refine SeqW.skipG rfl rfl rfl rfl ?_
                  refine SeqW.skipG rfl rfl rfl rfl ?_
                  refine SeqW.consX rfl (StepX.pure (pPick (t := false) (v := (Value.bool false)) rfl ((congrArg Value.bool (rfl : false = false))) rfl) ?_)
                  refine SeqW.consX rfl (StepX.pure (pMove (v := (Value.bool false)) rfl rfl) ?_)
                  refine SeqW.skipG rfl rfl rfl rfl ?_
                  refine SeqW.skipG rfl rfl rfl rfl ?_
                  refine SeqW.consX rfl (StepX.pure (pPick (t := false) (v := (Value.bool false)) rfl ((congrArg Value.bool (rfl : false = false))) rfl) ?_)
                  refine SeqW.consX rfl (StepX.pure (pAssign (v := (Value.bool false)) rfl rfl) ?_)
                  refine SeqW.done fun fr147 hf148 => ?_
                  have h0 : fr147 0 = (Value.bool false) := (congrFun hf148 0).trans rfl
                  clear hf148
                  obtain rfl := Option.some.inj hr
                  exact ⟨z, hz, st, rfl, h0, trivial⟩
              · refine SeqW.skipG rfl rfl rfl hc149 ?_
                refine SeqW.skipG rfl rfl rfl hc149 ?_
                refine SeqW.consX rfl (StepX.pure (pPick (t := false) (v := (Value.bool false)) rfl ((congrArg Value.bool hc149)) rfl) ?_)
                refine SeqW.consX rfl (StepX.pure (pMove (v := (Value.bool false)) rfl rfl) ?_)
                refine SeqW.skipG rfl rfl rfl rfl ?_
                refine SeqW.skipG rfl rfl rfl rfl ?_
                refine SeqW.skipG rfl rfl rfl rfl ?_
                refine SeqW.consX rfl (StepX.pure (pPick (t := false) (v := (Value.bool false)) rfl ((congrArg Value.bool (rfl : false = false))) rfl) ?_)
                refine SeqW.consX rfl (StepX.pure (pMove (v := (Value.bool false)) rfl rfl) ?_)
                refine SeqW.skipG rfl rfl rfl rfl ?_
                refine SeqW.skipG rfl rfl rfl rfl ?_
                refine SeqW.skipG rfl rfl rfl rfl ?_
                refine SeqW.consX rfl (StepX.pure (pPick (t := false) (v := (Value.bool false)) rfl ((congrArg Value.bool (rfl : false = false))) rfl) ?_)
                refine SeqW.consX rfl (StepX.pure (pMove (v := (Value.bool false)) rfl rfl) ?_)
                refine SeqW.skipG rfl rfl rfl rfl ?_
                refine SeqW.skipG rfl rfl rfl rfl ?_
                refine SeqW.consX rfl (StepX.pure (pPick (t := false) (v := (Value.bool false)) rfl ((congrArg Value.bool (rfl : false = false))) rfl) ?_)
                refine SeqW.consX rfl (StepX.pure (pAssign (v := (Value.bool false)) rfl rfl) ?_)
                refine SeqW.done fun fr150 hf151 => ?_
                have h0 : fr150 0 = (Value.bool false) := (congrFun hf151 0).trans rfl
                clear hf151
                obtain rfl := Option.some.inj hr
                exact ⟨z, hz, st, rfl, h0, trivial⟩
            · refine SeqW.skipG rfl rfl rfl hc152 ?_
              refine SeqW.skipG rfl rfl rfl hc152 ?_
              refine SeqW.skipG rfl rfl rfl hc152 ?_
              refine SeqW.consX rfl (StepX.pure (pPick (t := false) (v := (Value.bool false)) rfl ((congrArg Value.bool hc152)) rfl) ?_)
              refine SeqW.consX rfl (StepX.pure (pMove (v := (Value.bool false)) rfl rfl) ?_)
              refine SeqW.skipG rfl rfl rfl rfl ?_
              refine SeqW.skipG rfl rfl rfl rfl ?_
              refine SeqW.consX rfl (StepX.pure (pPick (t := false) (v := (Value.bool false)) rfl ((congrArg Value.bool (rfl : false = false))) rfl) ?_)
              refine SeqW.consX rfl (StepX.pure (pMove (v := (Value.bool false)) rfl rfl) ?_)
              refine SeqW.skipG rfl rfl rfl rfl ?_
              refine SeqW.skipG rfl rfl rfl rfl ?_
              refine SeqW.skipG rfl rfl rfl rfl ?_
              refine SeqW.consX rfl (StepX.pure (pPick (t := false) (v := (Value.bool false)) rfl ((congrArg Value.bool (rfl : false = false))) rfl) ?_)
              refine SeqW.consX rfl (StepX.pure (pMove (v := (Value.bool false)) rfl rfl) ?_)
              refine SeqW.skipG rfl rfl rfl rfl ?_
              refine SeqW.skipG rfl rfl rfl rfl ?_
              refine SeqW.skipG rfl rfl rfl rfl ?_
              refine SeqW.consX rfl (StepX.pure (pPick (t := false) (v := (Value.bool false)) rfl ((congrArg Value.bool (rfl : false = false))) rfl) ?_)
              refine SeqW.consX rfl (StepX.pure (pMove (v := (Value.bool false)) rfl rfl) ?_)
              refine SeqW.skipG rfl rfl rfl rfl ?_
              refine SeqW.skipG rfl rfl rfl rfl ?_
              refine SeqW.consX rfl (StepX.pure (pPick (t := false) (v := (Value.bool false)) rfl ((congrArg Value.bool (rfl : false = false))) rfl) ?_)
              refine SeqW.consX rfl (StepX.pure (pAssign (v := (Value.bool false)) rfl rfl) ?_)
              refine SeqW.done fun fr153 hf154 => ?_
              have h0 : fr153 0 = (Value.bool false) := (congrFun hf154 0).trans rfl
              clear hf154
              obtain rfl := Option.some.inj hr
              exact ⟨z, hz, st, rfl, h0, trivial⟩
          · refine SeqW.skipG rfl rfl rfl hc155 ?_
            refine SeqW.skipG rfl rfl rfl hc155 ?_
            refine SeqW.skipG rfl rfl rfl hc155 ?_
            refine SeqW.consX rfl (StepX.pure (pPick (t := false) (v := (Value.bool false)) rfl ((congrArg Value.bool hc155)) rfl) ?_)
            refine SeqW.consX rfl (StepX.pure (pMove (v := (Value.bool false)) rfl rfl) ?_)
            refine SeqW.skipG rfl rfl rfl rfl ?_
            refine SeqW.skipG rfl rfl rfl rfl ?_
            refine SeqW.skipG rfl rfl rfl rfl ?_
            refine SeqW.consX rfl (StepX.pure (pPick (t := false) (v := (Value.bool false)) rfl ((congrArg Value.bool (rfl : false = false))) rfl) ?_)
            refine SeqW.consX rfl (StepX.pure (pMove (v := (Value.bool false)) rfl rfl) ?_)
            refine SeqW.skipG rfl rfl rfl rfl ?_
            refine SeqW.skipG rfl rfl rfl rfl ?_
            refine SeqW.consX rfl (StepX.pure (pPick (t := false) (v := (Value.bool false)) rfl ((congrArg Value.bool (rfl : false = false))) rfl) ?_)
            refine SeqW.consX rfl (StepX.pure (pMove (v := (Value.bool false)) rfl rfl) ?_)
            refine SeqW.skipG rfl rfl rfl rfl ?_
            refine SeqW.skipG rfl rfl rfl rfl ?_
            refine SeqW.skipG rfl rfl rfl rfl ?_
            refine SeqW.consX rfl (StepX.pure (pPick (t := false) (v := (Value.bool false)) rfl ((congrArg Value.bool (rfl : false = false))) rfl) ?_)
            refine SeqW.consX rfl (StepX.pure (pMove (v := (Value.bool false)) rfl rfl) ?_)
            refine SeqW.skipG rfl rfl rfl rfl ?_
            refine SeqW.skipG rfl rfl rfl rfl ?_
            refine SeqW.skipG rfl rfl rfl rfl ?_
            refine SeqW.consX rfl (StepX.pure (pPick (t := false) (v := (Value.bool false)) rfl ((congrArg Value.bool (rfl : false = false))) rfl) ?_)
            refine SeqW.consX rfl (StepX.pure (pMove (v := (Value.bool false)) rfl rfl) ?_)
            refine SeqW.skipG rfl rfl rfl rfl ?_
            refine SeqW.skipG rfl rfl rfl rfl ?_
            refine SeqW.consX rfl (StepX.pure (pPick (t := false) (v := (Value.bool false)) rfl ((congrArg Value.bool (rfl : false = false))) rfl) ?_)
            refine SeqW.consX rfl (StepX.pure (pAssign (v := (Value.bool false)) rfl rfl) ?_)
            refine SeqW.done fun fr156 hf157 => ?_
            have h0 : fr156 0 = (Value.bool false) := (congrFun hf157 0).trans rfl
            clear hf157
            obtain rfl := Option.some.inj hr
            exact ⟨z, hz, st, rfl, h0, trivial⟩
        · refine SeqW.skipG rfl rfl rfl hc158 ?_
          refine SeqW.skipG rfl rfl rfl hc158 ?_
          refine SeqW.skipG rfl rfl rfl hc158 ?_
          refine SeqW.consX rfl (StepX.pure (pPick (t := false) (v := (Value.bool false)) rfl ((congrArg Value.bool hc158)) rfl) ?_)
          refine SeqW.consX rfl (StepX.pure (pMove (v := (Value.bool false)) rfl rfl) ?_)
          refine SeqW.skipG rfl rfl rfl rfl ?_
          refine SeqW.skipG rfl rfl rfl rfl ?_
          refine SeqW.skipG rfl rfl rfl rfl ?_
          refine SeqW.consX rfl (StepX.pure (pPick (t := false) (v := (Value.bool false)) rfl ((congrArg Value.bool (rfl : false = false))) rfl) ?_)
          refine SeqW.consX rfl (StepX.pure (pMove (v := (Value.bool false)) rfl rfl) ?_)
          refine SeqW.skipG rfl rfl rfl rfl ?_
          refine SeqW.skipG rfl rfl rfl rfl ?_
          refine SeqW.skipG rfl rfl rfl rfl ?_
          refine SeqW.consX rfl (StepX.pure (pPick (t := false) (v := (Value.bool false)) rfl ((congrArg Value.bool (rfl : false = false))) rfl) ?_)
          refine SeqW.consX rfl (StepX.pure (pMove (v := (Value.bool false)) rfl rfl) ?_)
          refine SeqW.skipG rfl rfl rfl rfl ?_
          refine SeqW.skipG rfl rfl rfl rfl ?_
          refine SeqW.consX rfl (StepX.pure (pPick (t := false) (v := (Value.bool false)) rfl ((congrArg Value.bool (rfl : false = false))) rfl) ?_)
          refine SeqW.consX rfl (StepX.pure (pMove (v := (Value.bool false)) rfl rfl) ?_)
          refine SeqW.skipG rfl rfl rfl rfl ?_
          refine SeqW.skipG rfl rfl rfl rfl ?_
          refine SeqW.skipG rfl rfl rfl rfl ?_
          refine SeqW.consX rfl (StepX.pure (pPick (t := false) (v := (Value.bool false)) rfl ((congrArg Value.bool (rfl : false = false))) rfl) ?_)
          refine SeqW.consX rfl (StepX.pure (pMove (v := (Value.bool false)) rfl rfl) ?_)
          refine SeqW.skipG rfl rfl rfl rfl ?_
          refine SeqW.skipG rfl rfl rfl rfl ?_
          refine SeqW.skipG rfl rfl rfl rfl ?_
          refine SeqW.consX rfl (StepX.pure (pPick (t := false) (v := (Value.bool false)) rfl ((congrArg Value.bool (rfl : false = false))) rfl) ?_)
          refine SeqW.consX rfl (StepX.pure (pMove (v := (Value.bool false)) rfl rfl) ?_)
          refine SeqW.skipG rfl rfl rfl rfl ?_
          refine SeqW.skipG rfl rfl rfl rfl ?_
          refine SeqW.consX rfl (StepX.pure (pPick (t := false) (v := (Value.bool false)) rfl ((congrArg Value.bool (rfl : false = false))) rfl) ?_)
          refine SeqW.consX rfl (StepX.pure (pAssign (v := (Value.bool false)) rfl rfl) ?_)
          refine SeqW.done fun fr159 hf160 => ?_
          have h0 : fr159 0 = (Value.bool false) := (congrFun hf160 0).trans rfl
          clear hf160
          obtain rfl := Option.some.inj hr
          exact ⟨z, hz, st, rfl, h0, trivial⟩
      · refine SeqW.skipG rfl rfl rfl hc161 ?_
        refine SeqW.skipG rfl rfl rfl hc161 ?_
        refine SeqW.consX rfl (StepX.pure (pPick (t := false) (v := (Value.bool false)) rfl ((congrArg Value.bool hc161)) rfl) ?_)
        refine SeqW.consX rfl (StepX.pure (pMove (v := (Value.bool false)) rfl rfl) ?_)
        refine SeqW.skipG rfl rfl rfl rfl ?_
        refine SeqW.skipG rfl rfl rfl rfl ?_
        refine SeqW.skipG rfl rfl rfl rfl ?_
        refine SeqW.consX rfl (StepX.pure (pPick (t := false) (v := (Value.bool false)) rfl ((congrArg Value.bool (rfl : false = false))) rfl) ?_)
        refine SeqW.consX rfl (StepX.pure (pMove (v := (Value.bool false)) rfl rfl) ?_)
        refine SeqW.skipG rfl rfl rfl rfl ?_
        refine SeqW.skipG rfl rfl rfl rfl ?_
        refine SeqW.skipG rfl rfl rfl rfl ?_
        refine SeqW.consX rfl (StepX.pure (pPick (t := false) (v := (Value.bool false)) rfl ((congrArg Value.bool (rfl : false = false))) rfl) ?_)
        refine SeqW.consX rfl (StepX.pure (pMove (v := (Value.bool false)) rfl rfl) ?_)
        refine SeqW.skipG rfl rfl rfl rfl ?_
        refine SeqW.skipG rfl rfl rfl rfl ?_
        refine SeqW.skipG rfl rfl rfl rfl ?_
        refine SeqW.consX rfl (StepX.pure (pPick (t := false) (v := (Value.bool false)) rfl ((congrArg Value.bool (rfl : false = false))) rfl) ?_)
        refine SeqW.consX rfl (StepX.pure (pMove (v := (Value.bool false)) rfl rfl) ?_)
        refine SeqW.skipG rfl rfl rfl rfl ?_
        refine SeqW.skipG rfl rfl rfl rfl ?_
        refine SeqW.consX rfl (StepX.pure (pPick (t := false) (v := (Value.bool false)) rfl ((congrArg Value.bool (rfl : false = false))) rfl) ?_)
        refine SeqW.consX rfl (StepX.pure (pMove (v := (Value.bool false)) rfl rfl) ?_)
        refine SeqW.skipG rfl rfl rfl rfl ?_
        refine SeqW.skipG rfl rfl rfl rfl ?_
        refine SeqW.skipG rfl rfl rfl rfl ?_
        refine SeqW.consX rfl (StepX.pure (pPick (t := false) (v := (Value.bool false)) rfl ((congrArg Value.bool (rfl : false = false))) rfl) ?_)
        refine SeqW.consX rfl (StepX.pure (pMove (v := (Value.bool false)) rfl rfl) ?_)
        refine SeqW.skipG rfl rfl rfl rfl ?_
        refine SeqW.skipG rfl rfl rfl rfl ?_
        refine SeqW.skipG rfl rfl rfl rfl ?_
        refine SeqW.consX rfl (StepX.pure (pPick (t := false) (v := (Value.bool false)) rfl ((congrArg Value.bool (rfl : false = false))) rfl) ?_)
        refine SeqW.consX rfl (StepX.pure (pMove (v := (Value.bool false)) rfl rfl) ?_)
        refine SeqW.skipG rfl rfl rfl rfl ?_
        refine SeqW.skipG rfl rfl rfl rfl ?_
        refine SeqW.consX rfl (StepX.pure (pPick (t := false) (v := (Value.bool false)) rfl ((congrArg Value.bool (rfl : false = false))) rfl) ?_)
        refine SeqW.consX rfl (StepX.pure (pAssign (v := (Value.bool false)) rfl rfl) ?_)
        refine SeqW.done fun fr162 hf163 => ?_
        have h0 : fr162 0 = (Value.bool false) := (congrFun hf163 0).trans rfl
        clear hf163
        obtain rfl := Option.some.inj hr
        exact ⟨z, hz, st, rfl, h0, trivial⟩
    · refine SeqW.skipG rfl rfl rfl hc164 ?_
      refine SeqW.skipG rfl rfl rfl hc164 ?_
      refine SeqW.consX rfl (StepX.pure (pPick (t := false) (v := (Value.bool false)) rfl ((congrArg Value.bool hc164)) rfl) ?_)
      refine SeqW.consX rfl (StepX.pure (pMove (v := (Value.bool false)) rfl rfl) ?_)
      refine SeqW.skipG rfl rfl rfl rfl ?_
      refine SeqW.skipG rfl rfl rfl rfl ?_
      refine SeqW.consX rfl (StepX.pure (pPick (t := false) (v := (Value.bool false)) rfl ((congrArg Value.bool (rfl : false = false))) rfl) ?_)
      refine SeqW.consX rfl (StepX.pure (pMove (v := (Value.bool false)) rfl rfl) ?_)
      refine SeqW.skipG rfl rfl rfl rfl ?_
      refine SeqW.skipG rfl rfl rfl rfl ?_
      refine SeqW.skipG rfl rfl rfl rfl ?_
      refine SeqW.consX rfl (StepX.pure (pPick (t := false) (v := (Value.bool false)) rfl ((congrArg Value.bool (rfl : false = false))) rfl) ?_)
      refine SeqW.consX rfl (StepX.pure (pMove (v := (Value.bool false)) rfl rfl) ?_)
      refine SeqW.skipG rfl rfl rfl rfl ?_
      refine SeqW.skipG rfl rfl rfl rfl ?_
      refine SeqW.skipG rfl rfl rfl rfl ?_
      refine SeqW.consX rfl (StepX.pure (pPick (t := false) (v := (Value.bool false)) rfl ((congrArg Value.bool (rfl : false = false))) rfl) ?_)
      refine SeqW.consX rfl (StepX.pure (pMove (v := (Value.bool false)) rfl rfl) ?_)
      refine SeqW.skipG rfl rfl rfl rfl ?_
      refine SeqW.skipG rfl rfl rfl rfl ?_
      refine SeqW.skipG rfl rfl rfl rfl ?_
      refine SeqW.consX rfl (StepX.pure (pPick (t := false) (v := (Value.bool false)) rfl ((congrArg Value.bool (rfl : false = false))) rfl) ?_)
      refine SeqW.consX rfl (StepX.pure (pMove (v := (Value.bool false)) rfl rfl) ?_)
      refine SeqW.skipG rfl rfl rfl rfl ?_
      refine SeqW.skipG rfl rfl rfl rfl ?_
      refine SeqW.consX rfl (StepX.pure (pPick (t := false) (v := (Value.bool false)) rfl ((congrArg Value.bool (rfl : false = false))) rfl) ?_)
      refine SeqW.consX rfl (StepX.pure (pMove (v := (Value.bool false)) rfl rfl) ?_)
      refine SeqW.skipG rfl rfl rfl rfl ?_
      refine SeqW.skipG rfl rfl rfl rfl ?_
      refine SeqW.skipG rfl rfl rfl rfl ?_
      refine SeqW.consX rfl (StepX.pure (pPick (t := false) (v := (Value.bool false)) rfl ((congrArg Value.bool (rfl : false = false))) rfl) ?_)
      refine SeqW.consX rfl (StepX.pure (pMove (v := (Value.bool false)) rfl rfl) ?_)
      refine SeqW.skipG rfl rfl rfl rfl ?_
      refine SeqW.skipG rfl rfl rfl rfl ?_
      refine SeqW.skipG rfl rfl rfl rfl ?_
      refine SeqW.consX rfl (StepX.pure (pPick (t := false) (v := (Value.bool false)) rfl ((congrArg Value.bool (rfl : false = false))) rfl) ?_)
      refine SeqW.consX rfl (StepX.pure (pMove (v := (Value.bool false)) rfl rfl) ?_)
      refine SeqW.skipG rfl rfl rfl rfl ?_
      refine SeqW.skipG rfl rfl rfl rfl ?_
      refine SeqW.consX rfl (StepX.pure (pPick (t := false) (v := (Value.bool false)) rfl ((congrArg Value.bool (rfl : false = false))) rfl) ?_)
      refine SeqW.consX rfl (StepX.pure (pAssign (v := (Value.bool false)) rfl rfl) ?_)
      refine SeqW.done fun fr165 hf166 => ?_
      have h0 : fr165 0 = (Value.bool false) := (congrFun hf166 0).trans rfl
      clear hf166
      obtain rfl := Option.some.inj hr
      exact ⟨z, hz, st, rfl, h0, trivial⟩
  · refine SeqW.skipG rfl rfl rfl hc167 ?_
    refine SeqW.skipG rfl rfl rfl hc167 ?_
    refine SeqW.consX rfl (StepX.pure (pPick (t := false) (v := (Value.bool false)) rfl ((congrArg Value.bool hc167)) rfl) ?_)
    refine SeqW.consX rfl (StepX.pure (pMove (v := (Value.bool false)) rfl rfl) ?_)
    refine SeqW.skipG rfl rfl rfl rfl ?_
    refine SeqW.skipG rfl rfl rfl rfl ?_
    refine SeqW.consX rfl (StepX.pure (pPick (t := false) (v := (Value.bool false)) rfl ((congrArg Value.bool (rfl : false = false))) rfl) ?_)
    refine SeqW.consX rfl (StepX.pure (pMove (v := (Value.bool false)) rfl rfl) ?_)
    refine SeqW.skipG rfl rfl rfl rfl ?_
    refine SeqW.skipG rfl rfl rfl rfl ?_
    refine SeqW.consX rfl (StepX.pure (pPick (t := false) (v := (Value.bool false)) rfl ((congrArg Value.bool (rfl : false = false))) rfl) ?_)
    refine SeqW.consX rfl (StepX.pure (pMove (v := (Value.bool false)) rfl rfl) ?_)
    refine SeqW.skipG rfl rfl rfl rfl ?_
    refine SeqW.skipG rfl rfl rfl rfl ?_
    refine SeqW.skipG rfl rfl rfl rfl ?_
    refine SeqW.consX rfl (StepX.pure (pPick (t := false) (v := (Value.bool false)) rfl ((congrArg Value.bool (rfl : false = false))) rfl) ?_)
    refine SeqW.consX rfl (StepX.pure (pMove (v := (Value.bool false)) rfl rfl) ?_)
    refine SeqW.skipG rfl rfl rfl rfl ?_
    refine SeqW.skipG rfl rfl rfl rfl ?_
    refine SeqW.skipG rfl rfl rfl rfl ?_
    refine SeqW.consX rfl (StepX.pure (pPick (t := false) (v := (Value.bool false)) rfl ((congrArg Value.bool (rfl : false = false))) rfl) ?_)
    refine SeqW.consX rfl (StepX.pure (pMove (v := (Value.bool false)) rfl rfl) ?_)
    refine SeqW.skipG rfl rfl rfl rfl ?_
    refine SeqW.skipG rfl rfl rfl rfl ?_
    refine SeqW.skipG rfl rfl rfl rfl ?_
    refine SeqW.consX rfl (StepX.pure (pPick (t := false) (v := (Value.bool false)) rfl ((congrArg Value.bool (rfl : false = false))) rfl) ?_)
    refine SeqW.consX rfl (StepX.pure (pMove (v := (Value.bool false)) rfl rfl) ?_)
    refine SeqW.skipG rfl rfl rfl rfl ?_
    refine SeqW.skipG rfl rfl rfl rfl ?_
    refine SeqW.consX rfl (StepX.pure (pPick (t := false) (v := (Value.bool false)) rfl ((congrArg Value.bool (rfl : false = false))) rfl) ?_)
    refine SeqW.consX rfl (StepX.pure (pMove (v := (Value.bool false)) rfl rfl) ?_)
    refine SeqW.skipG rfl rfl rfl rfl ?_
    refine SeqW.skipG rfl rfl rfl rfl ?_
    refine SeqW.skipG rfl rfl rfl rfl ?_
    refine SeqW.consX rfl (StepX.pure (pPick (t := false) (v := (Value.bool false)) rfl ((congrArg Value.bool (rfl : false = false))) rfl) ?_)
    refine SeqW.consX rfl (StepX.pure (pMove (v := (Value.bool false)) rfl rfl) ?_)
    refine SeqW.skipG rfl rfl rfl rfl ?_
    refine SeqW.skipG rfl rfl rfl rfl ?_
    refine SeqW.skipG rfl rfl rfl rfl ?_
    refine SeqW.consX rfl (StepX.pure (pPick (t := false) (v := (Value.bool false)) rfl ((congrArg Value.bool (rfl : false = false))) rfl) ?_)
    refine SeqW.consX rfl (StepX.pure (pMove (v := (Value.bool false)) rfl rfl) ?_)
    refine SeqW.skipG rfl rfl rfl rfl ?_
    refine SeqW.skipG rfl rfl rfl rfl ?_
    refine SeqW.consX rfl (StepX.pure (pPick (t := false) (v := (Value.bool false)) rfl ((congrArg Value.bool (rfl : false = false))) rfl) ?_)
    refine SeqW.consX rfl (StepX.pure (pAssign (v := (Value.bool false)) rfl rfl) ?_)
    refine SeqW.done fun fr168 hf169 => ?_
    have h0 : fr168 0 = (Value.bool false) := (congrFun hf169 0).trans rfl
    clear hf169
    obtain rfl := Option.some.inj hr
    exact ⟨z, hz, st, rfl, h0, trivial⟩

theorem u_l35_sane {N : Nat}  {z0 z : Nat → Blk} {e m : Mem} {k : Option Nat} {fr : Nat → Value} (hz : Zx e.next z0 z) (st : St z e m k)  {r : Bool} (hr : l35_sane N  = some r) : W Try.prog (sub (bodyOf Try.f16) []) (fun ex fr' m' => ∃ z', Zx e.next z0 z' ∧ St z' e m' k ∧ (ex = .normal ∨ ex = .ret) ∧ fr' 0 = (Value.bool r) ∧ True) fr m := by
  unfold l35_sane at hr
  refine W.seq ?_
  refine W.region ?_
  refine SeqW.consX rfl (StepX.pure (pAssign (v := (Value.bool false)) rfl rfl) ?_)
  refine SeqW.done fun fr1 hf2 => ?_
  clear hf2
  refine thenQ.n ?_
  refine W.seq ?_
  refine W.region ?_
  refine SeqW.consX rfl (kBuild (T := (TInt 3 .i64)) rfl Try.underlying22 Try.type3 rfl rfl rfl rfl ([3] : List Int) [[(Value.int .i64 3)]] rfl rfl rfl (BuildOk.mk (w := (Value.int .i64 3)) rfl rfl rfl rfl trivial) st ?_)
  intro V3 m4 st O5 sm6 hap7
  obtain ⟨z9, hz10, st, Q11, hl12⟩ := O5.freeze st
  replace hz := hz.trans hz10
  obtain ⟨y13, hy13, hr⟩ := bind_some hr
  refine SeqW.consX rfl (StepX.call (gCallee rfl rfl (args1 rfl)) ((c_gen_New (z := z9) st.fz st.dead Q11 hy13).mono ?_))
  rintro _ m18 ⟨z14, B19, V22, hzx15, fz16, sm17, rfl, Q23, X20, hn25, -⟩
  replace Q11 := Q11.mono hzx15.le
  have X20 : Bx z14 e m18 k B19 _ _ := ⟨X20.blk, X20.lt, X20.dead, .inl (Nat.le_trans st.next hn25)⟩
  replace hz := hz.trans (Zx.here st hzx15)
  replace st := st.call hzx15 fz16 sm17 no_hq
  obtain ⟨y26, hy26, hr⟩ := bind_some hr
  refine SeqW.consX rfl (StepX.call (gCallee rfl rfl (args2 rfl rfl)) ((c_Maker_Wagon (x0 := y13) (z := z14) st.fz st.dead Q23 ⟨X20.blk, X20.lt, X20.dead, .inr rfl⟩ hy26).mono ?_))
  rintro _ m31 ⟨z27, V32, hzx28, fz29, sm30, rfl, Q33, X35, -⟩
  replace Q23 := Q23.mono hzx28.le
  have X20n : Bx z27 e m31 k B19 _ _ := ⟨X35.blk, X35.lt, X35.dead, X20.fresh⟩
  replace hz := hz.trans (Zx.here st hzx28)
  replace st := st.call hzx28 fz29 sm30 X20.hq
  refine SeqW.consX rfl (kAlloc rfl Try.type48 rfl rfl rfl [(str []), (Value.int .i64 0), (Value.int .i64 0), (Value.int .i64 0), (Value.int .i64 0), (Value.int .i64 0), (Value.bool false), (str [])] rfl st ?_)
  intro B36 m37 st X38 sm39 hap40
  refine SeqW.consX rfl (kPut (off := 0) (w := (Value.agg [(str y26.1.number), (Value.int .i64 y26.1.length), (Value.int .i64 y26.1.axles), (Value.int .i64 y26.1.mass), (Value.int .i64 y26.1.brake), (Value.int .i64 y26.1.goods), (Value.bool y26.1.gentle), (str y26.1.dest)].toArray)) (new := [(str y26.1.number), (Value.int .i64 y26.1.length), (Value.int .i64 y26.1.axles), (Value.int .i64 y26.1.mass), (Value.int .i64 y26.1.brake), (Value.int .i64 y26.1.goods), (Value.bool y26.1.gentle), (str y26.1.dest)]) rfl Try.type48 rfl rfl rfl rfl rfl X38 rfl [(str y26.1.number), (Value.int .i64 y26.1.length), (Value.int .i64 y26.1.axles), (Value.int .i64 y26.1.mass), (Value.int .i64 y26.1.brake), (Value.int .i64 y26.1.goods), (Value.bool y26.1.gentle), (str y26.1.dest)] rfl st ?_)
  intro m42 st X38 sm43
  refine SeqW.done fun fr44 hf45 => ?_
  have h1 : fr44 1 = (Value.pointer (some ⟨B36, 0, none⟩)) := (congrFun hf45 1).trans rfl
  clear hf45
  refine thenQ.n ?_
  refine W.seq ?_
  refine W.region ?_
  refine SeqW.consX rfl (kField rfl Try.underlying48 rfl Try.type3 rfl h1 rfl ?_)
  refine SeqW.consX rfl (kPut (off := 3) (w := (Value.int .i64 800)) (new := [(Value.int .i64 800)]) rfl Try.type3 rfl rfl rfl rfl rfl X38 rfl [(str y26.1.number), (Value.int .i64 y26.1.length), (Value.int .i64 y26.1.axles), (Value.int .i64 800), (Value.int .i64 y26.1.brake), (Value.int .i64 y26.1.goods), (Value.bool y26.1.gentle), (str y26.1.dest)] rfl st ?_)
  intro m46 st X38 sm47
  refine SeqW.consX rfl (kField rfl Try.underlying48 rfl Try.type3 rfl h1 rfl ?_)
  refine SeqW.consX rfl (kPut (off := 4) (w := (Value.int .i64 450)) (new := [(Value.int .i64 450)]) rfl Try.type3 rfl rfl rfl rfl rfl X38 rfl [(str y26.1.number), (Value.int .i64 y26.1.length), (Value.int .i64 y26.1.axles), (Value.int .i64 800), (Value.int .i64 450), (Value.int .i64 y26.1.goods), (Value.bool y26.1.gentle), (str y26.1.dest)] rfl st ?_)
  intro m48 st X38 sm49
  refine SeqW.done fun fr50 hf51 => ?_
  have h1 : fr50 1 = (Value.pointer (some ⟨B36, 0, none⟩)) := (congrFun hf51 1).trans h1
  clear hf51
  refine thenQ.n ?_
  refine W.seq ?_
  refine W.region ?_
  refine SeqW.consX rfl (kLoadA rfl Try.underlying48 rfl Try.type48 rfl h1 X38.loads ?_)
  refine SeqW.consX rfl (kBuild (T := TWagon) rfl Try.underlying25 Try.type48 rfl rfl rfl rfl ([(Wagon.mk y26.1.number y26.1.length y26.1.axles 800 450 y26.1.goods y26.1.gentle y26.1.dest)] : List Wagon) [[(str y26.1.number), (Value.int .i64 y26.1.length), (Value.int .i64 y26.1.axles), (Value.int .i64 800), (Value.int .i64 450), (Value.int .i64 y26.1.goods), (Value.bool y26.1.gentle), (str y26.1.dest)]] rfl rfl rfl (BuildOk.mk (w := (Value.agg [(str y26.1.number), (Value.int .i64 y26.1.length), (Value.int .i64 y26.1.axles), (Value.int .i64 800), (Value.int .i64 450), (Value.int .i64 y26.1.goods), (Value.bool y26.1.gentle), (str y26.1.dest)].toArray)) rfl rfl rfl rfl trivial) st ?_)
  intro V52 m53 st O54 sm55 hap56
  refine SeqW.consX rfl (StepX.pure (pAssign (v := V52) rfl rfl) ?_)
  refine SeqW.done fun fr58 hf59 => ?_
  have h2 : fr58 2 = V52 := (congrFun hf59 2).trans rfl
  clear hf59
  refine thenQ.n ?_
  refine W.seq ?_
  refine W.region ?_
  refine SeqW.consX rfl (kBuildS [(0, (Value.int .i64 100)), (1, (Value.int .i64 50)), (2, (Value.int .i64 65))] [(Value.int .i64 100), (Value.int .i64 50), (Value.int .i64 65)] rfl Try.underlying31 Try.type31 rfl rfl (places31 Try.underlying31) rfl (rfl) rfl ?_)
  refine SeqW.consX rfl (kBuildS [(0, (Value.int .i64 200)), (1, (Value.int .i64 500)), (2, (Value.int .i64 90))] [(Value.int .i64 200), (Value.int .i64 500), (Value.int .i64 90)] rfl Try.underlying31 Try.type31 rfl rfl (places31 Try.underlying31) rfl (rfl) rfl ?_)
  refine SeqW.consX rfl (kBuild (T := TBrakeRow) rfl Try.underlying27 Try.type31 rfl rfl rfl rfl ([(BrakeRow.mk 100 50 65), (BrakeRow.mk 200 500 90)] : List BrakeRow) [[(Value.int .i64 100), (Value.int .i64 50), (Value.int .i64 65)], [(Value.int .i64 200), (Value.int .i64 500), (Value.int .i64 90)]] rfl rfl rfl (BuildOk.mk (w := (Value.agg [(Value.int .i64 100), (Value.int .i64 50), (Value.int .i64 65)].toArray)) rfl rfl rfl rfl (BuildOk.mk (w := (Value.agg [(Value.int .i64 200), (Value.int .i64 500), (Value.int .i64 90)].toArray)) rfl rfl rfl rfl trivial)) st ?_)
  intro V60 m61 st O62 sm63 hap64
  have A66 := hap64 _ O54.lt
  replace O54 := O54.same sm63 Ap.none'
  refine SeqW.consX rfl (StepX.pure (pAssign (v := V60) rfl rfl) ?_)
  refine SeqW.done fun fr67 hf68 => ?_
  have h2 : fr67 2 = V52 := (congrFun hf68 2).trans h2
  have h3 : fr67 3 = V60 := (congrFun hf68 3).trans rfl
  clear hf68
  refine thenQ.n ?_
  refine W.seq ?_
  refine W.region ?_
  refine SeqW.consX rfl (StepX.pure (pMove (v := V52) rfl h2) ?_)
  refine SeqW.consX rfl (StepX.pure (pMove (v := V60) rfl h3) ?_)
  obtain ⟨z69, hz70, st, Q71, hl72⟩ := O54.freeze st
  replace O62 := O62.zle hz70.le (hl72 _ (Ap.symm A66))
  replace hz := hz.trans hz70
  obtain ⟨z73, hz74, st, Q75, hl76⟩ := O62.freeze st
  replace Q71 := Q71.mono hz74.le
  replace hz := hz.trans hz74
  obtain ⟨y77, hy77, hr⟩ := bind_some hr
  refine SeqW.consX rfl (StepX.call (gCallee rfl rfl (args5 rfl rfl rfl rfl rfl)) ((c_brake_Sheet (z := z73) st.fz st.dead Q71 (SlR.nil (T := (TInt 3 .i64))) Q75 hy77).mono ?_))
  rintro _ m82 ⟨z78, hzx79, fz80, sm81, rfl, -⟩
  replace Q71 := Q71.mono hzx79.le
  replace Q75 := Q75.mono hzx79.le
  replace hz := hz.trans (Zx.here st hzx79)
  replace st := st.call hzx79 fz80 sm81 no_hq
  refine SeqW.consX rfl (StepX.pure (pMove (v := (Value.tuple [(Value.agg [(Value.int .i64 y77.1.length), (Value.int .i64 y77.1.axles), (Value.int .i64 y77.1.mass), (Value.int .i64 y77.1.braked), (Value.int .i64 y77.1.percent), (Value.int .i64 y77.1.required), (Value.int .i64 y77.1.missing)].toArray), (Value.int .i64 y77.2)].toArray)) rfl rfl) ?_)
  refine SeqW.consX rfl (StepX.pure (pExtract (vs := [(Value.agg [(Value.int .i64 y77.1.length), (Value.int .i64 y77.1.axles), (Value.int .i64 y77.1.mass), (Value.int .i64 y77.1.braked), (Value.int .i64 y77.1.percent), (Value.int .i64 y77.1.required), (Value.int .i64 y77.1.missing)].toArray), (Value.int .i64 y77.2)]) (v := (Value.agg [(Value.int .i64 y77.1.length), (Value.int .i64 y77.1.axles), (Value.int .i64 y77.1.mass), (Value.int .i64 y77.1.braked), (Value.int .i64 y77.1.percent), (Value.int .i64 y77.1.required), (Value.int .i64 y77.1.missing)].toArray)) rfl rfl rfl) ?_)
  refine SeqW.consX rfl (StepX.pure (pExtract (vs := [(Value.agg [(Value.int .i64 y77.1.length), (Value.int .i64 y77.1.axles), (Value.int .i64 y77.1.mass), (Value.int .i64 y77.1.braked), (Value.int .i64 y77.1.percent), (Value.int .i64 y77.1.required), (Value.int .i64 y77.1.missing)].toArray), (Value.int .i64 y77.2)]) (v := (Value.int .i64 y77.2)) rfl rfl rfl) ?_)
  refine SeqW.consX rfl (kAlloc rfl Try.type33 rfl rfl rfl [(Value.int .i64 0), (Value.int .i64 0), (Value.int .i64 0), (Value.int .i64 0), (Value.int .i64 0), (Value.int .i64 0), (Value.int .i64 0)] rfl st ?_)
  intro B83 m84 st X85 sm86 hap87
  refine SeqW.consX rfl (kPut (off := 0) (w := (Value.agg [(Value.int .i64 y77.1.length), (Value.int .i64 y77.1.axles), (Value.int .i64 y77.1.mass), (Value.int .i64 y77.1.braked), (Value.int .i64 y77.1.percent), (Value.int .i64 y77.1.required), (Value.int .i64 y77.1.missing)].toArray)) (new := [(Value.int .i64 y77.1.length), (Value.int .i64 y77.1.axles), (Value.int .i64 y77.1.mass), (Value.int .i64 y77.1.braked), (Value.int .i64 y77.1.percent), (Value.int .i64 y77.1.required), (Value.int .i64 y77.1.missing)]) rfl Try.type33 rfl rfl rfl rfl rfl X85 rfl [(Value.int .i64 y77.1.length), (Value.int .i64 y77.1.axles), (Value.int .i64 y77.1.mass), (Value.int .i64 y77.1.braked), (Value.int .i64 y77.1.percent), (Value.int .i64 y77.1.required), (Value.int .i64 y77.1.missing)] rfl st ?_)
  intro m89 st X85 sm90
  refine SeqW.consX rfl (StepX.pure (pAssign (v := (Value.int .i64 y77.2)) rfl rfl) ?_)
  refine SeqW.done fun fr91 hf92 => ?_
  have h2 : fr91 2 = V52 := (congrFun hf92 2).trans h2
  have h3 : fr91 3 = V60 := (congrFun hf92 3).trans h3
  have h4 : fr91 4 = (Value.pointer (some ⟨B83, 0, none⟩)) := (congrFun hf92 4).trans rfl
  have h5 : fr91 5 = (Value.int .i64 y77.2) := (congrFun hf92 5).trans rfl
  clear hf92
  refine thenQ.n ?_
  refine W.seq ?_
  refine W.region ?_
  refine SeqW.consX rfl (StepX.pure (pMove (v := V52) rfl h2) ?_)
  refine SeqW.consX rfl (kBuild (T := (TInt 3 .i64)) rfl Try.underlying22 Try.type3 rfl rfl rfl rfl ([0] : List Int) [[(Value.int .i64 0)]] rfl rfl rfl (BuildOk.mk (w := (Value.int .i64 0)) rfl rfl rfl rfl trivial) st ?_)
  intro V93 m94 st O95 sm96 hap97
  have A99 := hap97 _ X85.lt'
  replace X85 := X85.same sm96 Ap.none'
  refine SeqW.consX rfl (StepX.pure (pMove (v := V60) rfl h3) ?_)
  obtain ⟨z100, hz101, st, Q102, hl103⟩ := O95.freeze st
  replace Q71 := Q71.mono hz101.le
  replace Q75 := Q75.mono hz101.le
  replace X85 := X85.zle (hl103 _ A99)
  replace hz := hz.trans hz101
  obtain ⟨y104, hy104, hr⟩ := bind_some hr
  refine SeqW.consX rfl (StepX.call (gCallee rfl rfl (args5 rfl rfl rfl rfl rfl)) ((c_brake_Sheet (z := z100) st.fz st.dead Q71 Q102 Q75 hy104).mono ?_))
  rintro _ m109 ⟨z105, hzx106, fz107, sm108, rfl, -⟩
  replace Q71 := Q71.mono hzx106.le
  replace Q75 := Q75.mono hzx106.le
  replace X85 := X85.call hzx106 sm108 Ap.none'
  replace Q102 := Q102.mono hzx106.le
  replace hz := hz.trans (Zx.here st hzx106)
  replace st := st.call hzx106 fz107 sm108 no_hq
  refine SeqW.consX rfl (StepX.pure (pMove (v := (Value.tuple [(Value.agg [(Value.int .i64 y104.1.length), (Value.int .i64 y104.1.axles), (Value.int .i64 y104.1.mass), (Value.int .i64 y104.1.braked), (Value.int .i64 y104.1.percent), (Value.int .i64 y104.1.required), (Value.int .i64 y104.1.missing)].toArray), (Value.int .i64 y104.2)].toArray)) rfl rfl) ?_)
  refine SeqW.consX rfl (StepX.pure (pExtract (vs := [(Value.agg [(Value.int .i64 y104.1.length), (Value.int .i64 y104.1.axles), (Value.int .i64 y104.1.mass), (Value.int .i64 y104.1.braked), (Value.int .i64 y104.1.percent), (Value.int .i64 y104.1.required), (Value.int .i64 y104.1.missing)].toArray), (Value.int .i64 y104.2)]) (v := (Value.agg [(Value.int .i64 y104.1.length), (Value.int .i64 y104.1.axles), (Value.int .i64 y104.1.mass), (Value.int .i64 y104.1.braked), (Value.int .i64 y104.1.percent), (Value.int .i64 y104.1.required), (Value.int .i64 y104.1.missing)].toArray)) rfl rfl rfl) ?_)
  refine SeqW.consX rfl (StepX.pure (pExtract (vs := [(Value.agg [(Value.int .i64 y104.1.length), (Value.int .i64 y104.1.axles), (Value.int .i64 y104.1.mass), (Value.int .i64 y104.1.braked), (Value.int .i64 y104.1.percent), (Value.int .i64 y104.1.required), (Value.int .i64 y104.1.missing)].toArray), (Value.int .i64 y104.2)]) (v := (Value.int .i64 y104.2)) rfl rfl rfl) ?_)
  refine SeqW.consX rfl (kAlloc rfl Try.type33 rfl rfl rfl [(Value.int .i64 0), (Value.int .i64 0), (Value.int .i64 0), (Value.int .i64 0), (Value.int .i64 0), (Value.int .i64 0), (Value.int .i64 0)] rfl st ?_)
  intro B110 m111 st X112 sm113 hap114
  have A116 := hap114 _ X85.lt'
  replace X85 := X85.same sm113 Ap.none'
  refine SeqW.consX rfl (kPut (off := 0) (w := (Value.agg [(Value.int .i64 y104.1.length), (Value.int .i64 y104.1.axles), (Value.int .i64 y104.1.mass), (Value.int .i64 y104.1.braked), (Value.int .i64 y104.1.percent), (Value.int .i64 y104.1.required), (Value.int .i64 y104.1.missing)].toArray)) (new := [(Value.int .i64 y104.1.length), (Value.int .i64 y104.1.axles), (Value.int .i64 y104.1.mass), (Value.int .i64 y104.1.braked), (Value.int .i64 y104.1.percent), (Value.int .i64 y104.1.required), (Value.int .i64 y104.1.missing)]) rfl Try.type33 rfl rfl rfl rfl rfl X112 rfl [(Value.int .i64 y104.1.length), (Value.int .i64 y104.1.axles), (Value.int .i64 y104.1.mass), (Value.int .i64 y104.1.braked), (Value.int .i64 y104.1.percent), (Value.int .i64 y104.1.required), (Value.int .i64 y104.1.missing)] rfl st ?_)
  intro m117 st X112 sm118
  replace X85 := X85.same sm118 A116
  refine SeqW.consX rfl (StepX.pure (pAssign (v := (Value.int .i64 y104.2)) rfl rfl) ?_)
  refine SeqW.done fun fr119 hf120 => ?_
  have h3 : fr119 3 = V60 := (congrFun hf120 3).trans h3
  have h4 : fr119 4 = (Value.pointer (some ⟨B83, 0, none⟩)) := (congrFun hf120 4).trans h4
  have h5 : fr119 5 = (Value.int .i64 y77.2) := (congrFun hf120 5).trans h5
  have h6 : fr119 6 = (Value.pointer (some ⟨B110, 0, none⟩)) := (congrFun hf120 6).trans rfl
  have h7 : fr119 7 = (Value.int .i64 y104.2) := (congrFun hf120 7).trans rfl
  clear hf120
  refine thenQ.n ?_
  refine W.seq ?_
  refine W.region ?_
  refine SeqW.consX rfl (StepX.pure (pMove (v := V60) rfl h3) ?_)
  obtain ⟨y121, hy121, hr⟩ := bind_some hr
  refine SeqW.consX rfl (StepX.call (gCallee rfl rfl (args3 rfl rfl rfl)) ((c_brake_Required (z := z105) st.fz st.dead Q75 hy121).mono ?_))
  rintro _ _ ⟨rfl, rfl⟩
  refine SeqW.consX rfl (StepX.pure (pMove (v := (Value.tuple [(Value.int .i64 y121.1), (Value.int .i64 y121.2)].toArray)) rfl rfl) ?_)
  refine SeqW.consX rfl (StepX.pure (pExtract (vs := [(Value.int .i64 y121.1), (Value.int .i64 y121.2)]) (v := (Value.int .i64 y121.1)) rfl rfl rfl) ?_)
  refine SeqW.consX rfl (StepX.pure (pExtract (vs := [(Value.int .i64 y121.1), (Value.int .i64 y121.2)]) (v := (Value.int .i64 y121.2)) rfl rfl rfl) ?_)
  refine SeqW.consX rfl (StepX.pure (pAssign (v := (Value.int .i64 y121.1)) rfl rfl) ?_)
  refine SeqW.consX rfl (StepX.pure (pAssign (v := (Value.int .i64 y121.2)) rfl rfl) ?_)
  refine SeqW.done fun fr122 hf123 => ?_
  have h4 : fr122 4 = (Value.pointer (some ⟨B83, 0, none⟩)) := (congrFun hf123 4).trans h4
  have h5 : fr122 5 = (Value.int .i64 y77.2) := (congrFun hf123 5).trans h5
  have h6 : fr122 6 = (Value.pointer (some ⟨B110, 0, none⟩)) := (congrFun hf123 6).trans h6
  have h7 : fr122 7 = (Value.int .i64 y104.2) := (congrFun hf123 7).trans h7
  have h9 : fr122 9 = (Value.int .i64 y121.2) := (congrFun hf123 9).trans rfl
  clear hf123
  refine thenQ.n ?_
  refine W.seq ?_
  obtain ⟨y170, hy170, hr⟩ := bind_some hr
  refine W.keep (u_l35_sane_0 (x4 := y77.1) (x6 := y104.1) (Zx.refl _) st h4 X85 h5 h6 X112 h7 h9 A116 hy170) ?_
  rintro ex176 fr171 m172 hk174 ⟨z173, hz175, st, rfl, h0, -⟩
  replace hz := hz.trans hz175
  clear hk174
  refine thenQ.n ?_
  refine W.ret ?_
  obtain rfl := Option.some.inj hr
  exact ⟨z173, hz, st, .inr rfl, h0, trivial⟩

theorem c_l35_sane {N : Nat} {z : Nat → Blk} {m : Mem} (fz : Fz z m) (hd : ∀ b, m.next ≤ b → m.blk b = .dead)  {r : Bool} (hr : l35_sane N  = some r) : CallW Try.prog 16 #[] m fun v m' => v = (Value.bool r) ∧ m' = m := by
  refine CallW.flat Try.func16 rfl (by kernel_rfl) (Nat.le_of_ble_eq_true rfl) rfl (z := z) (fun fr hf => ?_)
  refine (u_l35_sane (k := none) (Zx.refl _) (St.start fz hd)  hr).mono ?_
  rintro ex fr' m' ⟨z', hz, st, he, h0, -⟩
  exact ⟨he, z', st, [(Value.bool r)], ⟨h0.symm, trivial⟩, .inl rfl, rfl⟩

/-! ### humpyard/humpyardlaw35.BrakeGrows -/

theorem u_l35_BrakeGrows_0 {N : Nat}  {z0 z : Nat → Blk} {e m : Mem} {k : Option Nat} {fr : Nat → Value} {x14 : Int} {x16 : Int} {x18 : Int} (hz : Zx e.next z0 z) (st : St z e m k) (h14 : fr 14 = (Value.int .i64 x14)) (h16 : fr 16 = (Value.int .i64 x16)) (h18 : fr 18 = (Value.int .i64 x18)) {r : Bool} (hr : l35_BrakeGrows_0 N x14 x16 x18 = some r) : W Try.prog (sub (bodyOf Try.f4) [1, 1, 1, 1, 1, 1, 1, 0, 1, 0, 0]) (fun ex fr' m' => ∃ z', Zx e.next z0 z' ∧ St z' e m' k ∧ ex = AExit.normal ∧ fr' 8 = (Value.bool r) ∧ True) fr m := by
  unfold l35_BrakeGrows_0 at hr
  refine W.region ?_
  refine SeqW.consX rfl (StepX.pure (pMove (v := (Value.int .i64 x14)) rfl h14) ?_)
  refine SeqW.consX rfl (StepX.pure (pEql (k := .i64) (a := x14) (b := 15) rfl rfl rfl) ?_)
  refine SeqW.consX rfl (StepX.pure (pMove (v := (Value.bool (x14 == 15))) rfl rfl) ?_)
  rcases if_some hr with ⟨hc91, hr⟩ | ⟨hc103, hr⟩
  · refine SeqW.consG rfl rfl rfl hc91 (StepX.pure (pMove (v := (Value.int .i64 x16)) rfl h16) ?_)
    refine SeqW.consG rfl rfl rfl hc91 (StepX.pure (pEql (k := .i64) (a := x16) (b := 15) rfl rfl rfl) ?_)
    refine SeqW.consX rfl (StepX.pure (pPick (t := true) (v := (Value.bool (x16 == 15))) rfl ((congrArg Value.bool hc91)) rfl) ?_)
    refine SeqW.consX rfl (StepX.pure (pMove (v := (Value.bool (x16 == 15))) rfl rfl) ?_)
    rcases if_some hr with ⟨hc92, hr⟩ | ⟨hc100, hr⟩
    · refine SeqW.consG rfl rfl rfl hc92 (StepX.pure (pMove (v := (Value.int .i64 x18)) rfl h18) ?_)
      refine SeqW.consG rfl rfl rfl hc92 (StepX.pure (pEql (k := .i64) (a := x18) (b := 15) rfl rfl rfl) ?_)
      refine SeqW.consX rfl (StepX.pure (pPick (t := true) (v := (Value.bool (x18 == 15))) rfl ((congrArg Value.bool hc92)) rfl) ?_)
      refine SeqW.consX rfl (StepX.pure (pMove (v := (Value.bool (x18 == 15))) rfl rfl) ?_)
      rcases if_some hr with ⟨hc93, hr⟩ | ⟨hc97, hr⟩
      · obtain ⟨y94, hy94, hr⟩ := bind_some hr
        refine SeqW.consG rfl rfl rfl hc93 (StepX.call (gCallee rfl rfl args0) ((c_l35_sane (z := z) st.fz st.dead  hy94).mono ?_))
        rintro _ _ ⟨rfl, rfl⟩
        refine SeqW.consX rfl (StepX.pure (pPick (t := true) (v := (Value.bool y94)) rfl ((congrArg Value.bool hc93)) rfl) ?_)
        refine SeqW.consX rfl (StepX.pure (pAssign (v := (Value.bool y94)) rfl rfl) ?_)
        refine SeqW.done fun fr95 hf96 => ?_
        have h8 : fr95 8 = (Value.bool y94) := (congrFun hf96 8).trans rfl
        clear hf96
        obtain rfl := Option.some.inj hr
        exact ⟨z, hz, st, rfl, h8, trivial⟩
      · refine SeqW.skipG rfl rfl rfl hc97 ?_
        refine SeqW.consX rfl (StepX.pure (pPick (t := false) (v := (Value.bool false)) rfl ((congrArg Value.bool hc97)) rfl) ?_)
        refine SeqW.consX rfl (StepX.pure (pAssign (v := (Value.bool false)) rfl rfl) ?_)
        refine SeqW.done fun fr98 hf99 => ?_
        have h8 : fr98 8 = (Value.bool false) := (congrFun hf99 8).trans rfl
        clear hf99
        obtain rfl := Option.some.inj hr
        exact ⟨z, hz, st, rfl, h8, trivial⟩
    · refine SeqW.skipG rfl rfl rfl hc100 ?_
      refine SeqW.skipG rfl rfl rfl hc100 ?_
      refine SeqW.consX rfl (StepX.pure (pPick (t := false) (v := (Value.bool false)) rfl ((congrArg Value.bool hc100)) rfl) ?_)
      refine SeqW.consX rfl (StepX.pure (pMove (v := (Value.bool false)) rfl rfl) ?_)
      refine SeqW.skipG rfl rfl rfl rfl ?_
      refine SeqW.consX rfl (StepX.pure (pPick (t := false) (v := (Value.bool false)) rfl ((congrArg Value.bool (rfl : false = false))) rfl) ?_)
      refine SeqW.consX rfl (StepX.pure (pAssign (v := (Value.bool false)) rfl rfl) ?_)
      refine SeqW.done fun fr101 hf102 => ?_
      have h8 : fr101 8 = (Value.bool false) := (congrFun hf102 8).trans rfl
      clear hf102
      obtain rfl := Option.some.inj hr
      exact ⟨z, hz, st, rfl, h8, trivial⟩
  · refine SeqW.skipG rfl rfl rfl hc103 ?_
    refine SeqW.skipG rfl rfl rfl hc103 ?_
    refine SeqW.consX rfl (StepX.pure (pPick (t := false) (v := (Value.bool false)) rfl ((congrArg Value.bool hc103)) rfl) ?_)
    refine SeqW.consX rfl (StepX.pure (pMove (v := (Value.bool false)) rfl rfl) ?_)
    refine SeqW.skipG rfl rfl rfl rfl ?_
    refine SeqW.skipG rfl rfl rfl rfl ?_
    refine SeqW.consX rfl (StepX.pure (pPick (t := false) (v := (Value.bool false)) rfl ((congrArg Value.bool (rfl : false = false))) rfl) ?_)
    refine SeqW.consX rfl (StepX.pure (pMove (v := (Value.bool false)) rfl rfl) ?_)
    refine SeqW.skipG rfl rfl rfl rfl ?_
    refine SeqW.consX rfl (StepX.pure (pPick (t := false) (v := (Value.bool false)) rfl ((congrArg Value.bool (rfl : false = false))) rfl) ?_)
    refine SeqW.consX rfl (StepX.pure (pAssign (v := (Value.bool false)) rfl rfl) ?_)
    refine SeqW.done fun fr104 hf105 => ?_
    have h8 : fr104 8 = (Value.bool false) := (congrFun hf105 8).trans rfl
    clear hf105
    obtain rfl := Option.some.inj hr
    exact ⟨z, hz, st, rfl, h8, trivial⟩

theorem u_l35_BrakeGrows_1 {N : Nat}  {z0 z : Nat → Blk} {e m : Mem} {k : Option Nat} {fr : Nat → Value} {x13 : Int} {x15 : Int} {x16 : Int} {x17 : Int} {x18 : Int} (hz : Zx e.next z0 z) (st : St z e m k) (h13 : fr 13 = (Value.int .i64 x13)) (h15 : fr 15 = (Value.int .i64 x15)) (h16 : fr 16 = (Value.int .i64 x16)) (h17 : fr 17 = (Value.int .i64 x17)) (h18 : fr 18 = (Value.int .i64 x18)) {r : Bool} (hr : l35_BrakeGrows_1 N x13 x15 x16 x17 x18 = some r) : W Try.prog (sub (bodyOf Try.f4) [1, 1, 1, 1, 1, 1, 1, 1, 0]) (fun ex fr' m' => ∃ z', Zx e.next z0 z' ∧ St z' e m' k ∧ ex = AExit.normal ∧ fr' 8 = (Value.bool r) ∧ True) fr m := by
  unfold l35_BrakeGrows_1 at hr
  refine W.region ?_
  refine SeqW.consX rfl (StepX.pure (pMove (v := (Value.int .i64 x16)) rfl h16) ?_)
  refine SeqW.consX rfl (StepX.pure (pEql (k := .i64) (a := x16) (b := 15) rfl rfl rfl) ?_)
  refine SeqW.consX rfl (StepX.pure (pMove (v := (Value.bool (x16 == 15))) rfl rfl) ?_)
  rcases if_some hr with ⟨hc114, hr⟩ | ⟨hc131, hr⟩
  · refine SeqW.skipG rfl rfl rfl hc114 ?_
    refine SeqW.skipG rfl rfl rfl hc114 ?_
    refine SeqW.skipG rfl rfl rfl hc114 ?_
    refine SeqW.skipU rfl rfl rfl ?_
    refine SeqW.skipU rfl rfl rfl ?_
    refine SeqW.skipU rfl rfl rfl ?_
    refine SeqW.skipG rfl rfl rfl hc114 ?_
    refine SeqW.consX rfl (StepX.pure (pPick (t := true) (v := (Value.bool true)) rfl ((congrArg Value.bool hc114)) rfl) ?_)
    refine SeqW.consX rfl (StepX.pure (pMove (v := (Value.bool true)) rfl rfl) ?_)
    refine SeqW.consG rfl rfl rfl rfl (StepX.pure (pMove (v := (Value.int .i64 x18)) rfl h18) ?_)
    refine SeqW.consG rfl rfl rfl rfl (StepX.pure (pEql (k := .i64) (a := x18) (b := 15) rfl rfl rfl) ?_)
    refine SeqW.consG rfl rfl rfl rfl (StepX.pure (pMove (v := (Value.bool (x18 == 15))) rfl rfl) ?_)
    rcases if_some hr with ⟨hc115, hr⟩ | ⟨hc119, hr⟩
    · refine SeqW.skipG rfl rfl rfl hc115 ?_
      refine SeqW.skipG rfl rfl rfl hc115 ?_
      refine SeqW.skipG rfl rfl rfl hc115 ?_
      refine SeqW.skipU rfl rfl rfl ?_
      refine SeqW.skipU rfl rfl rfl ?_
      refine SeqW.skipU rfl rfl rfl ?_
      refine SeqW.skipG rfl rfl rfl hc115 ?_
      refine SeqW.consG rfl rfl rfl rfl (StepX.pure (pPick (t := true) (v := (Value.bool true)) rfl ((congrArg Value.bool hc115)) rfl) ?_)
      refine SeqW.consX rfl (StepX.pure (pPick (t := true) (v := (Value.bool true)) rfl ((congrArg Value.bool (rfl : true = true))) rfl) ?_)
      refine SeqW.consX rfl (StepX.pure (pMove (v := (Value.bool true)) rfl rfl) ?_)
      obtain ⟨y116, hy116, hr⟩ := bind_some hr
      refine SeqW.consG rfl rfl rfl rfl (StepX.call (gCallee rfl rfl args0) ((c_l35_sane (z := z) st.fz st.dead  hy116).mono ?_))
      rintro _ _ ⟨rfl, rfl⟩
      refine SeqW.consX rfl (StepX.pure (pPick (t := true) (v := (Value.bool y116)) rfl ((congrArg Value.bool (rfl : true = true))) rfl) ?_)
      refine SeqW.consX rfl (StepX.pure (pAssign (v := (Value.bool y116)) rfl rfl) ?_)
      refine SeqW.done fun fr117 hf118 => ?_
      have h8 : fr117 8 = (Value.bool y116) := (congrFun hf118 8).trans rfl
      clear hf118
      obtain rfl := Option.some.inj hr
      exact ⟨z, hz, st, rfl, h8, trivial⟩
    · refine SeqW.consG rfl rfl rfl hc119 (StepX.pure (pMove (v := (Value.int .i64 x18)) rfl h18) ?_)
      refine SeqW.consG rfl rfl rfl hc119 (StepX.pure (pEql (k := .i64) (a := x18) (b := 0) rfl rfl rfl) ?_)
      refine SeqW.consG rfl rfl rfl hc119 (StepX.pure (pMove (v := (Value.bool (x18 == 0))) rfl rfl) ?_)
      rcases if_some hr with ⟨hc120, hr⟩ | ⟨hc128, hr⟩
      · refine SeqW.consG rfl rfl rfl hc120 (StepX.pure (pMove (v := (Value.int .i64 x17)) rfl h17) ?_)
        refine SeqW.consG rfl rfl rfl hc120 (StepX.pure (pMove (v := (Value.int .i64 x13)) rfl h13) ?_)
        refine SeqW.consG rfl rfl rfl hc120 (StepX.pure (pGeq (k := .i64) (a := x17) (b := x13) rfl rfl rfl) ?_)
        refine SeqW.consG rfl rfl rfl hc119 (StepX.pure (pPick (t := true) (v := (Value.bool (decide (x13 ≤ x17)))) rfl ((congrArg Value.bool hc120)) rfl) ?_)
        refine SeqW.consG rfl rfl rfl rfl (StepX.pure (pPick (t := false) (v := (Value.bool (decide (x13 ≤ x17)))) rfl ((congrArg Value.bool hc119)) rfl) ?_)
        refine SeqW.consX rfl (StepX.pure (pPick (t := true) (v := (Value.bool (decide (x13 ≤ x17)))) rfl ((congrArg Value.bool (rfl : true = true))) rfl) ?_)
        refine SeqW.consX rfl (StepX.pure (pMove (v := (Value.bool (decide (x13 ≤ x17)))) rfl rfl) ?_)
        rcases if_some hr with ⟨hc121, hr⟩ | ⟨hc125, hr⟩
        · obtain ⟨y122, hy122, hr⟩ := bind_some hr
          refine SeqW.consG rfl rfl rfl hc121 (StepX.call (gCallee rfl rfl args0) ((c_l35_sane (z := z) st.fz st.dead  hy122).mono ?_))
          rintro _ _ ⟨rfl, rfl⟩
          refine SeqW.consX rfl (StepX.pure (pPick (t := true) (v := (Value.bool y122)) rfl ((congrArg Value.bool hc121)) rfl) ?_)
          refine SeqW.consX rfl (StepX.pure (pAssign (v := (Value.bool y122)) rfl rfl) ?_)
          refine SeqW.done fun fr123 hf124 => ?_
          have h8 : fr123 8 = (Value.bool y122) := (congrFun hf124 8).trans rfl
          clear hf124
          obtain rfl := Option.some.inj hr
          exact ⟨z, hz, st, rfl, h8, trivial⟩
        · refine SeqW.skipG rfl rfl rfl hc125 ?_
          refine SeqW.consX rfl (StepX.pure (pPick (t := false) (v := (Value.bool false)) rfl ((congrArg Value.bool hc125)) rfl) ?_)
          refine SeqW.consX rfl (StepX.pure (pAssign (v := (Value.bool false)) rfl rfl) ?_)
          refine SeqW.done fun fr126 hf127 => ?_
          have h8 : fr126 8 = (Value.bool false) := (congrFun hf127 8).trans rfl
          clear hf127
          obtain rfl := Option.some.inj hr
          exact ⟨z, hz, st, rfl, h8, trivial⟩
      · refine SeqW.skipG rfl rfl rfl hc128 ?_
        refine SeqW.skipG rfl rfl rfl hc128 ?_
        refine SeqW.skipG rfl rfl rfl hc128 ?_
        refine SeqW.consG rfl rfl rfl hc119 (StepX.pure (pPick (t := false) (v := (Value.bool false)) rfl ((congrArg Value.bool hc128)) rfl) ?_)
        refine SeqW.consG rfl rfl rfl rfl (StepX.pure (pPick (t := false) (v := (Value.bool false)) rfl ((congrArg Value.bool hc119)) rfl) ?_)
        refine SeqW.consX rfl (StepX.pure (pPick (t := true) (v := (Value.bool false)) rfl ((congrArg Value.bool (rfl : true = true))) rfl) ?_)
        refine SeqW.consX rfl (StepX.pure (pMove (v := (Value.bool false)) rfl rfl) ?_)
        refine SeqW.skipG rfl rfl rfl rfl ?_
        refine SeqW.consX rfl (StepX.pure (pPick (t := false) (v := (Value.bool false)) rfl ((congrArg Value.bool (rfl : false = false))) rfl) ?_)
        refine SeqW.consX rfl (StepX.pure (pAssign (v := (Value.bool false)) rfl rfl) ?_)
        refine SeqW.done fun fr129 hf130 => ?_
        have h8 : fr129 8 = (Value.bool false) := (congrFun hf130 8).trans rfl
        clear hf130
        obtain rfl := Option.some.inj hr
        exact ⟨z, hz, st, rfl, h8, trivial⟩
  · refine SeqW.consG rfl rfl rfl hc131 (StepX.pure (pMove (v := (Value.int .i64 x16)) rfl h16) ?_)
    refine SeqW.consG rfl rfl rfl hc131 (StepX.pure (pEql (k := .i64) (a := x16) (b := 0) rfl rfl rfl) ?_)
    refine SeqW.consG rfl rfl rfl hc131 (StepX.pure (pMove (v := (Value.bool (x16 == 0))) rfl rfl) ?_)
    rcases if_some hr with ⟨hc132, hr⟩ | ⟨hc153, hr⟩
    · refine SeqW.consG rfl rfl rfl hc132 (StepX.pure (pMove (v := (Value.int .i64 x15)) rfl h15) ?_)
      refine SeqW.consG rfl rfl rfl hc132 (StepX.pure (pMove (v := (Value.int .i64 x13)) rfl h13) ?_)
      refine SeqW.consG rfl rfl rfl hc132 (StepX.pure (pGeq (k := .i64) (a := x15) (b := x13) rfl rfl rfl) ?_)
      refine SeqW.consG rfl rfl rfl hc131 (StepX.pure (pPick (t := true) (v := (Value.bool (decide (x13 ≤ x15)))) rfl ((congrArg Value.bool hc132)) rfl) ?_)
      refine SeqW.consX rfl (StepX.pure (pPick (t := false) (v := (Value.bool (decide (x13 ≤ x15)))) rfl ((congrArg Value.bool hc131)) rfl) ?_)
      refine SeqW.consX rfl (StepX.pure (pMove (v := (Value.bool (decide (x13 ≤ x15)))) rfl rfl) ?_)
      rcases if_some hr with ⟨hc133, hr⟩ | ⟨hc150, hr⟩
      · refine SeqW.consG rfl rfl rfl hc133 (StepX.pure (pMove (v := (Value.int .i64 x18)) rfl h18) ?_)
        refine SeqW.consG rfl rfl rfl hc133 (StepX.pure (pEql (k := .i64) (a := x18) (b := 15) rfl rfl rfl) ?_)
        refine SeqW.consG rfl rfl rfl hc133 (StepX.pure (pMove (v := (Value.bool (x18 == 15))) rfl rfl) ?_)
        rcases if_some hr with ⟨hc134, hr⟩ | ⟨hc138, hr⟩
        · refine SeqW.skipG rfl rfl rfl hc134 ?_
          refine SeqW.skipG rfl rfl rfl hc134 ?_
          refine SeqW.skipG rfl rfl rfl hc134 ?_
          refine SeqW.skipU rfl rfl rfl ?_
          refine SeqW.skipU rfl rfl rfl ?_
          refine SeqW.skipU rfl rfl rfl ?_
          refine SeqW.skipG rfl rfl rfl hc134 ?_
          refine SeqW.consG rfl rfl rfl hc133 (StepX.pure (pPick (t := true) (v := (Value.bool true)) rfl ((congrArg Value.bool hc134)) rfl) ?_)
          refine SeqW.consX rfl (StepX.pure (pPick (t := true) (v := (Value.bool true)) rfl ((congrArg Value.bool hc133)) rfl) ?_)
          refine SeqW.consX rfl (StepX.pure (pMove (v := (Value.bool true)) rfl rfl) ?_)
          obtain ⟨y135, hy135, hr⟩ := bind_some hr
          refine SeqW.consG rfl rfl rfl rfl (StepX.call (gCallee rfl rfl args0) ((c_l35_sane (z := z) st.fz st.dead  hy135).mono ?_))
          rintro _ _ ⟨rfl, rfl⟩
          refine SeqW.consX rfl (StepX.pure (pPick (t := true) (v := (Value.bool y135)) rfl ((congrArg Value.bool (rfl : true = true))) rfl) ?_)
          refine SeqW.consX rfl (StepX.pure (pAssign (v := (Value.bool y135)) rfl rfl) ?_)
          refine SeqW.done fun fr136 hf137 => ?_
          have h8 : fr136 8 = (Value.bool y135) := (congrFun hf137 8).trans rfl
          clear hf137
          obtain rfl := Option.some.inj hr
          exact ⟨z, hz, st, rfl, h8, trivial⟩
        · refine SeqW.consG rfl rfl rfl hc138 (StepX.pure (pMove (v := (Value.int .i64 x18)) rfl h18) ?_)
          refine SeqW.consG rfl rfl rfl hc138 (StepX.pure (pEql (k := .i64) (a := x18) (b := 0) rfl rfl rfl) ?_)
          refine SeqW.consG rfl rfl rfl hc138 (StepX.pure (pMove (v := (Value.bool (x18 == 0))) rfl rfl) ?_)
          rcases if_some hr with ⟨hc139, hr⟩ | ⟨hc147, hr⟩
          · refine SeqW.consG rfl rfl rfl hc139 (StepX.pure (pMove (v := (Value.int .i64 x17)) rfl h17) ?_)
            refine SeqW.consG rfl rfl rfl hc139 (StepX.pure (pMove (v := (Value.int .i64 x13)) rfl h13) ?_)
            refine SeqW.consG rfl rfl rfl hc139 (StepX.pure (pGeq (k := .i64) (a := x17) (b := x13) rfl rfl rfl) ?_)
            refine SeqW.consG rfl rfl rfl hc138 (StepX.pure (pPick (t := true) (v := (Value.bool (decide (x13 ≤ x17)))) rfl ((congrArg Value.bool hc139)) rfl) ?_)
            refine SeqW.consG rfl rfl rfl hc133 (StepX.pure (pPick (t := false) (v := (Value.bool (decide (x13 ≤ x17)))) rfl ((congrArg Value.bool hc138)) rfl) ?_)
            refine SeqW.consX rfl (StepX.pure (pPick (t := true) (v := (Value.bool (decide (x13 ≤ x17)))) rfl ((congrArg Value.bool hc133)) rfl) ?_)
            refine SeqW.consX rfl (StepX.pure (pMove (v := (Value.bool (decide (x13 ≤ x17)))) rfl rfl) ?_)
            rcases if_some hr with ⟨hc140, hr⟩ | ⟨hc144, hr⟩
            · obtain ⟨y141, hy141, hr⟩ := bind_some hr
              refine SeqW.consG rfl rfl rfl hc140 (StepX.call (gCallee rfl rfl args0) ((c_l35_sane (z := z) st.fz st.dead  hy141).mono ?_))
              rintro _ _ ⟨rfl, rfl⟩
              refine SeqW.consX rfl (StepX.pure (pPick (t := true) (v := (Value.bool y141)) rfl ((congrArg Value.bool hc140)) rfl) ?_)
              refine SeqW.consX rfl (StepX.pure (pAssign (v := (Value.bool y141)) rfl rfl) ?_)
              refine SeqW.done fun fr142 hf143 => ?_
              have h8 : fr142 8 = (Value.bool y141) := (congrFun hf143 8).trans rfl
              clear hf143
              obtain rfl := Option.some.inj hr
              exact ⟨z, hz, st, rfl, h8, trivial⟩
            · refine SeqW.skipG rfl rfl rfl hc144 ?_
              refine SeqW.consX rfl (StepX.pure (pPick (t := false) (v := (Value.bool false)) rfl ((congrArg Value.bool hc144)) rfl) ?_)
              refine SeqW.consX rfl (StepX.pure (pAssign (v := (Value.bool false)) rfl rfl) ?_)
              refine SeqW.done fun fr145 hf146 => ?_
              have h8 : fr145 8 = (Value.bool false) := (congrFun hf146 8).trans rfl
              clear hf146
              obtain rfl := Option.some.inj hr
              exact ⟨z, hz, st, rfl, h8, trivial⟩
          · refine SeqW.skipG rfl rfl rfl hc147 ?_
            refine SeqW.skipG rfl rfl rfl hc147 ?_
            refine SeqW.skipG rfl rfl rfl hc147 ?_
            refine SeqW.consG rfl rfl rfl hc138 (StepX.pure (pPick (t := false) (v := (Value.bool false)) rfl ((congrArg Value.bool hc147)) rfl) ?_)
            refine SeqW.consG rfl rfl rfl hc133 (StepX.pure (pPick (t := false) (v := (Value.bool false)) rfl ((congrArg Value.bool hc138)) rfl) ?_)
            refine SeqW.consX rfl (StepX.pure (pPick (t := true) (v := (Value.bool false)) rfl ((congrArg Value.bool hc133)) rfl) ?_)
            refine SeqW.consX rfl (StepX.pure (pMove (v := (Value.bool false)) rfl rfl) ?_)
            refine SeqW.skipG rfl rfl rfl rfl ?_
            refine SeqW.consX rfl (StepX.pure (pPick (t := false) (v := (Value.bool false)) rfl ((congrArg Value.bool (rfl : false = false))) rfl) ?_)
            refine SeqW.consX rfl (StepX.pure (pAssign (v := (Value.bool false)) rfl rfl) ?_)
            refine SeqW.done fun fr148 hf149 => ?_
            have h8 : fr148 8 = (Value.bool false) := (congrFun hf149 8).trans rfl
            clear hf149
            obtain rfl := Option.some.inj hr
            exact ⟨z, hz, st, rfl, h8, trivial⟩
      · refine SeqW.skipG rfl rfl rfl hc150 ?_
        refine SeqW.skipG rfl rfl rfl hc150 ?_
        refine SeqW.skipG rfl rfl rfl hc150 ?_
        refine SeqW.skipU rfl rfl rfl ?_
        refine SeqW.skipU rfl rfl rfl ?_
        refine SeqW.skipU rfl rfl rfl ?_
        refine SeqW.skipU rfl rfl rfl ?_
        refine SeqW.skipU rfl rfl rfl ?_
        refine SeqW.skipU rfl rfl rfl ?_
        refine SeqW.skipU rfl rfl rfl ?_
        refine SeqW.skipG rfl rfl rfl hc150 ?_
        refine SeqW.consX rfl (StepX.pure (pPick (t := false) (v := (Value.bool false)) rfl ((congrArg Value.bool hc150)) rfl) ?_)
        refine SeqW.consX rfl (StepX.pure (pMove (v := (Value.bool false)) rfl rfl) ?_)
        refine SeqW.skipG rfl rfl rfl rfl ?_
        refine SeqW.consX rfl (StepX.pure (pPick (t := false) (v := (Value.bool false)) rfl ((congrArg Value.bool (rfl : false = false))) rfl) ?_)
        refine SeqW.consX rfl (StepX.pure (pAssign (v := (Value.bool false)) rfl rfl) ?_)
        refine SeqW.done fun fr151 hf152 => ?_
        have h8 : fr151 8 = (Value.bool false) := (congrFun hf152 8).trans rfl
        clear hf152
        obtain rfl := Option.some.inj hr
        exact ⟨z, hz, st, rfl, h8, trivial⟩
    · refine SeqW.skipG rfl rfl rfl hc153 ?_
      refine SeqW.skipG rfl rfl rfl hc153 ?_
      refine SeqW.skipG rfl rfl rfl hc153 ?_
      refine SeqW.consG rfl rfl rfl hc131 (StepX.pure (pPick (t := false) (v := (Value.bool false)) rfl ((congrArg Value.bool hc153)) rfl) ?_)
      refine SeqW.consX rfl (StepX.pure (pPick (t := false) (v := (Value.bool false)) rfl ((congrArg Value.bool hc131)) rfl) ?_)
      refine SeqW.consX rfl (StepX.pure (pMove (v := (Value.bool false)) rfl rfl) ?_)
      refine SeqW.skipG rfl rfl rfl rfl ?_
      refine SeqW.skipG rfl rfl rfl rfl ?_
      refine SeqW.skipG rfl rfl rfl rfl ?_
      refine SeqW.skipU rfl rfl rfl ?_
      refine SeqW.skipU rfl rfl rfl ?_
      refine SeqW.skipU rfl rfl rfl ?_
      refine SeqW.skipU rfl rfl rfl ?_
      refine SeqW.skipU rfl rfl rfl ?_
      refine SeqW.skipU rfl rfl rfl ?_
      refine SeqW.skipU rfl rfl rfl ?_
      refine SeqW.skipG rfl rfl rfl rfl ?_
      refine SeqW.consX rfl (StepX.pure (pPick (t := false) (v := (Value.bool false)) rfl ((congrArg Value.bool (rfl : false = false))) rfl) ?_)
      refine SeqW.consX rfl (StepX.pure (pMove (v := (Value.bool false)) rfl rfl) ?_)
      refine SeqW.skipG rfl rfl rfl rfl ?_
      refine SeqW.consX rfl (StepX.pure (pPick (t := false) (v := (Value.bool false)) rfl ((congrArg Value.bool (rfl : false = false))) rfl) ?_)
      refine SeqW.consX rfl (StepX.pure (pAssign (v := (Value.bool false)) rfl rfl) ?_)
      refine SeqW.done fun fr154 hf155 => ?_
      have h8 : fr154 8 = (Value.bool false) := (congrFun hf155 8).trans rfl
      clear hf155
      obtain rfl := Option.some.inj hr
      exact ⟨z, hz, st, rfl, h8, trivial⟩

theorem u_l35_BrakeGrows {N : Nat}  {z0 z : Nat → Blk} {e m : Mem} {k : Option Nat} {fr : Nat → Value} {x0 : List Int} {x1 : Int} {x2 : Int} {x3 : Int} {v0 : Value} (hz : Zx e.next z0 z) (st : St z e m k) (h0 : fr 0 = v0) (s0 : SlR (TInt 3 .i64) z x0 v0) (h1 : fr 1 = (Value.int .i64 x1)) (h2 : fr 2 = (Value.int .i64 x2)) (h3 : fr 3 = (Value.int .i64 x3)) {r : Bool} (hr : l35_BrakeGrows N x0 x1 x2 x3 = some r) : W Try.prog (sub (bodyOf Try.f4) []) (fun ex fr' m' => ∃ z', Zx e.next z0 z' ∧ St z' e m' k ∧ (ex = .normal ∨ ex = .ret) ∧ fr' 8 = (Value.bool r) ∧ True) fr m := by
  unfold l35_BrakeGrows at hr
  refine W.seq ?_
  refine W.region ?_
  refine SeqW.consX rfl (StepX.pure (pAssign (v := (Value.bool false)) rfl rfl) ?_)
  refine SeqW.done fun fr1 hf2 => ?_
  have h0 : fr1 0 = v0 := (congrFun hf2 0).trans h0
  have h1 : fr1 1 = (Value.int .i64 x1) := (congrFun hf2 1).trans h1
  have h2 : fr1 2 = (Value.int .i64 x2) := (congrFun hf2 2).trans h2
  have h3 : fr1 3 = (Value.int .i64 x3) := (congrFun hf2 3).trans h3
  clear hf2
  refine thenQ.n ?_
  refine W.seq ?_
  refine W.region ?_
  refine SeqW.consX rfl (StepX.pure (pMove (v := v0) rfl h0) ?_)
  obtain ⟨y3, hy3, hr⟩ := bind_some hr
  refine SeqW.consX rfl (StepX.call (gCallee rfl rfl (args1 rfl)) ((c_gen_New (z := z) st.fz st.dead s0 hy3).mono ?_))
  rintro _ m8 ⟨z4, B9, V12, hzx5, fz6, sm7, rfl, Q13, X10, hn15, -⟩
  replace s0 := s0.mono hzx5.le
  have X10 : Bx z4 e m8 k B9 _ _ := ⟨X10.blk, X10.lt, X10.dead, .inl (Nat.le_trans st.next hn15)⟩
  replace hz := hz.trans (Zx.here st hzx5)
  replace st := st.call hzx5 fz6 sm7 no_hq
  refine SeqW.consX rfl (StepX.pure (pAssign (v := (Value.pointer (some ⟨B9, 0, none⟩))) rfl rfl) ?_)
  refine SeqW.done fun fr16 hf17 => ?_
  have h1 : fr16 1 = (Value.int .i64 x1) := (congrFun hf17 1).trans h1
  have h2 : fr16 2 = (Value.int .i64 x2) := (congrFun hf17 2).trans h2
  have h3 : fr16 3 = (Value.int .i64 x3) := (congrFun hf17 3).trans h3
  have h9 : fr16 9 = (Value.pointer (some ⟨B9, 0, none⟩)) := (congrFun hf17 9).trans rfl
  clear hf17
  refine thenQ.n ?_
  refine W.seq ?_
  refine W.region ?_
  refine SeqW.consX rfl (StepX.pure (pMove (v := (Value.pointer (some ⟨B9, 0, none⟩))) rfl h9) ?_)
  obtain ⟨y18, hy18, hr⟩ := bind_some hr
  refine SeqW.consX rfl (StepX.call (gCallee rfl rfl (args1 rfl)) ((c_yardgen_Table (x0 := y3) (z := z4) st.fz st.dead Q13 ⟨X10.blk, X10.lt, X10.dead, .inr rfl⟩ hy18).mono ?_))
  rintro V24 m23 ⟨z19, _, V27, hzx20, fz21, sm22, rfl, Q25, Q28, X30, -⟩
  have A31 := Ap.own X10.lt' Q25.fresh
  replace Q13 := Q13.mono hzx20.le
  have X10n : Bx z19 e m23 k B9 _ _ := ⟨X30.blk, X30.lt, X30.dead, X10.fresh⟩
  have Q25 : OwF TBrakeRow z19 e m23 k y18.1 V24 := Q25.up st.next
  replace hz := hz.trans (Zx.here st hzx20)
  replace st := st.call hzx20 fz21 sm22 X10.hq
  refine SeqW.consX rfl (StepX.pure (pMove (v := (Value.pointer (some ⟨B9, 0, none⟩))) rfl h9) ?_)
  obtain ⟨y32, hy32, hr⟩ := bind_some hr
  refine SeqW.consX rfl (StepX.call (gCallee rfl rfl (args1 rfl)) ((c_yardgen_Table (x0 := y18.2) (z := z19) st.fz st.dead Q28 ⟨X10n.blk, X10n.lt, X10n.dead, .inr rfl⟩ hy32).mono ?_))
  rintro V38 m37 ⟨z33, _, V41, hzx34, fz35, sm36, rfl, Q39, Q42, X44, -⟩
  have A45 := Ap.own X10n.lt' Q39.fresh
  have A46 := Ap.own Q25.lt Q39.fresh
  replace Q25 := Q25.call hzx34 sm36 (Ap.symm A31)
  replace Q28 := Q28.mono hzx34.le
  have X10nn : Bx z33 e m37 k B9 _ _ := ⟨X44.blk, X44.lt, X44.dead, X10n.fresh⟩
  have Q39 : OwF TBrakeRow z33 e m37 k y32.1 V38 := Q39.up st.next
  replace hz := hz.trans (Zx.here st hzx34)
  replace st := st.call hzx34 fz35 sm36 X10n.hq
  obtain ⟨y47, hy47, hr⟩ := bind_some hr
  refine SeqW.consX rfl (kAppend (T := TBrakeRow) (xs := y18.1) (ys := y32.1) rfl Try.underlying27 Try.type31 rfl rfl rfl rfl rfl rfl (.inl ⟨_, Try.underlying27⟩) rfl Q25 rfl Q39.ow.src st hy47 ?_)
  intro V48 m49 st O50 sm51 hap52
  have A54 := hap52 _ Q39.lt (Ap.symm A46)
  replace Q39 := Q39.same sm51 (Ap.symm A46)
  refine SeqW.consX rfl (StepX.pure (pAssign (v := V48) rfl rfl) ?_)
  refine SeqW.done fun fr55 hf56 => ?_
  have h1 : fr55 1 = (Value.int .i64 x1) := (congrFun hf56 1).trans h1
  have h2 : fr55 2 = (Value.int .i64 x2) := (congrFun hf56 2).trans h2
  have h3 : fr55 3 = (Value.int .i64 x3) := (congrFun hf56 3).trans h3
  have h10 : fr55 10 = V48 := (congrFun hf56 10).trans rfl
  clear hf56
  refine thenQ.n ?_
  refine W.seq ?_
  refine W.region ?_
  refine SeqW.consX rfl (StepX.pure (pMove (v := (Value.int .i64 x1)) rfl h1) ?_)
  obtain ⟨y57, hy57, hr⟩ := bind_some hr
  refine SeqW.consX rfl (StepX.call (gCallee rfl rfl (args2 rfl rfl)) ((c_yardgen_Place (z := z33) st.fz st.dead  hy57).mono ?_))
  rintro _ _ ⟨rfl, rfl⟩
  refine SeqW.consX rfl (StepX.pure (pAdd (k := .i64) (a := 1) (b := y57) rfl rfl rfl) ?_)
  refine SeqW.consX rfl (StepX.pure (pMove (v := (Value.int .i64 x2)) rfl h2) ?_)
  obtain ⟨y58, hy58, hr⟩ := bind_some hr
  refine SeqW.consX rfl (StepX.call (gCallee rfl rfl (args2 rfl rfl)) ((c_yardgen_Place (z := z33) st.fz st.dead  hy58).mono ?_))
  rintro _ _ ⟨rfl, rfl⟩
  obtain ⟨y59, hy59, hr⟩ := lt_some hr
  refine SeqW.consX rfl (StepX.pure (pAssign rfl (congrArg (Value.int .i64) hy59)) ?_)
  refine SeqW.consX rfl (StepX.pure (pAssign (v := (Value.int .i64 y58)) rfl rfl) ?_)
  refine SeqW.done fun fr60 hf61 => ?_
  have h3 : fr60 3 = (Value.int .i64 x3) := (congrFun hf61 3).trans h3
  have h10 : fr60 10 = V48 := (congrFun hf61 10).trans h10
  have h11 : fr60 11 = (Value.int .i64 y59) := (congrFun hf61 11).trans rfl
  have h12 : fr60 12 = (Value.int .i64 y58) := (congrFun hf61 12).trans rfl
  clear hf61
  refine thenQ.n ?_
  refine W.seq ?_
  refine W.region ?_
  refine SeqW.consX rfl (StepX.pure (pMove (v := V48) rfl h10) ?_)
  refine SeqW.consX rfl (StepX.pure (pMove (v := (Value.int .i64 y59)) rfl h11) ?_)
  refine SeqW.consX rfl (StepX.pure (pMove (v := (Value.int .i64 y58)) rfl h12) ?_)
  obtain ⟨z62, hz63, st66, Q64, hl65⟩ := O50.freeze st
  obtain ⟨y67, hy67, hr⟩ := bind_some hr
  refine SeqW.consX rfl (StepX.call (gCallee rfl rfl (args3 rfl rfl rfl)) ((c_brake_Required (z := z62) st66.fz st.dead Q64 hy67).mono ?_))
  rintro _ _ ⟨rfl, rfl⟩
  refine SeqW.consX rfl (StepX.pure (pMove (v := (Value.tuple [(Value.int .i64 y67.1), (Value.int .i64 y67.2)].toArray)) rfl rfl) ?_)
  refine SeqW.consX rfl (StepX.pure (pExtract (vs := [(Value.int .i64 y67.1), (Value.int .i64 y67.2)]) (v := (Value.int .i64 y67.1)) rfl rfl rfl) ?_)
  refine SeqW.consX rfl (StepX.pure (pExtract (vs := [(Value.int .i64 y67.1), (Value.int .i64 y67.2)]) (v := (Value.int .i64 y67.2)) rfl rfl rfl) ?_)
  refine SeqW.consX rfl (StepX.pure (pAssign (v := (Value.int .i64 y67.1)) rfl rfl) ?_)
  refine SeqW.consX rfl (StepX.pure (pAssign (v := (Value.int .i64 y67.2)) rfl rfl) ?_)
  refine SeqW.done fun fr68 hf69 => ?_
  have h3 : fr68 3 = (Value.int .i64 x3) := (congrFun hf69 3).trans h3
  have h10 : fr68 10 = V48 := (congrFun hf69 10).trans h10
  have h11 : fr68 11 = (Value.int .i64 y59) := (congrFun hf69 11).trans h11
  have h12 : fr68 12 = (Value.int .i64 y58) := (congrFun hf69 12).trans h12
  have h13 : fr68 13 = (Value.int .i64 y67.1) := (congrFun hf69 13).trans rfl
  have h14 : fr68 14 = (Value.int .i64 y67.2) := (congrFun hf69 14).trans rfl
  clear hf69
  refine thenQ.n ?_
  refine W.seq ?_
  refine W.region ?_
  refine SeqW.consX rfl (StepX.pure (pMove (v := V48) rfl h10) ?_)
  refine SeqW.consX rfl (StepX.pure (pMove (v := (Value.int .i64 y59)) rfl h11) ?_)
  refine SeqW.consX rfl (StepX.pure (pMove (v := (Value.int .i64 x3)) rfl h3) ?_)
  refine SeqW.consX rfl (StepX.pure (pMove (v := (Value.int .i64 y59)) rfl h11) ?_)
  refine SeqW.consX rfl (StepX.pure (pSub (k := .i64) (a := 201) (b := y59) rfl rfl rfl) ?_)
  obtain ⟨y70, hy70, hr⟩ := bind_some hr
  refine SeqW.consX rfl (StepX.call (gCallee rfl rfl (args2 rfl rfl)) ((c_yardgen_Place (z := z33) st.fz st.dead  hy70).mono ?_))
  rintro _ _ ⟨rfl, rfl⟩
  refine SeqW.consX rfl (StepX.pure (pAdd (k := .i64) (a := y59) (b := y70) rfl rfl rfl) ?_)
  refine SeqW.consX rfl (StepX.pure (pMove (v := (Value.int .i64 y58)) rfl h12) ?_)
  obtain ⟨z71, hz72, st75, Q73, hl74⟩ := O50.freeze st
  obtain ⟨y76, hy76, hr⟩ := bind_some hr
  refine SeqW.consX rfl (StepX.call (gCallee rfl rfl (args3 rfl rfl rfl)) ((c_brake_Required (z := z71) st75.fz st.dead Q73 hy76).mono ?_))
  rintro _ _ ⟨rfl, rfl⟩
  refine SeqW.consX rfl (StepX.pure (pMove (v := (Value.tuple [(Value.int .i64 y76.1), (Value.int .i64 y76.2)].toArray)) rfl rfl) ?_)
  refine SeqW.consX rfl (StepX.pure (pExtract (vs := [(Value.int .i64 y76.1), (Value.int .i64 y76.2)]) (v := (Value.int .i64 y76.1)) rfl rfl rfl) ?_)
  refine SeqW.consX rfl (StepX.pure (pExtract (vs := [(Value.int .i64 y76.1), (Value.int .i64 y76.2)]) (v := (Value.int .i64 y76.2)) rfl rfl rfl) ?_)
  refine SeqW.consX rfl (StepX.pure (pAssign (v := (Value.int .i64 y76.1)) rfl rfl) ?_)
  refine SeqW.consX rfl (StepX.pure (pAssign (v := (Value.int .i64 y76.2)) rfl rfl) ?_)
  refine SeqW.done fun fr77 hf78 => ?_
  have h3 : fr77 3 = (Value.int .i64 x3) := (congrFun hf78 3).trans h3
  have h10 : fr77 10 = V48 := (congrFun hf78 10).trans h10
  have h11 : fr77 11 = (Value.int .i64 y59) := (congrFun hf78 11).trans h11
  have h12 : fr77 12 = (Value.int .i64 y58) := (congrFun hf78 12).trans h12
  have h13 : fr77 13 = (Value.int .i64 y67.1) := (congrFun hf78 13).trans h13
  have h14 : fr77 14 = (Value.int .i64 y67.2) := (congrFun hf78 14).trans h14
  have h15 : fr77 15 = (Value.int .i64 y76.1) := (congrFun hf78 15).trans rfl
  have h16 : fr77 16 = (Value.int .i64 y76.2) := (congrFun hf78 16).trans rfl
  clear hf78
  refine thenQ.n ?_
  refine W.seq ?_
  refine W.region ?_
  refine SeqW.consX rfl (StepX.pure (pMove (v := V48) rfl h10) ?_)
  refine SeqW.consX rfl (StepX.pure (pMove (v := (Value.int .i64 y59)) rfl h11) ?_)
  refine SeqW.consX rfl (StepX.pure (pMove (v := (Value.int .i64 y58)) rfl h12) ?_)
  refine SeqW.consX rfl (StepX.pure (pMove (v := (Value.int .i64 x3)) rfl h3) ?_)
  refine SeqW.consX rfl (StepX.pure (pMove (v := (Value.int .i64 y58)) rfl h12) ?_)
  refine SeqW.consX rfl (StepX.pure (pSub (k := .i64) (a := 501) (b := y58) rfl rfl rfl) ?_)
  obtain ⟨y79, hy79, hr⟩ := bind_some hr
  refine SeqW.consX rfl (StepX.call (gCallee rfl rfl (args2 rfl rfl)) ((c_yardgen_Place (z := z33) st.fz st.dead  hy79).mono ?_))
  rintro _ _ ⟨rfl, rfl⟩
  refine SeqW.consX rfl (StepX.pure (pAdd (k := .i64) (a := y58) (b := y79) rfl rfl rfl) ?_)
  obtain ⟨z80, hz81, st84, Q82, hl83⟩ := O50.freeze st
  obtain ⟨y85, hy85, hr⟩ := bind_some hr
  refine SeqW.consX rfl (StepX.call (gCallee rfl rfl (args3 rfl rfl rfl)) ((c_brake_Required (z := z80) st84.fz st.dead Q82 hy85).mono ?_))
  rintro _ _ ⟨rfl, rfl⟩
  refine SeqW.consX rfl (StepX.pure (pMove (v := (Value.tuple [(Value.int .i64 y85.1), (Value.int .i64 y85.2)].toArray)) rfl rfl) ?_)
  refine SeqW.consX rfl (StepX.pure (pExtract (vs := [(Value.int .i64 y85.1), (Value.int .i64 y85.2)]) (v := (Value.int .i64 y85.1)) rfl rfl rfl) ?_)
  refine SeqW.consX rfl (StepX.pure (pExtract (vs := [(Value.int .i64 y85.1), (Value.int .i64 y85.2)]) (v := (Value.int .i64 y85.2)) rfl rfl rfl) ?_)
  refine SeqW.consX rfl (StepX.pure (pAssign (v := (Value.int .i64 y85.1)) rfl rfl) ?_)
  refine SeqW.consX rfl (StepX.pure (pAssign (v := (Value.int .i64 y85.2)) rfl rfl) ?_)
  refine SeqW.done fun fr86 hf87 => ?_
  have h13 : fr86 13 = (Value.int .i64 y67.1) := (congrFun hf87 13).trans h13
  have h14 : fr86 14 = (Value.int .i64 y67.2) := (congrFun hf87 14).trans h14
  have h15 : fr86 15 = (Value.int .i64 y76.1) := (congrFun hf87 15).trans h15
  have h16 : fr86 16 = (Value.int .i64 y76.2) := (congrFun hf87 16).trans h16
  have h17 : fr86 17 = (Value.int .i64 y85.1) := (congrFun hf87 17).trans rfl
  have h18 : fr86 18 = (Value.int .i64 y85.2) := (congrFun hf87 18).trans rfl
  clear hf87
  refine thenQ.n ?_
  refine W.seq ?_
  refine W.seq ?_
  refine W.region ?_
  refine SeqW.consX rfl (StepX.pure (pMove (v := (Value.int .i64 y67.2)) rfl h14) ?_)
  refine SeqW.consX rfl (StepX.pure (pNeq (k := .i64) (a := y67.2) (b := 0) rfl rfl rfl) ?_)
  refine SeqW.done fun fr88 hf89 => ?_
  have h13 : fr88 13 = (Value.int .i64 y67.1) := (congrFun hf89 13).trans h13
  have h14 : fr88 14 = (Value.int .i64 y67.2) := (congrFun hf89 14).trans h14
  have h15 : fr88 15 = (Value.int .i64 y76.1) := (congrFun hf89 15).trans h15
  have h16 : fr88 16 = (Value.int .i64 y76.2) := (congrFun hf89 16).trans h16
  have h17 : fr88 17 = (Value.int .i64 y85.1) := (congrFun hf89 17).trans h17
  have h18 : fr88 18 = (Value.int .i64 y85.2) := (congrFun hf89 18).trans h18
  have h63 : fr88 63 = (Value.bool (y67.2 != 0)) := (congrFun hf89 63).trans rfl
  clear hf89
  refine thenQ.n ?_
  rcases if_some hr with ⟨hc90, hr⟩ | ⟨hc113, hr⟩
  · refine W.condT h63 hc90 ?_
    refine W.seq ?_
    obtain ⟨y106, hy106, hr⟩ := bind_some hr
    refine W.keep (u_l35_BrakeGrows_0 (Zx.refl _) st h14 h16 h18 hy106) ?_
    rintro ex112 fr107 m108 hk110 ⟨z109, hz111, st, rfl, h8, -⟩
    replace hz := hz.trans hz111
    clear hk110
    refine thenQ.n ?_
    refine W.ret ?_
    refine thenQ.r ?_
    obtain rfl := Option.some.inj hr
    exact ⟨z109, hz, st, .inr rfl, h8, trivial⟩
  · refine W.condF h63 hc113 ?_
    refine W.skip ?_
    refine thenQ.n ?_
    refine W.seq ?_
    obtain ⟨y156, hy156, hr⟩ := bind_some hr
    refine W.keep (u_l35_BrakeGrows_1 (Zx.refl _) st h13 h15 h16 h17 h18 hy156) ?_
    rintro ex162 fr157 m158 hk160 ⟨z159, hz161, st, rfl, h8, -⟩
    replace hz := hz.trans hz161
    clear hk160
    refine thenQ.n ?_
    refine W.ret ?_
    obtain rfl := Option.some.inj hr
    exact ⟨z159, hz, st, .inr rfl, h8, trivial⟩

theorem c_l35_BrakeGrows {N : Nat} {z : Nat → Blk} {m : Mem} {x0 : List Int} {x1 : Int} {x2 : Int} {x3 : Int} {v0 : Value} (fz : Fz z m) (hd : ∀ b, m.next ≤ b → m.blk b = .dead) (s0 : SlR (TInt 3 .i64) z x0 v0) {r : Bool} (hr : l35_BrakeGrows N x0 x1 x2 x3 = some r) : CallW Try.prog 4 #[v0, (Value.int .i64 x1), (Value.int .i64 x2), (Value.int .i64 x3)] m fun v m' => v = (Value.bool r) ∧ m' = m := by
  refine CallW.flat Try.func4 rfl (by kernel_rfl) (Nat.le_of_ble_eq_true rfl) rfl (z := z) (fun fr hf => ?_)
  have h0 : fr 0 = _ := hf 0 _ rfl
  have h1 : fr 1 = _ := hf 1 _ rfl
  have h2 : fr 2 = _ := hf 2 _ rfl
  have h3 : fr 3 = _ := hf 3 _ rfl
  refine (u_l35_BrakeGrows (k := none) (Zx.refl _) (St.start fz hd) h0 s0 h1 h2 h3 hr).mono ?_
  rintro ex fr' m' ⟨z', hz, st, he, h8, -⟩
  exact ⟨he, z', st, [(Value.bool r)], ⟨h8.symm, trivial⟩, .inl rfl, rfl⟩

end Go.W
