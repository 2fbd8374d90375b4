/- The models are what the program computes. -/
import Derived.Test.YthlaohffhjlkbaaWM
import Derived.Test.YthlaohffhjlkbaaProg
set_option linter.unusedVariables false
set_option linter.unusedSimpArgs false
set_option maxRecDepth 100000
set_option maxHeartbeats 4000000
namespace Go.W
open Go.AM Go.Proofs

theorem places30 {fs : Array Field} (h : Try.prog.underlying 30 = some (.struct fs)) : places Try.prog fs = [some (0, 1), some (1, 1), some (2, 1), some (3, 1), some (4, 1), some (5, 1), some (6, 1), some (7, 1)] := by
  rw [Try.underlying30] at h; cases h; rfl
theorem places56 {fs : Array Field} (h : Try.prog.underlying 56 = some (.struct fs)) : places Try.prog fs = [some (0, 1), some (1, 1)] := by
  rw [Try.underlying56] at h; cases h; rfl


/-! ### humpyard/wheel.distance -/

theorem u_wheel_distance_0 {N : Nat}  {z0 z : Nat → Blk} {e m : Mem} {k : Option Nat} {fr : Nat → Value} {x0 : Int} (hz : Zx e.next z0 z) (st : St z e m k) (h0 : fr 0 = (vI x0)) {r : Bool} (hr : wheel_distance_0 N x0 = some r) : W Try.prog (sub (bodyOf Try.f40) [1, 0]) (fun ex fr' m' => ∃ z', Zx e.next z0 z' ∧ St z' e m' k ∧ ex = AExit.normal ∧ fr' 2 = (vB r) ∧ True) fr m := by
 unfold wheel_distance_0 at hr
 refine W.region ?_
 refine sx rfl (pMove (v := (vI x0)) rfl h0) ?_
 refine sx rfl (pGeq (k := .i64) (a := x0) (b := 1) rfl rfl rfl) ?_
 refine sx rfl (pMove (v := (vB (decide (1 ≤ x0)))) rfl rfl) ?_
 rcases if_some hr with ⟨hc3, hr⟩ | ⟨hc7, hr⟩
 ·refine SeqW.consG rfl rfl rfl hc3 (StepX.pure (pMove (v := (vI x0)) rfl h0) ?_)
  refine SeqW.consG rfl rfl rfl hc3 (StepX.pure (pLeq (k := .i64) (a := x0) (b := 10000) rfl rfl rfl) ?_)
  refine sx rfl (pPick (t := true) (v := (vB (decide (x0 ≤ 10000)))) rfl ((congrArg vB hc3)) rfl) ?_
  obtain ⟨y4, hy4, hr⟩ := lt_some hr
  refine sx rfl (pAssign rfl (congrArg vB hy4)) ?_
  refine SeqW.done fun fr5 hf6 => ?_
  have h2 : fr5 2 = (vB y4) := (congrFun hf6 2).trans rfl
  clear hf6
  obtain rfl := Option.some.inj hr
  exact ⟨z, hz, st, rfl, h2, trivial⟩
 ·refine kx rfl rfl rfl hc7 ?_
  refine kx rfl rfl rfl hc7 ?_
  refine sx rfl (pPick (t := false) (v := (vB false)) rfl ((congrArg vB hc7)) rfl) ?_
  refine sx rfl (pAssign (v := (vB false)) rfl rfl) ?_
  refine SeqW.done fun fr8 hf9 => ?_
  have h2 : fr8 2 = (vB false) := (congrFun hf9 2).trans rfl
  clear hf9
  obtain rfl := Option.some.inj hr
  exact ⟨z, hz, st, rfl, h2, trivial⟩

theorem u_wheel_distance {N : Nat}  {z0 z : Nat → Blk} {e m : Mem} {k : Option Nat} {fr : Nat → Value} {x0 : Int} (hz : Zx e.next z0 z) (st : St z e m k) (h0 : fr 0 = (vI x0)) {r : Bool} (hr : wheel_distance N x0 = some r) : W Try.prog (sub (bodyOf Try.f40) []) (fun ex fr' m' => ∃ z', Zx e.next z0 z' ∧ St z' e m' k ∧ (ex = .normal ∨ ex = .ret) ∧ fr' 2 = (vB r) ∧ True) fr m := by
 unfold wheel_distance at hr
 refine W.seq (W.region ?_)
 refine sx rfl (pAssign (v := (vB false)) rfl rfl) ?_
 refine SeqW.done fun fr1 hf2 => ?_
 have h0 := (congrFun hf2 0).trans h0
 clear hf2
 refine thenQ.n (W.seq ?_)
 obtain ⟨y10, hy10, hr⟩ := bind_some hr
 refine W.keep (u_wheel_distance_0 (Zx.refl _) st h0 hy10) ?_
 rintro ex16 fr11 m12 hk14 ⟨z13, hz15, st, rfl, h2, -⟩
 replace hz := hz.trans hz15
 clear hk14
 refine thenQ.n ?_
 refine W.ret ?_
 obtain rfl := Option.some.inj hr
 exact ⟨z13, hz, st, .inr rfl, h2, trivial⟩

theorem c_wheel_distance {N : Nat} {z : Nat → Blk} {m : Mem} {x0 : Int} (fz : Fz z m) (hd : ∀ b, m.next ≤ b → m.blk b = .dead)  {r : Bool} (hr : wheel_distance N x0 = some r) : CallW Try.prog 40 #[(vI x0)] m fun v m' => v = (vB r) ∧ m' = m := by
 refine CallW.flat Try.func40 rfl (by kernel_rfl) (Nat.le_of_ble_eq_true rfl) rfl (z := z) (fun fr hf => ?_)
 have h0 : fr 0 = _ := hf 0 _ rfl
 refine (u_wheel_distance (k := none) (Zx.refl _) (St.start fz hd) h0 hr).mono ?_
 rintro ex fr' m' ⟨z', hz, st, he, h2, -⟩
 exact ⟨he, z', st, [(vB r)], ⟨h2.symm, trivial⟩, .inl rfl, rfl⟩

/-! ### humpyard/wheel.check -/

theorem u_wheel_check_0 {N : Nat}  {z0 z : Nat → Blk} {e m : Mem} {k : Option Nat} {fr : Nat → Value} {x0 : List Int} {x1 : List (List Int)} {v0 : Value} {v1 : Value} (hz : Zx e.next z0 z) (st : St z e m k) (h0 : fr 0 = v0) (s0 : SlR (TInt 3 .i64) z x0 v0) (h1 : fr 1 = v1) (s1 : SlR (TSl 22 (TInt 3 .i64)) z x1 v1) {r : Bool} (hr : wheel_check_0 N x0 x1 = some r) : W Try.prog (sub (bodyOf Try.f29) [1, 0, 0]) (fun ex fr' m' => ∃ z', Zx e.next z0 z' ∧ St z' e m' k ∧ ex = AExit.normal ∧ fr' 23 = (vB r) ∧ True) fr m := by
 unfold wheel_check_0 at hr
 refine W.region ?_
 refine sx rfl (pMove (v := v0) rfl h0) ?_
 refine sx rfl (pLenR (xs := x0) rfl Try.underlying22 rfl s0) ?_
 refine sx rfl (pGtr (k := .i64) (a := (x0.length : Int)) (b := 768) rfl rfl rfl) ?_
 refine sx rfl (pMove (v := (vB (decide (768 < (x0.length : Int))))) rfl rfl) ?_
 rcases if_some hr with ⟨hc3, hr⟩ | ⟨hc6, hr⟩
 ·refine kx rfl rfl rfl hc3 ?_
  iterate 2 refine kx rfl rfl rfl hc3 ?_
  refine sx rfl (pPick (t := true) (v := (vB true)) rfl ((congrArg vB hc3)) rfl) ?_
  refine SeqW.done fun fr4 hf5 => ?_
  have h0 := (congrFun hf5 0).trans h0
  have h1 := (congrFun hf5 1).trans h1
  have h23 : fr4 23 = (vB true) := (congrFun hf5 23).trans rfl
  clear hf5
  obtain rfl := Option.some.inj hr
  exact ⟨z, hz, st, rfl, h23, trivial⟩
 ·refine SeqW.consG rfl rfl rfl hc6 (StepX.pure (pMove (v := v1) rfl h1) ?_)
  refine SeqW.consG rfl rfl rfl hc6 (StepX.pure (pLenR (xs := x1) rfl Try.underlying23 rfl s1) ?_)
  refine SeqW.consG rfl rfl rfl hc6 (StepX.pure (pGtr (k := .i64) (a := (x1.length : Int)) (b := 16) rfl rfl rfl) ?_)
  refine sx rfl (pPick (t := false) (v := (vB (decide (16 < (x1.length : Int))))) rfl ((congrArg vB hc6)) rfl) ?_
  refine SeqW.done fun fr7 hf8 => ?_
  have h0 := (congrFun hf8 0).trans h0
  have h1 := (congrFun hf8 1).trans h1
  have h23 : fr7 23 = (vB (decide (16 < (x1.length : Int)))) := (congrFun hf8 23).trans rfl
  clear hf8
  obtain rfl := Option.some.inj hr
  exact ⟨z, hz, st, rfl, h23, trivial⟩

theorem u_wheel_check_1 : ∀ (n : Nat) {N : Nat}  {z0 z : Nat → Blk} {e m : Mem} {k : Option Nat} {fr : Nat → Value} {x24 : List (List Int)} {x25 : Int} {x26 : Int} {v24 : Value} (hz : Zx e.next z0 z) (st : St z e m k) (h24 : fr 24 = v24) (s24 : SlR (TSl 22 (TInt 3 .i64)) z x24 v24) (h25 : fr 25 = (vI x25)) (h26 : fr 26 = (vI x26)) {r : Sum (Unit) (Int)} (hr : wheel_check_1 N x24 x25 n x26 = some r), W Try.prog (sub (bodyOf Try.f29) [1, 1, 0, 1, 0]) (fun ex fr' m' => ∃ z', Zx e.next z0 z' ∧ St z' e m' k ∧ ((∃ q, r = Sum.inl q ∧ ex = AExit.exit 0 ∧ True) ∨ (∃ q, r = Sum.inr q ∧ ex = AExit.ret ∧ fr' 6 = (vI q) ∧ True))) fr m := by
 intro n
 induction n with
 | zero => intro N z0 z e m k fr x24 x25 x26 v24 hz st h24 s24 h25 h26 r hr; cases (show (none : Option _) = some r from hr)
 | succ n ih =>
  intro N z0 z e m k fr x24 x25 x26 v24 hz st h24 s24 h25 h26 r hr
  unfold wheel_check_1 at hr
  refine W.loop1 ?_
  refine W.seq (W.region ?_)
  refine sx rfl (pLss (k := .i64) (a := x26) (b := x25) rfl h26 h25) ?_
  refine SeqW.done fun fr22 hf23 => ?_
  have h24 := (congrFun hf23 24).trans h24
  have h25 := (congrFun hf23 25).trans h25
  have h26 := (congrFun hf23 26).trans h26
  have h27 : fr22 27 = (vB (decide (x26 < x25))) := (congrFun hf23 27).trans rfl
  clear hf23
  refine thenQ.n (W.seq ?_)
  rcases if_some hr with ⟨hc24, hr⟩ | ⟨hc44, hr⟩
  ·refine W.condT h27 hc24 (W.skip ?_)
   refine thenQ.n (W.seq ?_)
   refine W.block ?_
   refine W.seq (W.region ?_)
   obtain ⟨y25, hy25, hr⟩ := bind_some hr
   refine SeqW.consX rfl (kIdxR (T := (TSl 22 (TInt 3 .i64))) (xs := x24) (n := x26) rfl Try.underlying23 Try.type22 rfl h24 h26 s24 hy25 ?_)
   intro B26 f27 cs28 hd29 hc30
   obtain ⟨V31, rfl, Q32⟩ := hd29
   refine SeqW.consX rfl (kLoad (v := V31) rfl Try.underlying22 rfl rfl (ldz_load st.fz (hc30 0 _ rfl)) ?_)
   refine sx rfl (pAssign (v := V31) rfl rfl) ?_
   refine SeqW.done fun fr34 hf35 => ?_
   have h8 : fr34 8 = V31 := (congrFun hf35 8).trans rfl
   have h24 := (congrFun hf35 24).trans h24
   have h25 := (congrFun hf35 25).trans h25
   have h26 := (congrFun hf35 26).trans h26
   clear hf35
   refine thenQ.n (W.seq (W.region ?_))
   refine sx rfl (pMove (v := V31) rfl h8) ?_
   refine sx rfl (pLenR (xs := y25) rfl Try.underlying22 rfl Q32) ?_
   refine sx rfl (pGtr (k := .i64) (a := (y25.length : Int)) (b := 5) rfl rfl rfl) ?_
   refine SeqW.done fun fr36 hf37 => ?_
   have h24 := (congrFun hf37 24).trans h24
   have h25 := (congrFun hf37 25).trans h25
   have h26 := (congrFun hf37 26).trans h26
   have h32 : fr36 32 = (vB (decide (5 < (y25.length : Int)))) := (congrFun hf37 32).trans rfl
   clear hf37
   refine thenQ.n ?_
   rcases if_some hr with ⟨hc38, hr⟩ | ⟨hc41, hr⟩
   ·refine W.condT h32 hc38 (W.seq (W.region ?_))
    refine sx rfl (pAssign (v := (vI 3)) rfl rfl) ?_
    refine SeqW.done fun fr39 hf40 => ?_
    have h6 : fr39 6 = (vI 3) := (congrFun hf40 6).trans rfl
    clear hf40
    refine thenQ.n ?_
    refine W.ret ?_
    refine blockQ.r ?_
    refine thenQ.r ?_
    refine thenQ.r ?_
    obtain rfl := Option.some.inj hr
    exact ⟨z, hz, st, .inr ⟨_, rfl, rfl, h6, trivial⟩⟩
   ·refine W.condF h32 hc41 (W.skip ?_)
    refine blockQ.n ?_
    refine thenQ.n (W.region ?_)
    refine sx rfl (pAdd (k := .i64) (a := x26) (b := 1) rfl h26 rfl) ?_
    refine sx rfl (pMove (v := (vI (IntKind.wrap .i64 (x26 + 1)))) rfl rfl) ?_
    refine SeqW.done fun fr42 hf43 => ?_
    have h24 := (congrFun hf43 24).trans h24
    have h25 := (congrFun hf43 25).trans h25
    have h26 : fr42 26 = (vI (IntKind.wrap .i64 (x26 + 1))) := (congrFun hf43 26).trans rfl
    clear hf43
    refine thenQ.n ?_
    exact ih hz st h24 s24 h25 h26 hr
  ·refine W.condF h27 hc44 ?_
   refine W.exit ?_
   refine thenQ.x ?_
   refine thenQ.x ?_
   obtain rfl := Option.some.inj hr
   exact ⟨z, hz, st, .inl ⟨_, rfl, rfl, trivial⟩⟩

theorem u_wheel_check_2 {N : Nat}  {z0 z : Nat → Blk} {e m : Mem} {k : Option Nat} {fr : Nat → Value} {x2 : Int} (hz : Zx e.next z0 z) (st : St z e m k) (h2 : fr 2 = (vI x2)) {r : Bool} (hr : wheel_check_2 N x2 = some r) : W Try.prog (sub (bodyOf Try.f29) [1, 1, 1, 0]) (fun ex fr' m' => ∃ z', Zx e.next z0 z' ∧ St z' e m' k ∧ ex = AExit.normal ∧ fr' 9 = (vB r) ∧ True) fr m := by
 unfold wheel_check_2 at hr
 refine W.region ?_
 refine sx rfl (pMove (v := (vI x2)) rfl h2) ?_
 refine sx rfl (pGeq (k := .i64) (a := x2) (b := 0) rfl rfl rfl) ?_
 refine sx rfl (pMove (v := (vB (decide (0 ≤ x2)))) rfl rfl) ?_
 rcases if_some hr with ⟨hc53, hr⟩ | ⟨hc57, hr⟩
 ·refine SeqW.consG rfl rfl rfl hc53 (StepX.pure (pMove (v := (vI x2)) rfl h2) ?_)
  refine SeqW.consG rfl rfl rfl hc53 (StepX.pure (pLeq (k := .i64) (a := x2) (b := 10000) rfl rfl rfl) ?_)
  refine sx rfl (pPick (t := true) (v := (vB (decide (x2 ≤ 10000)))) rfl ((congrArg vB hc53)) rfl) ?_
  obtain ⟨y54, hy54, hr⟩ := lt_some hr
  refine sx rfl (pAssign rfl (congrArg vB hy54)) ?_
  refine SeqW.done fun fr55 hf56 => ?_
  have h9 : fr55 9 = (vB y54) := (congrFun hf56 9).trans rfl
  clear hf56
  obtain rfl := Option.some.inj hr
  exact ⟨z, hz, st, rfl, h9, trivial⟩
 ·refine kx rfl rfl rfl hc57 ?_
  refine kx rfl rfl rfl hc57 ?_
  refine sx rfl (pPick (t := false) (v := (vB false)) rfl ((congrArg vB hc57)) rfl) ?_
  refine sx rfl (pAssign (v := (vB false)) rfl rfl) ?_
  refine SeqW.done fun fr58 hf59 => ?_
  have h9 : fr58 9 = (vB false) := (congrFun hf59 9).trans rfl
  clear hf59
  obtain rfl := Option.some.inj hr
  exact ⟨z, hz, st, rfl, h9, trivial⟩

theorem u_wheel_check_4 {N : Nat}  {z0 z : Nat → Blk} {e m : Mem} {k : Option Nat} {fr : Nat → Value} {x9 : Bool} {x11 : Int} (hz : Zx e.next z0 z) (st : St z e m k) (h9 : fr 9 = (vB x9)) (h11 : fr 11 = (vI x11)) {r : Bool} (hr : wheel_check_4 N x9 x11 = some r) : W Try.prog (sub (bodyOf Try.f29) [1, 1, 1, 1, 0, 1, 0, 0, 1, 1, 0, 0, 1]) (fun ex fr' m' => ∃ z', Zx e.next z0 z' ∧ St z' e m' k ∧ ex = AExit.normal ∧ fr' 9 = (vB r) ∧ True) fr m := by
 unfold wheel_check_4 at hr
 refine W.region ?_
 refine sx rfl (pMove (v := (vB x9)) rfl h9) ?_
 refine sx rfl (pMove (v := (vB x9)) rfl rfl) ?_
 rcases if_some hr with ⟨hc80, hr⟩ | ⟨hc84, hr⟩
 ·refine SeqW.consG rfl rfl rfl hc80 (StepX.pure (pMove (v := (vI x11)) rfl h11) ?_)
  obtain ⟨y81, hy81, hr⟩ := bind_some hr
  refine SeqW.consG rfl rfl rfl hc80 (StepX.call (gCallee rfl rfl (args1 rfl)) ((c_wheel_distance (z := z) st.fz st.dead  hy81).mono ?_))
  rintro _ _ ⟨rfl, rfl⟩
  refine sx rfl (pPick (t := true) (v := (vB y81)) rfl ((congrArg vB hc80)) rfl) ?_
  refine sx rfl (pAssign (v := (vB y81)) rfl rfl) ?_
  refine SeqW.done fun fr82 hf83 => ?_
  have h9 : fr82 9 = (vB y81) := (congrFun hf83 9).trans rfl
  clear hf83
  obtain rfl := Option.some.inj hr
  exact ⟨z, hz, st, rfl, h9, trivial⟩
 ·refine kx rfl rfl rfl hc84 ?_
  refine kx rfl rfl rfl hc84 ?_
  refine sx rfl (pPick (t := false) (v := (vB false)) rfl ((congrArg vB hc84)) rfl) ?_
  refine sx rfl (pAssign (v := (vB false)) rfl rfl) ?_
  refine SeqW.done fun fr85 hf86 => ?_
  have h9 : fr85 9 = (vB false) := (congrFun hf86 9).trans rfl
  clear hf86
  obtain rfl := Option.some.inj hr
  exact ⟨z, hz, st, rfl, h9, trivial⟩

theorem u_wheel_check_3 : ∀ (n : Nat) {N : Nat}  {z0 z : Nat → Blk} {e m : Mem} {k : Option Nat} {fr : Nat → Value} {x9 : Bool} {x40 : List Int} {x41 : Int} {x42 : Int} {v40 : Value} (hz : Zx e.next z0 z) (st : St z e m k) (h9 : fr 9 = (vB x9)) (h40 : fr 40 = v40) (s40 : SlR (TInt 3 .i64) z x40 v40) (h41 : fr 41 = (vI x41)) (h42 : fr 42 = (vI x42)) {r : Bool} (hr : wheel_check_3 N x40 x41 n x9 x42 = some r), W Try.prog (sub (bodyOf Try.f29) [1, 1, 1, 1, 0, 1, 0]) (fun ex fr' m' => ∃ z', Zx e.next z0 z' ∧ St z' e m' k ∧ ex = AExit.exit 2 ∧ fr' 9 = (vB r) ∧ True) fr m := by
 intro n
 induction n with
 | zero => intro N z0 z e m k fr x9 x40 x41 x42 v40 hz st h9 h40 s40 h41 h42 r hr; cases (show (none : Option _) = some r from hr)
 | succ n ih =>
  intro N z0 z e m k fr x9 x40 x41 x42 v40 hz st h9 h40 s40 h41 h42 r hr
  unfold wheel_check_3 at hr
  refine W.loop1 ?_
  refine W.seq (W.region ?_)
  refine sx rfl (pLss (k := .i64) (a := x42) (b := x41) rfl h42 h41) ?_
  refine SeqW.done fun fr69 hf70 => ?_
  have h9 := (congrFun hf70 9).trans h9
  have h40 := (congrFun hf70 40).trans h40
  have h41 := (congrFun hf70 41).trans h41
  have h42 := (congrFun hf70 42).trans h42
  have h43 : fr69 43 = (vB (decide (x42 < x41))) := (congrFun hf70 43).trans rfl
  clear hf70
  refine thenQ.n (W.seq ?_)
  rcases if_some hr with ⟨hc71, hr⟩ | ⟨hc96, hr⟩
  ·refine W.condT h43 hc71 (W.skip ?_)
   refine thenQ.n (W.seq ?_)
   refine W.block ?_
   refine W.seq (W.region ?_)
   obtain ⟨y72, hy72, hr⟩ := bind_some hr
   refine SeqW.consX rfl (kIdxR (T := (TInt 3 .i64)) (xs := x40) (n := x42) rfl Try.underlying22 Try.type3 rfl h40 h42 s40 hy72 ?_)
   intro B73 f74 cs75 hd76 hc77
   obtain rfl := hd76
   refine SeqW.consX rfl (kLoad (v := (vI y72)) rfl Try.underlying3 rfl rfl (ldz_load st.fz (hc77 0 _ rfl)) ?_)
   refine sx rfl (pAssign (v := (vI y72)) rfl rfl) ?_
   refine SeqW.done fun fr78 hf79 => ?_
   have h9 := (congrFun hf79 9).trans h9
   have h11 : fr78 11 = (vI y72) := (congrFun hf79 11).trans rfl
   have h40 := (congrFun hf79 40).trans h40
   have h41 := (congrFun hf79 41).trans h41
   have h42 := (congrFun hf79 42).trans h42
   clear hf79
   refine thenQ.n ?_
   obtain ⟨y87, hy87, hr⟩ := bind_some hr
   refine W.keep (u_wheel_check_4 (Zx.refl _) st h9 h11 hy87) ?_
   rintro ex93 fr88 m89 hk91 ⟨z90, hz92, st, rfl, h9, -⟩
   replace s40 := s40.mono hz92.le
   have h40 := (hk91 40 rfl).trans h40
   have h41 := (hk91 41 rfl).trans h41
   have h42 := (hk91 42 rfl).trans h42
   replace hz := hz.trans hz92
   clear hk91
   refine blockQ.n ?_
   refine thenQ.n (W.region ?_)
   refine sx rfl (pAdd (k := .i64) (a := x42) (b := 1) rfl h42 rfl) ?_
   refine sx rfl (pMove (v := (vI (IntKind.wrap .i64 (x42 + 1)))) rfl rfl) ?_
   refine SeqW.done fun fr94 hf95 => ?_
   have h9 := (congrFun hf95 9).trans h9
   have h40 := (congrFun hf95 40).trans h40
   have h41 := (congrFun hf95 41).trans h41
   have h42 : fr94 42 = (vI (IntKind.wrap .i64 (x42 + 1))) := (congrFun hf95 42).trans rfl
   clear hf95
   refine thenQ.n ?_
   exact ih hz st h9 h40 s40 h41 h42 hr
  ·refine W.condF h43 hc96 ?_
   refine W.exit ?_
   refine thenQ.x ?_
   refine thenQ.x ?_
   obtain rfl := Option.some.inj hr
   exact ⟨z, hz, st, rfl, h9, trivial⟩

theorem u_wheel_check_7 {N : Nat}  {z0 z : Nat → Blk} {e m : Mem} {k : Option Nat} {fr : Nat → Value} {x9 : Bool} {x15 : Int} (hz : Zx e.next z0 z) (st : St z e m k) (h9 : fr 9 = (vB x9)) (h15 : fr 15 = (vI x15)) {r : Bool} (hr : wheel_check_7 N x9 x15 = some r) : W Try.prog (sub (bodyOf Try.f29) [1, 1, 1, 1, 1, 0, 1, 0, 0, 1, 1, 0, 0, 1, 1, 0, 0, 1, 1, 0, 0, 1]) (fun ex fr' m' => ∃ z', Zx e.next z0 z' ∧ St z' e m' k ∧ ex = AExit.normal ∧ fr' 9 = (vB r) ∧ True) fr m := by
 unfold wheel_check_7 at hr
 refine W.region ?_
 refine sx rfl (pMove (v := (vB x9)) rfl h9) ?_
 refine sx rfl (pMove (v := (vB x9)) rfl rfl) ?_
 rcases if_some hr with ⟨hc133, hr⟩ | ⟨hc137, hr⟩
 ·refine SeqW.consG rfl rfl rfl hc133 (StepX.pure (pMove (v := (vI x15)) rfl h15) ?_)
  obtain ⟨y134, hy134, hr⟩ := bind_some hr
  refine SeqW.consG rfl rfl rfl hc133 (StepX.call (gCallee rfl rfl (args1 rfl)) ((c_wheel_distance (z := z) st.fz st.dead  hy134).mono ?_))
  rintro _ _ ⟨rfl, rfl⟩
  refine sx rfl (pPick (t := true) (v := (vB y134)) rfl ((congrArg vB hc133)) rfl) ?_
  refine sx rfl (pAssign (v := (vB y134)) rfl rfl) ?_
  refine SeqW.done fun fr135 hf136 => ?_
  have h9 : fr135 9 = (vB y134) := (congrFun hf136 9).trans rfl
  clear hf136
  obtain rfl := Option.some.inj hr
  exact ⟨z, hz, st, rfl, h9, trivial⟩
 ·refine kx rfl rfl rfl hc137 ?_
  refine kx rfl rfl rfl hc137 ?_
  refine sx rfl (pPick (t := false) (v := (vB false)) rfl ((congrArg vB hc137)) rfl) ?_
  refine sx rfl (pAssign (v := (vB false)) rfl rfl) ?_
  refine SeqW.done fun fr138 hf139 => ?_
  have h9 : fr138 9 = (vB false) := (congrFun hf139 9).trans rfl
  clear hf139
  obtain rfl := Option.some.inj hr
  exact ⟨z, hz, st, rfl, h9, trivial⟩

theorem u_wheel_check_6 : ∀ (n : Nat) {N : Nat}  {z0 z : Nat → Blk} {e m : Mem} {k : Option Nat} {fr : Nat → Value} {x9 : Bool} {x58 : List Int} {x59 : Int} {x60 : Int} {v58 : Value} (hz : Zx e.next z0 z) (st : St z e m k) (h9 : fr 9 = (vB x9)) (h58 : fr 58 = v58) (s58 : SlR (TInt 3 .i64) z x58 v58) (h59 : fr 59 = (vI x59)) (h60 : fr 60 = (vI x60)) {r : Bool} (hr : wheel_check_6 N x58 x59 n x9 x60 = some r), W Try.prog (sub (bodyOf Try.f29) [1, 1, 1, 1, 1, 0, 1, 0, 0, 1, 1, 0, 0, 1, 1, 0]) (fun ex fr' m' => ∃ z', Zx e.next z0 z' ∧ St z' e m' k ∧ ex = AExit.exit 6 ∧ fr' 9 = (vB r) ∧ True) fr m := by
 intro n
 induction n with
 | zero => intro N z0 z e m k fr x9 x58 x59 x60 v58 hz st h9 h58 s58 h59 h60 r hr; cases (show (none : Option _) = some r from hr)
 | succ n ih =>
  intro N z0 z e m k fr x9 x58 x59 x60 v58 hz st h9 h58 s58 h59 h60 r hr
  unfold wheel_check_6 at hr
  refine W.loop1 ?_
  refine W.seq (W.region ?_)
  refine sx rfl (pLss (k := .i64) (a := x60) (b := x59) rfl h60 h59) ?_
  refine SeqW.done fun fr122 hf123 => ?_
  have h9 := (congrFun hf123 9).trans h9
  have h58 := (congrFun hf123 58).trans h58
  have h59 := (congrFun hf123 59).trans h59
  have h60 := (congrFun hf123 60).trans h60
  have h61 : fr122 61 = (vB (decide (x60 < x59))) := (congrFun hf123 61).trans rfl
  clear hf123
  refine thenQ.n (W.seq ?_)
  rcases if_some hr with ⟨hc124, hr⟩ | ⟨hc149, hr⟩
  ·refine W.condT h61 hc124 (W.skip ?_)
   refine thenQ.n (W.seq ?_)
   refine W.block ?_
   refine W.seq (W.region ?_)
   obtain ⟨y125, hy125, hr⟩ := bind_some hr
   refine SeqW.consX rfl (kIdxR (T := (TInt 3 .i64)) (xs := x58) (n := x60) rfl Try.underlying22 Try.type3 rfl h58 h60 s58 hy125 ?_)
   intro B126 f127 cs128 hd129 hc130
   obtain rfl := hd129
   refine SeqW.consX rfl (kLoad (v := (vI y125)) rfl Try.underlying3 rfl rfl (ldz_load st.fz (hc130 0 _ rfl)) ?_)
   refine sx rfl (pAssign (v := (vI y125)) rfl rfl) ?_
   refine SeqW.done fun fr131 hf132 => ?_
   have h9 := (congrFun hf132 9).trans h9
   have h15 : fr131 15 = (vI y125) := (congrFun hf132 15).trans rfl
   have h58 := (congrFun hf132 58).trans h58
   have h59 := (congrFun hf132 59).trans h59
   have h60 := (congrFun hf132 60).trans h60
   clear hf132
   refine thenQ.n ?_
   obtain ⟨y140, hy140, hr⟩ := bind_some hr
   refine W.keep (u_wheel_check_7 (Zx.refl _) st h9 h15 hy140) ?_
   rintro ex146 fr141 m142 hk144 ⟨z143, hz145, st, rfl, h9, -⟩
   replace s58 := s58.mono hz145.le
   have h58 := (hk144 58 rfl).trans h58
   have h59 := (hk144 59 rfl).trans h59
   have h60 := (hk144 60 rfl).trans h60
   replace hz := hz.trans hz145
   clear hk144
   refine blockQ.n ?_
   refine thenQ.n (W.region ?_)
   refine sx rfl (pAdd (k := .i64) (a := x60) (b := 1) rfl h60 rfl) ?_
   refine sx rfl (pMove (v := (vI (IntKind.wrap .i64 (x60 + 1)))) rfl rfl) ?_
   refine SeqW.done fun fr147 hf148 => ?_
   have h9 := (congrFun hf148 9).trans h9
   have h58 := (congrFun hf148 58).trans h58
   have h59 := (congrFun hf148 59).trans h59
   have h60 : fr147 60 = (vI (IntKind.wrap .i64 (x60 + 1))) := (congrFun hf148 60).trans rfl
   clear hf148
   refine thenQ.n ?_
   exact ih hz st h9 h58 s58 h59 h60 hr
  ·refine W.condF h61 hc149 ?_
   refine W.exit ?_
   refine thenQ.x ?_
   refine thenQ.x ?_
   obtain rfl := Option.some.inj hr
   exact ⟨z, hz, st, rfl, h9, trivial⟩

theorem u_wheel_check_5 : ∀ (n : Nat) {N : Nat}  {z0 z : Nat → Blk} {e m : Mem} {k : Option Nat} {fr : Nat → Value} {x9 : Bool} {x52 : List (List Int)} {x53 : Int} {x54 : Int} {v52 : Value} (hz : Zx e.next z0 z) (st : St z e m k) (h9 : fr 9 = (vB x9)) (h52 : fr 52 = v52) (s52 : SlR (TSl 22 (TInt 3 .i64)) z x52 v52) (h53 : fr 53 = (vI x53)) (h54 : fr 54 = (vI x54)) {r : Bool} (hr : wheel_check_5 N x52 x53 n x9 x54 = some r), W Try.prog (sub (bodyOf Try.f29) [1, 1, 1, 1, 1, 0, 1, 0]) (fun ex fr' m' => ∃ z', Zx e.next z0 z' ∧ St z' e m' k ∧ ex = AExit.exit 4 ∧ fr' 9 = (vB r) ∧ True) fr m := by
 intro n
 induction n with
 | zero => intro N z0 z e m k fr x9 x52 x53 x54 v52 hz st h9 h52 s52 h53 h54 r hr; cases (show (none : Option _) = some r from hr)
 | succ n ih =>
  intro N z0 z e m k fr x9 x52 x53 x54 v52 hz st h9 h52 s52 h53 h54 r hr
  unfold wheel_check_5 at hr
  refine W.loop1 ?_
  refine W.seq (W.region ?_)
  refine sx rfl (pLss (k := .i64) (a := x54) (b := x53) rfl h54 h53) ?_
  refine SeqW.done fun fr106 hf107 => ?_
  have h9 := (congrFun hf107 9).trans h9
  have h52 := (congrFun hf107 52).trans h52
  have h53 := (congrFun hf107 53).trans h53
  have h54 := (congrFun hf107 54).trans h54
  have h55 : fr106 55 = (vB (decide (x54 < x53))) := (congrFun hf107 55).trans rfl
  clear hf107
  refine thenQ.n (W.seq ?_)
  rcases if_some hr with ⟨hc108, hr⟩ | ⟨hc159, hr⟩
  ·refine W.condT h55 hc108 (W.skip ?_)
   refine thenQ.n (W.seq ?_)
   refine W.block ?_
   refine W.seq (W.region ?_)
   obtain ⟨y109, hy109, hr⟩ := bind_some hr
   refine SeqW.consX rfl (kIdxR (T := (TSl 22 (TInt 3 .i64))) (xs := x52) (n := x54) rfl Try.underlying23 Try.type22 rfl h52 h54 s52 hy109 ?_)
   intro B110 f111 cs112 hd113 hc114
   obtain ⟨V115, rfl, Q116⟩ := hd113
   refine SeqW.consX rfl (kLoad (v := V115) rfl Try.underlying22 rfl rfl (ldz_load st.fz (hc114 0 _ rfl)) ?_)
   refine sx rfl (pAssign (v := V115) rfl rfl) ?_
   refine SeqW.done fun fr118 hf119 => ?_
   have h9 := (congrFun hf119 9).trans h9
   have h13 : fr118 13 = V115 := (congrFun hf119 13).trans rfl
   have h52 := (congrFun hf119 52).trans h52
   have h53 := (congrFun hf119 53).trans h53
   have h54 := (congrFun hf119 54).trans h54
   clear hf119
   refine thenQ.n (W.seq (W.region ?_))
   refine sx rfl (pMove (v := V115) rfl h13) ?_
   refine sx rfl (pLenR (xs := y109) rfl Try.underlying22 rfl Q116) ?_
   refine sx rfl (pMove (v := (vI 0)) rfl rfl) ?_
   refine SeqW.done fun fr120 hf121 => ?_
   have h9 := (congrFun hf121 9).trans h9
   have h52 := (congrFun hf121 52).trans h52
   have h53 := (congrFun hf121 53).trans h53
   have h54 := (congrFun hf121 54).trans h54
   have h58 : fr120 58 = V115 := (congrFun hf121 58).trans rfl
   have h59 : fr120 59 = (vI (y109.length : Int)) := (congrFun hf121 59).trans rfl
   have h60 : fr120 60 = (vI 0) := (congrFun hf121 60).trans rfl
   clear hf121
   refine thenQ.n ?_
   refine W.block ?_
   obtain ⟨y150, hy150, hr⟩ := bind_some hr
   refine W.keep (u_wheel_check_6 _ (Zx.refl _) st h9 h58 Q116 h59 h60 hy150) ?_
   rintro ex156 fr151 m152 hk154 ⟨z153, hz155, st, rfl, h9, -⟩
   replace s52 := s52.mono hz155.le
   have h52 := (hk154 52 rfl).trans h52
   have h53 := (hk154 53 rfl).trans h53
   have h54 := (hk154 54 rfl).trans h54
   replace hz := hz.trans hz155
   clear hk154
   refine blockQ.hit ?_
   refine blockQ.n ?_
   refine thenQ.n (W.region ?_)
   refine sx rfl (pAdd (k := .i64) (a := x54) (b := 1) rfl h54 rfl) ?_
   refine sx rfl (pMove (v := (vI (IntKind.wrap .i64 (x54 + 1)))) rfl rfl) ?_
   refine SeqW.done fun fr157 hf158 => ?_
   have h9 := (congrFun hf158 9).trans h9
   have h52 := (congrFun hf158 52).trans h52
   have h53 := (congrFun hf158 53).trans h53
   have h54 : fr157 54 = (vI (IntKind.wrap .i64 (x54 + 1))) := (congrFun hf158 54).trans rfl
   clear hf158
   refine thenQ.n ?_
   exact ih hz st h9 h52 s52 h53 h54 hr
  ·refine W.condF h55 hc159 ?_
   refine W.exit ?_
   refine thenQ.x ?_
   refine thenQ.x ?_
   obtain rfl := Option.some.inj hr
   exact ⟨z, hz, st, rfl, h9, trivial⟩

theorem u_wheel_check {N : Nat}  {z0 z : Nat → Blk} {e m : Mem} {k : Option Nat} {fr : Nat → Value} {x0 : List Int} {x1 : List (List Int)} {x2 : Int} {v0 : Value} {v1 : Value} (hz : Zx e.next z0 z) (st : St z e m k) (h0 : fr 0 = v0) (s0 : SlR (TInt 3 .i64) z x0 v0) (h1 : fr 1 = v1) (s1 : SlR (TSl 22 (TInt 3 .i64)) z x1 v1) (h2 : fr 2 = (vI x2)) {r : Int} (hr : wheel_check N x0 x1 x2 = some r) : W Try.prog (sub (bodyOf Try.f29) []) (fun ex fr' m' => ∃ z', Zx e.next z0 z' ∧ St z' e m' k ∧ (ex = .normal ∨ ex = .ret) ∧ fr' 6 = (vI r) ∧ True) fr m := by
 unfold wheel_check at hr
 refine W.seq (W.region ?_)
 refine sx rfl (pAssign (v := (vI 0)) rfl rfl) ?_
 refine SeqW.done fun fr1 hf2 => ?_
 have h0 := (congrFun hf2 0).trans h0
 have h1 := (congrFun hf2 1).trans h1
 have h2 := (congrFun hf2 2).trans h2
 clear hf2
 refine thenQ.n (W.seq (W.seq ?_))
 obtain ⟨y9, hy9, hr⟩ := bind_some hr
 refine W.keep (u_wheel_check_0 (Zx.refl _) st h0 s0 h1 s1 hy9) ?_
 rintro ex15 fr10 m11 hk13 ⟨z12, hz14, st, rfl, h23, -⟩
 replace s0 := s0.mono hz14.le
 replace s1 := s1.mono hz14.le
 have h0 := (hk13 0 rfl).trans h0
 have h1 := (hk13 1 rfl).trans h1
 have h2 := (hk13 2 rfl).trans h2
 replace hz := hz.trans hz14
 clear hk13
 refine thenQ.n ?_
 rcases if_some hr with ⟨hc16, hr⟩ | ⟨hc19, hr⟩
 ·refine W.condT h23 hc16 (W.seq (W.region ?_))
  refine sx rfl (pAssign (v := (vI 3)) rfl rfl) ?_
  refine SeqW.done fun fr17 hf18 => ?_
  have h6 : fr17 6 = (vI 3) := (congrFun hf18 6).trans rfl
  clear hf18
  refine thenQ.n ?_
  refine W.ret ?_
  refine thenQ.r ?_
  obtain rfl := Option.some.inj hr
  exact ⟨z12, hz, st, .inr rfl, h6, trivial⟩
 ·refine W.condF h23 hc19 (W.skip ?_)
  refine thenQ.n (W.seq ?_)
  refine W.seq (W.region ?_)
  refine sx rfl (pMove (v := v1) rfl h1) ?_
  refine sx rfl (pLenR (xs := x1) rfl Try.underlying23 rfl s1) ?_
  refine sx rfl (pMove (v := (vI 0)) rfl rfl) ?_
  refine SeqW.done fun fr20 hf21 => ?_
  have h0 := (congrFun hf21 0).trans h0
  have h1 := (congrFun hf21 1).trans h1
  have h2 := (congrFun hf21 2).trans h2
  have h24 : fr20 24 = v1 := (congrFun hf21 24).trans rfl
  have h25 : fr20 25 = (vI (x1.length : Int)) := (congrFun hf21 25).trans rfl
  have h26 : fr20 26 = (vI 0) := (congrFun hf21 26).trans rfl
  clear hf21
  refine thenQ.n ?_
  refine W.block ?_
  obtain ⟨y45, hy45, hr⟩ := bind_some hr
  refine W.keep (u_wheel_check_1 _ (Zx.refl _) st h24 s1 h25 h26 hy45) ?_
  rintro ex51 fr46 m47 hk49 ⟨z48, hz50, st, ⟨y52, rfl, rfl, -⟩ | ⟨y175, rfl, rfl, h6, -⟩⟩
  ·dsimp only at hr
   replace s0 := s0.mono hz50.le
   replace s1 := s1.mono hz50.le
   have h0 := (hk49 0 rfl).trans h0
   have h1 := (hk49 1 rfl).trans h1
   have h2 := (hk49 2 rfl).trans h2
   replace hz := hz.trans hz50
   clear hk49
   refine blockQ.hit ?_
   refine thenQ.n (W.seq ?_)
   obtain ⟨y60, hy60, hr⟩ := bind_some hr
   refine W.keep (u_wheel_check_2 (Zx.refl _) st h2 hy60) ?_
   rintro ex66 fr61 m62 hk64 ⟨z63, hz65, st, rfl, h9, -⟩
   replace s0 := s0.mono hz65.le
   replace s1 := s1.mono hz65.le
   have h0 := (hk64 0 rfl).trans h0
   have h1 := (hk64 1 rfl).trans h1
   replace hz := hz.trans hz65
   clear hk64
   refine thenQ.n (W.seq ?_)
   refine W.seq (W.region ?_)
   refine sx rfl (pMove (v := v0) rfl h0) ?_
   refine sx rfl (pLenR (xs := x0) rfl Try.underlying22 rfl s0) ?_
   refine sx rfl (pMove (v := (vI 0)) rfl rfl) ?_
   refine SeqW.done fun fr67 hf68 => ?_
   have h1 := (congrFun hf68 1).trans h1
   have h9 := (congrFun hf68 9).trans h9
   have h40 : fr67 40 = v0 := (congrFun hf68 40).trans rfl
   have h41 : fr67 41 = (vI (x0.length : Int)) := (congrFun hf68 41).trans rfl
   have h42 : fr67 42 = (vI 0) := (congrFun hf68 42).trans rfl
   clear hf68
   refine thenQ.n ?_
   refine W.block ?_
   obtain ⟨y97, hy97, hr⟩ := bind_some hr
   refine W.keep (u_wheel_check_3 _ (Zx.refl _) st h9 h40 s0 h41 h42 hy97) ?_
   rintro ex103 fr98 m99 hk101 ⟨z100, hz102, st, rfl, h9, -⟩
   replace s1 := s1.mono hz102.le
   have h1 := (hk101 1 rfl).trans h1
   replace hz := hz.trans hz102
   clear hk101
   refine blockQ.hit ?_
   refine thenQ.n (W.seq ?_)
   refine W.seq (W.region ?_)
   refine sx rfl (pMove (v := v1) rfl h1) ?_
   refine sx rfl (pLenR (xs := x1) rfl Try.underlying23 rfl s1) ?_
   refine sx rfl (pMove (v := (vI 0)) rfl rfl) ?_
   refine SeqW.done fun fr104 hf105 => ?_
   have h9 := (congrFun hf105 9).trans h9
   have h52 : fr104 52 = v1 := (congrFun hf105 52).trans rfl
   have h53 : fr104 53 = (vI (x1.length : Int)) := (congrFun hf105 53).trans rfl
   have h54 : fr104 54 = (vI 0) := (congrFun hf105 54).trans rfl
   clear hf105
   refine thenQ.n ?_
   refine W.block ?_
   obtain ⟨y160, hy160, hr⟩ := bind_some hr
   refine W.keep (u_wheel_check_5 _ (Zx.refl _) st h9 h52 s1 h53 h54 hy160) ?_
   rintro ex166 fr161 m162 hk164 ⟨z163, hz165, st, rfl, h9, -⟩
   replace hz := hz.trans hz165
   clear hk164
   refine blockQ.hit ?_
   refine thenQ.n (W.seq ?_)
   refine W.seq (W.region ?_)
   refine sx rfl (pMove (v := (vB y160)) rfl h9) ?_
   refine sx rfl (pNot (b := y160) rfl rfl) ?_
   refine SeqW.done fun fr167 hf168 => ?_
   have h72 : fr167 72 = (vB (!y160)) := (congrFun hf168 72).trans rfl
   clear hf168
   refine thenQ.n ?_
   rcases if_some hr with ⟨hc169, hr⟩ | ⟨hc172, hr⟩
   ·refine W.condT h72 hc169 (W.seq (W.region ?_))
    refine sx rfl (pAssign (v := (vI 2)) rfl rfl) ?_
    refine SeqW.done fun fr170 hf171 => ?_
    have h6 : fr170 6 = (vI 2) := (congrFun hf171 6).trans rfl
    clear hf171
    refine thenQ.n ?_
    refine W.ret ?_
    refine thenQ.r ?_
    obtain rfl := Option.some.inj hr
    exact ⟨z163, hz, st, .inr rfl, h6, trivial⟩
   ·refine W.condF h72 hc172 (W.skip ?_)
    refine thenQ.n (W.seq (W.region ?_))
    refine sx rfl (pAssign (v := (vI 0)) rfl rfl) ?_
    refine SeqW.done fun fr173 hf174 => ?_
    have h6 : fr173 6 = (vI 0) := (congrFun hf174 6).trans rfl
    clear hf174
    refine thenQ.n ?_
    refine W.ret ?_
    obtain rfl := Option.some.inj hr
    exact ⟨z163, hz, st, .inr rfl, h6, trivial⟩
  ·dsimp only at hr
   replace hz := hz.trans hz50
   clear hk49
   refine blockQ.r ?_
   refine thenQ.r ?_
   obtain rfl := Option.some.inj hr
   exact ⟨z48, hz, st, .inr rfl, h6, trivial⟩

theorem c_wheel_check {N : Nat} {z : Nat → Blk} {m : Mem} {x0 : List Int} {x1 : List (List Int)} {x2 : Int} {v0 : Value} {v1 : Value} (fz : Fz z m) (hd : ∀ b, m.next ≤ b → m.blk b = .dead) (s0 : SlR (TInt 3 .i64) z x0 v0) (s1 : SlR (TSl 22 (TInt 3 .i64)) z x1 v1) {r : Int} (hr : wheel_check N x0 x1 x2 = some r) : CallW Try.prog 29 #[v0, v1, (vI x2)] m fun v m' => v = (vI r) ∧ m' = m := by
 refine CallW.flat Try.func29 rfl (by kernel_rfl) (Nat.le_of_ble_eq_true rfl) rfl (z := z) (fun fr hf => ?_)
 have h0 : fr 0 = _ := hf 0 _ rfl
 have h1 : fr 1 = _ := hf 1 _ rfl
 have h2 : fr 2 = _ := hf 2 _ rfl
 refine (u_wheel_check (k := none) (Zx.refl _) (St.start fz hd) h0 s0 h1 s1 h2 hr).mono ?_
 rintro ex fr' m' ⟨z', hz, st, he, h6, -⟩
 exact ⟨he, z', st, [(vI r)], ⟨h6.symm, trivial⟩, .inl rfl, rfl⟩

/-! ### humpyard/wheel.match -/

theorem u_wheel_match_0 : ∀ (n : Nat) {N : Nat}  {z0 z : Nat → Blk} {e m : Mem} {k : Option Nat} {fr : Nat → Value} {x0 : List Int} {x2 : Int} {x8 : Int} {x17 : List Int} {x18 : Int} {x19 : Int} {v0 : Value} {v17 : Value} (hz : Zx e.next z0 z) (st : St z e m k) (h0 : fr 0 = v0) (s0 : SlR (TInt 3 .i64) z x0 v0) (h2 : fr 2 = (vI x2)) (h8 : fr 8 = (vI x8)) (h17 : fr 17 = v17) (s17 : SlR (TInt 3 .i64) z x17 v17) (h18 : fr 18 = (vI x18)) (h19 : fr 19 = (vI x19)) {r : Sum (Int) (Int × Bool)} (hr : wheel_match_0 N x0 x2 x17 x18 n x8 x19 = some r), W Try.prog (sub (bodyOf Try.f30) [1, 1, 1, 0, 1, 0]) (fun ex fr' m' => ∃ z', Zx e.next z0 z' ∧ St z' e m' k ∧ ((∃ q, r = Sum.inl q ∧ ex = AExit.exit 0 ∧ fr' 8 = (vI q) ∧ True) ∨ (∃ q, r = Sum.inr q ∧ ex = AExit.ret ∧ fr' 6 = (vI q.1) ∧ fr' 7 = (vB q.2) ∧ True))) fr m := by
 intro n
 induction n with
 | zero => intro N z0 z e m k fr x0 x2 x8 x17 x18 x19 v0 v17 hz st h0 s0 h2 h8 h17 s17 h18 h19 r hr; cases (show (none : Option _) = some r from hr)
 | succ n ih =>
  intro N z0 z e m k fr x0 x2 x8 x17 x18 x19 v0 v17 hz st h0 s0 h2 h8 h17 s17 h18 h19 r hr
  unfold wheel_match_0 at hr
  refine W.loop1 ?_
  refine W.seq (W.region ?_)
  refine sx rfl (pLss (k := .i64) (a := x19) (b := x18) rfl h19 h18) ?_
  refine SeqW.done fun fr13 hf14 => ?_
  have h0 := (congrFun hf14 0).trans h0
  have h2 := (congrFun hf14 2).trans h2
  have h8 := (congrFun hf14 8).trans h8
  have h17 := (congrFun hf14 17).trans h17
  have h18 := (congrFun hf14 18).trans h18
  have h19 := (congrFun hf14 19).trans h19
  have h20 : fr13 20 = (vB (decide (x19 < x18))) := (congrFun hf14 20).trans rfl
  clear hf14
  refine thenQ.n (W.seq ?_)
  rcases if_some hr with ⟨hc15, hr⟩ | ⟨hc50, hr⟩
  ·refine W.condT h20 hc15 (W.skip ?_)
   refine thenQ.n (W.seq ?_)
   refine W.block ?_
   refine W.seq (W.region ?_)
   refine sx rfl (pMove (v := (vI x19)) rfl h19) ?_
   obtain ⟨y16, hy16, hr⟩ := bind_some hr
   refine SeqW.consX rfl (kIdxR (T := (TInt 3 .i64)) (xs := x17) (n := x19) rfl Try.underlying22 Try.type3 rfl h17 h19 s17 hy16 ?_)
   intro B17 f18 cs19 hd20 hc21
   obtain rfl := hd20
   refine SeqW.consX rfl (kLoad (v := (vI y16)) rfl Try.underlying3 rfl rfl (ldz_load st.fz (hc21 0 _ rfl)) ?_)
   refine sx rfl (pAssign (v := (vI x19)) rfl rfl) ?_
   refine sx rfl (pAssign (v := (vI y16)) rfl rfl) ?_
   refine SeqW.done fun fr22 hf23 => ?_
   have h0 := (congrFun hf23 0).trans h0
   have h2 := (congrFun hf23 2).trans h2
   have h8 := (congrFun hf23 8).trans h8
   have h9 : fr22 9 = (vI x19) := (congrFun hf23 9).trans rfl
   have h10 : fr22 10 = (vI y16) := (congrFun hf23 10).trans rfl
   have h17 := (congrFun hf23 17).trans h17
   have h18 := (congrFun hf23 18).trans h18
   have h19 := (congrFun hf23 19).trans h19
   clear hf23
   refine thenQ.n (W.seq ?_)
   refine W.calm (by decide) ?_
   refine sx rfl (pMove (v := v0) rfl h0) ?_
   refine sx rfl (pMove (v := (vI x19)) rfl h9) ?_
   obtain ⟨y24, hy24, hr⟩ := bind_some hr
   refine SeqW.consX rfl (kIdxR (T := (TInt 3 .i64)) (xs := x0) (n := x19) rfl Try.underlying22 Try.type3 rfl rfl rfl s0 hy24 ?_)
   intro B25 f26 cs27 hd28 hc29
   obtain rfl := hd28
   refine SeqW.consX rfl (kLoad (v := (vI y24)) rfl Try.underlying3 rfl rfl (ldz_load st.fz (hc29 0 _ rfl)) ?_)
   refine sx rfl (pMove (v := (vI y16)) rfl h10) ?_
   refine sx rfl (pSub (k := .i64) (a := y24) (b := y16) rfl rfl rfl) ?_
   refine sx rfl (pMove (v := (vI y16)) rfl h10) ?_
   refine sx rfl (pMove (v := v0) rfl h0) ?_
   refine sx rfl (pMove (v := (vI x19)) rfl h9) ?_
   obtain ⟨y30, hy30, hr⟩ := bind_some hr
   refine SeqW.consX rfl (kIdxR (T := (TInt 3 .i64)) (xs := x0) (n := x19) rfl Try.underlying22 Try.type3 rfl rfl rfl s0 hy30 ?_)
   intro B31 f32 cs33 hd34 hc35
   obtain rfl := hd34
   refine SeqW.consX rfl (kLoad (v := (vI y30)) rfl Try.underlying3 rfl rfl (ldz_load st.fz (hc35 0 _ rfl)) ?_)
   refine sx rfl (pSub (k := .i64) (a := y16) (b := y30) rfl rfl rfl) ?_
   refine sx rfl (pMax2 (k := .i64) (a := (IntKind.wrap .i64 (y24 - y16))) (b := (IntKind.wrap .i64 (y16 - y30))) rfl rfl rfl) ?_
   obtain ⟨y36, hy36, hr⟩ := lt_some hr
   refine sx rfl (pAssign rfl (congrArg (Value.int .i64) hy36)) ?_
   refine SeqW.done fun fr37 hf38 => ?_
   have h0 := (congrFun hf38 0).trans h0
   have h2 := (congrFun hf38 2).trans h2
   have h8 := (congrFun hf38 8).trans h8
   have h11 : fr37 11 = (vI y36) := (congrFun hf38 11).trans rfl
   have h17 := (congrFun hf38 17).trans h17
   have h18 := (congrFun hf38 18).trans h18
   have h19 := (congrFun hf38 19).trans h19
   clear hf38
   refine thenQ.n (W.seq ?_)
   refine W.seq (W.region ?_)
   refine sx rfl (pMove (v := (vI y36)) rfl h11) ?_
   refine sx rfl (pMove (v := (vI x2)) rfl h2) ?_
   refine sx rfl (pGtr (k := .i64) (a := y36) (b := x2) rfl rfl rfl) ?_
   refine SeqW.done fun fr39 hf40 => ?_
   have h0 := (congrFun hf40 0).trans h0
   have h2 := (congrFun hf40 2).trans h2
   have h8 := (congrFun hf40 8).trans h8
   have h11 := (congrFun hf40 11).trans h11
   have h17 := (congrFun hf40 17).trans h17
   have h18 := (congrFun hf40 18).trans h18
   have h19 := (congrFun hf40 19).trans h19
   have h39 : fr39 39 = (vB (decide (x2 < y36))) := (congrFun hf40 39).trans rfl
   clear hf40
   refine thenQ.n ?_
   rcases if_some hr with ⟨hc41, hr⟩ | ⟨hc44, hr⟩
   ·refine W.condT h39 hc41 (W.seq (W.region ?_))
    refine sx rfl (pAssign (v := (vI 0)) rfl rfl) ?_
    refine sx rfl (pAssign (v := (vB false)) rfl rfl) ?_
    refine SeqW.done fun fr42 hf43 => ?_
    have h6 : fr42 6 = (vI 0) := (congrFun hf43 6).trans rfl
    have h7 : fr42 7 = (vB false) := (congrFun hf43 7).trans rfl
    clear hf43
    refine thenQ.n ?_
    refine W.ret ?_
    refine thenQ.r ?_
    refine blockQ.r ?_
    refine thenQ.r ?_
    refine thenQ.r ?_
    obtain rfl := Option.some.inj hr
    exact ⟨z, hz, st, .inr ⟨_, rfl, rfl, h6, h7, trivial⟩⟩
   ·refine W.condF h39 hc44 (W.skip ?_)
    refine thenQ.n (W.region ?_)
    refine sx rfl (pMove (v := (vI x8)) rfl h8) ?_
    refine sx rfl (pMove (v := (vI y36)) rfl h11) ?_
    refine sx rfl (pAdd (k := .i64) (a := x8) (b := y36) rfl rfl rfl) ?_
    obtain ⟨y45, hy45, hr⟩ := lt_some hr
    refine sx rfl (pAssign rfl (congrArg (Value.int .i64) hy45)) ?_
    refine SeqW.done fun fr46 hf47 => ?_
    have h0 := (congrFun hf47 0).trans h0
    have h2 := (congrFun hf47 2).trans h2
    have h8 : fr46 8 = (vI y45) := (congrFun hf47 8).trans rfl
    have h17 := (congrFun hf47 17).trans h17
    have h18 := (congrFun hf47 18).trans h18
    have h19 := (congrFun hf47 19).trans h19
    clear hf47
    refine blockQ.n ?_
    refine thenQ.n (W.region ?_)
    refine sx rfl (pAdd (k := .i64) (a := x19) (b := 1) rfl h19 rfl) ?_
    refine sx rfl (pMove (v := (vI (IntKind.wrap .i64 (x19 + 1)))) rfl rfl) ?_
    refine SeqW.done fun fr48 hf49 => ?_
    have h0 := (congrFun hf49 0).trans h0
    have h2 := (congrFun hf49 2).trans h2
    have h8 := (congrFun hf49 8).trans h8
    have h17 := (congrFun hf49 17).trans h17
    have h18 := (congrFun hf49 18).trans h18
    have h19 : fr48 19 = (vI (IntKind.wrap .i64 (x19 + 1))) := (congrFun hf49 19).trans rfl
    clear hf49
    refine thenQ.n ?_
    exact ih hz st h0 s0 h2 h8 h17 s17 h18 h19 hr
  ·refine W.condF h20 hc50 ?_
   refine W.exit ?_
   refine thenQ.x ?_
   refine thenQ.x ?_
   obtain rfl := Option.some.inj hr
   exact ⟨z, hz, st, .inl ⟨_, rfl, rfl, h8, trivial⟩⟩

theorem u_wheel_match {N : Nat}  {z0 z : Nat → Blk} {e m : Mem} {k : Option Nat} {fr : Nat → Value} {x0 : List Int} {x1 : List Int} {x2 : Int} {v0 : Value} {v1 : Value} (hz : Zx e.next z0 z) (st : St z e m k) (h0 : fr 0 = v0) (s0 : SlR (TInt 3 .i64) z x0 v0) (h1 : fr 1 = v1) (s1 : SlR (TInt 3 .i64) z x1 v1) (h2 : fr 2 = (vI x2)) {r : Int × Bool} (hr : wheel_match N x0 x1 x2 = some r) : W Try.prog (sub (bodyOf Try.f30) []) (fun ex fr' m' => ∃ z', Zx e.next z0 z' ∧ St z' e m' k ∧ (ex = .normal ∨ ex = .ret) ∧ fr' 6 = (vI r.1) ∧ fr' 7 = (vB r.2) ∧ True) fr m := by
 unfold wheel_match at hr
 refine W.seq (W.region ?_)
 refine sx rfl (pAssign (v := (vI 0)) rfl rfl) ?_
 refine sx rfl (pAssign (v := (vB false)) rfl rfl) ?_
 refine SeqW.done fun fr1 hf2 => ?_
 have h0 := (congrFun hf2 0).trans h0
 have h1 := (congrFun hf2 1).trans h1
 have h2 := (congrFun hf2 2).trans h2
 clear hf2
 refine thenQ.n (W.seq ?_)
 refine W.seq (W.region ?_)
 refine sx rfl (pMove (v := v1) rfl h1) ?_
 refine sx rfl (pLenR (xs := x1) rfl Try.underlying22 rfl s1) ?_
 refine sx rfl (pMove (v := v0) rfl h0) ?_
 refine sx rfl (pLenR (xs := x0) rfl Try.underlying22 rfl s0) ?_
 refine sx rfl (pGtr (k := .i64) (a := (x1.length : Int)) (b := (x0.length : Int)) rfl rfl rfl) ?_
 refine SeqW.done fun fr3 hf4 => ?_
 have h0 := (congrFun hf4 0).trans h0
 have h1 := (congrFun hf4 1).trans h1
 have h2 := (congrFun hf4 2).trans h2
 have h16 : fr3 16 = (vB (decide ((x0.length : Int) < (x1.length : Int)))) := (congrFun hf4 16).trans rfl
 clear hf4
 refine thenQ.n ?_
 rcases if_some hr with ⟨hc5, hr⟩ | ⟨hc8, hr⟩
 ·refine W.condT h16 hc5 (W.seq (W.region ?_))
  refine sx rfl (pAssign (v := (vI 0)) rfl rfl) ?_
  refine sx rfl (pAssign (v := (vB false)) rfl rfl) ?_
  refine SeqW.done fun fr6 hf7 => ?_
  have h6 : fr6 6 = (vI 0) := (congrFun hf7 6).trans rfl
  have h7 : fr6 7 = (vB false) := (congrFun hf7 7).trans rfl
  clear hf7
  refine thenQ.n ?_
  refine W.ret ?_
  refine thenQ.r ?_
  obtain rfl := Option.some.inj hr
  exact ⟨z, hz, st, .inr rfl, h6, h7, trivial⟩
 ·refine W.condF h16 hc8 (W.skip ?_)
  refine thenQ.n (W.seq (W.region ?_))
  refine sx rfl (pAssign (v := (vI 0)) rfl rfl) ?_
  refine SeqW.done fun fr9 hf10 => ?_
  have h0 := (congrFun hf10 0).trans h0
  have h1 := (congrFun hf10 1).trans h1
  have h2 := (congrFun hf10 2).trans h2
  have h8 : fr9 8 = (vI 0) := (congrFun hf10 8).trans rfl
  clear hf10
  refine thenQ.n (W.seq ?_)
  refine W.seq (W.region ?_)
  refine sx rfl (pMove (v := v1) rfl h1) ?_
  refine sx rfl (pLenR (xs := x1) rfl Try.underlying22 rfl s1) ?_
  refine sx rfl (pMove (v := (vI 0)) rfl rfl) ?_
  refine SeqW.done fun fr11 hf12 => ?_
  have h0 := (congrFun hf12 0).trans h0
  have h2 := (congrFun hf12 2).trans h2
  have h8 := (congrFun hf12 8).trans h8
  have h17 : fr11 17 = v1 := (congrFun hf12 17).trans rfl
  have h18 : fr11 18 = (vI (x1.length : Int)) := (congrFun hf12 18).trans rfl
  have h19 : fr11 19 = (vI 0) := (congrFun hf12 19).trans rfl
  clear hf12
  refine thenQ.n ?_
  refine W.block ?_
  obtain ⟨y51, hy51, hr⟩ := bind_some hr
  refine W.keep (u_wheel_match_0 _ (Zx.refl _) st h0 s0 h2 h8 h17 s1 h18 h19 hy51) ?_
  rintro ex57 fr52 m53 hk55 ⟨z54, hz56, st, ⟨y58, rfl, rfl, h8, -⟩ | ⟨y61, rfl, rfl, h6, h7, -⟩⟩
  ·dsimp only at hr
   replace hz := hz.trans hz56
   clear hk55
   refine blockQ.hit ?_
   refine thenQ.n (W.seq (W.region ?_))
   refine sx rfl (pMove (v := (vI y58)) rfl h8) ?_
   refine sx rfl (pAssign (v := (vI y58)) rfl rfl) ?_
   refine sx rfl (pAssign (v := (vB true)) rfl rfl) ?_
   refine SeqW.done fun fr59 hf60 => ?_
   have h6 : fr59 6 = (vI y58) := (congrFun hf60 6).trans rfl
   have h7 : fr59 7 = (vB true) := (congrFun hf60 7).trans rfl
   clear hf60
   refine thenQ.n ?_
   refine W.ret ?_
   obtain rfl := Option.some.inj hr
   exact ⟨z54, hz, st, .inr rfl, h6, h7, trivial⟩
  ·dsimp only at hr
   replace hz := hz.trans hz56
   clear hk55
   refine blockQ.r ?_
   refine thenQ.r ?_
   obtain rfl := Option.some.inj hr
   exact ⟨z54, hz, st, .inr rfl, h6, h7, trivial⟩

theorem c_wheel_match {N : Nat} {z : Nat → Blk} {m : Mem} {x0 : List Int} {x1 : List Int} {x2 : Int} {v0 : Value} {v1 : Value} (fz : Fz z m) (hd : ∀ b, m.next ≤ b → m.blk b = .dead) (s0 : SlR (TInt 3 .i64) z x0 v0) (s1 : SlR (TInt 3 .i64) z x1 v1) {r : Int × Bool} (hr : wheel_match N x0 x1 x2 = some r) : CallW Try.prog 30 #[v0, v1, (vI x2)] m fun v m' => v = (Value.tuple [(vI r.1), (vB r.2)].toArray) ∧ m' = m := by
 refine CallW.flat Try.func30 rfl (by kernel_rfl) (Nat.le_of_ble_eq_true rfl) rfl (z := z) (fun fr hf => ?_)
 have h0 : fr 0 = _ := hf 0 _ rfl
 have h1 : fr 1 = _ := hf 1 _ rfl
 have h2 : fr 2 = _ := hf 2 _ rfl
 refine (u_wheel_match (k := none) (Zx.refl _) (St.start fz hd) h0 s0 h1 s1 h2 hr).mono ?_
 rintro ex fr' m' ⟨z', hz, st, he, h6, h7, -⟩
 exact ⟨he, z', st, [(vI r.1), (vB r.2)], ⟨h6.symm, h7.symm, trivial⟩, .inr (List.forall_mem_cons.2 ⟨rfl, List.forall_mem_cons.2 ⟨rfl, fun _ h => nomatch h⟩⟩), rfl⟩

/-! ### humpyard/wheel.Recognize -/

theorem u_wheel_Recognize_3 {N : Nat}  {z0 z : Nat → Blk} {e m : Mem} {k : Option Nat} {fr : Nat → Value} {x11 : List Int} {x13 : Int} {x15 : List Int} {x17 : Bool} {v11 : Value} {x12 : List Int} {v12 : Value} {v15 : Value} (hz : Zx e.next z0 z) (st : St z e m k) (h11 : fr 11 = v11) (o11 : OwF (TInt 3 .i64) z e m k x11 v11) (h12 : fr 12 = v12) (o12 : OwF (TInt 3 .i64) z e m k x12 v12) (h13 : fr 13 = (vI x13)) (h15 : fr 15 = v15) (s15 : SlR (TInt 3 .i64) z x15 v15) (h17 : fr 17 = (vB x17)) (ao11_o12 : Ap (blkOf v11) (blkOf v12)) {r : Bool} (hr : wheel_Recognize_3 N x11 x13 x15 x17 = some r) : W Try.prog (sub (bodyOf Try.f10) [1, 1, 1, 1, 1, 0, 1, 0, 0, 1, 0, 0, 1, 1, 0, 0, 1, 1, 0, 0, 1, 1, 0, 0]) (fun ex fr' m' => ∃ z', Zx e.next z0 z' ∧ St z' e m' k ∧ ex = AExit.normal ∧ fr' 76 = (vB r) ∧ OwF (TInt 3 .i64) z' e m' k x11 v11 ∧ OwF (TInt 3 .i64) z' e m' k x12 v12 ∧ Ap (blkOf v11) (blkOf v12) ∧ True) fr m := by
 unfold wheel_Recognize_3 at hr
 refine W.region ?_
 refine sx rfl (pMove (v := (vB x17)) rfl h17) ?_
 refine sx rfl (pNot (b := x17) rfl rfl) ?_
 refine sx rfl (pMove (v := (vB (!x17))) rfl rfl) ?_
 rcases if_some hr with ⟨hc90, hr⟩ | ⟨hc93, hr⟩
 ·refine kx rfl rfl rfl hc90 ?_
  iterate 8 refine kx rfl rfl rfl hc90 ?_
  refine sx rfl (pPick (t := true) (v := (vB true)) rfl ((congrArg vB hc90)) rfl) ?_
  refine SeqW.done fun fr91 hf92 => ?_
  have h11 := (congrFun hf92 11).trans h11
  have h12 := (congrFun hf92 12).trans h12
  have h13 := (congrFun hf92 13).trans h13
  have h15 := (congrFun hf92 15).trans h15
  have h76 : fr91 76 = (vB true) := (congrFun hf92 76).trans rfl
  clear hf92
  obtain rfl := Option.some.inj hr
  exact ⟨z, hz, st, rfl, h76, o11, o12, ao11_o12, trivial⟩
 ·refine SeqW.consG rfl rfl rfl hc93 (StepX.pure (pMove (v := v11) rfl h11) ?_)
  refine SeqW.consG rfl rfl rfl hc93 (StepX.pure (pMove (v := (vI x13)) rfl h13) ?_)
  refine SeqW.consG rfl rfl rfl hc93 (StepX.pure (pMove (v := v15) rfl h15) ?_)
  refine SeqW.consG rfl rfl rfl hc93 (StepX.pure (pLenR (xs := x15) rfl Try.underlying22 rfl s15) ?_)
  refine SeqW.consG rfl rfl rfl hc93 (StepX.pure (pAdd (k := .i64) (a := x13) (b := (x15.length : Int)) rfl rfl rfl) ?_)
  refine SeqW.consG rfl rfl rfl hc93 (StepX.pure (pAdd (k := .i64) (a := (IntKind.wrap .i64 (x13 + (x15.length : Int)))) (b := 1) rfl rfl rfl) ?_)
  obtain ⟨y94, hy94, hr⟩ := bind_some hr
  refine SeqW.consG rfl rfl rfl hc93 (kIdxO (T := (TInt 3 .i64)) (xs := x11) (n := (IntKind.wrap .i64 ((IntKind.wrap .i64 (x13 + (x15.length : Int))) + 1))) rfl Try.underlying22 Try.type3 rfl rfl rfl o11 hy94 ?_)
  intro B95 l96 c97 cs98 hv99 hd100 hg101 hc102
  have hd1000 := hd100
  obtain rfl := hd1000
  refine SeqW.consG rfl rfl rfl hc93 (kLoad (v := (vI y94)) rfl Try.underlying3 rfl rfl (hc102 0 _ rfl) ?_)
  refine SeqW.consG rfl rfl rfl hc93 (StepX.pure (pLss (k := .i64) (a := y94) (b := 0) rfl rfl rfl) ?_)
  refine sx rfl (pPick (t := false) (v := (vB (decide (y94 < 0)))) rfl ((congrArg vB hc93)) rfl) ?_
  refine SeqW.done fun fr103 hf104 => ?_
  have h11 := (congrFun hf104 11).trans h11
  have h12 := (congrFun hf104 12).trans h12
  have h13 := (congrFun hf104 13).trans h13
  have h15 := (congrFun hf104 15).trans h15
  have h76 : fr103 76 = (vB (decide (y94 < 0))) := (congrFun hf104 76).trans rfl
  clear hf104
  obtain rfl := Option.some.inj hr
  exact ⟨z, hz, st, rfl, h76, o11, o12, ao11_o12, trivial⟩

theorem u_wheel_Recognize_4 {N : Nat}  {z0 z : Nat → Blk} {e m : Mem} {k : Option Nat} {fr : Nat → Value} {x11 : List Int} {x12 : List Int} {x13 : Int} {x16 : Int} {v11 : Value} {v12 : Value} (hz : Zx e.next z0 z) (st : St z e m k) (h11 : fr 11 = v11) (o11 : OwF (TInt 3 .i64) z e m k x11 v11) (h12 : fr 12 = v12) (o12 : OwF (TInt 3 .i64) z e m k x12 v12) (h13 : fr 13 = (vI x13)) (h16 : fr 16 = (vI x16)) (ao11_o12 : Ap (blkOf v11) (blkOf v12)) {r : Bool} (hr : wheel_Recognize_4 N x11 x12 x13 x16 = some r) : W Try.prog (sub (bodyOf Try.f10) [1, 1, 1, 1, 1, 0, 1, 0, 0, 1, 0, 0, 1, 1, 0, 0, 1, 1, 0, 0, 1, 1, 1, 1, 0]) (fun ex fr' m' => ∃ z', Zx e.next z0 z' ∧ St z' e m' k ∧ ex = AExit.normal ∧ fr' 99 = (vB r) ∧ OwF (TInt 3 .i64) z' e m' k x11 v11 ∧ OwF (TInt 3 .i64) z' e m' k x12 v12 ∧ Ap (blkOf v11) (blkOf v12) ∧ True) fr m := by
 unfold wheel_Recognize_4 at hr
 refine W.region ?_
 refine sx rfl (pMove (v := v12) rfl h12) ?_
 refine sx rfl (pMove (v := (vI x13)) rfl h13) ?_
 obtain ⟨y129, hy129, hr⟩ := bind_some hr
 refine SeqW.consX rfl (kIdxO (T := (TInt 3 .i64)) (xs := x12) (n := x13) rfl Try.underlying22 Try.type3 rfl rfl rfl o12 hy129 ?_)
 intro B130 l131 c132 cs133 hv134 hd135 hg136 hc137
 have hd1350 := hd135
 obtain rfl := hd1350
 refine SeqW.consX rfl (kLoad (v := (vI y129)) rfl Try.underlying3 rfl rfl (hc137 0 _ rfl) ?_)
 refine sx rfl (pLss (k := .i64) (a := y129) (b := 0) rfl rfl rfl) ?_
 refine sx rfl (pMove (v := (vB (decide (y129 < 0)))) rfl rfl) ?_
 rcases if_some hr with ⟨hc138, hr⟩ | ⟨hc141, hr⟩
 ·refine kx rfl rfl rfl hc138 ?_
  iterate 5 refine kx rfl rfl rfl hc138 ?_
  refine sx rfl (pPick (t := true) (v := (vB true)) rfl ((congrArg vB hc138)) rfl) ?_
  refine SeqW.done fun fr139 hf140 => ?_
  have h11 := (congrFun hf140 11).trans h11
  have h12 := (congrFun hf140 12).trans h12
  have h13 := (congrFun hf140 13).trans h13
  have h16 := (congrFun hf140 16).trans h16
  have h99 : fr139 99 = (vB true) := (congrFun hf140 99).trans rfl
  clear hf140
  obtain rfl := Option.some.inj hr
  exact ⟨z, hz, st, rfl, h99, o11, o12, ao11_o12, trivial⟩
 ·refine SeqW.consG rfl rfl rfl hc141 (StepX.pure (pMove (v := (vI x16)) rfl h16) ?_)
  refine SeqW.consG rfl rfl rfl hc141 (StepX.pure (pMove (v := v11) rfl h11) ?_)
  refine SeqW.consG rfl rfl rfl hc141 (StepX.pure (pMove (v := (vI x13)) rfl h13) ?_)
  obtain ⟨y142, hy142, hr⟩ := bind_some hr
  refine SeqW.consG rfl rfl rfl hc141 (kIdxO (T := (TInt 3 .i64)) (xs := x11) (n := x13) rfl Try.underlying22 Try.type3 rfl rfl rfl o11 hy142 ?_)
  intro B143 l144 c145 cs146 hv147 hd148 hg149 hc150
  have hd1480 := hd148
  obtain rfl := hd1480
  refine SeqW.consG rfl rfl rfl hc141 (kLoad (v := (vI y142)) rfl Try.underlying3 rfl rfl (hc150 0 _ rfl) ?_)
  refine SeqW.consG rfl rfl rfl hc141 (StepX.pure (pLss (k := .i64) (a := x16) (b := y142) rfl rfl rfl) ?_)
  refine sx rfl (pPick (t := false) (v := (vB (decide (x16 < y142)))) rfl ((congrArg vB hc141)) rfl) ?_
  refine SeqW.done fun fr151 hf152 => ?_
  have h11 := (congrFun hf152 11).trans h11
  have h12 := (congrFun hf152 12).trans h12
  have h13 := (congrFun hf152 13).trans h13
  have h16 := (congrFun hf152 16).trans h16
  have h99 : fr151 99 = (vB (decide (x16 < y142))) := (congrFun hf152 99).trans rfl
  clear hf152
  obtain rfl := Option.some.inj hr
  exact ⟨z, hz, st, rfl, h99, o11, o12, ao11_o12, trivial⟩

theorem u_wheel_Recognize_2 {N : Nat}  {z0 z : Nat → Blk} {e m : Mem} {k : Option Nat} {fr : Nat → Value} {x0 : List Int} {x2 : Int} {x11 : List Int} {x12 : List Int} {x13 : Int} {x48 : List (List Int)} {x50 : Int} {v0 : Value} {v11 : Value} {v12 : Value} {v48 : Value} (hz : Zx e.next z0 z) (st : St z e m k) (h0 : fr 0 = v0) (s0 : SlR (TInt 3 .i64) z x0 v0) (h2 : fr 2 = (vI x2)) (h11 : fr 11 = v11) (o11 : OwF (TInt 3 .i64) z e m k x11 v11) (h12 : fr 12 = v12) (o12 : OwF (TInt 3 .i64) z e m k x12 v12) (h13 : fr 13 = (vI x13)) (h48 : fr 48 = v48) (s48 : SlR (TSl 22 (TInt 3 .i64)) z x48 v48) (h50 : fr 50 = (vI x50)) (ao11_o12 : Ap (blkOf v11) (blkOf v12)) {r : List Int × List Int} (hr : wheel_Recognize_2 N x0 x2 x11 x12 x13 x48 x50 = some r) : W Try.prog (sub (bodyOf Try.f10) [1, 1, 1, 1, 1, 0, 1, 0, 0, 1, 0, 0, 1, 1, 0, 0, 1, 1, 0]) (fun ex fr' m' => ∃ z', Zx e.next z0 z' ∧ St z' e m' k ∧ ex = AExit.normal ∧ fr' 11 = v11 ∧ OwF (TInt 3 .i64) z' e m' k r.1 v11 ∧ fr' 12 = v12 ∧ OwF (TInt 3 .i64) z' e m' k r.2 v12 ∧ Ap (blkOf v11) (blkOf v12) ∧ True) fr m := by
 unfold wheel_Recognize_2 at hr
 refine W.block ?_
 refine W.seq (W.region ?_)
 refine sx rfl (pMove (v := (vI x50)) rfl h50) ?_
 obtain ⟨y71, hy71, hr⟩ := bind_some hr
 refine SeqW.consX rfl (kIdxR (T := (TSl 22 (TInt 3 .i64))) (xs := x48) (n := x50) rfl Try.underlying23 Try.type22 rfl h48 h50 s48 hy71 ?_)
 intro B72 f73 cs74 hd75 hc76
 obtain ⟨V77, rfl, Q78⟩ := hd75
 refine SeqW.consX rfl (kLoad (v := V77) rfl Try.underlying22 rfl rfl (ldz_load st.fz (hc76 0 _ rfl)) ?_)
 refine sx rfl (pAssign (v := (vI x50)) rfl rfl) ?_
 refine sx rfl (pAssign (v := V77) rfl rfl) ?_
 refine SeqW.done fun fr80 hf81 => ?_
 have h0 := (congrFun hf81 0).trans h0
 have h2 := (congrFun hf81 2).trans h2
 have h11 := (congrFun hf81 11).trans h11
 have h12 := (congrFun hf81 12).trans h12
 have h13 := (congrFun hf81 13).trans h13
 have h14 : fr80 14 = (vI x50) := (congrFun hf81 14).trans rfl
 have h15 : fr80 15 = V77 := (congrFun hf81 15).trans rfl
 have h48 := (congrFun hf81 48).trans h48
 have h50 := (congrFun hf81 50).trans h50
 clear hf81
 refine thenQ.n (W.seq (W.region ?_))
 refine sx rfl (pMove (v := v0) rfl h0) ?_
 refine sx rfl (pMove (v := (vI x13)) rfl h13) ?_
 obtain ⟨y82, hy82, hr⟩ := bind_some hr
 refine SeqW.consX rfl (kCut (T := (TInt 3 .i64)) (xs := x0) (a := x13) (b := (x0.length : Int)) rfl Try.underlying22 Try.type3 rfl rfl ⟨_, rfl⟩ rfl s0 st hy82 ?_)
 intro V83 _ hI85 Q84
 refine sx rfl (pMove (v := V77) rfl h15) ?_
 refine sx rfl (pMove (v := (vI x2)) rfl h2) ?_
 obtain ⟨y87, hy87, hr⟩ := bind_some hr
 refine SeqW.consX rfl (StepX.call (gCallee rfl rfl (args3 rfl rfl rfl)) ((c_wheel_match (z := z) st.fz st.dead Q84 Q78 hy87).mono ?_))
 rintro _ _ ⟨rfl, rfl⟩
 refine sx rfl (pMove (v := (Value.tuple [(vI y87.1), (vB y87.2)].toArray)) rfl rfl) ?_
 refine sx rfl (pExtract (vs := [(vI y87.1), (vB y87.2)]) (v := (vI y87.1)) rfl rfl rfl) ?_
 refine sx rfl (pExtract (vs := [(vI y87.1), (vB y87.2)]) (v := (vB y87.2)) rfl rfl rfl) ?_
 refine sx rfl (pAssign (v := (vI y87.1)) rfl rfl) ?_
 refine sx rfl (pAssign (v := (vB y87.2)) rfl rfl) ?_
 refine SeqW.done fun fr88 hf89 => ?_
 have h0 := (congrFun hf89 0).trans h0
 have h2 := (congrFun hf89 2).trans h2
 have h11 := (congrFun hf89 11).trans h11
 have h12 := (congrFun hf89 12).trans h12
 have h13 := (congrFun hf89 13).trans h13
 have h14 := (congrFun hf89 14).trans h14
 have h15 := (congrFun hf89 15).trans h15
 have h16 : fr88 16 = (vI y87.1) := (congrFun hf89 16).trans rfl
 have h17 : fr88 17 = (vB y87.2) := (congrFun hf89 17).trans rfl
 have h48 := (congrFun hf89 48).trans h48
 have h50 := (congrFun hf89 50).trans h50
 clear hf89
 refine thenQ.n (W.seq (W.seq ?_))
 obtain ⟨y105, hy105, hr⟩ := bind_some hr
 refine W.keep (u_wheel_Recognize_3 (Zx.refl _) st h11 o11 h12 o12 h13 h15 Q78 h17 ao11_o12 hy105) ?_
 rintro ex111 fr106 m107 hk109 ⟨z108, hz110, st, rfl, h76, O112, O113, A114, -⟩
 replace s0 := s0.mono hz110.le
 replace s48 := s48.mono hz110.le
 replace Q78 := Q78.mono hz110.le
 have h0 := (hk109 0 rfl).trans h0
 have h2 := (hk109 2 rfl).trans h2
 have h11 := (hk109 11 rfl).trans h11
 have h12 := (hk109 12 rfl).trans h12
 have h13 := (hk109 13 rfl).trans h13
 have h14 := (hk109 14 rfl).trans h14
 have h15 := (hk109 15 rfl).trans h15
 have h16 := (hk109 16 rfl).trans h16
 have h48 := (hk109 48 rfl).trans h48
 have h50 := (hk109 50 rfl).trans h50
 replace hz := hz.trans hz110
 clear hk109
 refine thenQ.n ?_
 rcases if_some hr with ⟨hc115, hr⟩ | ⟨hc116, hr⟩
 ·refine W.condT h76 hc115 ?_
  refine W.exit ?_
  refine thenQ.x ?_
  refine blockQ.hit ?_
  obtain rfl := Option.some.inj hr
  exact ⟨z108, hz, st, rfl, h11, O112, h12, O113, A114, trivial⟩
 ·refine W.condF h76 hc116 (W.skip ?_)
  refine thenQ.n (W.seq (W.region ?_))
  refine sx rfl (pMove (v := (vI y87.1)) rfl h16) ?_
  refine sx rfl (pMove (v := v11) rfl h11) ?_
  refine sx rfl (pMove (v := (vI x13)) rfl h13) ?_
  refine sx rfl (pMove (v := V77) rfl h15) ?_
  refine sx rfl (pLenR (xs := y71) rfl Try.underlying22 rfl Q78) ?_
  refine sx rfl (pAdd (k := .i64) (a := x13) (b := (y71.length : Int)) rfl rfl rfl) ?_
  refine sx rfl (pAdd (k := .i64) (a := (IntKind.wrap .i64 (x13 + (y71.length : Int)))) (b := 1) rfl rfl rfl) ?_
  obtain ⟨y117, hy117, hr⟩ := bind_some hr
  refine SeqW.consX rfl (kIdxO (T := (TInt 3 .i64)) (xs := x11) (n := (IntKind.wrap .i64 ((IntKind.wrap .i64 (x13 + (y71.length : Int))) + 1))) rfl Try.underlying22 Try.type3 rfl rfl rfl O112 hy117 ?_)
  intro B118 l119 c120 cs121 hv122 hd123 hg124 hc125
  have hd1230 := hd123
  obtain rfl := hd1230
  refine SeqW.consX rfl (kLoad (v := (vI y117)) rfl Try.underlying3 rfl rfl (hc125 0 _ rfl) ?_)
  refine sx rfl (pAdd (k := .i64) (a := y87.1) (b := y117) rfl rfl rfl) ?_
  obtain ⟨y126, hy126, hr⟩ := lt_some hr
  refine sx rfl (pAssign rfl (congrArg (Value.int .i64) hy126)) ?_
  refine SeqW.done fun fr127 hf128 => ?_
  have h0 := (congrFun hf128 0).trans h0
  have h2 := (congrFun hf128 2).trans h2
  have h11 := (congrFun hf128 11).trans h11
  have h12 := (congrFun hf128 12).trans h12
  have h13 := (congrFun hf128 13).trans h13
  have h14 := (congrFun hf128 14).trans h14
  have h16 : fr127 16 = (vI y126) := (congrFun hf128 16).trans rfl
  have h48 := (congrFun hf128 48).trans h48
  have h50 := (congrFun hf128 50).trans h50
  clear hf128
  refine thenQ.n (W.seq ?_)
  obtain ⟨y153, hy153, hr⟩ := bind_some hr
  refine W.keep (u_wheel_Recognize_4 (Zx.refl _) st h11 O112 h12 O113 h13 h16 A114 hy153) ?_
  rintro ex159 fr154 m155 hk157 ⟨z156, hz158, st, rfl, h99, O160, O161, A162, -⟩
  replace s0 := s0.mono hz158.le
  replace s48 := s48.mono hz158.le
  have h0 := (hk157 0 rfl).trans h0
  have h2 := (hk157 2 rfl).trans h2
  have h11 := (hk157 11 rfl).trans h11
  have h12 := (hk157 12 rfl).trans h12
  have h13 := (hk157 13 rfl).trans h13
  have h14 := (hk157 14 rfl).trans h14
  have h16 := (hk157 16 rfl).trans h16
  have h48 := (hk157 48 rfl).trans h48
  have h50 := (hk157 50 rfl).trans h50
  replace hz := hz.trans hz158
  clear hk157
  refine thenQ.n ?_
  rcases if_some hr with ⟨hc163, hr⟩ | ⟨hc190, hr⟩
  ·refine W.condT h99 hc163 (W.region ?_)
   refine sx rfl (pMove (v := v11) rfl h11) ?_
   refine sx rfl (pMove (v := (vI x13)) rfl h13) ?_
   refine sx rfl (pMove (v := v12) rfl h12) ?_
   refine sx rfl (pMove (v := (vI x13)) rfl h13) ?_
   refine sx rfl (pMove (v := (vI y126)) rfl h16) ?_
   refine sx rfl (pMove (v := (vI x50)) rfl h14) ?_
   obtain ⟨y164, hy164, hr⟩ := bind_some hr
   refine SeqW.consX rfl (kIdxO (T := (TInt 3 .i64)) (xs := x11) (n := x13) rfl Try.underlying22 Try.type3 rfl rfl rfl O160 hy164 ?_)
   intro B165 l166 c167 cs168 hv169 hd170 hg171 hc172
   have hd1700 := hd170
   obtain rfl := hd1700
   refine SeqW.consX rfl (kSet (T := (TInt 3 .i64)) (off := (x13 : Int).toNat * ((TInt 3 .i64)).sz) (n := (x13 : Int).toNat) (f := 0) (w := (vI y126)) (new := [(vI y126)]) (ecs := [(vI y164)]) (ecs' := [(vI y126)]) (a := y164) (a' := y126) rfl Try.type3 rfl rfl rfl rfl rfl rfl O160 hv169 hg171 hd170 hc172 rfl rfl rfl st ?_)
   intro m173 st O160 sm174
   obtain ⟨y175, hy175, hr⟩ := lt_some hr
   rw [hy175] at O160
   replace O161 := O161.same sm174 (Ap.symm A162)
   obtain ⟨y176, hy176, hr⟩ := bind_some hr
   refine SeqW.consX rfl (kIdxO (T := (TInt 3 .i64)) (xs := x12) (n := x13) rfl Try.underlying22 Try.type3 rfl rfl rfl O161 hy176 ?_)
   intro B177 l178 c179 cs180 hv181 hd182 hg183 hc184
   have hd1820 := hd182
   obtain rfl := hd1820
   refine SeqW.consX rfl (kSet (T := (TInt 3 .i64)) (off := (x13 : Int).toNat * ((TInt 3 .i64)).sz) (n := (x13 : Int).toNat) (f := 0) (w := (vI x50)) (new := [(vI x50)]) (ecs := [(vI y176)]) (ecs' := [(vI x50)]) (a := y176) (a' := x50) rfl Try.type3 rfl rfl rfl rfl rfl rfl O161 hv181 hg183 hd182 hc184 rfl rfl rfl st ?_)
   intro m185 st O161 sm186
   obtain ⟨y187, hy187, hr⟩ := lt_some hr
   rw [hy187] at O161
   replace O160 := O160.same sm186 A162
   refine SeqW.done fun fr188 hf189 => ?_
   have h0 := (congrFun hf189 0).trans h0
   have h2 := (congrFun hf189 2).trans h2
   have h11 := (congrFun hf189 11).trans h11
   have h12 := (congrFun hf189 12).trans h12
   have h13 := (congrFun hf189 13).trans h13
   have h48 := (congrFun hf189 48).trans h48
   have h50 := (congrFun hf189 50).trans h50
   clear hf189
   refine blockQ.n ?_
   obtain rfl := Option.some.inj hr
   exact ⟨z156, hz, st, rfl, h11, O160, h12, O161, A162, trivial⟩
  ·refine W.condF h99 hc190 (W.skip ?_)
   refine blockQ.n ?_
   obtain rfl := Option.some.inj hr
   exact ⟨z156, hz, st, rfl, h11, O160, h12, O161, A162, trivial⟩

theorem u_wheel_Recognize_1 : ∀ (n : Nat) {N : Nat}  {z0 z : Nat → Blk} {e m : Mem} {k : Option Nat} {fr : Nat → Value} {x0 : List Int} {x2 : Int} {x11 : List Int} {x12 : List Int} {x13 : Int} {x48 : List (List Int)} {x49 : Int} {x50 : Int} {v0 : Value} {v11 : Value} {v12 : Value} {v48 : Value} (hz : Zx e.next z0 z) (st : St z e m k) (h0 : fr 0 = v0) (s0 : SlR (TInt 3 .i64) z x0 v0) (h2 : fr 2 = (vI x2)) (h11 : fr 11 = v11) (o11 : OwF (TInt 3 .i64) z e m k x11 v11) (h12 : fr 12 = v12) (o12 : OwF (TInt 3 .i64) z e m k x12 v12) (h13 : fr 13 = (vI x13)) (h48 : fr 48 = v48) (s48 : SlR (TSl 22 (TInt 3 .i64)) z x48 v48) (h49 : fr 49 = (vI x49)) (h50 : fr 50 = (vI x50)) (ao11_o12 : Ap (blkOf v11) (blkOf v12)) {r : List Int × List Int} (hr : wheel_Recognize_1 N x0 x2 x13 x48 x49 n x11 x12 x50 = some r), W Try.prog (sub (bodyOf Try.f10) [1, 1, 1, 1, 1, 0, 1, 0, 0, 1, 0, 0, 1, 1, 0]) (fun ex fr' m' => ∃ z', Zx e.next z0 z' ∧ St z' e m' k ∧ ex = AExit.exit 2 ∧ fr' 11 = v11 ∧ OwF (TInt 3 .i64) z' e m' k r.1 v11 ∧ fr' 12 = v12 ∧ OwF (TInt 3 .i64) z' e m' k r.2 v12 ∧ Ap (blkOf v11) (blkOf v12) ∧ True) fr m := by
 intro n
 induction n with
 | zero => intro N z0 z e m k fr x0 x2 x11 x12 x13 x48 x49 x50 v0 v11 v12 v48 hz st h0 s0 h2 h11 o11 h12 o12 h13 h48 s48 h49 h50 ao11_o12 r hr; cases (show (none : Option _) = some r from hr)
 | succ n ih =>
  intro N z0 z e m k fr x0 x2 x11 x12 x13 x48 x49 x50 v0 v11 v12 v48 hz st h0 s0 h2 h11 o11 h12 o12 h13 h48 s48 h49 h50 ao11_o12 r hr
  unfold wheel_Recognize_1 at hr
  refine W.loop1 ?_
  refine W.seq (W.region ?_)
  refine sx rfl (pLss (k := .i64) (a := x50) (b := x49) rfl h50 h49) ?_
  refine SeqW.done fun fr68 hf69 => ?_
  have h0 := (congrFun hf69 0).trans h0
  have h2 := (congrFun hf69 2).trans h2
  have h11 := (congrFun hf69 11).trans h11
  have h12 := (congrFun hf69 12).trans h12
  have h13 := (congrFun hf69 13).trans h13
  have h48 := (congrFun hf69 48).trans h48
  have h49 := (congrFun hf69 49).trans h49
  have h50 := (congrFun hf69 50).trans h50
  have h51 : fr68 51 = (vB (decide (x50 < x49))) := (congrFun hf69 51).trans rfl
  clear hf69
  refine thenQ.n (W.seq ?_)
  rcases if_some hr with ⟨hc70, hr⟩ | ⟨hc205, hr⟩
  ·refine W.condT h51 hc70 (W.skip ?_)
   refine thenQ.n (W.seq ?_)
   obtain ⟨y191, hy191, hr⟩ := bind_some hr
   refine W.keep (u_wheel_Recognize_2 (Zx.refl _) st h0 s0 h2 h11 o11 h12 o12 h13 h48 s48 h50 ao11_o12 hy191) ?_
   rintro ex197 fr192 m193 hk195 ⟨z194, hz196, st, rfl, h11, O199, h12, O201, A202, -⟩
   replace s0 := s0.mono hz196.le
   replace s48 := s48.mono hz196.le
   have h0 := (hk195 0 rfl).trans h0
   have h2 := (hk195 2 rfl).trans h2
   have h13 := (hk195 13 rfl).trans h13
   have h48 := (hk195 48 rfl).trans h48
   have h49 := (hk195 49 rfl).trans h49
   have h50 := (hk195 50 rfl).trans h50
   replace hz := hz.trans hz196
   clear hk195
   refine thenQ.n (W.region ?_)
   refine sx rfl (pAdd (k := .i64) (a := x50) (b := 1) rfl h50 rfl) ?_
   refine sx rfl (pMove (v := (vI (IntKind.wrap .i64 (x50 + 1)))) rfl rfl) ?_
   refine SeqW.done fun fr203 hf204 => ?_
   have h0 := (congrFun hf204 0).trans h0
   have h2 := (congrFun hf204 2).trans h2
   have h11 := (congrFun hf204 11).trans h11
   have h12 := (congrFun hf204 12).trans h12
   have h13 := (congrFun hf204 13).trans h13
   have h48 := (congrFun hf204 48).trans h48
   have h49 := (congrFun hf204 49).trans h49
   have h50 : fr203 50 = (vI (IntKind.wrap .i64 (x50 + 1))) := (congrFun hf204 50).trans rfl
   clear hf204
   refine thenQ.n ?_
   exact ih hz st h0 s0 h2 h11 O199 h12 O201 h13 h48 s48 h49 h50 A202 hr
  ·refine W.condF h51 hc205 ?_
   refine W.exit ?_
   refine thenQ.x ?_
   refine thenQ.x ?_
   obtain rfl := Option.some.inj hr
   exact ⟨z, hz, st, rfl, h11, o11, h12, o12, ao11_o12, trivial⟩

theorem u_wheel_Recognize_0 : ∀ (n : Nat) {N : Nat}  {z0 z : Nat → Blk} {e m : Mem} {k : Option Nat} {fr : Nat → Value} {x0 : List Int} {x1 : List (List Int)} {x2 : Int} {x11 : List Int} {x12 : List Int} {x13 : Int} {v0 : Value} {v1 : Value} {v11 : Value} {v12 : Value} (hz : Zx e.next z0 z) (st : St z e m k) (h0 : fr 0 = v0) (s0 : SlR (TInt 3 .i64) z x0 v0) (h1 : fr 1 = v1) (s1 : SlR (TSl 22 (TInt 3 .i64)) z x1 v1) (h2 : fr 2 = (vI x2)) (h11 : fr 11 = v11) (o11 : OwF (TInt 3 .i64) z e m k x11 v11) (h12 : fr 12 = v12) (o12 : OwF (TInt 3 .i64) z e m k x12 v12) (h13 : fr 13 = (vI x13)) (ao11_o12 : Ap (blkOf v11) (blkOf v12)) {r : List Int × List Int} (hr : wheel_Recognize_0 N x0 x1 x2 n x11 x12 x13 = some r), W Try.prog (sub (bodyOf Try.f10) [1, 1, 1, 1, 1, 0, 1, 0]) (fun ex fr' m' => ∃ z', Zx e.next z0 z' ∧ St z' e m' k ∧ ex = AExit.exit 0 ∧ fr' 11 = v11 ∧ OwF (TInt 3 .i64) z' e m' k r.1 v11 ∧ fr' 12 = v12 ∧ OwF (TInt 3 .i64) z' e m' k r.2 v12 ∧ Ap (blkOf v11) (blkOf v12) ∧ True) fr m := by
 intro n
 induction n with
 | zero => intro N z0 z e m k fr x0 x1 x2 x11 x12 x13 v0 v1 v11 v12 hz st h0 s0 h1 s1 h2 h11 o11 h12 o12 h13 ao11_o12 r hr; cases (show (none : Option _) = some r from hr)
 | succ n ih =>
  intro N z0 z e m k fr x0 x1 x2 x11 x12 x13 v0 v1 v11 v12 hz st h0 s0 h1 s1 h2 h11 o11 h12 o12 h13 ao11_o12 r hr
  unfold wheel_Recognize_0 at hr
  refine W.loop1 ?_
  refine W.seq (W.seq (W.region ?_))
  refine sx rfl (pMove (v := (vI x13)) rfl h13) ?_
  refine sx rfl (pGeq (k := .i64) (a := x13) (b := 0) rfl rfl rfl) ?_
  refine SeqW.done fun fr37 hf38 => ?_
  have h0 := (congrFun hf38 0).trans h0
  have h1 := (congrFun hf38 1).trans h1
  have h2 := (congrFun hf38 2).trans h2
  have h11 := (congrFun hf38 11).trans h11
  have h12 := (congrFun hf38 12).trans h12
  have h13 := (congrFun hf38 13).trans h13
  have h39 : fr37 39 = (vB (decide (0 ≤ x13))) := (congrFun hf38 39).trans rfl
  clear hf38
  refine thenQ.n ?_
  rcases if_some hr with ⟨hc39, hr⟩ | ⟨hc221, hr⟩
  ·refine W.condT h39 hc39 (W.skip ?_)
   refine thenQ.n (W.seq ?_)
   refine W.block ?_
   refine W.seq (W.region ?_)
   refine sx rfl (pMove (v := v11) rfl h11) ?_
   refine sx rfl (pMove (v := (vI x13)) rfl h13) ?_
   refine sx rfl (pMove (v := v12) rfl h12) ?_
   refine sx rfl (pMove (v := (vI x13)) rfl h13) ?_
   obtain ⟨y40, hy40, hr⟩ := bind_some hr
   refine SeqW.consX rfl (kIdxO (T := (TInt 3 .i64)) (xs := x11) (n := x13) rfl Try.underlying22 Try.type3 rfl rfl rfl o11 hy40 ?_)
   intro B41 l42 c43 cs44 hv45 hd46 hg47 hc48
   have hd460 := hd46
   obtain rfl := hd460
   refine SeqW.consX rfl (kSet (T := (TInt 3 .i64)) (off := (x13 : Int).toNat * ((TInt 3 .i64)).sz) (n := (x13 : Int).toNat) (f := 0) (w := (vI (-1))) (new := [(vI (-1))]) (ecs := [(vI y40)]) (ecs' := [(vI (-1))]) (a := y40) (a' := (-1)) rfl Try.type3 rfl rfl rfl rfl rfl rfl o11 hv45 hg47 hd46 hc48 rfl rfl rfl st ?_)
   intro m49 st o11 sm50
   obtain ⟨y51, hy51, hr⟩ := lt_some hr
   rw [hy51] at o11
   replace o12 := o12.same sm50 (Ap.symm ao11_o12)
   obtain ⟨y52, hy52, hr⟩ := bind_some hr
   refine SeqW.consX rfl (kIdxO (T := (TInt 3 .i64)) (xs := x12) (n := x13) rfl Try.underlying22 Try.type3 rfl rfl rfl o12 hy52 ?_)
   intro B53 l54 c55 cs56 hv57 hd58 hg59 hc60
   have hd580 := hd58
   obtain rfl := hd580
   refine SeqW.consX rfl (kSet (T := (TInt 3 .i64)) (off := (x13 : Int).toNat * ((TInt 3 .i64)).sz) (n := (x13 : Int).toNat) (f := 0) (w := (vI (-1))) (new := [(vI (-1))]) (ecs := [(vI y52)]) (ecs' := [(vI (-1))]) (a := y52) (a' := (-1)) rfl Try.type3 rfl rfl rfl rfl rfl rfl o12 hv57 hg59 hd58 hc60 rfl rfl rfl st ?_)
   intro m61 st o12 sm62
   obtain ⟨y63, hy63, hr⟩ := lt_some hr
   rw [hy63] at o12
   replace o11 := o11.same sm62 ao11_o12
   refine SeqW.done fun fr64 hf65 => ?_
   have h0 := (congrFun hf65 0).trans h0
   have h1 := (congrFun hf65 1).trans h1
   have h2 := (congrFun hf65 2).trans h2
   have h11 := (congrFun hf65 11).trans h11
   have h12 := (congrFun hf65 12).trans h12
   have h13 := (congrFun hf65 13).trans h13
   clear hf65
   refine thenQ.n (W.seq (W.region ?_))
   refine sx rfl (pMove (v := v1) rfl h1) ?_
   refine sx rfl (pLenR (xs := x1) rfl Try.underlying23 rfl s1) ?_
   refine sx rfl (pMove (v := (vI 0)) rfl rfl) ?_
   refine SeqW.done fun fr66 hf67 => ?_
   have h0 := (congrFun hf67 0).trans h0
   have h1 := (congrFun hf67 1).trans h1
   have h2 := (congrFun hf67 2).trans h2
   have h11 := (congrFun hf67 11).trans h11
   have h12 := (congrFun hf67 12).trans h12
   have h13 := (congrFun hf67 13).trans h13
   have h48 : fr66 48 = v1 := (congrFun hf67 48).trans rfl
   have h49 : fr66 49 = (vI (x1.length : Int)) := (congrFun hf67 49).trans rfl
   have h50 : fr66 50 = (vI 0) := (congrFun hf67 50).trans rfl
   clear hf67
   refine thenQ.n ?_
   refine W.block ?_
   obtain ⟨y206, hy206, hr⟩ := bind_some hr
   refine W.keep (u_wheel_Recognize_1 _ (Zx.refl _) st h0 s0 h2 h11 o11 h12 o12 h13 h48 s1 h49 h50 ao11_o12 hy206) ?_
   rintro ex212 fr207 m208 hk210 ⟨z209, hz211, st, rfl, h11, O214, h12, O216, A217, -⟩
   replace s0 := s0.mono hz211.le
   replace s1 := s1.mono hz211.le
   have h0 := (hk210 0 rfl).trans h0
   have h1 := (hk210 1 rfl).trans h1
   have h2 := (hk210 2 rfl).trans h2
   have h13 := (hk210 13 rfl).trans h13
   replace hz := hz.trans hz211
   clear hk210
   refine blockQ.hit ?_
   refine blockQ.n ?_
   refine thenQ.n (W.region ?_)
   refine sx rfl (pMove (v := (vI x13)) rfl h13) ?_
   refine sx rfl (pSub (k := .i64) (a := x13) (b := 1) rfl rfl rfl) ?_
   obtain ⟨y218, hy218, hr⟩ := lt_some hr
   refine sx rfl (pAssign rfl (congrArg (Value.int .i64) hy218)) ?_
   refine SeqW.done fun fr219 hf220 => ?_
   have h0 := (congrFun hf220 0).trans h0
   have h1 := (congrFun hf220 1).trans h1
   have h2 := (congrFun hf220 2).trans h2
   have h11 := (congrFun hf220 11).trans h11
   have h12 := (congrFun hf220 12).trans h12
   have h13 : fr219 13 = (vI y218) := (congrFun hf220 13).trans rfl
   clear hf220
   refine thenQ.n ?_
   exact ih hz st h0 s0 h1 s1 h2 h11 O214 h12 O216 h13 A217 hr
  ·refine W.condF h39 hc221 ?_
   refine W.exit ?_
   refine thenQ.x ?_
   refine thenQ.x ?_
   obtain rfl := Option.some.inj hr
   exact ⟨z, hz, st, rfl, h11, o11, h12, o12, ao11_o12, trivial⟩

theorem u_wheel_Recognize_5 : ∀ (n : Nat) {N : Nat}  {z0 z : Nat → Blk} {e m : Mem} {k : Option Nat} {fr : Nat → Value} {x1 : List (List Int)} {x10 : Int} {x12 : List Int} {x18 : List Int} {x19 : Int} {v1 : Value} {x11 : List Int} {v11 : Value} {v12 : Value} {v18 : Value} (hz : Zx e.next z0 z) (st : St z e m k) (h1 : fr 1 = v1) (s1 : SlR (TSl 22 (TInt 3 .i64)) z x1 v1) (h10 : fr 10 = (vI x10)) (h11 : fr 11 = v11) (o11 : OwF (TInt 3 .i64) z e m k x11 v11) (h12 : fr 12 = v12) (o12 : OwF (TInt 3 .i64) z e m k x12 v12) (h18 : fr 18 = v18) (o18 : OwF (TInt 3 .i64) z e m k x18 v18) (h19 : fr 19 = (vI x19)) (ao11_o12 : Ap (blkOf v11) (blkOf v12)) (ao11_o18 : Ap (blkOf v11) (blkOf v18)) (ao12_o18 : Ap (blkOf v12) (blkOf v18)) {r : List Int} (hr : wheel_Recognize_5 N x1 x10 x12 n x18 x19 = some r), W Try.prog (sub (bodyOf Try.f10) [1, 1, 1, 1, 1, 1, 1, 1, 0, 1, 0]) (fun ex fr' m' => ∃ z', Zx e.next z0 z' ∧ St z' e m' k ∧ ex = AExit.exit 4 ∧ ∃ (w18 : Value), fr' 18 = w18 ∧ OwF (TInt 3 .i64) z' e m' k r w18 ∧ OwF (TInt 3 .i64) z' e m' k x11 v11 ∧ Ap (blkOf w18) (blkOf v11) ∧ True) fr m := by
 intro n
 induction n with
 | zero => intro N z0 z e m k fr x1 x10 x12 x18 x19 v1 x11 v11 v12 v18 hz st h1 s1 h10 h11 o11 h12 o12 h18 o18 h19 ao11_o12 ao11_o18 ao12_o18 r hr; cases (show (none : Option _) = some r from hr)
 | succ n ih =>
  intro N z0 z e m k fr x1 x10 x12 x18 x19 v1 x11 v11 v12 v18 hz st h1 s1 h10 h11 o11 h12 o12 h18 o18 h19 ao11_o12 ao11_o18 ao12_o18 r hr
  unfold wheel_Recognize_5 at hr
  refine W.loop1 ?_
  refine W.seq (W.seq (W.region ?_))
  refine sx rfl (pMove (v := (vI x19)) rfl h19) ?_
  refine sx rfl (pMove (v := (vI x10)) rfl h10) ?_
  refine sx rfl (pLss (k := .i64) (a := x19) (b := x10) rfl rfl rfl) ?_
  refine SeqW.done fun fr253 hf254 => ?_
  have h1 := (congrFun hf254 1).trans h1
  have h10 := (congrFun hf254 10).trans h10
  have h11 := (congrFun hf254 11).trans h11
  have h12 := (congrFun hf254 12).trans h12
  have h18 := (congrFun hf254 18).trans h18
  have h19 := (congrFun hf254 19).trans h19
  have h115 : fr253 115 = (vB (decide (x19 < x10))) := (congrFun hf254 115).trans rfl
  clear hf254
  refine thenQ.n ?_
  rcases if_some hr with ⟨hc255, hr⟩ | ⟨hc307, hr⟩
  ·refine W.condT h115 hc255 (W.skip ?_)
   refine thenQ.n (W.seq ?_)
   refine W.block ?_
   refine W.region ?_
   refine sx rfl (pMove (v := v18) rfl h18) ?_
   refine sx rfl (pMove (v := v12) rfl h12) ?_
   refine sx rfl (pMove (v := (vI x19)) rfl h19) ?_
   obtain ⟨y256, hy256, hr⟩ := bind_some hr
   refine SeqW.consX rfl (kIdxO (T := (TInt 3 .i64)) (xs := x12) (n := x19) rfl Try.underlying22 Try.type3 rfl rfl rfl o12 hy256 ?_)
   intro B257 l258 c259 cs260 hv261 hd262 hg263 hc264
   have hd2620 := hd262
   obtain rfl := hd2620
   refine SeqW.consX rfl (kLoad (v := (vI y256)) rfl Try.underlying3 rfl rfl (hc264 0 _ rfl) ?_)
   refine SeqW.consX rfl (kBuild (T := (TInt 3 .i64)) rfl Try.underlying22 Try.type3 rfl rfl rfl rfl ([y256] : List Int) [[(vI y256)]] rfl rfl rfl (BuildOk.mk (w := (vI y256)) rfl rfl rfl rfl trivial) st ?_)
   intro V265 m266 st O267 sm268 hap269
   have A271 := hap269 _ o11.lt
   have A272 := hap269 _ o12.lt
   have A273 := hap269 _ o18.lt
   replace o11 := o11.same sm268 Ap.none'
   replace o12 := o12.same sm268 Ap.none'
   replace o18 := o18.same sm268 Ap.none'
   obtain ⟨y274, hy274, hr⟩ := bind_some hr
   refine SeqW.consX rfl (kAppend (T := (TInt 3 .i64)) (xs := x18) (ys := ([y256] : List Int)) rfl Try.underlying22 Try.type3 rfl rfl rfl rfl rfl rfl (.inl ⟨_, Try.underlying22⟩) rfl o18 rfl O267.ow.src st hy274 ?_)
   intro V275 m276 st O277 sm278 hap279
   have A281 := hap279 _ o11.lt ao11_o18
   have A282 := hap279 _ o12.lt ao12_o18
   have A283 := hap279 _ O267.lt (Ap.symm A273)
   replace o11 := o11.same sm278 ao11_o18
   replace o12 := o12.same sm278 ao12_o18
   replace O267 := O267.same sm278 (Ap.symm A273)
   refine sx rfl (pAssign (v := V275) rfl rfl) ?_
   refine SeqW.done fun fr284 hf285 => ?_
   have h1 := (congrFun hf285 1).trans h1
   have h10 := (congrFun hf285 10).trans h10
   have h11 := (congrFun hf285 11).trans h11
   have h12 := (congrFun hf285 12).trans h12
   have h18 : fr284 18 = V275 := (congrFun hf285 18).trans rfl
   have h19 := (congrFun hf285 19).trans h19
   clear hf285
   refine blockQ.n ?_
   refine thenQ.n (W.region ?_)
   refine sx rfl (pMove (v := (vI x19)) rfl h19) ?_
   refine sx rfl (pMove (v := v1) rfl h1) ?_
   refine sx rfl (pMove (v := v12) rfl h12) ?_
   refine sx rfl (pMove (v := (vI x19)) rfl h19) ?_
   obtain ⟨y286, hy286, hr⟩ := bind_some hr
   refine SeqW.consX rfl (kIdxO (T := (TInt 3 .i64)) (xs := x12) (n := x19) rfl Try.underlying22 Try.type3 rfl rfl rfl o12 hy286 ?_)
   intro B287 l288 c289 cs290 hv291 hd292 hg293 hc294
   have hd2920 := hd292
   obtain rfl := hd2920
   refine SeqW.consX rfl (kLoad (v := (vI y286)) rfl Try.underlying3 rfl rfl (hc294 0 _ rfl) ?_)
   obtain ⟨y295, hy295, hr⟩ := bind_some hr
   refine SeqW.consX rfl (kIdxR (T := (TSl 22 (TInt 3 .i64))) (xs := x1) (n := y286) rfl Try.underlying23 Try.type22 rfl rfl rfl s1 hy295 ?_)
   intro B296 f297 cs298 hd299 hc300
   obtain ⟨V301, rfl, Q302⟩ := hd299
   refine SeqW.consX rfl (kLoad (v := V301) rfl Try.underlying22 rfl rfl (ldz_load st.fz (hc300 0 _ rfl)) ?_)
   refine sx rfl (pLenR (xs := y295) rfl Try.underlying22 rfl Q302) ?_
   refine sx rfl (pAdd (k := .i64) (a := (y295.length : Int)) (b := 1) rfl rfl rfl) ?_
   refine sx rfl (pAdd (k := .i64) (a := x19) (b := (IntKind.wrap .i64 ((y295.length : Int) + 1))) rfl rfl rfl) ?_
   obtain ⟨y304, hy304, hr⟩ := lt_some hr
   refine sx rfl (pAssign rfl (congrArg (Value.int .i64) hy304)) ?_
   refine SeqW.done fun fr305 hf306 => ?_
   have h1 := (congrFun hf306 1).trans h1
   have h10 := (congrFun hf306 10).trans h10
   have h11 := (congrFun hf306 11).trans h11
   have h12 := (congrFun hf306 12).trans h12
   have h18 := (congrFun hf306 18).trans h18
   have h19 : fr305 19 = (vI y304) := (congrFun hf306 19).trans rfl
   clear hf306
   refine thenQ.n ?_
   exact ih hz st h1 s1 h10 h11 o11 h12 o12 h18 O277 h19 ao11_o12 A281 A282 hr
  ·refine W.condF h115 hc307 ?_
   refine W.exit ?_
   refine thenQ.x ?_
   refine thenQ.x ?_
   obtain rfl := Option.some.inj hr
   exact ⟨z, hz, st, rfl, v18, h18, o18, o11, (Ap.symm ao11_o18), trivial⟩

theorem u_wheel_Recognize {N : Nat}  {z0 z : Nat → Blk} {e m : Mem} {k : Option Nat} {fr : Nat → Value} {x0 : List Int} {x1 : List (List Int)} {x2 : Int} {v0 : Value} {v1 : Value} (hz : Zx e.next z0 z) (st : St z e m k) (h0 : fr 0 = v0) (s0 : SlR (TInt 3 .i64) z x0 v0) (h1 : fr 1 = v1) (s1 : SlR (TSl 22 (TInt 3 .i64)) z x1 v1) (h2 : fr 2 = (vI x2)) {r : List Int × Int × Int} (hr : wheel_Recognize N x0 x1 x2 = some r) : W Try.prog (sub (bodyOf Try.f10) []) (fun ex fr' m' => ∃ z', Zx e.next z0 z' ∧ St z' e m' k ∧ (ex = .normal ∨ ex = .ret) ∧ ∃ (w6 : Value), fr' 6 = w6 ∧ SlR (TInt 3 .i64) z' r.1 w6 ∧ fr' 7 = (vI r.2.1) ∧ fr' 8 = (vI r.2.2) ∧ True) fr m := by
 unfold wheel_Recognize at hr
 refine W.seq (W.region ?_)
 refine sx rfl (pAssign (v := (Value.slice none 0 0)) rfl rfl) ?_
 refine sx rfl (pAssign (v := (vI 0)) rfl rfl) ?_
 refine sx rfl (pAssign (v := (vI 0)) rfl rfl) ?_
 refine SeqW.done fun fr1 hf2 => ?_
 have h0 := (congrFun hf2 0).trans h0
 have h1 := (congrFun hf2 1).trans h1
 have h2 := (congrFun hf2 2).trans h2
 clear hf2
 refine thenQ.n (W.seq ?_)
 refine W.seq (W.region ?_)
 refine sx rfl (pMove (v := v0) rfl h0) ?_
 refine sx rfl (pMove (v := v1) rfl h1) ?_
 refine sx rfl (pMove (v := (vI x2)) rfl h2) ?_
 obtain ⟨y3, hy3, hr⟩ := bind_some hr
 refine SeqW.consX rfl (StepX.call (gCallee rfl rfl (args3 rfl rfl rfl)) ((c_wheel_check (z := z) st.fz st.dead s0 s1 hy3).mono ?_))
 rintro _ _ ⟨rfl, rfl⟩
 refine sx rfl (pAssign (v := (vI y3)) rfl rfl) ?_
 refine SeqW.done fun fr4 hf5 => ?_
 have h0 := (congrFun hf5 0).trans h0
 have h1 := (congrFun hf5 1).trans h1
 have h2 := (congrFun hf5 2).trans h2
 have h9 : fr4 9 = (vI y3) := (congrFun hf5 9).trans rfl
 clear hf5
 refine thenQ.n (W.seq (W.region ?_))
 refine sx rfl (pMove (v := (vI y3)) rfl h9) ?_
 refine sx rfl (pNeq (k := .i64) (a := y3) (b := 0) rfl rfl rfl) ?_
 refine SeqW.done fun fr6 hf7 => ?_
 have h0 := (congrFun hf7 0).trans h0
 have h1 := (congrFun hf7 1).trans h1
 have h2 := (congrFun hf7 2).trans h2
 have h9 := (congrFun hf7 9).trans h9
 have h25 : fr6 25 = (vB (y3 != 0)) := (congrFun hf7 25).trans rfl
 clear hf7
 refine thenQ.n ?_
 rcases if_some hr with ⟨hc8, hr⟩ | ⟨hc11, hr⟩
 ·refine W.condT h25 hc8 (W.seq (W.region ?_))
  refine sx rfl (pMove (v := (vI y3)) rfl h9) ?_
  refine sx rfl (pAssign (v := (Value.slice none 0 0)) rfl rfl) ?_
  refine sx rfl (pAssign (v := (vI 0)) rfl rfl) ?_
  refine sx rfl (pAssign (v := (vI y3)) rfl rfl) ?_
  refine SeqW.done fun fr9 hf10 => ?_
  have h6 : fr9 6 = (Value.slice none 0 0) := (congrFun hf10 6).trans rfl
  have h7 : fr9 7 = (vI 0) := (congrFun hf10 7).trans rfl
  have h8 : fr9 8 = (vI y3) := (congrFun hf10 8).trans rfl
  clear hf10
  refine thenQ.n ?_
  refine W.ret ?_
  refine thenQ.r ?_
  obtain rfl := Option.some.inj hr
  exact ⟨z, hz, st, .inr rfl, (Value.slice none 0 0), h6, SlR.nil, h7, h8, trivial⟩
 ·refine W.condF h25 hc11 (W.skip ?_)
  refine thenQ.n (W.seq (W.region ?_))
  refine sx rfl (pMove (v := v0) rfl h0) ?_
  refine sx rfl (pLenR (xs := x0) rfl Try.underlying22 rfl s0) ?_
  refine sx rfl (pAdd (k := .i64) (a := (x0.length : Int)) (b := 1) rfl rfl rfl) ?_
  obtain ⟨y12, hy12, hr⟩ := lt_some hr
  refine sx rfl (pAssign rfl (congrArg (Value.int .i64) hy12)) ?_
  refine SeqW.done fun fr13 hf14 => ?_
  have h0 := (congrFun hf14 0).trans h0
  have h1 := (congrFun hf14 1).trans h1
  have h2 := (congrFun hf14 2).trans h2
  have h10 : fr13 10 = (vI y12) := (congrFun hf14 10).trans rfl
  clear hf14
  refine thenQ.n (W.seq (W.region ?_))
  refine sx rfl (pMove (v := (vI y12)) rfl h10) ?_
  refine sx rfl (pAdd (k := .i64) (a := y12) (b := 1) rfl rfl rfl) ?_
  obtain ⟨y15, hy15, hr⟩ := bind_some hr
  refine SeqW.consX rfl (kMake (T := (TInt 3 .i64)) (x0 := 0) (n := (IntKind.wrap .i64 (y12 + 1))) rfl Try.underlying22 Try.type3 rfl rfl rfl rfl rfl rfl rfl rfl st hy15 ?_)
  intro V16 m17 st O18 sm19 hap20
  refine sx rfl (pAssign (v := V16) rfl rfl) ?_
  refine SeqW.done fun fr22 hf23 => ?_
  have h0 := (congrFun hf23 0).trans h0
  have h1 := (congrFun hf23 1).trans h1
  have h2 := (congrFun hf23 2).trans h2
  have h10 := (congrFun hf23 10).trans h10
  have h11 : fr22 11 = V16 := (congrFun hf23 11).trans rfl
  clear hf23
  refine thenQ.n (W.seq (W.region ?_))
  refine sx rfl (pMove (v := (vI y12)) rfl h10) ?_
  refine sx rfl (pAdd (k := .i64) (a := y12) (b := 1) rfl rfl rfl) ?_
  obtain ⟨y24, hy24, hr⟩ := bind_some hr
  refine SeqW.consX rfl (kMake (T := (TInt 3 .i64)) (x0 := 0) (n := (IntKind.wrap .i64 (y12 + 1))) rfl Try.underlying22 Try.type3 rfl rfl rfl rfl rfl rfl rfl rfl st hy24 ?_)
  intro V25 m26 st O27 sm28 hap29
  have A31 := hap29 _ O18.lt
  replace O18 := O18.same sm28 Ap.none'
  refine sx rfl (pAssign (v := V25) rfl rfl) ?_
  refine SeqW.done fun fr32 hf33 => ?_
  have h0 := (congrFun hf33 0).trans h0
  have h1 := (congrFun hf33 1).trans h1
  have h2 := (congrFun hf33 2).trans h2
  have h10 := (congrFun hf33 10).trans h10
  have h11 := (congrFun hf33 11).trans h11
  have h12 : fr32 12 = V25 := (congrFun hf33 12).trans rfl
  clear hf33
  refine thenQ.n (W.seq ?_)
  refine W.seq (W.region ?_)
  refine sx rfl (pMove (v := (vI y12)) rfl h10) ?_
  refine sx rfl (pSub (k := .i64) (a := y12) (b := 1) rfl rfl rfl) ?_
  obtain ⟨y34, hy34, hr⟩ := lt_some hr
  refine sx rfl (pAssign rfl (congrArg (Value.int .i64) hy34)) ?_
  refine SeqW.done fun fr35 hf36 => ?_
  have h0 := (congrFun hf36 0).trans h0
  have h1 := (congrFun hf36 1).trans h1
  have h2 := (congrFun hf36 2).trans h2
  have h10 := (congrFun hf36 10).trans h10
  have h11 := (congrFun hf36 11).trans h11
  have h12 := (congrFun hf36 12).trans h12
  have h13 : fr35 13 = (vI y34) := (congrFun hf36 13).trans rfl
  clear hf36
  refine thenQ.n ?_
  refine W.block ?_
  obtain ⟨y222, hy222, hr⟩ := bind_some hr
  refine W.keep (u_wheel_Recognize_0 _ (Zx.refl _) st h0 s0 h1 s1 h2 h11 O18 h12 O27 h13 A31 hy222) ?_
  rintro ex228 fr223 m224 hk226 ⟨z225, hz227, st, rfl, h11, O230, h12, O232, A233, -⟩
  replace s1 := s1.mono hz227.le
  have h1 := (hk226 1 rfl).trans h1
  have h10 := (hk226 10 rfl).trans h10
  replace hz := hz.trans hz227
  clear hk226
  refine blockQ.hit ?_
  refine thenQ.n (W.seq ?_)
  refine W.seq (W.region ?_)
  refine sx rfl (pMove (v := V16) rfl h11) ?_
  obtain ⟨y234, hy234, hr⟩ := bind_some hr
  refine SeqW.consX rfl (kIdxO (T := (TInt 3 .i64)) (xs := y222.1) (n := 0) rfl Try.underlying22 Try.type3 rfl rfl rfl O230 hy234 ?_)
  intro B235 l236 c237 cs238 hv239 hd240 hg241 hc242
  have hd2400 := hd240
  obtain rfl := hd2400
  refine SeqW.consX rfl (kLoad (v := (vI y234)) rfl Try.underlying3 rfl rfl (hc242 0 _ rfl) ?_)
  refine sx rfl (pLss (k := .i64) (a := y234) (b := 0) rfl rfl rfl) ?_
  refine SeqW.done fun fr243 hf244 => ?_
  have h1 := (congrFun hf244 1).trans h1
  have h10 := (congrFun hf244 10).trans h10
  have h11 := (congrFun hf244 11).trans h11
  have h12 := (congrFun hf244 12).trans h12
  have h112 : fr243 112 = (vB (decide (y234 < 0))) := (congrFun hf244 112).trans rfl
  clear hf244
  refine thenQ.n ?_
  rcases if_some hr with ⟨hc245, hr⟩ | ⟨hc248, hr⟩
  ·refine W.condT h112 hc245 (W.seq (W.region ?_))
   refine sx rfl (pAssign (v := (Value.slice none 0 0)) rfl rfl) ?_
   refine sx rfl (pAssign (v := (vI 0)) rfl rfl) ?_
   refine sx rfl (pAssign (v := (vI 15)) rfl rfl) ?_
   refine SeqW.done fun fr246 hf247 => ?_
   have h6 : fr246 6 = (Value.slice none 0 0) := (congrFun hf247 6).trans rfl
   have h7 : fr246 7 = (vI 0) := (congrFun hf247 7).trans rfl
   have h8 : fr246 8 = (vI 15) := (congrFun hf247 8).trans rfl
   clear hf247
   refine thenQ.n ?_
   refine W.ret ?_
   refine thenQ.r ?_
   obtain rfl := Option.some.inj hr
   exact ⟨z225, hz, st, .inr rfl, (Value.slice none 0 0), h6, SlR.nil, h7, h8, trivial⟩
  ·refine W.condF h112 hc248 (W.skip ?_)
   refine thenQ.n (W.seq (W.region ?_))
   refine sx rfl (pAssign (v := (Value.slice none 0 0)) rfl rfl) ?_
   refine SeqW.done fun fr249 hf250 => ?_
   have h1 := (congrFun hf250 1).trans h1
   have h10 := (congrFun hf250 10).trans h10
   have h11 := (congrFun hf250 11).trans h11
   have h12 := (congrFun hf250 12).trans h12
   have h18 : fr249 18 = (Value.slice none 0 0) := (congrFun hf250 18).trans rfl
   clear hf250
   refine thenQ.n (W.seq ?_)
   refine W.seq (W.region ?_)
   refine sx rfl (pAssign (v := (vI 0)) rfl rfl) ?_
   refine SeqW.done fun fr251 hf252 => ?_
   have h1 := (congrFun hf252 1).trans h1
   have h10 := (congrFun hf252 10).trans h10
   have h11 := (congrFun hf252 11).trans h11
   have h12 := (congrFun hf252 12).trans h12
   have h18 := (congrFun hf252 18).trans h18
   have h19 : fr251 19 = (vI 0) := (congrFun hf252 19).trans rfl
   clear hf252
   refine thenQ.n ?_
   refine W.block ?_
   obtain ⟨y308, hy308, hr⟩ := bind_some hr
   refine W.keep (u_wheel_Recognize_5 _ (Zx.refl _) st h1 s1 h10 h11 O230 h12 O232 h18 OwF.nil h19 A233 Ap.none' Ap.none' hy308) ?_
   rintro ex314 fr309 m310 hk312 ⟨z311, hz313, st, rfl, w315, h18, O317, O318, A319, -⟩
   have h11 := (hk312 11 rfl).trans h11
   replace hz := hz.trans hz313
   clear hk312
   refine blockQ.hit ?_
   refine thenQ.n (W.seq ?_)
   refine W.calm (by decide) ?_
   refine sx rfl (pMove (v := w315) rfl h18) ?_
   refine sx rfl (pMove (v := V16) rfl h11) ?_
   obtain ⟨y320, hy320, hr⟩ := bind_some hr
   refine SeqW.consX rfl (kIdxO (T := (TInt 3 .i64)) (xs := y222.1) (n := 0) rfl Try.underlying22 Try.type3 rfl rfl rfl O318 hy320 ?_)
   intro B321 l322 c323 cs324 hv325 hd326 hg327 hc328
   have hd3260 := hd326
   obtain rfl := hd3260
   refine SeqW.consX rfl (kLoad (v := (vI y320)) rfl Try.underlying3 rfl rfl (hc328 0 _ rfl) ?_)
   refine sx rfl (pAssign (v := w315) rfl rfl) ?_
   refine sx rfl (pAssign (v := (vI y320)) rfl rfl) ?_
   refine sx rfl (pAssign (v := (vI 0)) rfl rfl) ?_
   refine SeqW.done fun fr329 hf330 => ?_
   have h6 : fr329 6 = w315 := (congrFun hf330 6).trans rfl
   have h7 : fr329 7 = (vI y320) := (congrFun hf330 7).trans rfl
   have h8 : fr329 8 = (vI 0) := (congrFun hf330 8).trans rfl
   clear hf330
   refine thenQ.n ?_
   refine W.ret ?_
   obtain ⟨z331, hz332, st, Q333, hl334⟩ := O317.freeze st
   replace hz := hz.trans hz332
   obtain rfl := Option.some.inj hr
   exact ⟨z331, hz, st, .inr rfl, w315, h6, Q333, h7, h8, trivial⟩

theorem c_wheel_Recognize {N : Nat} {z : Nat → Blk} {m : Mem} {x0 : List Int} {x1 : List (List Int)} {x2 : Int} {v0 : Value} {v1 : Value} (fz : Fz z m) (hd : ∀ b, m.next ≤ b → m.blk b = .dead) (s0 : SlR (TInt 3 .i64) z x0 v0) (s1 : SlR (TSl 22 (TInt 3 .i64)) z x1 v1) {r : List Int × Int × Int} (hr : wheel_Recognize N x0 x1 x2 = some r) : CallW Try.prog 10 #[v0, v1, (vI x2)] m fun v m' => ∃ z' w6, Zx m.next z z' ∧ Fz z' m' ∧ Same m m' none ∧ v = (Value.tuple [w6, (vI r.2.1), (vI r.2.2)].toArray) ∧ SlR (TInt 3 .i64) z' r.1 w6 ∧ True := by
 refine CallW.any Try.func10 rfl (by kernel_rfl) (Nat.le_of_ble_eq_true rfl) (fun fr hf => ?_)
 have h0 : fr 0 = _ := hf 0 _ rfl
 have h1 : fr 1 = _ := hf 1 _ rfl
 have h2 : fr 2 = _ := hf 2 _ rfl
 refine (u_wheel_Recognize (k := none) (Zx.refl _) (St.start fz hd) h0 s0 h1 s1 h2 hr).mono ?_
 rintro ex fr' m' ⟨z', hz, st, he, w6, h6, s6, h7, h8, -⟩
 exact ⟨he, [w6, (vI r.2.1), (vI r.2.2)], ⟨h6.symm, h7.symm, h8.symm, trivial⟩, .inr (List.forall_mem_cons.2 ⟨s6.stor.1, List.forall_mem_cons.2 ⟨rfl, List.forall_mem_cons.2 ⟨rfl, fun _ h => nomatch h⟩⟩⟩), z', w6, hz, st.fz, st.toSame, rfl, s6, trivial⟩

/-! ### humpyard/wagonnumber.digits -/

theorem u_wagonnumber_digits_1 {N : Nat}  {z0 z : Nat → Blk} {e m : Mem} {k : Option Nat} {fr : Nat → Value} {x0 : List UInt8} {x5 : Int} (hz : Zx e.next z0 z) (st : St z e m k) (h0 : fr 0 = (str x0)) (h5 : fr 5 = (vI x5)) {r : Bool} (hr : wagonnumber_digits_1 N x0 x5 = some r) : W Try.prog (sub (bodyOf Try.f52) [1, 0, 1, 0, 0, 1, 0, 0, 0]) (fun ex fr' m' => ∃ z', Zx e.next z0 z' ∧ St z' e m' k ∧ ex = AExit.normal ∧ fr' 21 = (vB r) ∧ True) fr m := by
 unfold wagonnumber_digits_1 at hr
 refine W.region ?_
 refine sx rfl (pMove (v := (str x0)) rfl h0) ?_
 refine sx rfl (pMove (v := (vI x5)) rfl h5) ?_
 obtain ⟨y8, hy8, hr⟩ := bind_some hr
 refine SeqW.consX rfl (kIndexS (s := x0) (n := x5) rfl Try.underlying9 rfl rfl hy8 ?_)
 refine sx rfl (pLss (k := .u8) (a := (UInt8.toNat y8 : Int)) (b := 48) rfl rfl rfl) ?_
 refine sx rfl (pMove (v := (vB (decide ((UInt8.toNat y8 : Int) < 48)))) rfl rfl) ?_
 rcases if_some hr with ⟨hc9, hr⟩ | ⟨hc12, hr⟩
 ·refine kx rfl rfl rfl hc9 ?_
  iterate 3 refine kx rfl rfl rfl hc9 ?_
  refine sx rfl (pPick (t := true) (v := (vB true)) rfl ((congrArg vB hc9)) rfl) ?_
  refine SeqW.done fun fr10 hf11 => ?_
  have h0 := (congrFun hf11 0).trans h0
  have h5 := (congrFun hf11 5).trans h5
  have h21 : fr10 21 = (vB true) := (congrFun hf11 21).trans rfl
  clear hf11
  obtain rfl := Option.some.inj hr
  exact ⟨z, hz, st, rfl, h21, trivial⟩
 ·refine SeqW.consG rfl rfl rfl hc12 (StepX.pure (pMove (v := (str x0)) rfl h0) ?_)
  refine SeqW.consG rfl rfl rfl hc12 (StepX.pure (pMove (v := (vI x5)) rfl h5) ?_)
  obtain ⟨y13, hy13, hr⟩ := bind_some hr
  refine SeqW.consG rfl rfl rfl hc12 (kIndexS (s := x0) (n := x5) rfl Try.underlying9 rfl rfl hy13 ?_)
  refine SeqW.consG rfl rfl rfl hc12 (StepX.pure (pGtr (k := .u8) (a := (UInt8.toNat y13 : Int)) (b := 57) rfl rfl rfl) ?_)
  refine sx rfl (pPick (t := false) (v := (vB (decide (57 < (UInt8.toNat y13 : Int))))) rfl ((congrArg vB hc12)) rfl) ?_
  refine SeqW.done fun fr14 hf15 => ?_
  have h0 := (congrFun hf15 0).trans h0
  have h5 := (congrFun hf15 5).trans h5
  have h21 : fr14 21 = (vB (decide (57 < (UInt8.toNat y13 : Int)))) := (congrFun hf15 21).trans rfl
  clear hf15
  obtain rfl := Option.some.inj hr
  exact ⟨z, hz, st, rfl, h21, trivial⟩

theorem u_wagonnumber_digits_0 : ∀ (n : Nat) {N : Nat}  {z0 z : Nat → Blk} {e m : Mem} {k : Option Nat} {fr : Nat → Value} {x0 : List UInt8} {x5 : Int} (hz : Zx e.next z0 z) (st : St z e m k) (h0 : fr 0 = (str x0)) (h5 : fr 5 = (vI x5)) {r : Sum (Unit) (Bool)} (hr : wagonnumber_digits_0 N x0 n x5 = some r), W Try.prog (sub (bodyOf Try.f52) [1, 0, 1, 0]) (fun ex fr' m' => ∃ z', Zx e.next z0 z' ∧ St z' e m' k ∧ ((∃ q, r = Sum.inl q ∧ ex = AExit.exit 0 ∧ True) ∨ (∃ q, r = Sum.inr q ∧ ex = AExit.ret ∧ fr' 4 = (vB q) ∧ True))) fr m := by
 intro n
 induction n with
 | zero => intro N z0 z e m k fr x0 x5 hz st h0 h5 r hr; cases (show (none : Option _) = some r from hr)
 | succ n ih =>
  intro N z0 z e m k fr x0 x5 hz st h0 h5 r hr
  unfold wagonnumber_digits_0 at hr
  refine W.loop1 ?_
  refine W.seq (W.seq (W.region ?_))
  refine sx rfl (pMove (v := (vI x5)) rfl h5) ?_
  refine sx rfl (pMove (v := (str x0)) rfl h0) ?_
  refine sx rfl (pLenS (s := x0) rfl rfl Try.underlying9 rfl) ?_
  refine sx rfl (pLss (k := .i64) (a := x5) (b := (x0.length : Int)) rfl rfl rfl) ?_
  refine SeqW.done fun fr5 hf6 => ?_
  have h0 := (congrFun hf6 0).trans h0
  have h5 := (congrFun hf6 5).trans h5
  have h9 : fr5 9 = (vB (decide (x5 < (x0.length : Int)))) := (congrFun hf6 9).trans rfl
  clear hf6
  refine thenQ.n ?_
  rcases if_some hr with ⟨hc7, hr⟩ | ⟨hc30, hr⟩
  ·refine W.condT h9 hc7 (W.skip ?_)
   refine thenQ.n (W.seq ?_)
   refine W.block ?_
   refine W.seq ?_
   obtain ⟨y16, hy16, hr⟩ := bind_some hr
   refine W.keep (u_wagonnumber_digits_1 (Zx.refl _) st h0 h5 hy16) ?_
   rintro ex22 fr17 m18 hk20 ⟨z19, hz21, st, rfl, h21, -⟩
   have h0 := (hk20 0 rfl).trans h0
   have h5 := (hk20 5 rfl).trans h5
   replace hz := hz.trans hz21
   clear hk20
   refine thenQ.n ?_
   rcases if_some hr with ⟨hc23, hr⟩ | ⟨hc26, hr⟩
   ·refine W.condT h21 hc23 (W.seq (W.region ?_))
    refine sx rfl (pAssign (v := (vB false)) rfl rfl) ?_
    refine SeqW.done fun fr24 hf25 => ?_
    have h4 : fr24 4 = (vB false) := (congrFun hf25 4).trans rfl
    clear hf25
    refine thenQ.n ?_
    refine W.ret ?_
    refine blockQ.r ?_
    refine thenQ.r ?_
    refine thenQ.r ?_
    obtain rfl := Option.some.inj hr
    exact ⟨z19, hz, st, .inr ⟨_, rfl, rfl, h4, trivial⟩⟩
   ·refine W.condF h21 hc26 (W.skip ?_)
    refine blockQ.n ?_
    refine thenQ.n (W.region ?_)
    refine sx rfl (pMove (v := (vI x5)) rfl h5) ?_
    refine sx rfl (pAdd (k := .i64) (a := x5) (b := 1) rfl rfl rfl) ?_
    obtain ⟨y27, hy27, hr⟩ := lt_some hr
    refine sx rfl (pAssign rfl (congrArg (Value.int .i64) hy27)) ?_
    refine SeqW.done fun fr28 hf29 => ?_
    have h0 := (congrFun hf29 0).trans h0
    have h5 : fr28 5 = (vI y27) := (congrFun hf29 5).trans rfl
    clear hf29
    refine thenQ.n ?_
    exact ih hz st h0 h5 hr
  ·refine W.condF h9 hc30 ?_
   refine W.exit ?_
   refine thenQ.x ?_
   refine thenQ.x ?_
   obtain rfl := Option.some.inj hr
   exact ⟨z, hz, st, .inl ⟨_, rfl, rfl, trivial⟩⟩

theorem u_wagonnumber_digits {N : Nat}  {z0 z : Nat → Blk} {e m : Mem} {k : Option Nat} {fr : Nat → Value} {x0 : List UInt8} {x1 : Int} (hz : Zx e.next z0 z) (st : St z e m k) (h0 : fr 0 = (str x0)) (h1 : fr 1 = (vI x1)) {r : Bool} (hr : wagonnumber_digits N x0 x1 = some r) : W Try.prog (sub (bodyOf Try.f52) []) (fun ex fr' m' => ∃ z', Zx e.next z0 z' ∧ St z' e m' k ∧ (ex = .normal ∨ ex = .ret) ∧ fr' 4 = (vB r) ∧ True) fr m := by
 unfold wagonnumber_digits at hr
 refine W.seq (W.region ?_)
 refine sx rfl (pAssign (v := (vB false)) rfl rfl) ?_
 refine SeqW.done fun fr1 hf2 => ?_
 have h0 := (congrFun hf2 0).trans h0
 have h1 := (congrFun hf2 1).trans h1
 clear hf2
 refine thenQ.n (W.seq ?_)
 refine W.seq (W.region ?_)
 refine sx rfl (pAssign (v := (vI 0)) rfl rfl) ?_
 refine SeqW.done fun fr3 hf4 => ?_
 have h0 := (congrFun hf4 0).trans h0
 have h1 := (congrFun hf4 1).trans h1
 have h5 : fr3 5 = (vI 0) := (congrFun hf4 5).trans rfl
 clear hf4
 refine thenQ.n ?_
 refine W.block ?_
 obtain ⟨y31, hy31, hr⟩ := bind_some hr
 refine W.keep (u_wagonnumber_digits_0 _ (Zx.refl _) st h0 h5 hy31) ?_
 rintro ex37 fr32 m33 hk35 ⟨z34, hz36, st, ⟨y38, rfl, rfl, -⟩ | ⟨y42, rfl, rfl, h4, -⟩⟩
 ·dsimp only at hr
  have h0 := (hk35 0 rfl).trans h0
  have h1 := (hk35 1 rfl).trans h1
  replace hz := hz.trans hz36
  clear hk35
  refine blockQ.hit ?_
  refine thenQ.n (W.seq (W.region ?_))
  refine sx rfl (pMove (v := (str x0)) rfl h0) ?_
  refine sx rfl (pLenS (s := x0) rfl rfl Try.underlying9 rfl) ?_
  refine sx rfl (pMove (v := (vI x1)) rfl h1) ?_
  refine sx rfl (pEql (k := .i64) (a := (x0.length : Int)) (b := x1) rfl rfl rfl) ?_
  obtain ⟨y39, hy39, hr⟩ := lt_some hr
  refine sx rfl (pAssign rfl (congrArg vB hy39)) ?_
  refine SeqW.done fun fr40 hf41 => ?_
  have h4 : fr40 4 = (vB y39) := (congrFun hf41 4).trans rfl
  clear hf41
  refine thenQ.n ?_
  refine W.ret ?_
  obtain rfl := Option.some.inj hr
  exact ⟨z34, hz, st, .inr rfl, h4, trivial⟩
 ·dsimp only at hr
  replace hz := hz.trans hz36
  clear hk35
  refine blockQ.r ?_
  refine thenQ.r ?_
  obtain rfl := Option.some.inj hr
  exact ⟨z34, hz, st, .inr rfl, h4, trivial⟩

theorem c_wagonnumber_digits {N : Nat} {z : Nat → Blk} {m : Mem} {x0 : List UInt8} {x1 : Int} (fz : Fz z m) (hd : ∀ b, m.next ≤ b → m.blk b = .dead)  {r : Bool} (hr : wagonnumber_digits N x0 x1 = some r) : CallW Try.prog 52 #[(str x0), (vI x1)] m fun v m' => v = (vB r) ∧ m' = m := by
 refine CallW.flat Try.func52 rfl (by kernel_rfl) (Nat.le_of_ble_eq_true rfl) rfl (z := z) (fun fr hf => ?_)
 have h0 : fr 0 = _ := hf 0 _ rfl
 have h1 : fr 1 = _ := hf 1 _ rfl
 refine (u_wagonnumber_digits (k := none) (Zx.refl _) (St.start fz hd) h0 h1 hr).mono ?_
 rintro ex fr' m' ⟨z', hz, st, he, h4, -⟩
 exact ⟨he, z', st, [(vB r)], ⟨h4.symm, trivial⟩, .inl rfl, rfl⟩

/-! ### humpyard/wagonnumber.sum -/

theorem u_wagonnumber_sum_1 {N : Nat}  {z0 z : Nat → Blk} {e m : Mem} {k : Option Nat} {fr : Nat → Value} {x5 : Int} {x19 : Bool} (hz : Zx e.next z0 z) (st : St z e m k) (h5 : fr 5 = (vI x5)) (h19 : fr 19 = (vB x19)) {r : Int} (hr : wagonnumber_sum_1 N x5 x19 = some r) : W Try.prog (sub (bodyOf Try.f54) [1, 1, 0, 1, 0, 0, 1, 0, 0, 1, 0, 1]) (fun ex fr' m' => ∃ z', Zx e.next z0 z' ∧ St z' e m' k ∧ ex = AExit.normal ∧ fr' 5 = (vI r) ∧ True) fr m := by
 unfold wagonnumber_sum_1 at hr
 rcases if_some hr with ⟨hc16, hr⟩ | ⟨hc27, hr⟩
 ·refine W.condT h19 hc16 (W.seq (W.region ?_))
  refine sx rfl (pMove (v := (vI x5)) rfl h5) ?_
  refine sx rfl (pMul (k := .i64) (a := x5) (b := 2) rfl rfl rfl) ?_
  obtain ⟨y17, hy17, hr⟩ := lt_some hr
  refine sx rfl (pAssign rfl (congrArg (Value.int .i64) hy17)) ?_
  refine SeqW.done fun fr18 hf19 => ?_
  have h5 : fr18 5 = (vI y17) := (congrFun hf19 5).trans rfl
  clear hf19
  refine thenQ.n (W.seq (W.region ?_))
  refine sx rfl (pMove (v := (vI y17)) rfl h5) ?_
  refine sx rfl (pGtr (k := .i64) (a := y17) (b := 9) rfl rfl rfl) ?_
  refine SeqW.done fun fr20 hf21 => ?_
  have h5 := (congrFun hf21 5).trans h5
  have h23 : fr20 23 = (vB (decide (9 < y17))) := (congrFun hf21 23).trans rfl
  clear hf21
  refine thenQ.n ?_
  rcases if_some hr with ⟨hc22, hr⟩ | ⟨hc26, hr⟩
  ·refine W.condT h23 hc22 (W.region ?_)
   refine sx rfl (pMove (v := (vI y17)) rfl h5) ?_
   refine sx rfl (pSub (k := .i64) (a := y17) (b := 9) rfl rfl rfl) ?_
   obtain ⟨y23, hy23, hr⟩ := lt_some hr
   refine sx rfl (pAssign rfl (congrArg (Value.int .i64) hy23)) ?_
   refine SeqW.done fun fr24 hf25 => ?_
   have h5 : fr24 5 = (vI y23) := (congrFun hf25 5).trans rfl
   clear hf25
   obtain rfl := Option.some.inj hr
   exact ⟨z, hz, st, rfl, h5, trivial⟩
  ·refine W.condF h23 hc26 (W.skip ?_)
   obtain rfl := Option.some.inj hr
   exact ⟨z, hz, st, rfl, h5, trivial⟩
 ·refine W.condF h19 hc27 (W.skip ?_)
  obtain rfl := Option.some.inj hr
  exact ⟨z, hz, st, rfl, h5, trivial⟩

theorem u_wagonnumber_sum_0 : ∀ (n : Nat) {N : Nat}  {z0 z : Nat → Blk} {e m : Mem} {k : Option Nat} {fr : Nat → Value} {x0 : List UInt8} {x3 : Int} {x4 : Int} (hz : Zx e.next z0 z) (st : St z e m k) (h0 : fr 0 = (str x0)) (h3 : fr 3 = (vI x3)) (h4 : fr 4 = (vI x4)) {r : Int} (hr : wagonnumber_sum_0 N x0 n x3 x4 = some r), W Try.prog (sub (bodyOf Try.f54) [1, 1, 0, 1, 0]) (fun ex fr' m' => ∃ z', Zx e.next z0 z' ∧ St z' e m' k ∧ ex = AExit.exit 0 ∧ fr' 3 = (vI r) ∧ True) fr m := by
 intro n
 induction n with
 | zero => intro N z0 z e m k fr x0 x3 x4 hz st h0 h3 h4 r hr; cases (show (none : Option _) = some r from hr)
 | succ n ih =>
  intro N z0 z e m k fr x0 x3 x4 hz st h0 h3 h4 r hr
  unfold wagonnumber_sum_0 at hr
  refine W.loop1 ?_
  refine W.seq (W.seq (W.region ?_))
  refine sx rfl (pMove (v := (vI x4)) rfl h4) ?_
  refine sx rfl (pMove (v := (str x0)) rfl h0) ?_
  refine sx rfl (pLenS (s := x0) rfl rfl Try.underlying9 rfl) ?_
  refine sx rfl (pLss (k := .i64) (a := x4) (b := (x0.length : Int)) rfl rfl rfl) ?_
  refine SeqW.done fun fr7 hf8 => ?_
  have h0 := (congrFun hf8 0).trans h0
  have h3 := (congrFun hf8 3).trans h3
  have h4 := (congrFun hf8 4).trans h4
  have h9 : fr7 9 = (vB (decide (x4 < (x0.length : Int)))) := (congrFun hf8 9).trans rfl
  clear hf8
  refine thenQ.n ?_
  rcases if_some hr with ⟨hc9, hr⟩ | ⟨hc41, hr⟩
  ·refine W.condT h9 hc9 (W.skip ?_)
   refine thenQ.n (W.seq ?_)
   refine W.block ?_
   refine W.seq (W.region ?_)
   refine sx rfl (pMove (v := (str x0)) rfl h0) ?_
   refine sx rfl (pMove (v := (vI x4)) rfl h4) ?_
   obtain ⟨y10, hy10, hr⟩ := bind_some hr
   refine SeqW.consX rfl (kIndexS (s := x0) (n := x4) rfl Try.underlying9 rfl rfl hy10 ?_)
   refine sx rfl (pSub (k := .u8) (a := (UInt8.toNat y10 : Int)) (b := 48) rfl rfl rfl) ?_
   refine sx rfl (pConv (k := .u8) (a := (IntKind.wrap .u8 ((UInt8.toNat y10 : Int) - 48))) rfl Try.underlying5 Try.underlying3 rfl) ?_
   obtain ⟨y11, hy11, hr⟩ := lt_some hr
   refine sx rfl (pAssign rfl (congrArg (Value.int .i64) hy11)) ?_
   refine SeqW.done fun fr12 hf13 => ?_
   have h0 := (congrFun hf13 0).trans h0
   have h3 := (congrFun hf13 3).trans h3
   have h4 := (congrFun hf13 4).trans h4
   have h5 : fr12 5 = (vI y11) := (congrFun hf13 5).trans rfl
   clear hf13
   refine thenQ.n (W.seq ?_)
   refine W.seq (W.region ?_)
   refine sx rfl (pMove (v := (vI x4)) rfl h4) ?_
   refine sx rfl (pRem (k := .i64) (a := x4) (b := 2) rfl rfl rfl (by decide)) ?_
   refine sx rfl (pEql (k := .i64) (a := (Int.tmod x4 2)) (b := 0) rfl rfl rfl) ?_
   refine SeqW.done fun fr14 hf15 => ?_
   have h0 := (congrFun hf15 0).trans h0
   have h3 := (congrFun hf15 3).trans h3
   have h4 := (congrFun hf15 4).trans h4
   have h5 := (congrFun hf15 5).trans h5
   have h19 : fr14 19 = (vB ((Int.tmod x4 2) == 0)) := (congrFun hf15 19).trans rfl
   clear hf15
   refine thenQ.n ?_
   obtain ⟨y28, hy28, hr⟩ := bind_some hr
   refine W.keep (u_wagonnumber_sum_1 (Zx.refl _) st h5 h19 hy28) ?_
   rintro ex34 fr29 m30 hk32 ⟨z31, hz33, st, rfl, h5, -⟩
   have h0 := (hk32 0 rfl).trans h0
   have h3 := (hk32 3 rfl).trans h3
   have h4 := (hk32 4 rfl).trans h4
   replace hz := hz.trans hz33
   clear hk32
   refine thenQ.n (W.region ?_)
   refine sx rfl (pMove (v := (vI x3)) rfl h3) ?_
   refine sx rfl (pMove (v := (vI y28)) rfl h5) ?_
   refine sx rfl (pAdd (k := .i64) (a := x3) (b := y28) rfl rfl rfl) ?_
   obtain ⟨y35, hy35, hr⟩ := lt_some hr
   refine sx rfl (pAssign rfl (congrArg (Value.int .i64) hy35)) ?_
   refine SeqW.done fun fr36 hf37 => ?_
   have h0 := (congrFun hf37 0).trans h0
   have h3 : fr36 3 = (vI y35) := (congrFun hf37 3).trans rfl
   have h4 := (congrFun hf37 4).trans h4
   clear hf37
   refine blockQ.n ?_
   refine thenQ.n (W.region ?_)
   refine sx rfl (pMove (v := (vI x4)) rfl h4) ?_
   refine sx rfl (pAdd (k := .i64) (a := x4) (b := 1) rfl rfl rfl) ?_
   obtain ⟨y38, hy38, hr⟩ := lt_some hr
   refine sx rfl (pAssign rfl (congrArg (Value.int .i64) hy38)) ?_
   refine SeqW.done fun fr39 hf40 => ?_
   have h0 := (congrFun hf40 0).trans h0
   have h3 := (congrFun hf40 3).trans h3
   have h4 : fr39 4 = (vI y38) := (congrFun hf40 4).trans rfl
   clear hf40
   refine thenQ.n ?_
   exact ih hz st h0 h3 h4 hr
  ·refine W.condF h9 hc41 ?_
   refine W.exit ?_
   refine thenQ.x ?_
   refine thenQ.x ?_
   obtain rfl := Option.some.inj hr
   exact ⟨z, hz, st, rfl, h3, trivial⟩

theorem u_wagonnumber_sum {N : Nat}  {z0 z : Nat → Blk} {e m : Mem} {k : Option Nat} {fr : Nat → Value} {x0 : List UInt8} (hz : Zx e.next z0 z) (st : St z e m k) (h0 : fr 0 = (str x0)) {r : Int} (hr : wagonnumber_sum N x0 = some r) : W Try.prog (sub (bodyOf Try.f54) []) (fun ex fr' m' => ∃ z', Zx e.next z0 z' ∧ St z' e m' k ∧ (ex = .normal ∨ ex = .ret) ∧ fr' 2 = (vI r) ∧ True) fr m := by
 unfold wagonnumber_sum at hr
 refine W.seq (W.region ?_)
 refine sx rfl (pAssign (v := (vI 0)) rfl rfl) ?_
 refine SeqW.done fun fr1 hf2 => ?_
 have h0 := (congrFun hf2 0).trans h0
 clear hf2
 refine thenQ.n (W.seq (W.region ?_))
 refine sx rfl (pAssign (v := (vI 0)) rfl rfl) ?_
 refine SeqW.done fun fr3 hf4 => ?_
 have h0 := (congrFun hf4 0).trans h0
 have h3 : fr3 3 = (vI 0) := (congrFun hf4 3).trans rfl
 clear hf4
 refine thenQ.n (W.seq ?_)
 refine W.seq (W.region ?_)
 refine sx rfl (pAssign (v := (vI 0)) rfl rfl) ?_
 refine SeqW.done fun fr5 hf6 => ?_
 have h0 := (congrFun hf6 0).trans h0
 have h3 := (congrFun hf6 3).trans h3
 have h4 : fr5 4 = (vI 0) := (congrFun hf6 4).trans rfl
 clear hf6
 refine thenQ.n ?_
 refine W.block ?_
 obtain ⟨y42, hy42, hr⟩ := bind_some hr
 refine W.keep (u_wagonnumber_sum_0 _ (Zx.refl _) st h0 h3 h4 hy42) ?_
 rintro ex48 fr43 m44 hk46 ⟨z45, hz47, st, rfl, h3, -⟩
 replace hz := hz.trans hz47
 clear hk46
 refine blockQ.hit ?_
 refine thenQ.n (W.seq (W.region ?_))
 refine sx rfl (pMove (v := (vI y42)) rfl h3) ?_
 refine sx rfl (pAssign (v := (vI y42)) rfl rfl) ?_
 refine SeqW.done fun fr49 hf50 => ?_
 have h2 : fr49 2 = (vI y42) := (congrFun hf50 2).trans rfl
 clear hf50
 refine thenQ.n ?_
 refine W.ret ?_
 obtain rfl := Option.some.inj hr
 exact ⟨z45, hz, st, .inr rfl, h2, trivial⟩

theorem c_wagonnumber_sum {N : Nat} {z : Nat → Blk} {m : Mem} {x0 : List UInt8} (fz : Fz z m) (hd : ∀ b, m.next ≤ b → m.blk b = .dead)  {r : Int} (hr : wagonnumber_sum N x0 = some r) : CallW Try.prog 54 #[(str x0)] m fun v m' => v = (vI r) ∧ m' = m := by
 refine CallW.flat Try.func54 rfl (by kernel_rfl) (Nat.le_of_ble_eq_true rfl) rfl (z := z) (fun fr hf => ?_)
 have h0 : fr 0 = _ := hf 0 _ rfl
 refine (u_wagonnumber_sum (k := none) (Zx.refl _) (St.start fz hd) h0 hr).mono ?_
 rintro ex fr' m' ⟨z', hz, st, he, h2, -⟩
 exact ⟨he, z', st, [(vI r)], ⟨h2.symm, trivial⟩, .inl rfl, rfl⟩

/-! ### humpyard/wagonnumber.check -/

theorem u_wagonnumber_check {N : Nat}  {z0 z : Nat → Blk} {e m : Mem} {k : Option Nat} {fr : Nat → Value} {x0 : List UInt8} (hz : Zx e.next z0 z) (st : St z e m k) (h0 : fr 0 = (str x0)) {r : Int} (hr : wagonnumber_check N x0 = some r) : W Try.prog (sub (bodyOf Try.f53) []) (fun ex fr' m' => ∃ z', Zx e.next z0 z' ∧ St z' e m' k ∧ (ex = .normal ∨ ex = .ret) ∧ fr' 2 = (vI r) ∧ True) fr m := by
 unfold wagonnumber_check at hr
 refine W.seq (W.region ?_)
 refine sx rfl (pAssign (v := (vI 0)) rfl rfl) ?_
 refine SeqW.done fun fr1 hf2 => ?_
 have h0 := (congrFun hf2 0).trans h0
 clear hf2
 refine thenQ.n (W.seq (W.region ?_))
 refine sx rfl (pMove (v := (str x0)) rfl h0) ?_
 obtain ⟨y3, hy3, hr⟩ := bind_some hr
 refine SeqW.consX rfl (StepX.call (gCallee rfl rfl (args1 rfl)) ((c_wagonnumber_sum (z := z) st.fz st.dead  hy3).mono ?_))
 rintro _ _ ⟨rfl, rfl⟩
 refine sx rfl (pRem (k := .i64) (a := y3) (b := 10) rfl rfl rfl (by decide)) ?_
 refine sx rfl (pSub (k := .i64) (a := 10) (b := (Int.tmod y3 10)) rfl rfl rfl) ?_
 refine sx rfl (pRem (k := .i64) (a := (IntKind.wrap .i64 (10 - (Int.tmod y3 10)))) (b := 10) rfl rfl rfl (by decide)) ?_
 obtain ⟨y4, hy4, hr⟩ := lt_some hr
 refine sx rfl (pAssign rfl (congrArg (Value.int .i64) hy4)) ?_
 refine SeqW.done fun fr5 hf6 => ?_
 have h2 : fr5 2 = (vI y4) := (congrFun hf6 2).trans rfl
 clear hf6
 refine thenQ.n ?_
 refine W.ret ?_
 obtain rfl := Option.some.inj hr
 exact ⟨z, hz, st, .inr rfl, h2, trivial⟩

theorem c_wagonnumber_check {N : Nat} {z : Nat → Blk} {m : Mem} {x0 : List UInt8} (fz : Fz z m) (hd : ∀ b, m.next ≤ b → m.blk b = .dead)  {r : Int} (hr : wagonnumber_check N x0 = some r) : CallW Try.prog 53 #[(str x0)] m fun v m' => v = (vI r) ∧ m' = m := by
 refine CallW.flat Try.func53 rfl (by kernel_rfl) (Nat.le_of_ble_eq_true rfl) rfl (z := z) (fun fr hf => ?_)
 have h0 : fr 0 = _ := hf 0 _ rfl
 refine (u_wagonnumber_check (k := none) (Zx.refl _) (St.start fz hd) h0 hr).mono ?_
 rintro ex fr' m' ⟨z', hz, st, he, h2, -⟩
 exact ⟨he, z', st, [(vI r)], ⟨h2.symm, trivial⟩, .inl rfl, rfl⟩

/-! ### humpyard/wagonnumber.Valid -/

theorem u_wagonnumber_Valid {N : Nat}  {z0 z : Nat → Blk} {e m : Mem} {k : Option Nat} {fr : Nat → Value} {x0 : List UInt8} (hz : Zx e.next z0 z) (st : St z e m k) (h0 : fr 0 = (str x0)) {r : Int} (hr : wagonnumber_Valid N x0 = some r) : W Try.prog (sub (bodyOf Try.f51) []) (fun ex fr' m' => ∃ z', Zx e.next z0 z' ∧ St z' e m' k ∧ (ex = .normal ∨ ex = .ret) ∧ fr' 2 = (vI r) ∧ True) fr m := by
 unfold wagonnumber_Valid at hr
 refine W.seq (W.region ?_)
 refine sx rfl (pAssign (v := (vI 0)) rfl rfl) ?_
 refine SeqW.done fun fr1 hf2 => ?_
 have h0 := (congrFun hf2 0).trans h0
 clear hf2
 refine thenQ.n (W.seq ?_)
 refine W.seq (W.region ?_)
 refine sx rfl (pMove (v := (str x0)) rfl h0) ?_
 obtain ⟨y3, hy3, hr⟩ := bind_some hr
 refine SeqW.consX rfl (StepX.call (gCallee rfl rfl (args2 rfl rfl)) ((c_wagonnumber_digits (z := z) st.fz st.dead  hy3).mono ?_))
 rintro _ _ ⟨rfl, rfl⟩
 refine sx rfl (pNot (b := y3) rfl rfl) ?_
 refine SeqW.done fun fr4 hf5 => ?_
 have h0 := (congrFun hf5 0).trans h0
 have h5 : fr4 5 = (vB (!y3)) := (congrFun hf5 5).trans rfl
 clear hf5
 refine thenQ.n ?_
 rcases if_some hr with ⟨hc6, hr⟩ | ⟨hc9, hr⟩
 ·refine W.condT h5 hc6 (W.seq (W.region ?_))
  refine sx rfl (pAssign (v := (vI 11)) rfl rfl) ?_
  refine SeqW.done fun fr7 hf8 => ?_
  have h2 : fr7 2 = (vI 11) := (congrFun hf8 2).trans rfl
  clear hf8
  refine thenQ.n ?_
  refine W.ret ?_
  refine thenQ.r ?_
  obtain rfl := Option.some.inj hr
  exact ⟨z, hz, st, .inr rfl, h2, trivial⟩
 ·refine W.condF h5 hc9 (W.skip ?_)
  refine thenQ.n (W.seq (W.seq ?_))
  refine W.draw ?_
  refine DrawW.cons rfl (StepX.pure (pMove (v := (str x0)) rfl h0) ?_)
  refine ⟨trivial, ?_⟩
  obtain ⟨y10, hy10, hr⟩ := bind_some hr
  refine DrawW.cons rfl (kIndexS (s := x0) (n := 11) rfl Try.underlying9 rfl rfl hy10 ?_)
  refine ⟨trivial, ?_⟩
  refine DrawW.cons rfl (StepX.pure (pSub (k := .u8) (a := (UInt8.toNat y10 : Int)) (b := 48) rfl rfl rfl) ?_)
  refine ⟨trivial, ?_⟩
  refine DrawW.cons rfl (StepX.pure (pConv (k := .u8) (a := (IntKind.wrap .u8 ((UInt8.toNat y10 : Int) - 48))) rfl Try.underlying5 Try.underlying3 rfl) ?_)
  refine ⟨trivial, ?_⟩
  refine DrawW.cons rfl (StepX.pure (pMove (v := (str x0)) rfl h0) ?_)
  refine ⟨trivial, ?_⟩
  obtain ⟨y11, hy11, hr⟩ := bind_some hr
  refine DrawW.cons rfl (kCutS (s := x0) (a := 0) (b := 11) rfl Try.underlying9 rfl rfl ⟨_, rfl⟩ hy11 ?_)
  refine ⟨trivial, ?_⟩
  have sto12 := st
  obtain ⟨y13, hy13, hr⟩ := bind_some hr
  refine DrawW.cons rfl (StepX.call (gCallee rfl rfl (args1 rfl)) ((c_wagonnumber_check (z := z) st.fz st.dead  hy13).mono ?_))
  rintro _ _ ⟨rfl, rfl⟩
  refine ⟨⟨?_, ?_⟩, ?_⟩
  ·exact demN
  ·exact demN
  refine DrawW.cons rfl (StepX.pure (pNeq (k := .i64) (a := (IntKind.wrap .i64 (IntKind.wrap .u8 ((UInt8.toNat y10 : Int) - 48)))) (b := y13) rfl rfl rfl) ?_)
  refine ⟨trivial, ?_⟩
  refine DrawW.done fun fr14 hf15 => ?_
  have h13 : fr14 13 = (vB ((IntKind.wrap .i64 (IntKind.wrap .u8 ((UInt8.toNat y10 : Int) - 48))) != y13)) := (congrFun hf15 13).trans rfl
  clear hf15
  refine thenQ.n ?_
  rcases if_some hr with ⟨hc16, hr⟩ | ⟨hc19, hr⟩
  ·refine W.condT h13 hc16 (W.seq (W.region ?_))
   refine sx rfl (pAssign (v := (vI 9)) rfl rfl) ?_
   refine SeqW.done fun fr17 hf18 => ?_
   have h2 : fr17 2 = (vI 9) := (congrFun hf18 2).trans rfl
   clear hf18
   refine thenQ.n ?_
   refine W.ret ?_
   refine thenQ.r ?_
   obtain rfl := Option.some.inj hr
   exact ⟨z, hz, st, .inr rfl, h2, trivial⟩
  ·refine W.condF h13 hc19 (W.skip ?_)
   refine thenQ.n (W.seq (W.region ?_))
   refine sx rfl (pAssign (v := (vI 0)) rfl rfl) ?_
   refine SeqW.done fun fr20 hf21 => ?_
   have h2 : fr20 2 = (vI 0) := (congrFun hf21 2).trans rfl
   clear hf21
   refine thenQ.n ?_
   refine W.ret ?_
   obtain rfl := Option.some.inj hr
   exact ⟨z, hz, st, .inr rfl, h2, trivial⟩

theorem c_wagonnumber_Valid {N : Nat} {z : Nat → Blk} {m : Mem} {x0 : List UInt8} (fz : Fz z m) (hd : ∀ b, m.next ≤ b → m.blk b = .dead)  {r : Int} (hr : wagonnumber_Valid N x0 = some r) : CallW Try.prog 51 #[(str x0)] m fun v m' => v = (vI r) ∧ m' = m := by
 refine CallW.flat Try.func51 rfl (by kernel_rfl) (Nat.le_of_ble_eq_true rfl) rfl (z := z) (fun fr hf => ?_)
 have h0 : fr 0 = _ := hf 0 _ rfl
 refine (u_wagonnumber_Valid (k := none) (Zx.refl _) (St.start fz hd) h0 hr).mono ?_
 rintro ex fr' m' ⟨z', hz, st, he, h2, -⟩
 exact ⟨he, z', st, [(vI r)], ⟨h2.symm, trivial⟩, .inl rfl, rfl⟩

/-! ### humpyard/wagonnumber.Kind -/

theorem u_wagonnumber_Kind_0 {N : Nat}  {z0 z : Nat → Blk} {e m : Mem} {k : Option Nat} {fr : Nat → Value} {x11 : Int} {x12 : Bool} (hz : Zx e.next z0 z) (st : St z e m k) (h11 : fr 11 = (Value.int .u8 x11)) (h12 : fr 12 = (vB x12)) {r : Bool} (hr : wagonnumber_Kind_0 N x11 x12 = some r) : W Try.prog (sub (bodyOf Try.f43) [1, 1, 0, 1, 0, 0, 1]) (fun ex fr' m' => ∃ z', Zx e.next z0 z' ∧ St z' e m' k ∧ ex = AExit.normal ∧ fr' 12 = (vB r) ∧ True) fr m := by
 unfold wagonnumber_Kind_0 at hr
 rcases if_some hr with ⟨hc18, hr⟩ | ⟨hc19, hr⟩
 ·refine W.condT h12 hc18 (W.skip ?_)
  obtain rfl := Option.some.inj hr
  exact ⟨z, hz, st, rfl, h12, trivial⟩
 ·refine W.condF h12 hc19 (W.region ?_)
  refine sx rfl (pEql (k := .u8) (a := x11) (b := 56) rfl h11 rfl) ?_
  obtain ⟨y20, hy20, hr⟩ := lt_some hr
  refine sx rfl (pAssign rfl (congrArg vB hy20)) ?_
  refine SeqW.done fun fr21 hf22 => ?_
  have h11 := (congrFun hf22 11).trans h11
  have h12 : fr21 12 = (vB y20) := (congrFun hf22 12).trans rfl
  clear hf22
  obtain rfl := Option.some.inj hr
  exact ⟨z, hz, st, rfl, h12, trivial⟩

theorem u_wagonnumber_Kind_1 {N : Nat}  {z0 z : Nat → Blk} {e m : Mem} {k : Option Nat} {fr : Nat → Value} {x11 : Int} {x15 : Bool} (hz : Zx e.next z0 z) (st : St z e m k) (h11 : fr 11 = (Value.int .u8 x11)) (h15 : fr 15 = (vB x15)) {r : Bool} (hr : wagonnumber_Kind_1 N x11 x15 = some r) : W Try.prog (sub (bodyOf Try.f43) [1, 1, 0, 1, 0, 1, 1, 0, 1]) (fun ex fr' m' => ∃ z', Zx e.next z0 z' ∧ St z' e m' k ∧ ex = AExit.normal ∧ fr' 15 = (vB r) ∧ True) fr m := by
 unfold wagonnumber_Kind_1 at hr
 rcases if_some hr with ⟨hc37, hr⟩ | ⟨hc38, hr⟩
 ·refine W.condT h15 hc37 (W.skip ?_)
  obtain rfl := Option.some.inj hr
  exact ⟨z, hz, st, rfl, h15, trivial⟩
 ·refine W.condF h15 hc38 (W.region ?_)
  refine sx rfl (pEql (k := .u8) (a := x11) (b := 52) rfl h11 rfl) ?_
  obtain ⟨y39, hy39, hr⟩ := lt_some hr
  refine sx rfl (pAssign rfl (congrArg vB hy39)) ?_
  refine SeqW.done fun fr40 hf41 => ?_
  have h11 := (congrFun hf41 11).trans h11
  have h15 : fr40 15 = (vB y39) := (congrFun hf41 15).trans rfl
  clear hf41
  obtain rfl := Option.some.inj hr
  exact ⟨z, hz, st, rfl, h15, trivial⟩

theorem u_wagonnumber_Kind {N : Nat}  {z0 z : Nat → Blk} {e m : Mem} {k : Option Nat} {fr : Nat → Value} {x0 : List UInt8} (hz : Zx e.next z0 z) (st : St z e m k) (h0 : fr 0 = (str x0)) {r : Int × Int} (hr : wagonnumber_Kind N x0 = some r) : W Try.prog (sub (bodyOf Try.f43) []) (fun ex fr' m' => ∃ z', Zx e.next z0 z' ∧ St z' e m' k ∧ (ex = .normal ∨ ex = .ret) ∧ fr' 2 = (vI r.1) ∧ fr' 3 = (vI r.2) ∧ True) fr m := by
 unfold wagonnumber_Kind at hr
 refine W.seq (W.region ?_)
 refine sx rfl (pAssign (v := (vI 0)) rfl rfl) ?_
 refine sx rfl (pAssign (v := (vI 0)) rfl rfl) ?_
 refine SeqW.done fun fr1 hf2 => ?_
 have h0 := (congrFun hf2 0).trans h0
 clear hf2
 refine thenQ.n (W.seq ?_)
 refine W.seq (W.region ?_)
 refine sx rfl (pMove (v := (str x0)) rfl h0) ?_
 obtain ⟨y3, hy3, hr⟩ := bind_some hr
 refine SeqW.consX rfl (StepX.call (gCallee rfl rfl (args1 rfl)) ((c_wagonnumber_Valid (z := z) st.fz st.dead  hy3).mono ?_))
 rintro _ _ ⟨rfl, rfl⟩
 refine sx rfl (pAssign (v := (vI y3)) rfl rfl) ?_
 refine SeqW.done fun fr4 hf5 => ?_
 have h0 := (congrFun hf5 0).trans h0
 have h4 : fr4 4 = (vI y3) := (congrFun hf5 4).trans rfl
 clear hf5
 refine thenQ.n (W.seq (W.region ?_))
 refine sx rfl (pMove (v := (vI y3)) rfl h4) ?_
 refine sx rfl (pNeq (k := .i64) (a := y3) (b := 0) rfl rfl rfl) ?_
 refine SeqW.done fun fr6 hf7 => ?_
 have h0 := (congrFun hf7 0).trans h0
 have h4 := (congrFun hf7 4).trans h4
 have h8 : fr6 8 = (vB (y3 != 0)) := (congrFun hf7 8).trans rfl
 clear hf7
 refine thenQ.n ?_
 rcases if_some hr with ⟨hc8, hr⟩ | ⟨hc11, hr⟩
 ·refine W.condT h8 hc8 (W.seq (W.region ?_))
  refine sx rfl (pMove (v := (vI y3)) rfl h4) ?_
  refine sx rfl (pAssign (v := (vI 0)) rfl rfl) ?_
  refine sx rfl (pAssign (v := (vI y3)) rfl rfl) ?_
  refine SeqW.done fun fr9 hf10 => ?_
  have h2 : fr9 2 = (vI 0) := (congrFun hf10 2).trans rfl
  have h3 : fr9 3 = (vI y3) := (congrFun hf10 3).trans rfl
  clear hf10
  refine thenQ.n ?_
  refine W.ret ?_
  refine thenQ.r ?_
  obtain rfl := Option.some.inj hr
  exact ⟨z, hz, st, .inr rfl, h2, h3, trivial⟩
 ·refine W.condF h8 hc11 (W.skip ?_)
  refine thenQ.n (W.seq ?_)
  refine W.seq (W.region ?_)
  refine sx rfl (pMove (v := (str x0)) rfl h0) ?_
  obtain ⟨y12, hy12, hr⟩ := bind_some hr
  refine SeqW.consX rfl (kIndexS (s := x0) (n := 4) rfl Try.underlying9 rfl rfl hy12 ?_)
  refine SeqW.done fun fr13 hf14 => ?_
  have h11 : fr13 11 = (Value.int .u8 (UInt8.toNat y12 : Int)) := (congrFun hf14 11).trans rfl
  clear hf14
  refine thenQ.n ?_
  refine W.block ?_
  refine W.seq (W.seq (W.region ?_))
  refine sx rfl (pEql (k := .u8) (a := (UInt8.toNat y12 : Int)) (b := 55) rfl h11 rfl) ?_
  obtain ⟨y15, hy15, hr⟩ := lt_some hr
  refine sx rfl (pAssign rfl (congrArg vB hy15)) ?_
  refine SeqW.done fun fr16 hf17 => ?_
  have h11 := (congrFun hf17 11).trans h11
  have h12 : fr16 12 = (vB y15) := (congrFun hf17 12).trans rfl
  clear hf17
  refine thenQ.n ?_
  obtain ⟨y23, hy23, hr⟩ := bind_some hr
  refine W.keep (u_wagonnumber_Kind_0 (Zx.refl _) st h11 h12 hy23) ?_
  rintro ex29 fr24 m25 hk27 ⟨z26, hz28, st, rfl, h12, -⟩
  have h11 := (hk27 11 rfl).trans h11
  replace hz := hz.trans hz28
  clear hk27
  refine thenQ.n ?_
  rcases if_some hr with ⟨hc30, hr⟩ | ⟨hc33, hr⟩
  ·refine W.condT h12 hc30 (W.seq (W.region ?_))
   refine sx rfl (pAssign (v := (vI 1)) rfl rfl) ?_
   refine sx rfl (pAssign (v := (vI 0)) rfl rfl) ?_
   refine SeqW.done fun fr31 hf32 => ?_
   have h2 : fr31 2 = (vI 1) := (congrFun hf32 2).trans rfl
   have h3 : fr31 3 = (vI 0) := (congrFun hf32 3).trans rfl
   clear hf32
   refine thenQ.n ?_
   refine W.ret ?_
   refine blockQ.r ?_
   refine thenQ.r ?_
   obtain rfl := Option.some.inj hr
   exact ⟨z26, hz, st, .inr rfl, h2, h3, trivial⟩
  ·refine W.condF h12 hc33 (W.seq ?_)
   refine W.seq (W.region ?_)
   refine sx rfl (pEql (k := .u8) (a := (UInt8.toNat y12 : Int)) (b := 50) rfl h11 rfl) ?_
   obtain ⟨y34, hy34, hr⟩ := lt_some hr
   refine sx rfl (pAssign rfl (congrArg vB hy34)) ?_
   refine SeqW.done fun fr35 hf36 => ?_
   have h11 := (congrFun hf36 11).trans h11
   have h15 : fr35 15 = (vB y34) := (congrFun hf36 15).trans rfl
   clear hf36
   refine thenQ.n ?_
   obtain ⟨y42, hy42, hr⟩ := bind_some hr
   refine W.keep (u_wagonnumber_Kind_1 (Zx.refl _) st h11 h15 hy42) ?_
   rintro ex48 fr43 m44 hk46 ⟨z45, hz47, st, rfl, h15, -⟩
   have h11 := (hk46 11 rfl).trans h11
   replace hz := hz.trans hz47
   clear hk46
   refine thenQ.n ?_
   rcases if_some hr with ⟨hc49, hr⟩ | ⟨hc52, hr⟩
   ·refine W.condT h15 hc49 (W.seq (W.region ?_))
    refine sx rfl (pAssign (v := (vI 2)) rfl rfl) ?_
    refine sx rfl (pAssign (v := (vI 0)) rfl rfl) ?_
    refine SeqW.done fun fr50 hf51 => ?_
    have h2 : fr50 2 = (vI 2) := (congrFun hf51 2).trans rfl
    have h3 : fr50 3 = (vI 0) := (congrFun hf51 3).trans rfl
    clear hf51
    refine thenQ.n ?_
    refine W.ret ?_
    refine blockQ.r ?_
    refine thenQ.r ?_
    obtain rfl := Option.some.inj hr
    exact ⟨z45, hz, st, .inr rfl, h2, h3, trivial⟩
   ·refine W.condF h15 hc52 (W.seq (W.region ?_))
    refine sx rfl (pEql (k := .u8) (a := (UInt8.toNat y12 : Int)) (b := 57) rfl h11 rfl) ?_
    obtain ⟨y53, hy53, hr⟩ := lt_some hr
    refine sx rfl (pAssign rfl (congrArg vB hy53)) ?_
    refine SeqW.done fun fr54 hf55 => ?_
    have h18 : fr54 18 = (vB y53) := (congrFun hf55 18).trans rfl
    clear hf55
    refine thenQ.n ?_
    rcases if_some hr with ⟨hc56, hr⟩ | ⟨hc59, hr⟩
    ·refine W.condT h18 hc56 (W.seq (W.region ?_))
     refine sx rfl (pAssign (v := (vI 3)) rfl rfl) ?_
     refine sx rfl (pAssign (v := (vI 0)) rfl rfl) ?_
     refine SeqW.done fun fr57 hf58 => ?_
     have h2 : fr57 2 = (vI 3) := (congrFun hf58 2).trans rfl
     have h3 : fr57 3 = (vI 0) := (congrFun hf58 3).trans rfl
     clear hf58
     refine thenQ.n ?_
     refine W.ret ?_
     refine blockQ.r ?_
     refine thenQ.r ?_
     obtain rfl := Option.some.inj hr
     exact ⟨z45, hz, st, .inr rfl, h2, h3, trivial⟩
    ·refine W.condF h18 hc59 (W.skip ?_)
     refine blockQ.n ?_
     refine thenQ.n (W.seq (W.region ?_))
     refine sx rfl (pAssign (v := (vI 0)) rfl rfl) ?_
     refine sx rfl (pAssign (v := (vI 0)) rfl rfl) ?_
     refine SeqW.done fun fr60 hf61 => ?_
     have h2 : fr60 2 = (vI 0) := (congrFun hf61 2).trans rfl
     have h3 : fr60 3 = (vI 0) := (congrFun hf61 3).trans rfl
     clear hf61
     refine thenQ.n ?_
     refine W.ret ?_
     obtain rfl := Option.some.inj hr
     exact ⟨z45, hz, st, .inr rfl, h2, h3, trivial⟩

theorem c_wagonnumber_Kind {N : Nat} {z : Nat → Blk} {m : Mem} {x0 : List UInt8} (fz : Fz z m) (hd : ∀ b, m.next ≤ b → m.blk b = .dead)  {r : Int × Int} (hr : wagonnumber_Kind N x0 = some r) : CallW Try.prog 43 #[(str x0)] m fun v m' => v = (Value.tuple [(vI r.1), (vI r.2)].toArray) ∧ m' = m := by
 refine CallW.flat Try.func43 rfl (by kernel_rfl) (Nat.le_of_ble_eq_true rfl) rfl (z := z) (fun fr hf => ?_)
 have h0 : fr 0 = _ := hf 0 _ rfl
 refine (u_wagonnumber_Kind (k := none) (Zx.refl _) (St.start fz hd) h0 hr).mono ?_
 rintro ex fr' m' ⟨z', hz, st, he, h2, h3, -⟩
 exact ⟨he, z', st, [(vI r.1), (vI r.2)], ⟨h2.symm, h3.symm, trivial⟩, .inr (List.forall_mem_cons.2 ⟨rfl, List.forall_mem_cons.2 ⟨rfl, fun _ h => nomatch h⟩⟩), rfl⟩

/-! ### humpyard/consist.axles -/

theorem u_consist_axles {N : Nat}  {z0 z : Nat → Blk} {e m : Mem} {k : Option Nat} {fr : Nat → Value} {x0 : Int} (hz : Zx e.next z0 z) (st : St z e m k) (h0 : fr 0 = (vI x0)) {r : Int} (hr : consist_axles N x0 = some r) : W Try.prog (sub (bodyOf Try.f44) []) (fun ex fr' m' => ∃ z', Zx e.next z0 z' ∧ St z' e m' k ∧ (ex = .normal ∨ ex = .ret) ∧ fr' 2 = (vI r) ∧ True) fr m := by
 unfold consist_axles at hr
 refine W.seq (W.region ?_)
 refine sx rfl (pAssign (v := (vI 0)) rfl rfl) ?_
 refine SeqW.done fun fr1 hf2 => ?_
 have h0 := (congrFun hf2 0).trans h0
 clear hf2
 refine thenQ.n (W.seq ?_)
 refine W.seq (W.region ?_)
 refine sx rfl (pMove (v := (vI x0)) rfl h0) ?_
 refine SeqW.done fun fr3 hf4 => ?_
 have h3 : fr3 3 = (vI x0) := (congrFun hf4 3).trans rfl
 clear hf4
 refine thenQ.n ?_
 refine W.block ?_
 refine W.seq (W.region ?_)
 refine sx rfl (pEql (k := .i64) (a := x0) (b := 2) rfl h3 rfl) ?_
 obtain ⟨y5, hy5, hr⟩ := lt_some hr
 refine sx rfl (pAssign rfl (congrArg vB hy5)) ?_
 refine SeqW.done fun fr6 hf7 => ?_
 have h3 := (congrFun hf7 3).trans h3
 have h4 : fr6 4 = (vB y5) := (congrFun hf7 4).trans rfl
 clear hf7
 refine thenQ.n ?_
 rcases if_some hr with ⟨hc8, hr⟩ | ⟨hc11, hr⟩
 ·refine W.condT h4 hc8 (W.seq (W.region ?_))
  refine sx rfl (pAssign (v := (vI 2)) rfl rfl) ?_
  refine SeqW.done fun fr9 hf10 => ?_
  have h2 : fr9 2 = (vI 2) := (congrFun hf10 2).trans rfl
  clear hf10
  refine thenQ.n ?_
  refine W.ret ?_
  refine blockQ.r ?_
  refine thenQ.r ?_
  obtain rfl := Option.some.inj hr
  exact ⟨z, hz, st, .inr rfl, h2, trivial⟩
 ·refine W.condF h4 hc11 (W.seq (W.region ?_))
  refine sx rfl (pEql (k := .i64) (a := x0) (b := 3) rfl h3 rfl) ?_
  obtain ⟨y12, hy12, hr⟩ := lt_some hr
  refine sx rfl (pAssign rfl (congrArg vB hy12)) ?_
  refine SeqW.done fun fr13 hf14 => ?_
  have h6 : fr13 6 = (vB y12) := (congrFun hf14 6).trans rfl
  clear hf14
  refine thenQ.n ?_
  rcases if_some hr with ⟨hc15, hr⟩ | ⟨hc18, hr⟩
  ·refine W.condT h6 hc15 (W.seq (W.region ?_))
   refine sx rfl (pAssign (v := (vI 6)) rfl rfl) ?_
   refine SeqW.done fun fr16 hf17 => ?_
   have h2 : fr16 2 = (vI 6) := (congrFun hf17 2).trans rfl
   clear hf17
   refine thenQ.n ?_
   refine W.ret ?_
   refine blockQ.r ?_
   refine thenQ.r ?_
   obtain rfl := Option.some.inj hr
   exact ⟨z, hz, st, .inr rfl, h2, trivial⟩
  ·refine W.condF h6 hc18 (W.skip ?_)
   refine blockQ.n ?_
   refine thenQ.n (W.seq (W.region ?_))
   refine sx rfl (pAssign (v := (vI 4)) rfl rfl) ?_
   refine SeqW.done fun fr19 hf20 => ?_
   have h2 : fr19 2 = (vI 4) := (congrFun hf20 2).trans rfl
   clear hf20
   refine thenQ.n ?_
   refine W.ret ?_
   obtain rfl := Option.some.inj hr
   exact ⟨z, hz, st, .inr rfl, h2, trivial⟩

theorem c_consist_axles {N : Nat} {z : Nat → Blk} {m : Mem} {x0 : Int} (fz : Fz z m) (hd : ∀ b, m.next ≤ b → m.blk b = .dead)  {r : Int} (hr : consist_axles N x0 = some r) : CallW Try.prog 44 #[(vI x0)] m fun v m' => v = (vI r) ∧ m' = m := by
 refine CallW.flat Try.func44 rfl (by kernel_rfl) (Nat.le_of_ble_eq_true rfl) rfl (z := z) (fun fr hf => ?_)
 have h0 : fr 0 = _ := hf 0 _ rfl
 refine (u_consist_axles (k := none) (Zx.refl _) (St.start fz hd) h0 hr).mono ?_
 rintro ex fr' m' ⟨z', hz, st, he, h2, -⟩
 exact ⟨he, z', st, [(vI r)], ⟨h2.symm, trivial⟩, .inl rfl, rfl⟩

/-! ### humpyard/consist.name -/

theorem u_consist_name_1 {N : Nat}  {z0 z : Nat → Blk} {e m : Mem} {k : Option Nat} {fr : Nat → Value} {x4 : Int} (hz : Zx e.next z0 z) (st : St z e m k) (h4 : fr 4 = (Value.int .u8 x4)) {r : Bool} (hr : consist_name_1 N x4 = some r) : W Try.prog (sub (bodyOf Try.f45) [1, 0, 1, 0, 0, 1, 0, 0, 1, 0]) (fun ex fr' m' => ∃ z', Zx e.next z0 z' ∧ St z' e m' k ∧ ex = AExit.normal ∧ fr' 27 = (vB r) ∧ True) fr m := by
 unfold consist_name_1 at hr
 refine W.region ?_
 refine sx rfl (pMove (v := (Value.int .u8 x4)) rfl h4) ?_
 refine sx rfl (pLss (k := .u8) (a := x4) (b := 97) rfl rfl rfl) ?_
 refine sx rfl (pMove (v := (vB (decide (x4 < 97)))) rfl rfl) ?_
 rcases if_some hr with ⟨hc12, hr⟩ | ⟨hc19, hr⟩
 ·refine kx rfl rfl rfl hc12 ?_
  refine kx rfl rfl rfl hc12 ?_
  refine sx rfl (pPick (t := true) (v := (vB true)) rfl ((congrArg vB hc12)) rfl) ?_
  refine sx rfl (pMove (v := (vB true)) rfl rfl) ?_
  refine SeqW.consG rfl rfl rfl rfl (StepX.pure (pMove (v := (Value.int .u8 x4)) rfl h4) ?_)
  refine SeqW.consG rfl rfl rfl rfl (StepX.pure (pLss (k := .u8) (a := x4) (b := 48) rfl rfl rfl) ?_)
  refine SeqW.consG rfl rfl rfl rfl (StepX.pure (pMove (v := (vB (decide (x4 < 48)))) rfl rfl) ?_)
  rcases if_some hr with ⟨hc13, hr⟩ | ⟨hc16, hr⟩
  ·refine kx rfl rfl rfl hc13 ?_
   refine kx rfl rfl rfl hc13 ?_
   refine SeqW.consG rfl rfl rfl rfl (StepX.pure (pPick (t := true) (v := (vB true)) rfl ((congrArg vB hc13)) rfl) ?_)
   refine sx rfl (pPick (t := true) (v := (vB true)) rfl ((congrArg vB (rfl : true = true))) rfl) ?_
   refine SeqW.done fun fr14 hf15 => ?_
   have h27 : fr14 27 = (vB true) := (congrFun hf15 27).trans rfl
   clear hf15
   obtain rfl := Option.some.inj hr
   exact ⟨z, hz, st, rfl, h27, trivial⟩
  ·refine SeqW.consG rfl rfl rfl hc16 (StepX.pure (pMove (v := (Value.int .u8 x4)) rfl h4) ?_)
   refine SeqW.consG rfl rfl rfl hc16 (StepX.pure (pGtr (k := .u8) (a := x4) (b := 57) rfl rfl rfl) ?_)
   refine SeqW.consG rfl rfl rfl rfl (StepX.pure (pPick (t := false) (v := (vB (decide (57 < x4)))) rfl ((congrArg vB hc16)) rfl) ?_)
   refine sx rfl (pPick (t := true) (v := (vB (decide (57 < x4)))) rfl ((congrArg vB (rfl : true = true))) rfl) ?_
   refine SeqW.done fun fr17 hf18 => ?_
   have h27 : fr17 27 = (vB (decide (57 < x4))) := (congrFun hf18 27).trans rfl
   clear hf18
   obtain rfl := Option.some.inj hr
   exact ⟨z, hz, st, rfl, h27, trivial⟩
 ·refine SeqW.consG rfl rfl rfl hc19 (StepX.pure (pMove (v := (Value.int .u8 x4)) rfl h4) ?_)
  refine SeqW.consG rfl rfl rfl hc19 (StepX.pure (pGtr (k := .u8) (a := x4) (b := 122) rfl rfl rfl) ?_)
  refine sx rfl (pPick (t := false) (v := (vB (decide (122 < x4)))) rfl ((congrArg vB hc19)) rfl) ?_
  refine sx rfl (pMove (v := (vB (decide (122 < x4)))) rfl rfl) ?_
  rcases if_some hr with ⟨hc20, hr⟩ | ⟨hc27, hr⟩
  ·refine SeqW.consG rfl rfl rfl hc20 (StepX.pure (pMove (v := (Value.int .u8 x4)) rfl h4) ?_)
   refine SeqW.consG rfl rfl rfl hc20 (StepX.pure (pLss (k := .u8) (a := x4) (b := 48) rfl rfl rfl) ?_)
   refine SeqW.consG rfl rfl rfl hc20 (StepX.pure (pMove (v := (vB (decide (x4 < 48)))) rfl rfl) ?_)
   rcases if_some hr with ⟨hc21, hr⟩ | ⟨hc24, hr⟩
   ·refine kx rfl rfl rfl hc21 ?_
    refine kx rfl rfl rfl hc21 ?_
    refine SeqW.consG rfl rfl rfl hc20 (StepX.pure (pPick (t := true) (v := (vB true)) rfl ((congrArg vB hc21)) rfl) ?_)
    refine sx rfl (pPick (t := true) (v := (vB true)) rfl ((congrArg vB hc20)) rfl) ?_
    refine SeqW.done fun fr22 hf23 => ?_
    have h27 : fr22 27 = (vB true) := (congrFun hf23 27).trans rfl
    clear hf23
    obtain rfl := Option.some.inj hr
    exact ⟨z, hz, st, rfl, h27, trivial⟩
   ·refine SeqW.consG rfl rfl rfl hc24 (StepX.pure (pMove (v := (Value.int .u8 x4)) rfl h4) ?_)
    refine SeqW.consG rfl rfl rfl hc24 (StepX.pure (pGtr (k := .u8) (a := x4) (b := 57) rfl rfl rfl) ?_)
    refine SeqW.consG rfl rfl rfl hc20 (StepX.pure (pPick (t := false) (v := (vB (decide (57 < x4)))) rfl ((congrArg vB hc24)) rfl) ?_)
    refine sx rfl (pPick (t := true) (v := (vB (decide (57 < x4)))) rfl ((congrArg vB hc20)) rfl) ?_
    refine SeqW.done fun fr25 hf26 => ?_
    have h27 : fr25 27 = (vB (decide (57 < x4))) := (congrFun hf26 27).trans rfl
    clear hf26
    obtain rfl := Option.some.inj hr
    exact ⟨z, hz, st, rfl, h27, trivial⟩
  ·refine kx rfl rfl rfl hc27 ?_
   iterate 2 refine kx rfl rfl rfl hc27 ?_
   refine SeqW.skipU rfl rfl rfl ?_
   refine SeqW.skipU rfl rfl rfl ?_
   refine kx rfl rfl rfl hc27 ?_
   refine sx rfl (pPick (t := false) (v := (vB false)) rfl ((congrArg vB hc27)) rfl) ?_
   refine SeqW.done fun fr28 hf29 => ?_
   have h27 : fr28 27 = (vB false) := (congrFun hf29 27).trans rfl
   clear hf29
   obtain rfl := Option.some.inj hr
   exact ⟨z, hz, st, rfl, h27, trivial⟩

theorem u_consist_name_0 : ∀ (n : Nat) {N : Nat}  {z0 z : Nat → Blk} {e m : Mem} {k : Option Nat} {fr : Nat → Value} {x0 : List UInt8} {x3 : Int} (hz : Zx e.next z0 z) (st : St z e m k) (h0 : fr 0 = (str x0)) (h3 : fr 3 = (vI x3)) {r : Sum (Unit) (Bool)} (hr : consist_name_0 N x0 n x3 = some r), W Try.prog (sub (bodyOf Try.f45) [1, 0, 1, 0]) (fun ex fr' m' => ∃ z', Zx e.next z0 z' ∧ St z' e m' k ∧ ((∃ q, r = Sum.inl q ∧ ex = AExit.exit 0 ∧ True) ∨ (∃ q, r = Sum.inr q ∧ ex = AExit.ret ∧ fr' 2 = (vB q) ∧ True))) fr m := by
 intro n
 induction n with
 | zero => intro N z0 z e m k fr x0 x3 hz st h0 h3 r hr; cases (show (none : Option _) = some r from hr)
 | succ n ih =>
  intro N z0 z e m k fr x0 x3 hz st h0 h3 r hr
  unfold consist_name_0 at hr
  refine W.loop1 ?_
  refine W.seq (W.seq (W.region ?_))
  refine sx rfl (pMove (v := (vI x3)) rfl h3) ?_
  refine sx rfl (pMove (v := (str x0)) rfl h0) ?_
  refine sx rfl (pLenS (s := x0) rfl rfl Try.underlying9 rfl) ?_
  refine sx rfl (pLss (k := .i64) (a := x3) (b := (x0.length : Int)) rfl rfl rfl) ?_
  refine SeqW.done fun fr5 hf6 => ?_
  have h0 := (congrFun hf6 0).trans h0
  have h3 := (congrFun hf6 3).trans h3
  have h8 : fr5 8 = (vB (decide (x3 < (x0.length : Int)))) := (congrFun hf6 8).trans rfl
  clear hf6
  refine thenQ.n ?_
  rcases if_some hr with ⟨hc7, hr⟩ | ⟨hc44, hr⟩
  ·refine W.condT h8 hc7 (W.skip ?_)
   refine thenQ.n (W.seq ?_)
   refine W.block ?_
   refine W.seq (W.region ?_)
   refine sx rfl (pMove (v := (str x0)) rfl h0) ?_
   refine sx rfl (pMove (v := (vI x3)) rfl h3) ?_
   obtain ⟨y8, hy8, hr⟩ := bind_some hr
   refine SeqW.consX rfl (kIndexS (s := x0) (n := x3) rfl Try.underlying9 rfl rfl hy8 ?_)
   obtain ⟨y9, hy9, hr⟩ := lt_some hr
   refine sx rfl (pAssign rfl (congrArg (Value.int .u8) hy9)) ?_
   refine SeqW.done fun fr10 hf11 => ?_
   have h0 := (congrFun hf11 0).trans h0
   have h3 := (congrFun hf11 3).trans h3
   have h4 : fr10 4 = (Value.int .u8 y9) := (congrFun hf11 4).trans rfl
   clear hf11
   refine thenQ.n (W.seq ?_)
   obtain ⟨y30, hy30, hr⟩ := bind_some hr
   refine W.keep (u_consist_name_1 (Zx.refl _) st h4 hy30) ?_
   rintro ex36 fr31 m32 hk34 ⟨z33, hz35, st, rfl, h27, -⟩
   have h0 := (hk34 0 rfl).trans h0
   have h3 := (hk34 3 rfl).trans h3
   replace hz := hz.trans hz35
   clear hk34
   refine thenQ.n ?_
   rcases if_some hr with ⟨hc37, hr⟩ | ⟨hc40, hr⟩
   ·refine W.condT h27 hc37 (W.seq (W.region ?_))
    refine sx rfl (pAssign (v := (vB false)) rfl rfl) ?_
    refine SeqW.done fun fr38 hf39 => ?_
    have h2 : fr38 2 = (vB false) := (congrFun hf39 2).trans rfl
    clear hf39
    refine thenQ.n ?_
    refine W.ret ?_
    refine blockQ.r ?_
    refine thenQ.r ?_
    refine thenQ.r ?_
    obtain rfl := Option.some.inj hr
    exact ⟨z33, hz, st, .inr ⟨_, rfl, rfl, h2, trivial⟩⟩
   ·refine W.condF h27 hc40 (W.skip ?_)
    refine blockQ.n ?_
    refine thenQ.n (W.region ?_)
    refine sx rfl (pMove (v := (vI x3)) rfl h3) ?_
    refine sx rfl (pAdd (k := .i64) (a := x3) (b := 1) rfl rfl rfl) ?_
    obtain ⟨y41, hy41, hr⟩ := lt_some hr
    refine sx rfl (pAssign rfl (congrArg (Value.int .i64) hy41)) ?_
    refine SeqW.done fun fr42 hf43 => ?_
    have h0 := (congrFun hf43 0).trans h0
    have h3 : fr42 3 = (vI y41) := (congrFun hf43 3).trans rfl
    clear hf43
    refine thenQ.n ?_
    exact ih hz st h0 h3 hr
  ·refine W.condF h8 hc44 ?_
   refine W.exit ?_
   refine thenQ.x ?_
   refine thenQ.x ?_
   obtain rfl := Option.some.inj hr
   exact ⟨z, hz, st, .inl ⟨_, rfl, rfl, trivial⟩⟩

theorem u_consist_name_2 {N : Nat}  {z0 z : Nat → Blk} {e m : Mem} {k : Option Nat} {fr : Nat → Value} {x0 : List UInt8} (hz : Zx e.next z0 z) (st : St z e m k) (h0 : fr 0 = (str x0)) {r : Bool} (hr : consist_name_2 N x0 = some r) : W Try.prog (sub (bodyOf Try.f45) [1, 1, 0]) (fun ex fr' m' => ∃ z', Zx e.next z0 z' ∧ St z' e m' k ∧ ex = AExit.normal ∧ fr' 2 = (vB r) ∧ True) fr m := by
 unfold consist_name_2 at hr
 refine W.region ?_
 refine sx rfl (pMove (v := (str x0)) rfl h0) ?_
 refine sx rfl (pLenS (s := x0) rfl rfl Try.underlying9 rfl) ?_
 refine sx rfl (pGtr (k := .i64) (a := (x0.length : Int)) (b := 0) rfl rfl rfl) ?_
 refine sx rfl (pMove (v := (vB (decide (0 < (x0.length : Int))))) rfl rfl) ?_
 rcases if_some hr with ⟨hc53, hr⟩ | ⟨hc57, hr⟩
 ·refine SeqW.consG rfl rfl rfl hc53 (StepX.pure (pMove (v := (str x0)) rfl h0) ?_)
  refine SeqW.consG rfl rfl rfl hc53 (StepX.pure (pLenS (s := x0) rfl rfl Try.underlying9 rfl) ?_)
  refine SeqW.consG rfl rfl rfl hc53 (StepX.pure (pLeq (k := .i64) (a := (x0.length : Int)) (b := 12) rfl rfl rfl) ?_)
  refine sx rfl (pPick (t := true) (v := (vB (decide ((x0.length : Int) ≤ 12)))) rfl ((congrArg vB hc53)) rfl) ?_
  obtain ⟨y54, hy54, hr⟩ := lt_some hr
  refine sx rfl (pAssign rfl (congrArg vB hy54)) ?_
  refine SeqW.done fun fr55 hf56 => ?_
  have h2 : fr55 2 = (vB y54) := (congrFun hf56 2).trans rfl
  clear hf56
  obtain rfl := Option.some.inj hr
  exact ⟨z, hz, st, rfl, h2, trivial⟩
 ·refine kx rfl rfl rfl hc57 ?_
  iterate 2 refine kx rfl rfl rfl hc57 ?_
  refine sx rfl (pPick (t := false) (v := (vB false)) rfl ((congrArg vB hc57)) rfl) ?_
  refine sx rfl (pAssign (v := (vB false)) rfl rfl) ?_
  refine SeqW.done fun fr58 hf59 => ?_
  have h2 : fr58 2 = (vB false) := (congrFun hf59 2).trans rfl
  clear hf59
  obtain rfl := Option.some.inj hr
  exact ⟨z, hz, st, rfl, h2, trivial⟩

theorem u_consist_name {N : Nat}  {z0 z : Nat → Blk} {e m : Mem} {k : Option Nat} {fr : Nat → Value} {x0 : List UInt8} (hz : Zx e.next z0 z) (st : St z e m k) (h0 : fr 0 = (str x0)) {r : Bool} (hr : consist_name N x0 = some r) : W Try.prog (sub (bodyOf Try.f45) []) (fun ex fr' m' => ∃ z', Zx e.next z0 z' ∧ St z' e m' k ∧ (ex = .normal ∨ ex = .ret) ∧ fr' 2 = (vB r) ∧ True) fr m := by
 unfold consist_name at hr
 refine W.seq (W.region ?_)
 refine sx rfl (pAssign (v := (vB false)) rfl rfl) ?_
 refine SeqW.done fun fr1 hf2 => ?_
 have h0 := (congrFun hf2 0).trans h0
 clear hf2
 refine thenQ.n (W.seq ?_)
 refine W.seq (W.region ?_)
 refine sx rfl (pAssign (v := (vI 0)) rfl rfl) ?_
 refine SeqW.done fun fr3 hf4 => ?_
 have h0 := (congrFun hf4 0).trans h0
 have h3 : fr3 3 = (vI 0) := (congrFun hf4 3).trans rfl
 clear hf4
 refine thenQ.n ?_
 refine W.block ?_
 obtain ⟨y45, hy45, hr⟩ := bind_some hr
 refine W.keep (u_consist_name_0 _ (Zx.refl _) st h0 h3 hy45) ?_
 rintro ex51 fr46 m47 hk49 ⟨z48, hz50, st, ⟨y52, rfl, rfl, -⟩ | ⟨y67, rfl, rfl, h2, -⟩⟩
 ·dsimp only at hr
  have h0 := (hk49 0 rfl).trans h0
  replace hz := hz.trans hz50
  clear hk49
  refine blockQ.hit ?_
  refine thenQ.n (W.seq ?_)
  obtain ⟨y60, hy60, hr⟩ := bind_some hr
  refine W.keep (u_consist_name_2 (Zx.refl _) st h0 hy60) ?_
  rintro ex66 fr61 m62 hk64 ⟨z63, hz65, st, rfl, h2, -⟩
  replace hz := hz.trans hz65
  clear hk64
  refine thenQ.n ?_
  refine W.ret ?_
  obtain rfl := Option.some.inj hr
  exact ⟨z63, hz, st, .inr rfl, h2, trivial⟩
 ·dsimp only at hr
  replace hz := hz.trans hz50
  clear hk49
  refine blockQ.r ?_
  refine thenQ.r ?_
  obtain rfl := Option.some.inj hr
  exact ⟨z48, hz, st, .inr rfl, h2, trivial⟩

theorem c_consist_name {N : Nat} {z : Nat → Blk} {m : Mem} {x0 : List UInt8} (fz : Fz z m) (hd : ∀ b, m.next ≤ b → m.blk b = .dead)  {r : Bool} (hr : consist_name N x0 = some r) : CallW Try.prog 45 #[(str x0)] m fun v m' => v = (vB r) ∧ m' = m := by
 refine CallW.flat Try.func45 rfl (by kernel_rfl) (Nat.le_of_ble_eq_true rfl) rfl (z := z) (fun fr hf => ?_)
 have h0 : fr 0 = _ := hf 0 _ rfl
 refine (u_consist_name (k := none) (Zx.refl _) (St.start fz hd) h0 hr).mono ?_
 rintro ex fr' m' ⟨z', hz, st, he, h2, -⟩
 exact ⟨he, z', st, [(vB r)], ⟨h2.symm, trivial⟩, .inl rfl, rfl⟩

/-! ### humpyard/consist.Valid -/

theorem u_consist_Valid_0 {N : Nat}  {z0 z : Nat → Blk} {e m : Mem} {k : Option Nat} {fr : Nat → Value} {x5 : Int} {x16 : Bool} {x1 : Wagon} {b1 : Nat} (hz : Zx e.next z0 z) (st : St z e m k) (h1 : fr 1 = (vP b1)) (bx1 : Bx z e m k b1 [(str x1.number), (vI x1.length), (vI x1.axles), (vI x1.mass), (vI x1.brake), (vI x1.goods), (vB x1.gentle), (str x1.dest)] 30) (h5 : fr 5 = (vI x5)) (h16 : fr 16 = (vB x16)) {r : Int} (hr : consist_Valid_0 N x5 x16 = some r) : W Try.prog (sub (bodyOf Try.f33) [1, 1, 1, 1, 0, 1]) (fun ex fr' m' => ∃ z', Zx e.next z0 z' ∧ St z' e m' k ∧ ex = AExit.normal ∧ fr' 5 = (vI r) ∧ Bx z' e m' k b1 [(str x1.number), (vI x1.length), (vI x1.axles), (vI x1.mass), (vI x1.brake), (vI x1.goods), (vB x1.gentle), (str x1.dest)] 30 ∧ True) fr m := by
 unfold consist_Valid_0 at hr
 rcases if_some hr with ⟨hc22, hr⟩ | ⟨hc25, hr⟩
 ·refine W.condT h16 hc22 (W.region ?_)
  refine sx rfl (pAssign (v := (vI 120)) rfl rfl) ?_
  refine SeqW.done fun fr23 hf24 => ?_
  have h1 := (congrFun hf24 1).trans h1
  have h5 : fr23 5 = (vI 120) := (congrFun hf24 5).trans rfl
  clear hf24
  obtain rfl := Option.some.inj hr
  exact ⟨z, hz, st, rfl, h5, bx1, trivial⟩
 ·refine W.condF h16 hc25 (W.skip ?_)
  obtain rfl := Option.some.inj hr
  exact ⟨z, hz, st, rfl, h5, bx1, trivial⟩

theorem u_consist_Valid_1 {N : Nat}  {z0 z : Nat → Blk} {e m : Mem} {k : Option Nat} {fr : Nat → Value} {x1 : Wagon} {x5 : Int} {b1 : Nat} (hz : Zx e.next z0 z) (st : St z e m k) (h1 : fr 1 = (vP b1)) (bx1 : Bx z e m k b1 [(str x1.number), (vI x1.length), (vI x1.axles), (vI x1.mass), (vI x1.brake), (vI x1.goods), (vB x1.gentle), (str x1.dest)] 30) (h5 : fr 5 = (vI x5)) {r : Bool} (hr : consist_Valid_1 N x1 x5 = some r) : W Try.prog (sub (bodyOf Try.f33) [1, 1, 1, 1, 1, 0, 0, 1, 1, 0]) (fun ex fr' m' => ∃ z', Zx e.next z0 z' ∧ St z' e m' k ∧ ex = AExit.normal ∧ fr' 23 = (vB r) ∧ Bx z' e m' k b1 [(str x1.number), (vI x1.length), (vI x1.axles), (vI x1.mass), (vI x1.brake), (vI x1.goods), (vB x1.gentle), (str x1.dest)] 30 ∧ True) fr m := by
 unfold consist_Valid_1 at hr
 refine W.region ?_
 refine SeqW.consX rfl (kField rfl Try.underlying30 rfl Try.type3 rfl h1 rfl ?_)
 refine SeqW.consX rfl (kLoad rfl Try.underlying3 rfl rfl (bx1.load (v := (vI x1.length)) rfl) ?_)
 refine sx rfl (pMove (v := (vI x5)) rfl h5) ?_
 refine sx rfl (pLss (k := .i64) (a := x1.length) (b := x5) rfl rfl rfl) ?_
 refine sx rfl (pMove (v := (vB (decide (x1.length < x5)))) rfl rfl) ?_
 rcases if_some hr with ⟨hc44, hr⟩ | ⟨hc47, hr⟩
 ·refine kx rfl rfl rfl hc44 ?_
  iterate 2 refine kx rfl rfl rfl hc44 ?_
  refine sx rfl (pPick (t := true) (v := (vB true)) rfl ((congrArg vB hc44)) rfl) ?_
  refine sx rfl (pMove (v := (vB true)) rfl rfl) ?_
  iterate 3 refine kx rfl rfl rfl rfl ?_
  refine sx rfl (pPick (t := true) (v := (vB true)) rfl ((congrArg vB (rfl : true = true))) rfl) ?_
  refine sx rfl (pMove (v := (vB true)) rfl rfl) ?_
  iterate 3 refine kx rfl rfl rfl rfl ?_
  refine sx rfl (pPick (t := true) (v := (vB true)) rfl ((congrArg vB (rfl : true = true))) rfl) ?_
  refine sx rfl (pAssign (v := (vB true)) rfl rfl) ?_
  refine SeqW.done fun fr45 hf46 => ?_
  have h1 := (congrFun hf46 1).trans h1
  have h23 : fr45 23 = (vB true) := (congrFun hf46 23).trans rfl
  clear hf46
  obtain rfl := Option.some.inj hr
  exact ⟨z, hz, st, rfl, h23, bx1, trivial⟩
 ·refine SeqW.consG rfl rfl rfl hc47 (kField rfl Try.underlying30 rfl Try.type3 rfl h1 rfl ?_)
  refine SeqW.consG rfl rfl rfl hc47 (kLoad rfl Try.underlying3 rfl rfl (bx1.load (v := (vI x1.length)) rfl) ?_)
  refine SeqW.consG rfl rfl rfl hc47 (StepX.pure (pGtr (k := .i64) (a := x1.length) (b := 400) rfl rfl rfl) ?_)
  refine sx rfl (pPick (t := false) (v := (vB (decide (400 < x1.length)))) rfl ((congrArg vB hc47)) rfl) ?_
  refine sx rfl (pMove (v := (vB (decide (400 < x1.length)))) rfl rfl) ?_
  rcases if_some hr with ⟨hc48, hr⟩ | ⟨hc51, hr⟩
  ·refine kx rfl rfl rfl hc48 ?_
   iterate 2 refine kx rfl rfl rfl hc48 ?_
   refine sx rfl (pPick (t := true) (v := (vB true)) rfl ((congrArg vB hc48)) rfl) ?_
   refine sx rfl (pMove (v := (vB true)) rfl rfl) ?_
   iterate 3 refine kx rfl rfl rfl rfl ?_
   refine sx rfl (pPick (t := true) (v := (vB true)) rfl ((congrArg vB (rfl : true = true))) rfl) ?_
   refine sx rfl (pAssign (v := (vB true)) rfl rfl) ?_
   refine SeqW.done fun fr49 hf50 => ?_
   have h1 := (congrFun hf50 1).trans h1
   have h23 : fr49 23 = (vB true) := (congrFun hf50 23).trans rfl
   clear hf50
   obtain rfl := Option.some.inj hr
   exact ⟨z, hz, st, rfl, h23, bx1, trivial⟩
  ·refine SeqW.consG rfl rfl rfl hc51 (kField rfl Try.underlying30 rfl Try.type3 rfl h1 rfl ?_)
   refine SeqW.consG rfl rfl rfl hc51 (kLoad rfl Try.underlying3 rfl rfl (bx1.load (v := (vI x1.mass)) rfl) ?_)
   refine SeqW.consG rfl rfl rfl hc51 (StepX.pure (pLss (k := .i64) (a := x1.mass) (b := 50) rfl rfl rfl) ?_)
   refine sx rfl (pPick (t := false) (v := (vB (decide (x1.mass < 50)))) rfl ((congrArg vB hc51)) rfl) ?_
   refine sx rfl (pMove (v := (vB (decide (x1.mass < 50)))) rfl rfl) ?_
   rcases if_some hr with ⟨hc52, hr⟩ | ⟨hc55, hr⟩
   ·refine kx rfl rfl rfl hc52 ?_
    iterate 2 refine kx rfl rfl rfl hc52 ?_
    refine sx rfl (pPick (t := true) (v := (vB true)) rfl ((congrArg vB hc52)) rfl) ?_
    refine sx rfl (pAssign (v := (vB true)) rfl rfl) ?_
    refine SeqW.done fun fr53 hf54 => ?_
    have h1 := (congrFun hf54 1).trans h1
    have h23 : fr53 23 = (vB true) := (congrFun hf54 23).trans rfl
    clear hf54
    obtain rfl := Option.some.inj hr
    exact ⟨z, hz, st, rfl, h23, bx1, trivial⟩
   ·refine SeqW.consG rfl rfl rfl hc55 (kField rfl Try.underlying30 rfl Try.type3 rfl h1 rfl ?_)
    refine SeqW.consG rfl rfl rfl hc55 (kLoad rfl Try.underlying3 rfl rfl (bx1.load (v := (vI x1.mass)) rfl) ?_)
    refine SeqW.consG rfl rfl rfl hc55 (StepX.pure (pGtr (k := .i64) (a := x1.mass) (b := 2000) rfl rfl rfl) ?_)
    refine sx rfl (pPick (t := false) (v := (vB (decide (2000 < x1.mass)))) rfl ((congrArg vB hc55)) rfl) ?_
    obtain ⟨y56, hy56, hr⟩ := lt_some hr
    refine sx rfl (pAssign rfl (congrArg vB hy56)) ?_
    refine SeqW.done fun fr57 hf58 => ?_
    have h1 := (congrFun hf58 1).trans h1
    have h23 : fr57 23 = (vB y56) := (congrFun hf58 23).trans rfl
    clear hf58
    obtain rfl := Option.some.inj hr
    exact ⟨z, hz, st, rfl, h23, bx1, trivial⟩

theorem u_consist_Valid_2 {N : Nat}  {z0 z : Nat → Blk} {e m : Mem} {k : Option Nat} {fr : Nat → Value} {x1 : Wagon} {b1 : Nat} (hz : Zx e.next z0 z) (st : St z e m k) (h1 : fr 1 = (vP b1)) (bx1 : Bx z e m k b1 [(str x1.number), (vI x1.length), (vI x1.axles), (vI x1.mass), (vI x1.brake), (vI x1.goods), (vB x1.gentle), (str x1.dest)] 30) {r : Bool} (hr : consist_Valid_2 N x1 = some r) : W Try.prog (sub (bodyOf Try.f33) [1, 1, 1, 1, 1, 0, 0, 1, 1, 1, 1, 0]) (fun ex fr' m' => ∃ z', Zx e.next z0 z' ∧ St z' e m' k ∧ ex = AExit.normal ∧ fr' 43 = (vB r) ∧ Bx z' e m' k b1 [(str x1.number), (vI x1.length), (vI x1.axles), (vI x1.mass), (vI x1.brake), (vI x1.goods), (vB x1.gentle), (str x1.dest)] 30 ∧ True) fr m := by
 unfold consist_Valid_2 at hr
 refine W.region ?_
 refine SeqW.consX rfl (kField rfl Try.underlying30 rfl Try.type3 rfl h1 rfl ?_)
 refine SeqW.consX rfl (kLoad rfl Try.underlying3 rfl rfl (bx1.load (v := (vI x1.brake)) rfl) ?_)
 refine sx rfl (pLss (k := .i64) (a := x1.brake) (b := 0) rfl rfl rfl) ?_
 refine sx rfl (pMove (v := (vB (decide (x1.brake < 0)))) rfl rfl) ?_
 rcases if_some hr with ⟨hc71, hr⟩ | ⟨hc74, hr⟩
 ·refine kx rfl rfl rfl hc71 ?_
  iterate 4 refine kx rfl rfl rfl hc71 ?_
  refine sx rfl (pPick (t := true) (v := (vB true)) rfl ((congrArg vB hc71)) rfl) ?_
  refine sx rfl (pMove (v := (vB true)) rfl rfl) ?_
  iterate 3 refine kx rfl rfl rfl rfl ?_
  refine sx rfl (pPick (t := true) (v := (vB true)) rfl ((congrArg vB (rfl : true = true))) rfl) ?_
  refine sx rfl (pMove (v := (vB true)) rfl rfl) ?_
  iterate 3 refine kx rfl rfl rfl rfl ?_
  refine sx rfl (pPick (t := true) (v := (vB true)) rfl ((congrArg vB (rfl : true = true))) rfl) ?_
  refine sx rfl (pAssign (v := (vB true)) rfl rfl) ?_
  refine SeqW.done fun fr72 hf73 => ?_
  have h1 := (congrFun hf73 1).trans h1
  have h43 : fr72 43 = (vB true) := (congrFun hf73 43).trans rfl
  clear hf73
  obtain rfl := Option.some.inj hr
  exact ⟨z, hz, st, rfl, h43, bx1, trivial⟩
 ·refine SeqW.consG rfl rfl rfl hc74 (kField rfl Try.underlying30 rfl Try.type3 rfl h1 rfl ?_)
  refine SeqW.consG rfl rfl rfl hc74 (kLoad rfl Try.underlying3 rfl rfl (bx1.load (v := (vI x1.brake)) rfl) ?_)
  refine SeqW.consG rfl rfl rfl hc74 (kField rfl Try.underlying30 rfl Try.type3 rfl h1 rfl ?_)
  refine SeqW.consG rfl rfl rfl hc74 (kLoad rfl Try.underlying3 rfl rfl (bx1.load (v := (vI x1.mass)) rfl) ?_)
  refine SeqW.consG rfl rfl rfl hc74 (StepX.pure (pGtr (k := .i64) (a := x1.brake) (b := x1.mass) rfl rfl rfl) ?_)
  refine sx rfl (pPick (t := false) (v := (vB (decide (x1.mass < x1.brake)))) rfl ((congrArg vB hc74)) rfl) ?_
  refine sx rfl (pMove (v := (vB (decide (x1.mass < x1.brake)))) rfl rfl) ?_
  rcases if_some hr with ⟨hc75, hr⟩ | ⟨hc78, hr⟩
  ·refine kx rfl rfl rfl hc75 ?_
   iterate 2 refine kx rfl rfl rfl hc75 ?_
   refine sx rfl (pPick (t := true) (v := (vB true)) rfl ((congrArg vB hc75)) rfl) ?_
   refine sx rfl (pMove (v := (vB true)) rfl rfl) ?_
   iterate 3 refine kx rfl rfl rfl rfl ?_
   refine sx rfl (pPick (t := true) (v := (vB true)) rfl ((congrArg vB (rfl : true = true))) rfl) ?_
   refine sx rfl (pAssign (v := (vB true)) rfl rfl) ?_
   refine SeqW.done fun fr76 hf77 => ?_
   have h1 := (congrFun hf77 1).trans h1
   have h43 : fr76 43 = (vB true) := (congrFun hf77 43).trans rfl
   clear hf77
   obtain rfl := Option.some.inj hr
   exact ⟨z, hz, st, rfl, h43, bx1, trivial⟩
  ·refine SeqW.consG rfl rfl rfl hc78 (kField rfl Try.underlying30 rfl Try.type3 rfl h1 rfl ?_)
   refine SeqW.consG rfl rfl rfl hc78 (kLoad rfl Try.underlying3 rfl rfl (bx1.load (v := (vI x1.goods)) rfl) ?_)
   refine SeqW.consG rfl rfl rfl hc78 (StepX.pure (pLss (k := .i64) (a := x1.goods) (b := 0) rfl rfl rfl) ?_)
   refine sx rfl (pPick (t := false) (v := (vB (decide (x1.goods < 0)))) rfl ((congrArg vB hc78)) rfl) ?_
   refine sx rfl (pMove (v := (vB (decide (x1.goods < 0)))) rfl rfl) ?_
   rcases if_some hr with ⟨hc79, hr⟩ | ⟨hc82, hr⟩
   ·refine kx rfl rfl rfl hc79 ?_
    iterate 2 refine kx rfl rfl rfl hc79 ?_
    refine sx rfl (pPick (t := true) (v := (vB true)) rfl ((congrArg vB hc79)) rfl) ?_
    refine sx rfl (pAssign (v := (vB true)) rfl rfl) ?_
    refine SeqW.done fun fr80 hf81 => ?_
    have h1 := (congrFun hf81 1).trans h1
    have h43 : fr80 43 = (vB true) := (congrFun hf81 43).trans rfl
    clear hf81
    obtain rfl := Option.some.inj hr
    exact ⟨z, hz, st, rfl, h43, bx1, trivial⟩
   ·refine SeqW.consG rfl rfl rfl hc82 (kField rfl Try.underlying30 rfl Try.type3 rfl h1 rfl ?_)
    refine SeqW.consG rfl rfl rfl hc82 (kLoad rfl Try.underlying3 rfl rfl (bx1.load (v := (vI x1.goods)) rfl) ?_)
    refine SeqW.consG rfl rfl rfl hc82 (StepX.pure (pGtr (k := .i64) (a := x1.goods) (b := 9) rfl rfl rfl) ?_)
    refine sx rfl (pPick (t := false) (v := (vB (decide (9 < x1.goods)))) rfl ((congrArg vB hc82)) rfl) ?_
    obtain ⟨y83, hy83, hr⟩ := lt_some hr
    refine sx rfl (pAssign rfl (congrArg vB hy83)) ?_
    refine SeqW.done fun fr84 hf85 => ?_
    have h1 := (congrFun hf85 1).trans h1
    have h43 : fr84 43 = (vB y83) := (congrFun hf85 43).trans rfl
    clear hf85
    obtain rfl := Option.some.inj hr
    exact ⟨z, hz, st, rfl, h43, bx1, trivial⟩

theorem u_consist_Valid {N : Nat}  {z0 z : Nat → Blk} {e m : Mem} {k : Option Nat} {fr : Nat → Value} {x0 : Wagon} (hz : Zx e.next z0 z) (st : St z e m k) (h0 : fr 0 = (Value.agg [(str x0.number), (vI x0.length), (vI x0.axles), (vI x0.mass), (vI x0.brake), (vI x0.goods), (vB x0.gentle), (str x0.dest)].toArray)) {r : Int} (hr : consist_Valid N x0 = some r) : W Try.prog (sub (bodyOf Try.f33) []) (fun ex fr' m' => ∃ z', Zx e.next z0 z' ∧ St z' e m' k ∧ (ex = .normal ∨ ex = .ret) ∧ fr' 2 = (vI r) ∧ True) fr m := by
 unfold consist_Valid at hr
 refine W.seq (W.region ?_)
 refine SeqW.consX rfl (kBox (v := (Value.agg [(str x0.number), (vI x0.length), (vI x0.axles), (vI x0.mass), (vI x0.brake), (vI x0.goods), (vB x0.gentle), (str x0.dest)].toArray)) rfl Try.type30 h0 rfl [(str x0.number), (vI x0.length), (vI x0.axles), (vI x0.mass), (vI x0.brake), (vI x0.goods), (vB x0.gentle), (str x0.dest)] rfl rfl st ?_)
 intro B1 m2 st X3 sm4 hap5
 refine sx rfl (pAssign (v := (vI 0)) rfl rfl) ?_
 refine SeqW.done fun fr7 hf8 => ?_
 have h1 : fr7 1 = (vP B1) := (congrFun hf8 1).trans rfl
 clear hf8
 refine thenQ.n (W.seq (W.region ?_))
 refine SeqW.consX rfl (kField rfl Try.underlying30 rfl Try.type9 rfl h1 rfl ?_)
 refine SeqW.consX rfl (kLoad rfl Try.underlying9 rfl rfl (X3.load (v := (str x0.number)) rfl) ?_)
 obtain ⟨y9, hy9, hr⟩ := bind_some hr
 refine SeqW.consX rfl (StepX.call (gCallee rfl rfl (args1 rfl)) ((c_wagonnumber_Kind (z := z) st.fz st.dead  hy9).mono ?_))
 rintro _ _ ⟨rfl, rfl⟩
 refine sx rfl (pMove (v := (Value.tuple [(vI y9.1), (vI y9.2)].toArray)) rfl rfl) ?_
 refine sx rfl (pExtract (vs := [(vI y9.1), (vI y9.2)]) (v := (vI y9.1)) rfl rfl rfl) ?_
 refine sx rfl (pExtract (vs := [(vI y9.1), (vI y9.2)]) (v := (vI y9.2)) rfl rfl rfl) ?_
 refine sx rfl (pAssign (v := (vI y9.1)) rfl rfl) ?_
 refine sx rfl (pAssign (v := (vI y9.2)) rfl rfl) ?_
 refine SeqW.done fun fr10 hf11 => ?_
 have h1 := (congrFun hf11 1).trans h1
 have h3 : fr10 3 = (vI y9.1) := (congrFun hf11 3).trans rfl
 have h4 : fr10 4 = (vI y9.2) := (congrFun hf11 4).trans rfl
 clear hf11
 refine thenQ.n (W.seq ?_)
 refine W.seq (W.region ?_)
 refine sx rfl (pMove (v := (vI y9.2)) rfl h4) ?_
 refine sx rfl (pNeq (k := .i64) (a := y9.2) (b := 0) rfl rfl rfl) ?_
 refine SeqW.done fun fr12 hf13 => ?_
 have h1 := (congrFun hf13 1).trans h1
 have h3 := (congrFun hf13 3).trans h3
 have h4 := (congrFun hf13 4).trans h4
 have h13 : fr12 13 = (vB (y9.2 != 0)) := (congrFun hf13 13).trans rfl
 clear hf13
 refine thenQ.n ?_
 rcases if_some hr with ⟨hc14, hr⟩ | ⟨hc17, hr⟩
 ·refine W.condT h13 hc14 (W.seq (W.region ?_))
  refine sx rfl (pMove (v := (vI y9.2)) rfl h4) ?_
  refine sx rfl (pAssign (v := (vI y9.2)) rfl rfl) ?_
  refine SeqW.done fun fr15 hf16 => ?_
  have h2 : fr15 2 = (vI y9.2) := (congrFun hf16 2).trans rfl
  clear hf16
  refine thenQ.n ?_
  refine W.ret ?_
  refine thenQ.r ?_
  obtain rfl := Option.some.inj hr
  exact ⟨z, hz, st, .inr rfl, h2, trivial⟩
 ·refine W.condF h13 hc17 (W.skip ?_)
  refine thenQ.n (W.seq (W.region ?_))
  refine sx rfl (pAssign (v := (vI 80)) rfl rfl) ?_
  refine SeqW.done fun fr18 hf19 => ?_
  have h1 := (congrFun hf19 1).trans h1
  have h3 := (congrFun hf19 3).trans h3
  have h5 : fr18 5 = (vI 80) := (congrFun hf19 5).trans rfl
  clear hf19
  refine thenQ.n (W.seq ?_)
  refine W.seq (W.region ?_)
  refine sx rfl (pMove (v := (vI y9.1)) rfl h3) ?_
  refine sx rfl (pEql (k := .i64) (a := y9.1) (b := 3) rfl rfl rfl) ?_
  refine SeqW.done fun fr20 hf21 => ?_
  have h1 := (congrFun hf21 1).trans h1
  have h3 := (congrFun hf21 3).trans h3
  have h5 := (congrFun hf21 5).trans h5
  have h16 : fr20 16 = (vB (y9.1 == 3)) := (congrFun hf21 16).trans rfl
  clear hf21
  refine thenQ.n ?_
  obtain ⟨y26, hy26, hr⟩ := bind_some hr
  refine W.keep (u_consist_Valid_0 (x1 := x0) (Zx.refl _) st h1 X3 h5 h16 hy26) ?_
  rintro ex32 fr27 m28 hk30 ⟨z29, hz31, st, rfl, h5, O33, -⟩
  have h1 := (hk30 1 rfl).trans h1
  have h3 := (hk30 3 rfl).trans h3
  replace hz := hz.trans hz31
  clear hk30
  refine thenQ.n (W.seq ?_)
  refine W.block ?_
  refine W.seq ?_
  refine W.draw ?_
  refine DrawW.cons rfl (kField rfl Try.underlying30 rfl Try.type3 rfl h1 rfl ?_)
  refine ⟨trivial, ?_⟩
  refine DrawW.cons rfl (kLoad rfl Try.underlying3 rfl rfl (O33.load (v := (vI x0.axles)) rfl) ?_)
  refine ⟨?_, ?_⟩
  ·exact demN
  refine DrawW.cons rfl (StepX.pure (pMove (v := (vI y9.1)) rfl h3) ?_)
  refine ⟨trivial, ?_⟩
  have sto34 := st
  have old35 := O33
  obtain ⟨y36, hy36, hr⟩ := bind_some hr
  refine DrawW.cons rfl (StepX.call (gCallee rfl rfl (args1 rfl)) ((c_consist_axles (z := z29) st.fz st.dead  hy36).mono ?_))
  rintro _ _ ⟨rfl, rfl⟩
  refine ⟨⟨?_, ?_⟩, ?_⟩
  ·first | refine demP (gLoad rfl Try.underlying3 rfl rfl (O33.load (v := (vI x0.axles)) rfl)) ?_ | refine demA (by decide) ?_
   exact demN
  ·exact demN
  refine DrawW.cons rfl (StepX.pure (pNeq (k := .i64) (a := x0.axles) (b := y36) rfl rfl rfl) ?_)
  refine ⟨trivial, ?_⟩
  obtain ⟨y37, hy37, hr⟩ := lt_some hr
  refine DrawW.cons rfl (StepX.pure (pAssign rfl (congrArg vB hy37)) ?_)
  refine ⟨trivial, ?_⟩
  refine DrawW.done fun fr38 hf39 => ?_
  have h1 := (congrFun hf39 1).trans h1
  have h5 := (congrFun hf39 5).trans h5
  have h17 : fr38 17 = (vB y37) := (congrFun hf39 17).trans rfl
  clear hf39
  refine thenQ.n ?_
  rcases if_some hr with ⟨hc40, hr⟩ | ⟨hc43, hr⟩
  ·refine W.condT h17 hc40 (W.seq (W.region ?_))
   refine sx rfl (pAssign (v := (vI 1)) rfl rfl) ?_
   refine SeqW.done fun fr41 hf42 => ?_
   have h2 : fr41 2 = (vI 1) := (congrFun hf42 2).trans rfl
   clear hf42
   refine thenQ.n ?_
   refine W.ret ?_
   refine blockQ.r ?_
   refine thenQ.r ?_
   obtain rfl := Option.some.inj hr
   exact ⟨z29, hz, st, .inr rfl, h2, trivial⟩
  ·refine W.condF h17 hc43 (W.seq ?_)
   obtain ⟨y59, hy59, hr⟩ := bind_some hr
   refine W.keep (u_consist_Valid_1 (x1 := x0) (Zx.refl _) st h1 O33 h5 hy59) ?_
   rintro ex65 fr60 m61 hk63 ⟨z62, hz64, st, rfl, h23, O66, -⟩
   have h1 := (hk63 1 rfl).trans h1
   replace hz := hz.trans hz64
   clear hk63
   refine thenQ.n ?_
   rcases if_some hr with ⟨hc67, hr⟩ | ⟨hc70, hr⟩
   ·refine W.condT h23 hc67 (W.seq (W.region ?_))
    refine sx rfl (pAssign (v := (vI 2)) rfl rfl) ?_
    refine SeqW.done fun fr68 hf69 => ?_
    have h2 : fr68 2 = (vI 2) := (congrFun hf69 2).trans rfl
    clear hf69
    refine thenQ.n ?_
    refine W.ret ?_
    refine blockQ.r ?_
    refine thenQ.r ?_
    obtain rfl := Option.some.inj hr
    exact ⟨z62, hz, st, .inr rfl, h2, trivial⟩
   ·refine W.condF h23 hc70 (W.seq ?_)
    obtain ⟨y86, hy86, hr⟩ := bind_some hr
    refine W.keep (u_consist_Valid_2 (x1 := x0) (Zx.refl _) st h1 O66 hy86) ?_
    rintro ex92 fr87 m88 hk90 ⟨z89, hz91, st, rfl, h43, O93, -⟩
    have h1 := (hk90 1 rfl).trans h1
    replace hz := hz.trans hz91
    clear hk90
    refine thenQ.n ?_
    rcases if_some hr with ⟨hc94, hr⟩ | ⟨hc97, hr⟩
    ·refine W.condT h43 hc94 (W.seq (W.region ?_))
     refine sx rfl (pAssign (v := (vI 2)) rfl rfl) ?_
     refine SeqW.done fun fr95 hf96 => ?_
     have h2 : fr95 2 = (vI 2) := (congrFun hf96 2).trans rfl
     clear hf96
     refine thenQ.n ?_
     refine W.ret ?_
     refine blockQ.r ?_
     refine thenQ.r ?_
     obtain rfl := Option.some.inj hr
     exact ⟨z89, hz, st, .inr rfl, h2, trivial⟩
    ·refine W.condF h43 hc97 (W.seq (W.region ?_))
     refine SeqW.consX rfl (kField rfl Try.underlying30 rfl Try.type9 rfl h1 rfl ?_)
     refine SeqW.consX rfl (kLoad rfl Try.underlying9 rfl rfl (O93.load (v := (str x0.dest)) rfl) ?_)
     obtain ⟨y98, hy98, hr⟩ := bind_some hr
     refine SeqW.consX rfl (StepX.call (gCallee rfl rfl (args1 rfl)) ((c_consist_name (z := z89) st.fz st.dead  hy98).mono ?_))
     rintro _ _ ⟨rfl, rfl⟩
     refine sx rfl (pNot (b := y98) rfl rfl) ?_
     obtain ⟨y99, hy99, hr⟩ := lt_some hr
     refine sx rfl (pAssign rfl (congrArg vB hy99)) ?_
     refine SeqW.done fun fr100 hf101 => ?_
     have h64 : fr100 64 = (vB y99) := (congrFun hf101 64).trans rfl
     clear hf101
     refine thenQ.n ?_
     rcases if_some hr with ⟨hc102, hr⟩ | ⟨hc105, hr⟩
     ·refine W.condT h64 hc102 (W.seq (W.region ?_))
      refine sx rfl (pAssign (v := (vI 7)) rfl rfl) ?_
      refine SeqW.done fun fr103 hf104 => ?_
      have h2 : fr103 2 = (vI 7) := (congrFun hf104 2).trans rfl
      clear hf104
      refine thenQ.n ?_
      refine W.ret ?_
      refine blockQ.r ?_
      refine thenQ.r ?_
      obtain rfl := Option.some.inj hr
      exact ⟨z89, hz, st, .inr rfl, h2, trivial⟩
     ·refine W.condF h64 hc105 (W.skip ?_)
      refine blockQ.n ?_
      refine thenQ.n (W.seq (W.region ?_))
      refine sx rfl (pAssign (v := (vI 0)) rfl rfl) ?_
      refine SeqW.done fun fr106 hf107 => ?_
      have h2 : fr106 2 = (vI 0) := (congrFun hf107 2).trans rfl
      clear hf107
      refine thenQ.n ?_
      refine W.ret ?_
      obtain rfl := Option.some.inj hr
      exact ⟨z89, hz, st, .inr rfl, h2, trivial⟩

theorem c_consist_Valid {N : Nat} {z : Nat → Blk} {m : Mem} {x0 : Wagon} (fz : Fz z m) (hd : ∀ b, m.next ≤ b → m.blk b = .dead)  {r : Int} (hr : consist_Valid N x0 = some r) : CallW Try.prog 33 #[(Value.agg [(str x0.number), (vI x0.length), (vI x0.axles), (vI x0.mass), (vI x0.brake), (vI x0.goods), (vB x0.gentle), (str x0.dest)].toArray)] m fun v m' => v = (vI r) ∧ m' = m := by
 refine CallW.flat Try.func33 rfl (by kernel_rfl) (Nat.le_of_ble_eq_true rfl) rfl (z := z) (fun fr hf => ?_)
 have h0 : fr 0 = _ := hf 0 _ rfl
 refine (u_consist_Valid (k := none) (Zx.refl _) (St.start fz hd) h0 hr).mono ?_
 rintro ex fr' m' ⟨z', hz, st, he, h2, -⟩
 exact ⟨he, z', st, [(vI r)], ⟨h2.symm, trivial⟩, .inl rfl, rfl⟩

/-! ### humpyard/wheel.offsets -/

theorem u_wheel_offsets {N : Nat}  {z0 z : Nat → Blk} {e m : Mem} {k : Option Nat} {fr : Nat → Value} {x0 : Wagon} (hz : Zx e.next z0 z) (st : St z e m k) (h0 : fr 0 = (Value.agg [(str x0.number), (vI x0.length), (vI x0.axles), (vI x0.mass), (vI x0.brake), (vI x0.goods), (vB x0.gentle), (str x0.dest)].toArray)) {r : List Int} (hr : wheel_offsets N x0 = some r) : W Try.prog (sub (bodyOf Try.f34) []) (fun ex fr' m' => ∃ z', Zx e.next z0 z' ∧ St z' e m' k ∧ (ex = .normal ∨ ex = .ret) ∧ ∃ (w2 : Value), fr' 2 = w2 ∧ OwF (TInt 3 .i64) z' e m' k r w2 ∧ True) fr m := by
 unfold wheel_offsets at hr
 refine W.seq (W.region ?_)
 refine SeqW.consX rfl (kBox (v := (Value.agg [(str x0.number), (vI x0.length), (vI x0.axles), (vI x0.mass), (vI x0.brake), (vI x0.goods), (vB x0.gentle), (str x0.dest)].toArray)) rfl Try.type30 h0 rfl [(str x0.number), (vI x0.length), (vI x0.axles), (vI x0.mass), (vI x0.brake), (vI x0.goods), (vB x0.gentle), (str x0.dest)] rfl rfl st ?_)
 intro B1 m2 st X3 sm4 hap5
 refine sx rfl (pAssign (v := (Value.slice none 0 0)) rfl rfl) ?_
 refine SeqW.done fun fr7 hf8 => ?_
 have h1 : fr7 1 = (vP B1) := (congrFun hf8 1).trans rfl
 clear hf8
 refine thenQ.n (W.seq (W.region ?_))
 refine SeqW.consX rfl (kField rfl Try.underlying30 rfl Try.type3 rfl h1 rfl ?_)
 refine SeqW.consX rfl (kLoad rfl Try.underlying3 rfl rfl (X3.load (v := (vI x0.length)) rfl) ?_)
 refine sx rfl (pMul (k := .i64) (a := 10) (b := x0.length) rfl rfl rfl) ?_
 obtain ⟨y9, hy9, hr⟩ := lt_some hr
 refine sx rfl (pAssign rfl (congrArg (Value.int .i64) hy9)) ?_
 refine SeqW.done fun fr10 hf11 => ?_
 have h1 := (congrFun hf11 1).trans h1
 have h3 : fr10 3 = (vI y9) := (congrFun hf11 3).trans rfl
 clear hf11
 refine thenQ.n (W.seq (W.region ?_))
 refine SeqW.consX rfl (kField rfl Try.underlying30 rfl Try.type9 rfl h1 rfl ?_)
 refine SeqW.consX rfl (kLoad rfl Try.underlying9 rfl rfl (X3.load (v := (str x0.number)) rfl) ?_)
 obtain ⟨y12, hy12, hr⟩ := bind_some hr
 refine SeqW.consX rfl (StepX.call (gCallee rfl rfl (args1 rfl)) ((c_wagonnumber_Kind (z := z) st.fz st.dead  hy12).mono ?_))
 rintro _ _ ⟨rfl, rfl⟩
 refine sx rfl (pMove (v := (Value.tuple [(vI y12.1), (vI y12.2)].toArray)) rfl rfl) ?_
 refine sx rfl (pExtract (vs := [(vI y12.1), (vI y12.2)]) (v := (vI y12.1)) rfl rfl rfl) ?_
 refine sx rfl (pExtract (vs := [(vI y12.1), (vI y12.2)]) (v := (vI y12.2)) rfl rfl rfl) ?_
 refine sx rfl (pAssign (v := (vI y12.1)) rfl rfl) ?_
 refine sx rfl (pAssign (v := (vI y12.2)) rfl rfl) ?_
 refine SeqW.done fun fr13 hf14 => ?_
 have h3 := (congrFun hf14 3).trans h3
 have h4 : fr13 4 = (vI y12.1) := (congrFun hf14 4).trans rfl
 clear hf14
 refine thenQ.n (W.seq ?_)
 refine W.seq (W.region ?_)
 refine sx rfl (pMove (v := (vI y12.1)) rfl h4) ?_
 refine SeqW.done fun fr15 hf16 => ?_
 have h3 := (congrFun hf16 3).trans h3
 have h15 : fr15 15 = (vI y12.1) := (congrFun hf16 15).trans rfl
 clear hf16
 refine thenQ.n ?_
 refine W.block ?_
 refine W.seq (W.region ?_)
 refine sx rfl (pEql (k := .i64) (a := y12.1) (b := 1) rfl h15 rfl) ?_
 obtain ⟨y17, hy17, hr⟩ := lt_some hr
 refine sx rfl (pAssign rfl (congrArg vB hy17)) ?_
 refine SeqW.done fun fr18 hf19 => ?_
 have h3 := (congrFun hf19 3).trans h3
 have h15 := (congrFun hf19 15).trans h15
 have h16 : fr18 16 = (vB y17) := (congrFun hf19 16).trans rfl
 clear hf19
 refine thenQ.n ?_
 rcases if_some hr with ⟨hc20, hr⟩ | ⟨hc29, hr⟩
 ·refine W.condT h16 hc20 (W.seq (W.region ?_))
  refine sx rfl (pMove (v := (vI y9)) rfl h3) ?_
  refine sx rfl (pSub (k := .i64) (a := y9) (b := 330) rfl rfl rfl) ?_
  refine sx rfl (pMove (v := (vI y9)) rfl h3) ?_
  refine sx rfl (pSub (k := .i64) (a := y9) (b := 130) rfl rfl rfl) ?_
  refine SeqW.consX rfl (kBuild (T := (TInt 3 .i64)) rfl Try.underlying22 Try.type3 rfl rfl rfl rfl ([130, 330, (IntKind.wrap .i64 (y9 - 330)), (IntKind.wrap .i64 (y9 - 130))] : List Int) [[(vI 130)], [(vI 330)], [(vI (IntKind.wrap .i64 (y9 - 330)))], [(vI (IntKind.wrap .i64 (y9 - 130)))]] rfl rfl rfl (BuildOk.mk (w := (vI 130)) rfl rfl rfl rfl (BuildOk.mk (w := (vI 330)) rfl rfl rfl rfl (BuildOk.mk (w := (vI (IntKind.wrap .i64 (y9 - 330)))) rfl rfl rfl rfl (BuildOk.mk (w := (vI (IntKind.wrap .i64 (y9 - 130)))) rfl rfl rfl rfl trivial)))) st ?_)
  intro V21 m22 st O23 sm24 hap25
  refine sx rfl (pAssign (v := V21) rfl rfl) ?_
  refine SeqW.done fun fr27 hf28 => ?_
  have h2 : fr27 2 = V21 := (congrFun hf28 2).trans rfl
  clear hf28
  refine thenQ.n ?_
  refine W.ret ?_
  refine blockQ.r ?_
  refine thenQ.r ?_
  obtain rfl := Option.some.inj hr
  exact ⟨z, hz, st, .inr rfl, V21, h2, O23, trivial⟩
 ·refine W.condF h16 hc29 (W.seq (W.region ?_))
  refine sx rfl (pEql (k := .i64) (a := y12.1) (b := 2) rfl h15 rfl) ?_
  obtain ⟨y30, hy30, hr⟩ := lt_some hr
  refine sx rfl (pAssign rfl (congrArg vB hy30)) ?_
  refine SeqW.done fun fr31 hf32 => ?_
  have h3 := (congrFun hf32 3).trans h3
  have h15 := (congrFun hf32 15).trans h15
  have h23 : fr31 23 = (vB y30) := (congrFun hf32 23).trans rfl
  clear hf32
  refine thenQ.n ?_
  rcases if_some hr with ⟨hc33, hr⟩ | ⟨hc42, hr⟩
  ·refine W.condT h23 hc33 (W.seq (W.region ?_))
   refine sx rfl (pMove (v := (vI y9)) rfl h3) ?_
   refine sx rfl (pQuo (k := .i64) (a := y9) (b := 4) rfl rfl rfl (by decide)) ?_
   refine sx rfl (pMove (v := (vI y9)) rfl h3) ?_
   refine sx rfl (pMove (v := (vI y9)) rfl h3) ?_
   refine sx rfl (pQuo (k := .i64) (a := y9) (b := 4) rfl rfl rfl (by decide)) ?_
   refine sx rfl (pSub (k := .i64) (a := y9) (b := (IntKind.wrap .i64 (Int.tdiv y9 4))) rfl rfl rfl) ?_
   refine SeqW.consX rfl (kBuild (T := (TInt 3 .i64)) rfl Try.underlying22 Try.type3 rfl rfl rfl rfl ([(IntKind.wrap .i64 (Int.tdiv y9 4)), (IntKind.wrap .i64 (y9 - (IntKind.wrap .i64 (Int.tdiv y9 4))))] : List Int) [[(vI (IntKind.wrap .i64 (Int.tdiv y9 4)))], [(vI (IntKind.wrap .i64 (y9 - (IntKind.wrap .i64 (Int.tdiv y9 4)))))]] rfl rfl rfl (BuildOk.mk (w := (vI (IntKind.wrap .i64 (Int.tdiv y9 4)))) rfl rfl rfl rfl (BuildOk.mk (w := (vI (IntKind.wrap .i64 (y9 - (IntKind.wrap .i64 (Int.tdiv y9 4)))))) rfl rfl rfl rfl trivial)) st ?_)
   intro V34 m35 st O36 sm37 hap38
   refine sx rfl (pAssign (v := V34) rfl rfl) ?_
   refine SeqW.done fun fr40 hf41 => ?_
   have h2 : fr40 2 = V34 := (congrFun hf41 2).trans rfl
   clear hf41
   refine thenQ.n ?_
   refine W.ret ?_
   refine blockQ.r ?_
   refine thenQ.r ?_
   obtain rfl := Option.some.inj hr
   exact ⟨z, hz, st, .inr rfl, V34, h2, O36, trivial⟩
  ·refine W.condF h23 hc42 (W.seq (W.region ?_))
   refine sx rfl (pEql (k := .i64) (a := y12.1) (b := 3) rfl h15 rfl) ?_
   obtain ⟨y43, hy43, hr⟩ := lt_some hr
   refine sx rfl (pAssign rfl (congrArg vB hy43)) ?_
   refine SeqW.done fun fr44 hf45 => ?_
   have h3 := (congrFun hf45 3).trans h3
   have h32 : fr44 32 = (vB y43) := (congrFun hf45 32).trans rfl
   clear hf45
   refine thenQ.n ?_
   rcases if_some hr with ⟨hc46, hr⟩ | ⟨hc55, hr⟩
   ·refine W.condT h32 hc46 (W.seq (W.region ?_))
    refine sx rfl (pMove (v := (vI y9)) rfl h3) ?_
    refine sx rfl (pSub (k := .i64) (a := y9) (b := 440) rfl rfl rfl) ?_
    refine sx rfl (pMove (v := (vI y9)) rfl h3) ?_
    refine sx rfl (pSub (k := .i64) (a := y9) (b := 280) rfl rfl rfl) ?_
    refine sx rfl (pMove (v := (vI y9)) rfl h3) ?_
    refine sx rfl (pSub (k := .i64) (a := y9) (b := 120) rfl rfl rfl) ?_
    refine SeqW.consX rfl (kBuild (T := (TInt 3 .i64)) rfl Try.underlying22 Try.type3 rfl rfl rfl rfl ([120, 280, 440, (IntKind.wrap .i64 (y9 - 440)), (IntKind.wrap .i64 (y9 - 280)), (IntKind.wrap .i64 (y9 - 120))] : List Int) [[(vI 120)], [(vI 280)], [(vI 440)], [(vI (IntKind.wrap .i64 (y9 - 440)))], [(vI (IntKind.wrap .i64 (y9 - 280)))], [(vI (IntKind.wrap .i64 (y9 - 120)))]] rfl rfl rfl (BuildOk.mk (w := (vI 120)) rfl rfl rfl rfl (BuildOk.mk (w := (vI 280)) rfl rfl rfl rfl (BuildOk.mk (w := (vI 440)) rfl rfl rfl rfl (BuildOk.mk (w := (vI (IntKind.wrap .i64 (y9 - 440)))) rfl rfl rfl rfl (BuildOk.mk (w := (vI (IntKind.wrap .i64 (y9 - 280)))) rfl rfl rfl rfl (BuildOk.mk (w := (vI (IntKind.wrap .i64 (y9 - 120)))) rfl rfl rfl rfl trivial)))))) st ?_)
    intro V47 m48 st O49 sm50 hap51
    refine sx rfl (pAssign (v := V47) rfl rfl) ?_
    refine SeqW.done fun fr53 hf54 => ?_
    have h2 : fr53 2 = V47 := (congrFun hf54 2).trans rfl
    clear hf54
    refine thenQ.n ?_
    refine W.ret ?_
    refine blockQ.r ?_
    refine thenQ.r ?_
    obtain rfl := Option.some.inj hr
    exact ⟨z, hz, st, .inr rfl, V47, h2, O49, trivial⟩
   ·refine W.condF h32 hc55 (W.skip ?_)
    refine blockQ.n ?_
    refine thenQ.n (W.seq (W.region ?_))
    refine sx rfl (pMove (v := (vI y9)) rfl h3) ?_
    refine sx rfl (pSub (k := .i64) (a := y9) (b := 330) rfl rfl rfl) ?_
    refine sx rfl (pMove (v := (vI y9)) rfl h3) ?_
    refine sx rfl (pSub (k := .i64) (a := y9) (b := 150) rfl rfl rfl) ?_
    refine SeqW.consX rfl (kBuild (T := (TInt 3 .i64)) rfl Try.underlying22 Try.type3 rfl rfl rfl rfl ([150, 330, (IntKind.wrap .i64 (y9 - 330)), (IntKind.wrap .i64 (y9 - 150))] : List Int) [[(vI 150)], [(vI 330)], [(vI (IntKind.wrap .i64 (y9 - 330)))], [(vI (IntKind.wrap .i64 (y9 - 150)))]] rfl rfl rfl (BuildOk.mk (w := (vI 150)) rfl rfl rfl rfl (BuildOk.mk (w := (vI 330)) rfl rfl rfl rfl (BuildOk.mk (w := (vI (IntKind.wrap .i64 (y9 - 330)))) rfl rfl rfl rfl (BuildOk.mk (w := (vI (IntKind.wrap .i64 (y9 - 150)))) rfl rfl rfl rfl trivial)))) st ?_)
    intro V56 m57 st O58 sm59 hap60
    refine sx rfl (pAssign (v := V56) rfl rfl) ?_
    refine SeqW.done fun fr62 hf63 => ?_
    have h2 : fr62 2 = V56 := (congrFun hf63 2).trans rfl
    clear hf63
    refine thenQ.n ?_
    refine W.ret ?_
    obtain rfl := Option.some.inj hr
    exact ⟨z, hz, st, .inr rfl, V56, h2, O58, trivial⟩

theorem c_wheel_offsets {N : Nat} {z : Nat → Blk} {m : Mem} {x0 : Wagon} (fz : Fz z m) (hd : ∀ b, m.next ≤ b → m.blk b = .dead)  {r : List Int} (hr : wheel_offsets N x0 = some r) : CallW Try.prog 34 #[(Value.agg [(str x0.number), (vI x0.length), (vI x0.axles), (vI x0.mass), (vI x0.brake), (vI x0.goods), (vB x0.gentle), (str x0.dest)].toArray)] m fun v m' => ∃ z' w2, Zx m.next z z' ∧ Fz z' m' ∧ Same m m' none ∧ v = w2 ∧ OwF (TInt 3 .i64) z' m m' none r w2 ∧ True := by
 refine CallW.any Try.func34 rfl (by kernel_rfl) (Nat.le_of_ble_eq_true rfl) (fun fr hf => ?_)
 have h0 : fr 0 = _ := hf 0 _ rfl
 refine (u_wheel_offsets (k := none) (Zx.refl _) (St.start fz hd) h0 hr).mono ?_
 rintro ex fr' m' ⟨z', hz, st, he, w2, h2, s2, -⟩
 exact ⟨he, [w2], ⟨h2.symm, trivial⟩, .inl rfl, z', w2, hz, st.fz, st.toSame, rfl, (s2.up (Nat.le_refl _)), trivial⟩

/-! ### humpyard/wheel.Offsets -/

theorem u_wheel_Offsets {N : Nat}  {z0 z : Nat → Blk} {e m : Mem} {k : Option Nat} {fr : Nat → Value} {x0 : Wagon} (hz : Zx e.next z0 z) (st : St z e m k) (h0 : fr 0 = (Value.agg [(str x0.number), (vI x0.length), (vI x0.axles), (vI x0.mass), (vI x0.brake), (vI x0.goods), (vB x0.gentle), (str x0.dest)].toArray)) {r : List Int × Int} (hr : wheel_Offsets N x0 = some r) : W Try.prog (sub (bodyOf Try.f14) []) (fun ex fr' m' => ∃ z', Zx e.next z0 z' ∧ St z' e m' k ∧ (ex = .normal ∨ ex = .ret) ∧ ∃ (w2 : Value), fr' 2 = w2 ∧ SlR (TInt 3 .i64) z' r.1 w2 ∧ fr' 3 = (vI r.2) ∧ True) fr m := by
 unfold wheel_Offsets at hr
 refine W.seq (W.region ?_)
 refine SeqW.consX rfl (kBox (v := (Value.agg [(str x0.number), (vI x0.length), (vI x0.axles), (vI x0.mass), (vI x0.brake), (vI x0.goods), (vB x0.gentle), (str x0.dest)].toArray)) rfl Try.type30 h0 rfl [(str x0.number), (vI x0.length), (vI x0.axles), (vI x0.mass), (vI x0.brake), (vI x0.goods), (vB x0.gentle), (str x0.dest)] rfl rfl st ?_)
 intro B1 m2 st X3 sm4 hap5
 refine sx rfl (pAssign (v := (Value.slice none 0 0)) rfl rfl) ?_
 refine sx rfl (pAssign (v := (vI 0)) rfl rfl) ?_
 refine SeqW.done fun fr7 hf8 => ?_
 have h1 : fr7 1 = (vP B1) := (congrFun hf8 1).trans rfl
 clear hf8
 refine thenQ.n (W.seq ?_)
 refine W.seq (W.region ?_)
 refine SeqW.consX rfl (kLoadA rfl Try.underlying30 rfl Try.type30 rfl h1 X3.loads ?_)
 obtain ⟨y9, hy9, hr⟩ := bind_some hr
 refine SeqW.consX rfl (StepX.call (gCallee rfl rfl (args1 rfl)) ((c_consist_Valid (x0 := x0) (z := z) st.fz st.dead  hy9).mono ?_))
 rintro _ _ ⟨rfl, rfl⟩
 refine sx rfl (pAssign (v := (vI y9)) rfl rfl) ?_
 refine SeqW.done fun fr10 hf11 => ?_
 have h1 := (congrFun hf11 1).trans h1
 have h4 : fr10 4 = (vI y9) := (congrFun hf11 4).trans rfl
 clear hf11
 refine thenQ.n (W.seq (W.region ?_))
 refine sx rfl (pMove (v := (vI y9)) rfl h4) ?_
 refine sx rfl (pNeq (k := .i64) (a := y9) (b := 0) rfl rfl rfl) ?_
 refine SeqW.done fun fr12 hf13 => ?_
 have h1 := (congrFun hf13 1).trans h1
 have h4 := (congrFun hf13 4).trans h4
 have h8 : fr12 8 = (vB (y9 != 0)) := (congrFun hf13 8).trans rfl
 clear hf13
 refine thenQ.n ?_
 rcases if_some hr with ⟨hc14, hr⟩ | ⟨hc17, hr⟩
 ·refine W.condT h8 hc14 (W.seq (W.region ?_))
  refine sx rfl (pMove (v := (vI y9)) rfl h4) ?_
  refine sx rfl (pAssign (v := (Value.slice none 0 0)) rfl rfl) ?_
  refine sx rfl (pAssign (v := (vI y9)) rfl rfl) ?_
  refine SeqW.done fun fr15 hf16 => ?_
  have h2 : fr15 2 = (Value.slice none 0 0) := (congrFun hf16 2).trans rfl
  have h3 : fr15 3 = (vI y9) := (congrFun hf16 3).trans rfl
  clear hf16
  refine thenQ.n ?_
  refine W.ret ?_
  refine thenQ.r ?_
  obtain rfl := Option.some.inj hr
  exact ⟨z, hz, st, .inr rfl, (Value.slice none 0 0), h2, SlR.nil, h3, trivial⟩
 ·refine W.condF h8 hc17 (W.skip ?_)
  refine thenQ.n (W.seq (W.region ?_))
  refine SeqW.consX rfl (kLoadA rfl Try.underlying30 rfl Try.type30 rfl h1 X3.loads ?_)
  obtain ⟨y18, hy18, hr⟩ := bind_some hr
  refine SeqW.consX rfl (StepX.call (gCallee rfl rfl (args1 rfl)) ((c_wheel_offsets (x0 := x0) (z := z) st.fz st.dead  hy18).mono ?_))
  rintro V24 m23 ⟨z19, _, hzx20, fz21, sm22, rfl, Q25, -⟩
  have Q25 : OwF (TInt 3 .i64) z19 e m23 k y18 V24 := Q25.up st.next
  replace hz := hz.trans (Zx.here st hzx20)
  replace st := st.call hzx20 fz21 sm22 no_hq
  refine sx rfl (pAssign (v := V24) rfl rfl) ?_
  refine sx rfl (pAssign (v := (vI 0)) rfl rfl) ?_
  refine SeqW.done fun fr27 hf28 => ?_
  have h2 : fr27 2 = V24 := (congrFun hf28 2).trans rfl
  have h3 : fr27 3 = (vI 0) := (congrFun hf28 3).trans rfl
  clear hf28
  refine thenQ.n ?_
  refine W.ret ?_
  obtain ⟨z29, hz30, st, Q31, hl32⟩ := Q25.freeze st
  replace hz := hz.trans hz30
  obtain rfl := Option.some.inj hr
  exact ⟨z29, hz, st, .inr rfl, V24, h2, Q31, h3, trivial⟩

theorem c_wheel_Offsets {N : Nat} {z : Nat → Blk} {m : Mem} {x0 : Wagon} (fz : Fz z m) (hd : ∀ b, m.next ≤ b → m.blk b = .dead)  {r : List Int × Int} (hr : wheel_Offsets N x0 = some r) : CallW Try.prog 14 #[(Value.agg [(str x0.number), (vI x0.length), (vI x0.axles), (vI x0.mass), (vI x0.brake), (vI x0.goods), (vB x0.gentle), (str x0.dest)].toArray)] m fun v m' => ∃ z' w2, Zx m.next z z' ∧ Fz z' m' ∧ Same m m' none ∧ v = (Value.tuple [w2, (vI r.2)].toArray) ∧ SlR (TInt 3 .i64) z' r.1 w2 ∧ True := by
 refine CallW.any Try.func14 rfl (by kernel_rfl) (Nat.le_of_ble_eq_true rfl) (fun fr hf => ?_)
 have h0 : fr 0 = _ := hf 0 _ rfl
 refine (u_wheel_Offsets (k := none) (Zx.refl _) (St.start fz hd) h0 hr).mono ?_
 rintro ex fr' m' ⟨z', hz, st, he, w2, h2, s2, h3, -⟩
 exact ⟨he, [w2, (vI r.2)], ⟨h2.symm, h3.symm, trivial⟩, .inr (List.forall_mem_cons.2 ⟨s2.stor.1, List.forall_mem_cons.2 ⟨rfl, fun _ h => nomatch h⟩⟩), z', w2, hz, st.fz, st.toSame, rfl, s2, trivial⟩

/-! ### humpyard/humpgen.Ints -/

theorem u_gen_Ints_0 : ∀ (n : Nat) {N : Nat}  {z0 z : Nat → Blk} {e m : Mem} {k : Option Nat} {fr : Nat → Value} {x0 : List Int} {x1 : List Int} {x5 : Int} {v0 : Value} {v1 : Value} (hz : Zx e.next z0 z) (st : St z e m k) (h0 : fr 0 = v0) (s0 : SlR (TInt 3 .i64) z x0 v0) (h1 : fr 1 = v1) (s1 : SlR (TInt 3 .i64) z x1 v1) (h5 : fr 5 = (vI x5)) {r : Sum (Unit) (Bool)} (hr : gen_Ints_0 N x0 x1 n x5 = some r), W Try.prog (sub (bodyOf Try.f25) [1, 1, 0, 1, 0]) (fun ex fr' m' => ∃ z', Zx e.next z0 z' ∧ St z' e m' k ∧ ((∃ q, r = Sum.inl q ∧ ex = AExit.exit 0 ∧ True) ∨ (∃ q, r = Sum.inr q ∧ ex = AExit.ret ∧ fr' 4 = (vB q) ∧ True))) fr m := by
 intro n
 induction n with
 | zero => intro N z0 z e m k fr x0 x1 x5 v0 v1 hz st h0 s0 h1 s1 h5 r hr; cases (show (none : Option _) = some r from hr)
 | succ n ih =>
  intro N z0 z e m k fr x0 x1 x5 v0 v1 hz st h0 s0 h1 s1 h5 r hr
  unfold gen_Ints_0 at hr
  refine W.loop1 ?_
  refine W.seq (W.seq (W.region ?_))
  refine sx rfl (pMove (v := (vI x5)) rfl h5) ?_
  refine sx rfl (pMove (v := v0) rfl h0) ?_
  refine sx rfl (pLenR (xs := x0) rfl Try.underlying22 rfl s0) ?_
  refine sx rfl (pLss (k := .i64) (a := x5) (b := (x0.length : Int)) rfl rfl rfl) ?_
  refine SeqW.done fun fr11 hf12 => ?_
  have h0 := (congrFun hf12 0).trans h0
  have h1 := (congrFun hf12 1).trans h1
  have h5 := (congrFun hf12 5).trans h5
  have h14 : fr11 14 = (vB (decide (x5 < (x0.length : Int)))) := (congrFun hf12 14).trans rfl
  clear hf12
  refine thenQ.n ?_
  rcases if_some hr with ⟨hc13, hr⟩ | ⟨hc35, hr⟩
  ·refine W.condT h14 hc13 (W.skip ?_)
   refine thenQ.n (W.seq ?_)
   refine W.block ?_
   refine W.seq ?_
   refine W.calm (by decide) ?_
   refine sx rfl (pMove (v := v0) rfl h0) ?_
   refine sx rfl (pMove (v := (vI x5)) rfl h5) ?_
   obtain ⟨y14, hy14, hr⟩ := bind_some hr
   refine SeqW.consX rfl (kIdxR (T := (TInt 3 .i64)) (xs := x0) (n := x5) rfl Try.underlying22 Try.type3 rfl rfl rfl s0 hy14 ?_)
   intro B15 f16 cs17 hd18 hc19
   obtain rfl := hd18
   refine SeqW.consX rfl (kLoad (v := (vI y14)) rfl Try.underlying3 rfl rfl (ldz_load st.fz (hc19 0 _ rfl)) ?_)
   refine sx rfl (pMove (v := v1) rfl h1) ?_
   refine sx rfl (pMove (v := (vI x5)) rfl h5) ?_
   obtain ⟨y20, hy20, hr⟩ := bind_some hr
   refine SeqW.consX rfl (kIdxR (T := (TInt 3 .i64)) (xs := x1) (n := x5) rfl Try.underlying22 Try.type3 rfl rfl rfl s1 hy20 ?_)
   intro B21 f22 cs23 hd24 hc25
   obtain rfl := hd24
   refine SeqW.consX rfl (kLoad (v := (vI y20)) rfl Try.underlying3 rfl rfl (ldz_load st.fz (hc25 0 _ rfl)) ?_)
   refine sx rfl (pNeq (k := .i64) (a := y14) (b := y20) rfl rfl rfl) ?_
   refine SeqW.done fun fr26 hf27 => ?_
   have h0 := (congrFun hf27 0).trans h0
   have h1 := (congrFun hf27 1).trans h1
   have h5 := (congrFun hf27 5).trans h5
   have h25 : fr26 25 = (vB (y14 != y20)) := (congrFun hf27 25).trans rfl
   clear hf27
   refine thenQ.n ?_
   rcases if_some hr with ⟨hc28, hr⟩ | ⟨hc31, hr⟩
   ·refine W.condT h25 hc28 (W.seq (W.region ?_))
    refine sx rfl (pAssign (v := (vB false)) rfl rfl) ?_
    refine SeqW.done fun fr29 hf30 => ?_
    have h4 : fr29 4 = (vB false) := (congrFun hf30 4).trans rfl
    clear hf30
    refine thenQ.n ?_
    refine W.ret ?_
    refine blockQ.r ?_
    refine thenQ.r ?_
    refine thenQ.r ?_
    obtain rfl := Option.some.inj hr
    exact ⟨z, hz, st, .inr ⟨_, rfl, rfl, h4, trivial⟩⟩
   ·refine W.condF h25 hc31 (W.skip ?_)
    refine blockQ.n ?_
    refine thenQ.n (W.region ?_)
    refine sx rfl (pMove (v := (vI x5)) rfl h5) ?_
    refine sx rfl (pAdd (k := .i64) (a := x5) (b := 1) rfl rfl rfl) ?_
    obtain ⟨y32, hy32, hr⟩ := lt_some hr
    refine sx rfl (pAssign rfl (congrArg (Value.int .i64) hy32)) ?_
    refine SeqW.done fun fr33 hf34 => ?_
    have h0 := (congrFun hf34 0).trans h0
    have h1 := (congrFun hf34 1).trans h1
    have h5 : fr33 5 = (vI y32) := (congrFun hf34 5).trans rfl
    clear hf34
    refine thenQ.n ?_
    exact ih hz st h0 s0 h1 s1 h5 hr
  ·refine W.condF h14 hc35 ?_
   refine W.exit ?_
   refine thenQ.x ?_
   refine thenQ.x ?_
   obtain rfl := Option.some.inj hr
   exact ⟨z, hz, st, .inl ⟨_, rfl, rfl, trivial⟩⟩

theorem u_gen_Ints {N : Nat}  {z0 z : Nat → Blk} {e m : Mem} {k : Option Nat} {fr : Nat → Value} {x0 : List Int} {x1 : List Int} {v0 : Value} {v1 : Value} (hz : Zx e.next z0 z) (st : St z e m k) (h0 : fr 0 = v0) (s0 : SlR (TInt 3 .i64) z x0 v0) (h1 : fr 1 = v1) (s1 : SlR (TInt 3 .i64) z x1 v1) {r : Bool} (hr : gen_Ints N x0 x1 = some r) : W Try.prog (sub (bodyOf Try.f25) []) (fun ex fr' m' => ∃ z', Zx e.next z0 z' ∧ St z' e m' k ∧ (ex = .normal ∨ ex = .ret) ∧ fr' 4 = (vB r) ∧ True) fr m := by
 unfold gen_Ints at hr
 refine W.seq (W.region ?_)
 refine sx rfl (pAssign (v := (vB false)) rfl rfl) ?_
 refine SeqW.done fun fr1 hf2 => ?_
 have h0 := (congrFun hf2 0).trans h0
 have h1 := (congrFun hf2 1).trans h1
 clear hf2
 refine thenQ.n (W.seq ?_)
 refine W.seq (W.region ?_)
 refine sx rfl (pMove (v := v0) rfl h0) ?_
 refine sx rfl (pLenR (xs := x0) rfl Try.underlying22 rfl s0) ?_
 refine sx rfl (pMove (v := v1) rfl h1) ?_
 refine sx rfl (pLenR (xs := x1) rfl Try.underlying22 rfl s1) ?_
 refine sx rfl (pNeq (k := .i64) (a := (x0.length : Int)) (b := (x1.length : Int)) rfl rfl rfl) ?_
 refine SeqW.done fun fr3 hf4 => ?_
 have h0 := (congrFun hf4 0).trans h0
 have h1 := (congrFun hf4 1).trans h1
 have h10 : fr3 10 = (vB ((x0.length : Int) != (x1.length : Int))) := (congrFun hf4 10).trans rfl
 clear hf4
 refine thenQ.n ?_
 rcases if_some hr with ⟨hc5, hr⟩ | ⟨hc8, hr⟩
 ·refine W.condT h10 hc5 (W.seq (W.region ?_))
  refine sx rfl (pAssign (v := (vB false)) rfl rfl) ?_
  refine SeqW.done fun fr6 hf7 => ?_
  have h4 : fr6 4 = (vB false) := (congrFun hf7 4).trans rfl
  clear hf7
  refine thenQ.n ?_
  refine W.ret ?_
  refine thenQ.r ?_
  obtain rfl := Option.some.inj hr
  exact ⟨z, hz, st, .inr rfl, h4, trivial⟩
 ·refine W.condF h10 hc8 (W.skip ?_)
  refine thenQ.n (W.seq ?_)
  refine W.seq (W.region ?_)
  refine sx rfl (pAssign (v := (vI 0)) rfl rfl) ?_
  refine SeqW.done fun fr9 hf10 => ?_
  have h0 := (congrFun hf10 0).trans h0
  have h1 := (congrFun hf10 1).trans h1
  have h5 : fr9 5 = (vI 0) := (congrFun hf10 5).trans rfl
  clear hf10
  refine thenQ.n ?_
  refine W.block ?_
  obtain ⟨y36, hy36, hr⟩ := bind_some hr
  refine W.keep (u_gen_Ints_0 _ (Zx.refl _) st h0 s0 h1 s1 h5 hy36) ?_
  rintro ex42 fr37 m38 hk40 ⟨z39, hz41, st, ⟨y43, rfl, rfl, -⟩ | ⟨y46, rfl, rfl, h4, -⟩⟩
  ·dsimp only at hr
   replace hz := hz.trans hz41
   clear hk40
   refine blockQ.hit ?_
   refine thenQ.n (W.seq (W.region ?_))
   refine sx rfl (pAssign (v := (vB true)) rfl rfl) ?_
   refine SeqW.done fun fr44 hf45 => ?_
   have h4 : fr44 4 = (vB true) := (congrFun hf45 4).trans rfl
   clear hf45
   refine thenQ.n ?_
   refine W.ret ?_
   obtain rfl := Option.some.inj hr
   exact ⟨z39, hz, st, .inr rfl, h4, trivial⟩
  ·dsimp only at hr
   replace hz := hz.trans hz41
   clear hk40
   refine blockQ.r ?_
   refine thenQ.r ?_
   obtain rfl := Option.some.inj hr
   exact ⟨z39, hz, st, .inr rfl, h4, trivial⟩

theorem c_gen_Ints {N : Nat} {z : Nat → Blk} {m : Mem} {x0 : List Int} {x1 : List Int} {v0 : Value} {v1 : Value} (fz : Fz z m) (hd : ∀ b, m.next ≤ b → m.blk b = .dead) (s0 : SlR (TInt 3 .i64) z x0 v0) (s1 : SlR (TInt 3 .i64) z x1 v1) {r : Bool} (hr : gen_Ints N x0 x1 = some r) : CallW Try.prog 25 #[v0, v1] m fun v m' => v = (vB r) ∧ m' = m := by
 refine CallW.flat Try.func25 rfl (by kernel_rfl) (Nat.le_of_ble_eq_true rfl) rfl (z := z) (fun fr hf => ?_)
 have h0 : fr 0 = _ := hf 0 _ rfl
 have h1 : fr 1 = _ := hf 1 _ rfl
 refine (u_gen_Ints (k := none) (Zx.refl _) (St.start fz hd) h0 s0 h1 s1 hr).mono ?_
 rintro ex fr' m' ⟨z', hz, st, he, h4, -⟩
 exact ⟨he, z', st, [(vB r)], ⟨h4.symm, trivial⟩, .inl rfl, rfl⟩

/-! ### humpyard/humpyardlaw07.sane -/

theorem u_l07_sane_0 {N : Nat}  {z0 z : Nat → Blk} {e m : Mem} {k : Option Nat} {fr : Nat → Value} {x1 : List Int} {x2 : Int} {x3 : List Int} {x4 : Int} {x5 : Int} {x8 : Int} {v1 : Value} {v3 : Value} (hz : Zx e.next z0 z) (st : St z e m k) (h1 : fr 1 = v1) (s1 : SlR (TInt 3 .i64) z x1 v1) (h2 : fr 2 = (vI x2)) (h3 : fr 3 = v3) (s3 : SlR (TInt 3 .i64) z x3 v3) (h4 : fr 4 = (vI x4)) (h5 : fr 5 = (vI x5)) (h8 : fr 8 = (vI x8)) {r : Bool} (hr : l07_sane_0 N x1 x2 x3 x4 x5 x8 = some r) : W Try.prog (sub (bodyOf Try.f11) [1, 1, 1, 1, 0]) (fun ex fr' m' => ∃ z', Zx e.next z0 z' ∧ St z' e m' k ∧ ex = AExit.normal ∧ fr' 0 = (vB r) ∧ True) fr m := by
 unfold l07_sane_0 at hr
 refine W.region ?_
 refine sx rfl (pMove (v := (vI x2)) rfl h2) ?_
 refine sx rfl (pEql (k := .i64) (a := x2) (b := 0) rfl rfl rfl) ?_
 refine sx rfl (pMove (v := (vB (x2 == 0))) rfl rfl) ?_
 rcases if_some hr with ⟨hc112, hr⟩ | ⟨hc159, hr⟩
 ·refine SeqW.consG rfl rfl rfl hc112 (StepX.pure (pMove (v := v1) rfl h1) ?_)
  refine SeqW.consG rfl rfl rfl hc112 (kBuild (T := (TInt 3 .i64)) rfl Try.underlying22 Try.type3 rfl rfl rfl rfl ([250, 750] : List Int) [[(vI 250)], [(vI 750)]] rfl rfl rfl (BuildOk.mk (w := (vI 250)) rfl rfl rfl rfl (BuildOk.mk (w := (vI 750)) rfl rfl rfl rfl trivial)) st ?_)
  intro V113 m114 st O115 sm116 hap117
  obtain ⟨z119, hz120, st123, Q121, hl122⟩ := O115.freeze st
  have Q124 := s1.mono hz120.le
  have Q125 := s3.mono hz120.le
  obtain ⟨y126, hy126, hr⟩ := bind_some hr
  refine SeqW.consG rfl rfl rfl hc112 (StepX.call (gCallee rfl rfl (args2 rfl rfl)) ((c_gen_Ints (z := z119) st123.fz st.dead Q124 Q121 hy126).mono ?_))
  rintro _ _ ⟨rfl, rfl⟩
  refine sx rfl (pPick (t := true) (v := (vB y126)) rfl ((congrArg vB hc112)) rfl) ?_
  refine sx rfl (pMove (v := (vB y126)) rfl rfl) ?_
  rcases if_some hr with ⟨hc127, hr⟩ | ⟨hc156, hr⟩
  ·refine SeqW.consG rfl rfl rfl hc127 (StepX.pure (pMove (v := (vI x5)) rfl h5) ?_)
   refine SeqW.consG rfl rfl rfl hc127 (StepX.pure (pEql (k := .i64) (a := x5) (b := 0) rfl rfl rfl) ?_)
   refine sx rfl (pPick (t := true) (v := (vB (x5 == 0))) rfl ((congrArg vB hc127)) rfl) ?_
   refine sx rfl (pMove (v := (vB (x5 == 0))) rfl rfl) ?_
   rcases if_some hr with ⟨hc128, hr⟩ | ⟨hc153, hr⟩
   ·refine SeqW.consG rfl rfl rfl hc128 (StepX.pure (pMove (v := v3) rfl h3) ?_)
    refine SeqW.consG rfl rfl rfl hc128 (kBuild (T := (TInt 3 .i64)) rfl Try.underlying22 Try.type3 rfl rfl rfl rfl ([0, 0] : List Int) [[(vI 0)], [(vI 0)]] rfl rfl rfl (BuildOk.mk (w := (vI 0)) rfl rfl rfl rfl (BuildOk.mk (w := (vI 0)) rfl rfl rfl rfl trivial)) st ?_)
    intro V129 m130 st O131 sm132 hap133
    obtain ⟨z135, hz136, st139, Q137, hl138⟩ := O131.freeze st
    have Q140 := s3.mono hz136.le
    obtain ⟨y141, hy141, hr⟩ := bind_some hr
    refine SeqW.consG rfl rfl rfl hc128 (StepX.call (gCallee rfl rfl (args2 rfl rfl)) ((c_gen_Ints (z := z135) st139.fz st.dead Q140 Q137 hy141).mono ?_))
    rintro _ _ ⟨rfl, rfl⟩
    refine sx rfl (pPick (t := true) (v := (vB y141)) rfl ((congrArg vB hc128)) rfl) ?_
    refine sx rfl (pMove (v := (vB y141)) rfl rfl) ?_
    rcases if_some hr with ⟨hc142, hr⟩ | ⟨hc150, hr⟩
    ·refine SeqW.consG rfl rfl rfl hc142 (StepX.pure (pMove (v := (vI x4)) rfl h4) ?_)
     refine SeqW.consG rfl rfl rfl hc142 (StepX.pure (pEql (k := .i64) (a := x4) (b := 0) rfl rfl rfl) ?_)
     refine sx rfl (pPick (t := true) (v := (vB (x4 == 0))) rfl ((congrArg vB hc142)) rfl) ?_
     refine sx rfl (pMove (v := (vB (x4 == 0))) rfl rfl) ?_
     rcases if_some hr with ⟨hc143, hr⟩ | ⟨hc147, hr⟩
     ·refine SeqW.consG rfl rfl rfl hc143 (StepX.pure (pMove (v := (vI x8)) rfl h8) ?_)
      refine SeqW.consG rfl rfl rfl hc143 (StepX.pure (pEql (k := .i64) (a := x8) (b := 15) rfl rfl rfl) ?_)
      refine sx rfl (pPick (t := true) (v := (vB (x8 == 15))) rfl ((congrArg vB hc143)) rfl) ?_
      obtain ⟨y144, hy144, hr⟩ := lt_some hr
      refine sx rfl (pAssign rfl (congrArg vB hy144)) ?_
      refine SeqW.done fun fr145 hf146 => ?_
      have h0 : fr145 0 = (vB y144) := (congrFun hf146 0).trans rfl
      clear hf146
      obtain rfl := Option.some.inj hr
      exact ⟨z, hz, st, rfl, h0, trivial⟩
     ·refine kx rfl rfl rfl hc147 ?_
      refine kx rfl rfl rfl hc147 ?_
      refine sx rfl (pPick (t := false) (v := (vB false)) rfl ((congrArg vB hc147)) rfl) ?_
      refine sx rfl (pAssign (v := (vB false)) rfl rfl) ?_
      refine SeqW.done fun fr148 hf149 => ?_
      have h0 : fr148 0 = (vB false) := (congrFun hf149 0).trans rfl
      clear hf149
      obtain rfl := Option.some.inj hr
      exact ⟨z, hz, st, rfl, h0, trivial⟩
    ·refine kx rfl rfl rfl hc150 ?_
     refine kx rfl rfl rfl hc150 ?_
     refine sx rfl (pPick (t := false) (v := (vB false)) rfl ((congrArg vB hc150)) rfl) ?_
     refine sx rfl (pMove (v := (vB false)) rfl rfl) ?_
     iterate 2 refine kx rfl rfl rfl rfl ?_
     refine sx rfl (pPick (t := false) (v := (vB false)) rfl ((congrArg vB (rfl : false = false))) rfl) ?_
     refine sx rfl (pAssign (v := (vB false)) rfl rfl) ?_
     refine SeqW.done fun fr151 hf152 => ?_
     have h0 : fr151 0 = (vB false) := (congrFun hf152 0).trans rfl
     clear hf152
     obtain rfl := Option.some.inj hr
     exact ⟨z, hz, st, rfl, h0, trivial⟩
   ·refine kx rfl rfl rfl hc153 ?_
    iterate 2 refine kx rfl rfl rfl hc153 ?_
    refine sx rfl (pPick (t := false) (v := (vB false)) rfl ((congrArg vB hc153)) rfl) ?_
    refine sx rfl (pMove (v := (vB false)) rfl rfl) ?_
    iterate 2 refine kx rfl rfl rfl rfl ?_
    refine sx rfl (pPick (t := false) (v := (vB false)) rfl ((congrArg vB (rfl : false = false))) rfl) ?_
    refine sx rfl (pMove (v := (vB false)) rfl rfl) ?_
    iterate 2 refine kx rfl rfl rfl rfl ?_
    refine sx rfl (pPick (t := false) (v := (vB false)) rfl ((congrArg vB (rfl : false = false))) rfl) ?_
    refine sx rfl (pAssign (v := (vB false)) rfl rfl) ?_
    refine SeqW.done fun fr154 hf155 => ?_
    have h0 : fr154 0 = (vB false) := (congrFun hf155 0).trans rfl
    clear hf155
    obtain rfl := Option.some.inj hr
    exact ⟨z, hz, st, rfl, h0, trivial⟩
  ·refine kx rfl rfl rfl hc156 ?_
   refine kx rfl rfl rfl hc156 ?_
   refine sx rfl (pPick (t := false) (v := (vB false)) rfl ((congrArg vB hc156)) rfl) ?_
   refine sx rfl (pMove (v := (vB false)) rfl rfl) ?_
   iterate 3 refine kx rfl rfl rfl rfl ?_
   refine sx rfl (pPick (t := false) (v := (vB false)) rfl ((congrArg vB (rfl : false = false))) rfl) ?_
   refine sx rfl (pMove (v := (vB false)) rfl rfl) ?_
   iterate 2 refine kx rfl rfl rfl rfl ?_
   refine sx rfl (pPick (t := false) (v := (vB false)) rfl ((congrArg vB (rfl : false = false))) rfl) ?_
   refine sx rfl (pMove (v := (vB false)) rfl rfl) ?_
   iterate 2 refine kx rfl rfl rfl rfl ?_
   refine sx rfl (pPick (t := false) (v := (vB false)) rfl ((congrArg vB (rfl : false = false))) rfl) ?_
   refine sx rfl (pAssign (v := (vB false)) rfl rfl) ?_
   refine SeqW.done fun fr157 hf158 => ?_
   have h0 : fr157 0 = (vB false) := (congrFun hf158 0).trans rfl
   clear hf158
   obtain rfl := Option.some.inj hr
   exact ⟨z, hz, st, rfl, h0, trivial⟩
 ·refine kx rfl rfl rfl hc159 ?_
  iterate 2 refine kx rfl rfl rfl hc159 ?_
  refine sx rfl (pPick (t := false) (v := (vB false)) rfl ((congrArg vB hc159)) rfl) ?_
  refine sx rfl (pMove (v := (vB false)) rfl rfl) ?_
  iterate 2 refine kx rfl rfl rfl rfl ?_
  refine sx rfl (pPick (t := false) (v := (vB false)) rfl ((congrArg vB (rfl : false = false))) rfl) ?_
  refine sx rfl (pMove (v := (vB false)) rfl rfl) ?_
  iterate 3 refine kx rfl rfl rfl rfl ?_
  refine sx rfl (pPick (t := false) (v := (vB false)) rfl ((congrArg vB (rfl : false = false))) rfl) ?_
  refine sx rfl (pMove (v := (vB false)) rfl rfl) ?_
  iterate 2 refine kx rfl rfl rfl rfl ?_
  refine sx rfl (pPick (t := false) (v := (vB false)) rfl ((congrArg vB (rfl : false = false))) rfl) ?_
  refine sx rfl (pMove (v := (vB false)) rfl rfl) ?_
  iterate 2 refine kx rfl rfl rfl rfl ?_
  refine sx rfl (pPick (t := false) (v := (vB false)) rfl ((congrArg vB (rfl : false = false))) rfl) ?_
  refine sx rfl (pAssign (v := (vB false)) rfl rfl) ?_
  refine SeqW.done fun fr160 hf161 => ?_
  have h0 : fr160 0 = (vB false) := (congrFun hf161 0).trans rfl
  clear hf161
  obtain rfl := Option.some.inj hr
  exact ⟨z, hz, st, rfl, h0, trivial⟩

theorem u_l07_sane {N : Nat}  {z0 z : Nat → Blk} {e m : Mem} {k : Option Nat} {fr : Nat → Value} (hz : Zx e.next z0 z) (st : St z e m k)  {r : Bool} (hr : l07_sane N  = some r) : W Try.prog (sub (bodyOf Try.f11) []) (fun ex fr' m' => ∃ z', Zx e.next z0 z' ∧ St z' e m' k ∧ (ex = .normal ∨ ex = .ret) ∧ fr' 0 = (vB r) ∧ True) fr m := by
 unfold l07_sane at hr
 refine W.seq (W.region ?_)
 refine sx rfl (pAssign (v := (vB false)) rfl rfl) ?_
 refine SeqW.done fun fr1 hf2 => ?_
 clear hf2
 refine thenQ.n (W.seq (W.region ?_))
 refine SeqW.consX rfl (kBuildS [(0, (str [51, 49, 56, 48, 50, 55, 55, 51, 49, 50, 51, 55])), (1, (vI 100)), (2, (vI 2)), (3, (vI 100)), (7, (str [97]))] [(str [51, 49, 56, 48, 50, 55, 55, 51, 49, 50, 51, 55]), (vI 100), (vI 2), (vI 100), (vI 0), (vI 0), (vB false), (str [97])] rfl Try.underlying30 Try.type30 rfl rfl (places30 Try.underlying30) rfl (rfl) rfl ?_)
 obtain ⟨y3, hy3, hr⟩ := bind_some hr
 refine SeqW.consX rfl (StepX.call (gCallee rfl rfl (args1 rfl)) ((c_wheel_Offsets (x0 := (Wagon.mk ([51, 49, 56, 48, 50, 55, 55, 51, 49, 50, 51, 55]) 100 2 100 0 0 false ([97]))) (z := z) st.fz st.dead  hy3).mono ?_))
 rintro _ m8 ⟨z4, V9, hzx5, fz6, sm7, rfl, Q10, -⟩
 replace hz := hz.trans (Zx.here st hzx5)
 replace st := st.call hzx5 fz6 sm7 no_hq
 refine sx rfl (pMove (v := (Value.tuple [V9, (vI y3.2)].toArray)) rfl rfl) ?_
 refine sx rfl (pExtract (vs := [V9, (vI y3.2)]) (v := V9) rfl rfl rfl) ?_
 refine sx rfl (pExtract (vs := [V9, (vI y3.2)]) (v := (vI y3.2)) rfl rfl rfl) ?_
 refine sx rfl (pAssign (v := V9) rfl rfl) ?_
 refine sx rfl (pAssign (v := (vI y3.2)) rfl rfl) ?_
 refine SeqW.done fun fr12 hf13 => ?_
 have h1 : fr12 1 = V9 := (congrFun hf13 1).trans rfl
 have h2 : fr12 2 = (vI y3.2) := (congrFun hf13 2).trans rfl
 clear hf13
 refine thenQ.n (W.seq (W.region ?_))
 refine SeqW.consX rfl (kBuild (T := (TInt 3 .i64)) rfl Try.underlying22 Try.type3 rfl rfl rfl rfl ([180, 900, 180] : List Int) [[(vI 180)], [(vI 900)], [(vI 180)]] rfl rfl rfl (BuildOk.mk (w := (vI 180)) rfl rfl rfl rfl (BuildOk.mk (w := (vI 900)) rfl rfl rfl rfl (BuildOk.mk (w := (vI 180)) rfl rfl rfl rfl trivial))) st ?_)
 intro V14 m15 st O16 sm17 hap18
 refine SeqW.consX rfl (kBuild (T := (TInt 3 .i64)) rfl Try.underlying22 Try.type3 rfl rfl rfl rfl ([180] : List Int) [[(vI 180)]] rfl rfl rfl (BuildOk.mk (w := (vI 180)) rfl rfl rfl rfl trivial) st ?_)
 intro V20 m21 st O22 sm23 hap24
 have A26 := hap24 _ O16.lt
 replace O16 := O16.same sm23 Ap.none'
 refine SeqW.consX rfl (kBuild (T := (TInt 3 .i64)) rfl Try.underlying22 Try.type3 rfl rfl rfl rfl ([180, 900, 180] : List Int) [[(vI 180)], [(vI 900)], [(vI 180)]] rfl rfl rfl (BuildOk.mk (w := (vI 180)) rfl rfl rfl rfl (BuildOk.mk (w := (vI 900)) rfl rfl rfl rfl (BuildOk.mk (w := (vI 180)) rfl rfl rfl rfl trivial))) st ?_)
 intro V27 m28 st O29 sm30 hap31
 have A33 := hap31 _ O16.lt
 have A34 := hap31 _ O22.lt
 replace O16 := O16.same sm30 Ap.none'
 replace O22 := O22.same sm30 Ap.none'
 obtain ⟨z35, hz36, st, Q37, hl38⟩ := O22.freeze st
 replace Q10 := Q10.mono hz36.le
 replace O16 := O16.zle hz36.le (hl38 _ A26)
 replace O29 := O29.zle hz36.le (hl38 _ (Ap.symm A34))
 replace hz := hz.trans hz36
 obtain ⟨z39, hz40, st, Q41, hl42⟩ := O29.freeze st
 replace Q10 := Q10.mono hz40.le
 replace O16 := O16.zle hz40.le (hl42 _ A33)
 replace Q37 := Q37.mono hz40.le
 replace hz := hz.trans hz40
 refine SeqW.consX rfl (kBuild (T := (TSl 22 (TInt 3 .i64))) rfl Try.underlying23 Try.type22 rfl rfl rfl rfl ([([180] : List Int), ([180, 900, 180] : List Int)] : List (List Int)) [[V20], [V27]] rfl rfl rfl (BuildOk.mk (w := V20) rfl Q37.stor.1 Q37.stor.2 ⟨_, rfl, Q37⟩ (BuildOk.mk (w := V27) rfl Q41.stor.1 Q41.stor.2 ⟨_, rfl, Q41⟩ trivial)) st ?_)
 intro V43 m44 st O45 sm46 hap47
 have A49 := hap47 _ O16.lt
 replace O16 := O16.same sm46 Ap.none'
 obtain ⟨z50, hz51, st, Q52, hl53⟩ := O16.freeze st
 replace Q10 := Q10.mono hz51.le
 replace O45 := O45.zle hz51.le (hl53 _ (Ap.symm A49))
 replace hz := hz.trans hz51
 obtain ⟨z54, hz55, st, Q56, hl57⟩ := O45.freeze st
 replace Q10 := Q10.mono hz55.le
 replace Q52 := Q52.mono hz55.le
 replace hz := hz.trans hz55
 obtain ⟨y58, hy58, hr⟩ := bind_some hr
 refine SeqW.consX rfl (StepX.call (gCallee rfl rfl (args3 rfl rfl rfl)) ((c_wheel_Recognize (z := z54) st.fz st.dead Q52 Q56 hy58).mono ?_))
 rintro _ m63 ⟨z59, V64, hzx60, fz61, sm62, rfl, Q65, -⟩
 replace Q10 := Q10.mono hzx60.le
 replace Q52 := Q52.mono hzx60.le
 replace Q56 := Q56.mono hzx60.le
 replace hz := hz.trans (Zx.here st hzx60)
 replace st := st.call hzx60 fz61 sm62 no_hq
 refine sx rfl (pMove (v := (Value.tuple [V64, (vI y58.2.1), (vI y58.2.2)].toArray)) rfl rfl) ?_
 refine sx rfl (pExtract (vs := [V64, (vI y58.2.1), (vI y58.2.2)]) (v := V64) rfl rfl rfl) ?_
 refine sx rfl (pExtract (vs := [V64, (vI y58.2.1), (vI y58.2.2)]) (v := (vI y58.2.1)) rfl rfl rfl) ?_
 refine sx rfl (pExtract (vs := [V64, (vI y58.2.1), (vI y58.2.2)]) (v := (vI y58.2.2)) rfl rfl rfl) ?_
 refine sx rfl (pAssign (v := V64) rfl rfl) ?_
 refine sx rfl (pAssign (v := (vI y58.2.1)) rfl rfl) ?_
 refine sx rfl (pAssign (v := (vI y58.2.2)) rfl rfl) ?_
 refine SeqW.done fun fr67 hf68 => ?_
 have h1 := (congrFun hf68 1).trans h1
 have h2 := (congrFun hf68 2).trans h2
 have h3 : fr67 3 = V64 := (congrFun hf68 3).trans rfl
 have h4 : fr67 4 = (vI y58.2.1) := (congrFun hf68 4).trans rfl
 have h5 : fr67 5 = (vI y58.2.2) := (congrFun hf68 5).trans rfl
 clear hf68
 refine thenQ.n (W.seq (W.region ?_))
 refine SeqW.consX rfl (kBuild (T := (TInt 3 .i64)) rfl Try.underlying22 Try.type3 rfl rfl rfl rfl ([181] : List Int) [[(vI 181)]] rfl rfl rfl (BuildOk.mk (w := (vI 181)) rfl rfl rfl rfl trivial) st ?_)
 intro V69 m70 st O71 sm72 hap73
 refine SeqW.consX rfl (kBuild (T := (TInt 3 .i64)) rfl Try.underlying22 Try.type3 rfl rfl rfl rfl ([180] : List Int) [[(vI 180)]] rfl rfl rfl (BuildOk.mk (w := (vI 180)) rfl rfl rfl rfl trivial) st ?_)
 intro V75 m76 st O77 sm78 hap79
 have A81 := hap79 _ O71.lt
 replace O71 := O71.same sm78 Ap.none'
 obtain ⟨z82, hz83, st, Q84, hl85⟩ := O77.freeze st
 replace Q10 := Q10.mono hz83.le
 replace Q65 := Q65.mono hz83.le
 replace O71 := O71.zle hz83.le (hl85 _ A81)
 replace hz := hz.trans hz83
 refine SeqW.consX rfl (kBuild (T := (TSl 22 (TInt 3 .i64))) rfl Try.underlying23 Try.type22 rfl rfl rfl rfl ([([180] : List Int)] : List (List Int)) [[V75]] rfl rfl rfl (BuildOk.mk (w := V75) rfl Q84.stor.1 Q84.stor.2 ⟨_, rfl, Q84⟩ trivial) st ?_)
 intro V86 m87 st O88 sm89 hap90
 have A92 := hap90 _ O71.lt
 replace O71 := O71.same sm89 Ap.none'
 obtain ⟨z93, hz94, st, Q95, hl96⟩ := O71.freeze st
 replace Q10 := Q10.mono hz94.le
 replace Q65 := Q65.mono hz94.le
 replace O88 := O88.zle hz94.le (hl96 _ (Ap.symm A92))
 replace hz := hz.trans hz94
 obtain ⟨z97, hz98, st, Q99, hl100⟩ := O88.freeze st
 replace Q10 := Q10.mono hz98.le
 replace Q65 := Q65.mono hz98.le
 replace Q95 := Q95.mono hz98.le
 replace hz := hz.trans hz98
 obtain ⟨y101, hy101, hr⟩ := bind_some hr
 refine SeqW.consX rfl (StepX.call (gCallee rfl rfl (args3 rfl rfl rfl)) ((c_wheel_Recognize (z := z97) st.fz st.dead Q95 Q99 hy101).mono ?_))
 rintro _ m106 ⟨z102, V107, hzx103, fz104, sm105, rfl, Q108, -⟩
 replace Q10 := Q10.mono hzx103.le
 replace Q65 := Q65.mono hzx103.le
 replace Q95 := Q95.mono hzx103.le
 replace Q99 := Q99.mono hzx103.le
 replace hz := hz.trans (Zx.here st hzx103)
 replace st := st.call hzx103 fz104 sm105 no_hq
 refine sx rfl (pMove (v := (Value.tuple [V107, (vI y101.2.1), (vI y101.2.2)].toArray)) rfl rfl) ?_
 refine sx rfl (pExtract (vs := [V107, (vI y101.2.1), (vI y101.2.2)]) (v := V107) rfl rfl rfl) ?_
 refine sx rfl (pExtract (vs := [V107, (vI y101.2.1), (vI y101.2.2)]) (v := (vI y101.2.1)) rfl rfl rfl) ?_
 refine sx rfl (pExtract (vs := [V107, (vI y101.2.1), (vI y101.2.2)]) (v := (vI y101.2.2)) rfl rfl rfl) ?_
 refine sx rfl (pAssign (v := V107) rfl rfl) ?_
 refine sx rfl (pAssign (v := (vI y101.2.1)) rfl rfl) ?_
 refine sx rfl (pAssign (v := (vI y101.2.2)) rfl rfl) ?_
 refine SeqW.done fun fr110 hf111 => ?_
 have h1 := (congrFun hf111 1).trans h1
 have h2 := (congrFun hf111 2).trans h2
 have h3 := (congrFun hf111 3).trans h3
 have h4 := (congrFun hf111 4).trans h4
 have h5 := (congrFun hf111 5).trans h5
 have h8 : fr110 8 = (vI y101.2.2) := (congrFun hf111 8).trans rfl
 clear hf111
 refine thenQ.n (W.seq ?_)
 obtain ⟨y162, hy162, hr⟩ := bind_some hr
 refine W.keep (u_l07_sane_0 (Zx.refl _) st h1 Q10 h2 h3 Q65 h4 h5 h8 hy162) ?_
 rintro ex168 fr163 m164 hk166 ⟨z165, hz167, st, rfl, h0, -⟩
 replace hz := hz.trans hz167
 clear hk166
 refine thenQ.n ?_
 refine W.ret ?_
 obtain rfl := Option.some.inj hr
 exact ⟨z165, hz, st, .inr rfl, h0, trivial⟩

theorem c_l07_sane {N : Nat} {z : Nat → Blk} {m : Mem} (fz : Fz z m) (hd : ∀ b, m.next ≤ b → m.blk b = .dead)  {r : Bool} (hr : l07_sane N  = some r) : CallW Try.prog 11 #[] m fun v m' => v = (vB r) ∧ m' = m := by
 refine CallW.flat Try.func11 rfl (by kernel_rfl) (Nat.le_of_ble_eq_true rfl) rfl (z := z) (fun fr hf => ?_)
 refine (u_l07_sane (k := none) (Zx.refl _) (St.start fz hd)  hr).mono ?_
 rintro ex fr' m' ⟨z', hz, st, he, h0, -⟩
 exact ⟨he, z', st, [(vB r)], ⟨h0.symm, trivial⟩, .inl rfl, rfl⟩

/-! ### humpyard/humpgen.New -/

theorem u_gen_New {N : Nat}  {z0 z : Nat → Blk} {e m : Mem} {k : Option Nat} {fr : Nat → Value} {x0 : List Int} {v0 : Value} (hz : Zx e.next z0 z) (st : St z e m k) (h0 : fr 0 = v0) (s0 : SlR (TInt 3 .i64) z x0 v0) {r : Maker} (hr : gen_New N x0 = some r) : W Try.prog (sub (bodyOf Try.f12) []) (fun ex fr' m' => ∃ z', Zx e.next z0 z' ∧ St z' e m' k ∧ (ex = .normal ∨ ex = .ret) ∧ ∃ (c2 : Nat) (w2_0 : Value), fr' 2 = (vP c2) ∧ SlR (TInt 3 .i64) z' r.l w2_0 ∧ Bx z' e m' k c2 [w2_0, (vI r.n)] 56 ∧ (e.next ≤ c2 ∨ k = some c2) ∧ True) fr m := by
 unfold gen_New at hr
 refine W.seq (W.region ?_)
 refine sx rfl (pAssign (v := (Value.pointer none)) rfl rfl) ?_
 refine SeqW.done fun fr1 hf2 => ?_
 have h0 := (congrFun hf2 0).trans h0
 clear hf2
 refine thenQ.n (W.seq (W.region ?_))
 refine sx rfl (pMove (v := v0) rfl h0) ?_
 obtain ⟨A3, c4, eA3⟩ := s0.len
 subst eA3
 refine SeqW.consX rfl (kBuildS [(0, (Value.slice A3 (x0).length c4))] [(Value.slice A3 (x0).length c4), (vI 0)] rfl Try.underlying56 Try.type56 rfl rfl (places56 Try.underlying56) rfl (rfl) rfl ?_)
 refine SeqW.consX rfl (kBox (v := (Value.agg [(Value.slice A3 (x0).length c4), (vI 0)].toArray)) rfl Try.type56 rfl rfl [(Value.slice A3 (x0).length c4), (vI 0)] rfl rfl st ?_)
 intro B5 m6 st X7 sm8 hap9
 refine sx rfl (pAssign (v := (vP B5)) rfl rfl) ?_
 refine SeqW.done fun fr11 hf12 => ?_
 have h2 : fr11 2 = (vP B5) := (congrFun hf12 2).trans rfl
 clear hf12
 refine thenQ.n ?_
 refine W.ret ?_
 obtain rfl := Option.some.inj hr
 exact ⟨z, hz, st, .inr rfl, B5, (Value.slice A3 (x0).length c4), h2, s0, X7, X7.fresh, trivial⟩

theorem c_gen_New {N : Nat} {z : Nat → Blk} {m : Mem} {x0 : List Int} {v0 : Value} (fz : Fz z m) (hd : ∀ b, m.next ≤ b → m.blk b = .dead) (s0 : SlR (TInt 3 .i64) z x0 v0) {r : Maker} (hr : gen_New N x0 = some r) : CallW Try.prog 12 #[v0] m fun v m' => ∃ z' c2 w2_0, Zx m.next z z' ∧ Fz z' m' ∧ Same m m' none ∧ v = (vP c2) ∧ SlR (TInt 3 .i64) z' r.l w2_0 ∧ Bx z' m m' none c2 [w2_0, (vI r.n)] 56 ∧ m.next ≤ c2 ∧ True := by
 refine CallW.any Try.func12 rfl (by kernel_rfl) (Nat.le_of_ble_eq_true rfl) (fun fr hf => ?_)
 have h0 : fr 0 = _ := hf 0 _ rfl
 refine (u_gen_New (k := none) (Zx.refl _) (St.start fz hd) h0 s0 hr).mono ?_
 rintro ex fr' m' ⟨z', hz, st, he, c2, w2_0, h2, s2_0, bx2, fx2, -⟩
 exact ⟨he, [(vP c2)], ⟨h2.symm, trivial⟩, .inl rfl, z', c2, w2_0, hz, st.fz, st.toSame, rfl, s2_0, bx2, (fx2.resolve_right (by simp)), trivial⟩

/-! ### (*humpyard/humpgen.Maker).Next -/

theorem u_Maker_Next_0 {N : Nat}  {z0 z : Nat → Blk} {e m : Mem} {k : Option Nat} {fr : Nat → Value} {x0 : Maker} {x5 : Int} {x11 : Bool} {v0_0 : Value} {b0 : Nat} (hz : Zx e.next z0 z) (st : St z e m k) (h0 : fr 0 = (vP b0)) (s0_0 : SlR (TInt 3 .i64) z x0.l v0_0) (bx0 : Bx z e m k b0 [v0_0, (vI x0.n)] 56) (h5 : fr 5 = (vI x5)) (h11 : fr 11 = (vB x11)) {r : Int} (hr : Maker_Next_0 N x0 x5 x11 = some r) : W Try.prog (sub (bodyOf Try.f15) [1, 1, 0, 1]) (fun ex fr' m' => ∃ z', Zx e.next z0 z' ∧ St z' e m' k ∧ ex = AExit.normal ∧ fr' 5 = (vI r) ∧ Bx z' e m' k b0 [v0_0, (vI x0.n)] 56 ∧ True) fr m := by
 unfold Maker_Next_0 at hr
 rcases if_some hr with ⟨hc7, hr⟩ | ⟨hc19, hr⟩
 ·refine W.condT h11 hc7 ?_
  refine W.calm (by decide) ?_
  refine sx rfl (pMove (v := (vP b0)) rfl h0) ?_
  refine sx rfl (PureR.nilCheck _ _ rfl rfl) ?_
  refine SeqW.consX rfl (kField rfl Try.underlying56 rfl Try.type22 rfl rfl rfl ?_)
  refine SeqW.consX rfl (kLoad rfl Try.underlying22 rfl rfl (bx0.load (v := v0_0) rfl) ?_)
  refine sx rfl (pMove (v := (vP b0)) rfl h0) ?_
  refine sx rfl (PureR.nilCheck _ _ rfl rfl) ?_
  refine SeqW.consX rfl (kField rfl Try.underlying56 rfl Try.type3 rfl rfl rfl ?_)
  refine SeqW.consX rfl (kLoad rfl Try.underlying3 rfl rfl (bx0.load (v := (vI x0.n)) rfl) ?_)
  refine sx rfl (pMove (v := (vP b0)) rfl h0) ?_
  refine sx rfl (PureR.nilCheck _ _ rfl rfl) ?_
  refine SeqW.consX rfl (kField rfl Try.underlying56 rfl Try.type22 rfl rfl rfl ?_)
  refine SeqW.consX rfl (kLoad rfl Try.underlying22 rfl rfl (bx0.load (v := v0_0) rfl) ?_)
  refine sx rfl (pLenR (xs := x0.l) rfl Try.underlying22 rfl s0_0) ?_
  obtain ⟨y8, hy8, hr⟩ := bind_some hr
  refine SeqW.consX rfl (kRem (k1 := .i64) (a := x0.n) (b := (x0.l.length : Int)) rfl rfl rfl hy8 ?_)
  obtain ⟨y9, hy9, hr⟩ := bind_some hr
  refine SeqW.consX rfl (kIdxR (T := (TInt 3 .i64)) (xs := x0.l) (n := y8) rfl Try.underlying22 Try.type3 rfl rfl rfl s0_0 hy9 ?_)
  intro B10 f11 cs12 hd13 hc14
  obtain rfl := hd13
  refine SeqW.consX rfl (kLoad (v := (vI y9)) rfl Try.underlying3 rfl rfl (ldz_load st.fz (hc14 0 _ rfl)) ?_)
  refine sx rfl (pMove (v := (vP b0)) rfl h0) ?_
  refine sx rfl (PureR.nilCheck _ _ rfl rfl) ?_
  refine SeqW.consX rfl (kField rfl Try.underlying56 rfl Try.type3 rfl rfl rfl ?_)
  refine SeqW.consX rfl (kLoad rfl Try.underlying3 rfl rfl (bx0.load (v := (vI x0.n)) rfl) ?_)
  refine sx rfl (pMove (v := (vP b0)) rfl h0) ?_
  refine sx rfl (PureR.nilCheck _ _ rfl rfl) ?_
  refine SeqW.consX rfl (kField rfl Try.underlying56 rfl Try.type22 rfl rfl rfl ?_)
  refine SeqW.consX rfl (kLoad rfl Try.underlying22 rfl rfl (bx0.load (v := v0_0) rfl) ?_)
  refine sx rfl (pLenR (xs := x0.l) rfl Try.underlying22 rfl s0_0) ?_
  obtain ⟨y15, hy15, hr⟩ := bind_some hr
  refine SeqW.consX rfl (kQuo (k1 := .i64) (a := x0.n) (b := (x0.l.length : Int)) rfl rfl rfl hy15 ?_)
  refine sx rfl (pMul (k := .i64) (a := (IntKind.wrap .i64 (y15))) (b := 7919) rfl rfl rfl) ?_
  refine sx rfl (pAdd (k := .i64) (a := y9) (b := (IntKind.wrap .i64 ((IntKind.wrap .i64 (y15)) * 7919))) rfl rfl rfl) ?_
  obtain ⟨y16, hy16, hr⟩ := lt_some hr
  refine sx rfl (pAssign rfl (congrArg (Value.int .i64) hy16)) ?_
  refine SeqW.done fun fr17 hf18 => ?_
  have h0 := (congrFun hf18 0).trans h0
  have h5 : fr17 5 = (vI y16) := (congrFun hf18 5).trans rfl
  clear hf18
  obtain rfl := Option.some.inj hr
  exact ⟨z, hz, st, rfl, h5, bx0, trivial⟩
 ·refine W.condF h11 hc19 (W.skip ?_)
  obtain rfl := Option.some.inj hr
  exact ⟨z, hz, st, rfl, h5, bx0, trivial⟩

theorem u_Maker_Next_1 {N : Nat}  {z0 z : Nat → Blk} {e m : Mem} {k : Option Nat} {fr : Nat → Value} {x1 : Int} {x5 : Int} {x51 : Bool} {x0 : Maker} {v0_0 : Value} {b0 : Nat} (hz : Zx e.next z0 z) (st : St z e m k) (h0 : fr 0 = (vP b0)) (s0_0 : SlR (TInt 3 .i64) z x0.l v0_0) (bx0 : Bx z e m k b0 [v0_0, (vI x0.n)] 56) (h1 : fr 1 = (vI x1)) (h5 : fr 5 = (vI x5)) (h51 : fr 51 = (vB x51)) {r : Int} (hr : Maker_Next_1 N x1 x5 x51 = some r) : W Try.prog (sub (bodyOf Try.f15) [1, 1, 1, 1, 1, 0, 1]) (fun ex fr' m' => ∃ z', Zx e.next z0 z' ∧ St z' e m' k ∧ ex = AExit.normal ∧ fr' 5 = (vI r) ∧ Bx z' e m' k b0 [v0_0, (vI x0.n)] 56 ∧ True) fr m := by
 unfold Maker_Next_1 at hr
 rcases if_some hr with ⟨hc37, hr⟩ | ⟨hc41, hr⟩
 ·refine W.condT h51 hc37 (W.region ?_)
  refine sx rfl (pMove (v := (vI x5)) rfl h5) ?_
  refine sx rfl (pMove (v := (vI x1)) rfl h1) ?_
  refine sx rfl (pAdd (k := .i64) (a := x5) (b := x1) rfl rfl rfl) ?_
  obtain ⟨y38, hy38, hr⟩ := lt_some hr
  refine sx rfl (pAssign rfl (congrArg (Value.int .i64) hy38)) ?_
  refine SeqW.done fun fr39 hf40 => ?_
  have h0 := (congrFun hf40 0).trans h0
  have h5 : fr39 5 = (vI y38) := (congrFun hf40 5).trans rfl
  clear hf40
  obtain rfl := Option.some.inj hr
  exact ⟨z, hz, st, rfl, h5, bx0, trivial⟩
 ·refine W.condF h51 hc41 (W.skip ?_)
  obtain rfl := Option.some.inj hr
  exact ⟨z, hz, st, rfl, h5, bx0, trivial⟩

theorem u_Maker_Next {N : Nat}  {z0 z : Nat → Blk} {e m : Mem} {k : Option Nat} {fr : Nat → Value} {x0 : Maker} {x1 : Int} {v0_0 : Value} {b0 : Nat} (hz : Zx e.next z0 z) (st : St z e m k) (h0 : fr 0 = (vP b0)) (s0_0 : SlR (TInt 3 .i64) z x0.l v0_0) (bx0 : Bx z e m k b0 [v0_0, (vI x0.n)] 56) (h1 : fr 1 = (vI x1)) {r : Int × Maker} (hr : Maker_Next N x0 x1 = some r) : W Try.prog (sub (bodyOf Try.f15) []) (fun ex fr' m' => ∃ z', Zx e.next z0 z' ∧ St z' e m' k ∧ (ex = .normal ∨ ex = .ret) ∧ ∃ (wr_0 : Value), fr' 4 = (vI r.1) ∧ SlR (TInt 3 .i64) z' r.2.l wr_0 ∧ Bx z' e m' k b0 [wr_0, (vI r.2.n)] 56 ∧ True) fr m := by
 unfold Maker_Next at hr
 refine W.seq (W.region ?_)
 refine sx rfl (pAssign (v := (vI 0)) rfl rfl) ?_
 refine SeqW.done fun fr1 hf2 => ?_
 have h0 := (congrFun hf2 0).trans h0
 have h1 := (congrFun hf2 1).trans h1
 clear hf2
 refine thenQ.n (W.seq (W.region ?_))
 refine sx rfl (pAssign (v := (vI 0)) rfl rfl) ?_
 refine SeqW.done fun fr3 hf4 => ?_
 have h0 := (congrFun hf4 0).trans h0
 have h1 := (congrFun hf4 1).trans h1
 have h5 : fr3 5 = (vI 0) := (congrFun hf4 5).trans rfl
 clear hf4
 refine thenQ.n (W.seq ?_)
 refine W.seq (W.region ?_)
 refine sx rfl (pMove (v := (vP b0)) rfl h0) ?_
 refine sx rfl (PureR.nilCheck _ _ rfl rfl) ?_
 refine SeqW.consX rfl (kField rfl Try.underlying56 rfl Try.type22 rfl rfl rfl ?_)
 refine SeqW.consX rfl (kLoad rfl Try.underlying22 rfl rfl (bx0.load (v := v0_0) rfl) ?_)
 refine sx rfl (pLenR (xs := x0.l) rfl Try.underlying22 rfl s0_0) ?_
 refine sx rfl (pGtr (k := .i64) (a := (x0.l.length : Int)) (b := 0) rfl rfl rfl) ?_
 refine SeqW.done fun fr5 hf6 => ?_
 have h0 := (congrFun hf6 0).trans h0
 have h1 := (congrFun hf6 1).trans h1
 have h5 := (congrFun hf6 5).trans h5
 have h11 : fr5 11 = (vB (decide (0 < (x0.l.length : Int)))) := (congrFun hf6 11).trans rfl
 clear hf6
 refine thenQ.n ?_
 obtain ⟨y20, hy20, hr⟩ := bind_some hr
 refine W.keep (u_Maker_Next_0 (x0 := x0) (Zx.refl _) st h0 s0_0 bx0 h5 h11 hy20) ?_
 rintro ex26 fr21 m22 hk24 ⟨z23, hz25, st, rfl, h5, O27, -⟩
 replace s0_0 := s0_0.mono hz25.le
 have h0 := (hk24 0 rfl).trans h0
 have h1 := (hk24 1 rfl).trans h1
 replace hz := hz.trans hz25
 clear hk24
 refine thenQ.n (W.seq (W.region ?_))
 refine sx rfl (pMove (v := (vP b0)) rfl h0) ?_
 refine sx rfl (PureR.nilCheck _ _ rfl rfl) ?_
 refine SeqW.consX rfl (kField rfl Try.underlying56 rfl Try.type3 rfl rfl rfl ?_)
 refine SeqW.consX rfl (kLoad rfl Try.underlying3 rfl rfl (O27.load (v := (vI x0.n)) rfl) ?_)
 refine sx rfl (pAdd (k := .i64) (a := x0.n) (b := 1) rfl rfl rfl) ?_
 refine sx rfl (PureR.nilCheck _ _ rfl rfl) ?_
 refine SeqW.consX rfl (kField rfl Try.underlying56 rfl Try.type3 rfl rfl rfl ?_)
 refine SeqW.consX rfl (kPut (off := 1) (w := (vI (IntKind.wrap .i64 (x0.n + 1)))) (new := [(vI (IntKind.wrap .i64 (x0.n + 1)))]) rfl Try.type3 rfl rfl rfl rfl rfl O27 rfl [v0_0, (vI (IntKind.wrap .i64 (x0.n + 1)))] rfl st ?_)
 intro m28 st O27 sm29
 refine SeqW.done fun fr30 hf31 => ?_
 have h0 := (congrFun hf31 0).trans h0
 have h1 := (congrFun hf31 1).trans h1
 have h5 := (congrFun hf31 5).trans h5
 clear hf31
 refine thenQ.n (W.seq (W.region ?_))
 refine sx rfl (pMove (v := (vI y20)) rfl h5) ?_
 refine sx rfl (pMove (v := (vI x1)) rfl h1) ?_
 obtain ⟨y32, hy32, hr⟩ := bind_some hr
 refine SeqW.consX rfl (kRem (k1 := .i64) (a := y20) (b := x1) rfl rfl rfl hy32 ?_)
 refine sx rfl (pAssign (v := (vI y32)) rfl rfl) ?_
 refine SeqW.done fun fr33 hf34 => ?_
 have h0 := (congrFun hf34 0).trans h0
 have h1 := (congrFun hf34 1).trans h1
 have h5 : fr33 5 = (vI y32) := (congrFun hf34 5).trans rfl
 clear hf34
 refine thenQ.n (W.seq ?_)
 refine W.seq (W.region ?_)
 refine sx rfl (pMove (v := (vI y32)) rfl h5) ?_
 refine sx rfl (pLss (k := .i64) (a := y32) (b := 0) rfl rfl rfl) ?_
 refine SeqW.done fun fr35 hf36 => ?_
 have h0 := (congrFun hf36 0).trans h0
 have h1 := (congrFun hf36 1).trans h1
 have h5 := (congrFun hf36 5).trans h5
 have h51 : fr35 51 = (vB (decide (y32 < 0))) := (congrFun hf36 51).trans rfl
 clear hf36
 refine thenQ.n ?_
 obtain ⟨y42, hy42, hr⟩ := bind_some hr
 refine W.keep (u_Maker_Next_1 (x0 := (Maker.mk x0.l (IntKind.wrap .i64 (x0.n + 1)))) (Zx.refl _) st h0 s0_0 O27 h1 h5 h51 hy42) ?_
 rintro ex48 fr43 m44 hk46 ⟨z45, hz47, st, rfl, h5, O49, -⟩
 replace s0_0 := s0_0.mono hz47.le
 have h0 := (hk46 0 rfl).trans h0
 replace hz := hz.trans hz47
 clear hk46
 refine thenQ.n (W.seq (W.region ?_))
 refine sx rfl (pMove (v := (vI y42)) rfl h5) ?_
 refine sx rfl (pAssign (v := (vI y42)) rfl rfl) ?_
 refine SeqW.done fun fr50 hf51 => ?_
 have h0 := (congrFun hf51 0).trans h0
 have h4 : fr50 4 = (vI y42) := (congrFun hf51 4).trans rfl
 clear hf51
 refine thenQ.n ?_
 refine W.ret ?_
 obtain rfl := Option.some.inj hr
 exact ⟨z45, hz, st, .inr rfl, v0_0, h4, s0_0, O49, trivial⟩

theorem c_Maker_Next {N : Nat} {z : Nat → Blk} {m : Mem} {x0 : Maker} {x1 : Int} {v0_0 : Value} {b0 : Nat} (fz : Fz z m) (hd : ∀ b, m.next ≤ b → m.blk b = .dead) (s0_0 : SlR (TInt 3 .i64) z x0.l v0_0) (bx0 : Bx z m m (some b0) b0 [v0_0, (vI x0.n)] 56) {r : Int × Maker} (hr : Maker_Next N x0 x1 = some r) : CallW Try.prog 15 #[(vP b0), (vI x1)] m fun v m' => ∃ z' wr_0, Zx m.next z z' ∧ Fz z' m' ∧ Same m m' (some b0) ∧ v = (vI r.1) ∧ SlR (TInt 3 .i64) z' r.2.l wr_0 ∧ Bx z' m m' (some b0) b0 [wr_0, (vI r.2.n)] 56 ∧ True := by
 refine CallW.any Try.func15 rfl (by kernel_rfl) (Nat.le_of_ble_eq_true rfl) (fun fr hf => ?_)
 have h0 : fr 0 = _ := hf 0 _ rfl
 have h1 : fr 1 = _ := hf 1 _ rfl
 refine (u_Maker_Next (k := (some b0)) (Zx.refl _) (St.start fz hd) h0 s0_0 bx0 h1 hr).mono ?_
 rintro ex fr' m' ⟨z', hz, st, he, wr_0, h4, sr_0, bxr, -⟩
 exact ⟨he, [(vI r.1)], ⟨h4.symm, trivial⟩, .inl rfl, z', wr_0, hz, st.fz, st.toSame, rfl, sr_0, bxr, trivial⟩

/-! ### (*humpyard/humpgen.Maker).Pick -/

theorem u_Maker_Pick {N : Nat}  {z0 z : Nat → Blk} {e m : Mem} {k : Option Nat} {fr : Nat → Value} {x0 : Maker} {x1 : List Int} {v0_0 : Value} {b0 : Nat} {v1 : Value} (hz : Zx e.next z0 z) (st : St z e m k) (h0 : fr 0 = (vP b0)) (s0_0 : SlR (TInt 3 .i64) z x0.l v0_0) (bx0 : Bx z e m k b0 [v0_0, (vI x0.n)] 56) (h1 : fr 1 = v1) (s1 : SlR (TInt 3 .i64) z x1 v1) {r : Int × Maker} (hr : Maker_Pick N x0 x1 = some r) : W Try.prog (sub (bodyOf Try.f16) []) (fun ex fr' m' => ∃ z', Zx e.next z0 z' ∧ St z' e m' k ∧ (ex = .normal ∨ ex = .ret) ∧ ∃ (wr_0 : Value), fr' 4 = (vI r.1) ∧ SlR (TInt 3 .i64) z' r.2.l wr_0 ∧ Bx z' e m' k b0 [wr_0, (vI r.2.n)] 56 ∧ True) fr m := by
 unfold Maker_Pick at hr
 refine W.seq (W.region ?_)
 refine sx rfl (pAssign (v := (vI 0)) rfl rfl) ?_
 refine SeqW.done fun fr1 hf2 => ?_
 have h0 := (congrFun hf2 0).trans h0
 have h1 := (congrFun hf2 1).trans h1
 clear hf2
 refine thenQ.n (W.seq (W.region ?_))
 refine sx rfl (pMove (v := v1) rfl h1) ?_
 refine sx rfl (pMove (v := (vP b0)) rfl h0) ?_
 refine sx rfl (pMove (v := v1) rfl h1) ?_
 refine sx rfl (pLenR (xs := x1) rfl Try.underlying22 rfl s1) ?_
 obtain ⟨y3, hy3, hr⟩ := bind_some hr
 refine SeqW.consX rfl (StepX.call (gCallee rfl rfl (args2 rfl rfl)) ((c_Maker_Next (x0 := x0) (z := z) st.fz st.dead s0_0 ⟨bx0.blk, bx0.lt, bx0.dead, .inr rfl⟩ hy3).mono ?_))
 rintro _ m8 ⟨z4, V9, hzx5, fz6, sm7, rfl, Q10, X12, -⟩
 replace s0_0 := s0_0.mono hzx5.le
 replace s1 := s1.mono hzx5.le
 have bx0n : Bx z4 e m8 k b0 _ _ := ⟨X12.blk, X12.lt, X12.dead, bx0.fresh⟩
 replace hz := hz.trans (Zx.here st hzx5)
 replace st := st.call hzx5 fz6 sm7 bx0.hq
 obtain ⟨y13, hy13, hr⟩ := bind_some hr
 refine SeqW.consX rfl (kIdxR (T := (TInt 3 .i64)) (xs := x1) (n := y3.1) rfl Try.underlying22 Try.type3 rfl rfl rfl s1 hy13 ?_)
 intro B14 f15 cs16 hd17 hc18
 obtain rfl := hd17
 refine SeqW.consX rfl (kLoad (v := (vI y13)) rfl Try.underlying3 rfl rfl (ldz_load st.fz (hc18 0 _ rfl)) ?_)
 refine sx rfl (pAssign (v := (vI y13)) rfl rfl) ?_
 refine SeqW.done fun fr19 hf20 => ?_
 have h0 := (congrFun hf20 0).trans h0
 have h4 : fr19 4 = (vI y13) := (congrFun hf20 4).trans rfl
 clear hf20
 refine thenQ.n ?_
 refine W.ret ?_
 obtain rfl := Option.some.inj hr
 exact ⟨z4, hz, st, .inr rfl, V9, h4, Q10, bx0n, trivial⟩

theorem c_Maker_Pick {N : Nat} {z : Nat → Blk} {m : Mem} {x0 : Maker} {x1 : List Int} {v0_0 : Value} {b0 : Nat} {v1 : Value} (fz : Fz z m) (hd : ∀ b, m.next ≤ b → m.blk b = .dead) (s0_0 : SlR (TInt 3 .i64) z x0.l v0_0) (bx0 : Bx z m m (some b0) b0 [v0_0, (vI x0.n)] 56) (s1 : SlR (TInt 3 .i64) z x1 v1) {r : Int × Maker} (hr : Maker_Pick N x0 x1 = some r) : CallW Try.prog 16 #[(vP b0), v1] m fun v m' => ∃ z' wr_0, Zx m.next z z' ∧ Fz z' m' ∧ Same m m' (some b0) ∧ v = (vI r.1) ∧ SlR (TInt 3 .i64) z' r.2.l wr_0 ∧ Bx z' m m' (some b0) b0 [wr_0, (vI r.2.n)] 56 ∧ True := by
 refine CallW.any Try.func16 rfl (by kernel_rfl) (Nat.le_of_ble_eq_true rfl) (fun fr hf => ?_)
 have h0 : fr 0 = _ := hf 0 _ rfl
 have h1 : fr 1 = _ := hf 1 _ rfl
 refine (u_Maker_Pick (k := (some b0)) (Zx.refl _) (St.start fz hd) h0 s0_0 bx0 h1 s1 hr).mono ?_
 rintro ex fr' m' ⟨z', hz, st, he, wr_0, h4, sr_0, bxr, -⟩
 exact ⟨he, [(vI r.1)], ⟨h4.symm, trivial⟩, .inl rfl, z', wr_0, hz, st.fz, st.toSame, rfl, sr_0, bxr, trivial⟩

/-! ### (*humpyard/humpgen.Maker).Digits -/

theorem u_Maker_Digits_0 : ∀ (n : Nat) {N : Nat}  {z0 z : Nat → Blk} {e m : Mem} {k : Option Nat} {fr : Nat → Value} {x0 : Maker} {x1 : Int} {x5 : List UInt8} {x6 : Int} {v0_0 : Value} {b0 : Nat} {v5 : Value} (hz : Zx e.next z0 z) (st : St z e m k) (h0 : fr 0 = (vP b0)) (s0_0 : SlR (TInt 3 .i64) z x0.l v0_0) (bx0 : Bx z e m k b0 [v0_0, (vI x0.n)] 56) (h1 : fr 1 = (vI x1)) (h5 : fr 5 = v5) (o5 : OwF (TU8 5) z e m k x5 v5) (h6 : fr 6 = (vI x6)) (ao0_o5 : Ap (some b0) (blkOf v5)) {r : Maker × List UInt8} (hr : Maker_Digits_0 N x1 n x0 x5 x6 = some r), W Try.prog (sub (bodyOf Try.f41) [1, 1, 0, 1, 0]) (fun ex fr' m' => ∃ z', Zx e.next z0 z' ∧ St z' e m' k ∧ ex = AExit.exit 0 ∧ ∃ (w0_0 : Value), fr' 0 = (vP b0) ∧ SlR (TInt 3 .i64) z' r.1.l w0_0 ∧ Bx z' e m' k b0 [w0_0, (vI r.1.n)] 56 ∧ fr' 5 = v5 ∧ OwF (TU8 5) z' e m' k r.2 v5 ∧ Ap (some b0) (blkOf v5) ∧ True) fr m := by
 intro n
 induction n with
 | zero => intro N z0 z e m k fr x0 x1 x5 x6 v0_0 b0 v5 hz st h0 s0_0 bx0 h1 h5 o5 h6 ao0_o5 r hr; cases (show (none : Option _) = some r from hr)
 | succ n ih =>
  intro N z0 z e m k fr x0 x1 x5 x6 v0_0 b0 v5 hz st h0 s0_0 bx0 h1 h5 o5 h6 ao0_o5 r hr
  unfold Maker_Digits_0 at hr
  refine W.loop1 ?_
  refine W.seq (W.seq (W.region ?_))
  refine sx rfl (pMove (v := (vI x6)) rfl h6) ?_
  refine sx rfl (pMove (v := (vI x1)) rfl h1) ?_
  refine sx rfl (pLss (k := .i64) (a := x6) (b := x1) rfl rfl rfl) ?_
  refine SeqW.done fun fr15 hf16 => ?_
  have h0 := (congrFun hf16 0).trans h0
  have h1 := (congrFun hf16 1).trans h1
  have h5 := (congrFun hf16 5).trans h5
  have h6 := (congrFun hf16 6).trans h6
  have h11 : fr15 11 = (vB (decide (x6 < x1))) := (congrFun hf16 11).trans rfl
  clear hf16
  refine thenQ.n ?_
  rcases if_some hr with ⟨hc17, hr⟩ | ⟨hc46, hr⟩
  ·refine W.condT h11 hc17 (W.skip ?_)
   refine thenQ.n (W.seq ?_)
   refine W.block ?_
   refine W.region ?_
   refine sx rfl (pMove (v := v5) rfl h5) ?_
   refine sx rfl (pMove (v := (vI x6)) rfl h6) ?_
   refine sx rfl (pMove (v := (vP b0)) rfl h0) ?_
   obtain ⟨y18, hy18, hr⟩ := bind_some hr
   refine SeqW.consX rfl (StepX.call (gCallee rfl rfl (args2 rfl rfl)) ((c_Maker_Next (x0 := x0) (z := z) st.fz st.dead s0_0 ⟨bx0.blk, bx0.lt, bx0.dead, .inr rfl⟩ hy18).mono ?_))
   rintro _ m23 ⟨z19, V24, hzx20, fz21, sm22, rfl, Q25, X27, -⟩
   replace s0_0 := s0_0.mono hzx20.le
   replace o5 := o5.call hzx20 sm22 (Ap.symm ao0_o5)
   have bx0n : Bx z19 e m23 k b0 _ _ := ⟨X27.blk, X27.lt, X27.dead, bx0.fresh⟩
   replace hz := hz.trans (Zx.here st hzx20)
   replace st := st.call hzx20 fz21 sm22 bx0.hq
   refine sx rfl (pAdd (k := .i64) (a := 48) (b := y18.1) rfl rfl rfl) ?_
   refine sx rfl (pConv (k := .i64) (a := (IntKind.wrap .i64 (48 + y18.1))) rfl Try.underlying3 Try.underlying5 rfl) ?_
   obtain ⟨y28, hy28, hr⟩ := bind_some hr
   refine SeqW.consX rfl (kIdxO (T := (TU8 5)) (xs := x5) (n := x6) rfl Try.underlying66 Try.type5 rfl rfl rfl o5 hy28 ?_)
   intro B29 l30 c31 cs32 hv33 hd34 hg35 hc36
   have hd340 := hd34
   obtain rfl := hd340
   obtain ⟨y39, hy39, hr⟩ := bind_some hr
   refine SeqW.consX rfl (kSet (T := (TU8 5)) (off := (x6 : Int).toNat * ((TU8 5)).sz) (n := (x6 : Int).toNat) (f := 0) (w := (Value.int .u8 (UInt8.toNat y39 : Int))) (new := [(Value.int .u8 (UInt8.toNat y39 : Int))]) (ecs := [(Value.int .u8 (UInt8.toNat y28 : Int))]) (ecs' := [(Value.int .u8 (UInt8.toNat y39 : Int))]) (a := y28) (a' := y39) rfl Try.type5 rfl rfl (by rw [← toU8_some hy39]; exact rfl) rfl rfl rfl o5 hv33 hg35 hd34 hc36 rfl rfl rfl st ?_)
   intro m37 st o5 sm38
   obtain ⟨y40, hy40, hr⟩ := lt_some hr
   rw [hy40] at o5
   replace bx0n := bx0n.same sm38 ao0_o5
   refine SeqW.done fun fr41 hf42 => ?_
   have h0 := (congrFun hf42 0).trans h0
   have h1 := (congrFun hf42 1).trans h1
   have h5 := (congrFun hf42 5).trans h5
   have h6 := (congrFun hf42 6).trans h6
   clear hf42
   refine blockQ.n ?_
   refine thenQ.n (W.region ?_)
   refine sx rfl (pMove (v := (vI x6)) rfl h6) ?_
   refine sx rfl (pAdd (k := .i64) (a := x6) (b := 1) rfl rfl rfl) ?_
   obtain ⟨y43, hy43, hr⟩ := lt_some hr
   refine sx rfl (pAssign rfl (congrArg (Value.int .i64) hy43)) ?_
   refine SeqW.done fun fr44 hf45 => ?_
   have h0 := (congrFun hf45 0).trans h0
   have h1 := (congrFun hf45 1).trans h1
   have h5 := (congrFun hf45 5).trans h5
   have h6 : fr44 6 = (vI y43) := (congrFun hf45 6).trans rfl
   clear hf45
   refine thenQ.n ?_
   exact ih (x0 := y18.2) hz st h0 Q25 bx0n h1 h5 o5 h6 ao0_o5 hr
  ·refine W.condF h11 hc46 ?_
   refine W.exit ?_
   refine thenQ.x ?_
   refine thenQ.x ?_
   obtain rfl := Option.some.inj hr
   exact ⟨z, hz, st, rfl, v0_0, h0, s0_0, bx0, h5, o5, ao0_o5, trivial⟩

theorem u_Maker_Digits {N : Nat}  {z0 z : Nat → Blk} {e m : Mem} {k : Option Nat} {fr : Nat → Value} {x0 : Maker} {x1 : Int} {v0_0 : Value} {b0 : Nat} (hz : Zx e.next z0 z) (st : St z e m k) (h0 : fr 0 = (vP b0)) (s0_0 : SlR (TInt 3 .i64) z x0.l v0_0) (bx0 : Bx z e m k b0 [v0_0, (vI x0.n)] 56) (h1 : fr 1 = (vI x1)) {r : List UInt8 × Maker} (hr : Maker_Digits N x0 x1 = some r) : W Try.prog (sub (bodyOf Try.f41) []) (fun ex fr' m' => ∃ z', Zx e.next z0 z' ∧ St z' e m' k ∧ (ex = .normal ∨ ex = .ret) ∧ ∃ (wr_0 : Value), fr' 4 = (str r.1) ∧ SlR (TInt 3 .i64) z' r.2.l wr_0 ∧ Bx z' e m' k b0 [wr_0, (vI r.2.n)] 56 ∧ True) fr m := by
 unfold Maker_Digits at hr
 refine W.seq (W.region ?_)
 refine sx rfl (pAssign (v := (str [])) rfl rfl) ?_
 refine SeqW.done fun fr1 hf2 => ?_
 have h0 := (congrFun hf2 0).trans h0
 have h1 := (congrFun hf2 1).trans h1
 clear hf2
 refine thenQ.n (W.seq (W.region ?_))
 refine sx rfl (pMove (v := (vI x1)) rfl h1) ?_
 obtain ⟨y3, hy3, hr⟩ := bind_some hr
 refine SeqW.consX rfl (kMake (T := (TU8 5)) (x0 := 0) (n := x1) rfl Try.underlying66 Try.type5 rfl rfl rfl rfl rfl rfl rfl rfl st hy3 ?_)
 intro V4 m5 st O6 sm7 hap8
 have A10 := hap8 _ bx0.lt'
 replace bx0 := bx0.same sm7 Ap.none'
 refine sx rfl (pAssign (v := V4) rfl rfl) ?_
 refine SeqW.done fun fr11 hf12 => ?_
 have h0 := (congrFun hf12 0).trans h0
 have h1 := (congrFun hf12 1).trans h1
 have h5 : fr11 5 = V4 := (congrFun hf12 5).trans rfl
 clear hf12
 refine thenQ.n (W.seq ?_)
 refine W.seq (W.region ?_)
 refine sx rfl (pAssign (v := (vI 0)) rfl rfl) ?_
 refine SeqW.done fun fr13 hf14 => ?_
 have h0 := (congrFun hf14 0).trans h0
 have h1 := (congrFun hf14 1).trans h1
 have h5 := (congrFun hf14 5).trans h5
 have h6 : fr13 6 = (vI 0) := (congrFun hf14 6).trans rfl
 clear hf14
 refine thenQ.n ?_
 refine W.block ?_
 obtain ⟨y47, hy47, hr⟩ := bind_some hr
 refine W.keep (u_Maker_Digits_0 (x0 := x0) _ (Zx.refl _) st h0 s0_0 bx0 h1 h5 O6 h6 A10 hy47) ?_
 rintro ex53 fr48 m49 hk51 ⟨z50, hz52, st, rfl, w54, h0, Q56, X58, h5, O60, A61, -⟩
 replace hz := hz.trans hz52
 clear hk51
 refine blockQ.hit ?_
 refine thenQ.n (W.seq (W.region ?_))
 refine sx rfl (pMove (v := V4) rfl h5) ?_
 refine SeqW.consX rfl (kStrO (s := y47.2) rfl Try.underlying66 Try.underlying5 Try.underlying9 rfl O60 ?_)
 refine sx rfl (pAssign (v := (str y47.2)) rfl rfl) ?_
 refine SeqW.done fun fr62 hf63 => ?_
 have h0 := (congrFun hf63 0).trans h0
 have h4 : fr62 4 = (str y47.2) := (congrFun hf63 4).trans rfl
 clear hf63
 refine thenQ.n ?_
 refine W.ret ?_
 obtain rfl := Option.some.inj hr
 exact ⟨z50, hz, st, .inr rfl, w54, h4, Q56, X58, trivial⟩

theorem c_Maker_Digits {N : Nat} {z : Nat → Blk} {m : Mem} {x0 : Maker} {x1 : Int} {v0_0 : Value} {b0 : Nat} (fz : Fz z m) (hd : ∀ b, m.next ≤ b → m.blk b = .dead) (s0_0 : SlR (TInt 3 .i64) z x0.l v0_0) (bx0 : Bx z m m (some b0) b0 [v0_0, (vI x0.n)] 56) {r : List UInt8 × Maker} (hr : Maker_Digits N x0 x1 = some r) : CallW Try.prog 41 #[(vP b0), (vI x1)] m fun v m' => ∃ z' wr_0, Zx m.next z z' ∧ Fz z' m' ∧ Same m m' (some b0) ∧ v = (str r.1) ∧ SlR (TInt 3 .i64) z' r.2.l wr_0 ∧ Bx z' m m' (some b0) b0 [wr_0, (vI r.2.n)] 56 ∧ True := by
 refine CallW.any Try.func41 rfl (by kernel_rfl) (Nat.le_of_ble_eq_true rfl) (fun fr hf => ?_)
 have h0 : fr 0 = _ := hf 0 _ rfl
 have h1 : fr 1 = _ := hf 1 _ rfl
 refine (u_Maker_Digits (k := (some b0)) (Zx.refl _) (St.start fz hd) h0 s0_0 bx0 h1 hr).mono ?_
 rintro ex fr' m' ⟨z', hz, st, he, wr_0, h4, sr_0, bxr, -⟩
 exact ⟨he, [(str r.1)], ⟨h4.symm, trivial⟩, .inl rfl, z', wr_0, hz, st.fz, st.toSame, rfl, sr_0, bxr, trivial⟩

/-! ### humpyard/humpyardref02.digits -/

theorem u_r02_digits_1 {N : Nat}  {z0 z : Nat → Blk} {e m : Mem} {k : Option Nat} {fr : Nat → Value} {x0 : List UInt8} {x5 : Int} (hz : Zx e.next z0 z) (st : St z e m k) (h0 : fr 0 = (str x0)) (h5 : fr 5 = (vI x5)) {r : Bool} (hr : r02_digits_1 N x0 x5 = some r) : W Try.prog (sub (bodyOf Try.f49) [1, 1, 0, 1, 0, 0, 1, 0, 0, 0]) (fun ex fr' m' => ∃ z', Zx e.next z0 z' ∧ St z' e m' k ∧ ex = AExit.normal ∧ fr' 24 = (vB r) ∧ True) fr m := by
 unfold r02_digits_1 at hr
 refine W.region ?_
 refine sx rfl (pMove (v := (str x0)) rfl h0) ?_
 refine sx rfl (pMove (v := (vI x5)) rfl h5) ?_
 obtain ⟨y14, hy14, hr⟩ := bind_some hr
 refine SeqW.consX rfl (kIndexS (s := x0) (n := x5) rfl Try.underlying9 rfl rfl hy14 ?_)
 refine sx rfl (pLss (k := .u8) (a := (UInt8.toNat y14 : Int)) (b := 48) rfl rfl rfl) ?_
 refine sx rfl (pMove (v := (vB (decide ((UInt8.toNat y14 : Int) < 48)))) rfl rfl) ?_
 rcases if_some hr with ⟨hc15, hr⟩ | ⟨hc18, hr⟩
 ·refine kx rfl rfl rfl hc15 ?_
  iterate 3 refine kx rfl rfl rfl hc15 ?_
  refine sx rfl (pPick (t := true) (v := (vB true)) rfl ((congrArg vB hc15)) rfl) ?_
  refine SeqW.done fun fr16 hf17 => ?_
  have h0 := (congrFun hf17 0).trans h0
  have h5 := (congrFun hf17 5).trans h5
  have h24 : fr16 24 = (vB true) := (congrFun hf17 24).trans rfl
  clear hf17
  obtain rfl := Option.some.inj hr
  exact ⟨z, hz, st, rfl, h24, trivial⟩
 ·refine SeqW.consG rfl rfl rfl hc18 (StepX.pure (pMove (v := (str x0)) rfl h0) ?_)
  refine SeqW.consG rfl rfl rfl hc18 (StepX.pure (pMove (v := (vI x5)) rfl h5) ?_)
  obtain ⟨y19, hy19, hr⟩ := bind_some hr
  refine SeqW.consG rfl rfl rfl hc18 (kIndexS (s := x0) (n := x5) rfl Try.underlying9 rfl rfl hy19 ?_)
  refine SeqW.consG rfl rfl rfl hc18 (StepX.pure (pGtr (k := .u8) (a := (UInt8.toNat y19 : Int)) (b := 57) rfl rfl rfl) ?_)
  refine sx rfl (pPick (t := false) (v := (vB (decide (57 < (UInt8.toNat y19 : Int))))) rfl ((congrArg vB hc18)) rfl) ?_
  refine SeqW.done fun fr20 hf21 => ?_
  have h0 := (congrFun hf21 0).trans h0
  have h5 := (congrFun hf21 5).trans h5
  have h24 : fr20 24 = (vB (decide (57 < (UInt8.toNat y19 : Int)))) := (congrFun hf21 24).trans rfl
  clear hf21
  obtain rfl := Option.some.inj hr
  exact ⟨z, hz, st, rfl, h24, trivial⟩

theorem u_r02_digits_0 : ∀ (n : Nat) {N : Nat}  {z0 z : Nat → Blk} {e m : Mem} {k : Option Nat} {fr : Nat → Value} {x0 : List UInt8} {x1 : Int} {x5 : Int} (hz : Zx e.next z0 z) (st : St z e m k) (h0 : fr 0 = (str x0)) (h1 : fr 1 = (vI x1)) (h5 : fr 5 = (vI x5)) {r : Sum (Unit) (Bool)} (hr : r02_digits_0 N x0 x1 n x5 = some r), W Try.prog (sub (bodyOf Try.f49) [1, 1, 0, 1, 0]) (fun ex fr' m' => ∃ z', Zx e.next z0 z' ∧ St z' e m' k ∧ ((∃ q, r = Sum.inl q ∧ ex = AExit.exit 0 ∧ True) ∨ (∃ q, r = Sum.inr q ∧ ex = AExit.ret ∧ fr' 4 = (vB q) ∧ True))) fr m := by
 intro n
 induction n with
 | zero => intro N z0 z e m k fr x0 x1 x5 hz st h0 h1 h5 r hr; cases (show (none : Option _) = some r from hr)
 | succ n ih =>
  intro N z0 z e m k fr x0 x1 x5 hz st h0 h1 h5 r hr
  unfold r02_digits_0 at hr
  refine W.loop1 ?_
  refine W.seq (W.seq (W.region ?_))
  refine sx rfl (pMove (v := (vI x5)) rfl h5) ?_
  refine sx rfl (pMove (v := (vI x1)) rfl h1) ?_
  refine sx rfl (pLss (k := .i64) (a := x5) (b := x1) rfl rfl rfl) ?_
  refine SeqW.done fun fr11 hf12 => ?_
  have h0 := (congrFun hf12 0).trans h0
  have h1 := (congrFun hf12 1).trans h1
  have h5 := (congrFun hf12 5).trans h5
  have h12 : fr11 12 = (vB (decide (x5 < x1))) := (congrFun hf12 12).trans rfl
  clear hf12
  refine thenQ.n ?_
  rcases if_some hr with ⟨hc13, hr⟩ | ⟨hc36, hr⟩
  ·refine W.condT h12 hc13 (W.skip ?_)
   refine thenQ.n (W.seq ?_)
   refine W.block ?_
   refine W.seq ?_
   obtain ⟨y22, hy22, hr⟩ := bind_some hr
   refine W.keep (u_r02_digits_1 (Zx.refl _) st h0 h5 hy22) ?_
   rintro ex28 fr23 m24 hk26 ⟨z25, hz27, st, rfl, h24, -⟩
   have h0 := (hk26 0 rfl).trans h0
   have h1 := (hk26 1 rfl).trans h1
   have h5 := (hk26 5 rfl).trans h5
   replace hz := hz.trans hz27
   clear hk26
   refine thenQ.n ?_
   rcases if_some hr with ⟨hc29, hr⟩ | ⟨hc32, hr⟩
   ·refine W.condT h24 hc29 (W.seq (W.region ?_))
    refine sx rfl (pAssign (v := (vB false)) rfl rfl) ?_
    refine SeqW.done fun fr30 hf31 => ?_
    have h4 : fr30 4 = (vB false) := (congrFun hf31 4).trans rfl
    clear hf31
    refine thenQ.n ?_
    refine W.ret ?_
    refine blockQ.r ?_
    refine thenQ.r ?_
    refine thenQ.r ?_
    obtain rfl := Option.some.inj hr
    exact ⟨z25, hz, st, .inr ⟨_, rfl, rfl, h4, trivial⟩⟩
   ·refine W.condF h24 hc32 (W.skip ?_)
    refine blockQ.n ?_
    refine thenQ.n (W.region ?_)
    refine sx rfl (pMove (v := (vI x5)) rfl h5) ?_
    refine sx rfl (pAdd (k := .i64) (a := x5) (b := 1) rfl rfl rfl) ?_
    obtain ⟨y33, hy33, hr⟩ := lt_some hr
    refine sx rfl (pAssign rfl (congrArg (Value.int .i64) hy33)) ?_
    refine SeqW.done fun fr34 hf35 => ?_
    have h0 := (congrFun hf35 0).trans h0
    have h1 := (congrFun hf35 1).trans h1
    have h5 : fr34 5 = (vI y33) := (congrFun hf35 5).trans rfl
    clear hf35
    refine thenQ.n ?_
    exact ih hz st h0 h1 h5 hr
  ·refine W.condF h12 hc36 ?_
   refine W.exit ?_
   refine thenQ.x ?_
   refine thenQ.x ?_
   obtain rfl := Option.some.inj hr
   exact ⟨z, hz, st, .inl ⟨_, rfl, rfl, trivial⟩⟩

theorem u_r02_digits {N : Nat}  {z0 z : Nat → Blk} {e m : Mem} {k : Option Nat} {fr : Nat → Value} {x0 : List UInt8} {x1 : Int} (hz : Zx e.next z0 z) (st : St z e m k) (h0 : fr 0 = (str x0)) (h1 : fr 1 = (vI x1)) {r : Bool} (hr : r02_digits N x0 x1 = some r) : W Try.prog (sub (bodyOf Try.f49) []) (fun ex fr' m' => ∃ z', Zx e.next z0 z' ∧ St z' e m' k ∧ (ex = .normal ∨ ex = .ret) ∧ fr' 4 = (vB r) ∧ True) fr m := by
 unfold r02_digits at hr
 refine W.seq (W.region ?_)
 refine sx rfl (pAssign (v := (vB false)) rfl rfl) ?_
 refine SeqW.done fun fr1 hf2 => ?_
 have h0 := (congrFun hf2 0).trans h0
 have h1 := (congrFun hf2 1).trans h1
 clear hf2
 refine thenQ.n (W.seq ?_)
 refine W.seq (W.region ?_)
 refine sx rfl (pMove (v := (str x0)) rfl h0) ?_
 refine sx rfl (pLenS (s := x0) rfl rfl Try.underlying9 rfl) ?_
 refine sx rfl (pMove (v := (vI x1)) rfl h1) ?_
 refine sx rfl (pNeq (k := .i64) (a := (x0.length : Int)) (b := x1) rfl rfl rfl) ?_
 refine SeqW.done fun fr3 hf4 => ?_
 have h0 := (congrFun hf4 0).trans h0
 have h1 := (congrFun hf4 1).trans h1
 have h9 : fr3 9 = (vB ((x0.length : Int) != x1)) := (congrFun hf4 9).trans rfl
 clear hf4
 refine thenQ.n ?_
 rcases if_some hr with ⟨hc5, hr⟩ | ⟨hc8, hr⟩
 ·refine W.condT h9 hc5 (W.seq (W.region ?_))
  refine sx rfl (pAssign (v := (vB false)) rfl rfl) ?_
  refine SeqW.done fun fr6 hf7 => ?_
  have h4 : fr6 4 = (vB false) := (congrFun hf7 4).trans rfl
  clear hf7
  refine thenQ.n ?_
  refine W.ret ?_
  refine thenQ.r ?_
  obtain rfl := Option.some.inj hr
  exact ⟨z, hz, st, .inr rfl, h4, trivial⟩
 ·refine W.condF h9 hc8 (W.skip ?_)
  refine thenQ.n (W.seq ?_)
  refine W.seq (W.region ?_)
  refine sx rfl (pAssign (v := (vI 0)) rfl rfl) ?_
  refine SeqW.done fun fr9 hf10 => ?_
  have h0 := (congrFun hf10 0).trans h0
  have h1 := (congrFun hf10 1).trans h1
  have h5 : fr9 5 = (vI 0) := (congrFun hf10 5).trans rfl
  clear hf10
  refine thenQ.n ?_
  refine W.block ?_
  obtain ⟨y37, hy37, hr⟩ := bind_some hr
  refine W.keep (u_r02_digits_0 _ (Zx.refl _) st h0 h1 h5 hy37) ?_
  rintro ex43 fr38 m39 hk41 ⟨z40, hz42, st, ⟨y44, rfl, rfl, -⟩ | ⟨y47, rfl, rfl, h4, -⟩⟩
  ·dsimp only at hr
   replace hz := hz.trans hz42
   clear hk41
   refine blockQ.hit ?_
   refine thenQ.n (W.seq (W.region ?_))
   refine sx rfl (pAssign (v := (vB true)) rfl rfl) ?_
   refine SeqW.done fun fr45 hf46 => ?_
   have h4 : fr45 4 = (vB true) := (congrFun hf46 4).trans rfl
   clear hf46
   refine thenQ.n ?_
   refine W.ret ?_
   obtain rfl := Option.some.inj hr
   exact ⟨z40, hz, st, .inr rfl, h4, trivial⟩
  ·dsimp only at hr
   replace hz := hz.trans hz42
   clear hk41
   refine blockQ.r ?_
   refine thenQ.r ?_
   obtain rfl := Option.some.inj hr
   exact ⟨z40, hz, st, .inr rfl, h4, trivial⟩

theorem c_r02_digits {N : Nat} {z : Nat → Blk} {m : Mem} {x0 : List UInt8} {x1 : Int} (fz : Fz z m) (hd : ∀ b, m.next ≤ b → m.blk b = .dead)  {r : Bool} (hr : r02_digits N x0 x1 = some r) : CallW Try.prog 49 #[(str x0), (vI x1)] m fun v m' => v = (vB r) ∧ m' = m := by
 refine CallW.flat Try.func49 rfl (by kernel_rfl) (Nat.le_of_ble_eq_true rfl) rfl (z := z) (fun fr hf => ?_)
 have h0 : fr 0 = _ := hf 0 _ rfl
 have h1 : fr 1 = _ := hf 1 _ rfl
 refine (u_r02_digits (k := none) (Zx.refl _) (St.start fz hd) h0 h1 hr).mono ?_
 rintro ex fr' m' ⟨z', hz, st, he, h4, -⟩
 exact ⟨he, z', st, [(vB r)], ⟨h4.symm, trivial⟩, .inl rfl, rfl⟩

/-! ### humpyard/humpyardref02.sum -/

theorem u_r02_sum_1 {N : Nat}  {z0 z : Nat → Blk} {e m : Mem} {k : Option Nat} {fr : Nat → Value} {x7 : Int} {x20 : Bool} (hz : Zx e.next z0 z) (st : St z e m k) (h7 : fr 7 = (vI x7)) (h20 : fr 20 = (vB x20)) {r : Int} (hr : r02_sum_1 N x7 x20 = some r) : W Try.prog (sub (bodyOf Try.f50) [1, 1, 0, 1, 0, 0, 1, 0, 0, 1, 0, 1]) (fun ex fr' m' => ∃ z', Zx e.next z0 z' ∧ St z' e m' k ∧ ex = AExit.normal ∧ fr' 7 = (vI r) ∧ True) fr m := by
 unfold r02_sum_1 at hr
 rcases if_some hr with ⟨hc16, hr⟩ | ⟨hc27, hr⟩
 ·refine W.condT h20 hc16 (W.seq (W.region ?_))
  refine sx rfl (pMove (v := (vI x7)) rfl h7) ?_
  refine sx rfl (pMul (k := .i64) (a := x7) (b := 2) rfl rfl rfl) ?_
  obtain ⟨y17, hy17, hr⟩ := lt_some hr
  refine sx rfl (pAssign rfl (congrArg (Value.int .i64) hy17)) ?_
  refine SeqW.done fun fr18 hf19 => ?_
  have h7 : fr18 7 = (vI y17) := (congrFun hf19 7).trans rfl
  clear hf19
  refine thenQ.n (W.seq (W.region ?_))
  refine sx rfl (pMove (v := (vI y17)) rfl h7) ?_
  refine sx rfl (pGtr (k := .i64) (a := y17) (b := 9) rfl rfl rfl) ?_
  refine SeqW.done fun fr20 hf21 => ?_
  have h7 := (congrFun hf21 7).trans h7
  have h24 : fr20 24 = (vB (decide (9 < y17))) := (congrFun hf21 24).trans rfl
  clear hf21
  refine thenQ.n ?_
  rcases if_some hr with ⟨hc22, hr⟩ | ⟨hc26, hr⟩
  ·refine W.condT h24 hc22 (W.region ?_)
   refine sx rfl (pMove (v := (vI y17)) rfl h7) ?_
   refine sx rfl (pSub (k := .i64) (a := y17) (b := 9) rfl rfl rfl) ?_
   obtain ⟨y23, hy23, hr⟩ := lt_some hr
   refine sx rfl (pAssign rfl (congrArg (Value.int .i64) hy23)) ?_
   refine SeqW.done fun fr24 hf25 => ?_
   have h7 : fr24 7 = (vI y23) := (congrFun hf25 7).trans rfl
   clear hf25
   obtain rfl := Option.some.inj hr
   exact ⟨z, hz, st, rfl, h7, trivial⟩
  ·refine W.condF h24 hc26 (W.skip ?_)
   obtain rfl := Option.some.inj hr
   exact ⟨z, hz, st, rfl, h7, trivial⟩
 ·refine W.condF h20 hc27 (W.skip ?_)
  obtain rfl := Option.some.inj hr
  exact ⟨z, hz, st, rfl, h7, trivial⟩

theorem u_r02_sum_0 : ∀ (n : Nat) {N : Nat}  {z0 z : Nat → Blk} {e m : Mem} {k : Option Nat} {fr : Nat → Value} {x0 : List UInt8} {x1 : Int} {x5 : Int} {x6 : Int} (hz : Zx e.next z0 z) (st : St z e m k) (h0 : fr 0 = (str x0)) (h1 : fr 1 = (vI x1)) (h5 : fr 5 = (vI x5)) (h6 : fr 6 = (vI x6)) {r : Int} (hr : r02_sum_0 N x0 x1 n x5 x6 = some r), W Try.prog (sub (bodyOf Try.f50) [1, 1, 0, 1, 0]) (fun ex fr' m' => ∃ z', Zx e.next z0 z' ∧ St z' e m' k ∧ ex = AExit.exit 0 ∧ fr' 5 = (vI r) ∧ True) fr m := by
 intro n
 induction n with
 | zero => intro N z0 z e m k fr x0 x1 x5 x6 hz st h0 h1 h5 h6 r hr; cases (show (none : Option _) = some r from hr)
 | succ n ih =>
  intro N z0 z e m k fr x0 x1 x5 x6 hz st h0 h1 h5 h6 r hr
  unfold r02_sum_0 at hr
  refine W.loop1 ?_
  refine W.seq (W.seq (W.region ?_))
  refine sx rfl (pMove (v := (vI x6)) rfl h6) ?_
  refine sx rfl (pMove (v := (vI x1)) rfl h1) ?_
  refine sx rfl (pLss (k := .i64) (a := x6) (b := x1) rfl rfl rfl) ?_
  refine SeqW.done fun fr7 hf8 => ?_
  have h0 := (congrFun hf8 0).trans h0
  have h1 := (congrFun hf8 1).trans h1
  have h5 := (congrFun hf8 5).trans h5
  have h6 := (congrFun hf8 6).trans h6
  have h10 : fr7 10 = (vB (decide (x6 < x1))) := (congrFun hf8 10).trans rfl
  clear hf8
  refine thenQ.n ?_
  rcases if_some hr with ⟨hc9, hr⟩ | ⟨hc41, hr⟩
  ·refine W.condT h10 hc9 (W.skip ?_)
   refine thenQ.n (W.seq ?_)
   refine W.block ?_
   refine W.seq (W.region ?_)
   refine sx rfl (pMove (v := (str x0)) rfl h0) ?_
   refine sx rfl (pMove (v := (vI x6)) rfl h6) ?_
   obtain ⟨y10, hy10, hr⟩ := bind_some hr
   refine SeqW.consX rfl (kIndexS (s := x0) (n := x6) rfl Try.underlying9 rfl rfl hy10 ?_)
   refine sx rfl (pSub (k := .u8) (a := (UInt8.toNat y10 : Int)) (b := 48) rfl rfl rfl) ?_
   refine sx rfl (pConv (k := .u8) (a := (IntKind.wrap .u8 ((UInt8.toNat y10 : Int) - 48))) rfl Try.underlying5 Try.underlying3 rfl) ?_
   obtain ⟨y11, hy11, hr⟩ := lt_some hr
   refine sx rfl (pAssign rfl (congrArg (Value.int .i64) hy11)) ?_
   refine SeqW.done fun fr12 hf13 => ?_
   have h0 := (congrFun hf13 0).trans h0
   have h1 := (congrFun hf13 1).trans h1
   have h5 := (congrFun hf13 5).trans h5
   have h6 := (congrFun hf13 6).trans h6
   have h7 : fr12 7 = (vI y11) := (congrFun hf13 7).trans rfl
   clear hf13
   refine thenQ.n (W.seq ?_)
   refine W.seq (W.region ?_)
   refine sx rfl (pMove (v := (vI x6)) rfl h6) ?_
   refine sx rfl (pRem (k := .i64) (a := x6) (b := 2) rfl rfl rfl (by decide)) ?_
   refine sx rfl (pEql (k := .i64) (a := (Int.tmod x6 2)) (b := 0) rfl rfl rfl) ?_
   refine SeqW.done fun fr14 hf15 => ?_
   have h0 := (congrFun hf15 0).trans h0
   have h1 := (congrFun hf15 1).trans h1
   have h5 := (congrFun hf15 5).trans h5
   have h6 := (congrFun hf15 6).trans h6
   have h7 := (congrFun hf15 7).trans h7
   have h20 : fr14 20 = (vB ((Int.tmod x6 2) == 0)) := (congrFun hf15 20).trans rfl
   clear hf15
   refine thenQ.n ?_
   obtain ⟨y28, hy28, hr⟩ := bind_some hr
   refine W.keep (u_r02_sum_1 (Zx.refl _) st h7 h20 hy28) ?_
   rintro ex34 fr29 m30 hk32 ⟨z31, hz33, st, rfl, h7, -⟩
   have h0 := (hk32 0 rfl).trans h0
   have h1 := (hk32 1 rfl).trans h1
   have h5 := (hk32 5 rfl).trans h5
   have h6 := (hk32 6 rfl).trans h6
   replace hz := hz.trans hz33
   clear hk32
   refine thenQ.n (W.region ?_)
   refine sx rfl (pMove (v := (vI x5)) rfl h5) ?_
   refine sx rfl (pMove (v := (vI y28)) rfl h7) ?_
   refine sx rfl (pAdd (k := .i64) (a := x5) (b := y28) rfl rfl rfl) ?_
   obtain ⟨y35, hy35, hr⟩ := lt_some hr
   refine sx rfl (pAssign rfl (congrArg (Value.int .i64) hy35)) ?_
   refine SeqW.done fun fr36 hf37 => ?_
   have h0 := (congrFun hf37 0).trans h0
   have h1 := (congrFun hf37 1).trans h1
   have h5 : fr36 5 = (vI y35) := (congrFun hf37 5).trans rfl
   have h6 := (congrFun hf37 6).trans h6
   clear hf37
   refine blockQ.n ?_
   refine thenQ.n (W.region ?_)
   refine sx rfl (pMove (v := (vI x6)) rfl h6) ?_
   refine sx rfl (pAdd (k := .i64) (a := x6) (b := 1) rfl rfl rfl) ?_
   obtain ⟨y38, hy38, hr⟩ := lt_some hr
   refine sx rfl (pAssign rfl (congrArg (Value.int .i64) hy38)) ?_
   refine SeqW.done fun fr39 hf40 => ?_
   have h0 := (congrFun hf40 0).trans h0
   have h1 := (congrFun hf40 1).trans h1
   have h5 := (congrFun hf40 5).trans h5
   have h6 : fr39 6 = (vI y38) := (congrFun hf40 6).trans rfl
   clear hf40
   refine thenQ.n ?_
   exact ih hz st h0 h1 h5 h6 hr
  ·refine W.condF h10 hc41 ?_
   refine W.exit ?_
   refine thenQ.x ?_
   refine thenQ.x ?_
   obtain rfl := Option.some.inj hr
   exact ⟨z, hz, st, rfl, h5, trivial⟩

theorem u_r02_sum {N : Nat}  {z0 z : Nat → Blk} {e m : Mem} {k : Option Nat} {fr : Nat → Value} {x0 : List UInt8} {x1 : Int} (hz : Zx e.next z0 z) (st : St z e m k) (h0 : fr 0 = (str x0)) (h1 : fr 1 = (vI x1)) {r : Int} (hr : r02_sum N x0 x1 = some r) : W Try.prog (sub (bodyOf Try.f50) []) (fun ex fr' m' => ∃ z', Zx e.next z0 z' ∧ St z' e m' k ∧ (ex = .normal ∨ ex = .ret) ∧ fr' 4 = (vI r) ∧ True) fr m := by
 unfold r02_sum at hr
 refine W.seq (W.region ?_)
 refine sx rfl (pAssign (v := (vI 0)) rfl rfl) ?_
 refine SeqW.done fun fr1 hf2 => ?_
 have h0 := (congrFun hf2 0).trans h0
 have h1 := (congrFun hf2 1).trans h1
 clear hf2
 refine thenQ.n (W.seq (W.region ?_))
 refine sx rfl (pAssign (v := (vI 0)) rfl rfl) ?_
 refine SeqW.done fun fr3 hf4 => ?_
 have h0 := (congrFun hf4 0).trans h0
 have h1 := (congrFun hf4 1).trans h1
 have h5 : fr3 5 = (vI 0) := (congrFun hf4 5).trans rfl
 clear hf4
 refine thenQ.n (W.seq ?_)
 refine W.seq (W.region ?_)
 refine sx rfl (pAssign (v := (vI 0)) rfl rfl) ?_
 refine SeqW.done fun fr5 hf6 => ?_
 have h0 := (congrFun hf6 0).trans h0
 have h1 := (congrFun hf6 1).trans h1
 have h5 := (congrFun hf6 5).trans h5
 have h6 : fr5 6 = (vI 0) := (congrFun hf6 6).trans rfl
 clear hf6
 refine thenQ.n ?_
 refine W.block ?_
 obtain ⟨y42, hy42, hr⟩ := bind_some hr
 refine W.keep (u_r02_sum_0 _ (Zx.refl _) st h0 h1 h5 h6 hy42) ?_
 rintro ex48 fr43 m44 hk46 ⟨z45, hz47, st, rfl, h5, -⟩
 replace hz := hz.trans hz47
 clear hk46
 refine blockQ.hit ?_
 refine thenQ.n (W.seq (W.region ?_))
 refine sx rfl (pMove (v := (vI y42)) rfl h5) ?_
 refine sx rfl (pAssign (v := (vI y42)) rfl rfl) ?_
 refine SeqW.done fun fr49 hf50 => ?_
 have h4 : fr49 4 = (vI y42) := (congrFun hf50 4).trans rfl
 clear hf50
 refine thenQ.n ?_
 refine W.ret ?_
 obtain rfl := Option.some.inj hr
 exact ⟨z45, hz, st, .inr rfl, h4, trivial⟩

theorem c_r02_sum {N : Nat} {z : Nat → Blk} {m : Mem} {x0 : List UInt8} {x1 : Int} (fz : Fz z m) (hd : ∀ b, m.next ≤ b → m.blk b = .dead)  {r : Int} (hr : r02_sum N x0 x1 = some r) : CallW Try.prog 50 #[(str x0), (vI x1)] m fun v m' => v = (vI r) ∧ m' = m := by
 refine CallW.flat Try.func50 rfl (by kernel_rfl) (Nat.le_of_ble_eq_true rfl) rfl (z := z) (fun fr hf => ?_)
 have h0 : fr 0 = _ := hf 0 _ rfl
 have h1 : fr 1 = _ := hf 1 _ rfl
 refine (u_r02_sum (k := none) (Zx.refl _) (St.start fz hd) h0 h1 hr).mono ?_
 rintro ex fr' m' ⟨z', hz, st, he, h4, -⟩
 exact ⟨he, z', st, [(vI r)], ⟨h4.symm, trivial⟩, .inl rfl, rfl⟩

/-! ### humpyard/humpyardref02.Digit -/

theorem u_r02_Digit {N : Nat}  {z0 z : Nat → Blk} {e m : Mem} {k : Option Nat} {fr : Nat → Value} {x0 : List UInt8} (hz : Zx e.next z0 z) (st : St z e m k) (h0 : fr 0 = (str x0)) {r : Int × Int} (hr : r02_Digit N x0 = some r) : W Try.prog (sub (bodyOf Try.f42) []) (fun ex fr' m' => ∃ z', Zx e.next z0 z' ∧ St z' e m' k ∧ (ex = .normal ∨ ex = .ret) ∧ fr' 2 = (vI r.1) ∧ fr' 3 = (vI r.2) ∧ True) fr m := by
 unfold r02_Digit at hr
 refine W.seq (W.region ?_)
 refine sx rfl (pAssign (v := (vI 0)) rfl rfl) ?_
 refine sx rfl (pAssign (v := (vI 0)) rfl rfl) ?_
 refine SeqW.done fun fr1 hf2 => ?_
 have h0 := (congrFun hf2 0).trans h0
 clear hf2
 refine thenQ.n (W.seq ?_)
 refine W.seq (W.region ?_)
 refine sx rfl (pMove (v := (str x0)) rfl h0) ?_
 obtain ⟨y3, hy3, hr⟩ := bind_some hr
 refine SeqW.consX rfl (StepX.call (gCallee rfl rfl (args2 rfl rfl)) ((c_r02_digits (z := z) st.fz st.dead  hy3).mono ?_))
 rintro _ _ ⟨rfl, rfl⟩
 refine sx rfl (pNot (b := y3) rfl rfl) ?_
 refine SeqW.done fun fr4 hf5 => ?_
 have h0 := (congrFun hf5 0).trans h0
 have h6 : fr4 6 = (vB (!y3)) := (congrFun hf5 6).trans rfl
 clear hf5
 refine thenQ.n ?_
 rcases if_some hr with ⟨hc6, hr⟩ | ⟨hc9, hr⟩
 ·refine W.condT h6 hc6 (W.seq (W.region ?_))
  refine sx rfl (pAssign (v := (vI 0)) rfl rfl) ?_
  refine sx rfl (pAssign (v := (vI 11)) rfl rfl) ?_
  refine SeqW.done fun fr7 hf8 => ?_
  have h2 : fr7 2 = (vI 0) := (congrFun hf8 2).trans rfl
  have h3 : fr7 3 = (vI 11) := (congrFun hf8 3).trans rfl
  clear hf8
  refine thenQ.n ?_
  refine W.ret ?_
  refine thenQ.r ?_
  obtain rfl := Option.some.inj hr
  exact ⟨z, hz, st, .inr rfl, h2, h3, trivial⟩
 ·refine W.condF h6 hc9 (W.skip ?_)
  refine thenQ.n (W.seq (W.region ?_))
  refine sx rfl (pMove (v := (str x0)) rfl h0) ?_
  obtain ⟨y10, hy10, hr⟩ := bind_some hr
  refine SeqW.consX rfl (StepX.call (gCallee rfl rfl (args2 rfl rfl)) ((c_r02_sum (z := z) st.fz st.dead  hy10).mono ?_))
  rintro _ _ ⟨rfl, rfl⟩
  refine sx rfl (pRem (k := .i64) (a := y10) (b := 10) rfl rfl rfl (by decide)) ?_
  refine sx rfl (pSub (k := .i64) (a := 10) (b := (Int.tmod y10 10)) rfl rfl rfl) ?_
  refine sx rfl (pRem (k := .i64) (a := (IntKind.wrap .i64 (10 - (Int.tmod y10 10)))) (b := 10) rfl rfl rfl (by decide)) ?_
  obtain ⟨y11, hy11, hr⟩ := lt_some hr
  refine sx rfl (pAssign rfl (congrArg (Value.int .i64) hy11)) ?_
  refine sx rfl (pAssign (v := (vI 0)) rfl rfl) ?_
  refine SeqW.done fun fr12 hf13 => ?_
  have h2 : fr12 2 = (vI y11) := (congrFun hf13 2).trans rfl
  have h3 : fr12 3 = (vI 0) := (congrFun hf13 3).trans rfl
  clear hf13
  refine thenQ.n ?_
  refine W.ret ?_
  obtain rfl := Option.some.inj hr
  exact ⟨z, hz, st, .inr rfl, h2, h3, trivial⟩

theorem c_r02_Digit {N : Nat} {z : Nat → Blk} {m : Mem} {x0 : List UInt8} (fz : Fz z m) (hd : ∀ b, m.next ≤ b → m.blk b = .dead)  {r : Int × Int} (hr : r02_Digit N x0 = some r) : CallW Try.prog 42 #[(str x0)] m fun v m' => v = (Value.tuple [(vI r.1), (vI r.2)].toArray) ∧ m' = m := by
 refine CallW.flat Try.func42 rfl (by kernel_rfl) (Nat.le_of_ble_eq_true rfl) rfl (z := z) (fun fr hf => ?_)
 have h0 : fr 0 = _ := hf 0 _ rfl
 refine (u_r02_Digit (k := none) (Zx.refl _) (St.start fz hd) h0 hr).mono ?_
 rintro ex fr' m' ⟨z', hz, st, he, h2, h3, -⟩
 exact ⟨he, z', st, [(vI r.1), (vI r.2)], ⟨h2.symm, h3.symm, trivial⟩, .inr (List.forall_mem_cons.2 ⟨rfl, List.forall_mem_cons.2 ⟨rfl, fun _ h => nomatch h⟩⟩), rfl⟩

end Go.W
