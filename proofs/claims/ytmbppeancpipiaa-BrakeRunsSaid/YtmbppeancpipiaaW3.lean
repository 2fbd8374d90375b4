/- The models are what the program computes. -/
import Derived.Test.YtmbppeancpipiaaW2
set_option linter.unusedVariables false
set_option linter.unusedSimpArgs false
set_option maxRecDepth 100000
set_option maxHeartbeats 4000000
namespace Go.W
open Go.AM Go.Proofs


/-! ### humpyard/humpyardref06.Name -/

theorem u_r06_Name_1 {N : Nat}  {z0 z : Nat → Blk} {e m : Mem} {k : Option Nat} {fr : Nat → Value} {x0 : List UInt8} {x3 : Int} (hz : Zx e.next z0 z) (st : St z e m k) (h0 : fr 0 = (str x0)) (h3 : fr 3 = (Value.int .i64 x3)) {r : Bool} (hr : r06_Name_1 N x0 x3 = some r) : W Try.prog (sub (bodyOf Try.f53) [1, 0, 1, 0, 0, 1, 0, 0, 0]) (fun ex fr' m' => ∃ z', Zx e.next z0 z' ∧ St z' e m' k ∧ ex = AExit.normal ∧ fr' 32 = (Value.bool r) ∧ True) fr m := by
  unfold r06_Name_1 at hr
  refine W.region ?_
  refine SeqW.consX rfl (StepX.pure (pMove (v := (str x0)) rfl h0) ?_)
  refine SeqW.consX rfl (StepX.pure (pMove (v := (Value.int .i64 x3)) rfl h3) ?_)
  obtain ⟨y8, hy8, hr⟩ := bind_some hr
  refine SeqW.consX rfl (kIndexS (s := x0) (n := x3) rfl Try.underlying9 rfl rfl hy8 ?_)
  refine SeqW.consX rfl (StepX.pure (pGeq (k := .u8) (a := (UInt8.toNat y8 : Int)) (b := 97) rfl rfl rfl) ?_)
  refine SeqW.consX rfl (StepX.pure (pMove (v := (Value.bool (decide (97 ≤ (UInt8.toNat y8 : Int))))) rfl rfl) ?_)
  rcases if_some hr with ⟨hc9, hr⟩ | ⟨hc23, hr⟩
  · refine SeqW.consG rfl rfl rfl hc9 (StepX.pure (pMove (v := (str x0)) rfl h0) ?_)
    refine SeqW.consG rfl rfl rfl hc9 (StepX.pure (pMove (v := (Value.int .i64 x3)) rfl h3) ?_)
    obtain ⟨y10, hy10, hr⟩ := bind_some hr
    refine SeqW.consG rfl rfl rfl hc9 (kIndexS (s := x0) (n := x3) rfl Try.underlying9 rfl rfl hy10 ?_)
    refine SeqW.consG rfl rfl rfl hc9 (StepX.pure (pLeq (k := .u8) (a := (UInt8.toNat y10 : Int)) (b := 122) rfl rfl rfl) ?_)
    refine SeqW.consX rfl (StepX.pure (pPick (t := true) (v := (Value.bool (decide ((UInt8.toNat y10 : Int) ≤ 122)))) rfl ((congrArg Value.bool hc9)) rfl) ?_)
    refine SeqW.consX rfl (StepX.pure (pMove (v := (Value.bool (decide ((UInt8.toNat y10 : Int) ≤ 122)))) rfl rfl) ?_)
    rcases if_some hr with ⟨hc11, hr⟩ | ⟨hc14, hr⟩
    · refine SeqW.skipG rfl rfl rfl hc11 ?_
      refine SeqW.skipG rfl rfl rfl hc11 ?_
      refine SeqW.skipG rfl rfl rfl hc11 ?_
      refine SeqW.skipG rfl rfl rfl hc11 ?_
      refine SeqW.skipG rfl rfl rfl hc11 ?_
      refine SeqW.skipU rfl rfl rfl ?_
      refine SeqW.skipU rfl rfl rfl ?_
      refine SeqW.skipU rfl rfl rfl ?_
      refine SeqW.skipU rfl rfl rfl ?_
      refine SeqW.skipG rfl rfl rfl hc11 ?_
      refine SeqW.consX rfl (StepX.pure (pPick (t := true) (v := (Value.bool true)) rfl ((congrArg Value.bool hc11)) rfl) ?_)
      refine SeqW.consX rfl (StepX.pure (pNot (b := true) rfl rfl) ?_)
      refine SeqW.done fun fr12 hf13 => ?_
      have h0 : fr12 0 = (str x0) := (congrFun hf13 0).trans h0
      have h3 : fr12 3 = (Value.int .i64 x3) := (congrFun hf13 3).trans h3
      have h32 : fr12 32 = (Value.bool (!true)) := (congrFun hf13 32).trans rfl
      clear hf13
      obtain rfl := Option.some.inj hr
      exact ⟨z, hz, st, rfl, h32, trivial⟩
    · refine SeqW.consG rfl rfl rfl hc14 (StepX.pure (pMove (v := (str x0)) rfl h0) ?_)
      refine SeqW.consG rfl rfl rfl hc14 (StepX.pure (pMove (v := (Value.int .i64 x3)) rfl h3) ?_)
      obtain ⟨y15, hy15, hr⟩ := bind_some hr
      refine SeqW.consG rfl rfl rfl hc14 (kIndexS (s := x0) (n := x3) rfl Try.underlying9 rfl rfl hy15 ?_)
      refine SeqW.consG rfl rfl rfl hc14 (StepX.pure (pGeq (k := .u8) (a := (UInt8.toNat y15 : Int)) (b := 48) rfl rfl rfl) ?_)
      refine SeqW.consG rfl rfl rfl hc14 (StepX.pure (pMove (v := (Value.bool (decide (48 ≤ (UInt8.toNat y15 : Int))))) rfl rfl) ?_)
      rcases if_some hr with ⟨hc16, hr⟩ | ⟨hc20, hr⟩
      · refine SeqW.consG rfl rfl rfl hc16 (StepX.pure (pMove (v := (str x0)) rfl h0) ?_)
        refine SeqW.consG rfl rfl rfl hc16 (StepX.pure (pMove (v := (Value.int .i64 x3)) rfl h3) ?_)
        obtain ⟨y17, hy17, hr⟩ := bind_some hr
        refine SeqW.consG rfl rfl rfl hc16 (kIndexS (s := x0) (n := x3) rfl Try.underlying9 rfl rfl hy17 ?_)
        refine SeqW.consG rfl rfl rfl hc16 (StepX.pure (pLeq (k := .u8) (a := (UInt8.toNat y17 : Int)) (b := 57) rfl rfl rfl) ?_)
        refine SeqW.consG rfl rfl rfl hc14 (StepX.pure (pPick (t := true) (v := (Value.bool (decide ((UInt8.toNat y17 : Int) ≤ 57)))) rfl ((congrArg Value.bool hc16)) rfl) ?_)
        refine SeqW.consX rfl (StepX.pure (pPick (t := false) (v := (Value.bool (decide ((UInt8.toNat y17 : Int) ≤ 57)))) rfl ((congrArg Value.bool hc14)) rfl) ?_)
        refine SeqW.consX rfl (StepX.pure (pNot (b := (decide ((UInt8.toNat y17 : Int) ≤ 57))) rfl rfl) ?_)
        refine SeqW.done fun fr18 hf19 => ?_
        have h0 : fr18 0 = (str x0) := (congrFun hf19 0).trans h0
        have h3 : fr18 3 = (Value.int .i64 x3) := (congrFun hf19 3).trans h3
        have h32 : fr18 32 = (Value.bool (!(decide ((UInt8.toNat y17 : Int) ≤ 57)))) := (congrFun hf19 32).trans rfl
        clear hf19
        obtain rfl := Option.some.inj hr
        exact ⟨z, hz, st, rfl, h32, trivial⟩
      · refine SeqW.skipG rfl rfl rfl hc20 ?_
        refine SeqW.skipG rfl rfl rfl hc20 ?_
        refine SeqW.skipG rfl rfl rfl hc20 ?_
        refine SeqW.skipG rfl rfl rfl hc20 ?_
        refine SeqW.consG rfl rfl rfl hc14 (StepX.pure (pPick (t := false) (v := (Value.bool false)) rfl ((congrArg Value.bool hc20)) rfl) ?_)
        refine SeqW.consX rfl (StepX.pure (pPick (t := false) (v := (Value.bool false)) rfl ((congrArg Value.bool hc14)) rfl) ?_)
        refine SeqW.consX rfl (StepX.pure (pNot (b := false) rfl rfl) ?_)
        refine SeqW.done fun fr21 hf22 => ?_
        have h0 : fr21 0 = (str x0) := (congrFun hf22 0).trans h0
        have h3 : fr21 3 = (Value.int .i64 x3) := (congrFun hf22 3).trans h3
        have h32 : fr21 32 = (Value.bool (!false)) := (congrFun hf22 32).trans rfl
        clear hf22
        obtain rfl := Option.some.inj hr
        exact ⟨z, hz, st, rfl, h32, trivial⟩
  · refine SeqW.skipG rfl rfl rfl hc23 ?_
    refine SeqW.skipG rfl rfl rfl hc23 ?_
    refine SeqW.skipG rfl rfl rfl hc23 ?_
    refine SeqW.skipG rfl rfl rfl hc23 ?_
    refine SeqW.consX rfl (StepX.pure (pPick (t := false) (v := (Value.bool false)) rfl ((congrArg Value.bool hc23)) rfl) ?_)
    refine SeqW.consX rfl (StepX.pure (pMove (v := (Value.bool false)) rfl rfl) ?_)
    refine SeqW.consG rfl rfl rfl rfl (StepX.pure (pMove (v := (str x0)) rfl h0) ?_)
    refine SeqW.consG rfl rfl rfl rfl (StepX.pure (pMove (v := (Value.int .i64 x3)) rfl h3) ?_)
    obtain ⟨y24, hy24, hr⟩ := bind_some hr
    refine SeqW.consG rfl rfl rfl rfl (kIndexS (s := x0) (n := x3) rfl Try.underlying9 rfl rfl hy24 ?_)
    refine SeqW.consG rfl rfl rfl rfl (StepX.pure (pGeq (k := .u8) (a := (UInt8.toNat y24 : Int)) (b := 48) rfl rfl rfl) ?_)
    refine SeqW.consG rfl rfl rfl rfl (StepX.pure (pMove (v := (Value.bool (decide (48 ≤ (UInt8.toNat y24 : Int))))) rfl rfl) ?_)
    rcases if_some hr with ⟨hc25, hr⟩ | ⟨hc29, hr⟩
    · refine SeqW.consG rfl rfl rfl hc25 (StepX.pure (pMove (v := (str x0)) rfl h0) ?_)
      refine SeqW.consG rfl rfl rfl hc25 (StepX.pure (pMove (v := (Value.int .i64 x3)) rfl h3) ?_)
      obtain ⟨y26, hy26, hr⟩ := bind_some hr
      refine SeqW.consG rfl rfl rfl hc25 (kIndexS (s := x0) (n := x3) rfl Try.underlying9 rfl rfl hy26 ?_)
      refine SeqW.consG rfl rfl rfl hc25 (StepX.pure (pLeq (k := .u8) (a := (UInt8.toNat y26 : Int)) (b := 57) rfl rfl rfl) ?_)
      refine SeqW.consG rfl rfl rfl rfl (StepX.pure (pPick (t := true) (v := (Value.bool (decide ((UInt8.toNat y26 : Int) ≤ 57)))) rfl ((congrArg Value.bool hc25)) rfl) ?_)
      refine SeqW.consX rfl (StepX.pure (pPick (t := false) (v := (Value.bool (decide ((UInt8.toNat y26 : Int) ≤ 57)))) rfl ((congrArg Value.bool (rfl : false = false))) rfl) ?_)
      refine SeqW.consX rfl (StepX.pure (pNot (b := (decide ((UInt8.toNat y26 : Int) ≤ 57))) rfl rfl) ?_)
      refine SeqW.done fun fr27 hf28 => ?_
      have h0 : fr27 0 = (str x0) := (congrFun hf28 0).trans h0
      have h3 : fr27 3 = (Value.int .i64 x3) := (congrFun hf28 3).trans h3
      have h32 : fr27 32 = (Value.bool (!(decide ((UInt8.toNat y26 : Int) ≤ 57)))) := (congrFun hf28 32).trans rfl
      clear hf28
      obtain rfl := Option.some.inj hr
      exact ⟨z, hz, st, rfl, h32, trivial⟩
    · refine SeqW.skipG rfl rfl rfl hc29 ?_
      refine SeqW.skipG rfl rfl rfl hc29 ?_
      refine SeqW.skipG rfl rfl rfl hc29 ?_
      refine SeqW.skipG rfl rfl rfl hc29 ?_
      refine SeqW.consG rfl rfl rfl rfl (StepX.pure (pPick (t := false) (v := (Value.bool false)) rfl ((congrArg Value.bool hc29)) rfl) ?_)
      refine SeqW.consX rfl (StepX.pure (pPick (t := false) (v := (Value.bool false)) rfl ((congrArg Value.bool (rfl : false = false))) rfl) ?_)
      refine SeqW.consX rfl (StepX.pure (pNot (b := false) rfl rfl) ?_)
      refine SeqW.done fun fr30 hf31 => ?_
      have h0 : fr30 0 = (str x0) := (congrFun hf31 0).trans h0
      have h3 : fr30 3 = (Value.int .i64 x3) := (congrFun hf31 3).trans h3
      have h32 : fr30 32 = (Value.bool (!false)) := (congrFun hf31 32).trans rfl
      clear hf31
      obtain rfl := Option.some.inj hr
      exact ⟨z, hz, st, rfl, h32, trivial⟩

theorem u_r06_Name_0 : ∀ (n : Nat) {N : Nat}  {z0 z : Nat → Blk} {e m : Mem} {k : Option Nat} {fr : Nat → Value} {x0 : List UInt8} {x3 : Int} (hz : Zx e.next z0 z) (st : St z e m k) (h0 : fr 0 = (str x0)) (h3 : fr 3 = (Value.int .i64 x3)) {r : Sum (Unit) (Bool)} (hr : r06_Name_0 N x0 n x3 = some r), W Try.prog (sub (bodyOf Try.f53) [1, 0, 1, 0]) (fun ex fr' m' => ∃ z', Zx e.next z0 z' ∧ St z' e m' k ∧ ((∃ q, r = Sum.inl q ∧ ex = AExit.exit 0 ∧ True) ∨ (∃ q, r = Sum.inr q ∧ ex = AExit.ret ∧ fr' 2 = (Value.bool q) ∧ True))) fr m := by
  intro n
  induction n with
  | zero => intro N z0 z e m k fr x0 x3 hz st h0 h3 r hr; cases (show (none : Option _) = some r from hr)
  | succ n ih =>
    intro N z0 z e m k fr x0 x3 hz st h0 h3 r hr
    unfold r06_Name_0 at hr
    refine W.loop1 ?_
    refine W.seq ?_
    refine W.seq ?_
    refine W.region ?_
    refine SeqW.consX rfl (StepX.pure (pMove (v := (Value.int .i64 x3)) rfl h3) ?_)
    refine SeqW.consX rfl (StepX.pure (pMove (v := (str x0)) rfl h0) ?_)
    refine SeqW.consX rfl (StepX.pure (pLenS (s := x0) rfl rfl Try.underlying9 rfl) ?_)
    refine SeqW.consX rfl (StepX.pure (pLss (k := .i64) (a := x3) (b := (x0.length : Int)) rfl rfl rfl) ?_)
    refine SeqW.done fun fr5 hf6 => ?_
    have h0 : fr5 0 = (str x0) := (congrFun hf6 0).trans h0
    have h3 : fr5 3 = (Value.int .i64 x3) := (congrFun hf6 3).trans h3
    have h7 : fr5 7 = (Value.bool (decide (x3 < (x0.length : Int)))) := (congrFun hf6 7).trans rfl
    clear hf6
    refine thenQ.n ?_
    rcases if_some hr with ⟨hc7, hr⟩ | ⟨hc46, hr⟩
    · refine W.condT h7 hc7 ?_
      refine W.skip ?_
      refine thenQ.n ?_
      refine W.seq ?_
      refine W.block ?_
      refine W.seq ?_
      obtain ⟨y32, hy32, hr⟩ := bind_some hr
      refine W.keep (u_r06_Name_1 (Zx.refl _) st h0 h3 hy32) ?_
      rintro ex38 fr33 m34 hk36 ⟨z35, hz37, st, rfl, h32, -⟩
      have h0 := (hk36 0 rfl).trans h0
      have h3 := (hk36 3 rfl).trans h3
      replace hz := hz.trans hz37
      clear hk36
      refine thenQ.n ?_
      rcases if_some hr with ⟨hc39, hr⟩ | ⟨hc42, hr⟩
      · refine W.condT h32 hc39 ?_
        refine W.seq ?_
        refine W.region ?_
        refine SeqW.consX rfl (StepX.pure (pAssign (v := (Value.bool false)) rfl rfl) ?_)
        refine SeqW.done fun fr40 hf41 => ?_
        have h2 : fr40 2 = (Value.bool false) := (congrFun hf41 2).trans rfl
        clear hf41
        refine thenQ.n ?_
        refine W.ret ?_
        refine blockQ.r ?_
        refine thenQ.r ?_
        refine thenQ.r ?_
        obtain rfl := Option.some.inj hr
        exact ⟨z35, hz, st, .inr ⟨_, rfl, rfl, h2, trivial⟩⟩
      · refine W.condF h32 hc42 ?_
        refine W.skip ?_
        refine blockQ.n ?_
        refine thenQ.n ?_
        refine W.region ?_
        refine SeqW.consX rfl (StepX.pure (pMove (v := (Value.int .i64 x3)) rfl h3) ?_)
        refine SeqW.consX rfl (StepX.pure (pAdd (k := .i64) (a := x3) (b := 1) rfl rfl rfl) ?_)
        obtain ⟨y43, hy43, hr⟩ := lt_some hr
        refine SeqW.consX rfl (StepX.pure (pAssign rfl (congrArg (Value.int .i64) hy43)) ?_)
        refine SeqW.done fun fr44 hf45 => ?_
        have h0 : fr44 0 = (str x0) := (congrFun hf45 0).trans h0
        have h3 : fr44 3 = (Value.int .i64 y43) := (congrFun hf45 3).trans rfl
        clear hf45
        refine thenQ.n ?_
        exact ih hz st h0 h3 hr
    · refine W.condF h7 hc46 ?_
      refine W.exit ?_
      refine thenQ.x ?_
      refine thenQ.x ?_
      obtain rfl := Option.some.inj hr
      exact ⟨z, hz, st, .inl ⟨_, rfl, rfl, trivial⟩⟩

theorem u_r06_Name_2 {N : Nat}  {z0 z : Nat → Blk} {e m : Mem} {k : Option Nat} {fr : Nat → Value} {x0 : List UInt8} (hz : Zx e.next z0 z) (st : St z e m k) (h0 : fr 0 = (str x0)) {r : Bool} (hr : r06_Name_2 N x0 = some r) : W Try.prog (sub (bodyOf Try.f53) [1, 1, 0]) (fun ex fr' m' => ∃ z', Zx e.next z0 z' ∧ St z' e m' k ∧ ex = AExit.normal ∧ fr' 2 = (Value.bool r) ∧ True) fr m := by
  unfold r06_Name_2 at hr
  refine W.region ?_
  refine SeqW.consX rfl (StepX.pure (pMove (v := (str x0)) rfl h0) ?_)
  refine SeqW.consX rfl (StepX.pure (pLenS (s := x0) rfl rfl Try.underlying9 rfl) ?_)
  refine SeqW.consX rfl (StepX.pure (pGeq (k := .i64) (a := (x0.length : Int)) (b := 1) rfl rfl rfl) ?_)
  refine SeqW.consX rfl (StepX.pure (pMove (v := (Value.bool (decide (1 ≤ (x0.length : Int))))) rfl rfl) ?_)
  rcases if_some hr with ⟨hc55, hr⟩ | ⟨hc59, hr⟩
  · refine SeqW.consG rfl rfl rfl hc55 (StepX.pure (pMove (v := (str x0)) rfl h0) ?_)
    refine SeqW.consG rfl rfl rfl hc55 (StepX.pure (pLenS (s := x0) rfl rfl Try.underlying9 rfl) ?_)
    refine SeqW.consG rfl rfl rfl hc55 (StepX.pure (pLeq (k := .i64) (a := (x0.length : Int)) (b := 12) rfl rfl rfl) ?_)
    refine SeqW.consX rfl (StepX.pure (pPick (t := true) (v := (Value.bool (decide ((x0.length : Int) ≤ 12)))) rfl ((congrArg Value.bool hc55)) rfl) ?_)
    obtain ⟨y56, hy56, hr⟩ := lt_some hr
    refine SeqW.consX rfl (StepX.pure (pAssign rfl (congrArg Value.bool hy56)) ?_)
    refine SeqW.done fun fr57 hf58 => ?_
    have h2 : fr57 2 = (Value.bool y56) := (congrFun hf58 2).trans rfl
    clear hf58
    obtain rfl := Option.some.inj hr
    exact ⟨z, hz, st, rfl, h2, trivial⟩
  · refine SeqW.skipG rfl rfl rfl hc59 ?_
    refine SeqW.skipG rfl rfl rfl hc59 ?_
    refine SeqW.skipG rfl rfl rfl hc59 ?_
    refine SeqW.consX rfl (StepX.pure (pPick (t := false) (v := (Value.bool false)) rfl ((congrArg Value.bool hc59)) rfl) ?_)
    refine SeqW.consX rfl (StepX.pure (pAssign (v := (Value.bool false)) rfl rfl) ?_)
    refine SeqW.done fun fr60 hf61 => ?_
    have h2 : fr60 2 = (Value.bool false) := (congrFun hf61 2).trans rfl
    clear hf61
    obtain rfl := Option.some.inj hr
    exact ⟨z, hz, st, rfl, h2, trivial⟩

theorem u_r06_Name {N : Nat}  {z0 z : Nat → Blk} {e m : Mem} {k : Option Nat} {fr : Nat → Value} {x0 : List UInt8} (hz : Zx e.next z0 z) (st : St z e m k) (h0 : fr 0 = (str x0)) {r : Bool} (hr : r06_Name N x0 = some r) : W Try.prog (sub (bodyOf Try.f53) []) (fun ex fr' m' => ∃ z', Zx e.next z0 z' ∧ St z' e m' k ∧ (ex = .normal ∨ ex = .ret) ∧ fr' 2 = (Value.bool r) ∧ True) fr m := by
  unfold r06_Name at hr
  refine W.seq ?_
  refine W.region ?_
  refine SeqW.consX rfl (StepX.pure (pAssign (v := (Value.bool false)) rfl rfl) ?_)
  refine SeqW.done fun fr1 hf2 => ?_
  have h0 : fr1 0 = (str x0) := (congrFun hf2 0).trans h0
  clear hf2
  refine thenQ.n ?_
  refine W.seq ?_
  refine W.seq ?_
  refine W.region ?_
  refine SeqW.consX rfl (StepX.pure (pAssign (v := (Value.int .i64 0)) rfl rfl) ?_)
  refine SeqW.done fun fr3 hf4 => ?_
  have h0 : fr3 0 = (str x0) := (congrFun hf4 0).trans h0
  have h3 : fr3 3 = (Value.int .i64 0) := (congrFun hf4 3).trans rfl
  clear hf4
  refine thenQ.n ?_
  refine W.block ?_
  obtain ⟨y47, hy47, hr⟩ := bind_some hr
  refine W.keep (u_r06_Name_0 _ (Zx.refl _) st h0 h3 hy47) ?_
  rintro ex53 fr48 m49 hk51 ⟨z50, hz52, st, ⟨y54, rfl, rfl, -⟩ | ⟨y69, rfl, rfl, h2, -⟩⟩
  · dsimp only at hr
    have h0 := (hk51 0 rfl).trans h0
    replace hz := hz.trans hz52
    clear hk51
    refine blockQ.hit ?_
    refine thenQ.n ?_
    refine W.seq ?_
    obtain ⟨y62, hy62, hr⟩ := bind_some hr
    refine W.keep (u_r06_Name_2 (Zx.refl _) st h0 hy62) ?_
    rintro ex68 fr63 m64 hk66 ⟨z65, hz67, st, rfl, h2, -⟩
    replace hz := hz.trans hz67
    clear hk66
    refine thenQ.n ?_
    refine W.ret ?_
    obtain rfl := Option.some.inj hr
    exact ⟨z65, hz, st, .inr rfl, h2, trivial⟩
  · dsimp only at hr
    replace hz := hz.trans hz52
    clear hk51
    refine blockQ.r ?_
    refine thenQ.r ?_
    obtain rfl := Option.some.inj hr
    exact ⟨z50, hz, st, .inr rfl, h2, trivial⟩

theorem c_r06_Name {N : Nat} {z : Nat → Blk} {m : Mem} {x0 : List UInt8} (fz : Fz z m) (hd : ∀ b, m.next ≤ b → m.blk b = .dead)  {r : Bool} (hr : r06_Name N x0 = some r) : CallW Try.prog 53 #[(str x0)] m fun v m' => v = (Value.bool r) ∧ m' = m := by
  refine CallW.flat Try.func53 rfl (by kernel_rfl) (Nat.le_of_ble_eq_true rfl) rfl (z := z) (fun fr hf => ?_)
  have h0 : fr 0 = _ := hf 0 _ rfl
  refine (u_r06_Name (k := none) (Zx.refl _) (St.start fz hd) h0 hr).mono ?_
  rintro ex fr' m' ⟨z', hz, st, he, h2, -⟩
  exact ⟨he, z', st, [(Value.bool r)], ⟨h2.symm, trivial⟩, .inl rfl, rfl⟩

/-! ### humpyard/humpyardref06.Valid -/

theorem u_r06_Valid_0 {N : Nat}  {z0 z : Nat → Blk} {e m : Mem} {k : Option Nat} {fr : Nat → Value} {x5 : Int} {x6 : Int} {x16 : Int} {x1 : Wagon} {b1 : Nat} (hz : Zx e.next z0 z) (st : St z e m k) (h1 : fr 1 = (Value.pointer (some ⟨b1, 0, none⟩))) (bx1 : Bx z e m k b1 [(str x1.number), (Value.int .i64 x1.length), (Value.int .i64 x1.axles), (Value.int .i64 x1.mass), (Value.int .i64 x1.brake), (Value.int .i64 x1.goods), (Value.bool x1.gentle), (str x1.dest)] 48) (h5 : fr 5 = (Value.int .i64 x5)) (h6 : fr 6 = (Value.int .i64 x6)) (h16 : fr 16 = (Value.int .i64 x16)) {r : Int × Int} (hr : r06_Valid_0 N x5 x6 x16 = some r) : W Try.prog (sub (bodyOf Try.f46) [1, 1, 1, 1, 0, 1]) (fun ex fr' m' => ∃ z', Zx e.next z0 z' ∧ St z' e m' k ∧ ex = AExit.normal ∧ fr' 5 = (Value.int .i64 r.1) ∧ fr' 6 = (Value.int .i64 r.2) ∧ Bx z' e m' k b1 [(str x1.number), (Value.int .i64 x1.length), (Value.int .i64 x1.axles), (Value.int .i64 x1.mass), (Value.int .i64 x1.brake), (Value.int .i64 x1.goods), (Value.bool x1.gentle), (str x1.dest)] 48 ∧ True) fr m := by
  unfold r06_Valid_0 at hr
  refine W.block ?_
  refine W.seq ?_
  refine W.region ?_
  refine SeqW.consX rfl (StepX.pure (pEql (k := .i64) (a := x16) (b := 2) rfl h16 rfl) ?_)
  obtain ⟨y22, hy22, hr⟩ := lt_some hr
  refine SeqW.consX rfl (StepX.pure (pAssign rfl (congrArg Value.bool hy22)) ?_)
  refine SeqW.done fun fr23 hf24 => ?_
  have h1 : fr23 1 = (Value.pointer (some ⟨b1, 0, none⟩)) := (congrFun hf24 1).trans h1
  have h5 : fr23 5 = (Value.int .i64 x5) := (congrFun hf24 5).trans h5
  have h6 : fr23 6 = (Value.int .i64 x6) := (congrFun hf24 6).trans h6
  have h16 : fr23 16 = (Value.int .i64 x16) := (congrFun hf24 16).trans h16
  have h17 : fr23 17 = (Value.bool y22) := (congrFun hf24 17).trans rfl
  clear hf24
  refine thenQ.n ?_
  rcases if_some hr with ⟨hc25, hr⟩ | ⟨hc28, hr⟩
  · refine W.condT h17 hc25 ?_
    refine W.region ?_
    refine SeqW.consX rfl (StepX.pure (pAssign (v := (Value.int .i64 2)) rfl rfl) ?_)
    refine SeqW.done fun fr26 hf27 => ?_
    have h1 : fr26 1 = (Value.pointer (some ⟨b1, 0, none⟩)) := (congrFun hf27 1).trans h1
    have h5 : fr26 5 = (Value.int .i64 2) := (congrFun hf27 5).trans rfl
    have h6 : fr26 6 = (Value.int .i64 x6) := (congrFun hf27 6).trans h6
    clear hf27
    refine blockQ.n ?_
    obtain rfl := Option.some.inj hr
    exact ⟨z, hz, st, rfl, h5, h6, bx1, trivial⟩
  · refine W.condF h17 hc28 ?_
    refine W.seq ?_
    refine W.region ?_
    refine SeqW.consX rfl (StepX.pure (pEql (k := .i64) (a := x16) (b := 3) rfl h16 rfl) ?_)
    obtain ⟨y29, hy29, hr⟩ := lt_some hr
    refine SeqW.consX rfl (StepX.pure (pAssign rfl (congrArg Value.bool hy29)) ?_)
    refine SeqW.done fun fr30 hf31 => ?_
    have h1 : fr30 1 = (Value.pointer (some ⟨b1, 0, none⟩)) := (congrFun hf31 1).trans h1
    have h5 : fr30 5 = (Value.int .i64 x5) := (congrFun hf31 5).trans h5
    have h6 : fr30 6 = (Value.int .i64 x6) := (congrFun hf31 6).trans h6
    have h19 : fr30 19 = (Value.bool y29) := (congrFun hf31 19).trans rfl
    clear hf31
    refine thenQ.n ?_
    rcases if_some hr with ⟨hc32, hr⟩ | ⟨hc35, hr⟩
    · refine W.condT h19 hc32 ?_
      refine W.region ?_
      refine SeqW.consX rfl (StepX.pure (pAssign (v := (Value.int .i64 6)) rfl rfl) ?_)
      refine SeqW.consX rfl (StepX.pure (pAssign (v := (Value.int .i64 120)) rfl rfl) ?_)
      refine SeqW.done fun fr33 hf34 => ?_
      have h1 : fr33 1 = (Value.pointer (some ⟨b1, 0, none⟩)) := (congrFun hf34 1).trans h1
      have h5 : fr33 5 = (Value.int .i64 6) := (congrFun hf34 5).trans rfl
      have h6 : fr33 6 = (Value.int .i64 120) := (congrFun hf34 6).trans rfl
      clear hf34
      refine blockQ.n ?_
      obtain rfl := Option.some.inj hr
      exact ⟨z, hz, st, rfl, h5, h6, bx1, trivial⟩
    · refine W.condF h19 hc35 ?_
      refine W.skip ?_
      refine blockQ.n ?_
      obtain rfl := Option.some.inj hr
      exact ⟨z, hz, st, rfl, h5, h6, bx1, trivial⟩

theorem u_r06_Valid_1 {N : Nat}  {z0 z : Nat → Blk} {e m : Mem} {k : Option Nat} {fr : Nat → Value} {x1 : Wagon} {x6 : Int} {b1 : Nat} (hz : Zx e.next z0 z) (st : St z e m k) (h1 : fr 1 = (Value.pointer (some ⟨b1, 0, none⟩))) (bx1 : Bx z e m k b1 [(str x1.number), (Value.int .i64 x1.length), (Value.int .i64 x1.axles), (Value.int .i64 x1.mass), (Value.int .i64 x1.brake), (Value.int .i64 x1.goods), (Value.bool x1.gentle), (str x1.dest)] 48) (h6 : fr 6 = (Value.int .i64 x6)) {r : Bool} (hr : r06_Valid_1 N x1 x6 = some r) : W Try.prog (sub (bodyOf Try.f46) [1, 1, 1, 1, 1, 0, 0, 1, 1, 0]) (fun ex fr' m' => ∃ z', Zx e.next z0 z' ∧ St z' e m' k ∧ ex = AExit.normal ∧ fr' 26 = (Value.bool r) ∧ Bx z' e m' k b1 [(str x1.number), (Value.int .i64 x1.length), (Value.int .i64 x1.axles), (Value.int .i64 x1.mass), (Value.int .i64 x1.brake), (Value.int .i64 x1.goods), (Value.bool x1.gentle), (str x1.dest)] 48 ∧ True) fr m := by
  unfold r06_Valid_1 at hr
  refine W.region ?_
  refine SeqW.consX rfl (kField rfl Try.underlying48 rfl Try.type3 rfl h1 rfl ?_)
  refine SeqW.consX rfl (kLoad rfl Try.underlying3 rfl rfl (bx1.load (v := (Value.int .i64 x1.length)) rfl) ?_)
  refine SeqW.consX rfl (StepX.pure (pMove (v := (Value.int .i64 x6)) rfl h6) ?_)
  refine SeqW.consX rfl (StepX.pure (pLss (k := .i64) (a := x1.length) (b := x6) rfl rfl rfl) ?_)
  refine SeqW.consX rfl (StepX.pure (pMove (v := (Value.bool (decide (x1.length < x6)))) rfl rfl) ?_)
  rcases if_some hr with ⟨hc51, hr⟩ | ⟨hc54, hr⟩
  · refine SeqW.skipG rfl rfl rfl hc51 ?_
    refine SeqW.skipG rfl rfl rfl hc51 ?_
    refine SeqW.skipG rfl rfl rfl hc51 ?_
    refine SeqW.consX rfl (StepX.pure (pPick (t := true) (v := (Value.bool true)) rfl ((congrArg Value.bool hc51)) rfl) ?_)
    refine SeqW.consX rfl (StepX.pure (pMove (v := (Value.bool true)) rfl rfl) ?_)
    refine SeqW.skipG rfl rfl rfl rfl ?_
    refine SeqW.skipG rfl rfl rfl rfl ?_
    refine SeqW.skipG rfl rfl rfl rfl ?_
    refine SeqW.consX rfl (StepX.pure (pPick (t := true) (v := (Value.bool true)) rfl ((congrArg Value.bool (rfl : true = true))) rfl) ?_)
    refine SeqW.consX rfl (StepX.pure (pMove (v := (Value.bool true)) rfl rfl) ?_)
    refine SeqW.skipG rfl rfl rfl rfl ?_
    refine SeqW.skipG rfl rfl rfl rfl ?_
    refine SeqW.skipG rfl rfl rfl rfl ?_
    refine SeqW.consX rfl (StepX.pure (pPick (t := true) (v := (Value.bool true)) rfl ((congrArg Value.bool (rfl : true = true))) rfl) ?_)
    refine SeqW.consX rfl (StepX.pure (pMove (v := (Value.bool true)) rfl rfl) ?_)
    refine SeqW.skipG rfl rfl rfl rfl ?_
    refine SeqW.skipG rfl rfl rfl rfl ?_
    refine SeqW.skipG rfl rfl rfl rfl ?_
    refine SeqW.consX rfl (StepX.pure (pPick (t := true) (v := (Value.bool true)) rfl ((congrArg Value.bool (rfl : true = true))) rfl) ?_)
    refine SeqW.consX rfl (StepX.pure (pMove (v := (Value.bool true)) rfl rfl) ?_)
    refine SeqW.skipG rfl rfl rfl rfl ?_
    refine SeqW.skipG rfl rfl rfl rfl ?_
    refine SeqW.skipG rfl rfl rfl rfl ?_
    refine SeqW.skipG rfl rfl rfl rfl ?_
    refine SeqW.skipG rfl rfl rfl rfl ?_
    refine SeqW.consX rfl (StepX.pure (pPick (t := true) (v := (Value.bool true)) rfl ((congrArg Value.bool (rfl : true = true))) rfl) ?_)
    refine SeqW.consX rfl (StepX.pure (pMove (v := (Value.bool true)) rfl rfl) ?_)
    refine SeqW.skipG rfl rfl rfl rfl ?_
    refine SeqW.skipG rfl rfl rfl rfl ?_
    refine SeqW.skipG rfl rfl rfl rfl ?_
    refine SeqW.consX rfl (StepX.pure (pPick (t := true) (v := (Value.bool true)) rfl ((congrArg Value.bool (rfl : true = true))) rfl) ?_)
    refine SeqW.consX rfl (StepX.pure (pMove (v := (Value.bool true)) rfl rfl) ?_)
    refine SeqW.skipG rfl rfl rfl rfl ?_
    refine SeqW.skipG rfl rfl rfl rfl ?_
    refine SeqW.skipG rfl rfl rfl rfl ?_
    refine SeqW.consX rfl (StepX.pure (pPick (t := true) (v := (Value.bool true)) rfl ((congrArg Value.bool (rfl : true = true))) rfl) ?_)
    refine SeqW.consX rfl (StepX.pure (pAssign (v := (Value.bool true)) rfl rfl) ?_)
    refine SeqW.done fun fr52 hf53 => ?_
    have h1 : fr52 1 = (Value.pointer (some ⟨b1, 0, none⟩)) := (congrFun hf53 1).trans h1
    have h26 : fr52 26 = (Value.bool true) := (congrFun hf53 26).trans rfl
    clear hf53
    obtain rfl := Option.some.inj hr
    exact ⟨z, hz, st, rfl, h26, bx1, trivial⟩
  · refine SeqW.consG rfl rfl rfl hc54 (kField rfl Try.underlying48 rfl Try.type3 rfl h1 rfl ?_)
    refine SeqW.consG rfl rfl rfl hc54 (kLoad rfl Try.underlying3 rfl rfl (bx1.load (v := (Value.int .i64 x1.length)) rfl) ?_)
    refine SeqW.consG rfl rfl rfl hc54 (StepX.pure (pGtr (k := .i64) (a := x1.length) (b := 400) rfl rfl rfl) ?_)
    refine SeqW.consX rfl (StepX.pure (pPick (t := false) (v := (Value.bool (decide (400 < x1.length)))) rfl ((congrArg Value.bool hc54)) rfl) ?_)
    refine SeqW.consX rfl (StepX.pure (pMove (v := (Value.bool (decide (400 < x1.length)))) rfl rfl) ?_)
    rcases if_some hr with ⟨hc55, hr⟩ | ⟨hc58, hr⟩
    · refine SeqW.skipG rfl rfl rfl hc55 ?_
      refine SeqW.skipG rfl rfl rfl hc55 ?_
      refine SeqW.skipG rfl rfl rfl hc55 ?_
      refine SeqW.consX rfl (StepX.pure (pPick (t := true) (v := (Value.bool true)) rfl ((congrArg Value.bool hc55)) rfl) ?_)
      refine SeqW.consX rfl (StepX.pure (pMove (v := (Value.bool true)) rfl rfl) ?_)
      refine SeqW.skipG rfl rfl rfl rfl ?_
      refine SeqW.skipG rfl rfl rfl rfl ?_
      refine SeqW.skipG rfl rfl rfl rfl ?_
      refine SeqW.consX rfl (StepX.pure (pPick (t := true) (v := (Value.bool true)) rfl ((congrArg Value.bool (rfl : true = true))) rfl) ?_)
      refine SeqW.consX rfl (StepX.pure (pMove (v := (Value.bool true)) rfl rfl) ?_)
      refine SeqW.skipG rfl rfl rfl rfl ?_
      refine SeqW.skipG rfl rfl rfl rfl ?_
      refine SeqW.skipG rfl rfl rfl rfl ?_
      refine SeqW.consX rfl (StepX.pure (pPick (t := true) (v := (Value.bool true)) rfl ((congrArg Value.bool (rfl : true = true))) rfl) ?_)
      refine SeqW.consX rfl (StepX.pure (pMove (v := (Value.bool true)) rfl rfl) ?_)
      refine SeqW.skipG rfl rfl rfl rfl ?_
      refine SeqW.skipG rfl rfl rfl rfl ?_
      refine SeqW.skipG rfl rfl rfl rfl ?_
      refine SeqW.skipG rfl rfl rfl rfl ?_
      refine SeqW.skipG rfl rfl rfl rfl ?_
      refine SeqW.consX rfl (StepX.pure (pPick (t := true) (v := (Value.bool true)) rfl ((congrArg Value.bool (rfl : true = true))) rfl) ?_)
      refine SeqW.consX rfl (StepX.pure (pMove (v := (Value.bool true)) rfl rfl) ?_)
      refine SeqW.skipG rfl rfl rfl rfl ?_
      refine SeqW.skipG rfl rfl rfl rfl ?_
      refine SeqW.skipG rfl rfl rfl rfl ?_
      refine SeqW.consX rfl (StepX.pure (pPick (t := true) (v := (Value.bool true)) rfl ((congrArg Value.bool (rfl : true = true))) rfl) ?_)
      refine SeqW.consX rfl (StepX.pure (pMove (v := (Value.bool true)) rfl rfl) ?_)
      refine SeqW.skipG rfl rfl rfl rfl ?_
      refine SeqW.skipG rfl rfl rfl rfl ?_
      refine SeqW.skipG rfl rfl rfl rfl ?_
      refine SeqW.consX rfl (StepX.pure (pPick (t := true) (v := (Value.bool true)) rfl ((congrArg Value.bool (rfl : true = true))) rfl) ?_)
      refine SeqW.consX rfl (StepX.pure (pAssign (v := (Value.bool true)) rfl rfl) ?_)
      refine SeqW.done fun fr56 hf57 => ?_
      have h1 : fr56 1 = (Value.pointer (some ⟨b1, 0, none⟩)) := (congrFun hf57 1).trans h1
      have h26 : fr56 26 = (Value.bool true) := (congrFun hf57 26).trans rfl
      clear hf57
      obtain rfl := Option.some.inj hr
      exact ⟨z, hz, st, rfl, h26, bx1, trivial⟩
    · refine SeqW.consG rfl rfl rfl hc58 (kField rfl Try.underlying48 rfl Try.type3 rfl h1 rfl ?_)
      refine SeqW.consG rfl rfl rfl hc58 (kLoad rfl Try.underlying3 rfl rfl (bx1.load (v := (Value.int .i64 x1.mass)) rfl) ?_)
      refine SeqW.consG rfl rfl rfl hc58 (StepX.pure (pLss (k := .i64) (a := x1.mass) (b := 50) rfl rfl rfl) ?_)
      refine SeqW.consX rfl (StepX.pure (pPick (t := false) (v := (Value.bool (decide (x1.mass < 50)))) rfl ((congrArg Value.bool hc58)) rfl) ?_)
      refine SeqW.consX rfl (StepX.pure (pMove (v := (Value.bool (decide (x1.mass < 50)))) rfl rfl) ?_)
      rcases if_some hr with ⟨hc59, hr⟩ | ⟨hc62, hr⟩
      · refine SeqW.skipG rfl rfl rfl hc59 ?_
        refine SeqW.skipG rfl rfl rfl hc59 ?_
        refine SeqW.skipG rfl rfl rfl hc59 ?_
        refine SeqW.consX rfl (StepX.pure (pPick (t := true) (v := (Value.bool true)) rfl ((congrArg Value.bool hc59)) rfl) ?_)
        refine SeqW.consX rfl (StepX.pure (pMove (v := (Value.bool true)) rfl rfl) ?_)
        refine SeqW.skipG rfl rfl rfl rfl ?_
        refine SeqW.skipG rfl rfl rfl rfl ?_
        refine SeqW.skipG rfl rfl rfl rfl ?_
        refine SeqW.consX rfl (StepX.pure (pPick (t := true) (v := (Value.bool true)) rfl ((congrArg Value.bool (rfl : true = true))) rfl) ?_)
        refine SeqW.consX rfl (StepX.pure (pMove (v := (Value.bool true)) rfl rfl) ?_)
        refine SeqW.skipG rfl rfl rfl rfl ?_
        refine SeqW.skipG rfl rfl rfl rfl ?_
        refine SeqW.skipG rfl rfl rfl rfl ?_
        refine SeqW.skipG rfl rfl rfl rfl ?_
        refine SeqW.skipG rfl rfl rfl rfl ?_
        refine SeqW.consX rfl (StepX.pure (pPick (t := true) (v := (Value.bool true)) rfl ((congrArg Value.bool (rfl : true = true))) rfl) ?_)
        refine SeqW.consX rfl (StepX.pure (pMove (v := (Value.bool true)) rfl rfl) ?_)
        refine SeqW.skipG rfl rfl rfl rfl ?_
        refine SeqW.skipG rfl rfl rfl rfl ?_
        refine SeqW.skipG rfl rfl rfl rfl ?_
        refine SeqW.consX rfl (StepX.pure (pPick (t := true) (v := (Value.bool true)) rfl ((congrArg Value.bool (rfl : true = true))) rfl) ?_)
        refine SeqW.consX rfl (StepX.pure (pMove (v := (Value.bool true)) rfl rfl) ?_)
        refine SeqW.skipG rfl rfl rfl rfl ?_
        refine SeqW.skipG rfl rfl rfl rfl ?_
        refine SeqW.skipG rfl rfl rfl rfl ?_
        refine SeqW.consX rfl (StepX.pure (pPick (t := true) (v := (Value.bool true)) rfl ((congrArg Value.bool (rfl : true = true))) rfl) ?_)
        refine SeqW.consX rfl (StepX.pure (pAssign (v := (Value.bool true)) rfl rfl) ?_)
        refine SeqW.done fun fr60 hf61 => ?_
        have h1 : fr60 1 = (Value.pointer (some ⟨b1, 0, none⟩)) := (congrFun hf61 1).trans h1
        have h26 : fr60 26 = (Value.bool true) := (congrFun hf61 26).trans rfl
        clear hf61
        obtain rfl := Option.some.inj hr
        exact ⟨z, hz, st, rfl, h26, bx1, trivial⟩
      · refine SeqW.consG rfl rfl rfl hc62 (kField rfl Try.underlying48 rfl Try.type3 rfl h1 rfl ?_)
        refine SeqW.consG rfl rfl rfl hc62 (kLoad rfl Try.underlying3 rfl rfl (bx1.load (v := (Value.int .i64 x1.mass)) rfl) ?_)
        refine SeqW.consG rfl rfl rfl hc62 (StepX.pure (pGtr (k := .i64) (a := x1.mass) (b := 2000) rfl rfl rfl) ?_)
        refine SeqW.consX rfl (StepX.pure (pPick (t := false) (v := (Value.bool (decide (2000 < x1.mass)))) rfl ((congrArg Value.bool hc62)) rfl) ?_)
        refine SeqW.consX rfl (StepX.pure (pMove (v := (Value.bool (decide (2000 < x1.mass)))) rfl rfl) ?_)
        rcases if_some hr with ⟨hc63, hr⟩ | ⟨hc66, hr⟩
        · refine SeqW.skipG rfl rfl rfl hc63 ?_
          refine SeqW.skipG rfl rfl rfl hc63 ?_
          refine SeqW.skipG rfl rfl rfl hc63 ?_
          refine SeqW.consX rfl (StepX.pure (pPick (t := true) (v := (Value.bool true)) rfl ((congrArg Value.bool hc63)) rfl) ?_)
          refine SeqW.consX rfl (StepX.pure (pMove (v := (Value.bool true)) rfl rfl) ?_)
          refine SeqW.skipG rfl rfl rfl rfl ?_
          refine SeqW.skipG rfl rfl rfl rfl ?_
          refine SeqW.skipG rfl rfl rfl rfl ?_
          refine SeqW.skipG rfl rfl rfl rfl ?_
          refine SeqW.skipG rfl rfl rfl rfl ?_
          refine SeqW.consX rfl (StepX.pure (pPick (t := true) (v := (Value.bool true)) rfl ((congrArg Value.bool (rfl : true = true))) rfl) ?_)
          refine SeqW.consX rfl (StepX.pure (pMove (v := (Value.bool true)) rfl rfl) ?_)
          refine SeqW.skipG rfl rfl rfl rfl ?_
          refine SeqW.skipG rfl rfl rfl rfl ?_
          refine SeqW.skipG rfl rfl rfl rfl ?_
          refine SeqW.consX rfl (StepX.pure (pPick (t := true) (v := (Value.bool true)) rfl ((congrArg Value.bool (rfl : true = true))) rfl) ?_)
          refine SeqW.consX rfl (StepX.pure (pMove (v := (Value.bool true)) rfl rfl) ?_)
          refine SeqW.skipG rfl rfl rfl rfl ?_
          refine SeqW.skipG rfl rfl rfl rfl ?_
          refine SeqW.skipG rfl rfl rfl rfl ?_
          refine SeqW.consX rfl (StepX.pure (pPick (t := true) (v := (Value.bool true)) rfl ((congrArg Value.bool (rfl : true = true))) rfl) ?_)
          refine SeqW.consX rfl (StepX.pure (pAssign (v := (Value.bool true)) rfl rfl) ?_)
          refine SeqW.done fun fr64 hf65 => ?_
          have h1 : fr64 1 = (Value.pointer (some ⟨b1, 0, none⟩)) := (congrFun hf65 1).trans h1
          have h26 : fr64 26 = (Value.bool true) := (congrFun hf65 26).trans rfl
          clear hf65
          obtain rfl := Option.some.inj hr
          exact ⟨z, hz, st, rfl, h26, bx1, trivial⟩
        · refine SeqW.consG rfl rfl rfl hc66 (kField rfl Try.underlying48 rfl Try.type3 rfl h1 rfl ?_)
          refine SeqW.consG rfl rfl rfl hc66 (kLoad rfl Try.underlying3 rfl rfl (bx1.load (v := (Value.int .i64 x1.brake)) rfl) ?_)
          refine SeqW.consG rfl rfl rfl hc66 (StepX.pure (pLss (k := .i64) (a := x1.brake) (b := 0) rfl rfl rfl) ?_)
          refine SeqW.consX rfl (StepX.pure (pPick (t := false) (v := (Value.bool (decide (x1.brake < 0)))) rfl ((congrArg Value.bool hc66)) rfl) ?_)
          refine SeqW.consX rfl (StepX.pure (pMove (v := (Value.bool (decide (x1.brake < 0)))) rfl rfl) ?_)
          rcases if_some hr with ⟨hc67, hr⟩ | ⟨hc70, hr⟩
          · refine SeqW.skipG rfl rfl rfl hc67 ?_
            refine SeqW.skipG rfl rfl rfl hc67 ?_
            refine SeqW.skipG rfl rfl rfl hc67 ?_
            refine SeqW.skipG rfl rfl rfl hc67 ?_
            refine SeqW.skipG rfl rfl rfl hc67 ?_
            refine SeqW.consX rfl (StepX.pure (pPick (t := true) (v := (Value.bool true)) rfl ((congrArg Value.bool hc67)) rfl) ?_)
            refine SeqW.consX rfl (StepX.pure (pMove (v := (Value.bool true)) rfl rfl) ?_)
            refine SeqW.skipG rfl rfl rfl rfl ?_
            refine SeqW.skipG rfl rfl rfl rfl ?_
            refine SeqW.skipG rfl rfl rfl rfl ?_
            refine SeqW.consX rfl (StepX.pure (pPick (t := true) (v := (Value.bool true)) rfl ((congrArg Value.bool (rfl : true = true))) rfl) ?_)
            refine SeqW.consX rfl (StepX.pure (pMove (v := (Value.bool true)) rfl rfl) ?_)
            refine SeqW.skipG rfl rfl rfl rfl ?_
            refine SeqW.skipG rfl rfl rfl rfl ?_
            refine SeqW.skipG rfl rfl rfl rfl ?_
            refine SeqW.consX rfl (StepX.pure (pPick (t := true) (v := (Value.bool true)) rfl ((congrArg Value.bool (rfl : true = true))) rfl) ?_)
            refine SeqW.consX rfl (StepX.pure (pAssign (v := (Value.bool true)) rfl rfl) ?_)
            refine SeqW.done fun fr68 hf69 => ?_
            have h1 : fr68 1 = (Value.pointer (some ⟨b1, 0, none⟩)) := (congrFun hf69 1).trans h1
            have h26 : fr68 26 = (Value.bool true) := (congrFun hf69 26).trans rfl
            clear hf69
            obtain rfl := Option.some.inj hr
            exact ⟨z, hz, st, rfl, h26, bx1, trivial⟩
          · refine SeqW.consG rfl rfl rfl hc70 (kField rfl Try.underlying48 rfl Try.type3 rfl h1 rfl ?_)
            refine SeqW.consG rfl rfl rfl hc70 (kLoad rfl Try.underlying3 rfl rfl (bx1.load (v := (Value.int .i64 x1.brake)) rfl) ?_)
            refine SeqW.consG rfl rfl rfl hc70 (kField rfl Try.underlying48 rfl Try.type3 rfl h1 rfl ?_)
            refine SeqW.consG rfl rfl rfl hc70 (kLoad rfl Try.underlying3 rfl rfl (bx1.load (v := (Value.int .i64 x1.mass)) rfl) ?_)
            refine SeqW.consG rfl rfl rfl hc70 (StepX.pure (pGtr (k := .i64) (a := x1.brake) (b := x1.mass) rfl rfl rfl) ?_)
            refine SeqW.consX rfl (StepX.pure (pPick (t := false) (v := (Value.bool (decide (x1.mass < x1.brake)))) rfl ((congrArg Value.bool hc70)) rfl) ?_)
            refine SeqW.consX rfl (StepX.pure (pMove (v := (Value.bool (decide (x1.mass < x1.brake)))) rfl rfl) ?_)
            rcases if_some hr with ⟨hc71, hr⟩ | ⟨hc74, hr⟩
            · refine SeqW.skipG rfl rfl rfl hc71 ?_
              refine SeqW.skipG rfl rfl rfl hc71 ?_
              refine SeqW.skipG rfl rfl rfl hc71 ?_
              refine SeqW.consX rfl (StepX.pure (pPick (t := true) (v := (Value.bool true)) rfl ((congrArg Value.bool hc71)) rfl) ?_)
              refine SeqW.consX rfl (StepX.pure (pMove (v := (Value.bool true)) rfl rfl) ?_)
              refine SeqW.skipG rfl rfl rfl rfl ?_
              refine SeqW.skipG rfl rfl rfl rfl ?_
              refine SeqW.skipG rfl rfl rfl rfl ?_
              refine SeqW.consX rfl (StepX.pure (pPick (t := true) (v := (Value.bool true)) rfl ((congrArg Value.bool (rfl : true = true))) rfl) ?_)
              refine SeqW.consX rfl (StepX.pure (pAssign (v := (Value.bool true)) rfl rfl) ?_)
              refine SeqW.done fun fr72 hf73 => ?_
              have h1 : fr72 1 = (Value.pointer (some ⟨b1, 0, none⟩)) := (congrFun hf73 1).trans h1
              have h26 : fr72 26 = (Value.bool true) := (congrFun hf73 26).trans rfl
              clear hf73
              obtain rfl := Option.some.inj hr
              exact ⟨z, hz, st, rfl, h26, bx1, trivial⟩
            · refine SeqW.consG rfl rfl rfl hc74 (kField rfl Try.underlying48 rfl Try.type3 rfl h1 rfl ?_)
              refine SeqW.consG rfl rfl rfl hc74 (kLoad rfl Try.underlying3 rfl rfl (bx1.load (v := (Value.int .i64 x1.goods)) rfl) ?_)
              refine SeqW.consG rfl rfl rfl hc74 (StepX.pure (pLss (k := .i64) (a := x1.goods) (b := 0) rfl rfl rfl) ?_)
              refine SeqW.consX rfl (StepX.pure (pPick (t := false) (v := (Value.bool (decide (x1.goods < 0)))) rfl ((congrArg Value.bool hc74)) rfl) ?_)
              refine SeqW.consX rfl (StepX.pure (pMove (v := (Value.bool (decide (x1.goods < 0)))) rfl rfl) ?_)
              rcases if_some hr with ⟨hc75, hr⟩ | ⟨hc78, hr⟩
              · refine SeqW.skipG rfl rfl rfl hc75 ?_
                refine SeqW.skipG rfl rfl rfl hc75 ?_
                refine SeqW.skipG rfl rfl rfl hc75 ?_
                refine SeqW.consX rfl (StepX.pure (pPick (t := true) (v := (Value.bool true)) rfl ((congrArg Value.bool hc75)) rfl) ?_)
                refine SeqW.consX rfl (StepX.pure (pAssign (v := (Value.bool true)) rfl rfl) ?_)
                refine SeqW.done fun fr76 hf77 => ?_
                have h1 : fr76 1 = (Value.pointer (some ⟨b1, 0, none⟩)) := (congrFun hf77 1).trans h1
                have h26 : fr76 26 = (Value.bool true) := (congrFun hf77 26).trans rfl
                clear hf77
                obtain rfl := Option.some.inj hr
                exact ⟨z, hz, st, rfl, h26, bx1, trivial⟩
              · refine SeqW.consG rfl rfl rfl hc78 (kField rfl Try.underlying48 rfl Try.type3 rfl h1 rfl ?_)
                refine SeqW.consG rfl rfl rfl hc78 (kLoad rfl Try.underlying3 rfl rfl (bx1.load (v := (Value.int .i64 x1.goods)) rfl) ?_)
                refine SeqW.consG rfl rfl rfl hc78 (StepX.pure (pGtr (k := .i64) (a := x1.goods) (b := 9) rfl rfl rfl) ?_)
                refine SeqW.consX rfl (StepX.pure (pPick (t := false) (v := (Value.bool (decide (9 < x1.goods)))) rfl ((congrArg Value.bool hc78)) rfl) ?_)
                obtain ⟨y79, hy79, hr⟩ := lt_some hr
                refine SeqW.consX rfl (StepX.pure (pAssign rfl (congrArg Value.bool hy79)) ?_)
                refine SeqW.done fun fr80 hf81 => ?_
                have h1 : fr80 1 = (Value.pointer (some ⟨b1, 0, none⟩)) := (congrFun hf81 1).trans h1
                have h26 : fr80 26 = (Value.bool y79) := (congrFun hf81 26).trans rfl
                clear hf81
                obtain rfl := Option.some.inj hr
                exact ⟨z, hz, st, rfl, h26, bx1, trivial⟩

theorem u_r06_Valid {N : Nat}  {z0 z : Nat → Blk} {e m : Mem} {k : Option Nat} {fr : Nat → Value} {x0 : Wagon} (hz : Zx e.next z0 z) (st : St z e m k) (h0 : fr 0 = (Value.agg [(str x0.number), (Value.int .i64 x0.length), (Value.int .i64 x0.axles), (Value.int .i64 x0.mass), (Value.int .i64 x0.brake), (Value.int .i64 x0.goods), (Value.bool x0.gentle), (str x0.dest)].toArray)) {r : Int} (hr : r06_Valid N x0 = some r) : W Try.prog (sub (bodyOf Try.f46) []) (fun ex fr' m' => ∃ z', Zx e.next z0 z' ∧ St z' e m' k ∧ (ex = .normal ∨ ex = .ret) ∧ fr' 2 = (Value.int .i64 r) ∧ True) fr m := by
  unfold r06_Valid at hr
  refine W.seq ?_
  refine W.region ?_
  refine SeqW.consX rfl (kBox (v := (Value.agg [(str x0.number), (Value.int .i64 x0.length), (Value.int .i64 x0.axles), (Value.int .i64 x0.mass), (Value.int .i64 x0.brake), (Value.int .i64 x0.goods), (Value.bool x0.gentle), (str x0.dest)].toArray)) rfl Try.type48 h0 rfl [(str x0.number), (Value.int .i64 x0.length), (Value.int .i64 x0.axles), (Value.int .i64 x0.mass), (Value.int .i64 x0.brake), (Value.int .i64 x0.goods), (Value.bool x0.gentle), (str x0.dest)] rfl rfl st ?_)
  intro B1 m2 st X3 sm4 hap5
  refine SeqW.consX rfl (StepX.pure (pAssign (v := (Value.int .i64 0)) rfl rfl) ?_)
  refine SeqW.done fun fr7 hf8 => ?_
  have h1 : fr7 1 = (Value.pointer (some ⟨B1, 0, none⟩)) := (congrFun hf8 1).trans rfl
  clear hf8
  refine thenQ.n ?_
  refine W.seq ?_
  refine W.region ?_
  refine SeqW.consX rfl (kField rfl Try.underlying48 rfl Try.type9 rfl h1 rfl ?_)
  refine SeqW.consX rfl (kLoad rfl Try.underlying9 rfl rfl (X3.load (v := (str x0.number)) rfl) ?_)
  obtain ⟨y9, hy9, hr⟩ := bind_some hr
  refine SeqW.consX rfl (StepX.call (gCallee rfl rfl (args1 rfl)) ((c_r02_Kind (z := z) st.fz st.dead  hy9).mono ?_))
  rintro _ _ ⟨rfl, rfl⟩
  refine SeqW.consX rfl (StepX.pure (pMove (v := (Value.tuple [(Value.int .i64 y9.1), (Value.int .i64 y9.2)].toArray)) rfl rfl) ?_)
  refine SeqW.consX rfl (StepX.pure (pExtract (vs := [(Value.int .i64 y9.1), (Value.int .i64 y9.2)]) (v := (Value.int .i64 y9.1)) rfl rfl rfl) ?_)
  refine SeqW.consX rfl (StepX.pure (pExtract (vs := [(Value.int .i64 y9.1), (Value.int .i64 y9.2)]) (v := (Value.int .i64 y9.2)) rfl rfl rfl) ?_)
  refine SeqW.consX rfl (StepX.pure (pAssign (v := (Value.int .i64 y9.1)) rfl rfl) ?_)
  refine SeqW.consX rfl (StepX.pure (pAssign (v := (Value.int .i64 y9.2)) rfl rfl) ?_)
  refine SeqW.done fun fr10 hf11 => ?_
  have h1 : fr10 1 = (Value.pointer (some ⟨B1, 0, none⟩)) := (congrFun hf11 1).trans h1
  have h3 : fr10 3 = (Value.int .i64 y9.1) := (congrFun hf11 3).trans rfl
  have h4 : fr10 4 = (Value.int .i64 y9.2) := (congrFun hf11 4).trans rfl
  clear hf11
  refine thenQ.n ?_
  refine W.seq ?_
  refine W.seq ?_
  refine W.region ?_
  refine SeqW.consX rfl (StepX.pure (pMove (v := (Value.int .i64 y9.2)) rfl h4) ?_)
  refine SeqW.consX rfl (StepX.pure (pNeq (k := .i64) (a := y9.2) (b := 0) rfl rfl rfl) ?_)
  refine SeqW.done fun fr12 hf13 => ?_
  have h1 : fr12 1 = (Value.pointer (some ⟨B1, 0, none⟩)) := (congrFun hf13 1).trans h1
  have h3 : fr12 3 = (Value.int .i64 y9.1) := (congrFun hf13 3).trans h3
  have h4 : fr12 4 = (Value.int .i64 y9.2) := (congrFun hf13 4).trans h4
  have h14 : fr12 14 = (Value.bool (y9.2 != 0)) := (congrFun hf13 14).trans rfl
  clear hf13
  refine thenQ.n ?_
  rcases if_some hr with ⟨hc14, hr⟩ | ⟨hc17, hr⟩
  · refine W.condT h14 hc14 ?_
    refine W.seq ?_
    refine W.region ?_
    refine SeqW.consX rfl (StepX.pure (pMove (v := (Value.int .i64 y9.2)) rfl h4) ?_)
    refine SeqW.consX rfl (StepX.pure (pAssign (v := (Value.int .i64 y9.2)) rfl rfl) ?_)
    refine SeqW.done fun fr15 hf16 => ?_
    have h2 : fr15 2 = (Value.int .i64 y9.2) := (congrFun hf16 2).trans rfl
    clear hf16
    refine thenQ.n ?_
    refine W.ret ?_
    refine thenQ.r ?_
    obtain rfl := Option.some.inj hr
    exact ⟨z, hz, st, .inr rfl, h2, trivial⟩
  · refine W.condF h14 hc17 ?_
    refine W.skip ?_
    refine thenQ.n ?_
    refine W.seq ?_
    refine W.region ?_
    refine SeqW.consX rfl (StepX.pure (pAssign (v := (Value.int .i64 4)) rfl rfl) ?_)
    refine SeqW.consX rfl (StepX.pure (pAssign (v := (Value.int .i64 80)) rfl rfl) ?_)
    refine SeqW.done fun fr18 hf19 => ?_
    have h1 : fr18 1 = (Value.pointer (some ⟨B1, 0, none⟩)) := (congrFun hf19 1).trans h1
    have h3 : fr18 3 = (Value.int .i64 y9.1) := (congrFun hf19 3).trans h3
    have h5 : fr18 5 = (Value.int .i64 4) := (congrFun hf19 5).trans rfl
    have h6 : fr18 6 = (Value.int .i64 80) := (congrFun hf19 6).trans rfl
    clear hf19
    refine thenQ.n ?_
    refine W.seq ?_
    refine W.seq ?_
    refine W.region ?_
    refine SeqW.consX rfl (StepX.pure (pMove (v := (Value.int .i64 y9.1)) rfl h3) ?_)
    refine SeqW.done fun fr20 hf21 => ?_
    have h1 : fr20 1 = (Value.pointer (some ⟨B1, 0, none⟩)) := (congrFun hf21 1).trans h1
    have h5 : fr20 5 = (Value.int .i64 4) := (congrFun hf21 5).trans h5
    have h6 : fr20 6 = (Value.int .i64 80) := (congrFun hf21 6).trans h6
    have h16 : fr20 16 = (Value.int .i64 y9.1) := (congrFun hf21 16).trans rfl
    clear hf21
    refine thenQ.n ?_
    obtain ⟨y36, hy36, hr⟩ := bind_some hr
    refine W.keep (u_r06_Valid_0 (x1 := x0) (Zx.refl _) st h1 X3 h5 h6 h16 hy36) ?_
    rintro ex42 fr37 m38 hk40 ⟨z39, hz41, st, rfl, h5, h6, O43, -⟩
    have h1 := (hk40 1 rfl).trans h1
    replace hz := hz.trans hz41
    clear hk40
    refine thenQ.n ?_
    refine W.seq ?_
    refine W.block ?_
    refine W.seq ?_
    refine W.region ?_
    refine SeqW.consX rfl (kField rfl Try.underlying48 rfl Try.type3 rfl h1 rfl ?_)
    refine SeqW.consX rfl (kLoad rfl Try.underlying3 rfl rfl (O43.load (v := (Value.int .i64 x0.axles)) rfl) ?_)
    refine SeqW.consX rfl (StepX.pure (pMove (v := (Value.int .i64 y36.1)) rfl h5) ?_)
    refine SeqW.consX rfl (StepX.pure (pNeq (k := .i64) (a := x0.axles) (b := y36.1) rfl rfl rfl) ?_)
    obtain ⟨y44, hy44, hr⟩ := lt_some hr
    refine SeqW.consX rfl (StepX.pure (pAssign rfl (congrArg Value.bool hy44)) ?_)
    refine SeqW.done fun fr45 hf46 => ?_
    have h1 : fr45 1 = (Value.pointer (some ⟨B1, 0, none⟩)) := (congrFun hf46 1).trans h1
    have h6 : fr45 6 = (Value.int .i64 y36.2) := (congrFun hf46 6).trans h6
    have h21 : fr45 21 = (Value.bool y44) := (congrFun hf46 21).trans rfl
    clear hf46
    refine thenQ.n ?_
    rcases if_some hr with ⟨hc47, hr⟩ | ⟨hc50, hr⟩
    · refine W.condT h21 hc47 ?_
      refine W.seq ?_
      refine W.region ?_
      refine SeqW.consX rfl (StepX.pure (pAssign (v := (Value.int .i64 1)) rfl rfl) ?_)
      refine SeqW.done fun fr48 hf49 => ?_
      have h2 : fr48 2 = (Value.int .i64 1) := (congrFun hf49 2).trans rfl
      clear hf49
      refine thenQ.n ?_
      refine W.ret ?_
      refine blockQ.r ?_
      refine thenQ.r ?_
      obtain rfl := Option.some.inj hr
      exact ⟨z39, hz, st, .inr rfl, h2, trivial⟩
    · refine W.condF h21 hc50 ?_
      refine W.seq ?_
      obtain ⟨y82, hy82, hr⟩ := bind_some hr
      refine W.keep (u_r06_Valid_1 (x1 := x0) (Zx.refl _) st h1 O43 h6 hy82) ?_
      rintro ex88 fr83 m84 hk86 ⟨z85, hz87, st, rfl, h26, O89, -⟩
      have h1 := (hk86 1 rfl).trans h1
      replace hz := hz.trans hz87
      clear hk86
      refine thenQ.n ?_
      rcases if_some hr with ⟨hc90, hr⟩ | ⟨hc93, hr⟩
      · refine W.condT h26 hc90 ?_
        refine W.seq ?_
        refine W.region ?_
        refine SeqW.consX rfl (StepX.pure (pAssign (v := (Value.int .i64 2)) rfl rfl) ?_)
        refine SeqW.done fun fr91 hf92 => ?_
        have h2 : fr91 2 = (Value.int .i64 2) := (congrFun hf92 2).trans rfl
        clear hf92
        refine thenQ.n ?_
        refine W.ret ?_
        refine blockQ.r ?_
        refine thenQ.r ?_
        obtain rfl := Option.some.inj hr
        exact ⟨z85, hz, st, .inr rfl, h2, trivial⟩
      · refine W.condF h26 hc93 ?_
        refine W.seq ?_
        refine W.region ?_
        refine SeqW.consX rfl (kField rfl Try.underlying48 rfl Try.type9 rfl h1 rfl ?_)
        refine SeqW.consX rfl (kLoad rfl Try.underlying9 rfl rfl (O89.load (v := (str x0.dest)) rfl) ?_)
        obtain ⟨y94, hy94, hr⟩ := bind_some hr
        refine SeqW.consX rfl (StepX.call (gCallee rfl rfl (args1 rfl)) ((c_r06_Name (z := z85) st.fz st.dead  hy94).mono ?_))
        rintro _ _ ⟨rfl, rfl⟩
        refine SeqW.consX rfl (StepX.pure (pNot (b := y94) rfl rfl) ?_)
        obtain ⟨y95, hy95, hr⟩ := lt_some hr
        refine SeqW.consX rfl (StepX.pure (pAssign rfl (congrArg Value.bool hy95)) ?_)
        refine SeqW.done fun fr96 hf97 => ?_
        have h68 : fr96 68 = (Value.bool y95) := (congrFun hf97 68).trans rfl
        clear hf97
        refine thenQ.n ?_
        rcases if_some hr with ⟨hc98, hr⟩ | ⟨hc101, hr⟩
        · refine W.condT h68 hc98 ?_
          refine W.seq ?_
          refine W.region ?_
          refine SeqW.consX rfl (StepX.pure (pAssign (v := (Value.int .i64 7)) rfl rfl) ?_)
          refine SeqW.done fun fr99 hf100 => ?_
          have h2 : fr99 2 = (Value.int .i64 7) := (congrFun hf100 2).trans rfl
          clear hf100
          refine thenQ.n ?_
          refine W.ret ?_
          refine blockQ.r ?_
          refine thenQ.r ?_
          obtain rfl := Option.some.inj hr
          exact ⟨z85, hz, st, .inr rfl, h2, trivial⟩
        · refine W.condF h68 hc101 ?_
          refine W.skip ?_
          refine blockQ.n ?_
          refine thenQ.n ?_
          refine W.seq ?_
          refine W.region ?_
          refine SeqW.consX rfl (StepX.pure (pAssign (v := (Value.int .i64 0)) rfl rfl) ?_)
          refine SeqW.done fun fr102 hf103 => ?_
          have h2 : fr102 2 = (Value.int .i64 0) := (congrFun hf103 2).trans rfl
          clear hf103
          refine thenQ.n ?_
          refine W.ret ?_
          obtain rfl := Option.some.inj hr
          exact ⟨z85, hz, st, .inr rfl, h2, trivial⟩

theorem c_r06_Valid {N : Nat} {z : Nat → Blk} {m : Mem} {x0 : Wagon} (fz : Fz z m) (hd : ∀ b, m.next ≤ b → m.blk b = .dead)  {r : Int} (hr : r06_Valid N x0 = some r) : CallW Try.prog 46 #[(Value.agg [(str x0.number), (Value.int .i64 x0.length), (Value.int .i64 x0.axles), (Value.int .i64 x0.mass), (Value.int .i64 x0.brake), (Value.int .i64 x0.goods), (Value.bool x0.gentle), (str x0.dest)].toArray)] m fun v m' => v = (Value.int .i64 r) ∧ m' = m := by
  refine CallW.flat Try.func46 rfl (by kernel_rfl) (Nat.le_of_ble_eq_true rfl) rfl (z := z) (fun fr hf => ?_)
  have h0 : fr 0 = _ := hf 0 _ rfl
  refine (u_r06_Valid (k := none) (Zx.refl _) (St.start fz hd) h0 hr).mono ?_
  rintro ex fr' m' ⟨z', hz, st, he, h2, -⟩
  exact ⟨he, z', st, [(Value.int .i64 r)], ⟨h2.symm, trivial⟩, .inl rfl, rfl⟩

/-! ### humpyard/humpyardref06.ValidList -/

theorem u_r06_ValidList_1 : ∀ (n : Nat) {N : Nat}  {z0 z : Nat → Blk} {e m : Mem} {k : Option Nat} {fr : Nat → Value} {x0 : List Wagon} {x3 : Int} {x5 : Int} {v0 : Value} (hz : Zx e.next z0 z) (st : St z e m k) (h0 : fr 0 = v0) (s0 : SlR TWagon z x0 v0) (h3 : fr 3 = (Value.int .i64 x3)) (h5 : fr 5 = (Value.int .i64 x5)) {r : Sum (Unit) (Int)} (hr : r06_ValidList_1 N x0 x3 n x5 = some r), W Try.prog (sub (bodyOf Try.f42) [1, 1, 0, 1, 0, 0, 1, 0, 0, 1, 1, 0]) (fun ex fr' m' => ∃ z', Zx e.next z0 z' ∧ St z' e m' k ∧ ((∃ q, r = Sum.inl q ∧ ex = AExit.exit 2 ∧ True) ∨ (∃ q, r = Sum.inr q ∧ ex = AExit.ret ∧ fr' 2 = (Value.int .i64 q) ∧ True))) fr m := by
  intro n
  induction n with
  | zero => intro N z0 z e m k fr x0 x3 x5 v0 hz st h0 s0 h3 h5 r hr; cases (show (none : Option _) = some r from hr)
  | succ n ih =>
    intro N z0 z e m k fr x0 x3 x5 v0 hz st h0 s0 h3 h5 r hr
    unfold r06_ValidList_1 at hr
    refine W.loop1 ?_
    refine W.seq ?_
    refine W.seq ?_
    refine W.region ?_
    refine SeqW.consX rfl (StepX.pure (pMove (v := (Value.int .i64 x5)) rfl h5) ?_)
    refine SeqW.consX rfl (StepX.pure (pMove (v := (Value.int .i64 x3)) rfl h3) ?_)
    refine SeqW.consX rfl (StepX.pure (pLss (k := .i64) (a := x5) (b := x3) rfl rfl rfl) ?_)
    refine SeqW.done fun fr31 hf32 => ?_
    have h0 : fr31 0 = v0 := (congrFun hf32 0).trans h0
    have h3 : fr31 3 = (Value.int .i64 x3) := (congrFun hf32 3).trans h3
    have h5 : fr31 5 = (Value.int .i64 x5) := (congrFun hf32 5).trans h5
    have h25 : fr31 25 = (Value.bool (decide (x5 < x3))) := (congrFun hf32 25).trans rfl
    clear hf32
    refine thenQ.n ?_
    rcases if_some hr with ⟨hc33, hr⟩ | ⟨hc55, hr⟩
    · refine W.condT h25 hc33 ?_
      refine W.skip ?_
      refine thenQ.n ?_
      refine W.seq ?_
      refine W.block ?_
      refine W.seq ?_
      refine W.calm (by decide) ?_
      refine SeqW.consX rfl (StepX.pure (pMove (v := v0) rfl h0) ?_)
      refine SeqW.consX rfl (StepX.pure (pMove (v := (Value.int .i64 x5)) rfl h5) ?_)
      obtain ⟨y34, hy34, hr⟩ := bind_some hr
      refine SeqW.consX rfl (kIdxR (T := TWagon) (xs := x0) (n := x5) rfl Try.underlying25 Try.type48 rfl rfl rfl s0 hy34 ?_)
      intro B35 f36 cs37 hd38 hc39
      obtain rfl := hd38
      refine SeqW.consX rfl (kField rfl Try.underlying48 rfl Try.type9 rfl rfl rfl ?_)
      refine SeqW.consX rfl (kLoad (v := (str y34.number)) rfl Try.underlying9 rfl rfl (ldz_load st.fz (hc39 0 _ rfl)) ?_)
      refine SeqW.consX rfl (StepX.pure (pMove (v := v0) rfl h0) ?_)
      refine SeqW.consX rfl (StepX.pure (pMove (v := (Value.int .i64 x3)) rfl h3) ?_)
      obtain ⟨y40, hy40, hr⟩ := bind_some hr
      refine SeqW.consX rfl (kIdxR (T := TWagon) (xs := x0) (n := x3) rfl Try.underlying25 Try.type48 rfl rfl rfl s0 hy40 ?_)
      intro B41 f42 cs43 hd44 hc45
      obtain rfl := hd44
      refine SeqW.consX rfl (kField rfl Try.underlying48 rfl Try.type9 rfl rfl rfl ?_)
      refine SeqW.consX rfl (kLoad (v := (str y40.number)) rfl Try.underlying9 rfl rfl (ldz_load st.fz (hc45 0 _ rfl)) ?_)
      refine SeqW.consX rfl (StepX.pure (pEqlS (s := y34.number) (r := y40.number) rfl rfl rfl) ?_)
      refine SeqW.done fun fr46 hf47 => ?_
      have h0 : fr46 0 = v0 := (congrFun hf47 0).trans h0
      have h3 : fr46 3 = (Value.int .i64 x3) := (congrFun hf47 3).trans h3
      have h5 : fr46 5 = (Value.int .i64 x5) := (congrFun hf47 5).trans h5
      have h38 : fr46 38 = (Value.bool (y34.number == y40.number)) := (congrFun hf47 38).trans rfl
      clear hf47
      refine thenQ.n ?_
      rcases if_some hr with ⟨hc48, hr⟩ | ⟨hc51, hr⟩
      · refine W.condT h38 hc48 ?_
        refine W.seq ?_
        refine W.region ?_
        refine SeqW.consX rfl (StepX.pure (pAssign (v := (Value.int .i64 8)) rfl rfl) ?_)
        refine SeqW.done fun fr49 hf50 => ?_
        have h2 : fr49 2 = (Value.int .i64 8) := (congrFun hf50 2).trans rfl
        clear hf50
        refine thenQ.n ?_
        refine W.ret ?_
        refine blockQ.r ?_
        refine thenQ.r ?_
        refine thenQ.r ?_
        obtain rfl := Option.some.inj hr
        exact ⟨z, hz, st, .inr ⟨_, rfl, rfl, h2, trivial⟩⟩
      · refine W.condF h38 hc51 ?_
        refine W.skip ?_
        refine blockQ.n ?_
        refine thenQ.n ?_
        refine W.region ?_
        refine SeqW.consX rfl (StepX.pure (pMove (v := (Value.int .i64 x5)) rfl h5) ?_)
        refine SeqW.consX rfl (StepX.pure (pAdd (k := .i64) (a := x5) (b := 1) rfl rfl rfl) ?_)
        obtain ⟨y52, hy52, hr⟩ := lt_some hr
        refine SeqW.consX rfl (StepX.pure (pAssign rfl (congrArg (Value.int .i64) hy52)) ?_)
        refine SeqW.done fun fr53 hf54 => ?_
        have h0 : fr53 0 = v0 := (congrFun hf54 0).trans h0
        have h3 : fr53 3 = (Value.int .i64 x3) := (congrFun hf54 3).trans h3
        have h5 : fr53 5 = (Value.int .i64 y52) := (congrFun hf54 5).trans rfl
        clear hf54
        refine thenQ.n ?_
        exact ih hz st h0 s0 h3 h5 hr
    · refine W.condF h25 hc55 ?_
      refine W.exit ?_
      refine thenQ.x ?_
      refine thenQ.x ?_
      obtain rfl := Option.some.inj hr
      exact ⟨z, hz, st, .inl ⟨_, rfl, rfl, trivial⟩⟩

theorem u_r06_ValidList_0 : ∀ (n : Nat) {N : Nat}  {z0 z : Nat → Blk} {e m : Mem} {k : Option Nat} {fr : Nat → Value} {x0 : List Wagon} {x3 : Int} {v0 : Value} (hz : Zx e.next z0 z) (st : St z e m k) (h0 : fr 0 = v0) (s0 : SlR TWagon z x0 v0) (h3 : fr 3 = (Value.int .i64 x3)) {r : Sum (Unit) (Int)} (hr : r06_ValidList_0 N x0 n x3 = some r), W Try.prog (sub (bodyOf Try.f42) [1, 1, 0, 1, 0]) (fun ex fr' m' => ∃ z', Zx e.next z0 z' ∧ St z' e m' k ∧ ((∃ q, r = Sum.inl q ∧ ex = AExit.exit 0 ∧ True) ∨ (∃ q, r = Sum.inr q ∧ ex = AExit.ret ∧ fr' 2 = (Value.int .i64 q) ∧ True))) fr m := by
  intro n
  induction n with
  | zero => intro N z0 z e m k fr x0 x3 v0 hz st h0 s0 h3 r hr; cases (show (none : Option _) = some r from hr)
  | succ n ih =>
    intro N z0 z e m k fr x0 x3 v0 hz st h0 s0 h3 r hr
    unfold r06_ValidList_0 at hr
    refine W.loop1 ?_
    refine W.seq ?_
    refine W.seq ?_
    refine W.region ?_
    refine SeqW.consX rfl (StepX.pure (pMove (v := (Value.int .i64 x3)) rfl h3) ?_)
    refine SeqW.consX rfl (StepX.pure (pMove (v := v0) rfl h0) ?_)
    refine SeqW.consX rfl (StepX.pure (pLenR (xs := x0) rfl Try.underlying25 rfl s0) ?_)
    refine SeqW.consX rfl (StepX.pure (pLss (k := .i64) (a := x3) (b := (x0.length : Int)) rfl rfl rfl) ?_)
    refine SeqW.done fun fr11 hf12 => ?_
    have h0 : fr11 0 = v0 := (congrFun hf12 0).trans h0
    have h3 : fr11 3 = (Value.int .i64 x3) := (congrFun hf12 3).trans h3
    have h12 : fr11 12 = (Value.bool (decide (x3 < (x0.length : Int)))) := (congrFun hf12 12).trans rfl
    clear hf12
    refine thenQ.n ?_
    rcases if_some hr with ⟨hc13, hr⟩ | ⟨hc68, hr⟩
    · refine W.condT h12 hc13 ?_
      refine W.skip ?_
      refine thenQ.n ?_
      refine W.seq ?_
      refine W.block ?_
      refine W.seq ?_
      refine W.seq ?_
      refine W.region ?_
      refine SeqW.consX rfl (StepX.pure (pMove (v := v0) rfl h0) ?_)
      refine SeqW.consX rfl (StepX.pure (pMove (v := (Value.int .i64 x3)) rfl h3) ?_)
      obtain ⟨y14, hy14, hr⟩ := bind_some hr
      refine SeqW.consX rfl (kIdxR (T := TWagon) (xs := x0) (n := x3) rfl Try.underlying25 Try.type48 rfl rfl rfl s0 hy14 ?_)
      intro B15 f16 cs17 hd18 hc19
      obtain rfl := hd18
      refine SeqW.consX rfl (kLoadA rfl Try.underlying48 rfl Try.type48 rfl rfl (st.loads hc19) ?_)
      obtain ⟨y20, hy20, hr⟩ := bind_some hr
      refine SeqW.consX rfl (StepX.call (gCallee rfl rfl (args1 rfl)) ((c_r06_Valid (x0 := y14) (z := z) st.fz st.dead  hy20).mono ?_))
      rintro _ _ ⟨rfl, rfl⟩
      refine SeqW.consX rfl (StepX.pure (pAssign (v := (Value.int .i64 y20)) rfl rfl) ?_)
      refine SeqW.done fun fr21 hf22 => ?_
      have h0 : fr21 0 = v0 := (congrFun hf22 0).trans h0
      have h3 : fr21 3 = (Value.int .i64 x3) := (congrFun hf22 3).trans h3
      have h4 : fr21 4 = (Value.int .i64 y20) := (congrFun hf22 4).trans rfl
      clear hf22
      refine thenQ.n ?_
      refine W.seq ?_
      refine W.region ?_
      refine SeqW.consX rfl (StepX.pure (pMove (v := (Value.int .i64 y20)) rfl h4) ?_)
      refine SeqW.consX rfl (StepX.pure (pNeq (k := .i64) (a := y20) (b := 0) rfl rfl rfl) ?_)
      refine SeqW.done fun fr23 hf24 => ?_
      have h0 : fr23 0 = v0 := (congrFun hf24 0).trans h0
      have h3 : fr23 3 = (Value.int .i64 x3) := (congrFun hf24 3).trans h3
      have h4 : fr23 4 = (Value.int .i64 y20) := (congrFun hf24 4).trans h4
      have h21 : fr23 21 = (Value.bool (y20 != 0)) := (congrFun hf24 21).trans rfl
      clear hf24
      refine thenQ.n ?_
      rcases if_some hr with ⟨hc25, hr⟩ | ⟨hc28, hr⟩
      · refine W.condT h21 hc25 ?_
        refine W.seq ?_
        refine W.region ?_
        refine SeqW.consX rfl (StepX.pure (pMove (v := (Value.int .i64 y20)) rfl h4) ?_)
        refine SeqW.consX rfl (StepX.pure (pAssign (v := (Value.int .i64 y20)) rfl rfl) ?_)
        refine SeqW.done fun fr26 hf27 => ?_
        have h2 : fr26 2 = (Value.int .i64 y20) := (congrFun hf27 2).trans rfl
        clear hf27
        refine thenQ.n ?_
        refine W.ret ?_
        refine thenQ.r ?_
        refine blockQ.r ?_
        refine thenQ.r ?_
        refine thenQ.r ?_
        obtain rfl := Option.some.inj hr
        exact ⟨z, hz, st, .inr ⟨_, rfl, rfl, h2, trivial⟩⟩
      · refine W.condF h21 hc28 ?_
        refine W.skip ?_
        refine thenQ.n ?_
        refine W.seq ?_
        refine W.region ?_
        refine SeqW.consX rfl (StepX.pure (pAssign (v := (Value.int .i64 0)) rfl rfl) ?_)
        refine SeqW.done fun fr29 hf30 => ?_
        have h0 : fr29 0 = v0 := (congrFun hf30 0).trans h0
        have h3 : fr29 3 = (Value.int .i64 x3) := (congrFun hf30 3).trans h3
        have h5 : fr29 5 = (Value.int .i64 0) := (congrFun hf30 5).trans rfl
        clear hf30
        refine thenQ.n ?_
        refine W.block ?_
        obtain ⟨y56, hy56, hr⟩ := bind_some hr
        refine W.keep (u_r06_ValidList_1 _ (Zx.refl _) st h0 s0 h3 h5 hy56) ?_
        rintro ex62 fr57 m58 hk60 ⟨z59, hz61, st, ⟨y63, rfl, rfl, -⟩ | ⟨y67, rfl, rfl, h2, -⟩⟩
        · dsimp only at hr
          replace s0 := s0.mono hz61.le
          have h0 := (hk60 0 rfl).trans h0
          have h3 := (hk60 3 rfl).trans h3
          replace hz := hz.trans hz61
          clear hk60
          refine blockQ.hit ?_
          refine blockQ.n ?_
          refine thenQ.n ?_
          refine W.region ?_
          refine SeqW.consX rfl (StepX.pure (pMove (v := (Value.int .i64 x3)) rfl h3) ?_)
          refine SeqW.consX rfl (StepX.pure (pAdd (k := .i64) (a := x3) (b := 1) rfl rfl rfl) ?_)
          obtain ⟨y64, hy64, hr⟩ := lt_some hr
          refine SeqW.consX rfl (StepX.pure (pAssign rfl (congrArg (Value.int .i64) hy64)) ?_)
          refine SeqW.done fun fr65 hf66 => ?_
          have h0 : fr65 0 = v0 := (congrFun hf66 0).trans h0
          have h3 : fr65 3 = (Value.int .i64 y64) := (congrFun hf66 3).trans rfl
          clear hf66
          refine thenQ.n ?_
          exact ih hz st h0 s0 h3 hr
        · dsimp only at hr
          replace hz := hz.trans hz61
          clear hk60
          refine blockQ.r ?_
          refine blockQ.r ?_
          refine thenQ.r ?_
          refine thenQ.r ?_
          obtain rfl := Option.some.inj hr
          exact ⟨z59, hz, st, .inr ⟨_, rfl, rfl, h2, trivial⟩⟩
    · refine W.condF h12 hc68 ?_
      refine W.exit ?_
      refine thenQ.x ?_
      refine thenQ.x ?_
      obtain rfl := Option.some.inj hr
      exact ⟨z, hz, st, .inl ⟨_, rfl, rfl, trivial⟩⟩

theorem u_r06_ValidList {N : Nat}  {z0 z : Nat → Blk} {e m : Mem} {k : Option Nat} {fr : Nat → Value} {x0 : List Wagon} {v0 : Value} (hz : Zx e.next z0 z) (st : St z e m k) (h0 : fr 0 = v0) (s0 : SlR TWagon z x0 v0) {r : Int} (hr : r06_ValidList N x0 = some r) : W Try.prog (sub (bodyOf Try.f42) []) (fun ex fr' m' => ∃ z', Zx e.next z0 z' ∧ St z' e m' k ∧ (ex = .normal ∨ ex = .ret) ∧ fr' 2 = (Value.int .i64 r) ∧ True) fr m := by
  unfold r06_ValidList at hr
  refine W.seq ?_
  refine W.region ?_
  refine SeqW.consX rfl (StepX.pure (pAssign (v := (Value.int .i64 0)) rfl rfl) ?_)
  refine SeqW.done fun fr1 hf2 => ?_
  have h0 : fr1 0 = v0 := (congrFun hf2 0).trans h0
  clear hf2
  refine thenQ.n ?_
  refine W.seq ?_
  refine W.seq ?_
  refine W.region ?_
  refine SeqW.consX rfl (StepX.pure (pMove (v := v0) rfl h0) ?_)
  refine SeqW.consX rfl (StepX.pure (pLenR (xs := x0) rfl Try.underlying25 rfl s0) ?_)
  refine SeqW.consX rfl (StepX.pure (pGtr (k := .i64) (a := (x0.length : Int)) (b := 96) rfl rfl rfl) ?_)
  refine SeqW.done fun fr3 hf4 => ?_
  have h0 : fr3 0 = v0 := (congrFun hf4 0).trans h0
  have h8 : fr3 8 = (Value.bool (decide (96 < (x0.length : Int)))) := (congrFun hf4 8).trans rfl
  clear hf4
  refine thenQ.n ?_
  rcases if_some hr with ⟨hc5, hr⟩ | ⟨hc8, hr⟩
  · refine W.condT h8 hc5 ?_
    refine W.seq ?_
    refine W.region ?_
    refine SeqW.consX rfl (StepX.pure (pAssign (v := (Value.int .i64 3)) rfl rfl) ?_)
    refine SeqW.done fun fr6 hf7 => ?_
    have h2 : fr6 2 = (Value.int .i64 3) := (congrFun hf7 2).trans rfl
    clear hf7
    refine thenQ.n ?_
    refine W.ret ?_
    refine thenQ.r ?_
    obtain rfl := Option.some.inj hr
    exact ⟨z, hz, st, .inr rfl, h2, trivial⟩
  · refine W.condF h8 hc8 ?_
    refine W.skip ?_
    refine thenQ.n ?_
    refine W.seq ?_
    refine W.seq ?_
    refine W.region ?_
    refine SeqW.consX rfl (StepX.pure (pAssign (v := (Value.int .i64 0)) rfl rfl) ?_)
    refine SeqW.done fun fr9 hf10 => ?_
    have h0 : fr9 0 = v0 := (congrFun hf10 0).trans h0
    have h3 : fr9 3 = (Value.int .i64 0) := (congrFun hf10 3).trans rfl
    clear hf10
    refine thenQ.n ?_
    refine W.block ?_
    obtain ⟨y69, hy69, hr⟩ := bind_some hr
    refine W.keep (u_r06_ValidList_0 _ (Zx.refl _) st h0 s0 h3 hy69) ?_
    rintro ex75 fr70 m71 hk73 ⟨z72, hz74, st, ⟨y76, rfl, rfl, -⟩ | ⟨y79, rfl, rfl, h2, -⟩⟩
    · dsimp only at hr
      replace hz := hz.trans hz74
      clear hk73
      refine blockQ.hit ?_
      refine thenQ.n ?_
      refine W.seq ?_
      refine W.region ?_
      refine SeqW.consX rfl (StepX.pure (pAssign (v := (Value.int .i64 0)) rfl rfl) ?_)
      refine SeqW.done fun fr77 hf78 => ?_
      have h2 : fr77 2 = (Value.int .i64 0) := (congrFun hf78 2).trans rfl
      clear hf78
      refine thenQ.n ?_
      refine W.ret ?_
      obtain rfl := Option.some.inj hr
      exact ⟨z72, hz, st, .inr rfl, h2, trivial⟩
    · dsimp only at hr
      replace hz := hz.trans hz74
      clear hk73
      refine blockQ.r ?_
      refine thenQ.r ?_
      obtain rfl := Option.some.inj hr
      exact ⟨z72, hz, st, .inr rfl, h2, trivial⟩

theorem c_r06_ValidList {N : Nat} {z : Nat → Blk} {m : Mem} {x0 : List Wagon} {v0 : Value} (fz : Fz z m) (hd : ∀ b, m.next ≤ b → m.blk b = .dead) (s0 : SlR TWagon z x0 v0) {r : Int} (hr : r06_ValidList N x0 = some r) : CallW Try.prog 42 #[v0] m fun v m' => v = (Value.int .i64 r) ∧ m' = m := by
  refine CallW.flat Try.func42 rfl (by kernel_rfl) (Nat.le_of_ble_eq_true rfl) rfl (z := z) (fun fr hf => ?_)
  have h0 : fr 0 = _ := hf 0 _ rfl
  refine (u_r06_ValidList (k := none) (Zx.refl _) (St.start fz hd) h0 s0 hr).mono ?_
  rintro ex fr' m' ⟨z', hz, st, he, h2, -⟩
  exact ⟨he, z', st, [(Value.int .i64 r)], ⟨h2.symm, trivial⟩, .inl rfl, rfl⟩

/-! ### humpyard/humpyardref06.Total -/

theorem u_r06_Total_0 : ∀ (n : Nat) {N : Nat}  {z0 z : Nat → Blk} {e m : Mem} {k : Option Nat} {fr : Nat → Value} {x0 : List Wagon} {x2 : Int} {x3 : Int} {x4 : Int} {x7 : Int} {v0 : Value} (hz : Zx e.next z0 z) (st : St z e m k) (h0 : fr 0 = v0) (s0 : SlR TWagon z x0 v0) (h2 : fr 2 = (Value.int .i64 x2)) (h3 : fr 3 = (Value.int .i64 x3)) (h4 : fr 4 = (Value.int .i64 x4)) (h7 : fr 7 = (Value.int .i64 x7)) {r : Int × Int × Int} (hr : r06_Total_0 N x0 n x2 x3 x4 x7 = some r), W Try.prog (sub (bodyOf Try.f37) [1, 1, 0, 1, 0]) (fun ex fr' m' => ∃ z', Zx e.next z0 z' ∧ St z' e m' k ∧ ex = AExit.exit 0 ∧ fr' 2 = (Value.int .i64 r.1) ∧ fr' 3 = (Value.int .i64 r.2.1) ∧ fr' 4 = (Value.int .i64 r.2.2) ∧ True) fr m := by
  intro n
  induction n with
  | zero => intro N z0 z e m k fr x0 x2 x3 x4 x7 v0 hz st h0 s0 h2 h3 h4 h7 r hr; cases (show (none : Option _) = some r from hr)
  | succ n ih =>
    intro N z0 z e m k fr x0 x2 x3 x4 x7 v0 hz st h0 s0 h2 h3 h4 h7 r hr
    unfold r06_Total_0 at hr
    refine W.loop1 ?_
    refine W.seq ?_
    refine W.seq ?_
    refine W.region ?_
    refine SeqW.consX rfl (StepX.pure (pMove (v := (Value.int .i64 x7)) rfl h7) ?_)
    refine SeqW.consX rfl (StepX.pure (pMove (v := v0) rfl h0) ?_)
    refine SeqW.consX rfl (StepX.pure (pLenR (xs := x0) rfl Try.underlying25 rfl s0) ?_)
    refine SeqW.consX rfl (StepX.pure (pLss (k := .i64) (a := x7) (b := (x0.length : Int)) rfl rfl rfl) ?_)
    refine SeqW.done fun fr14 hf15 => ?_
    have h0 : fr14 0 = v0 := (congrFun hf15 0).trans h0
    have h2 : fr14 2 = (Value.int .i64 x2) := (congrFun hf15 2).trans h2
    have h3 : fr14 3 = (Value.int .i64 x3) := (congrFun hf15 3).trans h3
    have h4 : fr14 4 = (Value.int .i64 x4) := (congrFun hf15 4).trans h4
    have h7 : fr14 7 = (Value.int .i64 x7) := (congrFun hf15 7).trans h7
    have h16 : fr14 16 = (Value.bool (decide (x7 < (x0.length : Int)))) := (congrFun hf15 16).trans rfl
    clear hf15
    refine thenQ.n ?_
    rcases if_some hr with ⟨hc16, hr⟩ | ⟨hc47, hr⟩
    · refine W.condT h16 hc16 ?_
      refine W.skip ?_
      refine thenQ.n ?_
      refine W.seq ?_
      refine W.block ?_
      refine W.seq ?_
      refine W.region ?_
      refine SeqW.consX rfl (StepX.pure (pMove (v := (Value.int .i64 x2)) rfl h2) ?_)
      refine SeqW.consX rfl (StepX.pure (pMove (v := v0) rfl h0) ?_)
      refine SeqW.consX rfl (StepX.pure (pMove (v := (Value.int .i64 x7)) rfl h7) ?_)
      obtain ⟨y17, hy17, hr⟩ := bind_some hr
      refine SeqW.consX rfl (kIdxR (T := TWagon) (xs := x0) (n := x7) rfl Try.underlying25 Try.type48 rfl rfl rfl s0 hy17 ?_)
      intro B18 f19 cs20 hd21 hc22
      obtain rfl := hd21
      refine SeqW.consX rfl (kField rfl Try.underlying48 rfl Try.type3 rfl rfl rfl ?_)
      refine SeqW.consX rfl (kLoad (v := (Value.int .i64 y17.length)) rfl Try.underlying3 rfl rfl (ldz_load st.fz (hc22 1 _ rfl)) ?_)
      refine SeqW.consX rfl (StepX.pure (pAdd (k := .i64) (a := x2) (b := y17.length) rfl rfl rfl) ?_)
      obtain ⟨y23, hy23, hr⟩ := lt_some hr
      refine SeqW.consX rfl (StepX.pure (pAssign rfl (congrArg (Value.int .i64) hy23)) ?_)
      refine SeqW.done fun fr24 hf25 => ?_
      have h0 : fr24 0 = v0 := (congrFun hf25 0).trans h0
      have h2 : fr24 2 = (Value.int .i64 y23) := (congrFun hf25 2).trans rfl
      have h3 : fr24 3 = (Value.int .i64 x3) := (congrFun hf25 3).trans h3
      have h4 : fr24 4 = (Value.int .i64 x4) := (congrFun hf25 4).trans h4
      have h7 : fr24 7 = (Value.int .i64 x7) := (congrFun hf25 7).trans h7
      clear hf25
      refine thenQ.n ?_
      refine W.seq ?_
      refine W.region ?_
      refine SeqW.consX rfl (StepX.pure (pMove (v := (Value.int .i64 x3)) rfl h3) ?_)
      refine SeqW.consX rfl (StepX.pure (pMove (v := v0) rfl h0) ?_)
      refine SeqW.consX rfl (StepX.pure (pMove (v := (Value.int .i64 x7)) rfl h7) ?_)
      obtain ⟨y26, hy26, hr⟩ := bind_some hr
      refine SeqW.consX rfl (kIdxR (T := TWagon) (xs := x0) (n := x7) rfl Try.underlying25 Try.type48 rfl rfl rfl s0 hy26 ?_)
      intro B27 f28 cs29 hd30 hc31
      obtain rfl := hd30
      refine SeqW.consX rfl (kField rfl Try.underlying48 rfl Try.type3 rfl rfl rfl ?_)
      refine SeqW.consX rfl (kLoad (v := (Value.int .i64 y26.mass)) rfl Try.underlying3 rfl rfl (ldz_load st.fz (hc31 3 _ rfl)) ?_)
      refine SeqW.consX rfl (StepX.pure (pAdd (k := .i64) (a := x3) (b := y26.mass) rfl rfl rfl) ?_)
      obtain ⟨y32, hy32, hr⟩ := lt_some hr
      refine SeqW.consX rfl (StepX.pure (pAssign rfl (congrArg (Value.int .i64) hy32)) ?_)
      refine SeqW.done fun fr33 hf34 => ?_
      have h0 : fr33 0 = v0 := (congrFun hf34 0).trans h0
      have h2 : fr33 2 = (Value.int .i64 y23) := (congrFun hf34 2).trans h2
      have h3 : fr33 3 = (Value.int .i64 y32) := (congrFun hf34 3).trans rfl
      have h4 : fr33 4 = (Value.int .i64 x4) := (congrFun hf34 4).trans h4
      have h7 : fr33 7 = (Value.int .i64 x7) := (congrFun hf34 7).trans h7
      clear hf34
      refine thenQ.n ?_
      refine W.region ?_
      refine SeqW.consX rfl (StepX.pure (pMove (v := (Value.int .i64 x4)) rfl h4) ?_)
      refine SeqW.consX rfl (StepX.pure (pMove (v := v0) rfl h0) ?_)
      refine SeqW.consX rfl (StepX.pure (pMove (v := (Value.int .i64 x7)) rfl h7) ?_)
      obtain ⟨y35, hy35, hr⟩ := bind_some hr
      refine SeqW.consX rfl (kIdxR (T := TWagon) (xs := x0) (n := x7) rfl Try.underlying25 Try.type48 rfl rfl rfl s0 hy35 ?_)
      intro B36 f37 cs38 hd39 hc40
      obtain rfl := hd39
      refine SeqW.consX rfl (kField rfl Try.underlying48 rfl Try.type3 rfl rfl rfl ?_)
      refine SeqW.consX rfl (kLoad (v := (Value.int .i64 y35.axles)) rfl Try.underlying3 rfl rfl (ldz_load st.fz (hc40 2 _ rfl)) ?_)
      refine SeqW.consX rfl (StepX.pure (pAdd (k := .i64) (a := x4) (b := y35.axles) rfl rfl rfl) ?_)
      obtain ⟨y41, hy41, hr⟩ := lt_some hr
      refine SeqW.consX rfl (StepX.pure (pAssign rfl (congrArg (Value.int .i64) hy41)) ?_)
      refine SeqW.done fun fr42 hf43 => ?_
      have h0 : fr42 0 = v0 := (congrFun hf43 0).trans h0
      have h2 : fr42 2 = (Value.int .i64 y23) := (congrFun hf43 2).trans h2
      have h3 : fr42 3 = (Value.int .i64 y32) := (congrFun hf43 3).trans h3
      have h4 : fr42 4 = (Value.int .i64 y41) := (congrFun hf43 4).trans rfl
      have h7 : fr42 7 = (Value.int .i64 x7) := (congrFun hf43 7).trans h7
      clear hf43
      refine blockQ.n ?_
      refine thenQ.n ?_
      refine W.region ?_
      refine SeqW.consX rfl (StepX.pure (pMove (v := (Value.int .i64 x7)) rfl h7) ?_)
      refine SeqW.consX rfl (StepX.pure (pAdd (k := .i64) (a := x7) (b := 1) rfl rfl rfl) ?_)
      obtain ⟨y44, hy44, hr⟩ := lt_some hr
      refine SeqW.consX rfl (StepX.pure (pAssign rfl (congrArg (Value.int .i64) hy44)) ?_)
      refine SeqW.done fun fr45 hf46 => ?_
      have h0 : fr45 0 = v0 := (congrFun hf46 0).trans h0
      have h2 : fr45 2 = (Value.int .i64 y23) := (congrFun hf46 2).trans h2
      have h3 : fr45 3 = (Value.int .i64 y32) := (congrFun hf46 3).trans h3
      have h4 : fr45 4 = (Value.int .i64 y41) := (congrFun hf46 4).trans h4
      have h7 : fr45 7 = (Value.int .i64 y44) := (congrFun hf46 7).trans rfl
      clear hf46
      refine thenQ.n ?_
      exact ih hz st h0 s0 h2 h3 h4 h7 hr
    · refine W.condF h16 hc47 ?_
      refine W.exit ?_
      refine thenQ.x ?_
      refine thenQ.x ?_
      obtain rfl := Option.some.inj hr
      exact ⟨z, hz, st, rfl, h2, h3, h4, trivial⟩

theorem u_r06_Total {N : Nat}  {z0 z : Nat → Blk} {e m : Mem} {k : Option Nat} {fr : Nat → Value} {x0 : List Wagon} {v0 : Value} (hz : Zx e.next z0 z) (st : St z e m k) (h0 : fr 0 = v0) (s0 : SlR TWagon z x0 v0) {r : Int × Int × Int × Int} (hr : r06_Total N x0 = some r) : W Try.prog (sub (bodyOf Try.f37) []) (fun ex fr' m' => ∃ z', Zx e.next z0 z' ∧ St z' e m' k ∧ (ex = .normal ∨ ex = .ret) ∧ fr' 2 = (Value.int .i64 r.1) ∧ fr' 3 = (Value.int .i64 r.2.1) ∧ fr' 4 = (Value.int .i64 r.2.2.1) ∧ fr' 5 = (Value.int .i64 r.2.2.2) ∧ True) fr m := by
  unfold r06_Total at hr
  refine W.seq ?_
  refine W.region ?_
  refine SeqW.consX rfl (StepX.pure (pAssign (v := (Value.int .i64 0)) rfl rfl) ?_)
  refine SeqW.consX rfl (StepX.pure (pAssign (v := (Value.int .i64 0)) rfl rfl) ?_)
  refine SeqW.consX rfl (StepX.pure (pAssign (v := (Value.int .i64 0)) rfl rfl) ?_)
  refine SeqW.consX rfl (StepX.pure (pAssign (v := (Value.int .i64 0)) rfl rfl) ?_)
  refine SeqW.done fun fr1 hf2 => ?_
  have h0 : fr1 0 = v0 := (congrFun hf2 0).trans h0
  have h2 : fr1 2 = (Value.int .i64 0) := (congrFun hf2 2).trans rfl
  have h3 : fr1 3 = (Value.int .i64 0) := (congrFun hf2 3).trans rfl
  have h4 : fr1 4 = (Value.int .i64 0) := (congrFun hf2 4).trans rfl
  clear hf2
  refine thenQ.n ?_
  refine W.seq ?_
  refine W.seq ?_
  refine W.region ?_
  refine SeqW.consX rfl (StepX.pure (pMove (v := v0) rfl h0) ?_)
  obtain ⟨y3, hy3, hr⟩ := bind_some hr
  refine SeqW.consX rfl (StepX.call (gCallee rfl rfl (args1 rfl)) ((c_r06_ValidList (z := z) st.fz st.dead s0 hy3).mono ?_))
  rintro _ _ ⟨rfl, rfl⟩
  refine SeqW.consX rfl (StepX.pure (pAssign (v := (Value.int .i64 y3)) rfl rfl) ?_)
  refine SeqW.done fun fr4 hf5 => ?_
  have h0 : fr4 0 = v0 := (congrFun hf5 0).trans h0
  have h2 : fr4 2 = (Value.int .i64 0) := (congrFun hf5 2).trans h2
  have h3 : fr4 3 = (Value.int .i64 0) := (congrFun hf5 3).trans h3
  have h4 : fr4 4 = (Value.int .i64 0) := (congrFun hf5 4).trans h4
  have h6 : fr4 6 = (Value.int .i64 y3) := (congrFun hf5 6).trans rfl
  clear hf5
  refine thenQ.n ?_
  refine W.seq ?_
  refine W.region ?_
  refine SeqW.consX rfl (StepX.pure (pMove (v := (Value.int .i64 y3)) rfl h6) ?_)
  refine SeqW.consX rfl (StepX.pure (pNeq (k := .i64) (a := y3) (b := 0) rfl rfl rfl) ?_)
  refine SeqW.done fun fr6 hf7 => ?_
  have h0 : fr6 0 = v0 := (congrFun hf7 0).trans h0
  have h2 : fr6 2 = (Value.int .i64 0) := (congrFun hf7 2).trans h2
  have h3 : fr6 3 = (Value.int .i64 0) := (congrFun hf7 3).trans h3
  have h4 : fr6 4 = (Value.int .i64 0) := (congrFun hf7 4).trans h4
  have h6 : fr6 6 = (Value.int .i64 y3) := (congrFun hf7 6).trans h6
  have h11 : fr6 11 = (Value.bool (y3 != 0)) := (congrFun hf7 11).trans rfl
  clear hf7
  refine thenQ.n ?_
  rcases if_some hr with ⟨hc8, hr⟩ | ⟨hc11, hr⟩
  · refine W.condT h11 hc8 ?_
    refine W.seq ?_
    refine W.region ?_
    refine SeqW.consX rfl (StepX.pure (pMove (v := (Value.int .i64 y3)) rfl h6) ?_)
    refine SeqW.consX rfl (StepX.pure (pAssign (v := (Value.int .i64 0)) rfl rfl) ?_)
    refine SeqW.consX rfl (StepX.pure (pAssign (v := (Value.int .i64 0)) rfl rfl) ?_)
    refine SeqW.consX rfl (StepX.pure (pAssign (v := (Value.int .i64 0)) rfl rfl) ?_)
    refine SeqW.consX rfl (StepX.pure (pAssign (v := (Value.int .i64 y3)) rfl rfl) ?_)
    refine SeqW.done fun fr9 hf10 => ?_
    have h2 : fr9 2 = (Value.int .i64 0) := (congrFun hf10 2).trans rfl
    have h3 : fr9 3 = (Value.int .i64 0) := (congrFun hf10 3).trans rfl
    have h4 : fr9 4 = (Value.int .i64 0) := (congrFun hf10 4).trans rfl
    have h5 : fr9 5 = (Value.int .i64 y3) := (congrFun hf10 5).trans rfl
    clear hf10
    refine thenQ.n ?_
    refine W.ret ?_
    refine thenQ.r ?_
    obtain rfl := Option.some.inj hr
    exact ⟨z, hz, st, .inr rfl, h2, h3, h4, h5, trivial⟩
  · refine W.condF h11 hc11 ?_
    refine W.skip ?_
    refine thenQ.n ?_
    refine W.seq ?_
    refine W.seq ?_
    refine W.region ?_
    refine SeqW.consX rfl (StepX.pure (pAssign (v := (Value.int .i64 0)) rfl rfl) ?_)
    refine SeqW.done fun fr12 hf13 => ?_
    have h0 : fr12 0 = v0 := (congrFun hf13 0).trans h0
    have h2 : fr12 2 = (Value.int .i64 0) := (congrFun hf13 2).trans h2
    have h3 : fr12 3 = (Value.int .i64 0) := (congrFun hf13 3).trans h3
    have h4 : fr12 4 = (Value.int .i64 0) := (congrFun hf13 4).trans h4
    have h7 : fr12 7 = (Value.int .i64 0) := (congrFun hf13 7).trans rfl
    clear hf13
    refine thenQ.n ?_
    refine W.block ?_
    obtain ⟨y48, hy48, hr⟩ := bind_some hr
    refine W.keep (u_r06_Total_0 _ (Zx.refl _) st h0 s0 h2 h3 h4 h7 hy48) ?_
    rintro ex54 fr49 m50 hk52 ⟨z51, hz53, st, rfl, h2, h3, h4, -⟩
    replace hz := hz.trans hz53
    clear hk52
    refine blockQ.hit ?_
    refine thenQ.n ?_
    refine W.seq ?_
    refine W.region ?_
    refine SeqW.consX rfl (StepX.pure (pMove (v := (Value.int .i64 y48.1)) rfl h2) ?_)
    refine SeqW.consX rfl (StepX.pure (pMove (v := (Value.int .i64 y48.2.1)) rfl h3) ?_)
    refine SeqW.consX rfl (StepX.pure (pMove (v := (Value.int .i64 y48.2.2)) rfl h4) ?_)
    refine SeqW.consX rfl (StepX.pure (pAssign (v := (Value.int .i64 y48.1)) rfl rfl) ?_)
    refine SeqW.consX rfl (StepX.pure (pAssign (v := (Value.int .i64 y48.2.1)) rfl rfl) ?_)
    refine SeqW.consX rfl (StepX.pure (pAssign (v := (Value.int .i64 y48.2.2)) rfl rfl) ?_)
    refine SeqW.consX rfl (StepX.pure (pAssign (v := (Value.int .i64 0)) rfl rfl) ?_)
    refine SeqW.done fun fr55 hf56 => ?_
    have h2 : fr55 2 = (Value.int .i64 y48.1) := (congrFun hf56 2).trans rfl
    have h3 : fr55 3 = (Value.int .i64 y48.2.1) := (congrFun hf56 3).trans rfl
    have h4 : fr55 4 = (Value.int .i64 y48.2.2) := (congrFun hf56 4).trans rfl
    have h5 : fr55 5 = (Value.int .i64 0) := (congrFun hf56 5).trans rfl
    clear hf56
    refine thenQ.n ?_
    refine W.ret ?_
    obtain rfl := Option.some.inj hr
    exact ⟨z51, hz, st, .inr rfl, h2, h3, h4, h5, trivial⟩

theorem c_r06_Total {N : Nat} {z : Nat → Blk} {m : Mem} {x0 : List Wagon} {v0 : Value} (fz : Fz z m) (hd : ∀ b, m.next ≤ b → m.blk b = .dead) (s0 : SlR TWagon z x0 v0) {r : Int × Int × Int × Int} (hr : r06_Total N x0 = some r) : CallW Try.prog 37 #[v0] m fun v m' => v = (Value.tuple [(Value.int .i64 r.1), (Value.int .i64 r.2.1), (Value.int .i64 r.2.2.1), (Value.int .i64 r.2.2.2)].toArray) ∧ m' = m := by
  refine CallW.flat Try.func37 rfl (by kernel_rfl) (Nat.le_of_ble_eq_true rfl) rfl (z := z) (fun fr hf => ?_)
  have h0 : fr 0 = _ := hf 0 _ rfl
  refine (u_r06_Total (k := none) (Zx.refl _) (St.start fz hd) h0 s0 hr).mono ?_
  rintro ex fr' m' ⟨z', hz, st, he, h2, h3, h4, h5, -⟩
  exact ⟨he, z', st, [(Value.int .i64 r.1), (Value.int .i64 r.2.1), (Value.int .i64 r.2.2.1), (Value.int .i64 r.2.2.2)], ⟨h2.symm, h3.symm, h4.symm, h5.symm, trivial⟩, .inr (List.forall_mem_cons.2 ⟨rfl, List.forall_mem_cons.2 ⟨rfl, List.forall_mem_cons.2 ⟨rfl, List.forall_mem_cons.2 ⟨rfl, fun _ h => nomatch h⟩⟩⟩⟩), rfl⟩

/-! ### humpyard/humpyardref35.Total -/

theorem u_r35_Total_1 {N : Nat}  {z0 z : Nat → Blk} {e m : Mem} {k : Option Nat} {fr : Nat → Value} {x0 : List Wagon} {x1 : List Int} {x10 : Int} {v0 : Value} {v1 : Value} {x4 : Brakes} {b4 : Nat} (hz : Zx e.next z0 z) (st : St z e m k) (h0 : fr 0 = v0) (s0 : SlR TWagon z x0 v0) (h1 : fr 1 = v1) (s1 : SlR (TInt 3 .i64) z x1 v1) (h4 : fr 4 = (Value.pointer (some ⟨b4, 0, none⟩))) (bx4 : Bx z e m k b4 [(Value.int .i64 x4.length), (Value.int .i64 x4.axles), (Value.int .i64 x4.mass), (Value.int .i64 x4.braked), (Value.int .i64 x4.percent), (Value.int .i64 x4.required), (Value.int .i64 x4.missing)] 33) (h10 : fr 10 = (Value.int .i64 x10)) {r : Bool} (hr : r35_Total_1 N x0 x1 x10 = some r) : W Try.prog (sub (bodyOf Try.f26) [1, 1, 1, 0, 1, 0, 0, 1, 0, 0, 0]) (fun ex fr' m' => ∃ z', Zx e.next z0 z' ∧ St z' e m' k ∧ ex = AExit.normal ∧ fr' 44 = (Value.bool r) ∧ Bx z' e m' k b4 [(Value.int .i64 x4.length), (Value.int .i64 x4.axles), (Value.int .i64 x4.mass), (Value.int .i64 x4.braked), (Value.int .i64 x4.percent), (Value.int .i64 x4.required), (Value.int .i64 x4.missing)] 33 ∧ True) fr m := by
  unfold r35_Total_1 at hr
  refine W.region ?_
  refine SeqW.consX rfl (StepX.pure (pMove (v := v1) rfl h1) ?_)
  refine SeqW.consX rfl (StepX.pure (pMove (v := (Value.int .i64 x10)) rfl h10) ?_)
  obtain ⟨y25, hy25, hr⟩ := bind_some hr
  refine SeqW.consX rfl (kIdxR (T := (TInt 3 .i64)) (xs := x1) (n := x10) rfl Try.underlying22 Try.type3 rfl rfl rfl s1 hy25 ?_)
  intro B26 f27 cs28 hd29 hc30
  obtain rfl := hd29
  refine SeqW.consX rfl (kLoad (v := (Value.int .i64 y25)) rfl Try.underlying3 rfl rfl (ldz_load st.fz (hc30 0 _ rfl)) ?_)
  refine SeqW.consX rfl (StepX.pure (pLss (k := .i64) (a := y25) (b := 0) rfl rfl rfl) ?_)
  refine SeqW.consX rfl (StepX.pure (pMove (v := (Value.bool (decide (y25 < 0)))) rfl rfl) ?_)
  rcases if_some hr with ⟨hc31, hr⟩ | ⟨hc34, hr⟩
  · refine SeqW.skipG rfl rfl rfl hc31 ?_
    refine SeqW.skipG rfl rfl rfl hc31 ?_
    refine SeqW.skipG rfl rfl rfl hc31 ?_
    refine SeqW.skipG rfl rfl rfl hc31 ?_
    refine SeqW.skipG rfl rfl rfl hc31 ?_
    refine SeqW.skipG rfl rfl rfl hc31 ?_
    refine SeqW.skipG rfl rfl rfl hc31 ?_
    refine SeqW.consX rfl (StepX.pure (pPick (t := true) (v := (Value.bool true)) rfl ((congrArg Value.bool hc31)) rfl) ?_)
    refine SeqW.done fun fr32 hf33 => ?_
    have h0 : fr32 0 = v0 := (congrFun hf33 0).trans h0
    have h1 : fr32 1 = v1 := (congrFun hf33 1).trans h1
    have h4 : fr32 4 = (Value.pointer (some ⟨b4, 0, none⟩)) := (congrFun hf33 4).trans h4
    have h10 : fr32 10 = (Value.int .i64 x10) := (congrFun hf33 10).trans h10
    have h44 : fr32 44 = (Value.bool true) := (congrFun hf33 44).trans rfl
    clear hf33
    obtain rfl := Option.some.inj hr
    exact ⟨z, hz, st, rfl, h44, bx4, trivial⟩
  · refine SeqW.consG rfl rfl rfl hc34 (StepX.pure (pMove (v := v1) rfl h1) ?_)
    refine SeqW.consG rfl rfl rfl hc34 (StepX.pure (pMove (v := (Value.int .i64 x10)) rfl h10) ?_)
    obtain ⟨y35, hy35, hr⟩ := bind_some hr
    refine SeqW.consG rfl rfl rfl hc34 (kIdxR (T := (TInt 3 .i64)) (xs := x1) (n := x10) rfl Try.underlying22 Try.type3 rfl rfl rfl s1 hy35 ?_)
    intro B36 f37 cs38 hd39 hc40
    obtain rfl := hd39
    refine SeqW.consG rfl rfl rfl hc34 (kLoad (v := (Value.int .i64 y35)) rfl Try.underlying3 rfl rfl (ldz_load st.fz (hc40 0 _ rfl)) ?_)
    refine SeqW.consG rfl rfl rfl hc34 (StepX.pure (pMove (v := v0) rfl h0) ?_)
    refine SeqW.consG rfl rfl rfl hc34 (StepX.pure (pLenR (xs := x0) rfl Try.underlying25 rfl s0) ?_)
    refine SeqW.consG rfl rfl rfl hc34 (StepX.pure (pGeq (k := .i64) (a := y35) (b := (x0.length : Int)) rfl rfl rfl) ?_)
    refine SeqW.consX rfl (StepX.pure (pPick (t := false) (v := (Value.bool (decide ((x0.length : Int) ≤ y35)))) rfl ((congrArg Value.bool hc34)) rfl) ?_)
    refine SeqW.done fun fr41 hf42 => ?_
    have h0 : fr41 0 = v0 := (congrFun hf42 0).trans h0
    have h1 : fr41 1 = v1 := (congrFun hf42 1).trans h1
    have h4 : fr41 4 = (Value.pointer (some ⟨b4, 0, none⟩)) := (congrFun hf42 4).trans h4
    have h10 : fr41 10 = (Value.int .i64 x10) := (congrFun hf42 10).trans h10
    have h44 : fr41 44 = (Value.bool (decide ((x0.length : Int) ≤ y35))) := (congrFun hf42 44).trans rfl
    clear hf42
    obtain rfl := Option.some.inj hr
    exact ⟨z, hz, st, rfl, h44, bx4, trivial⟩

theorem u_r35_Total_0 : ∀ (n : Nat) {N : Nat}  {z0 z : Nat → Blk} {e m : Mem} {k : Option Nat} {fr : Nat → Value} {x0 : List Wagon} {x1 : List Int} {x4 : Brakes} {x10 : Int} {v0 : Value} {v1 : Value} {b4 : Nat} (hz : Zx e.next z0 z) (st : St z e m k) (h0 : fr 0 = v0) (s0 : SlR TWagon z x0 v0) (h1 : fr 1 = v1) (s1 : SlR (TInt 3 .i64) z x1 v1) (h4 : fr 4 = (Value.pointer (some ⟨b4, 0, none⟩))) (bx4 : Bx z e m k b4 [(Value.int .i64 x4.length), (Value.int .i64 x4.axles), (Value.int .i64 x4.mass), (Value.int .i64 x4.braked), (Value.int .i64 x4.percent), (Value.int .i64 x4.required), (Value.int .i64 x4.missing)] 33) (h10 : fr 10 = (Value.int .i64 x10)) {r : Sum (Brakes) (Brakes × Int)} (hr : r35_Total_0 N x0 x1 n x4 x10 = some r), W Try.prog (sub (bodyOf Try.f26) [1, 1, 1, 0, 1, 0]) (fun ex fr' m' => ∃ z', Zx e.next z0 z' ∧ St z' e m' k ∧ ((∃ q, r = Sum.inl q ∧ ex = AExit.exit 0 ∧ fr' 4 = (Value.pointer (some ⟨b4, 0, none⟩)) ∧ Bx z' e m' k b4 [(Value.int .i64 q.length), (Value.int .i64 q.axles), (Value.int .i64 q.mass), (Value.int .i64 q.braked), (Value.int .i64 q.percent), (Value.int .i64 q.required), (Value.int .i64 q.missing)] 33 ∧ True) ∨ (∃ q, r = Sum.inr q ∧ ex = AExit.ret ∧ fr' 4 = (Value.pointer (some ⟨b4, 0, none⟩)) ∧ Bx z' e m' k b4 [(Value.int .i64 q.1.length), (Value.int .i64 q.1.axles), (Value.int .i64 q.1.mass), (Value.int .i64 q.1.braked), (Value.int .i64 q.1.percent), (Value.int .i64 q.1.required), (Value.int .i64 q.1.missing)] 33 ∧ fr' 5 = (Value.int .i64 q.2) ∧ True))) fr m := by
  intro n
  induction n with
  | zero => intro N z0 z e m k fr x0 x1 x4 x10 v0 v1 b4 hz st h0 s0 h1 s1 h4 bx4 h10 r hr; cases (show (none : Option _) = some r from hr)
  | succ n ih =>
    intro N z0 z e m k fr x0 x1 x4 x10 v0 v1 b4 hz st h0 s0 h1 s1 h4 bx4 h10 r hr
    unfold r35_Total_0 at hr
    refine W.loop1 ?_
    refine W.seq ?_
    refine W.seq ?_
    refine W.region ?_
    refine SeqW.consX rfl (StepX.pure (pMove (v := (Value.int .i64 x10)) rfl h10) ?_)
    refine SeqW.consX rfl (StepX.pure (pMove (v := v1) rfl h1) ?_)
    refine SeqW.consX rfl (StepX.pure (pLenR (xs := x1) rfl Try.underlying22 rfl s1) ?_)
    refine SeqW.consX rfl (StepX.pure (pLss (k := .i64) (a := x10) (b := (x1.length : Int)) rfl rfl rfl) ?_)
    refine SeqW.done fun fr22 hf23 => ?_
    have h0 : fr22 0 = v0 := (congrFun hf23 0).trans h0
    have h1 : fr22 1 = v1 := (congrFun hf23 1).trans h1
    have h4 : fr22 4 = (Value.pointer (some ⟨b4, 0, none⟩)) := (congrFun hf23 4).trans h4
    have h10 : fr22 10 = (Value.int .i64 x10) := (congrFun hf23 10).trans h10
    have h28 : fr22 28 = (Value.bool (decide (x10 < (x1.length : Int)))) := (congrFun hf23 28).trans rfl
    clear hf23
    refine thenQ.n ?_
    rcases if_some hr with ⟨hc24, hr⟩ | ⟨hc60, hr⟩
    · refine W.condT h28 hc24 ?_
      refine W.skip ?_
      refine thenQ.n ?_
      refine W.seq ?_
      refine W.block ?_
      refine W.seq ?_
      obtain ⟨y43, hy43, hr⟩ := bind_some hr
      refine W.keep (u_r35_Total_1 (x4 := x4) (Zx.refl _) st h0 s0 h1 s1 h4 bx4 h10 hy43) ?_
      rintro ex49 fr44 m45 hk47 ⟨z46, hz48, st, rfl, h44, O50, -⟩
      replace s0 := s0.mono hz48.le
      replace s1 := s1.mono hz48.le
      have h0 := (hk47 0 rfl).trans h0
      have h1 := (hk47 1 rfl).trans h1
      have h4 := (hk47 4 rfl).trans h4
      have h10 := (hk47 10 rfl).trans h10
      replace hz := hz.trans hz48
      clear hk47
      refine thenQ.n ?_
      rcases if_some hr with ⟨hc51, hr⟩ | ⟨hc56, hr⟩
      · refine W.condT h44 hc51 ?_
        refine W.seq ?_
        refine W.region ?_
        refine SeqW.consX rfl (kBuildS [] [(Value.int .i64 0), (Value.int .i64 0), (Value.int .i64 0), (Value.int .i64 0), (Value.int .i64 0), (Value.int .i64 0), (Value.int .i64 0)] rfl Try.underlying33 Try.type33 rfl rfl (places33 Try.underlying33) rfl (rfl) rfl ?_)
        refine SeqW.consX rfl (kPut (off := 0) (w := (Value.agg [(Value.int .i64 0), (Value.int .i64 0), (Value.int .i64 0), (Value.int .i64 0), (Value.int .i64 0), (Value.int .i64 0), (Value.int .i64 0)].toArray)) (new := [(Value.int .i64 0), (Value.int .i64 0), (Value.int .i64 0), (Value.int .i64 0), (Value.int .i64 0), (Value.int .i64 0), (Value.int .i64 0)]) rfl Try.type33 h4 rfl rfl rfl rfl O50 rfl [(Value.int .i64 0), (Value.int .i64 0), (Value.int .i64 0), (Value.int .i64 0), (Value.int .i64 0), (Value.int .i64 0), (Value.int .i64 0)] rfl st ?_)
        intro m52 st O50 sm53
        refine SeqW.consX rfl (StepX.pure (pAssign (v := (Value.int .i64 2)) rfl rfl) ?_)
        refine SeqW.done fun fr54 hf55 => ?_
        have h4 : fr54 4 = (Value.pointer (some ⟨b4, 0, none⟩)) := (congrFun hf55 4).trans h4
        have h5 : fr54 5 = (Value.int .i64 2) := (congrFun hf55 5).trans rfl
        clear hf55
        refine thenQ.n ?_
        refine W.ret ?_
        refine blockQ.r ?_
        refine thenQ.r ?_
        refine thenQ.r ?_
        obtain rfl := Option.some.inj hr
        exact ⟨z46, hz, st, .inr ⟨_, rfl, rfl, h4, O50, h5, trivial⟩⟩
      · refine W.condF h44 hc56 ?_
        refine W.skip ?_
        refine blockQ.n ?_
        refine thenQ.n ?_
        refine W.region ?_
        refine SeqW.consX rfl (StepX.pure (pMove (v := (Value.int .i64 x10)) rfl h10) ?_)
        refine SeqW.consX rfl (StepX.pure (pAdd (k := .i64) (a := x10) (b := 1) rfl rfl rfl) ?_)
        obtain ⟨y57, hy57, hr⟩ := lt_some hr
        refine SeqW.consX rfl (StepX.pure (pAssign rfl (congrArg (Value.int .i64) hy57)) ?_)
        refine SeqW.done fun fr58 hf59 => ?_
        have h0 : fr58 0 = v0 := (congrFun hf59 0).trans h0
        have h1 : fr58 1 = v1 := (congrFun hf59 1).trans h1
        have h4 : fr58 4 = (Value.pointer (some ⟨b4, 0, none⟩)) := (congrFun hf59 4).trans h4
        have h10 : fr58 10 = (Value.int .i64 y57) := (congrFun hf59 10).trans rfl
        clear hf59
        refine thenQ.n ?_
        exact ih (x4 := x4) hz st h0 s0 h1 s1 h4 O50 h10 hr
    · refine W.condF h28 hc60 ?_
      refine W.exit ?_
      refine thenQ.x ?_
      refine thenQ.x ?_
      obtain rfl := Option.some.inj hr
      exact ⟨z, hz, st, .inl ⟨_, rfl, rfl, h4, bx4, trivial⟩⟩

theorem u_r35_Total_2 : ∀ (n : Nat) {N : Nat}  {z0 z : Nat → Blk} {e m : Mem} {k : Option Nat} {fr : Nat → Value} {x1 : List Int} {x4 : Brakes} {x11 : Int} {v1 : Value} {b4 : Nat} (hz : Zx e.next z0 z) (st : St z e m k) (h1 : fr 1 = v1) (s1 : SlR (TInt 3 .i64) z x1 v1) (h4 : fr 4 = (Value.pointer (some ⟨b4, 0, none⟩))) (bx4 : Bx z e m k b4 [(Value.int .i64 x4.length), (Value.int .i64 x4.axles), (Value.int .i64 x4.mass), (Value.int .i64 x4.braked), (Value.int .i64 x4.percent), (Value.int .i64 x4.required), (Value.int .i64 x4.missing)] 33) (h11 : fr 11 = (Value.int .i64 x11)) {r : Sum (Brakes) (Brakes × Int)} (hr : r35_Total_2 N x1 n x4 x11 = some r), W Try.prog (sub (bodyOf Try.f26) [1, 1, 1, 1, 0, 1, 0]) (fun ex fr' m' => ∃ z', Zx e.next z0 z' ∧ St z' e m' k ∧ ((∃ q, r = Sum.inl q ∧ ex = AExit.exit 2 ∧ fr' 4 = (Value.pointer (some ⟨b4, 0, none⟩)) ∧ Bx z' e m' k b4 [(Value.int .i64 q.length), (Value.int .i64 q.axles), (Value.int .i64 q.mass), (Value.int .i64 q.braked), (Value.int .i64 q.percent), (Value.int .i64 q.required), (Value.int .i64 q.missing)] 33 ∧ True) ∨ (∃ q, r = Sum.inr q ∧ ex = AExit.ret ∧ fr' 4 = (Value.pointer (some ⟨b4, 0, none⟩)) ∧ Bx z' e m' k b4 [(Value.int .i64 q.1.length), (Value.int .i64 q.1.axles), (Value.int .i64 q.1.mass), (Value.int .i64 q.1.braked), (Value.int .i64 q.1.percent), (Value.int .i64 q.1.required), (Value.int .i64 q.1.missing)] 33 ∧ fr' 5 = (Value.int .i64 q.2) ∧ True))) fr m := by
  intro n
  induction n with
  | zero => intro N z0 z e m k fr x1 x4 x11 v1 b4 hz st h1 s1 h4 bx4 h11 r hr; cases (show (none : Option _) = some r from hr)
  | succ n ih =>
    intro N z0 z e m k fr x1 x4 x11 v1 b4 hz st h1 s1 h4 bx4 h11 r hr
    unfold r35_Total_2 at hr
    refine W.loop1 ?_
    refine W.seq ?_
    refine W.seq ?_
    refine W.region ?_
    refine SeqW.consX rfl (StepX.pure (pMove (v := (Value.int .i64 x11)) rfl h11) ?_)
    refine SeqW.consX rfl (StepX.pure (pMove (v := v1) rfl h1) ?_)
    refine SeqW.consX rfl (StepX.pure (pLenR (xs := x1) rfl Try.underlying22 rfl s1) ?_)
    refine SeqW.consX rfl (StepX.pure (pLss (k := .i64) (a := x11) (b := (x1.length : Int)) rfl rfl rfl) ?_)
    refine SeqW.done fun fr73 hf74 => ?_
    have h1 : fr73 1 = v1 := (congrFun hf74 1).trans h1
    have h4 : fr73 4 = (Value.pointer (some ⟨b4, 0, none⟩)) := (congrFun hf74 4).trans h4
    have h11 : fr73 11 = (Value.int .i64 x11) := (congrFun hf74 11).trans h11
    have h49 : fr73 49 = (Value.bool (decide (x11 < (x1.length : Int)))) := (congrFun hf74 49).trans rfl
    clear hf74
    refine thenQ.n ?_
    rcases if_some hr with ⟨hc75, hr⟩ | ⟨hc101, hr⟩
    · refine W.condT h49 hc75 ?_
      refine W.skip ?_
      refine thenQ.n ?_
      refine W.seq ?_
      refine W.block ?_
      refine W.seq ?_
      refine W.draw ?_
      refine DrawW.cons rfl (StepX.pure (pMove (v := v1) rfl h1) ?_)
      refine ⟨trivial, ?_⟩
      refine DrawW.cons rfl (StepX.pure (pMove (v := (Value.int .i64 x11)) rfl h11) ?_)
      refine ⟨trivial, ?_⟩
      obtain ⟨y76, hy76, hr⟩ := bind_some hr
      refine DrawW.cons rfl (kCut (T := (TInt 3 .i64)) (xs := x1) (a := 0) (b := x11) rfl Try.underlying22 Try.type3 rfl rfl rfl ⟨_, rfl⟩ s1 st hy76 ?_)
      intro V77 _ hI79 Q78
      refine ⟨?_, ?_⟩
      · exact demN
      refine DrawW.cons rfl (StepX.pure (pMove (v := v1) rfl h1) ?_)
      refine ⟨trivial, ?_⟩
      refine DrawW.cons rfl (StepX.pure (pMove (v := (Value.int .i64 x11)) rfl h11) ?_)
      refine ⟨trivial, ?_⟩
      obtain ⟨y81, hy81, hr⟩ := bind_some hr
      refine DrawW.cons rfl (kIdxR (T := (TInt 3 .i64)) (xs := x1) (n := x11) rfl Try.underlying22 Try.type3 rfl rfl rfl s1 hy81 ?_)
      intro B82 f83 cs84 hd85 hc86
      obtain rfl := hd85
      refine ⟨trivial, ?_⟩
      refine DrawW.cons rfl (kLoad (v := (Value.int .i64 y81)) rfl Try.underlying3 rfl rfl (ldz_load st.fz (hc86 0 _ rfl)) ?_)
      refine ⟨?_, ?_⟩
      · exact demN
      have sto87 := st
      have old88 := bx4
      obtain ⟨y89, hy89, hr⟩ := bind_some hr
      refine DrawW.cons rfl (StepX.call (gCallee rfl rfl (args2 rfl rfl)) ((c_r35_Off (z := z) st.fz st.dead Q78 hy89).mono ?_))
      rintro _ _ ⟨rfl, rfl⟩
      refine ⟨⟨?_, ?_⟩, ?_⟩
      · first | refine demP (gLoad (v := (Value.int .i64 y81)) rfl Try.underlying3 rfl rfl (ldz_load st.fz (hc86 0 _ rfl))) ?_ | refine demA (by decide) ?_
        first | refine demP (hI79 _ st.fz) ?_ | refine demA (by decide) ?_
        exact demN
      · exact demN
      refine DrawW.done fun fr90 hf91 => ?_
      have h1 : fr90 1 = v1 := (congrFun hf91 1).trans h1
      have h4 : fr90 4 = (Value.pointer (some ⟨b4, 0, none⟩)) := (congrFun hf91 4).trans h4
      have h11 : fr90 11 = (Value.int .i64 x11) := (congrFun hf91 11).trans h11
      have h59 : fr90 59 = (Value.bool y89) := (congrFun hf91 59).trans rfl
      clear hf91
      refine thenQ.n ?_
      rcases if_some hr with ⟨hc92, hr⟩ | ⟨hc97, hr⟩
      · refine W.condT h59 hc92 ?_
        refine W.seq ?_
        refine W.region ?_
        refine SeqW.consX rfl (kBuildS [] [(Value.int .i64 0), (Value.int .i64 0), (Value.int .i64 0), (Value.int .i64 0), (Value.int .i64 0), (Value.int .i64 0), (Value.int .i64 0)] rfl Try.underlying33 Try.type33 rfl rfl (places33 Try.underlying33) rfl (rfl) rfl ?_)
        refine SeqW.consX rfl (kPut (off := 0) (w := (Value.agg [(Value.int .i64 0), (Value.int .i64 0), (Value.int .i64 0), (Value.int .i64 0), (Value.int .i64 0), (Value.int .i64 0), (Value.int .i64 0)].toArray)) (new := [(Value.int .i64 0), (Value.int .i64 0), (Value.int .i64 0), (Value.int .i64 0), (Value.int .i64 0), (Value.int .i64 0), (Value.int .i64 0)]) rfl Try.type33 h4 rfl rfl rfl rfl bx4 rfl [(Value.int .i64 0), (Value.int .i64 0), (Value.int .i64 0), (Value.int .i64 0), (Value.int .i64 0), (Value.int .i64 0), (Value.int .i64 0)] rfl st ?_)
        intro m93 st bx4 sm94
        refine SeqW.consX rfl (StepX.pure (pAssign (v := (Value.int .i64 8)) rfl rfl) ?_)
        refine SeqW.done fun fr95 hf96 => ?_
        have h4 : fr95 4 = (Value.pointer (some ⟨b4, 0, none⟩)) := (congrFun hf96 4).trans h4
        have h5 : fr95 5 = (Value.int .i64 8) := (congrFun hf96 5).trans rfl
        clear hf96
        refine thenQ.n ?_
        refine W.ret ?_
        refine blockQ.r ?_
        refine thenQ.r ?_
        refine thenQ.r ?_
        obtain rfl := Option.some.inj hr
        exact ⟨z, hz, st, .inr ⟨_, rfl, rfl, h4, bx4, h5, trivial⟩⟩
      · refine W.condF h59 hc97 ?_
        refine W.skip ?_
        refine blockQ.n ?_
        refine thenQ.n ?_
        refine W.region ?_
        refine SeqW.consX rfl (StepX.pure (pMove (v := (Value.int .i64 x11)) rfl h11) ?_)
        refine SeqW.consX rfl (StepX.pure (pAdd (k := .i64) (a := x11) (b := 1) rfl rfl rfl) ?_)
        obtain ⟨y98, hy98, hr⟩ := lt_some hr
        refine SeqW.consX rfl (StepX.pure (pAssign rfl (congrArg (Value.int .i64) hy98)) ?_)
        refine SeqW.done fun fr99 hf100 => ?_
        have h1 : fr99 1 = v1 := (congrFun hf100 1).trans h1
        have h4 : fr99 4 = (Value.pointer (some ⟨b4, 0, none⟩)) := (congrFun hf100 4).trans h4
        have h11 : fr99 11 = (Value.int .i64 y98) := (congrFun hf100 11).trans rfl
        clear hf100
        refine thenQ.n ?_
        exact ih (x4 := x4) hz st h1 s1 h4 bx4 h11 hr
    · refine W.condF h49 hc101 ?_
      refine W.exit ?_
      refine thenQ.x ?_
      refine thenQ.x ?_
      obtain rfl := Option.some.inj hr
      exact ⟨z, hz, st, .inl ⟨_, rfl, rfl, h4, bx4, trivial⟩⟩

theorem u_r35_Total_4 {N : Nat}  {z0 z : Nat → Blk} {e m : Mem} {k : Option Nat} {fr : Nat → Value} {x0 : List Wagon} {x1 : List Int} {x12 : Brakes} {x13 : Int} {v0 : Value} {v1 : Value} {x4 : Brakes} {b4 : Nat} {b12 : Nat} (hz : Zx e.next z0 z) (st : St z e m k) (h0 : fr 0 = v0) (s0 : SlR TWagon z x0 v0) (h1 : fr 1 = v1) (s1 : SlR (TInt 3 .i64) z x1 v1) (h4 : fr 4 = (Value.pointer (some ⟨b4, 0, none⟩))) (bx4 : Bx z e m k b4 [(Value.int .i64 x4.length), (Value.int .i64 x4.axles), (Value.int .i64 x4.mass), (Value.int .i64 x4.braked), (Value.int .i64 x4.percent), (Value.int .i64 x4.required), (Value.int .i64 x4.missing)] 33) (h12 : fr 12 = (Value.pointer (some ⟨b12, 0, none⟩))) (bx12 : Bx z e m k b12 [(Value.int .i64 x12.length), (Value.int .i64 x12.axles), (Value.int .i64 x12.mass), (Value.int .i64 x12.braked), (Value.int .i64 x12.percent), (Value.int .i64 x12.required), (Value.int .i64 x12.missing)] 33) (h13 : fr 13 = (Value.int .i64 x13)) (ao4_o12 : Ap (some b4) (some b12)) {r : Brakes} (hr : r35_Total_4 N x0 x1 x12 x13 = some r) : W Try.prog (sub (bodyOf Try.f26) [1, 1, 1, 1, 1, 1, 0, 1, 0, 0, 1, 0]) (fun ex fr' m' => ∃ z', Zx e.next z0 z' ∧ St z' e m' k ∧ ex = AExit.normal ∧ fr' 12 = (Value.pointer (some ⟨b12, 0, none⟩)) ∧ Bx z' e m' k b12 [(Value.int .i64 r.length), (Value.int .i64 r.axles), (Value.int .i64 r.mass), (Value.int .i64 r.braked), (Value.int .i64 r.percent), (Value.int .i64 r.required), (Value.int .i64 r.missing)] 33 ∧ Bx z' e m' k b4 [(Value.int .i64 x4.length), (Value.int .i64 x4.axles), (Value.int .i64 x4.mass), (Value.int .i64 x4.braked), (Value.int .i64 x4.percent), (Value.int .i64 x4.required), (Value.int .i64 x4.missing)] 33 ∧ Ap (some b12) (some b4) ∧ True) fr m := by
  unfold r35_Total_4 at hr
  refine W.block ?_
  refine W.seq ?_
  refine W.region ?_
  refine SeqW.consX rfl (StepX.pure (pMove (v := v1) rfl h1) ?_)
  refine SeqW.consX rfl (StepX.pure (pMove (v := (Value.int .i64 x13)) rfl h13) ?_)
  obtain ⟨y128, hy128, hr⟩ := bind_some hr
  refine SeqW.consX rfl (StepX.call (gCallee rfl rfl (args2 rfl rfl)) ((c_r35_Off (z := z) st.fz st.dead s1 hy128).mono ?_))
  rintro _ _ ⟨rfl, rfl⟩
  refine SeqW.consX rfl (StepX.pure (pNot (b := y128) rfl rfl) ?_)
  refine SeqW.done fun fr129 hf130 => ?_
  have h0 : fr129 0 = v0 := (congrFun hf130 0).trans h0
  have h1 : fr129 1 = v1 := (congrFun hf130 1).trans h1
  have h4 : fr129 4 = (Value.pointer (some ⟨b4, 0, none⟩)) := (congrFun hf130 4).trans h4
  have h12 : fr129 12 = (Value.pointer (some ⟨b12, 0, none⟩)) := (congrFun hf130 12).trans h12
  have h13 : fr129 13 = (Value.int .i64 x13) := (congrFun hf130 13).trans h13
  have h74 : fr129 74 = (Value.bool (!y128)) := (congrFun hf130 74).trans rfl
  clear hf130
  refine thenQ.n ?_
  rcases if_some hr with ⟨hc131, hr⟩ | ⟨hc145, hr⟩
  · refine W.condT h74 hc131 ?_
    refine W.draw ?_
    refine DrawW.cons rfl (kField rfl Try.underlying33 rfl Try.type3 rfl h12 rfl ?_)
    refine ⟨trivial, ?_⟩
    refine DrawW.cons rfl (kLoad rfl Try.underlying3 rfl rfl (bx12.load (v := (Value.int .i64 x12.braked)) rfl) ?_)
    refine ⟨?_, ?_⟩
    · exact demN
    refine DrawW.cons rfl (StepX.pure (pMove (v := v0) rfl h0) ?_)
    refine ⟨trivial, ?_⟩
    refine DrawW.cons rfl (StepX.pure (pMove (v := (Value.int .i64 x13)) rfl h13) ?_)
    refine ⟨trivial, ?_⟩
    obtain ⟨y132, hy132, hr⟩ := bind_some hr
    refine DrawW.cons rfl (kIdxR (T := TWagon) (xs := x0) (n := x13) rfl Try.underlying25 Try.type48 rfl rfl rfl s0 hy132 ?_)
    intro B133 f134 cs135 hd136 hc137
    obtain rfl := hd136
    refine ⟨trivial, ?_⟩
    refine DrawW.cons rfl (kField rfl Try.underlying48 rfl Try.type3 rfl rfl rfl ?_)
    refine ⟨trivial, ?_⟩
    refine DrawW.cons rfl (kLoad (v := (Value.int .i64 y132.brake)) rfl Try.underlying3 rfl rfl (ldz_load st.fz (hc137 4 _ rfl)) ?_)
    refine ⟨?_, ?_⟩
    · exact demN
    refine DrawW.cons rfl (StepX.pure (pAdd (k := .i64) (a := x12.braked) (b := y132.brake) rfl rfl rfl) ?_)
    refine ⟨trivial, ?_⟩
    refine DrawW.cons rfl (kField rfl Try.underlying33 rfl Try.type3 rfl h12 rfl ?_)
    refine ⟨trivial, ?_⟩
    have sto138 := st
    have old139 := bx4
    have old140 := bx12
    refine DrawW.cons rfl (kPut (off := 3) (w := (Value.int .i64 (IntKind.wrap .i64 (x12.braked + y132.brake)))) (new := [(Value.int .i64 (IntKind.wrap .i64 (x12.braked + y132.brake)))]) rfl Try.type3 rfl rfl rfl rfl rfl bx12 rfl [(Value.int .i64 x12.length), (Value.int .i64 x12.axles), (Value.int .i64 x12.mass), (Value.int .i64 (IntKind.wrap .i64 (x12.braked + y132.brake))), (Value.int .i64 x12.percent), (Value.int .i64 x12.required), (Value.int .i64 x12.missing)] rfl st ?_)
    intro m141 st bx12 sm142
    replace bx4 := bx4.same sm142 ao4_o12
    refine ⟨⟨?_, ?_⟩, ?_⟩
    · first | refine demP (gLoad (v := (Value.int .i64 y132.brake)) rfl Try.underlying3 rfl rfl (ldz_load st.fz (hc137 4 _ rfl))) ?_ | refine demA (by decide) ?_
      first | refine demP (gLoad rfl Try.underlying3 rfl rfl (bx12.load (v := (Value.int .i64 x12.braked)) rfl)) ?_ | refine demA (by decide) ?_
      exact demN
    · exact demN
    refine DrawW.done fun fr143 hf144 => ?_
    have h0 : fr143 0 = v0 := (congrFun hf144 0).trans h0
    have h1 : fr143 1 = v1 := (congrFun hf144 1).trans h1
    have h4 : fr143 4 = (Value.pointer (some ⟨b4, 0, none⟩)) := (congrFun hf144 4).trans h4
    have h12 : fr143 12 = (Value.pointer (some ⟨b12, 0, none⟩)) := (congrFun hf144 12).trans h12
    have h13 : fr143 13 = (Value.int .i64 x13) := (congrFun hf144 13).trans h13
    clear hf144
    refine blockQ.n ?_
    obtain rfl := Option.some.inj hr
    exact ⟨z, hz, st, rfl, h12, bx12, bx4, (Ap.symm ao4_o12), trivial⟩
  · refine W.condF h74 hc145 ?_
    refine W.skip ?_
    refine blockQ.n ?_
    obtain rfl := Option.some.inj hr
    exact ⟨z, hz, st, rfl, h12, bx12, bx4, (Ap.symm ao4_o12), trivial⟩

theorem u_r35_Total_3 : ∀ (n : Nat) {N : Nat}  {z0 z : Nat → Blk} {e m : Mem} {k : Option Nat} {fr : Nat → Value} {x0 : List Wagon} {x1 : List Int} {x12 : Brakes} {x13 : Int} {v0 : Value} {v1 : Value} {x4 : Brakes} {b4 : Nat} {b12 : Nat} (hz : Zx e.next z0 z) (st : St z e m k) (h0 : fr 0 = v0) (s0 : SlR TWagon z x0 v0) (h1 : fr 1 = v1) (s1 : SlR (TInt 3 .i64) z x1 v1) (h4 : fr 4 = (Value.pointer (some ⟨b4, 0, none⟩))) (bx4 : Bx z e m k b4 [(Value.int .i64 x4.length), (Value.int .i64 x4.axles), (Value.int .i64 x4.mass), (Value.int .i64 x4.braked), (Value.int .i64 x4.percent), (Value.int .i64 x4.required), (Value.int .i64 x4.missing)] 33) (h12 : fr 12 = (Value.pointer (some ⟨b12, 0, none⟩))) (bx12 : Bx z e m k b12 [(Value.int .i64 x12.length), (Value.int .i64 x12.axles), (Value.int .i64 x12.mass), (Value.int .i64 x12.braked), (Value.int .i64 x12.percent), (Value.int .i64 x12.required), (Value.int .i64 x12.missing)] 33) (h13 : fr 13 = (Value.int .i64 x13)) (ao4_o12 : Ap (some b4) (some b12)) {r : Brakes} (hr : r35_Total_3 N x0 x1 n x12 x13 = some r), W Try.prog (sub (bodyOf Try.f26) [1, 1, 1, 1, 1, 1, 0, 1, 0]) (fun ex fr' m' => ∃ z', Zx e.next z0 z' ∧ St z' e m' k ∧ ex = AExit.exit 4 ∧ fr' 12 = (Value.pointer (some ⟨b12, 0, none⟩)) ∧ Bx z' e m' k b12 [(Value.int .i64 r.length), (Value.int .i64 r.axles), (Value.int .i64 r.mass), (Value.int .i64 r.braked), (Value.int .i64 r.percent), (Value.int .i64 r.required), (Value.int .i64 r.missing)] 33 ∧ Bx z' e m' k b4 [(Value.int .i64 x4.length), (Value.int .i64 x4.axles), (Value.int .i64 x4.mass), (Value.int .i64 x4.braked), (Value.int .i64 x4.percent), (Value.int .i64 x4.required), (Value.int .i64 x4.missing)] 33 ∧ Ap (some b12) (some b4) ∧ True) fr m := by
  intro n
  induction n with
  | zero => intro N z0 z e m k fr x0 x1 x12 x13 v0 v1 x4 b4 b12 hz st h0 s0 h1 s1 h4 bx4 h12 bx12 h13 ao4_o12 r hr; cases (show (none : Option _) = some r from hr)
  | succ n ih =>
    intro N z0 z e m k fr x0 x1 x12 x13 v0 v1 x4 b4 b12 hz st h0 s0 h1 s1 h4 bx4 h12 bx12 h13 ao4_o12 r hr
    unfold r35_Total_3 at hr
    refine W.loop1 ?_
    refine W.seq ?_
    refine W.seq ?_
    refine W.region ?_
    refine SeqW.consX rfl (StepX.pure (pMove (v := (Value.int .i64 x13)) rfl h13) ?_)
    refine SeqW.consX rfl (StepX.pure (pMove (v := v0) rfl h0) ?_)
    refine SeqW.consX rfl (StepX.pure (pLenR (xs := x0) rfl Try.underlying25 rfl s0) ?_)
    refine SeqW.consX rfl (StepX.pure (pLss (k := .i64) (a := x13) (b := (x0.length : Int)) rfl rfl rfl) ?_)
    refine SeqW.done fun fr125 hf126 => ?_
    have h0 : fr125 0 = v0 := (congrFun hf126 0).trans h0
    have h1 : fr125 1 = v1 := (congrFun hf126 1).trans h1
    have h4 : fr125 4 = (Value.pointer (some ⟨b4, 0, none⟩)) := (congrFun hf126 4).trans h4
    have h12 : fr125 12 = (Value.pointer (some ⟨b12, 0, none⟩)) := (congrFun hf126 12).trans h12
    have h13 : fr125 13 = (Value.int .i64 x13) := (congrFun hf126 13).trans h13
    have h68 : fr125 68 = (Value.bool (decide (x13 < (x0.length : Int)))) := (congrFun hf126 68).trans rfl
    clear hf126
    refine thenQ.n ?_
    rcases if_some hr with ⟨hc127, hr⟩ | ⟨hc160, hr⟩
    · refine W.condT h68 hc127 ?_
      refine W.skip ?_
      refine thenQ.n ?_
      refine W.seq ?_
      obtain ⟨y146, hy146, hr⟩ := bind_some hr
      refine W.keep (u_r35_Total_4 (x4 := x4) (x12 := x12) (Zx.refl _) st h0 s0 h1 s1 h4 bx4 h12 bx12 h13 ao4_o12 hy146) ?_
      rintro ex152 fr147 m148 hk150 ⟨z149, hz151, st, rfl, h12, X154, O155, A156, -⟩
      replace s0 := s0.mono hz151.le
      replace s1 := s1.mono hz151.le
      have h0 := (hk150 0 rfl).trans h0
      have h1 := (hk150 1 rfl).trans h1
      have h4 := (hk150 4 rfl).trans h4
      have h13 := (hk150 13 rfl).trans h13
      replace hz := hz.trans hz151
      clear hk150
      refine thenQ.n ?_
      refine W.region ?_
      refine SeqW.consX rfl (StepX.pure (pMove (v := (Value.int .i64 x13)) rfl h13) ?_)
      refine SeqW.consX rfl (StepX.pure (pAdd (k := .i64) (a := x13) (b := 1) rfl rfl rfl) ?_)
      obtain ⟨y157, hy157, hr⟩ := lt_some hr
      refine SeqW.consX rfl (StepX.pure (pAssign rfl (congrArg (Value.int .i64) hy157)) ?_)
      refine SeqW.done fun fr158 hf159 => ?_
      have h0 : fr158 0 = v0 := (congrFun hf159 0).trans h0
      have h1 : fr158 1 = v1 := (congrFun hf159 1).trans h1
      have h4 : fr158 4 = (Value.pointer (some ⟨b4, 0, none⟩)) := (congrFun hf159 4).trans h4
      have h12 : fr158 12 = (Value.pointer (some ⟨b12, 0, none⟩)) := (congrFun hf159 12).trans h12
      have h13 : fr158 13 = (Value.int .i64 y157) := (congrFun hf159 13).trans rfl
      clear hf159
      refine thenQ.n ?_
      exact ih (x4 := x4) (x12 := y146) hz st h0 s0 h1 s1 h4 O155 h12 X154 h13 (Ap.symm A156) hr
    · refine W.condF h68 hc160 ?_
      refine W.exit ?_
      refine thenQ.x ?_
      refine thenQ.x ?_
      obtain rfl := Option.some.inj hr
      exact ⟨z, hz, st, rfl, h12, bx12, bx4, (Ap.symm ao4_o12), trivial⟩

theorem u_r35_Total_5 {N : Nat}  {z0 z : Nat → Blk} {e m : Mem} {k : Option Nat} {fr : Nat → Value} {x7 : Int} {x12 : Brakes} {x92 : Bool} {x4 : Brakes} {b4 : Nat} {b12 : Nat} (hz : Zx e.next z0 z) (st : St z e m k) (h4 : fr 4 = (Value.pointer (some ⟨b4, 0, none⟩))) (bx4 : Bx z e m k b4 [(Value.int .i64 x4.length), (Value.int .i64 x4.axles), (Value.int .i64 x4.mass), (Value.int .i64 x4.braked), (Value.int .i64 x4.percent), (Value.int .i64 x4.required), (Value.int .i64 x4.missing)] 33) (h7 : fr 7 = (Value.int .i64 x7)) (h12 : fr 12 = (Value.pointer (some ⟨b12, 0, none⟩))) (bx12 : Bx z e m k b12 [(Value.int .i64 x12.length), (Value.int .i64 x12.axles), (Value.int .i64 x12.mass), (Value.int .i64 x12.braked), (Value.int .i64 x12.percent), (Value.int .i64 x12.required), (Value.int .i64 x12.missing)] 33) (h92 : fr 92 = (Value.bool x92)) (ao4_o12 : Ap (some b4) (some b12)) {r : Brakes} (hr : r35_Total_5 N x7 x12 x92 = some r) : W Try.prog (sub (bodyOf Try.f26) [1, 1, 1, 1, 1, 1, 1, 1, 0, 1]) (fun ex fr' m' => ∃ z', Zx e.next z0 z' ∧ St z' e m' k ∧ ex = AExit.normal ∧ fr' 12 = (Value.pointer (some ⟨b12, 0, none⟩)) ∧ Bx z' e m' k b12 [(Value.int .i64 r.length), (Value.int .i64 r.axles), (Value.int .i64 r.mass), (Value.int .i64 r.braked), (Value.int .i64 r.percent), (Value.int .i64 r.required), (Value.int .i64 r.missing)] 33 ∧ Bx z' e m' k b4 [(Value.int .i64 x4.length), (Value.int .i64 x4.axles), (Value.int .i64 x4.mass), (Value.int .i64 x4.braked), (Value.int .i64 x4.percent), (Value.int .i64 x4.required), (Value.int .i64 x4.missing)] 33 ∧ Ap (some b12) (some b4) ∧ True) fr m := by
  unfold r35_Total_5 at hr
  rcases if_some hr with ⟨hc185, hr⟩ | ⟨hc191, hr⟩
  · refine W.condT h92 hc185 ?_
    refine W.region ?_
    refine SeqW.consX rfl (kField rfl Try.underlying33 rfl Try.type3 rfl h12 rfl ?_)
    refine SeqW.consX rfl (kLoad rfl Try.underlying3 rfl rfl (bx12.load (v := (Value.int .i64 x12.braked)) rfl) ?_)
    refine SeqW.consX rfl (StepX.pure (pMul (k := .i64) (a := 100) (b := x12.braked) rfl rfl rfl) ?_)
    refine SeqW.consX rfl (StepX.pure (pMove (v := (Value.int .i64 x7)) rfl h7) ?_)
    obtain ⟨y186, hy186, hr⟩ := bind_some hr
    refine SeqW.consX rfl (kQuo (k1 := .i64) (a := (IntKind.wrap .i64 (100 * x12.braked))) (b := x7) rfl rfl rfl hy186 ?_)
    refine SeqW.consX rfl (kField rfl Try.underlying33 rfl Try.type3 rfl h12 rfl ?_)
    refine SeqW.consX rfl (kPut (off := 4) (w := (Value.int .i64 (IntKind.wrap .i64 (y186)))) (new := [(Value.int .i64 (IntKind.wrap .i64 (y186)))]) rfl Try.type3 rfl rfl rfl rfl rfl bx12 rfl [(Value.int .i64 x12.length), (Value.int .i64 x12.axles), (Value.int .i64 x12.mass), (Value.int .i64 x12.braked), (Value.int .i64 (IntKind.wrap .i64 (y186))), (Value.int .i64 x12.required), (Value.int .i64 x12.missing)] rfl st ?_)
    intro m187 st bx12 sm188
    replace bx4 := bx4.same sm188 ao4_o12
    refine SeqW.done fun fr189 hf190 => ?_
    have h4 : fr189 4 = (Value.pointer (some ⟨b4, 0, none⟩)) := (congrFun hf190 4).trans h4
    have h12 : fr189 12 = (Value.pointer (some ⟨b12, 0, none⟩)) := (congrFun hf190 12).trans h12
    clear hf190
    obtain rfl := Option.some.inj hr
    exact ⟨z, hz, st, rfl, h12, bx12, bx4, (Ap.symm ao4_o12), trivial⟩
  · refine W.condF h92 hc191 ?_
    refine W.skip ?_
    obtain rfl := Option.some.inj hr
    exact ⟨z, hz, st, rfl, h12, bx12, bx4, (Ap.symm ao4_o12), trivial⟩

theorem u_r35_Total {N : Nat}  {z0 z : Nat → Blk} {e m : Mem} {k : Option Nat} {fr : Nat → Value} {x0 : List Wagon} {x1 : List Int} {v0 : Value} {v1 : Value} (hz : Zx e.next z0 z) (st : St z e m k) (h0 : fr 0 = v0) (s0 : SlR TWagon z x0 v0) (h1 : fr 1 = v1) (s1 : SlR (TInt 3 .i64) z x1 v1) {r : Brakes × Int} (hr : r35_Total N x0 x1 = some r) : W Try.prog (sub (bodyOf Try.f26) []) (fun ex fr' m' => ∃ z', Zx e.next z0 z' ∧ St z' e m' k ∧ (ex = .normal ∨ ex = .ret) ∧ ∃ (c4 : Nat), fr' 4 = (Value.pointer (some ⟨c4, 0, none⟩)) ∧ Bx z' e m' k c4 [(Value.int .i64 r.1.length), (Value.int .i64 r.1.axles), (Value.int .i64 r.1.mass), (Value.int .i64 r.1.braked), (Value.int .i64 r.1.percent), (Value.int .i64 r.1.required), (Value.int .i64 r.1.missing)] 33 ∧ (e.next ≤ c4 ∨ k = some c4) ∧ fr' 5 = (Value.int .i64 r.2) ∧ True) fr m := by
  unfold r35_Total at hr
  refine W.seq ?_
  refine W.region ?_
  refine SeqW.consX rfl (kAlloc rfl Try.type33 rfl rfl rfl [(Value.int .i64 0), (Value.int .i64 0), (Value.int .i64 0), (Value.int .i64 0), (Value.int .i64 0), (Value.int .i64 0), (Value.int .i64 0)] rfl st ?_)
  intro B1 m2 st X3 sm4 hap5
  refine SeqW.consX rfl (StepX.pure (pAssign (v := (Value.int .i64 0)) rfl rfl) ?_)
  refine SeqW.done fun fr7 hf8 => ?_
  have h0 : fr7 0 = v0 := (congrFun hf8 0).trans h0
  have h1 : fr7 1 = v1 := (congrFun hf8 1).trans h1
  have h4 : fr7 4 = (Value.pointer (some ⟨B1, 0, none⟩)) := (congrFun hf8 4).trans rfl
  clear hf8
  refine thenQ.n ?_
  refine W.seq ?_
  refine W.region ?_
  refine SeqW.consX rfl (StepX.pure (pMove (v := v0) rfl h0) ?_)
  obtain ⟨y9, hy9, hr⟩ := bind_some hr
  refine SeqW.consX rfl (StepX.call (gCallee rfl rfl (args1 rfl)) ((c_r06_Total (z := z) st.fz st.dead s0 hy9).mono ?_))
  rintro _ _ ⟨rfl, rfl⟩
  refine SeqW.consX rfl (StepX.pure (pMove (v := (Value.tuple [(Value.int .i64 y9.1), (Value.int .i64 y9.2.1), (Value.int .i64 y9.2.2.1), (Value.int .i64 y9.2.2.2)].toArray)) rfl rfl) ?_)
  refine SeqW.consX rfl (StepX.pure (pExtract (vs := [(Value.int .i64 y9.1), (Value.int .i64 y9.2.1), (Value.int .i64 y9.2.2.1), (Value.int .i64 y9.2.2.2)]) (v := (Value.int .i64 y9.1)) rfl rfl rfl) ?_)
  refine SeqW.consX rfl (StepX.pure (pExtract (vs := [(Value.int .i64 y9.1), (Value.int .i64 y9.2.1), (Value.int .i64 y9.2.2.1), (Value.int .i64 y9.2.2.2)]) (v := (Value.int .i64 y9.2.1)) rfl rfl rfl) ?_)
  refine SeqW.consX rfl (StepX.pure (pExtract (vs := [(Value.int .i64 y9.1), (Value.int .i64 y9.2.1), (Value.int .i64 y9.2.2.1), (Value.int .i64 y9.2.2.2)]) (v := (Value.int .i64 y9.2.2.1)) rfl rfl rfl) ?_)
  refine SeqW.consX rfl (StepX.pure (pExtract (vs := [(Value.int .i64 y9.1), (Value.int .i64 y9.2.1), (Value.int .i64 y9.2.2.1), (Value.int .i64 y9.2.2.2)]) (v := (Value.int .i64 y9.2.2.2)) rfl rfl rfl) ?_)
  refine SeqW.consX rfl (StepX.pure (pAssign (v := (Value.int .i64 y9.1)) rfl rfl) ?_)
  refine SeqW.consX rfl (StepX.pure (pAssign (v := (Value.int .i64 y9.2.1)) rfl rfl) ?_)
  refine SeqW.consX rfl (StepX.pure (pAssign (v := (Value.int .i64 y9.2.2.1)) rfl rfl) ?_)
  refine SeqW.consX rfl (StepX.pure (pAssign (v := (Value.int .i64 y9.2.2.2)) rfl rfl) ?_)
  refine SeqW.done fun fr10 hf11 => ?_
  have h0 : fr10 0 = v0 := (congrFun hf11 0).trans h0
  have h1 : fr10 1 = v1 := (congrFun hf11 1).trans h1
  have h4 : fr10 4 = (Value.pointer (some ⟨B1, 0, none⟩)) := (congrFun hf11 4).trans h4
  have h6 : fr10 6 = (Value.int .i64 y9.1) := (congrFun hf11 6).trans rfl
  have h7 : fr10 7 = (Value.int .i64 y9.2.1) := (congrFun hf11 7).trans rfl
  have h8 : fr10 8 = (Value.int .i64 y9.2.2.1) := (congrFun hf11 8).trans rfl
  have h9 : fr10 9 = (Value.int .i64 y9.2.2.2) := (congrFun hf11 9).trans rfl
  clear hf11
  refine thenQ.n ?_
  refine W.seq ?_
  refine W.seq ?_
  refine W.region ?_
  refine SeqW.consX rfl (StepX.pure (pMove (v := (Value.int .i64 y9.2.2.2)) rfl h9) ?_)
  refine SeqW.consX rfl (StepX.pure (pNeq (k := .i64) (a := y9.2.2.2) (b := 0) rfl rfl rfl) ?_)
  refine SeqW.done fun fr12 hf13 => ?_
  have h0 : fr12 0 = v0 := (congrFun hf13 0).trans h0
  have h1 : fr12 1 = v1 := (congrFun hf13 1).trans h1
  have h4 : fr12 4 = (Value.pointer (some ⟨B1, 0, none⟩)) := (congrFun hf13 4).trans h4
  have h6 : fr12 6 = (Value.int .i64 y9.1) := (congrFun hf13 6).trans h6
  have h7 : fr12 7 = (Value.int .i64 y9.2.1) := (congrFun hf13 7).trans h7
  have h8 : fr12 8 = (Value.int .i64 y9.2.2.1) := (congrFun hf13 8).trans h8
  have h9 : fr12 9 = (Value.int .i64 y9.2.2.2) := (congrFun hf13 9).trans h9
  have h22 : fr12 22 = (Value.bool (y9.2.2.2 != 0)) := (congrFun hf13 22).trans rfl
  clear hf13
  refine thenQ.n ?_
  rcases if_some hr with ⟨hc14, hr⟩ | ⟨hc19, hr⟩
  · refine W.condT h22 hc14 ?_
    refine W.seq ?_
    refine W.region ?_
    refine SeqW.consX rfl (kBuildS [] [(Value.int .i64 0), (Value.int .i64 0), (Value.int .i64 0), (Value.int .i64 0), (Value.int .i64 0), (Value.int .i64 0), (Value.int .i64 0)] rfl Try.underlying33 Try.type33 rfl rfl (places33 Try.underlying33) rfl (rfl) rfl ?_)
    refine SeqW.consX rfl (StepX.pure (pMove (v := (Value.int .i64 y9.2.2.2)) rfl h9) ?_)
    refine SeqW.consX rfl (kPut (off := 0) (w := (Value.agg [(Value.int .i64 0), (Value.int .i64 0), (Value.int .i64 0), (Value.int .i64 0), (Value.int .i64 0), (Value.int .i64 0), (Value.int .i64 0)].toArray)) (new := [(Value.int .i64 0), (Value.int .i64 0), (Value.int .i64 0), (Value.int .i64 0), (Value.int .i64 0), (Value.int .i64 0), (Value.int .i64 0)]) rfl Try.type33 h4 rfl rfl rfl rfl X3 rfl [(Value.int .i64 0), (Value.int .i64 0), (Value.int .i64 0), (Value.int .i64 0), (Value.int .i64 0), (Value.int .i64 0), (Value.int .i64 0)] rfl st ?_)
    intro m15 st X3 sm16
    refine SeqW.consX rfl (StepX.pure (pAssign (v := (Value.int .i64 y9.2.2.2)) rfl rfl) ?_)
    refine SeqW.done fun fr17 hf18 => ?_
    have h4 : fr17 4 = (Value.pointer (some ⟨B1, 0, none⟩)) := (congrFun hf18 4).trans h4
    have h5 : fr17 5 = (Value.int .i64 y9.2.2.2) := (congrFun hf18 5).trans rfl
    clear hf18
    refine thenQ.n ?_
    refine W.ret ?_
    refine thenQ.r ?_
    obtain rfl := Option.some.inj hr
    exact ⟨z, hz, st, .inr rfl, B1, h4, X3, X3.fresh, h5, trivial⟩
  · refine W.condF h22 hc19 ?_
    refine W.skip ?_
    refine thenQ.n ?_
    refine W.seq ?_
    refine W.seq ?_
    refine W.region ?_
    refine SeqW.consX rfl (StepX.pure (pAssign (v := (Value.int .i64 0)) rfl rfl) ?_)
    refine SeqW.done fun fr20 hf21 => ?_
    have h0 : fr20 0 = v0 := (congrFun hf21 0).trans h0
    have h1 : fr20 1 = v1 := (congrFun hf21 1).trans h1
    have h4 : fr20 4 = (Value.pointer (some ⟨B1, 0, none⟩)) := (congrFun hf21 4).trans h4
    have h6 : fr20 6 = (Value.int .i64 y9.1) := (congrFun hf21 6).trans h6
    have h7 : fr20 7 = (Value.int .i64 y9.2.1) := (congrFun hf21 7).trans h7
    have h8 : fr20 8 = (Value.int .i64 y9.2.2.1) := (congrFun hf21 8).trans h8
    have h10 : fr20 10 = (Value.int .i64 0) := (congrFun hf21 10).trans rfl
    clear hf21
    refine thenQ.n ?_
    refine W.block ?_
    obtain ⟨y61, hy61, hr⟩ := bind_some hr
    refine W.keep (u_r35_Total_0 (x4 := (Brakes.mk 0 0 0 0 0 0 0)) _ (Zx.refl _) st h0 s0 h1 s1 h4 X3 h10 hy61) ?_
    rintro ex67 fr62 m63 hk65 ⟨z64, hz66, st, ⟨y68, rfl, rfl, h4, X70, -⟩ | ⟨y210, rfl, rfl, h4, X212, h5, -⟩⟩
    · dsimp only at hr
      replace s0 := s0.mono hz66.le
      replace s1 := s1.mono hz66.le
      have h0 := (hk65 0 rfl).trans h0
      have h1 := (hk65 1 rfl).trans h1
      have h6 := (hk65 6 rfl).trans h6
      have h7 := (hk65 7 rfl).trans h7
      have h8 := (hk65 8 rfl).trans h8
      replace hz := hz.trans hz66
      clear hk65
      refine blockQ.hit ?_
      refine thenQ.n ?_
      refine W.seq ?_
      refine W.seq ?_
      refine W.region ?_
      refine SeqW.consX rfl (StepX.pure (pAssign (v := (Value.int .i64 0)) rfl rfl) ?_)
      refine SeqW.done fun fr71 hf72 => ?_
      have h0 : fr71 0 = v0 := (congrFun hf72 0).trans h0
      have h1 : fr71 1 = v1 := (congrFun hf72 1).trans h1
      have h4 : fr71 4 = (Value.pointer (some ⟨B1, 0, none⟩)) := (congrFun hf72 4).trans h4
      have h6 : fr71 6 = (Value.int .i64 y9.1) := (congrFun hf72 6).trans h6
      have h7 : fr71 7 = (Value.int .i64 y9.2.1) := (congrFun hf72 7).trans h7
      have h8 : fr71 8 = (Value.int .i64 y9.2.2.1) := (congrFun hf72 8).trans h8
      have h11 : fr71 11 = (Value.int .i64 0) := (congrFun hf72 11).trans rfl
      clear hf72
      refine thenQ.n ?_
      refine W.block ?_
      obtain ⟨y102, hy102, hr⟩ := bind_some hr
      refine W.keep (u_r35_Total_2 (x4 := y68) _ (Zx.refl _) st h1 s1 h4 X70 h11 hy102) ?_
      rintro ex108 fr103 m104 hk106 ⟨z105, hz107, st, ⟨y109, rfl, rfl, h4, X111, -⟩ | ⟨y207, rfl, rfl, h4, X209, h5, -⟩⟩
      · dsimp only at hr
        replace s0 := s0.mono hz107.le
        replace s1 := s1.mono hz107.le
        have h0 := (hk106 0 rfl).trans h0
        have h1 := (hk106 1 rfl).trans h1
        have h6 := (hk106 6 rfl).trans h6
        have h7 := (hk106 7 rfl).trans h7
        have h8 := (hk106 8 rfl).trans h8
        replace hz := hz.trans hz107
        clear hk106
        refine blockQ.hit ?_
        refine thenQ.n ?_
        refine W.seq ?_
        refine W.region ?_
        refine SeqW.consX rfl (StepX.pure (pMove (v := (Value.int .i64 y9.1)) rfl h6) ?_)
        refine SeqW.consX rfl (StepX.pure (pMove (v := (Value.int .i64 y9.2.2.1)) rfl h8) ?_)
        refine SeqW.consX rfl (StepX.pure (pMove (v := (Value.int .i64 y9.2.1)) rfl h7) ?_)
        refine SeqW.consX rfl (kBuildS [(0, (Value.int .i64 y9.1)), (1, (Value.int .i64 y9.2.2.1)), (2, (Value.int .i64 y9.2.1))] [(Value.int .i64 y9.1), (Value.int .i64 y9.2.2.1), (Value.int .i64 y9.2.1), (Value.int .i64 0), (Value.int .i64 0), (Value.int .i64 0), (Value.int .i64 0)] rfl Try.underlying33 Try.type33 rfl rfl (places33 Try.underlying33) rfl (rfl) rfl ?_)
        refine SeqW.consX rfl (kAlloc rfl Try.type33 rfl rfl rfl [(Value.int .i64 0), (Value.int .i64 0), (Value.int .i64 0), (Value.int .i64 0), (Value.int .i64 0), (Value.int .i64 0), (Value.int .i64 0)] rfl st ?_)
        intro B112 m113 st X114 sm115 hap116
        have A118 := hap116 _ X111.lt'
        replace X111 := X111.same sm115 Ap.none'
        refine SeqW.consX rfl (kPut (off := 0) (w := (Value.agg [(Value.int .i64 y9.1), (Value.int .i64 y9.2.2.1), (Value.int .i64 y9.2.1), (Value.int .i64 0), (Value.int .i64 0), (Value.int .i64 0), (Value.int .i64 0)].toArray)) (new := [(Value.int .i64 y9.1), (Value.int .i64 y9.2.2.1), (Value.int .i64 y9.2.1), (Value.int .i64 0), (Value.int .i64 0), (Value.int .i64 0), (Value.int .i64 0)]) rfl Try.type33 rfl rfl rfl rfl rfl X114 rfl [(Value.int .i64 y9.1), (Value.int .i64 y9.2.2.1), (Value.int .i64 y9.2.1), (Value.int .i64 0), (Value.int .i64 0), (Value.int .i64 0), (Value.int .i64 0)] rfl st ?_)
        intro m119 st X114 sm120
        replace X111 := X111.same sm120 A118
        refine SeqW.done fun fr121 hf122 => ?_
        have h0 : fr121 0 = v0 := (congrFun hf122 0).trans h0
        have h1 : fr121 1 = v1 := (congrFun hf122 1).trans h1
        have h4 : fr121 4 = (Value.pointer (some ⟨B1, 0, none⟩)) := (congrFun hf122 4).trans h4
        have h6 : fr121 6 = (Value.int .i64 y9.1) := (congrFun hf122 6).trans h6
        have h7 : fr121 7 = (Value.int .i64 y9.2.1) := (congrFun hf122 7).trans h7
        have h12 : fr121 12 = (Value.pointer (some ⟨B112, 0, none⟩)) := (congrFun hf122 12).trans rfl
        clear hf122
        refine thenQ.n ?_
        refine W.seq ?_
        refine W.seq ?_
        refine W.region ?_
        refine SeqW.consX rfl (StepX.pure (pAssign (v := (Value.int .i64 0)) rfl rfl) ?_)
        refine SeqW.done fun fr123 hf124 => ?_
        have h0 : fr123 0 = v0 := (congrFun hf124 0).trans h0
        have h1 : fr123 1 = v1 := (congrFun hf124 1).trans h1
        have h4 : fr123 4 = (Value.pointer (some ⟨B1, 0, none⟩)) := (congrFun hf124 4).trans h4
        have h6 : fr123 6 = (Value.int .i64 y9.1) := (congrFun hf124 6).trans h6
        have h7 : fr123 7 = (Value.int .i64 y9.2.1) := (congrFun hf124 7).trans h7
        have h12 : fr123 12 = (Value.pointer (some ⟨B112, 0, none⟩)) := (congrFun hf124 12).trans h12
        have h13 : fr123 13 = (Value.int .i64 0) := (congrFun hf124 13).trans rfl
        clear hf124
        refine thenQ.n ?_
        refine W.block ?_
        obtain ⟨y161, hy161, hr⟩ := bind_some hr
        refine W.keep (u_r35_Total_3 (x4 := y109) (x12 := (Brakes.mk y9.1 y9.2.2.1 y9.2.1 0 0 0 0)) _ (Zx.refl _) st h0 s0 h1 s1 h4 X111 h12 X114 h13 A118 hy161) ?_
        rintro ex167 fr162 m163 hk165 ⟨z164, hz166, st, rfl, h12, X169, O170, A171, -⟩
        have h4 := (hk165 4 rfl).trans h4
        have h6 := (hk165 6 rfl).trans h6
        have h7 := (hk165 7 rfl).trans h7
        replace hz := hz.trans hz166
        clear hk165
        refine blockQ.hit ?_
        refine thenQ.n ?_
        refine W.seq ?_
        refine W.draw ?_
        refine DrawW.cons rfl (kField rfl Try.underlying33 rfl Try.type3 rfl h12 rfl ?_)
        refine ⟨trivial, ?_⟩
        refine DrawW.cons rfl (kLoad rfl Try.underlying3 rfl rfl (X169.load (v := (Value.int .i64 y161.braked)) rfl) ?_)
        refine ⟨?_, ?_⟩
        · exact demN
        refine DrawW.cons rfl (StepX.pure (pMove (v := (Value.int .i64 y9.1)) rfl h6) ?_)
        refine ⟨trivial, ?_⟩
        have sto172 := st
        have old173 := O170
        have old174 := X169
        obtain ⟨y175, hy175, hr⟩ := bind_some hr
        refine DrawW.cons rfl (StepX.call (gCallee rfl rfl (args1 rfl)) ((c_r35_Factor (z := z164) st.fz st.dead  hy175).mono ?_))
        rintro _ _ ⟨rfl, rfl⟩
        refine ⟨⟨?_, ?_⟩, ?_⟩
        · first | refine demP (gLoad rfl Try.underlying3 rfl rfl (X169.load (v := (Value.int .i64 y161.braked)) rfl)) ?_ | refine demA (by decide) ?_
          exact demN
        · exact demN
        refine DrawW.cons rfl (StepX.pure (pMul (k := .i64) (a := y161.braked) (b := y175) rfl rfl rfl) ?_)
        refine ⟨trivial, ?_⟩
        refine DrawW.cons rfl (StepX.pure (pQuo (k := .i64) (a := (IntKind.wrap .i64 (y161.braked * y175))) (b := 100) rfl rfl rfl (by decide)) ?_)
        refine ⟨trivial, ?_⟩
        refine DrawW.cons rfl (kField rfl Try.underlying33 rfl Try.type3 rfl h12 rfl ?_)
        refine ⟨trivial, ?_⟩
        have sto176 := st
        have old177 := O170
        have old178 := X169
        refine DrawW.cons rfl (kPut (off := 3) (w := (Value.int .i64 (IntKind.wrap .i64 (Int.tdiv (IntKind.wrap .i64 (y161.braked * y175)) 100)))) (new := [(Value.int .i64 (IntKind.wrap .i64 (Int.tdiv (IntKind.wrap .i64 (y161.braked * y175)) 100)))]) rfl Try.type3 rfl rfl rfl rfl rfl X169 rfl [(Value.int .i64 y161.length), (Value.int .i64 y161.axles), (Value.int .i64 y161.mass), (Value.int .i64 (IntKind.wrap .i64 (Int.tdiv (IntKind.wrap .i64 (y161.braked * y175)) 100))), (Value.int .i64 y161.percent), (Value.int .i64 y161.required), (Value.int .i64 y161.missing)] rfl st ?_)
        intro m179 st X169 sm180
        replace O170 := O170.same sm180 (Ap.symm A171)
        refine ⟨⟨?_, ?_⟩, ?_⟩
        · first | refine demP (gLoad rfl Try.underlying3 rfl rfl (X169.load (v := (Value.int .i64 y161.braked)) rfl)) ?_ | refine demA (by decide) ?_
          exact demN
        · exact demN
        refine DrawW.done fun fr181 hf182 => ?_
        have h4 : fr181 4 = (Value.pointer (some ⟨B1, 0, none⟩)) := (congrFun hf182 4).trans h4
        have h7 : fr181 7 = (Value.int .i64 y9.2.1) := (congrFun hf182 7).trans h7
        have h12 : fr181 12 = (Value.pointer (some ⟨B112, 0, none⟩)) := (congrFun hf182 12).trans h12
        clear hf182
        refine thenQ.n ?_
        refine W.seq ?_
        refine W.seq ?_
        refine W.region ?_
        refine SeqW.consX rfl (StepX.pure (pMove (v := (Value.int .i64 y9.2.1)) rfl h7) ?_)
        refine SeqW.consX rfl (StepX.pure (pGtr (k := .i64) (a := y9.2.1) (b := 0) rfl rfl rfl) ?_)
        refine SeqW.done fun fr183 hf184 => ?_
        have h4 : fr183 4 = (Value.pointer (some ⟨B1, 0, none⟩)) := (congrFun hf184 4).trans h4
        have h7 : fr183 7 = (Value.int .i64 y9.2.1) := (congrFun hf184 7).trans h7
        have h12 : fr183 12 = (Value.pointer (some ⟨B112, 0, none⟩)) := (congrFun hf184 12).trans h12
        have h92 : fr183 92 = (Value.bool (decide (0 < y9.2.1))) := (congrFun hf184 92).trans rfl
        clear hf184
        refine thenQ.n ?_
        obtain ⟨y192, hy192, hr⟩ := bind_some hr
        refine W.keep (u_r35_Total_5 (x4 := y109) (x12 := (Brakes.mk y161.length y161.axles y161.mass (IntKind.wrap .i64 (Int.tdiv (IntKind.wrap .i64 (y161.braked * y175)) 100)) y161.percent y161.required y161.missing)) (Zx.refl _) st h4 O170 h7 h12 X169 h92 (Ap.symm A171) hy192) ?_
        rintro ex198 fr193 m194 hk196 ⟨z195, hz197, st, rfl, h12, X200, O201, A202, -⟩
        have h4 := (hk196 4 rfl).trans h4
        replace hz := hz.trans hz197
        clear hk196
        refine thenQ.n ?_
        refine W.seq ?_
        refine W.region ?_
        refine SeqW.consX rfl (kLoadA rfl Try.underlying33 rfl Try.type33 rfl h12 X200.loads ?_)
        refine SeqW.consX rfl (kPut (off := 0) (w := (Value.agg [(Value.int .i64 y192.length), (Value.int .i64 y192.axles), (Value.int .i64 y192.mass), (Value.int .i64 y192.braked), (Value.int .i64 y192.percent), (Value.int .i64 y192.required), (Value.int .i64 y192.missing)].toArray)) (new := [(Value.int .i64 y192.length), (Value.int .i64 y192.axles), (Value.int .i64 y192.mass), (Value.int .i64 y192.braked), (Value.int .i64 y192.percent), (Value.int .i64 y192.required), (Value.int .i64 y192.missing)]) rfl Try.type33 h4 rfl rfl rfl rfl O201 rfl [(Value.int .i64 y192.length), (Value.int .i64 y192.axles), (Value.int .i64 y192.mass), (Value.int .i64 y192.braked), (Value.int .i64 y192.percent), (Value.int .i64 y192.required), (Value.int .i64 y192.missing)] rfl st ?_)
        intro m203 st O201 sm204
        refine SeqW.consX rfl (StepX.pure (pAssign (v := (Value.int .i64 0)) rfl rfl) ?_)
        refine SeqW.done fun fr205 hf206 => ?_
        have h4 : fr205 4 = (Value.pointer (some ⟨B1, 0, none⟩)) := (congrFun hf206 4).trans h4
        have h5 : fr205 5 = (Value.int .i64 0) := (congrFun hf206 5).trans rfl
        clear hf206
        refine thenQ.n ?_
        refine W.ret ?_
        obtain rfl := Option.some.inj hr
        exact ⟨z195, hz, st, .inr rfl, B1, h4, O201, O201.fresh, h5, trivial⟩
      · dsimp only at hr
        replace hz := hz.trans hz107
        clear hk106
        refine blockQ.r ?_
        refine thenQ.r ?_
        obtain rfl := Option.some.inj hr
        exact ⟨z105, hz, st, .inr rfl, B1, h4, X209, X209.fresh, h5, trivial⟩
    · dsimp only at hr
      replace hz := hz.trans hz66
      clear hk65
      refine blockQ.r ?_
      refine thenQ.r ?_
      obtain rfl := Option.some.inj hr
      exact ⟨z64, hz, st, .inr rfl, B1, h4, X212, X212.fresh, h5, trivial⟩

theorem c_r35_Total {N : Nat} {z : Nat → Blk} {m : Mem} {x0 : List Wagon} {x1 : List Int} {v0 : Value} {v1 : Value} (fz : Fz z m) (hd : ∀ b, m.next ≤ b → m.blk b = .dead) (s0 : SlR TWagon z x0 v0) (s1 : SlR (TInt 3 .i64) z x1 v1) {r : Brakes × Int} (hr : r35_Total N x0 x1 = some r) : CallW Try.prog 26 #[v0, v1] m fun v m' => ∃ z', Zx m.next z z' ∧ Fz z' m' ∧ Same m m' none ∧ v = (Value.tuple [(Value.agg [(Value.int .i64 r.1.length), (Value.int .i64 r.1.axles), (Value.int .i64 r.1.mass), (Value.int .i64 r.1.braked), (Value.int .i64 r.1.percent), (Value.int .i64 r.1.required), (Value.int .i64 r.1.missing)].toArray), (Value.int .i64 r.2)].toArray) ∧ True := by
  refine CallW.any Try.func26 rfl (by kernel_rfl) (Nat.le_of_ble_eq_true rfl) (fun fr hf => ?_)
  have h0 : fr 0 = _ := hf 0 _ rfl
  have h1 : fr 1 = _ := hf 1 _ rfl
  refine (u_r35_Total (k := none) (Zx.refl _) (St.start fz hd) h0 s0 h1 s1 hr).mono ?_
  rintro ex fr' m' ⟨z', hz, st, he, c4, h4, bx4, fx4, h5, -⟩
  exact ⟨he, [(Value.agg [(Value.int .i64 r.1.length), (Value.int .i64 r.1.axles), (Value.int .i64 r.1.mass), (Value.int .i64 r.1.braked), (Value.int .i64 r.1.percent), (Value.int .i64 r.1.required), (Value.int .i64 r.1.missing)].toArray), (Value.int .i64 r.2)], ⟨resCell h4 bx4 Try.underlying33 rfl Try.type33 rfl, h5.symm, trivial⟩, .inr (List.forall_mem_cons.2 ⟨rfl, List.forall_mem_cons.2 ⟨rfl, fun _ h => nomatch h⟩⟩), z', hz, st.fz, st.toSame, rfl, trivial⟩

/-! ### humpyard/humpyardlaw35.BrakeRuns -/

theorem u_l35_BrakeRuns_0 {N : Nat}  {z0 z : Nat → Blk} {e m : Mem} {k : Option Nat} {fr : Nat → Value} {x10 : Int} {x12 : Int} {x7 : List BrakeRow} {v7 : Value} {x11 : Brakes} {b11 : Nat} (hz : Zx e.next z0 z) (st : St z e m k) (h7 : fr 7 = v7) (o7 : OwF TBrakeRow z e m k x7 v7) (h10 : fr 10 = (Value.int .i64 x10)) (h11 : fr 11 = (Value.pointer (some ⟨b11, 0, none⟩))) (bx11 : Bx z e m k b11 [(Value.int .i64 x11.length), (Value.int .i64 x11.axles), (Value.int .i64 x11.mass), (Value.int .i64 x11.braked), (Value.int .i64 x11.percent), (Value.int .i64 x11.required), (Value.int .i64 x11.missing)] 33) (h12 : fr 12 = (Value.int .i64 x12)) (ao7_o11 : Ap (blkOf v7) (some b11)) {r : Bool} (hr : l35_BrakeRuns_0 N x10 x12 = some r) : W Try.prog (sub (bodyOf Try.f8) [1, 1, 1, 1, 1, 1, 0, 0]) (fun ex fr' m' => ∃ z', Zx e.next z0 z' ∧ St z' e m' k ∧ ex = AExit.normal ∧ fr' 50 = (Value.bool r) ∧ OwF TBrakeRow z' e m' k x7 v7 ∧ Bx z' e m' k b11 [(Value.int .i64 x11.length), (Value.int .i64 x11.axles), (Value.int .i64 x11.mass), (Value.int .i64 x11.braked), (Value.int .i64 x11.percent), (Value.int .i64 x11.required), (Value.int .i64 x11.missing)] 33 ∧ Ap (blkOf v7) (some b11) ∧ True) fr m := by
  unfold l35_BrakeRuns_0 at hr
  refine W.region ?_
  refine SeqW.consX rfl (StepX.pure (pMove (v := (Value.int .i64 x12)) rfl h12) ?_)
  refine SeqW.consX rfl (StepX.pure (pNeq (k := .i64) (a := x12) (b := 0) rfl rfl rfl) ?_)
  refine SeqW.consX rfl (StepX.pure (pMove (v := (Value.bool (x12 != 0))) rfl rfl) ?_)
  rcases if_some hr with ⟨hc113, hr⟩ | ⟨hc116, hr⟩
  · refine SeqW.skipG rfl rfl rfl hc113 ?_
    refine SeqW.skipG rfl rfl rfl hc113 ?_
    refine SeqW.skipG rfl rfl rfl hc113 ?_
    refine SeqW.skipU rfl rfl rfl ?_
    refine SeqW.skipU rfl rfl rfl ?_
    refine SeqW.skipG rfl rfl rfl hc113 ?_
    refine SeqW.consX rfl (StepX.pure (pPick (t := true) (v := (Value.bool true)) rfl ((congrArg Value.bool hc113)) rfl) ?_)
    refine SeqW.done fun fr114 hf115 => ?_
    have h7 : fr114 7 = v7 := (congrFun hf115 7).trans h7
    have h10 : fr114 10 = (Value.int .i64 x10) := (congrFun hf115 10).trans h10
    have h11 : fr114 11 = (Value.pointer (some ⟨b11, 0, none⟩)) := (congrFun hf115 11).trans h11
    have h50 : fr114 50 = (Value.bool true) := (congrFun hf115 50).trans rfl
    clear hf115
    obtain rfl := Option.some.inj hr
    exact ⟨z, hz, st, rfl, h50, o7, bx11, ao7_o11, trivial⟩
  · refine SeqW.consG rfl rfl rfl hc116 (StepX.pure (pMove (v := (Value.int .i64 x10)) rfl h10) ?_)
    refine SeqW.consG rfl rfl rfl hc116 (StepX.pure (pNeq (k := .i64) (a := x10) (b := 0) rfl rfl rfl) ?_)
    refine SeqW.consG rfl rfl rfl hc116 (StepX.pure (pMove (v := (Value.bool (x10 != 0))) rfl rfl) ?_)
    rcases if_some hr with ⟨hc117, hr⟩ | ⟨hc120, hr⟩
    · refine SeqW.consG rfl rfl rfl hc117 (StepX.pure (pMove (v := (Value.int .i64 x10)) rfl h10) ?_)
      refine SeqW.consG rfl rfl rfl hc117 (StepX.pure (pNeq (k := .i64) (a := x10) (b := 15) rfl rfl rfl) ?_)
      refine SeqW.consG rfl rfl rfl hc116 (StepX.pure (pPick (t := true) (v := (Value.bool (x10 != 15))) rfl ((congrArg Value.bool hc117)) rfl) ?_)
      refine SeqW.consX rfl (StepX.pure (pPick (t := false) (v := (Value.bool (x10 != 15))) rfl ((congrArg Value.bool hc116)) rfl) ?_)
      refine SeqW.done fun fr118 hf119 => ?_
      have h7 : fr118 7 = v7 := (congrFun hf119 7).trans h7
      have h10 : fr118 10 = (Value.int .i64 x10) := (congrFun hf119 10).trans h10
      have h11 : fr118 11 = (Value.pointer (some ⟨b11, 0, none⟩)) := (congrFun hf119 11).trans h11
      have h50 : fr118 50 = (Value.bool (x10 != 15)) := (congrFun hf119 50).trans rfl
      clear hf119
      obtain rfl := Option.some.inj hr
      exact ⟨z, hz, st, rfl, h50, o7, bx11, ao7_o11, trivial⟩
    · refine SeqW.skipG rfl rfl rfl hc120 ?_
      refine SeqW.skipG rfl rfl rfl hc120 ?_
      refine SeqW.consG rfl rfl rfl hc116 (StepX.pure (pPick (t := false) (v := (Value.bool false)) rfl ((congrArg Value.bool hc120)) rfl) ?_)
      refine SeqW.consX rfl (StepX.pure (pPick (t := false) (v := (Value.bool false)) rfl ((congrArg Value.bool hc116)) rfl) ?_)
      refine SeqW.done fun fr121 hf122 => ?_
      have h7 : fr121 7 = v7 := (congrFun hf122 7).trans h7
      have h10 : fr121 10 = (Value.int .i64 x10) := (congrFun hf122 10).trans h10
      have h11 : fr121 11 = (Value.pointer (some ⟨b11, 0, none⟩)) := (congrFun hf122 11).trans h11
      have h50 : fr121 50 = (Value.bool false) := (congrFun hf122 50).trans rfl
      clear hf122
      obtain rfl := Option.some.inj hr
      exact ⟨z, hz, st, rfl, h50, o7, bx11, ao7_o11, trivial⟩

theorem u_l35_BrakeRuns_2 {N : Nat}  {z0 z : Nat → Blk} {e m : Mem} {k : Option Nat} {fr : Nat → Value} {x11 : Brakes} {x13 : Int} {x14 : Int} {x7 : List BrakeRow} {v7 : Value} {b11 : Nat} (hz : Zx e.next z0 z) (st : St z e m k) (h7 : fr 7 = v7) (o7 : OwF TBrakeRow z e m k x7 v7) (h11 : fr 11 = (Value.pointer (some ⟨b11, 0, none⟩))) (bx11 : Bx z e m k b11 [(Value.int .i64 x11.length), (Value.int .i64 x11.axles), (Value.int .i64 x11.mass), (Value.int .i64 x11.braked), (Value.int .i64 x11.percent), (Value.int .i64 x11.required), (Value.int .i64 x11.missing)] 33) (h13 : fr 13 = (Value.int .i64 x13)) (h14 : fr 14 = (Value.int .i64 x14)) (ao7_o11 : Ap (blkOf v7) (some b11)) {r : Bool} (hr : l35_BrakeRuns_2 N x11 x13 x14 = some r) : W Try.prog (sub (bodyOf Try.f8) [1, 1, 1, 1, 1, 1, 1, 0, 1, 0, 1, 0]) (fun ex fr' m' => ∃ z', Zx e.next z0 z' ∧ St z' e m' k ∧ ex = AExit.normal ∧ fr' 67 = (Value.bool r) ∧ OwF TBrakeRow z' e m' k x7 v7 ∧ Bx z' e m' k b11 [(Value.int .i64 x11.length), (Value.int .i64 x11.axles), (Value.int .i64 x11.mass), (Value.int .i64 x11.braked), (Value.int .i64 x11.percent), (Value.int .i64 x11.required), (Value.int .i64 x11.missing)] 33 ∧ Ap (blkOf v7) (some b11) ∧ True) fr m := by
  unfold l35_BrakeRuns_2 at hr
  refine W.region ?_
  refine SeqW.consX rfl (StepX.pure (pMove (v := (Value.int .i64 x14)) rfl h14) ?_)
  refine SeqW.consX rfl (StepX.pure (pNeq (k := .i64) (a := x14) (b := 0) rfl rfl rfl) ?_)
  refine SeqW.consX rfl (StepX.pure (pMove (v := (Value.bool (x14 != 0))) rfl rfl) ?_)
  rcases if_some hr with ⟨hc148, hr⟩ | ⟨hc151, hr⟩
  · refine SeqW.skipG rfl rfl rfl hc148 ?_
    refine SeqW.skipG rfl rfl rfl hc148 ?_
    refine SeqW.skipG rfl rfl rfl hc148 ?_
    refine SeqW.skipG rfl rfl rfl hc148 ?_
    refine SeqW.consX rfl (StepX.pure (pPick (t := true) (v := (Value.bool true)) rfl ((congrArg Value.bool hc148)) rfl) ?_)
    refine SeqW.done fun fr149 hf150 => ?_
    have h7 : fr149 7 = v7 := (congrFun hf150 7).trans h7
    have h11 : fr149 11 = (Value.pointer (some ⟨b11, 0, none⟩)) := (congrFun hf150 11).trans h11
    have h67 : fr149 67 = (Value.bool true) := (congrFun hf150 67).trans rfl
    clear hf150
    obtain rfl := Option.some.inj hr
    exact ⟨z, hz, st, rfl, h67, o7, bx11, ao7_o11, trivial⟩
  · refine SeqW.consG rfl rfl rfl hc151 (StepX.pure (pMove (v := (Value.int .i64 x13)) rfl h13) ?_)
    refine SeqW.consG rfl rfl rfl hc151 (kField rfl Try.underlying33 rfl Try.type3 rfl h11 rfl ?_)
    refine SeqW.consG rfl rfl rfl hc151 (kLoad rfl Try.underlying3 rfl rfl (bx11.load (v := (Value.int .i64 x11.percent)) rfl) ?_)
    refine SeqW.consG rfl rfl rfl hc151 (StepX.pure (pGtr (k := .i64) (a := x13) (b := x11.percent) rfl rfl rfl) ?_)
    refine SeqW.consX rfl (StepX.pure (pPick (t := false) (v := (Value.bool (decide (x11.percent < x13)))) rfl ((congrArg Value.bool hc151)) rfl) ?_)
    refine SeqW.done fun fr152 hf153 => ?_
    have h7 : fr152 7 = v7 := (congrFun hf153 7).trans h7
    have h11 : fr152 11 = (Value.pointer (some ⟨b11, 0, none⟩)) := (congrFun hf153 11).trans h11
    have h67 : fr152 67 = (Value.bool (decide (x11.percent < x13))) := (congrFun hf153 67).trans rfl
    clear hf153
    obtain rfl := Option.some.inj hr
    exact ⟨z, hz, st, rfl, h67, o7, bx11, ao7_o11, trivial⟩

theorem u_l35_BrakeRuns_1 {N : Nat}  {z0 z : Nat → Blk} {e m : Mem} {k : Option Nat} {fr : Nat → Value} {x7 : List BrakeRow} {x8 : Int} {x9 : Int} {x11 : Brakes} {x52 : Bool} {v7 : Value} {b11 : Nat} (hz : Zx e.next z0 z) (st : St z e m k) (h7 : fr 7 = v7) (o7 : OwF TBrakeRow z e m k x7 v7) (h8 : fr 8 = (Value.int .i64 x8)) (h9 : fr 9 = (Value.int .i64 x9)) (h11 : fr 11 = (Value.pointer (some ⟨b11, 0, none⟩))) (bx11 : Bx z e m k b11 [(Value.int .i64 x11.length), (Value.int .i64 x11.axles), (Value.int .i64 x11.mass), (Value.int .i64 x11.braked), (Value.int .i64 x11.percent), (Value.int .i64 x11.required), (Value.int .i64 x11.missing)] 33) (h52 : fr 52 = (Value.bool x52)) (ao7_o11 : Ap (blkOf v7) (some b11)) {r : Sum (Unit) (Bool)} (hr : l35_BrakeRuns_1 N x7 x8 x9 x11 x52 = some r) : W Try.prog (sub (bodyOf Try.f8) [1, 1, 1, 1, 1, 1, 1, 0, 1]) (fun ex fr' m' => ∃ z', Zx e.next z0 z' ∧ St z' e m' k ∧ ((∃ q, r = Sum.inl q ∧ ex = AExit.normal ∧ OwF TBrakeRow z' e m' k x7 v7 ∧ Bx z' e m' k b11 [(Value.int .i64 x11.length), (Value.int .i64 x11.axles), (Value.int .i64 x11.mass), (Value.int .i64 x11.braked), (Value.int .i64 x11.percent), (Value.int .i64 x11.required), (Value.int .i64 x11.missing)] 33 ∧ Ap (blkOf v7) (some b11) ∧ True) ∨ (∃ q, r = Sum.inr q ∧ ex = AExit.ret ∧ fr' 4 = (Value.bool q) ∧ True))) fr m := by
  unfold l35_BrakeRuns_1 at hr
  rcases if_some hr with ⟨hc139, hr⟩ | ⟨hc168, hr⟩
  · refine W.condT h52 hc139 ?_
    refine W.seq ?_
    refine W.region ?_
    refine SeqW.consX rfl (StepX.pure (pMove (v := v7) rfl h7) ?_)
    refine SeqW.consX rfl (StepX.pure (pMove (v := (Value.int .i64 x9)) rfl h9) ?_)
    refine SeqW.consX rfl (StepX.pure (pMove (v := (Value.int .i64 x8)) rfl h8) ?_)
    obtain ⟨z140, hz141, st144, Q142, hl143⟩ := o7.freeze st
    obtain ⟨y145, hy145, hr⟩ := bind_some hr
    refine SeqW.consX rfl (StepX.call (gCallee rfl rfl (args3 rfl rfl rfl)) ((c_brake_Required (z := z140) st144.fz st.dead Q142 hy145).mono ?_))
    rintro _ _ ⟨rfl, rfl⟩
    refine SeqW.consX rfl (StepX.pure (pMove (v := (Value.tuple [(Value.int .i64 y145.1), (Value.int .i64 y145.2)].toArray)) rfl rfl) ?_)
    refine SeqW.consX rfl (StepX.pure (pExtract (vs := [(Value.int .i64 y145.1), (Value.int .i64 y145.2)]) (v := (Value.int .i64 y145.1)) rfl rfl rfl) ?_)
    refine SeqW.consX rfl (StepX.pure (pExtract (vs := [(Value.int .i64 y145.1), (Value.int .i64 y145.2)]) (v := (Value.int .i64 y145.2)) rfl rfl rfl) ?_)
    refine SeqW.consX rfl (StepX.pure (pAssign (v := (Value.int .i64 y145.1)) rfl rfl) ?_)
    refine SeqW.consX rfl (StepX.pure (pAssign (v := (Value.int .i64 y145.2)) rfl rfl) ?_)
    refine SeqW.done fun fr146 hf147 => ?_
    have h7 : fr146 7 = v7 := (congrFun hf147 7).trans h7
    have h8 : fr146 8 = (Value.int .i64 x8) := (congrFun hf147 8).trans h8
    have h9 : fr146 9 = (Value.int .i64 x9) := (congrFun hf147 9).trans h9
    have h11 : fr146 11 = (Value.pointer (some ⟨b11, 0, none⟩)) := (congrFun hf147 11).trans h11
    have h13 : fr146 13 = (Value.int .i64 y145.1) := (congrFun hf147 13).trans rfl
    have h14 : fr146 14 = (Value.int .i64 y145.2) := (congrFun hf147 14).trans rfl
    clear hf147
    refine thenQ.n ?_
    refine W.seq ?_
    obtain ⟨y154, hy154, hr⟩ := bind_some hr
    refine W.keep (u_l35_BrakeRuns_2 (x11 := x11) (Zx.refl _) st h7 o7 h11 bx11 h13 h14 ao7_o11 hy154) ?_
    rintro ex160 fr155 m156 hk158 ⟨z157, hz159, st, rfl, h67, O161, O162, A163, -⟩
    have h7 := (hk158 7 rfl).trans h7
    have h8 := (hk158 8 rfl).trans h8
    have h9 := (hk158 9 rfl).trans h9
    have h11 := (hk158 11 rfl).trans h11
    replace hz := hz.trans hz159
    clear hk158
    refine thenQ.n ?_
    rcases if_some hr with ⟨hc164, hr⟩ | ⟨hc167, hr⟩
    · refine W.condT h67 hc164 ?_
      refine W.seq ?_
      refine W.region ?_
      refine SeqW.consX rfl (StepX.pure (pAssign (v := (Value.bool false)) rfl rfl) ?_)
      refine SeqW.done fun fr165 hf166 => ?_
      have h4 : fr165 4 = (Value.bool false) := (congrFun hf166 4).trans rfl
      clear hf166
      refine thenQ.n ?_
      refine W.ret ?_
      obtain rfl := Option.some.inj hr
      exact ⟨z157, hz, st, .inr ⟨_, rfl, rfl, h4, trivial⟩⟩
    · refine W.condF h67 hc167 ?_
      refine W.skip ?_
      obtain rfl := Option.some.inj hr
      exact ⟨z157, hz, st, .inl ⟨_, rfl, rfl, O161, O162, A163, trivial⟩⟩
  · refine W.condF h52 hc168 ?_
    refine W.skip ?_
    obtain rfl := Option.some.inj hr
    exact ⟨z, hz, st, .inl ⟨_, rfl, rfl, o7, bx11, ao7_o11, trivial⟩⟩

theorem u_l35_BrakeRuns_4 {N : Nat}  {z0 z : Nat → Blk} {e m : Mem} {k : Option Nat} {fr : Nat → Value} {x7 : List BrakeRow} {x9 : Int} {x11 : Brakes} {x15 : Int} {x16 : Int} {x17 : Int} {v7 : Value} {b11 : Nat} (hz : Zx e.next z0 z) (st : St z e m k) (h7 : fr 7 = v7) (o7 : OwF TBrakeRow z e m k x7 v7) (h9 : fr 9 = (Value.int .i64 x9)) (h11 : fr 11 = (Value.pointer (some ⟨b11, 0, none⟩))) (bx11 : Bx z e m k b11 [(Value.int .i64 x11.length), (Value.int .i64 x11.axles), (Value.int .i64 x11.mass), (Value.int .i64 x11.braked), (Value.int .i64 x11.percent), (Value.int .i64 x11.required), (Value.int .i64 x11.missing)] 33) (h15 : fr 15 = (Value.int .i64 x15)) (h16 : fr 16 = (Value.int .i64 x16)) (h17 : fr 17 = (Value.int .i64 x17)) (ao7_o11 : Ap (blkOf v7) (some b11)) {r : Bool} (hr : l35_BrakeRuns_4 N x7 x9 x11 x15 x16 x17 = some r) : W Try.prog (sub (bodyOf Try.f8) [1, 1, 1, 1, 1, 1, 1, 1, 0, 1, 0, 0, 1, 0, 0, 1, 0]) (fun ex fr' m' => ∃ z', Zx e.next z0 z' ∧ St z' e m' k ∧ ex = AExit.normal ∧ fr' 101 = (Value.bool r) ∧ OwF TBrakeRow z' e m' k x7 v7 ∧ Bx z' e m' k b11 [(Value.int .i64 x11.length), (Value.int .i64 x11.axles), (Value.int .i64 x11.mass), (Value.int .i64 x11.braked), (Value.int .i64 x11.percent), (Value.int .i64 x11.required), (Value.int .i64 x11.missing)] 33 ∧ Ap (blkOf v7) (some b11) ∧ True) fr m := by
  unfold l35_BrakeRuns_4 at hr
  refine W.region ?_
  refine SeqW.consX rfl (StepX.pure (pMove (v := v7) rfl h7) ?_)
  refine SeqW.consX rfl (StepX.pure (pMove (v := (Value.int .i64 x15)) rfl h15) ?_)
  obtain ⟨y202, hy202, hr⟩ := bind_some hr
  refine SeqW.consX rfl (kIdxO (T := TBrakeRow) (xs := x7) (n := x15) rfl Try.underlying27 Try.type31 rfl rfl rfl o7 hy202 ?_)
  intro B203 l204 c205 cs206 hv207 hd208 hg209 hc210
  have hd2080 := hd208
  obtain rfl := hd2080
  refine SeqW.consX rfl (kField rfl Try.underlying31 rfl Try.type3 rfl rfl rfl ?_)
  refine SeqW.consX rfl (kLoad (v := (Value.int .i64 y202.speed)) rfl Try.underlying3 rfl rfl (hc210 0 _ rfl) ?_)
  refine SeqW.consX rfl (StepX.pure (pMove (v := (Value.int .i64 x9)) rfl h9) ?_)
  refine SeqW.consX rfl (StepX.pure (pGtr (k := .i64) (a := y202.speed) (b := x9) rfl rfl rfl) ?_)
  refine SeqW.consX rfl (StepX.pure (pMove (v := (Value.bool (decide (x9 < y202.speed)))) rfl rfl) ?_)
  rcases if_some hr with ⟨hc211, hr⟩ | ⟨hc218, hr⟩
  · refine SeqW.consG rfl rfl rfl hc211 (StepX.pure (pMove (v := (Value.int .i64 x17)) rfl h17) ?_)
    refine SeqW.consG rfl rfl rfl hc211 (StepX.pure (pEql (k := .i64) (a := x17) (b := 0) rfl rfl rfl) ?_)
    refine SeqW.consX rfl (StepX.pure (pPick (t := true) (v := (Value.bool (x17 == 0))) rfl ((congrArg Value.bool hc211)) rfl) ?_)
    refine SeqW.consX rfl (StepX.pure (pMove (v := (Value.bool (x17 == 0))) rfl rfl) ?_)
    rcases if_some hr with ⟨hc212, hr⟩ | ⟨hc215, hr⟩
    · refine SeqW.consG rfl rfl rfl hc212 (StepX.pure (pMove (v := (Value.int .i64 x16)) rfl h16) ?_)
      refine SeqW.consG rfl rfl rfl hc212 (kField rfl Try.underlying33 rfl Try.type3 rfl h11 rfl ?_)
      refine SeqW.consG rfl rfl rfl hc212 (kLoad rfl Try.underlying3 rfl rfl (bx11.load (v := (Value.int .i64 x11.percent)) rfl) ?_)
      refine SeqW.consG rfl rfl rfl hc212 (StepX.pure (pLeq (k := .i64) (a := x16) (b := x11.percent) rfl rfl rfl) ?_)
      refine SeqW.consX rfl (StepX.pure (pPick (t := true) (v := (Value.bool (decide (x16 ≤ x11.percent)))) rfl ((congrArg Value.bool hc212)) rfl) ?_)
      refine SeqW.done fun fr213 hf214 => ?_
      have h7 : fr213 7 = v7 := (congrFun hf214 7).trans h7
      have h9 : fr213 9 = (Value.int .i64 x9) := (congrFun hf214 9).trans h9
      have h11 : fr213 11 = (Value.pointer (some ⟨b11, 0, none⟩)) := (congrFun hf214 11).trans h11
      have h15 : fr213 15 = (Value.int .i64 x15) := (congrFun hf214 15).trans h15
      have h101 : fr213 101 = (Value.bool (decide (x16 ≤ x11.percent))) := (congrFun hf214 101).trans rfl
      clear hf214
      obtain rfl := Option.some.inj hr
      exact ⟨z, hz, st, rfl, h101, o7, bx11, ao7_o11, trivial⟩
    · refine SeqW.skipG rfl rfl rfl hc215 ?_
      refine SeqW.skipG rfl rfl rfl hc215 ?_
      refine SeqW.skipG rfl rfl rfl hc215 ?_
      refine SeqW.skipG rfl rfl rfl hc215 ?_
      refine SeqW.consX rfl (StepX.pure (pPick (t := false) (v := (Value.bool false)) rfl ((congrArg Value.bool hc215)) rfl) ?_)
      refine SeqW.done fun fr216 hf217 => ?_
      have h7 : fr216 7 = v7 := (congrFun hf217 7).trans h7
      have h9 : fr216 9 = (Value.int .i64 x9) := (congrFun hf217 9).trans h9
      have h11 : fr216 11 = (Value.pointer (some ⟨b11, 0, none⟩)) := (congrFun hf217 11).trans h11
      have h15 : fr216 15 = (Value.int .i64 x15) := (congrFun hf217 15).trans h15
      have h101 : fr216 101 = (Value.bool false) := (congrFun hf217 101).trans rfl
      clear hf217
      obtain rfl := Option.some.inj hr
      exact ⟨z, hz, st, rfl, h101, o7, bx11, ao7_o11, trivial⟩
  · refine SeqW.skipG rfl rfl rfl hc218 ?_
    refine SeqW.skipG rfl rfl rfl hc218 ?_
    refine SeqW.consX rfl (StepX.pure (pPick (t := false) (v := (Value.bool false)) rfl ((congrArg Value.bool hc218)) rfl) ?_)
    refine SeqW.consX rfl (StepX.pure (pMove (v := (Value.bool false)) rfl rfl) ?_)
    refine SeqW.skipG rfl rfl rfl rfl ?_
    refine SeqW.skipG rfl rfl rfl rfl ?_
    refine SeqW.skipG rfl rfl rfl rfl ?_
    refine SeqW.skipG rfl rfl rfl rfl ?_
    refine SeqW.consX rfl (StepX.pure (pPick (t := false) (v := (Value.bool false)) rfl ((congrArg Value.bool (rfl : false = false))) rfl) ?_)
    refine SeqW.done fun fr219 hf220 => ?_
    have h7 : fr219 7 = v7 := (congrFun hf220 7).trans h7
    have h9 : fr219 9 = (Value.int .i64 x9) := (congrFun hf220 9).trans h9
    have h11 : fr219 11 = (Value.pointer (some ⟨b11, 0, none⟩)) := (congrFun hf220 11).trans h11
    have h15 : fr219 15 = (Value.int .i64 x15) := (congrFun hf220 15).trans h15
    have h101 : fr219 101 = (Value.bool false) := (congrFun hf220 101).trans rfl
    clear hf220
    obtain rfl := Option.some.inj hr
    exact ⟨z, hz, st, rfl, h101, o7, bx11, ao7_o11, trivial⟩

theorem u_l35_BrakeRuns_3 : ∀ (n : Nat) {N : Nat}  {z0 z : Nat → Blk} {e m : Mem} {k : Option Nat} {fr : Nat → Value} {x7 : List BrakeRow} {x8 : Int} {x9 : Int} {x11 : Brakes} {x15 : Int} {v7 : Value} {b11 : Nat} (hz : Zx e.next z0 z) (st : St z e m k) (h7 : fr 7 = v7) (o7 : OwF TBrakeRow z e m k x7 v7) (h8 : fr 8 = (Value.int .i64 x8)) (h9 : fr 9 = (Value.int .i64 x9)) (h11 : fr 11 = (Value.pointer (some ⟨b11, 0, none⟩))) (bx11 : Bx z e m k b11 [(Value.int .i64 x11.length), (Value.int .i64 x11.axles), (Value.int .i64 x11.mass), (Value.int .i64 x11.braked), (Value.int .i64 x11.percent), (Value.int .i64 x11.required), (Value.int .i64 x11.missing)] 33) (h15 : fr 15 = (Value.int .i64 x15)) (ao7_o11 : Ap (blkOf v7) (some b11)) {r : Sum (Unit) (Bool)} (hr : l35_BrakeRuns_3 N x7 x8 x9 x11 n x15 = some r), W Try.prog (sub (bodyOf Try.f8) [1, 1, 1, 1, 1, 1, 1, 1, 0, 1, 0]) (fun ex fr' m' => ∃ z', Zx e.next z0 z' ∧ St z' e m' k ∧ ((∃ q, r = Sum.inl q ∧ ex = AExit.exit 0 ∧ True) ∨ (∃ q, r = Sum.inr q ∧ ex = AExit.ret ∧ fr' 4 = (Value.bool q) ∧ True))) fr m := by
  intro n
  induction n with
  | zero => intro N z0 z e m k fr x7 x8 x9 x11 x15 v7 b11 hz st h7 o7 h8 h9 h11 bx11 h15 ao7_o11 r hr; cases (show (none : Option _) = some r from hr)
  | succ n ih =>
    intro N z0 z e m k fr x7 x8 x9 x11 x15 v7 b11 hz st h7 o7 h8 h9 h11 bx11 h15 ao7_o11 r hr
    unfold l35_BrakeRuns_3 at hr
    refine W.loop1 ?_
    refine W.seq ?_
    refine W.seq ?_
    refine W.region ?_
    refine SeqW.consX rfl (StepX.pure (pMove (v := (Value.int .i64 x15)) rfl h15) ?_)
    refine SeqW.consX rfl (StepX.pure (pMove (v := v7) rfl h7) ?_)
    refine SeqW.consX rfl (StepX.pure (pLenO (xs := x7) rfl Try.underlying27 rfl o7.ow) ?_)
    refine SeqW.consX rfl (StepX.pure (pLss (k := .i64) (a := x15) (b := (x7.length : Int)) rfl rfl rfl) ?_)
    refine SeqW.done fun fr182 hf183 => ?_
    have h7 : fr182 7 = v7 := (congrFun hf183 7).trans h7
    have h8 : fr182 8 = (Value.int .i64 x8) := (congrFun hf183 8).trans h8
    have h9 : fr182 9 = (Value.int .i64 x9) := (congrFun hf183 9).trans h9
    have h11 : fr182 11 = (Value.pointer (some ⟨b11, 0, none⟩)) := (congrFun hf183 11).trans h11
    have h15 : fr182 15 = (Value.int .i64 x15) := (congrFun hf183 15).trans h15
    have h71 : fr182 71 = (Value.bool (decide (x15 < (x7.length : Int)))) := (congrFun hf183 71).trans rfl
    clear hf183
    refine thenQ.n ?_
    rcases if_some hr with ⟨hc184, hr⟩ | ⟨hc238, hr⟩
    · refine W.condT h71 hc184 ?_
      refine W.skip ?_
      refine thenQ.n ?_
      refine W.seq ?_
      refine W.block ?_
      refine W.seq ?_
      refine W.region ?_
      refine SeqW.consX rfl (StepX.pure (pMove (v := v7) rfl h7) ?_)
      refine SeqW.consX rfl (StepX.pure (pMove (v := v7) rfl h7) ?_)
      refine SeqW.consX rfl (StepX.pure (pMove (v := (Value.int .i64 x15)) rfl h15) ?_)
      obtain ⟨y185, hy185, hr⟩ := bind_some hr
      refine SeqW.consX rfl (kIdxO (T := TBrakeRow) (xs := x7) (n := x15) rfl Try.underlying27 Try.type31 rfl rfl rfl o7 hy185 ?_)
      intro B186 l187 c188 cs189 hv190 hd191 hg192 hc193
      have hd1910 := hd191
      obtain rfl := hd1910
      refine SeqW.consX rfl (kField rfl Try.underlying31 rfl Try.type3 rfl rfl rfl ?_)
      refine SeqW.consX rfl (kLoad (v := (Value.int .i64 y185.speed)) rfl Try.underlying3 rfl rfl (hc193 0 _ rfl) ?_)
      refine SeqW.consX rfl (StepX.pure (pMove (v := (Value.int .i64 x8)) rfl h8) ?_)
      obtain ⟨z194, hz195, st198, Q196, hl197⟩ := o7.freeze st
      obtain ⟨y199, hy199, hr⟩ := bind_some hr
      refine SeqW.consX rfl (StepX.call (gCallee rfl rfl (args3 rfl rfl rfl)) ((c_brake_Required (z := z194) st198.fz st.dead Q196 hy199).mono ?_))
      rintro _ _ ⟨rfl, rfl⟩
      refine SeqW.consX rfl (StepX.pure (pMove (v := (Value.tuple [(Value.int .i64 y199.1), (Value.int .i64 y199.2)].toArray)) rfl rfl) ?_)
      refine SeqW.consX rfl (StepX.pure (pExtract (vs := [(Value.int .i64 y199.1), (Value.int .i64 y199.2)]) (v := (Value.int .i64 y199.1)) rfl rfl rfl) ?_)
      refine SeqW.consX rfl (StepX.pure (pExtract (vs := [(Value.int .i64 y199.1), (Value.int .i64 y199.2)]) (v := (Value.int .i64 y199.2)) rfl rfl rfl) ?_)
      refine SeqW.consX rfl (StepX.pure (pAssign (v := (Value.int .i64 y199.1)) rfl rfl) ?_)
      refine SeqW.consX rfl (StepX.pure (pAssign (v := (Value.int .i64 y199.2)) rfl rfl) ?_)
      refine SeqW.done fun fr200 hf201 => ?_
      have h7 : fr200 7 = v7 := (congrFun hf201 7).trans h7
      have h8 : fr200 8 = (Value.int .i64 x8) := (congrFun hf201 8).trans h8
      have h9 : fr200 9 = (Value.int .i64 x9) := (congrFun hf201 9).trans h9
      have h11 : fr200 11 = (Value.pointer (some ⟨b11, 0, none⟩)) := (congrFun hf201 11).trans h11
      have h15 : fr200 15 = (Value.int .i64 x15) := (congrFun hf201 15).trans h15
      have h16 : fr200 16 = (Value.int .i64 y199.1) := (congrFun hf201 16).trans rfl
      have h17 : fr200 17 = (Value.int .i64 y199.2) := (congrFun hf201 17).trans rfl
      clear hf201
      refine thenQ.n ?_
      refine W.seq ?_
      obtain ⟨y221, hy221, hr⟩ := bind_some hr
      refine W.keep (u_l35_BrakeRuns_4 (x11 := x11) (Zx.refl _) st h7 o7 h9 h11 bx11 h15 h16 h17 ao7_o11 hy221) ?_
      rintro ex227 fr222 m223 hk225 ⟨z224, hz226, st, rfl, h101, O228, O229, A230, -⟩
      have h7 := (hk225 7 rfl).trans h7
      have h8 := (hk225 8 rfl).trans h8
      have h9 := (hk225 9 rfl).trans h9
      have h11 := (hk225 11 rfl).trans h11
      have h15 := (hk225 15 rfl).trans h15
      replace hz := hz.trans hz226
      clear hk225
      refine thenQ.n ?_
      rcases if_some hr with ⟨hc231, hr⟩ | ⟨hc234, hr⟩
      · refine W.condT h101 hc231 ?_
        refine W.seq ?_
        refine W.region ?_
        refine SeqW.consX rfl (StepX.pure (pAssign (v := (Value.bool false)) rfl rfl) ?_)
        refine SeqW.done fun fr232 hf233 => ?_
        have h4 : fr232 4 = (Value.bool false) := (congrFun hf233 4).trans rfl
        clear hf233
        refine thenQ.n ?_
        refine W.ret ?_
        refine blockQ.r ?_
        refine thenQ.r ?_
        refine thenQ.r ?_
        obtain rfl := Option.some.inj hr
        exact ⟨z224, hz, st, .inr ⟨_, rfl, rfl, h4, trivial⟩⟩
      · refine W.condF h101 hc234 ?_
        refine W.skip ?_
        refine blockQ.n ?_
        refine thenQ.n ?_
        refine W.region ?_
        refine SeqW.consX rfl (StepX.pure (pMove (v := (Value.int .i64 x15)) rfl h15) ?_)
        refine SeqW.consX rfl (StepX.pure (pAdd (k := .i64) (a := x15) (b := 1) rfl rfl rfl) ?_)
        obtain ⟨y235, hy235, hr⟩ := lt_some hr
        refine SeqW.consX rfl (StepX.pure (pAssign rfl (congrArg (Value.int .i64) hy235)) ?_)
        refine SeqW.done fun fr236 hf237 => ?_
        have h7 : fr236 7 = v7 := (congrFun hf237 7).trans h7
        have h8 : fr236 8 = (Value.int .i64 x8) := (congrFun hf237 8).trans h8
        have h9 : fr236 9 = (Value.int .i64 x9) := (congrFun hf237 9).trans h9
        have h11 : fr236 11 = (Value.pointer (some ⟨b11, 0, none⟩)) := (congrFun hf237 11).trans h11
        have h15 : fr236 15 = (Value.int .i64 y235) := (congrFun hf237 15).trans rfl
        clear hf237
        refine thenQ.n ?_
        exact ih (x11 := x11) hz st h7 O228 h8 h9 h11 O229 h15 A230 hr
    · refine W.condF h71 hc238 ?_
      refine W.exit ?_
      refine thenQ.x ?_
      refine thenQ.x ?_
      obtain rfl := Option.some.inj hr
      exact ⟨z, hz, st, .inl ⟨_, rfl, rfl, trivial⟩⟩

theorem u_l35_BrakeRuns {N : Nat}  {z0 z : Nat → Blk} {e m : Mem} {k : Option Nat} {fr : Nat → Value} {x0 : List Int} {x1 : Int} {v0 : Value} (hz : Zx e.next z0 z) (st : St z e m k) (h0 : fr 0 = v0) (s0 : SlR (TInt 3 .i64) z x0 v0) (h1 : fr 1 = (Value.int .i64 x1)) {r : Bool} (hr : l35_BrakeRuns N x0 x1 = some r) : W Try.prog (sub (bodyOf Try.f8) []) (fun ex fr' m' => ∃ z', Zx e.next z0 z' ∧ St z' e m' k ∧ (ex = .normal ∨ ex = .ret) ∧ fr' 4 = (Value.bool r) ∧ True) fr m := by
  unfold l35_BrakeRuns at hr
  refine W.seq ?_
  refine W.region ?_
  refine SeqW.consX rfl (StepX.pure (pAssign (v := (Value.bool false)) rfl rfl) ?_)
  refine SeqW.done fun fr1 hf2 => ?_
  have h0 : fr1 0 = v0 := (congrFun hf2 0).trans h0
  have h1 : fr1 1 = (Value.int .i64 x1) := (congrFun hf2 1).trans h1
  clear hf2
  refine thenQ.n ?_
  refine W.seq ?_
  refine W.region ?_
  refine SeqW.consX rfl (StepX.pure (pMove (v := v0) rfl h0) ?_)
  obtain ⟨y3, hy3, hr⟩ := bind_some hr
  refine SeqW.consX rfl (StepX.call (gCallee rfl rfl (args1 rfl)) ((c_gen_New (z := z) st.fz st.dead s0 hy3).mono ?_))
  rintro _ m8 ⟨z4, B9, V12, hzx5, fz6, sm7, rfl, Q13, X10, hn15, -⟩
  replace s0 := s0.mono hzx5.le
  have X10 : Bx z4 e m8 k B9 _ _ := ⟨X10.blk, X10.lt, X10.dead, .inl (Nat.le_trans st.next hn15)⟩
  replace hz := hz.trans (Zx.here st hzx5)
  replace st := st.call hzx5 fz6 sm7 no_hq
  refine SeqW.consX rfl (StepX.pure (pAssign (v := (Value.pointer (some ⟨B9, 0, none⟩))) rfl rfl) ?_)
  refine SeqW.done fun fr16 hf17 => ?_
  have h1 : fr16 1 = (Value.int .i64 x1) := (congrFun hf17 1).trans h1
  have h5 : fr16 5 = (Value.pointer (some ⟨B9, 0, none⟩)) := (congrFun hf17 5).trans rfl
  clear hf17
  refine thenQ.n ?_
  refine W.seq ?_
  refine W.region ?_
  refine SeqW.consX rfl (StepX.pure (pMove (v := (Value.pointer (some ⟨B9, 0, none⟩))) rfl h5) ?_)
  obtain ⟨y18, hy18, hr⟩ := bind_some hr
  refine SeqW.consX rfl (StepX.call (gCallee rfl rfl (args2 rfl rfl)) ((c_Maker_Wagons (x0 := y3) (z := z4) st.fz st.dead Q13 ⟨X10.blk, X10.lt, X10.dead, .inr rfl⟩ hy18).mono ?_))
  rintro V24 m23 ⟨z19, _, V27, hzx20, fz21, sm22, rfl, Q25, Q28, X30, -⟩
  have A31 := Ap.own X10.lt' Q25.fresh
  replace Q13 := Q13.mono hzx20.le
  have X10n : Bx z19 e m23 k B9 _ _ := ⟨X30.blk, X30.lt, X30.dead, X10.fresh⟩
  have Q25 : OwF TWagon z19 e m23 k y18.1 V24 := Q25.up st.next
  replace hz := hz.trans (Zx.here st hzx20)
  replace st := st.call hzx20 fz21 sm22 X10.hq
  refine SeqW.consX rfl (StepX.pure (pMove (v := (Value.pointer (some ⟨B9, 0, none⟩))) rfl h5) ?_)
  obtain ⟨y32, hy32, hr⟩ := bind_some hr
  refine SeqW.consX rfl (StepX.call (gCallee rfl rfl (args1 rfl)) ((c_yardgen_Table (x0 := y18.2) (z := z19) st.fz st.dead Q28 ⟨X10n.blk, X10n.lt, X10n.dead, .inr rfl⟩ hy32).mono ?_))
  rintro V38 m37 ⟨z33, _, V41, hzx34, fz35, sm36, rfl, Q39, Q42, X44, -⟩
  have A45 := Ap.own X10n.lt' Q39.fresh
  have A46 := Ap.own Q25.lt Q39.fresh
  replace Q25 := Q25.call hzx34 sm36 (Ap.symm A31)
  replace Q28 := Q28.mono hzx34.le
  have X10nn : Bx z33 e m37 k B9 _ _ := ⟨X44.blk, X44.lt, X44.dead, X10n.fresh⟩
  have Q39 : OwF TBrakeRow z33 e m37 k y32.1 V38 := Q39.up st.next
  replace hz := hz.trans (Zx.here st hzx34)
  replace st := st.call hzx34 fz35 sm36 X10n.hq
  refine SeqW.consX rfl (StepX.pure (pMove (v := (Value.pointer (some ⟨B9, 0, none⟩))) rfl h5) ?_)
  obtain ⟨y47, hy47, hr⟩ := bind_some hr
  refine SeqW.consX rfl (StepX.call (gCallee rfl rfl (args1 rfl)) ((c_yardgen_Table (x0 := y32.2) (z := z33) st.fz st.dead Q42 ⟨X10nn.blk, X10nn.lt, X10nn.dead, .inr rfl⟩ hy47).mono ?_))
  rintro V53 m52 ⟨z48, _, V56, hzx49, fz50, sm51, rfl, Q54, Q57, X59, -⟩
  have A60 := Ap.own X10nn.lt' Q54.fresh
  have A61 := Ap.own Q25.lt Q54.fresh
  have A62 := Ap.own Q39.lt Q54.fresh
  replace Q25 := Q25.call hzx49 sm51 (Ap.symm A31)
  replace Q39 := Q39.call hzx49 sm51 (Ap.symm A45)
  replace Q42 := Q42.mono hzx49.le
  have X10nnn : Bx z48 e m52 k B9 _ _ := ⟨X59.blk, X59.lt, X59.dead, X10nn.fresh⟩
  have Q54 : OwF TBrakeRow z48 e m52 k y47.1 V53 := Q54.up st.next
  replace hz := hz.trans (Zx.here st hzx49)
  replace st := st.call hzx49 fz50 sm51 X10nn.hq
  obtain ⟨y63, hy63, hr⟩ := bind_some hr
  refine SeqW.consX rfl (kAppend (T := TBrakeRow) (xs := y32.1) (ys := y47.1) rfl Try.underlying27 Try.type31 rfl rfl rfl rfl rfl rfl (.inl ⟨_, Try.underlying27⟩) rfl Q39 rfl Q54.ow.src st hy63 ?_)
  intro V64 m65 st O66 sm67 hap68
  have A70 := hap68 _ Q25.lt A46
  have A71 := hap68 _ Q54.lt (Ap.symm A62)
  replace Q25 := Q25.same sm67 A46
  replace Q54 := Q54.same sm67 (Ap.symm A62)
  refine SeqW.consX rfl (StepX.pure (pAssign (v := V24) rfl rfl) ?_)
  refine SeqW.consX rfl (StepX.pure (pAssign (v := V64) rfl rfl) ?_)
  refine SeqW.done fun fr72 hf73 => ?_
  have h1 : fr72 1 = (Value.int .i64 x1) := (congrFun hf73 1).trans h1
  have h6 : fr72 6 = V24 := (congrFun hf73 6).trans rfl
  have h7 : fr72 7 = V64 := (congrFun hf73 7).trans rfl
  clear hf73
  refine thenQ.n ?_
  refine W.seq ?_
  refine W.region ?_
  refine SeqW.consX rfl (StepX.pure (pMove (v := (Value.int .i64 x1)) rfl h1) ?_)
  obtain ⟨y74, hy74, hr⟩ := bind_some hr
  refine SeqW.consX rfl (StepX.call (gCallee rfl rfl (args2 rfl rfl)) ((c_yardgen_Place (z := z48) st.fz st.dead  hy74).mono ?_))
  rintro _ _ ⟨rfl, rfl⟩
  refine SeqW.consX rfl (StepX.pure (pAssign (v := (Value.int .i64 y74)) rfl rfl) ?_)
  refine SeqW.done fun fr75 hf76 => ?_
  have h6 : fr75 6 = V24 := (congrFun hf76 6).trans h6
  have h7 : fr75 7 = V64 := (congrFun hf76 7).trans h7
  have h8 : fr75 8 = (Value.int .i64 y74) := (congrFun hf76 8).trans rfl
  clear hf76
  refine thenQ.n ?_
  refine W.seq ?_
  refine W.region ?_
  refine SeqW.consX rfl (StepX.pure (pMove (v := V24) rfl h6) ?_)
  refine SeqW.consX rfl (StepX.pure (pMove (v := V64) rfl h7) ?_)
  refine SeqW.consX rfl (StepX.pure (pMove (v := (Value.int .i64 y74)) rfl h8) ?_)
  obtain ⟨z77, hz78, st81, Q79, hl80⟩ := Q25.freeze st
  have O82 := O66.zle hz78.le (hl80 _ (Ap.symm A70))
  obtain ⟨z83, hz84, st87, Q85, hl86⟩ := O82.freeze st81
  have Q88 := Q79.mono hz84.le
  obtain ⟨y89, hy89, hr⟩ := bind_some hr
  refine SeqW.consX rfl (StepX.call (gCallee rfl rfl (args4 rfl rfl rfl rfl)) ((c_brake_Fastest (z := z83) st87.fz st.dead Q88 (SlR.nil (T := (TInt 3 .i64))) Q85 hy89).mono ?_))
  rintro _ _ ⟨rfl, rfl⟩
  refine SeqW.consX rfl (StepX.pure (pMove (v := (Value.tuple [(Value.int .i64 y89.1), (Value.int .i64 y89.2)].toArray)) rfl rfl) ?_)
  refine SeqW.consX rfl (StepX.pure (pExtract (vs := [(Value.int .i64 y89.1), (Value.int .i64 y89.2)]) (v := (Value.int .i64 y89.1)) rfl rfl rfl) ?_)
  refine SeqW.consX rfl (StepX.pure (pExtract (vs := [(Value.int .i64 y89.1), (Value.int .i64 y89.2)]) (v := (Value.int .i64 y89.2)) rfl rfl rfl) ?_)
  refine SeqW.consX rfl (StepX.pure (pAssign (v := (Value.int .i64 y89.1)) rfl rfl) ?_)
  refine SeqW.consX rfl (StepX.pure (pAssign (v := (Value.int .i64 y89.2)) rfl rfl) ?_)
  refine SeqW.done fun fr90 hf91 => ?_
  have h6 : fr90 6 = V24 := (congrFun hf91 6).trans h6
  have h7 : fr90 7 = V64 := (congrFun hf91 7).trans h7
  have h8 : fr90 8 = (Value.int .i64 y74) := (congrFun hf91 8).trans h8
  have h9 : fr90 9 = (Value.int .i64 y89.1) := (congrFun hf91 9).trans rfl
  have h10 : fr90 10 = (Value.int .i64 y89.2) := (congrFun hf91 10).trans rfl
  clear hf91
  refine thenQ.n ?_
  refine W.seq ?_
  refine W.region ?_
  refine SeqW.consX rfl (StepX.pure (pMove (v := V24) rfl h6) ?_)
  obtain ⟨z92, hz93, st, Q94, hl95⟩ := Q25.freeze st
  replace O66 := O66.zle hz93.le (hl95 _ (Ap.symm A70))
  replace hz := hz.trans hz93
  obtain ⟨y96, hy96, hr⟩ := bind_some hr
  refine SeqW.consX rfl (StepX.call (gCallee rfl rfl (args2 rfl rfl)) ((c_r35_Total (z := z92) st.fz st.dead Q94 (SlR.nil (T := (TInt 3 .i64))) hy96).mono ?_))
  rintro _ m101 ⟨z97, hzx98, fz99, sm100, rfl, -⟩
  replace Q94 := Q94.mono hzx98.le
  replace O66 := O66.call hzx98 sm100 Ap.none'
  replace hz := hz.trans (Zx.here st hzx98)
  replace st := st.call hzx98 fz99 sm100 no_hq
  refine SeqW.consX rfl (StepX.pure (pMove (v := (Value.tuple [(Value.agg [(Value.int .i64 y96.1.length), (Value.int .i64 y96.1.axles), (Value.int .i64 y96.1.mass), (Value.int .i64 y96.1.braked), (Value.int .i64 y96.1.percent), (Value.int .i64 y96.1.required), (Value.int .i64 y96.1.missing)].toArray), (Value.int .i64 y96.2)].toArray)) rfl rfl) ?_)
  refine SeqW.consX rfl (StepX.pure (pExtract (vs := [(Value.agg [(Value.int .i64 y96.1.length), (Value.int .i64 y96.1.axles), (Value.int .i64 y96.1.mass), (Value.int .i64 y96.1.braked), (Value.int .i64 y96.1.percent), (Value.int .i64 y96.1.required), (Value.int .i64 y96.1.missing)].toArray), (Value.int .i64 y96.2)]) (v := (Value.agg [(Value.int .i64 y96.1.length), (Value.int .i64 y96.1.axles), (Value.int .i64 y96.1.mass), (Value.int .i64 y96.1.braked), (Value.int .i64 y96.1.percent), (Value.int .i64 y96.1.required), (Value.int .i64 y96.1.missing)].toArray)) rfl rfl rfl) ?_)
  refine SeqW.consX rfl (StepX.pure (pExtract (vs := [(Value.agg [(Value.int .i64 y96.1.length), (Value.int .i64 y96.1.axles), (Value.int .i64 y96.1.mass), (Value.int .i64 y96.1.braked), (Value.int .i64 y96.1.percent), (Value.int .i64 y96.1.required), (Value.int .i64 y96.1.missing)].toArray), (Value.int .i64 y96.2)]) (v := (Value.int .i64 y96.2)) rfl rfl rfl) ?_)
  refine SeqW.consX rfl (kAlloc rfl Try.type33 rfl rfl rfl [(Value.int .i64 0), (Value.int .i64 0), (Value.int .i64 0), (Value.int .i64 0), (Value.int .i64 0), (Value.int .i64 0), (Value.int .i64 0)] rfl st ?_)
  intro B102 m103 st X104 sm105 hap106
  have A108 := hap106 _ O66.lt
  replace O66 := O66.same sm105 Ap.none'
  refine SeqW.consX rfl (kPut (off := 0) (w := (Value.agg [(Value.int .i64 y96.1.length), (Value.int .i64 y96.1.axles), (Value.int .i64 y96.1.mass), (Value.int .i64 y96.1.braked), (Value.int .i64 y96.1.percent), (Value.int .i64 y96.1.required), (Value.int .i64 y96.1.missing)].toArray)) (new := [(Value.int .i64 y96.1.length), (Value.int .i64 y96.1.axles), (Value.int .i64 y96.1.mass), (Value.int .i64 y96.1.braked), (Value.int .i64 y96.1.percent), (Value.int .i64 y96.1.required), (Value.int .i64 y96.1.missing)]) rfl Try.type33 rfl rfl rfl rfl rfl X104 rfl [(Value.int .i64 y96.1.length), (Value.int .i64 y96.1.axles), (Value.int .i64 y96.1.mass), (Value.int .i64 y96.1.braked), (Value.int .i64 y96.1.percent), (Value.int .i64 y96.1.required), (Value.int .i64 y96.1.missing)] rfl st ?_)
  intro m109 st X104 sm110
  replace O66 := O66.same sm110 A108
  refine SeqW.consX rfl (StepX.pure (pAssign (v := (Value.int .i64 y96.2)) rfl rfl) ?_)
  refine SeqW.done fun fr111 hf112 => ?_
  have h7 : fr111 7 = V64 := (congrFun hf112 7).trans h7
  have h8 : fr111 8 = (Value.int .i64 y74) := (congrFun hf112 8).trans h8
  have h9 : fr111 9 = (Value.int .i64 y89.1) := (congrFun hf112 9).trans h9
  have h10 : fr111 10 = (Value.int .i64 y89.2) := (congrFun hf112 10).trans h10
  have h11 : fr111 11 = (Value.pointer (some ⟨B102, 0, none⟩)) := (congrFun hf112 11).trans rfl
  have h12 : fr111 12 = (Value.int .i64 y96.2) := (congrFun hf112 12).trans rfl
  clear hf112
  refine thenQ.n ?_
  refine W.seq ?_
  refine W.seq ?_
  obtain ⟨y123, hy123, hr⟩ := bind_some hr
  refine W.keep (u_l35_BrakeRuns_0 (x11 := y96.1) (Zx.refl _) st h7 O66 h10 h11 X104 h12 A108 hy123) ?_
  rintro ex129 fr124 m125 hk127 ⟨z126, hz128, st, rfl, h50, O130, O131, A132, -⟩
  have h7 := (hk127 7 rfl).trans h7
  have h8 := (hk127 8 rfl).trans h8
  have h9 := (hk127 9 rfl).trans h9
  have h10 := (hk127 10 rfl).trans h10
  have h11 := (hk127 11 rfl).trans h11
  replace hz := hz.trans hz128
  clear hk127
  refine thenQ.n ?_
  rcases if_some hr with ⟨hc133, hr⟩ | ⟨hc136, hr⟩
  · refine W.condT h50 hc133 ?_
    refine W.seq ?_
    refine W.region ?_
    refine SeqW.consX rfl (StepX.pure (pAssign (v := (Value.bool false)) rfl rfl) ?_)
    refine SeqW.done fun fr134 hf135 => ?_
    have h4 : fr134 4 = (Value.bool false) := (congrFun hf135 4).trans rfl
    clear hf135
    refine thenQ.n ?_
    refine W.ret ?_
    refine thenQ.r ?_
    obtain rfl := Option.some.inj hr
    exact ⟨z126, hz, st, .inr rfl, h4, trivial⟩
  · refine W.condF h50 hc136 ?_
    refine W.skip ?_
    refine thenQ.n ?_
    refine W.seq ?_
    refine W.seq ?_
    refine W.region ?_
    refine SeqW.consX rfl (StepX.pure (pMove (v := (Value.int .i64 y89.2)) rfl h10) ?_)
    refine SeqW.consX rfl (StepX.pure (pEql (k := .i64) (a := y89.2) (b := 0) rfl rfl rfl) ?_)
    refine SeqW.done fun fr137 hf138 => ?_
    have h7 : fr137 7 = V64 := (congrFun hf138 7).trans h7
    have h8 : fr137 8 = (Value.int .i64 y74) := (congrFun hf138 8).trans h8
    have h9 : fr137 9 = (Value.int .i64 y89.1) := (congrFun hf138 9).trans h9
    have h11 : fr137 11 = (Value.pointer (some ⟨B102, 0, none⟩)) := (congrFun hf138 11).trans h11
    have h52 : fr137 52 = (Value.bool (y89.2 == 0)) := (congrFun hf138 52).trans rfl
    clear hf138
    refine thenQ.n ?_
    obtain ⟨y169, hy169, hr⟩ := bind_some hr
    refine W.keep (u_l35_BrakeRuns_1 (x11 := y96.1) (Zx.refl _) st h7 O130 h8 h9 h11 O131 h52 A132 hy169) ?_
    rintro ex175 fr170 m171 hk173 ⟨z172, hz174, st, ⟨y176, rfl, rfl, O177, O178, A179, -⟩ | ⟨y251, rfl, rfl, h4, -⟩⟩
    · dsimp only at hr
      have h7 := (hk173 7 rfl).trans h7
      have h8 := (hk173 8 rfl).trans h8
      have h9 := (hk173 9 rfl).trans h9
      have h11 := (hk173 11 rfl).trans h11
      replace hz := hz.trans hz174
      clear hk173
      refine thenQ.n ?_
      refine W.seq ?_
      refine W.seq ?_
      refine W.region ?_
      refine SeqW.consX rfl (StepX.pure (pAssign (v := (Value.int .i64 0)) rfl rfl) ?_)
      refine SeqW.done fun fr180 hf181 => ?_
      have h7 : fr180 7 = V64 := (congrFun hf181 7).trans h7
      have h8 : fr180 8 = (Value.int .i64 y74) := (congrFun hf181 8).trans h8
      have h9 : fr180 9 = (Value.int .i64 y89.1) := (congrFun hf181 9).trans h9
      have h11 : fr180 11 = (Value.pointer (some ⟨B102, 0, none⟩)) := (congrFun hf181 11).trans h11
      have h15 : fr180 15 = (Value.int .i64 0) := (congrFun hf181 15).trans rfl
      clear hf181
      refine thenQ.n ?_
      refine W.block ?_
      obtain ⟨y239, hy239, hr⟩ := bind_some hr
      refine W.keep (u_l35_BrakeRuns_3 (x11 := y96.1) _ (Zx.refl _) st h7 O177 h8 h9 h11 O178 h15 A179 hy239) ?_
      rintro ex245 fr240 m241 hk243 ⟨z242, hz244, st, ⟨y246, rfl, rfl, -⟩ | ⟨y250, rfl, rfl, h4, -⟩⟩
      · dsimp only at hr
        replace hz := hz.trans hz244
        clear hk243
        refine blockQ.hit ?_
        refine thenQ.n ?_
        refine W.seq ?_
        refine W.region ?_
        obtain ⟨y247, hy247, hr⟩ := bind_some hr
        refine SeqW.consX rfl (StepX.call (gCallee rfl rfl args0) ((c_l35_sane (z := z242) st.fz st.dead  hy247).mono ?_))
        rintro _ _ ⟨rfl, rfl⟩
        refine SeqW.consX rfl (StepX.pure (pAssign (v := (Value.bool y247)) rfl rfl) ?_)
        refine SeqW.done fun fr248 hf249 => ?_
        have h4 : fr248 4 = (Value.bool y247) := (congrFun hf249 4).trans rfl
        clear hf249
        refine thenQ.n ?_
        refine W.ret ?_
        obtain rfl := Option.some.inj hr
        exact ⟨z242, hz, st, .inr rfl, h4, trivial⟩
      · dsimp only at hr
        replace hz := hz.trans hz244
        clear hk243
        refine blockQ.r ?_
        refine thenQ.r ?_
        obtain rfl := Option.some.inj hr
        exact ⟨z242, hz, st, .inr rfl, h4, trivial⟩
    · dsimp only at hr
      replace hz := hz.trans hz174
      clear hk173
      refine thenQ.r ?_
      obtain rfl := Option.some.inj hr
      exact ⟨z172, hz, st, .inr rfl, h4, trivial⟩

theorem c_l35_BrakeRuns {N : Nat} {z : Nat → Blk} {m : Mem} {x0 : List Int} {x1 : Int} {v0 : Value} (fz : Fz z m) (hd : ∀ b, m.next ≤ b → m.blk b = .dead) (s0 : SlR (TInt 3 .i64) z x0 v0) {r : Bool} (hr : l35_BrakeRuns N x0 x1 = some r) : CallW Try.prog 8 #[v0, (Value.int .i64 x1)] m fun v m' => v = (Value.bool r) ∧ m' = m := by
  refine CallW.flat Try.func8 rfl (by kernel_rfl) (Nat.le_of_ble_eq_true rfl) rfl (z := z) (fun fr hf => ?_)
  have h0 : fr 0 = _ := hf 0 _ rfl
  have h1 : fr 1 = _ := hf 1 _ rfl
  refine (u_l35_BrakeRuns (k := none) (Zx.refl _) (St.start fz hd) h0 s0 h1 hr).mono ?_
  rintro ex fr' m' ⟨z', hz, st, he, h4, -⟩
  exact ⟨he, z', st, [(Value.bool r)], ⟨h4.symm, trivial⟩, .inl rfl, rfl⟩

end Go.W
