/- The models are what the program computes. -/
import Derived.Test.YthlaohffhjlkbaaW1
set_option linter.unusedVariables false
set_option linter.unusedSimpArgs false
set_option maxRecDepth 100000
set_option maxHeartbeats 4000000
namespace Go.W
open Go.AM Go.Proofs


/-! ### humpyard/humpyardlaw07.cheapest -/

theorem u_l07_cheapest_3 {N : Nat}  {rc : (List Int) → (List (List Int)) → Int → Int → Option (Int)} {z0 z : Nat → Blk} {e m : Mem} {k : Option Nat} {fr : Nat → Value} {x11 : List Int} {x12 : Int} {x13 : Int} {v11 : Value} (hrec : ∀ {z : Nat → Blk} {m : Mem} {x0 : List Int} {x1 : List (List Int)} {x2 : Int} {x3 : Int} {v0 : Value} {v1 : Value}, Fz z m → (∀ b, m.next ≤ b → m.blk b = .dead) → SlR (TInt 3 .i64) z x0 v0 → SlR (TSl 22 (TInt 3 .i64)) z x1 v1 → ∀ {r : Int}, rc x0 x1 x2 x3 = some r → CallW Try.prog 22 #[v0, v1, (vI x2), (vI x3)] m fun v m' => v = (vI r) ∧ m' = m) (hz : Zx e.next z0 z) (st : St z e m k) (h11 : fr 11 = v11) (s11 : SlR (TInt 3 .i64) z x11 v11) (h12 : fr 12 = (vI x12)) (h13 : fr 13 = (vI x13)) {r : Bool} (hr : l07_cheapest_3 N rc x11 x12 x13 = some r) : W Try.prog (sub (bodyOf Try.f22) [1, 1, 1, 0, 1, 0, 0, 1, 1, 0, 0, 1, 1, 1, 0, 1, 0, 0, 0, 0]) (fun ex fr' m' => ∃ z', Zx e.next z0 z' ∧ St z' e m' k ∧ ex = AExit.normal ∧ fr' 41 = (vB r) ∧ True) fr m := by
 unfold l07_cheapest_3 at hr
 refine W.region ?_
 refine sx rfl (pMove (v := (vI x13)) rfl h13) ?_
 refine sx rfl (pMove (v := v11) rfl h11) ?_
 refine sx rfl (pLenR (xs := x11) rfl Try.underlying22 rfl s11) ?_
 refine sx rfl (pLss (k := .i64) (a := x13) (b := (x11.length : Int)) rfl rfl rfl) ?_
 refine sx rfl (pMove (v := (vB (decide (x13 < (x11.length : Int))))) rfl rfl) ?_
 rcases if_some hr with ⟨hc35, hr⟩ | ⟨hc38, hr⟩
 ·refine SeqW.consG rfl rfl rfl hc35 (StepX.pure (pMove (v := (vI x12)) rfl h12) ?_)
  refine SeqW.consG rfl rfl rfl hc35 (StepX.pure (pGeq (k := .i64) (a := x12) (b := 0) rfl rfl rfl) ?_)
  refine sx rfl (pPick (t := true) (v := (vB (decide (0 ≤ x12)))) rfl ((congrArg vB hc35)) rfl) ?_
  refine SeqW.done fun fr36 hf37 => ?_
  have h11 := (congrFun hf37 11).trans h11
  have h12 := (congrFun hf37 12).trans h12
  have h13 := (congrFun hf37 13).trans h13
  have h41 : fr36 41 = (vB (decide (0 ≤ x12))) := (congrFun hf37 41).trans rfl
  clear hf37
  obtain rfl := Option.some.inj hr
  exact ⟨z, hz, st, rfl, h41, trivial⟩
 ·refine kx rfl rfl rfl hc38 ?_
  refine kx rfl rfl rfl hc38 ?_
  refine sx rfl (pPick (t := false) (v := (vB false)) rfl ((congrArg vB hc38)) rfl) ?_
  refine SeqW.done fun fr39 hf40 => ?_
  have h11 := (congrFun hf40 11).trans h11
  have h12 := (congrFun hf40 12).trans h12
  have h13 := (congrFun hf40 13).trans h13
  have h41 : fr39 41 = (vB false) := (congrFun hf40 41).trans rfl
  clear hf40
  obtain rfl := Option.some.inj hr
  exact ⟨z, hz, st, rfl, h41, trivial⟩

theorem u_l07_cheapest_4 {N : Nat}  {rc : (List Int) → (List (List Int)) → Int → Int → Option (Int)} {z0 z : Nat → Blk} {e m : Mem} {k : Option Nat} {fr : Nat → Value} {x0 : List Int} {x2 : Int} {x3 : Int} {x11 : List Int} {x12 : Int} {x13 : Int} {v0 : Value} {v11 : Value} (hrec : ∀ {z : Nat → Blk} {m : Mem} {x0 : List Int} {x1 : List (List Int)} {x2 : Int} {x3 : Int} {v0 : Value} {v1 : Value}, Fz z m → (∀ b, m.next ≤ b → m.blk b = .dead) → SlR (TInt 3 .i64) z x0 v0 → SlR (TSl 22 (TInt 3 .i64)) z x1 v1 → ∀ {r : Int}, rc x0 x1 x2 x3 = some r → CallW Try.prog 22 #[v0, v1, (vI x2), (vI x3)] m fun v m' => v = (vI r) ∧ m' = m) (hz : Zx e.next z0 z) (st : St z e m k) (h0 : fr 0 = v0) (s0 : SlR (TInt 3 .i64) z x0 v0) (h2 : fr 2 = (vI x2)) (h3 : fr 3 = (vI x3)) (h11 : fr 11 = v11) (s11 : SlR (TInt 3 .i64) z x11 v11) (h12 : fr 12 = (vI x12)) (h13 : fr 13 = (vI x13)) {r : Int} (hr : l07_cheapest_4 N rc x0 x2 x3 x11 x12 x13 = some r) : W Try.prog (sub (bodyOf Try.f22) [1, 1, 1, 0, 1, 0, 0, 1, 1, 0, 0, 1, 1, 1, 0, 1, 0, 0, 1, 0]) (fun ex fr' m' => ∃ z', Zx e.next z0 z' ∧ St z' e m' k ∧ ex = AExit.normal ∧ fr' 12 = (vI r) ∧ True) fr m := by
 unfold l07_cheapest_4 at hr
 refine W.block ?_
 refine W.seq ?_
 refine W.calm (by decide) ?_
 refine sx rfl (pMove (v := v0) rfl h0) ?_
 refine sx rfl (pMove (v := (vI x3)) rfl h3) ?_
 refine sx rfl (pMove (v := (vI x13)) rfl h13) ?_
 refine sx rfl (pAdd (k := .i64) (a := x3) (b := x13) rfl rfl rfl) ?_
 obtain ⟨y49, hy49, hr⟩ := bind_some hr
 refine SeqW.consX rfl (kIdxR (T := (TInt 3 .i64)) (xs := x0) (n := (IntKind.wrap .i64 (x3 + x13))) rfl Try.underlying22 Try.type3 rfl rfl rfl s0 hy49 ?_)
 intro B50 f51 cs52 hd53 hc54
 obtain rfl := hd53
 refine SeqW.consX rfl (kLoad (v := (vI y49)) rfl Try.underlying3 rfl rfl (ldz_load st.fz (hc54 0 _ rfl)) ?_)
 refine sx rfl (pMove (v := v11) rfl h11) ?_
 refine sx rfl (pMove (v := (vI x13)) rfl h13) ?_
 obtain ⟨y55, hy55, hr⟩ := bind_some hr
 refine SeqW.consX rfl (kIdxR (T := (TInt 3 .i64)) (xs := x11) (n := x13) rfl Try.underlying22 Try.type3 rfl rfl rfl s11 hy55 ?_)
 intro B56 f57 cs58 hd59 hc60
 obtain rfl := hd59
 refine SeqW.consX rfl (kLoad (v := (vI y55)) rfl Try.underlying3 rfl rfl (ldz_load st.fz (hc60 0 _ rfl)) ?_)
 refine sx rfl (pSub (k := .i64) (a := y49) (b := y55) rfl rfl rfl) ?_
 refine sx rfl (pMove (v := v11) rfl h11) ?_
 refine sx rfl (pMove (v := (vI x13)) rfl h13) ?_
 obtain ⟨y61, hy61, hr⟩ := bind_some hr
 refine SeqW.consX rfl (kIdxR (T := (TInt 3 .i64)) (xs := x11) (n := x13) rfl Try.underlying22 Try.type3 rfl rfl rfl s11 hy61 ?_)
 intro B62 f63 cs64 hd65 hc66
 obtain rfl := hd65
 refine SeqW.consX rfl (kLoad (v := (vI y61)) rfl Try.underlying3 rfl rfl (ldz_load st.fz (hc66 0 _ rfl)) ?_)
 refine sx rfl (pMove (v := v0) rfl h0) ?_
 refine sx rfl (pMove (v := (vI x3)) rfl h3) ?_
 refine sx rfl (pMove (v := (vI x13)) rfl h13) ?_
 refine sx rfl (pAdd (k := .i64) (a := x3) (b := x13) rfl rfl rfl) ?_
 obtain ⟨y67, hy67, hr⟩ := bind_some hr
 refine SeqW.consX rfl (kIdxR (T := (TInt 3 .i64)) (xs := x0) (n := (IntKind.wrap .i64 (x3 + x13))) rfl Try.underlying22 Try.type3 rfl rfl rfl s0 hy67 ?_)
 intro B68 f69 cs70 hd71 hc72
 obtain rfl := hd71
 refine SeqW.consX rfl (kLoad (v := (vI y67)) rfl Try.underlying3 rfl rfl (ldz_load st.fz (hc72 0 _ rfl)) ?_)
 refine sx rfl (pSub (k := .i64) (a := y61) (b := y67) rfl rfl rfl) ?_
 refine sx rfl (pMax2 (k := .i64) (a := (IntKind.wrap .i64 (y49 - y55))) (b := (IntKind.wrap .i64 (y61 - y67))) rfl rfl rfl) ?_
 obtain ⟨y73, hy73, hr⟩ := lt_some hr
 refine sx rfl (pAssign rfl (congrArg (Value.int .i64) hy73)) ?_
 refine SeqW.done fun fr74 hf75 => ?_
 have h0 := (congrFun hf75 0).trans h0
 have h2 := (congrFun hf75 2).trans h2
 have h3 := (congrFun hf75 3).trans h3
 have h11 := (congrFun hf75 11).trans h11
 have h12 := (congrFun hf75 12).trans h12
 have h13 := (congrFun hf75 13).trans h13
 have h14 : fr74 14 = (vI y73) := (congrFun hf75 14).trans rfl
 clear hf75
 refine thenQ.n (W.seq (W.region ?_))
 refine sx rfl (pMove (v := (vI x12)) rfl h12) ?_
 refine sx rfl (pMove (v := (vI y73)) rfl h14) ?_
 refine sx rfl (pAdd (k := .i64) (a := x12) (b := y73) rfl rfl rfl) ?_
 obtain ⟨y76, hy76, hr⟩ := lt_some hr
 refine sx rfl (pAssign rfl (congrArg (Value.int .i64) hy76)) ?_
 refine SeqW.done fun fr77 hf78 => ?_
 have h0 := (congrFun hf78 0).trans h0
 have h2 := (congrFun hf78 2).trans h2
 have h3 := (congrFun hf78 3).trans h3
 have h11 := (congrFun hf78 11).trans h11
 have h12 : fr77 12 = (vI y76) := (congrFun hf78 12).trans rfl
 have h13 := (congrFun hf78 13).trans h13
 have h14 := (congrFun hf78 14).trans h14
 clear hf78
 refine thenQ.n (W.seq (W.region ?_))
 refine sx rfl (pMove (v := (vI y73)) rfl h14) ?_
 refine sx rfl (pMove (v := (vI x2)) rfl h2) ?_
 refine sx rfl (pGtr (k := .i64) (a := y73) (b := x2) rfl rfl rfl) ?_
 refine SeqW.done fun fr79 hf80 => ?_
 have h0 := (congrFun hf80 0).trans h0
 have h2 := (congrFun hf80 2).trans h2
 have h3 := (congrFun hf80 3).trans h3
 have h11 := (congrFun hf80 11).trans h11
 have h12 := (congrFun hf80 12).trans h12
 have h13 := (congrFun hf80 13).trans h13
 have h72 : fr79 72 = (vB (decide (x2 < y73))) := (congrFun hf80 72).trans rfl
 clear hf80
 refine thenQ.n ?_
 rcases if_some hr with ⟨hc81, hr⟩ | ⟨hc84, hr⟩
 ·refine W.condT h72 hc81 (W.region ?_)
  refine sx rfl (pAssign (v := (vI (-1))) rfl rfl) ?_
  refine SeqW.done fun fr82 hf83 => ?_
  have h0 := (congrFun hf83 0).trans h0
  have h2 := (congrFun hf83 2).trans h2
  have h3 := (congrFun hf83 3).trans h3
  have h11 := (congrFun hf83 11).trans h11
  have h12 : fr82 12 = (vI (-1)) := (congrFun hf83 12).trans rfl
  have h13 := (congrFun hf83 13).trans h13
  clear hf83
  refine blockQ.n ?_
  obtain rfl := Option.some.inj hr
  exact ⟨z, hz, st, rfl, h12, trivial⟩
 ·refine W.condF h72 hc84 (W.skip ?_)
  refine blockQ.n ?_
  obtain rfl := Option.some.inj hr
  exact ⟨z, hz, st, rfl, h12, trivial⟩

theorem u_l07_cheapest_2 : ∀ (n : Nat) {N : Nat}  {rc : (List Int) → (List (List Int)) → Int → Int → Option (Int)} {z0 z : Nat → Blk} {e m : Mem} {k : Option Nat} {fr : Nat → Value} {x0 : List Int} {x2 : Int} {x3 : Int} {x11 : List Int} {x12 : Int} {x13 : Int} {v0 : Value} {v11 : Value} (hrec : ∀ {z : Nat → Blk} {m : Mem} {x0 : List Int} {x1 : List (List Int)} {x2 : Int} {x3 : Int} {v0 : Value} {v1 : Value}, Fz z m → (∀ b, m.next ≤ b → m.blk b = .dead) → SlR (TInt 3 .i64) z x0 v0 → SlR (TSl 22 (TInt 3 .i64)) z x1 v1 → ∀ {r : Int}, rc x0 x1 x2 x3 = some r → CallW Try.prog 22 #[v0, v1, (vI x2), (vI x3)] m fun v m' => v = (vI r) ∧ m' = m) (hz : Zx e.next z0 z) (st : St z e m k) (h0 : fr 0 = v0) (s0 : SlR (TInt 3 .i64) z x0 v0) (h2 : fr 2 = (vI x2)) (h3 : fr 3 = (vI x3)) (h11 : fr 11 = v11) (s11 : SlR (TInt 3 .i64) z x11 v11) (h12 : fr 12 = (vI x12)) (h13 : fr 13 = (vI x13)) {r : Int} (hr : l07_cheapest_2 N rc x0 x2 x3 x11 n x12 x13 = some r), W Try.prog (sub (bodyOf Try.f22) [1, 1, 1, 0, 1, 0, 0, 1, 1, 0, 0, 1, 1, 1, 0, 1, 0]) (fun ex fr' m' => ∃ z', Zx e.next z0 z' ∧ St z' e m' k ∧ ex = AExit.exit 2 ∧ fr' 12 = (vI r) ∧ True) fr m := by
 intro n
 induction n with
 | zero => intro N rc z0 z e m k fr x0 x2 x3 x11 x12 x13 v0 v11 hrec hz st h0 s0 h2 h3 h11 s11 h12 h13 r hr; cases (show (none : Option _) = some r from hr)
 | succ n ih =>
  intro N rc z0 z e m k fr x0 x2 x3 x11 x12 x13 v0 v11 hrec hz st h0 s0 h2 h3 h11 s11 h12 h13 r hr
  unfold l07_cheapest_2 at hr
  refine W.loop1 ?_
  refine W.seq (W.seq ?_)
  obtain ⟨y41, hy41, hr⟩ := bind_some hr
  refine W.keep (u_l07_cheapest_3 hrec (Zx.refl _) st h11 s11 h12 h13 hy41) ?_
  rintro ex47 fr42 m43 hk45 ⟨z44, hz46, st, rfl, h41, -⟩
  replace s0 := s0.mono hz46.le
  replace s11 := s11.mono hz46.le
  have h0 := (hk45 0 rfl).trans h0
  have h2 := (hk45 2 rfl).trans h2
  have h3 := (hk45 3 rfl).trans h3
  have h11 := (hk45 11 rfl).trans h11
  have h12 := (hk45 12 rfl).trans h12
  have h13 := (hk45 13 rfl).trans h13
  replace hz := hz.trans hz46
  clear hk45
  refine thenQ.n ?_
  rcases if_some hr with ⟨hc48, hr⟩ | ⟨hc95, hr⟩
  ·refine W.condT h41 hc48 (W.skip ?_)
   refine thenQ.n (W.seq ?_)
   obtain ⟨y85, hy85, hr⟩ := bind_some hr
   refine W.keep (u_l07_cheapest_4 hrec (Zx.refl _) st h0 s0 h2 h3 h11 s11 h12 h13 hy85) ?_
   rintro ex91 fr86 m87 hk89 ⟨z88, hz90, st, rfl, h12, -⟩
   replace s0 := s0.mono hz90.le
   replace s11 := s11.mono hz90.le
   have h0 := (hk89 0 rfl).trans h0
   have h2 := (hk89 2 rfl).trans h2
   have h3 := (hk89 3 rfl).trans h3
   have h11 := (hk89 11 rfl).trans h11
   have h13 := (hk89 13 rfl).trans h13
   replace hz := hz.trans hz90
   clear hk89
   refine thenQ.n (W.region ?_)
   refine sx rfl (pMove (v := (vI x13)) rfl h13) ?_
   refine sx rfl (pAdd (k := .i64) (a := x13) (b := 1) rfl rfl rfl) ?_
   obtain ⟨y92, hy92, hr⟩ := lt_some hr
   refine sx rfl (pAssign rfl (congrArg (Value.int .i64) hy92)) ?_
   refine SeqW.done fun fr93 hf94 => ?_
   have h0 := (congrFun hf94 0).trans h0
   have h2 := (congrFun hf94 2).trans h2
   have h3 := (congrFun hf94 3).trans h3
   have h11 := (congrFun hf94 11).trans h11
   have h12 := (congrFun hf94 12).trans h12
   have h13 : fr93 13 = (vI y92) := (congrFun hf94 13).trans rfl
   clear hf94
   refine thenQ.n ?_
   exact ih hrec hz st h0 s0 h2 h3 h11 s11 h12 h13 hr
  ·refine W.condF h41 hc95 ?_
   refine W.exit ?_
   refine thenQ.x ?_
   refine thenQ.x ?_
   obtain rfl := Option.some.inj hr
   exact ⟨z44, hz, st, rfl, h12, trivial⟩

theorem u_l07_cheapest_5 {N : Nat}  {rc : (List Int) → (List (List Int)) → Int → Int → Option (Int)} {z0 z : Nat → Blk} {e m : Mem} {k : Option Nat} {fr : Nat → Value} {x9 : Int} {x12 : Int} {x15 : Int} (hrec : ∀ {z : Nat → Blk} {m : Mem} {x0 : List Int} {x1 : List (List Int)} {x2 : Int} {x3 : Int} {v0 : Value} {v1 : Value}, Fz z m → (∀ b, m.next ≤ b → m.blk b = .dead) → SlR (TInt 3 .i64) z x0 v0 → SlR (TSl 22 (TInt 3 .i64)) z x1 v1 → ∀ {r : Int}, rc x0 x1 x2 x3 = some r → CallW Try.prog 22 #[v0, v1, (vI x2), (vI x3)] m fun v m' => v = (vI r) ∧ m' = m) (hz : Zx e.next z0 z) (st : St z e m k) (h9 : fr 9 = (vI x9)) (h12 : fr 12 = (vI x12)) (h15 : fr 15 = (vI x15)) {r : Bool} (hr : l07_cheapest_5 N rc x9 x12 x15 = some r) : W Try.prog (sub (bodyOf Try.f22) [1, 1, 1, 0, 1, 0, 0, 1, 1, 0, 0, 1, 1, 1, 1, 1, 1, 0]) (fun ex fr' m' => ∃ z', Zx e.next z0 z' ∧ St z' e m' k ∧ ex = AExit.normal ∧ fr' 96 = (vB r) ∧ True) fr m := by
 unfold l07_cheapest_5 at hr
 refine W.region ?_
 refine sx rfl (pMove (v := (vI x15)) rfl h15) ?_
 refine sx rfl (pGeq (k := .i64) (a := x15) (b := 0) rfl rfl rfl) ?_
 refine sx rfl (pMove (v := (vB (decide (0 ≤ x15)))) rfl rfl) ?_
 rcases if_some hr with ⟨hc110, hr⟩ | ⟨hc117, hr⟩
 ·refine SeqW.consG rfl rfl rfl hc110 (StepX.pure (pMove (v := (vI x9)) rfl h9) ?_)
  refine SeqW.consG rfl rfl rfl hc110 (StepX.pure (pLss (k := .i64) (a := x9) (b := 0) rfl rfl rfl) ?_)
  refine SeqW.consG rfl rfl rfl hc110 (StepX.pure (pMove (v := (vB (decide (x9 < 0)))) rfl rfl) ?_)
  rcases if_some hr with ⟨hc111, hr⟩ | ⟨hc114, hr⟩
  ·refine kx rfl rfl rfl hc111 ?_
   iterate 4 refine kx rfl rfl rfl hc111 ?_
   refine SeqW.consG rfl rfl rfl hc110 (StepX.pure (pPick (t := true) (v := (vB true)) rfl ((congrArg vB hc111)) rfl) ?_)
   refine sx rfl (pPick (t := true) (v := (vB true)) rfl ((congrArg vB hc110)) rfl) ?_
   refine SeqW.done fun fr112 hf113 => ?_
   have h9 := (congrFun hf113 9).trans h9
   have h12 := (congrFun hf113 12).trans h12
   have h15 := (congrFun hf113 15).trans h15
   have h96 : fr112 96 = (vB true) := (congrFun hf113 96).trans rfl
   clear hf113
   obtain rfl := Option.some.inj hr
   exact ⟨z, hz, st, rfl, h96, trivial⟩
  ·refine SeqW.consG rfl rfl rfl hc114 (StepX.pure (pMove (v := (vI x12)) rfl h12) ?_)
   refine SeqW.consG rfl rfl rfl hc114 (StepX.pure (pMove (v := (vI x15)) rfl h15) ?_)
   refine SeqW.consG rfl rfl rfl hc114 (StepX.pure (pAdd (k := .i64) (a := x12) (b := x15) rfl rfl rfl) ?_)
   refine SeqW.consG rfl rfl rfl hc114 (StepX.pure (pMove (v := (vI x9)) rfl h9) ?_)
   refine SeqW.consG rfl rfl rfl hc114 (StepX.pure (pLss (k := .i64) (a := (IntKind.wrap .i64 (x12 + x15))) (b := x9) rfl rfl rfl) ?_)
   refine SeqW.consG rfl rfl rfl hc110 (StepX.pure (pPick (t := false) (v := (vB (decide ((IntKind.wrap .i64 (x12 + x15)) < x9)))) rfl ((congrArg vB hc114)) rfl) ?_)
   refine sx rfl (pPick (t := true) (v := (vB (decide ((IntKind.wrap .i64 (x12 + x15)) < x9)))) rfl ((congrArg vB hc110)) rfl) ?_
   refine SeqW.done fun fr115 hf116 => ?_
   have h9 := (congrFun hf116 9).trans h9
   have h12 := (congrFun hf116 12).trans h12
   have h15 := (congrFun hf116 15).trans h15
   have h96 : fr115 96 = (vB (decide ((IntKind.wrap .i64 (x12 + x15)) < x9))) := (congrFun hf116 96).trans rfl
   clear hf116
   obtain rfl := Option.some.inj hr
   exact ⟨z, hz, st, rfl, h96, trivial⟩
 ·refine kx rfl rfl rfl hc117 ?_
  iterate 2 refine kx rfl rfl rfl hc117 ?_
  refine SeqW.skipU rfl rfl rfl ?_
  refine SeqW.skipU rfl rfl rfl ?_
  refine SeqW.skipU rfl rfl rfl ?_
  refine SeqW.skipU rfl rfl rfl ?_
  refine SeqW.skipU rfl rfl rfl ?_
  refine kx rfl rfl rfl hc117 ?_
  refine sx rfl (pPick (t := false) (v := (vB false)) rfl ((congrArg vB hc117)) rfl) ?_
  refine SeqW.done fun fr118 hf119 => ?_
  have h9 := (congrFun hf119 9).trans h9
  have h12 := (congrFun hf119 12).trans h12
  have h15 := (congrFun hf119 15).trans h15
  have h96 : fr118 96 = (vB false) := (congrFun hf119 96).trans rfl
  clear hf119
  obtain rfl := Option.some.inj hr
  exact ⟨z, hz, st, rfl, h96, trivial⟩

theorem u_l07_cheapest_1 {N : Nat}  {rc : (List Int) → (List (List Int)) → Int → Int → Option (Int)} {z0 z : Nat → Blk} {e m : Mem} {k : Option Nat} {fr : Nat → Value} {x0 : List Int} {x1 : List (List Int)} {x2 : Int} {x3 : Int} {x9 : Int} {x21 : List (List Int)} {x23 : Int} {v0 : Value} {v1 : Value} {v21 : Value} (hrec : ∀ {z : Nat → Blk} {m : Mem} {x0 : List Int} {x1 : List (List Int)} {x2 : Int} {x3 : Int} {v0 : Value} {v1 : Value}, Fz z m → (∀ b, m.next ≤ b → m.blk b = .dead) → SlR (TInt 3 .i64) z x0 v0 → SlR (TSl 22 (TInt 3 .i64)) z x1 v1 → ∀ {r : Int}, rc x0 x1 x2 x3 = some r → CallW Try.prog 22 #[v0, v1, (vI x2), (vI x3)] m fun v m' => v = (vI r) ∧ m' = m) (hz : Zx e.next z0 z) (st : St z e m k) (h0 : fr 0 = v0) (s0 : SlR (TInt 3 .i64) z x0 v0) (h1 : fr 1 = v1) (s1 : SlR (TSl 22 (TInt 3 .i64)) z x1 v1) (h2 : fr 2 = (vI x2)) (h3 : fr 3 = (vI x3)) (h9 : fr 9 = (vI x9)) (h21 : fr 21 = v21) (s21 : SlR (TSl 22 (TInt 3 .i64)) z x21 v21) (h23 : fr 23 = (vI x23)) {r : Int} (hr : l07_cheapest_1 N rc x0 x1 x2 x3 x9 x21 x23 = some r) : W Try.prog (sub (bodyOf Try.f22) [1, 1, 1, 0, 1, 0, 0, 1, 1, 0]) (fun ex fr' m' => ∃ z', Zx e.next z0 z' ∧ St z' e m' k ∧ ex = AExit.normal ∧ fr' 9 = (vI r) ∧ True) fr m := by
 unfold l07_cheapest_1 at hr
 refine W.block ?_
 refine W.seq (W.region ?_)
 obtain ⟨y16, hy16, hr⟩ := bind_some hr
 refine SeqW.consX rfl (kIdxR (T := (TSl 22 (TInt 3 .i64))) (xs := x21) (n := x23) rfl Try.underlying23 Try.type22 rfl h21 h23 s21 hy16 ?_)
 intro B17 f18 cs19 hd20 hc21
 obtain ⟨V22, rfl, Q23⟩ := hd20
 refine SeqW.consX rfl (kLoad (v := V22) rfl Try.underlying22 rfl rfl (ldz_load st.fz (hc21 0 _ rfl)) ?_)
 refine sx rfl (pAssign (v := V22) rfl rfl) ?_
 refine SeqW.done fun fr25 hf26 => ?_
 have h0 := (congrFun hf26 0).trans h0
 have h1 := (congrFun hf26 1).trans h1
 have h2 := (congrFun hf26 2).trans h2
 have h3 := (congrFun hf26 3).trans h3
 have h9 := (congrFun hf26 9).trans h9
 have h11 : fr25 11 = V22 := (congrFun hf26 11).trans rfl
 have h21 := (congrFun hf26 21).trans h21
 have h23 := (congrFun hf26 23).trans h23
 clear hf26
 refine thenQ.n (W.seq ?_)
 refine W.seq (W.region ?_)
 refine sx rfl (pMove (v := (vI x3)) rfl h3) ?_
 refine sx rfl (pMove (v := V22) rfl h11) ?_
 refine sx rfl (pLenR (xs := y16) rfl Try.underlying22 rfl Q23) ?_
 refine sx rfl (pAdd (k := .i64) (a := x3) (b := (y16.length : Int)) rfl rfl rfl) ?_
 refine sx rfl (pMove (v := v0) rfl h0) ?_
 refine sx rfl (pLenR (xs := x0) rfl Try.underlying22 rfl s0) ?_
 refine sx rfl (pGtr (k := .i64) (a := (IntKind.wrap .i64 (x3 + (y16.length : Int)))) (b := (x0.length : Int)) rfl rfl rfl) ?_
 refine SeqW.done fun fr27 hf28 => ?_
 have h0 := (congrFun hf28 0).trans h0
 have h1 := (congrFun hf28 1).trans h1
 have h2 := (congrFun hf28 2).trans h2
 have h3 := (congrFun hf28 3).trans h3
 have h9 := (congrFun hf28 9).trans h9
 have h11 := (congrFun hf28 11).trans h11
 have h21 := (congrFun hf28 21).trans h21
 have h23 := (congrFun hf28 23).trans h23
 have h33 : fr27 33 = (vB (decide ((x0.length : Int) < (IntKind.wrap .i64 (x3 + (y16.length : Int)))))) := (congrFun hf28 33).trans rfl
 clear hf28
 refine thenQ.n ?_
 rcases if_some hr with ⟨hc29, hr⟩ | ⟨hc30, hr⟩
 ·refine W.condT h33 hc29 ?_
  refine W.exit ?_
  refine thenQ.x ?_
  refine blockQ.hit ?_
  obtain rfl := Option.some.inj hr
  exact ⟨z, hz, st, rfl, h9, trivial⟩
 ·refine W.condF h33 hc30 (W.skip ?_)
  refine thenQ.n (W.seq (W.region ?_))
  refine sx rfl (pAssign (v := (vI 0)) rfl rfl) ?_
  refine SeqW.done fun fr31 hf32 => ?_
  have h0 := (congrFun hf32 0).trans h0
  have h1 := (congrFun hf32 1).trans h1
  have h2 := (congrFun hf32 2).trans h2
  have h3 := (congrFun hf32 3).trans h3
  have h9 := (congrFun hf32 9).trans h9
  have h11 := (congrFun hf32 11).trans h11
  have h12 : fr31 12 = (vI 0) := (congrFun hf32 12).trans rfl
  have h21 := (congrFun hf32 21).trans h21
  have h23 := (congrFun hf32 23).trans h23
  clear hf32
  refine thenQ.n (W.seq ?_)
  refine W.seq (W.region ?_)
  refine sx rfl (pAssign (v := (vI 0)) rfl rfl) ?_
  refine SeqW.done fun fr33 hf34 => ?_
  have h0 := (congrFun hf34 0).trans h0
  have h1 := (congrFun hf34 1).trans h1
  have h2 := (congrFun hf34 2).trans h2
  have h3 := (congrFun hf34 3).trans h3
  have h9 := (congrFun hf34 9).trans h9
  have h11 := (congrFun hf34 11).trans h11
  have h12 := (congrFun hf34 12).trans h12
  have h13 : fr33 13 = (vI 0) := (congrFun hf34 13).trans rfl
  have h21 := (congrFun hf34 21).trans h21
  have h23 := (congrFun hf34 23).trans h23
  clear hf34
  refine thenQ.n ?_
  refine W.block ?_
  obtain ⟨y96, hy96, hr⟩ := bind_some hr
  refine W.keep (u_l07_cheapest_2 _ hrec (Zx.refl _) st h0 s0 h2 h3 h11 Q23 h12 h13 hy96) ?_
  rintro ex102 fr97 m98 hk100 ⟨z99, hz101, st, rfl, h12, -⟩
  replace s0 := s0.mono hz101.le
  replace s1 := s1.mono hz101.le
  replace s21 := s21.mono hz101.le
  replace Q23 := Q23.mono hz101.le
  have h0 := (hk100 0 rfl).trans h0
  have h1 := (hk100 1 rfl).trans h1
  have h2 := (hk100 2 rfl).trans h2
  have h3 := (hk100 3 rfl).trans h3
  have h9 := (hk100 9 rfl).trans h9
  have h11 := (hk100 11 rfl).trans h11
  have h21 := (hk100 21 rfl).trans h21
  have h23 := (hk100 23 rfl).trans h23
  replace hz := hz.trans hz101
  clear hk100
  refine blockQ.hit ?_
  refine thenQ.n (W.seq ?_)
  refine W.seq (W.region ?_)
  refine sx rfl (pMove (v := (vI y96)) rfl h12) ?_
  refine sx rfl (pLss (k := .i64) (a := y96) (b := 0) rfl rfl rfl) ?_
  refine SeqW.done fun fr103 hf104 => ?_
  have h0 := (congrFun hf104 0).trans h0
  have h1 := (congrFun hf104 1).trans h1
  have h2 := (congrFun hf104 2).trans h2
  have h3 := (congrFun hf104 3).trans h3
  have h9 := (congrFun hf104 9).trans h9
  have h11 := (congrFun hf104 11).trans h11
  have h12 := (congrFun hf104 12).trans h12
  have h21 := (congrFun hf104 21).trans h21
  have h23 := (congrFun hf104 23).trans h23
  have h74 : fr103 74 = (vB (decide (y96 < 0))) := (congrFun hf104 74).trans rfl
  clear hf104
  refine thenQ.n ?_
  rcases if_some hr with ⟨hc105, hr⟩ | ⟨hc106, hr⟩
  ·refine W.condT h74 hc105 ?_
   refine W.exit ?_
   refine thenQ.x ?_
   refine blockQ.hit ?_
   obtain rfl := Option.some.inj hr
   exact ⟨z99, hz, st, rfl, h9, trivial⟩
  ·refine W.condF h74 hc106 (W.skip ?_)
   refine thenQ.n (W.seq (W.region ?_))
   refine sx rfl (pMove (v := v0) rfl h0) ?_
   refine sx rfl (pMove (v := v1) rfl h1) ?_
   refine sx rfl (pMove (v := (vI x2)) rfl h2) ?_
   refine sx rfl (pMove (v := (vI x3)) rfl h3) ?_
   refine sx rfl (pMove (v := V22) rfl h11) ?_
   refine sx rfl (pLenR (xs := y16) rfl Try.underlying22 rfl Q23) ?_
   refine sx rfl (pAdd (k := .i64) (a := x3) (b := (y16.length : Int)) rfl rfl rfl) ?_
   refine sx rfl (pAdd (k := .i64) (a := (IntKind.wrap .i64 (x3 + (y16.length : Int)))) (b := 1) rfl rfl rfl) ?_
   obtain ⟨y107, hy107, hr⟩ := bind_some hr
   refine SeqW.consX rfl (StepX.call (gCallee rfl rfl (args4 rfl rfl rfl rfl)) ((hrec (z := z99) st.fz st.dead s0 s1 hy107).mono ?_))
   rintro _ _ ⟨rfl, rfl⟩
   refine sx rfl (pAssign (v := (vI y107)) rfl rfl) ?_
   refine SeqW.done fun fr108 hf109 => ?_
   have h0 := (congrFun hf109 0).trans h0
   have h1 := (congrFun hf109 1).trans h1
   have h2 := (congrFun hf109 2).trans h2
   have h3 := (congrFun hf109 3).trans h3
   have h9 := (congrFun hf109 9).trans h9
   have h12 := (congrFun hf109 12).trans h12
   have h15 : fr108 15 = (vI y107) := (congrFun hf109 15).trans rfl
   have h21 := (congrFun hf109 21).trans h21
   have h23 := (congrFun hf109 23).trans h23
   clear hf109
   refine thenQ.n (W.seq ?_)
   obtain ⟨y120, hy120, hr⟩ := bind_some hr
   refine W.keep (u_l07_cheapest_5 hrec (Zx.refl _) st h9 h12 h15 hy120) ?_
   rintro ex126 fr121 m122 hk124 ⟨z123, hz125, st, rfl, h96, -⟩
   replace s0 := s0.mono hz125.le
   replace s1 := s1.mono hz125.le
   replace s21 := s21.mono hz125.le
   have h0 := (hk124 0 rfl).trans h0
   have h1 := (hk124 1 rfl).trans h1
   have h2 := (hk124 2 rfl).trans h2
   have h3 := (hk124 3 rfl).trans h3
   have h9 := (hk124 9 rfl).trans h9
   have h12 := (hk124 12 rfl).trans h12
   have h15 := (hk124 15 rfl).trans h15
   have h21 := (hk124 21 rfl).trans h21
   have h23 := (hk124 23 rfl).trans h23
   replace hz := hz.trans hz125
   clear hk124
   refine thenQ.n ?_
   rcases if_some hr with ⟨hc127, hr⟩ | ⟨hc131, hr⟩
   ·refine W.condT h96 hc127 (W.region ?_)
    refine sx rfl (pMove (v := (vI y96)) rfl h12) ?_
    refine sx rfl (pMove (v := (vI y107)) rfl h15) ?_
    refine sx rfl (pAdd (k := .i64) (a := y96) (b := y107) rfl rfl rfl) ?_
    obtain ⟨y128, hy128, hr⟩ := lt_some hr
    refine sx rfl (pAssign rfl (congrArg (Value.int .i64) hy128)) ?_
    refine SeqW.done fun fr129 hf130 => ?_
    have h0 := (congrFun hf130 0).trans h0
    have h1 := (congrFun hf130 1).trans h1
    have h2 := (congrFun hf130 2).trans h2
    have h3 := (congrFun hf130 3).trans h3
    have h9 : fr129 9 = (vI y128) := (congrFun hf130 9).trans rfl
    have h21 := (congrFun hf130 21).trans h21
    have h23 := (congrFun hf130 23).trans h23
    clear hf130
    refine blockQ.n ?_
    obtain rfl := Option.some.inj hr
    exact ⟨z123, hz, st, rfl, h9, trivial⟩
   ·refine W.condF h96 hc131 (W.skip ?_)
    refine blockQ.n ?_
    obtain rfl := Option.some.inj hr
    exact ⟨z123, hz, st, rfl, h9, trivial⟩

theorem u_l07_cheapest_0 : ∀ (n : Nat) {N : Nat}  {rc : (List Int) → (List (List Int)) → Int → Int → Option (Int)} {z0 z : Nat → Blk} {e m : Mem} {k : Option Nat} {fr : Nat → Value} {x0 : List Int} {x1 : List (List Int)} {x2 : Int} {x3 : Int} {x9 : Int} {x21 : List (List Int)} {x22 : Int} {x23 : Int} {v0 : Value} {v1 : Value} {v21 : Value} (hrec : ∀ {z : Nat → Blk} {m : Mem} {x0 : List Int} {x1 : List (List Int)} {x2 : Int} {x3 : Int} {v0 : Value} {v1 : Value}, Fz z m → (∀ b, m.next ≤ b → m.blk b = .dead) → SlR (TInt 3 .i64) z x0 v0 → SlR (TSl 22 (TInt 3 .i64)) z x1 v1 → ∀ {r : Int}, rc x0 x1 x2 x3 = some r → CallW Try.prog 22 #[v0, v1, (vI x2), (vI x3)] m fun v m' => v = (vI r) ∧ m' = m) (hz : Zx e.next z0 z) (st : St z e m k) (h0 : fr 0 = v0) (s0 : SlR (TInt 3 .i64) z x0 v0) (h1 : fr 1 = v1) (s1 : SlR (TSl 22 (TInt 3 .i64)) z x1 v1) (h2 : fr 2 = (vI x2)) (h3 : fr 3 = (vI x3)) (h9 : fr 9 = (vI x9)) (h21 : fr 21 = v21) (s21 : SlR (TSl 22 (TInt 3 .i64)) z x21 v21) (h22 : fr 22 = (vI x22)) (h23 : fr 23 = (vI x23)) {r : Int} (hr : l07_cheapest_0 N rc x0 x1 x2 x3 x21 x22 n x9 x23 = some r), W Try.prog (sub (bodyOf Try.f22) [1, 1, 1, 0, 1, 0]) (fun ex fr' m' => ∃ z', Zx e.next z0 z' ∧ St z' e m' k ∧ ex = AExit.exit 0 ∧ fr' 9 = (vI r) ∧ True) fr m := by
 intro n
 induction n with
 | zero => intro N rc z0 z e m k fr x0 x1 x2 x3 x9 x21 x22 x23 v0 v1 v21 hrec hz st h0 s0 h1 s1 h2 h3 h9 h21 s21 h22 h23 r hr; cases (show (none : Option _) = some r from hr)
 | succ n ih =>
  intro N rc z0 z e m k fr x0 x1 x2 x3 x9 x21 x22 x23 v0 v1 v21 hrec hz st h0 s0 h1 s1 h2 h3 h9 h21 s21 h22 h23 r hr
  unfold l07_cheapest_0 at hr
  refine W.loop1 ?_
  refine W.seq (W.region ?_)
  refine sx rfl (pLss (k := .i64) (a := x23) (b := x22) rfl h23 h22) ?_
  refine SeqW.done fun fr13 hf14 => ?_
  have h0 := (congrFun hf14 0).trans h0
  have h1 := (congrFun hf14 1).trans h1
  have h2 := (congrFun hf14 2).trans h2
  have h3 := (congrFun hf14 3).trans h3
  have h9 := (congrFun hf14 9).trans h9
  have h21 := (congrFun hf14 21).trans h21
  have h22 := (congrFun hf14 22).trans h22
  have h23 := (congrFun hf14 23).trans h23
  have h24 : fr13 24 = (vB (decide (x23 < x22))) := (congrFun hf14 24).trans rfl
  clear hf14
  refine thenQ.n (W.seq ?_)
  rcases if_some hr with ⟨hc15, hr⟩ | ⟨hc141, hr⟩
  ·refine W.condT h24 hc15 (W.skip ?_)
   refine thenQ.n (W.seq ?_)
   obtain ⟨y132, hy132, hr⟩ := bind_some hr
   refine W.keep (u_l07_cheapest_1 hrec (Zx.refl _) st h0 s0 h1 s1 h2 h3 h9 h21 s21 h23 hy132) ?_
   rintro ex138 fr133 m134 hk136 ⟨z135, hz137, st, rfl, h9, -⟩
   replace s0 := s0.mono hz137.le
   replace s1 := s1.mono hz137.le
   replace s21 := s21.mono hz137.le
   have h0 := (hk136 0 rfl).trans h0
   have h1 := (hk136 1 rfl).trans h1
   have h2 := (hk136 2 rfl).trans h2
   have h3 := (hk136 3 rfl).trans h3
   have h21 := (hk136 21 rfl).trans h21
   have h22 := (hk136 22 rfl).trans h22
   have h23 := (hk136 23 rfl).trans h23
   replace hz := hz.trans hz137
   clear hk136
   refine thenQ.n (W.region ?_)
   refine sx rfl (pAdd (k := .i64) (a := x23) (b := 1) rfl h23 rfl) ?_
   refine sx rfl (pMove (v := (vI (IntKind.wrap .i64 (x23 + 1)))) rfl rfl) ?_
   refine SeqW.done fun fr139 hf140 => ?_
   have h0 := (congrFun hf140 0).trans h0
   have h1 := (congrFun hf140 1).trans h1
   have h2 := (congrFun hf140 2).trans h2
   have h3 := (congrFun hf140 3).trans h3
   have h9 := (congrFun hf140 9).trans h9
   have h21 := (congrFun hf140 21).trans h21
   have h22 := (congrFun hf140 22).trans h22
   have h23 : fr139 23 = (vI (IntKind.wrap .i64 (x23 + 1))) := (congrFun hf140 23).trans rfl
   clear hf140
   refine thenQ.n ?_
   exact ih hrec hz st h0 s0 h1 s1 h2 h3 h9 h21 s21 h22 h23 hr
  ·refine W.condF h24 hc141 ?_
   refine W.exit ?_
   refine thenQ.x ?_
   refine thenQ.x ?_
   obtain rfl := Option.some.inj hr
   exact ⟨z, hz, st, rfl, h9, trivial⟩

theorem u_l07_cheapestb {N : Nat}  {rc : (List Int) → (List (List Int)) → Int → Int → Option (Int)} {z0 z : Nat → Blk} {e m : Mem} {k : Option Nat} {fr : Nat → Value} {x0 : List Int} {x1 : List (List Int)} {x2 : Int} {x3 : Int} {v0 : Value} {v1 : Value} (hrec : ∀ {z : Nat → Blk} {m : Mem} {x0 : List Int} {x1 : List (List Int)} {x2 : Int} {x3 : Int} {v0 : Value} {v1 : Value}, Fz z m → (∀ b, m.next ≤ b → m.blk b = .dead) → SlR (TInt 3 .i64) z x0 v0 → SlR (TSl 22 (TInt 3 .i64)) z x1 v1 → ∀ {r : Int}, rc x0 x1 x2 x3 = some r → CallW Try.prog 22 #[v0, v1, (vI x2), (vI x3)] m fun v m' => v = (vI r) ∧ m' = m) (hz : Zx e.next z0 z) (st : St z e m k) (h0 : fr 0 = v0) (s0 : SlR (TInt 3 .i64) z x0 v0) (h1 : fr 1 = v1) (s1 : SlR (TSl 22 (TInt 3 .i64)) z x1 v1) (h2 : fr 2 = (vI x2)) (h3 : fr 3 = (vI x3)) {r : Int} (hr : l07_cheapestb N rc x0 x1 x2 x3 = some r) : W Try.prog (sub (bodyOf Try.f22) []) (fun ex fr' m' => ∃ z', Zx e.next z0 z' ∧ St z' e m' k ∧ (ex = .normal ∨ ex = .ret) ∧ fr' 8 = (vI r) ∧ True) fr m := by
 unfold l07_cheapestb at hr
 refine W.seq (W.region ?_)
 refine sx rfl (pAssign (v := (vI 0)) rfl rfl) ?_
 refine SeqW.done fun fr1 hf2 => ?_
 have h0 := (congrFun hf2 0).trans h0
 have h1 := (congrFun hf2 1).trans h1
 have h2 := (congrFun hf2 2).trans h2
 have h3 := (congrFun hf2 3).trans h3
 clear hf2
 refine thenQ.n (W.seq ?_)
 refine W.seq (W.region ?_)
 refine sx rfl (pMove (v := (vI x3)) rfl h3) ?_
 refine sx rfl (pMove (v := v0) rfl h0) ?_
 refine sx rfl (pLenR (xs := x0) rfl Try.underlying22 rfl s0) ?_
 refine sx rfl (pAdd (k := .i64) (a := (x0.length : Int)) (b := 1) rfl rfl rfl) ?_
 refine sx rfl (pEql (k := .i64) (a := x3) (b := (IntKind.wrap .i64 ((x0.length : Int) + 1))) rfl rfl rfl) ?_
 refine SeqW.done fun fr3 hf4 => ?_
 have h0 := (congrFun hf4 0).trans h0
 have h1 := (congrFun hf4 1).trans h1
 have h2 := (congrFun hf4 2).trans h2
 have h3 := (congrFun hf4 3).trans h3
 have h20 : fr3 20 = (vB (x3 == (IntKind.wrap .i64 ((x0.length : Int) + 1)))) := (congrFun hf4 20).trans rfl
 clear hf4
 refine thenQ.n ?_
 rcases if_some hr with ⟨hc5, hr⟩ | ⟨hc8, hr⟩
 ·refine W.condT h20 hc5 (W.seq (W.region ?_))
  refine sx rfl (pAssign (v := (vI 0)) rfl rfl) ?_
  refine SeqW.done fun fr6 hf7 => ?_
  have h8 : fr6 8 = (vI 0) := (congrFun hf7 8).trans rfl
  clear hf7
  refine thenQ.n ?_
  refine W.ret ?_
  refine thenQ.r ?_
  obtain rfl := Option.some.inj hr
  exact ⟨z, hz, st, .inr rfl, h8, trivial⟩
 ·refine W.condF h20 hc8 (W.skip ?_)
  refine thenQ.n (W.seq (W.region ?_))
  refine sx rfl (pAssign (v := (vI (-1))) rfl rfl) ?_
  refine SeqW.done fun fr9 hf10 => ?_
  have h0 := (congrFun hf10 0).trans h0
  have h1 := (congrFun hf10 1).trans h1
  have h2 := (congrFun hf10 2).trans h2
  have h3 := (congrFun hf10 3).trans h3
  have h9 : fr9 9 = (vI (-1)) := (congrFun hf10 9).trans rfl
  clear hf10
  refine thenQ.n (W.seq ?_)
  refine W.seq (W.region ?_)
  refine sx rfl (pMove (v := v1) rfl h1) ?_
  refine sx rfl (pLenR (xs := x1) rfl Try.underlying23 rfl s1) ?_
  refine sx rfl (pMove (v := (vI 0)) rfl rfl) ?_
  refine SeqW.done fun fr11 hf12 => ?_
  have h0 := (congrFun hf12 0).trans h0
  have h1 := (congrFun hf12 1).trans h1
  have h2 := (congrFun hf12 2).trans h2
  have h3 := (congrFun hf12 3).trans h3
  have h9 := (congrFun hf12 9).trans h9
  have h21 : fr11 21 = v1 := (congrFun hf12 21).trans rfl
  have h22 : fr11 22 = (vI (x1.length : Int)) := (congrFun hf12 22).trans rfl
  have h23 : fr11 23 = (vI 0) := (congrFun hf12 23).trans rfl
  clear hf12
  refine thenQ.n ?_
  refine W.block ?_
  obtain ⟨y142, hy142, hr⟩ := bind_some hr
  refine W.keep (u_l07_cheapest_0 _ hrec (Zx.refl _) st h0 s0 h1 s1 h2 h3 h9 h21 s1 h22 h23 hy142) ?_
  rintro ex148 fr143 m144 hk146 ⟨z145, hz147, st, rfl, h9, -⟩
  replace hz := hz.trans hz147
  clear hk146
  refine blockQ.hit ?_
  refine thenQ.n (W.seq (W.region ?_))
  refine sx rfl (pMove (v := (vI y142)) rfl h9) ?_
  refine sx rfl (pAssign (v := (vI y142)) rfl rfl) ?_
  refine SeqW.done fun fr149 hf150 => ?_
  have h8 : fr149 8 = (vI y142) := (congrFun hf150 8).trans rfl
  clear hf150
  refine thenQ.n ?_
  refine W.ret ?_
  obtain rfl := Option.some.inj hr
  exact ⟨z145, hz, st, .inr rfl, h8, trivial⟩

theorem c_l07_cheapest : ∀ {N : Nat} {z : Nat → Blk} {m : Mem} {x0 : List Int} {x1 : List (List Int)} {x2 : Int} {x3 : Int} {v0 : Value} {v1 : Value} (fz : Fz z m) (hd : ∀ b, m.next ≤ b → m.blk b = .dead) (s0 : SlR (TInt 3 .i64) z x0 v0) (s1 : SlR (TSl 22 (TInt 3 .i64)) z x1 v1) {r : Int} (hr : l07_cheapest N x0 x1 x2 x3 = some r), CallW Try.prog 22 #[v0, v1, (vI x2), (vI x3)] m fun v m' => v = (vI r) ∧ m' = m := by
 intro N
 induction N with
 | zero => intro z m x0 x1 x2 x3 v0 v1 fz hd s0 s1 r hr; cases (show (none : Option _) = some r from hr)
 | succ N ih =>
 intro z m x0 x1 x2 x3 v0 v1 fz hd s0 s1 r hr
 unfold l07_cheapest at hr
 refine CallW.flat Try.func22 rfl (by kernel_rfl) (Nat.le_of_ble_eq_true rfl) rfl (z := z) (fun fr hf => ?_)
 have h0 : fr 0 = _ := hf 0 _ rfl
 have h1 : fr 1 = _ := hf 1 _ rfl
 have h2 : fr 2 = _ := hf 2 _ rfl
 have h3 : fr 3 = _ := hf 3 _ rfl
 refine (u_l07_cheapestb (k := none) ih (Zx.refl _) (St.start fz hd) h0 s0 h1 s1 h2 h3 hr).mono ?_
 rintro ex fr' m' ⟨z', hz, st, he, h8, -⟩
 exact ⟨he, z', st, [(vI r)], ⟨h8.symm, trivial⟩, .inl rfl, rfl⟩

/-! ### humpyard/humpyardlaw07.WheelLeast -/

theorem u_l07_WheelLeast_0 : ∀ (n : Nat) {N : Nat}  {z0 z : Nat → Blk} {e m : Mem} {k : Option Nat} {fr : Nat → Value} {x3 : Maker} {x4 : List Int} {x5 : Int} {v3_0 : Value} {b3 : Nat} {v4 : Value} (hz : Zx e.next z0 z) (st : St z e m k) (h3 : fr 3 = (vP b3)) (s3_0 : SlR (TInt 3 .i64) z x3.l v3_0) (bx3 : Bx z e m k b3 [v3_0, (vI x3.n)] 56) (h4 : fr 4 = v4) (o4 : OwF (TInt 3 .i64) z e m k x4 v4) (h5 : fr 5 = (vI x5)) (ao3_o4 : Ap (some b3) (blkOf v4)) {r : Maker × List Int} (hr : l07_WheelLeast_0 N n x3 x4 x5 = some r), W Try.prog (sub (bodyOf Try.f7) [1, 1, 1, 0, 1, 0]) (fun ex fr' m' => ∃ z', Zx e.next z0 z' ∧ St z' e m' k ∧ ex = AExit.exit 0 ∧ ∃ (w3_0 : Value) (w4 : Value), fr' 3 = (vP b3) ∧ SlR (TInt 3 .i64) z' r.1.l w3_0 ∧ Bx z' e m' k b3 [w3_0, (vI r.1.n)] 56 ∧ fr' 4 = w4 ∧ OwF (TInt 3 .i64) z' e m' k r.2 w4 ∧ Ap (some b3) (blkOf w4) ∧ True) fr m := by
 intro n
 induction n with
 | zero => intro N z0 z e m k fr x3 x4 x5 v3_0 b3 v4 hz st h3 s3_0 bx3 h4 o4 h5 ao3_o4 r hr; cases (show (none : Option _) = some r from hr)
 | succ n ih =>
  intro N z0 z e m k fr x3 x4 x5 v3_0 b3 v4 hz st h3 s3_0 bx3 h4 o4 h5 ao3_o4 r hr
  unfold l07_WheelLeast_0 at hr
  refine W.loop1 ?_
  refine W.seq (W.seq (W.region ?_))
  refine sx rfl (pMove (v := (vI x5)) rfl h5) ?_
  refine sx rfl (pGtr (k := .i64) (a := x5) (b := 0) rfl rfl rfl) ?_
  refine SeqW.done fun fr32 hf33 => ?_
  have h3 := (congrFun hf33 3).trans h3
  have h4 := (congrFun hf33 4).trans h4
  have h5 := (congrFun hf33 5).trans h5
  have h16 : fr32 16 = (vB (decide (0 < x5))) := (congrFun hf33 16).trans rfl
  clear hf33
  refine thenQ.n ?_
  rcases if_some hr with ⟨hc34, hr⟩ | ⟨hc67, hr⟩
  ·refine W.condT h16 hc34 (W.skip ?_)
   refine thenQ.n (W.seq ?_)
   refine W.block ?_
   refine W.region ?_
   refine sx rfl (pMove (v := v4) rfl h4) ?_
   refine sx rfl (pMove (v := (vP b3)) rfl h3) ?_
   obtain ⟨y35, hy35, hr⟩ := bind_some hr
   refine SeqW.consX rfl (StepX.call (gCallee rfl rfl (args3 rfl rfl rfl)) ((c_Maker_From (x0 := x3) (z := z) st.fz st.dead s3_0 ⟨bx3.blk, bx3.lt, bx3.dead, .inr rfl⟩ hy35).mono ?_))
   rintro _ m40 ⟨z36, V41, hzx37, fz38, sm39, rfl, Q42, X44, -⟩
   replace s3_0 := s3_0.mono hzx37.le
   replace o4 := o4.call hzx37 sm39 (Ap.symm ao3_o4)
   have bx3n : Bx z36 e m40 k b3 _ _ := ⟨X44.blk, X44.lt, X44.dead, bx3.fresh⟩
   replace hz := hz.trans (Zx.here st hzx37)
   replace st := st.call hzx37 fz38 sm39 bx3.hq
   refine SeqW.consX rfl (kBuild (T := (TInt 3 .i64)) rfl Try.underlying22 Try.type3 rfl rfl rfl rfl ([y35.1] : List Int) [[(vI y35.1)]] rfl rfl rfl (BuildOk.mk (w := (vI y35.1)) rfl rfl rfl rfl trivial) st ?_)
   intro V45 m46 st O47 sm48 hap49
   have A51 := hap49 _ bx3n.lt'
   have A52 := hap49 _ o4.lt
   replace bx3n := bx3n.same sm48 Ap.none'
   replace o4 := o4.same sm48 Ap.none'
   obtain ⟨y53, hy53, hr⟩ := bind_some hr
   refine SeqW.consX rfl (kAppend (T := (TInt 3 .i64)) (xs := x4) (ys := ([y35.1] : List Int)) rfl Try.underlying22 Try.type3 rfl rfl rfl rfl rfl rfl (.inl ⟨_, Try.underlying22⟩) rfl o4 rfl O47.ow.src st hy53 ?_)
   intro V54 m55 st O56 sm57 hap58
   have A60 := hap58 _ bx3n.lt' ao3_o4
   have A61 := hap58 _ O47.lt (Ap.symm A52)
   replace bx3n := bx3n.same sm57 ao3_o4
   replace O47 := O47.same sm57 (Ap.symm A52)
   refine sx rfl (pAssign (v := V54) rfl rfl) ?_
   refine SeqW.done fun fr62 hf63 => ?_
   have h3 := (congrFun hf63 3).trans h3
   have h4 : fr62 4 = V54 := (congrFun hf63 4).trans rfl
   have h5 := (congrFun hf63 5).trans h5
   clear hf63
   refine blockQ.n ?_
   refine thenQ.n (W.region ?_)
   refine sx rfl (pMove (v := (vI x5)) rfl h5) ?_
   refine sx rfl (pSub (k := .i64) (a := x5) (b := 1) rfl rfl rfl) ?_
   obtain ⟨y64, hy64, hr⟩ := lt_some hr
   refine sx rfl (pAssign rfl (congrArg (Value.int .i64) hy64)) ?_
   refine SeqW.done fun fr65 hf66 => ?_
   have h3 := (congrFun hf66 3).trans h3
   have h4 := (congrFun hf66 4).trans h4
   have h5 : fr65 5 = (vI y64) := (congrFun hf66 5).trans rfl
   clear hf66
   refine thenQ.n ?_
   exact ih (x3 := y35.2) hz st h3 Q42 bx3n h4 O56 h5 A60 hr
  ·refine W.condF h16 hc67 ?_
   refine W.exit ?_
   refine thenQ.x ?_
   refine thenQ.x ?_
   obtain rfl := Option.some.inj hr
   exact ⟨z, hz, st, rfl, v3_0, v4, h3, s3_0, bx3, h4, o4, ao3_o4, trivial⟩

theorem u_l07_WheelLeast_1 {N : Nat}  {z0 z : Nat → Blk} {e m : Mem} {k : Option Nat} {fr : Nat → Value} {x6 : List (List Int)} {x35 : Bool} {x4 : List Int} {v4 : Value} {v6 : Value} (hz : Zx e.next z0 z) (st : St z e m k) (h4 : fr 4 = v4) (o4 : OwF (TInt 3 .i64) z e m k x4 v4) (h6 : fr 6 = v6) (o6 : OwF (TSl 22 (TInt 3 .i64)) z e m k x6 v6) (h35 : fr 35 = (vB x35)) (ao4_o6 : Ap (blkOf v4) (blkOf v6)) {r : List (List Int)} (hr : l07_WheelLeast_1 N x6 x35 = some r) : W Try.prog (sub (bodyOf Try.f7) [1, 1, 1, 1, 1, 0, 1]) (fun ex fr' m' => ∃ z', Zx e.next z0 z' ∧ St z' e m' k ∧ ex = AExit.normal ∧ ∃ (w6 : Value), fr' 6 = w6 ∧ SlR (TSl 22 (TInt 3 .i64)) z' r w6 ∧ OwF (TInt 3 .i64) z' e m' k x4 v4 ∧ True) fr m := by
 unfold l07_WheelLeast_1 at hr
 rcases if_some hr with ⟨hc161, hr⟩ | ⟨hc173, hr⟩
 ·refine W.condT h35 hc161 (W.region ?_)
  refine sx rfl (pMove (v := v6) rfl h6) ?_
  obtain ⟨z162, hz163, st, Q164, hl165⟩ := o6.freeze st
  replace o4 := o4.zle hz163.le (hl165 _ ao4_o6)
  replace hz := hz.trans hz163
  obtain ⟨y166, hy166, hr⟩ := bind_some hr
  refine SeqW.consX rfl (kCut (T := (TSl 22 (TInt 3 .i64))) (xs := x6) (a := 0) (b := 2) rfl Try.underlying23 Try.type22 rfl rfl rfl ⟨_, rfl⟩ Q164 st hy166 ?_)
  intro V167 _ hI169 Q168
  refine sx rfl (pAssign (v := V167) rfl rfl) ?_
  refine SeqW.done fun fr171 hf172 => ?_
  have h4 := (congrFun hf172 4).trans h4
  have h6 : fr171 6 = V167 := (congrFun hf172 6).trans rfl
  clear hf172
  obtain rfl := Option.some.inj hr
  exact ⟨z162, hz, st, rfl, V167, h6, Q168, o4, trivial⟩
 ·refine W.condF h35 hc173 (W.skip ?_)
  obtain ⟨z174, hz175, st, Q176, hl177⟩ := o6.freeze st
  replace o4 := o4.zle hz175.le (hl177 _ ao4_o6)
  replace hz := hz.trans hz175
  obtain rfl := Option.some.inj hr
  exact ⟨z174, hz, st, rfl, v6, h6, Q176, o4, trivial⟩

theorem u_l07_WheelLeast_2 {N : Nat}  {z0 z : Nat → Blk} {e m : Mem} {k : Option Nat} {fr : Nat → Value} {x9 : Int} (hz : Zx e.next z0 z) (st : St z e m k) (h9 : fr 9 = (vI x9)) {r : Bool} (hr : l07_WheelLeast_2 N x9 = some r) : W Try.prog (sub (bodyOf Try.f7) [1, 1, 1, 1, 1, 1, 1, 1, 0, 1, 0, 0]) (fun ex fr' m' => ∃ z', Zx e.next z0 z' ∧ St z' e m' k ∧ ex = AExit.normal ∧ fr' 2 = (vB r) ∧ True) fr m := by
 unfold l07_WheelLeast_2 at hr
 refine W.region ?_
 refine sx rfl (pMove (v := (vI x9)) rfl h9) ?_
 refine sx rfl (pEql (k := .i64) (a := x9) (b := 15) rfl rfl rfl) ?_
 refine sx rfl (pMove (v := (vB (x9 == 15))) rfl rfl) ?_
 rcases if_some hr with ⟨hc210, hr⟩ | ⟨hc214, hr⟩
 ·obtain ⟨y211, hy211, hr⟩ := bind_some hr
  refine SeqW.consG rfl rfl rfl hc210 (StepX.call (gCallee rfl rfl args0) ((c_l07_sane (z := z) st.fz st.dead  hy211).mono ?_))
  rintro _ _ ⟨rfl, rfl⟩
  refine sx rfl (pPick (t := true) (v := (vB y211)) rfl ((congrArg vB hc210)) rfl) ?_
  refine sx rfl (pAssign (v := (vB y211)) rfl rfl) ?_
  refine SeqW.done fun fr212 hf213 => ?_
  have h2 : fr212 2 = (vB y211) := (congrFun hf213 2).trans rfl
  clear hf213
  obtain rfl := Option.some.inj hr
  exact ⟨z, hz, st, rfl, h2, trivial⟩
 ·refine kx rfl rfl rfl hc214 ?_
  refine sx rfl (pPick (t := false) (v := (vB false)) rfl ((congrArg vB hc214)) rfl) ?_
  refine sx rfl (pAssign (v := (vB false)) rfl rfl) ?_
  refine SeqW.done fun fr215 hf216 => ?_
  have h2 : fr215 2 = (vB false) := (congrFun hf216 2).trans rfl
  clear hf216
  obtain rfl := Option.some.inj hr
  exact ⟨z, hz, st, rfl, h2, trivial⟩

theorem u_l07_WheelLeast_3 {N : Nat}  {z0 z : Nat → Blk} {e m : Mem} {k : Option Nat} {fr : Nat → Value} {x7 : List Int} {x8 : Int} {x9 : Int} {x10 : Int} {v7 : Value} (hz : Zx e.next z0 z) (st : St z e m k) (h7 : fr 7 = v7) (s7 : SlR (TInt 3 .i64) z x7 v7) (h8 : fr 8 = (vI x8)) (h9 : fr 9 = (vI x9)) (h10 : fr 10 = (vI x10)) {r : Bool} (hr : l07_WheelLeast_3 N x7 x8 x9 x10 = some r) : W Try.prog (sub (bodyOf Try.f7) [1, 1, 1, 1, 1, 1, 1, 1, 1, 0]) (fun ex fr' m' => ∃ z', Zx e.next z0 z' ∧ St z' e m' k ∧ ex = AExit.normal ∧ fr' 2 = (vB r) ∧ True) fr m := by
 unfold l07_WheelLeast_3 at hr
 refine W.region ?_
 refine sx rfl (pMove (v := (vI x9)) rfl h9) ?_
 refine sx rfl (pEql (k := .i64) (a := x9) (b := 0) rfl rfl rfl) ?_
 refine sx rfl (pMove (v := (vB (x9 == 0))) rfl rfl) ?_
 rcases if_some hr with ⟨hc225, hr⟩ | ⟨hc237, hr⟩
 ·refine SeqW.consG rfl rfl rfl hc225 (StepX.pure (pMove (v := (vI x8)) rfl h8) ?_)
  refine SeqW.consG rfl rfl rfl hc225 (StepX.pure (pMove (v := (vI x10)) rfl h10) ?_)
  refine SeqW.consG rfl rfl rfl hc225 (StepX.pure (pEql (k := .i64) (a := x8) (b := x10) rfl rfl rfl) ?_)
  refine sx rfl (pPick (t := true) (v := (vB (x8 == x10))) rfl ((congrArg vB hc225)) rfl) ?_
  refine sx rfl (pMove (v := (vB (x8 == x10))) rfl rfl) ?_
  rcases if_some hr with ⟨hc226, hr⟩ | ⟨hc234, hr⟩
  ·refine SeqW.consG rfl rfl rfl hc226 (StepX.pure (pMove (v := v7) rfl h7) ?_)
   refine SeqW.consG rfl rfl rfl hc226 (StepX.pure (pLenR (xs := x7) rfl Try.underlying22 rfl s7) ?_)
   refine SeqW.consG rfl rfl rfl hc226 (StepX.pure (pGtr (k := .i64) (a := (x7.length : Int)) (b := 0) rfl rfl rfl) ?_)
   refine sx rfl (pPick (t := true) (v := (vB (decide (0 < (x7.length : Int))))) rfl ((congrArg vB hc226)) rfl) ?_
   refine sx rfl (pMove (v := (vB (decide (0 < (x7.length : Int))))) rfl rfl) ?_
   rcases if_some hr with ⟨hc227, hr⟩ | ⟨hc231, hr⟩
   ·obtain ⟨y228, hy228, hr⟩ := bind_some hr
    refine SeqW.consG rfl rfl rfl hc227 (StepX.call (gCallee rfl rfl args0) ((c_l07_sane (z := z) st.fz st.dead  hy228).mono ?_))
    rintro _ _ ⟨rfl, rfl⟩
    refine sx rfl (pPick (t := true) (v := (vB y228)) rfl ((congrArg vB hc227)) rfl) ?_
    refine sx rfl (pAssign (v := (vB y228)) rfl rfl) ?_
    refine SeqW.done fun fr229 hf230 => ?_
    have h2 : fr229 2 = (vB y228) := (congrFun hf230 2).trans rfl
    clear hf230
    obtain rfl := Option.some.inj hr
    exact ⟨z, hz, st, rfl, h2, trivial⟩
   ·refine kx rfl rfl rfl hc231 ?_
    refine sx rfl (pPick (t := false) (v := (vB false)) rfl ((congrArg vB hc231)) rfl) ?_
    refine sx rfl (pAssign (v := (vB false)) rfl rfl) ?_
    refine SeqW.done fun fr232 hf233 => ?_
    have h2 : fr232 2 = (vB false) := (congrFun hf233 2).trans rfl
    clear hf233
    obtain rfl := Option.some.inj hr
    exact ⟨z, hz, st, rfl, h2, trivial⟩
  ·refine kx rfl rfl rfl hc234 ?_
   iterate 2 refine kx rfl rfl rfl hc234 ?_
   refine sx rfl (pPick (t := false) (v := (vB false)) rfl ((congrArg vB hc234)) rfl) ?_
   refine sx rfl (pMove (v := (vB false)) rfl rfl) ?_
   refine kx rfl rfl rfl rfl ?_
   refine sx rfl (pPick (t := false) (v := (vB false)) rfl ((congrArg vB (rfl : false = false))) rfl) ?_
   refine sx rfl (pAssign (v := (vB false)) rfl rfl) ?_
   refine SeqW.done fun fr235 hf236 => ?_
   have h2 : fr235 2 = (vB false) := (congrFun hf236 2).trans rfl
   clear hf236
   obtain rfl := Option.some.inj hr
   exact ⟨z, hz, st, rfl, h2, trivial⟩
 ·refine kx rfl rfl rfl hc237 ?_
  iterate 2 refine kx rfl rfl rfl hc237 ?_
  refine sx rfl (pPick (t := false) (v := (vB false)) rfl ((congrArg vB hc237)) rfl) ?_
  refine sx rfl (pMove (v := (vB false)) rfl rfl) ?_
  iterate 3 refine kx rfl rfl rfl rfl ?_
  refine sx rfl (pPick (t := false) (v := (vB false)) rfl ((congrArg vB (rfl : false = false))) rfl) ?_
  refine sx rfl (pMove (v := (vB false)) rfl rfl) ?_
  refine kx rfl rfl rfl rfl ?_
  refine sx rfl (pPick (t := false) (v := (vB false)) rfl ((congrArg vB (rfl : false = false))) rfl) ?_
  refine sx rfl (pAssign (v := (vB false)) rfl rfl) ?_
  refine SeqW.done fun fr238 hf239 => ?_
  have h2 : fr238 2 = (vB false) := (congrFun hf239 2).trans rfl
  clear hf239
  obtain rfl := Option.some.inj hr
  exact ⟨z, hz, st, rfl, h2, trivial⟩

theorem u_l07_WheelLeast {N : Nat}  {z0 z : Nat → Blk} {e m : Mem} {k : Option Nat} {fr : Nat → Value} {x0 : List Int} {v0 : Value} (hz : Zx e.next z0 z) (st : St z e m k) (h0 : fr 0 = v0) (s0 : SlR (TInt 3 .i64) z x0 v0) {r : Bool} (hr : l07_WheelLeast N x0 = some r) : W Try.prog (sub (bodyOf Try.f7) []) (fun ex fr' m' => ∃ z', Zx e.next z0 z' ∧ St z' e m' k ∧ (ex = .normal ∨ ex = .ret) ∧ fr' 2 = (vB r) ∧ True) fr m := by
 unfold l07_WheelLeast at hr
 refine W.seq (W.region ?_)
 refine sx rfl (pAssign (v := (vB false)) rfl rfl) ?_
 refine SeqW.done fun fr1 hf2 => ?_
 have h0 := (congrFun hf2 0).trans h0
 clear hf2
 refine thenQ.n (W.seq (W.region ?_))
 refine sx rfl (pMove (v := v0) rfl h0) ?_
 obtain ⟨y3, hy3, hr⟩ := bind_some hr
 refine SeqW.consX rfl (StepX.call (gCallee rfl rfl (args1 rfl)) ((c_gen_New (z := z) st.fz st.dead s0 hy3).mono ?_))
 rintro _ m8 ⟨z4, B9, V12, hzx5, fz6, sm7, rfl, Q13, X10, hn15, -⟩
 replace s0 := s0.mono hzx5.le
 have X10 : Bx z4 e m8 k B9 _ _ := ⟨X10.blk, X10.lt, X10.dead, .inl (Nat.le_trans st.next hn15)⟩
 replace hz := hz.trans (Zx.here st hzx5)
 replace st := st.call hzx5 fz6 sm7 no_hq
 refine sx rfl (pAssign (v := (vP B9)) rfl rfl) ?_
 refine SeqW.done fun fr16 hf17 => ?_
 have h3 : fr16 3 = (vP B9) := (congrFun hf17 3).trans rfl
 clear hf17
 refine thenQ.n (W.seq (W.region ?_))
 refine sx rfl (pAssign (v := (Value.slice none 0 0)) rfl rfl) ?_
 refine SeqW.done fun fr18 hf19 => ?_
 have h3 := (congrFun hf19 3).trans h3
 have h4 : fr18 4 = (Value.slice none 0 0) := (congrFun hf19 4).trans rfl
 clear hf19
 refine thenQ.n (W.seq ?_)
 refine W.seq (W.region ?_)
 refine sx rfl (pMove (v := (vP B9)) rfl h3) ?_
 obtain ⟨y20, hy20, hr⟩ := bind_some hr
 refine SeqW.consX rfl (StepX.call (gCallee rfl rfl (args2 rfl rfl)) ((c_Maker_Next (x0 := y3) (z := z4) st.fz st.dead Q13 ⟨X10.blk, X10.lt, X10.dead, .inr rfl⟩ hy20).mono ?_))
 rintro _ m25 ⟨z21, V26, hzx22, fz23, sm24, rfl, Q27, X29, -⟩
 replace Q13 := Q13.mono hzx22.le
 have X10n : Bx z21 e m25 k B9 _ _ := ⟨X29.blk, X29.lt, X29.dead, X10.fresh⟩
 replace hz := hz.trans (Zx.here st hzx22)
 replace st := st.call hzx22 fz23 sm24 X10.hq
 refine sx rfl (pAssign (v := (vI y20.1)) rfl rfl) ?_
 refine SeqW.done fun fr30 hf31 => ?_
 have h3 := (congrFun hf31 3).trans h3
 have h4 := (congrFun hf31 4).trans h4
 have h5 : fr30 5 = (vI y20.1) := (congrFun hf31 5).trans rfl
 clear hf31
 refine thenQ.n ?_
 refine W.block ?_
 obtain ⟨y68, hy68, hr⟩ := bind_some hr
 refine W.keep (u_l07_WheelLeast_0 (x3 := y20.2) _ (Zx.refl _) st h3 Q27 X10n h4 OwF.nil h5 Ap.none' hy68) ?_
 rintro ex74 fr69 m70 hk72 ⟨z71, hz73, st, rfl, w75, w76, h3, Q78, X80, h4, O82, A83, -⟩
 replace hz := hz.trans hz73
 clear hk72
 refine blockQ.hit ?_
 refine thenQ.n (W.seq (W.region ?_))
 refine sx rfl (pMove (v := (vP B9)) rfl h3) ?_
 obtain ⟨y84, hy84, hr⟩ := bind_some hr
 refine SeqW.consX rfl (StepX.call (gCallee rfl rfl (args3 rfl rfl rfl)) ((c_Maker_From (x0 := y68.1) (z := z71) st.fz st.dead Q78 ⟨X80.blk, X80.lt, X80.dead, .inr rfl⟩ hy84).mono ?_))
 rintro _ m89 ⟨z85, V90, hzx86, fz87, sm88, rfl, Q91, X93, -⟩
 replace Q78 := Q78.mono hzx86.le
 replace O82 := O82.call hzx86 sm88 (Ap.symm A83)
 have X80n : Bx z85 e m89 k B9 _ _ := ⟨X93.blk, X93.lt, X93.dead, X80.fresh⟩
 replace hz := hz.trans (Zx.here st hzx86)
 replace st := st.call hzx86 fz87 sm88 X80.hq
 refine SeqW.consX rfl (kBuild (T := (TInt 3 .i64)) rfl Try.underlying22 Try.type3 rfl rfl rfl rfl ([y84.1] : List Int) [[(vI y84.1)]] rfl rfl rfl (BuildOk.mk (w := (vI y84.1)) rfl rfl rfl rfl trivial) st ?_)
 intro V94 m95 st O96 sm97 hap98
 have A100 := hap98 _ X80n.lt'
 have A101 := hap98 _ O82.lt
 replace X80n := X80n.same sm97 Ap.none'
 replace O82 := O82.same sm97 Ap.none'
 refine sx rfl (pMove (v := (vP B9)) rfl h3) ?_
 obtain ⟨y102, hy102, hr⟩ := bind_some hr
 refine SeqW.consX rfl (StepX.call (gCallee rfl rfl (args3 rfl rfl rfl)) ((c_Maker_From (x0 := y84.2) (z := z85) st.fz st.dead Q91 ⟨X80n.blk, X80n.lt, X80n.dead, .inr rfl⟩ hy102).mono ?_))
 rintro _ m107 ⟨z103, V108, hzx104, fz105, sm106, rfl, Q109, X111, -⟩
 replace O82 := O82.call hzx104 sm106 (Ap.symm A83)
 replace Q91 := Q91.mono hzx104.le
 replace O96 := O96.call hzx104 sm106 (Ap.symm A100)
 have X80nn : Bx z103 e m107 k B9 _ _ := ⟨X111.blk, X111.lt, X111.dead, X80n.fresh⟩
 replace hz := hz.trans (Zx.here st hzx104)
 replace st := st.call hzx104 fz105 sm106 X80n.hq
 refine sx rfl (pMove (v := (vP B9)) rfl h3) ?_
 obtain ⟨y112, hy112, hr⟩ := bind_some hr
 refine SeqW.consX rfl (StepX.call (gCallee rfl rfl (args3 rfl rfl rfl)) ((c_Maker_From (x0 := y102.2) (z := z103) st.fz st.dead Q109 ⟨X80nn.blk, X80nn.lt, X80nn.dead, .inr rfl⟩ hy112).mono ?_))
 rintro _ m117 ⟨z113, V118, hzx114, fz115, sm116, rfl, Q119, X121, -⟩
 replace O82 := O82.call hzx114 sm116 (Ap.symm A83)
 replace O96 := O96.call hzx114 sm116 (Ap.symm A100)
 replace Q109 := Q109.mono hzx114.le
 have X80nnn : Bx z113 e m117 k B9 _ _ := ⟨X121.blk, X121.lt, X121.dead, X80nn.fresh⟩
 replace hz := hz.trans (Zx.here st hzx114)
 replace st := st.call hzx114 fz115 sm116 X80nn.hq
 refine SeqW.consX rfl (kBuild (T := (TInt 3 .i64)) rfl Try.underlying22 Try.type3 rfl rfl rfl rfl ([y102.1, y112.1] : List Int) [[(vI y102.1)], [(vI y112.1)]] rfl rfl rfl (BuildOk.mk (w := (vI y102.1)) rfl rfl rfl rfl (BuildOk.mk (w := (vI y112.1)) rfl rfl rfl rfl trivial)) st ?_)
 intro V122 m123 st O124 sm125 hap126
 have A128 := hap126 _ X80nnn.lt'
 have A129 := hap126 _ O82.lt
 have A130 := hap126 _ O96.lt
 replace X80nnn := X80nnn.same sm125 Ap.none'
 replace O82 := O82.same sm125 Ap.none'
 replace O96 := O96.same sm125 Ap.none'
 obtain ⟨z131, hz132, st, Q133, hl134⟩ := O96.freeze st
 replace X80nnn := X80nnn.zle (hl134 _ A100)
 replace O82 := O82.zle hz132.le (hl134 _ A101)
 replace Q119 := Q119.mono hz132.le
 replace O124 := O124.zle hz132.le (hl134 _ (Ap.symm A130))
 replace hz := hz.trans hz132
 obtain ⟨z135, hz136, st, Q137, hl138⟩ := O124.freeze st
 replace X80nnn := X80nnn.zle (hl138 _ A128)
 replace O82 := O82.zle hz136.le (hl138 _ A129)
 replace Q133 := Q133.mono hz136.le
 replace Q119 := Q119.mono hz136.le
 replace hz := hz.trans hz136
 refine SeqW.consX rfl (kBuild (T := (TSl 22 (TInt 3 .i64))) rfl Try.underlying23 Try.type22 rfl rfl rfl rfl ([([y84.1] : List Int), ([y102.1, y112.1] : List Int), []] : List (List Int)) [[V94], [V122], [Value.slice none 0 0]] rfl rfl rfl (BuildOk.mk (w := V94) rfl Q133.stor.1 Q133.stor.2 ⟨_, rfl, Q133⟩ (BuildOk.mk (w := V122) rfl Q137.stor.1 Q137.stor.2 ⟨_, rfl, Q137⟩ (BuildOk.mk (w := (Value.slice none 0 0)) rfl rfl rfl ⟨_, rfl, .nil⟩ trivial))) st ?_)
 intro V139 m140 st O141 sm142 hap143
 have A145 := hap143 _ X80nnn.lt'
 have A146 := hap143 _ O82.lt
 replace X80nnn := X80nnn.same sm142 Ap.none'
 replace O82 := O82.same sm142 Ap.none'
 refine sx rfl (pAssign (v := V139) rfl rfl) ?_
 refine SeqW.done fun fr147 hf148 => ?_
 have h3 := (congrFun hf148 3).trans h3
 have h4 := (congrFun hf148 4).trans h4
 have h6 : fr147 6 = V139 := (congrFun hf148 6).trans rfl
 clear hf148
 refine thenQ.n (W.seq ?_)
 refine W.seq (W.region ?_)
 refine sx rfl (pMove (v := (vP B9)) rfl h3) ?_
 obtain ⟨y149, hy149, hr⟩ := bind_some hr
 refine SeqW.consX rfl (StepX.call (gCallee rfl rfl (args2 rfl rfl)) ((c_Maker_Next (x0 := y112.2) (z := z135) st.fz st.dead Q119 ⟨X80nnn.blk, X80nnn.lt, X80nnn.dead, .inr rfl⟩ hy149).mono ?_))
 rintro _ m154 ⟨z150, V155, hzx151, fz152, sm153, rfl, Q156, X158, -⟩
 replace O82 := O82.call hzx151 sm153 (Ap.symm A83)
 replace Q119 := Q119.mono hzx151.le
 replace O141 := O141.call hzx151 sm153 (Ap.symm A145)
 have X80nnnn : Bx z150 e m154 k B9 _ _ := ⟨X158.blk, X158.lt, X158.dead, X80nnn.fresh⟩
 replace hz := hz.trans (Zx.here st hzx151)
 replace st := st.call hzx151 fz152 sm153 X80nnn.hq
 refine sx rfl (pEql (k := .i64) (a := y149.1) (b := 0) rfl rfl rfl) ?_
 refine SeqW.done fun fr159 hf160 => ?_
 have h4 := (congrFun hf160 4).trans h4
 have h6 := (congrFun hf160 6).trans h6
 have h35 : fr159 35 = (vB (y149.1 == 0)) := (congrFun hf160 35).trans rfl
 clear hf160
 refine thenQ.n ?_
 obtain ⟨y178, hy178, hr⟩ := bind_some hr
 refine W.keep (u_l07_WheelLeast_1 (Zx.refl _) st h4 O82 h6 O141 h35 A146 hy178) ?_
 rintro ex184 fr179 m180 hk182 ⟨z181, hz183, st, rfl, w185, h6, Q187, O188, -⟩
 have h4 := (hk182 4 rfl).trans h4
 replace hz := hz.trans hz183
 clear hk182
 refine thenQ.n (W.seq (W.region ?_))
 refine sx rfl (pMove (v := w76) rfl h4) ?_
 refine sx rfl (pMove (v := w185) rfl h6) ?_
 obtain ⟨z189, hz190, st, Q191, hl192⟩ := O188.freeze st
 replace Q187 := Q187.mono hz190.le
 replace hz := hz.trans hz190
 obtain ⟨y193, hy193, hr⟩ := bind_some hr
 refine SeqW.consX rfl (StepX.call (gCallee rfl rfl (args3 rfl rfl rfl)) ((c_wheel_Recognize (z := z189) st.fz st.dead Q191 Q187 hy193).mono ?_))
 rintro _ m198 ⟨z194, V199, hzx195, fz196, sm197, rfl, Q200, -⟩
 replace Q191 := Q191.mono hzx195.le
 replace Q187 := Q187.mono hzx195.le
 replace hz := hz.trans (Zx.here st hzx195)
 replace st := st.call hzx195 fz196 sm197 no_hq
 refine sx rfl (pMove (v := (Value.tuple [V199, (vI y193.2.1), (vI y193.2.2)].toArray)) rfl rfl) ?_
 refine sx rfl (pExtract (vs := [V199, (vI y193.2.1), (vI y193.2.2)]) (v := V199) rfl rfl rfl) ?_
 refine sx rfl (pExtract (vs := [V199, (vI y193.2.1), (vI y193.2.2)]) (v := (vI y193.2.1)) rfl rfl rfl) ?_
 refine sx rfl (pExtract (vs := [V199, (vI y193.2.1), (vI y193.2.2)]) (v := (vI y193.2.2)) rfl rfl rfl) ?_
 refine sx rfl (pAssign (v := V199) rfl rfl) ?_
 refine sx rfl (pAssign (v := (vI y193.2.1)) rfl rfl) ?_
 refine sx rfl (pAssign (v := (vI y193.2.2)) rfl rfl) ?_
 refine SeqW.done fun fr202 hf203 => ?_
 have h4 := (congrFun hf203 4).trans h4
 have h6 := (congrFun hf203 6).trans h6
 have h7 : fr202 7 = V199 := (congrFun hf203 7).trans rfl
 have h8 : fr202 8 = (vI y193.2.1) := (congrFun hf203 8).trans rfl
 have h9 : fr202 9 = (vI y193.2.2) := (congrFun hf203 9).trans rfl
 clear hf203
 refine thenQ.n (W.seq (W.region ?_))
 refine sx rfl (pMove (v := w76) rfl h4) ?_
 refine sx rfl (pMove (v := w185) rfl h6) ?_
 obtain ⟨y204, hy204, hr⟩ := bind_some hr
 refine SeqW.consX rfl (StepX.call (gCallee rfl rfl (args4 rfl rfl rfl rfl)) ((c_l07_cheapest (z := z194) st.fz st.dead Q191 Q187 hy204).mono ?_))
 rintro _ _ ⟨rfl, rfl⟩
 refine sx rfl (pAssign (v := (vI y204)) rfl rfl) ?_
 refine SeqW.done fun fr205 hf206 => ?_
 have h7 := (congrFun hf206 7).trans h7
 have h8 := (congrFun hf206 8).trans h8
 have h9 := (congrFun hf206 9).trans h9
 have h10 : fr205 10 = (vI y204) := (congrFun hf206 10).trans rfl
 clear hf206
 refine thenQ.n (W.seq ?_)
 refine W.seq (W.region ?_)
 refine sx rfl (pMove (v := (vI y204)) rfl h10) ?_
 refine sx rfl (pLss (k := .i64) (a := y204) (b := 0) rfl rfl rfl) ?_
 refine SeqW.done fun fr207 hf208 => ?_
 have h7 := (congrFun hf208 7).trans h7
 have h8 := (congrFun hf208 8).trans h8
 have h9 := (congrFun hf208 9).trans h9
 have h10 := (congrFun hf208 10).trans h10
 have h49 : fr207 49 = (vB (decide (y204 < 0))) := (congrFun hf208 49).trans rfl
 clear hf208
 refine thenQ.n ?_
 rcases if_some hr with ⟨hc209, hr⟩ | ⟨hc224, hr⟩
 ·refine W.condT h49 hc209 (W.seq ?_)
  obtain ⟨y217, hy217, hr⟩ := bind_some hr
  refine W.keep (u_l07_WheelLeast_2 (Zx.refl _) st h9 hy217) ?_
  rintro ex223 fr218 m219 hk221 ⟨z220, hz222, st, rfl, h2, -⟩
  replace hz := hz.trans hz222
  clear hk221
  refine thenQ.n ?_
  refine W.ret ?_
  refine thenQ.r ?_
  obtain rfl := Option.some.inj hr
  exact ⟨z220, hz, st, .inr rfl, h2, trivial⟩
 ·refine W.condF h49 hc224 (W.skip ?_)
  refine thenQ.n (W.seq ?_)
  obtain ⟨y240, hy240, hr⟩ := bind_some hr
  refine W.keep (u_l07_WheelLeast_3 (Zx.refl _) st h7 Q200 h8 h9 h10 hy240) ?_
  rintro ex246 fr241 m242 hk244 ⟨z243, hz245, st, rfl, h2, -⟩
  replace hz := hz.trans hz245
  clear hk244
  refine thenQ.n ?_
  refine W.ret ?_
  obtain rfl := Option.some.inj hr
  exact ⟨z243, hz, st, .inr rfl, h2, trivial⟩

theorem c_l07_WheelLeast {N : Nat} {z : Nat → Blk} {m : Mem} {x0 : List Int} {v0 : Value} (fz : Fz z m) (hd : ∀ b, m.next ≤ b → m.blk b = .dead) (s0 : SlR (TInt 3 .i64) z x0 v0) {r : Bool} (hr : l07_WheelLeast N x0 = some r) : CallW Try.prog 7 #[v0] m fun v m' => v = (vB r) ∧ m' = m := by
 refine CallW.flat Try.func7 rfl (by kernel_rfl) (Nat.le_of_ble_eq_true rfl) rfl (z := z) (fun fr hf => ?_)
 have h0 : fr 0 = _ := hf 0 _ rfl
 refine (u_l07_WheelLeast (k := none) (Zx.refl _) (St.start fz hd) h0 s0 hr).mono ?_
 rintro ex fr' m' ⟨z', hz, st, he, h2, -⟩
 exact ⟨he, z', st, [(vB r)], ⟨h2.symm, trivial⟩, .inl rfl, rfl⟩

end Go.W
