/- The models are what the program computes. -/
import Derived.Test.YtmbppeancpipiaaW2
set_option linter.unusedVariables false
set_option linter.unusedSimpArgs false
set_option maxRecDepth 100000
set_option maxHeartbeats 4000000
namespace Go.W
open Go.AM Go.Proofs


/-! ### humpyard/humpyardref06.Valid -/

theorem u_r06_Valid_0 {N : Nat}  {z0 z : Nat → Blk} {e m : Mem} {k : Option Nat} {fr : Nat → Value} {x5 : Int} {x6 : Int} {x16 : Int} {x1 : Wagon} {b1 : Nat} (hz : Zx e.next z0 z) (st : St z e m k) (h1 : fr 1 = (vP b1)) (bx1 : Bx z e m k b1 [(str x1.number), (vI x1.length), (vI x1.axles), (vI x1.mass), (vI x1.brake), (vI x1.goods), (vB x1.gentle), (str x1.dest)] 48) (h5 : fr 5 = (vI x5)) (h6 : fr 6 = (vI x6)) (h16 : fr 16 = (vI x16)) {r : Int × Int} (hr : r06_Valid_0 N x5 x6 x16 = some r) : W Try.prog (sub (bodyOf Try.f46) [1, 1, 1, 1, 0, 1]) (fun ex fr' m' => ∃ z', Zx e.next z0 z' ∧ St z' e m' k ∧ ex = AExit.normal ∧ fr' 5 = (vI r.1) ∧ fr' 6 = (vI r.2) ∧ Bx z' e m' k b1 [(str x1.number), (vI x1.length), (vI x1.axles), (vI x1.mass), (vI x1.brake), (vI x1.goods), (vB x1.gentle), (str x1.dest)] 48 ∧ True) fr m := by
 unfold r06_Valid_0 at hr
 refine W.block ?_
 refine W.seq (W.region ?_)
 refine sx rfl (pEql (k := .i64) (a := x16) (b := 2) rfl h16 rfl) ?_
 obtain ⟨y22, hy22, hr⟩ := lt_some hr
 refine sx rfl (pAssign rfl (congrArg vB hy22)) ?_
 refine SeqW.done fun fr23 hf24 => ?_
 have h1 := (congrFun hf24 1).trans h1
 have h5 := (congrFun hf24 5).trans h5
 have h6 := (congrFun hf24 6).trans h6
 have h16 := (congrFun hf24 16).trans h16
 have h17 : fr23 17 = (vB y22) := (congrFun hf24 17).trans rfl
 clear hf24
 refine thenQ.n ?_
 rcases if_some hr with ⟨hc25, hr⟩ | ⟨hc28, hr⟩
 ·refine W.condT h17 hc25 (W.region ?_)
  refine sx rfl (pAssign (v := (vI 2)) rfl rfl) ?_
  refine SeqW.done fun fr26 hf27 => ?_
  have h1 := (congrFun hf27 1).trans h1
  have h5 : fr26 5 = (vI 2) := (congrFun hf27 5).trans rfl
  have h6 := (congrFun hf27 6).trans h6
  clear hf27
  refine blockQ.n ?_
  obtain rfl := Option.some.inj hr
  exact ⟨z, hz, st, rfl, h5, h6, bx1, trivial⟩
 ·refine W.condF h17 hc28 (W.seq (W.region ?_))
  refine sx rfl (pEql (k := .i64) (a := x16) (b := 3) rfl h16 rfl) ?_
  obtain ⟨y29, hy29, hr⟩ := lt_some hr
  refine sx rfl (pAssign rfl (congrArg vB hy29)) ?_
  refine SeqW.done fun fr30 hf31 => ?_
  have h1 := (congrFun hf31 1).trans h1
  have h5 := (congrFun hf31 5).trans h5
  have h6 := (congrFun hf31 6).trans h6
  have h19 : fr30 19 = (vB y29) := (congrFun hf31 19).trans rfl
  clear hf31
  refine thenQ.n ?_
  rcases if_some hr with ⟨hc32, hr⟩ | ⟨hc35, hr⟩
  ·refine W.condT h19 hc32 (W.region ?_)
   refine sx rfl (pAssign (v := (vI 6)) rfl rfl) ?_
   refine sx rfl (pAssign (v := (vI 120)) rfl rfl) ?_
   refine SeqW.done fun fr33 hf34 => ?_
   have h1 := (congrFun hf34 1).trans h1
   have h5 : fr33 5 = (vI 6) := (congrFun hf34 5).trans rfl
   have h6 : fr33 6 = (vI 120) := (congrFun hf34 6).trans rfl
   clear hf34
   refine blockQ.n ?_
   obtain rfl := Option.some.inj hr
   exact ⟨z, hz, st, rfl, h5, h6, bx1, trivial⟩
  ·refine W.condF h19 hc35 (W.skip ?_)
   refine blockQ.n ?_
   obtain rfl := Option.some.inj hr
   exact ⟨z, hz, st, rfl, h5, h6, bx1, trivial⟩

theorem u_r06_Valid_1 {N : Nat}  {z0 z : Nat → Blk} {e m : Mem} {k : Option Nat} {fr : Nat → Value} {x1 : Wagon} {x6 : Int} {b1 : Nat} (hz : Zx e.next z0 z) (st : St z e m k) (h1 : fr 1 = (vP b1)) (bx1 : Bx z e m k b1 [(str x1.number), (vI x1.length), (vI x1.axles), (vI x1.mass), (vI x1.brake), (vI x1.goods), (vB x1.gentle), (str x1.dest)] 48) (h6 : fr 6 = (vI x6)) {r : Bool} (hr : r06_Valid_1 N x1 x6 = some r) : W Try.prog (sub (bodyOf Try.f46) [1, 1, 1, 1, 1, 0, 0, 1, 1, 0]) (fun ex fr' m' => ∃ z', Zx e.next z0 z' ∧ St z' e m' k ∧ ex = AExit.normal ∧ fr' 26 = (vB r) ∧ Bx z' e m' k b1 [(str x1.number), (vI x1.length), (vI x1.axles), (vI x1.mass), (vI x1.brake), (vI x1.goods), (vB x1.gentle), (str x1.dest)] 48 ∧ True) fr m := by
 unfold r06_Valid_1 at hr
 refine W.region ?_
 refine SeqW.consX rfl (kField rfl Try.underlying48 rfl Try.type3 rfl h1 rfl ?_)
 refine SeqW.consX rfl (kLoad rfl Try.underlying3 rfl rfl (bx1.load (v := (vI x1.length)) rfl) ?_)
 refine sx rfl (pMove (v := (vI x6)) rfl h6) ?_
 refine sx rfl (pLss (k := .i64) (a := x1.length) (b := x6) rfl rfl rfl) ?_
 refine sx rfl (pMove (v := (vB (decide (x1.length < x6)))) rfl rfl) ?_
 rcases if_some hr with ⟨hc51, hr⟩ | ⟨hc54, hr⟩
 ·refine kx rfl rfl rfl hc51 ?_
  iterate 2 refine kx rfl rfl rfl hc51 ?_
  refine sx rfl (pPick (t := true) (v := (vB true)) rfl ((congrArg vB hc51)) rfl) ?_
  refine sx rfl (pMove (v := (vB true)) rfl rfl) ?_
  iterate 3 refine kx rfl rfl rfl rfl ?_
  refine sx rfl (pPick (t := true) (v := (vB true)) rfl ((congrArg vB (rfl : true = true))) rfl) ?_
  refine sx rfl (pMove (v := (vB true)) rfl rfl) ?_
  iterate 3 refine kx rfl rfl rfl rfl ?_
  refine sx rfl (pPick (t := true) (v := (vB true)) rfl ((congrArg vB (rfl : true = true))) rfl) ?_
  refine sx rfl (pMove (v := (vB true)) rfl rfl) ?_
  iterate 3 refine kx rfl rfl rfl rfl ?_
  refine sx rfl (pPick (t := true) (v := (vB true)) rfl ((congrArg vB (rfl : true = true))) rfl) ?_
  refine sx rfl (pMove (v := (vB true)) rfl rfl) ?_
  iterate 5 refine kx rfl rfl rfl rfl ?_
  refine sx rfl (pPick (t := true) (v := (vB true)) rfl ((congrArg vB (rfl : true = true))) rfl) ?_
  refine sx rfl (pMove (v := (vB true)) rfl rfl) ?_
  iterate 3 refine kx rfl rfl rfl rfl ?_
  refine sx rfl (pPick (t := true) (v := (vB true)) rfl ((congrArg vB (rfl : true = true))) rfl) ?_
  refine sx rfl (pMove (v := (vB true)) rfl rfl) ?_
  iterate 3 refine kx rfl rfl rfl rfl ?_
  refine sx rfl (pPick (t := true) (v := (vB true)) rfl ((congrArg vB (rfl : true = true))) rfl) ?_
  refine sx rfl (pAssign (v := (vB true)) rfl rfl) ?_
  refine SeqW.done fun fr52 hf53 => ?_
  have h1 := (congrFun hf53 1).trans h1
  have h26 : fr52 26 = (vB true) := (congrFun hf53 26).trans rfl
  clear hf53
  obtain rfl := Option.some.inj hr
  exact ⟨z, hz, st, rfl, h26, bx1, trivial⟩
 ·refine SeqW.consG rfl rfl rfl hc54 (kField rfl Try.underlying48 rfl Try.type3 rfl h1 rfl ?_)
  refine SeqW.consG rfl rfl rfl hc54 (kLoad rfl Try.underlying3 rfl rfl (bx1.load (v := (vI x1.length)) rfl) ?_)
  refine SeqW.consG rfl rfl rfl hc54 (StepX.pure (pGtr (k := .i64) (a := x1.length) (b := 400) rfl rfl rfl) ?_)
  refine sx rfl (pPick (t := false) (v := (vB (decide (400 < x1.length)))) rfl ((congrArg vB hc54)) rfl) ?_
  refine sx rfl (pMove (v := (vB (decide (400 < x1.length)))) rfl rfl) ?_
  rcases if_some hr with ⟨hc55, hr⟩ | ⟨hc58, hr⟩
  ·refine kx rfl rfl rfl hc55 ?_
   iterate 2 refine kx rfl rfl rfl hc55 ?_
   refine sx rfl (pPick (t := true) (v := (vB true)) rfl ((congrArg vB hc55)) rfl) ?_
   refine sx rfl (pMove (v := (vB true)) rfl rfl) ?_
   iterate 3 refine kx rfl rfl rfl rfl ?_
   refine sx rfl (pPick (t := true) (v := (vB true)) rfl ((congrArg vB (rfl : true = true))) rfl) ?_
   refine sx rfl (pMove (v := (vB true)) rfl rfl) ?_
   iterate 3 refine kx rfl rfl rfl rfl ?_
   refine sx rfl (pPick (t := true) (v := (vB true)) rfl ((congrArg vB (rfl : true = true))) rfl) ?_
   refine sx rfl (pMove (v := (vB true)) rfl rfl) ?_
   iterate 5 refine kx rfl rfl rfl rfl ?_
   refine sx rfl (pPick (t := true) (v := (vB true)) rfl ((congrArg vB (rfl : true = true))) rfl) ?_
   refine sx rfl (pMove (v := (vB true)) rfl rfl) ?_
   iterate 3 refine kx rfl rfl rfl rfl ?_
   refine sx rfl (pPick (t := true) (v := (vB true)) rfl ((congrArg vB (rfl : true = true))) rfl) ?_
   refine sx rfl (pMove (v := (vB true)) rfl rfl) ?_
   iterate 3 refine kx rfl rfl rfl rfl ?_
   refine sx rfl (pPick (t := true) (v := (vB true)) rfl ((congrArg vB (rfl : true = true))) rfl) ?_
   refine sx rfl (pAssign (v := (vB true)) rfl rfl) ?_
   refine SeqW.done fun fr56 hf57 => ?_
   have h1 := (congrFun hf57 1).trans h1
   have h26 : fr56 26 = (vB true) := (congrFun hf57 26).trans rfl
   clear hf57
   obtain rfl := Option.some.inj hr
   exact ⟨z, hz, st, rfl, h26, bx1, trivial⟩
  ·refine SeqW.consG rfl rfl rfl hc58 (kField rfl Try.underlying48 rfl Try.type3 rfl h1 rfl ?_)
   refine SeqW.consG rfl rfl rfl hc58 (kLoad rfl Try.underlying3 rfl rfl (bx1.load (v := (vI x1.mass)) rfl) ?_)
   refine SeqW.consG rfl rfl rfl hc58 (StepX.pure (pLss (k := .i64) (a := x1.mass) (b := 50) rfl rfl rfl) ?_)
   refine sx rfl (pPick (t := false) (v := (vB (decide (x1.mass < 50)))) rfl ((congrArg vB hc58)) rfl) ?_
   refine sx rfl (pMove (v := (vB (decide (x1.mass < 50)))) rfl rfl) ?_
   rcases if_some hr with ⟨hc59, hr⟩ | ⟨hc62, hr⟩
   ·refine kx rfl rfl rfl hc59 ?_
    iterate 2 refine kx rfl rfl rfl hc59 ?_
    refine sx rfl (pPick (t := true) (v := (vB true)) rfl ((congrArg vB hc59)) rfl) ?_
    refine sx rfl (pMove (v := (vB true)) rfl rfl) ?_
    iterate 3 refine kx rfl rfl rfl rfl ?_
    refine sx rfl (pPick (t := true) (v := (vB true)) rfl ((congrArg vB (rfl : true = true))) rfl) ?_
    refine sx rfl (pMove (v := (vB true)) rfl rfl) ?_
    iterate 5 refine kx rfl rfl rfl rfl ?_
    refine sx rfl (pPick (t := true) (v := (vB true)) rfl ((congrArg vB (rfl : true = true))) rfl) ?_
    refine sx rfl (pMove (v := (vB true)) rfl rfl) ?_
    iterate 3 refine kx rfl rfl rfl rfl ?_
    refine sx rfl (pPick (t := true) (v := (vB true)) rfl ((congrArg vB (rfl : true = true))) rfl) ?_
    refine sx rfl (pMove (v := (vB true)) rfl rfl) ?_
    iterate 3 refine kx rfl rfl rfl rfl ?_
    refine sx rfl (pPick (t := true) (v := (vB true)) rfl ((congrArg vB (rfl : true = true))) rfl) ?_
    refine sx rfl (pAssign (v := (vB true)) rfl rfl) ?_
    refine SeqW.done fun fr60 hf61 => ?_
    have h1 := (congrFun hf61 1).trans h1
    have h26 : fr60 26 = (vB true) := (congrFun hf61 26).trans rfl
    clear hf61
    obtain rfl := Option.some.inj hr
    exact ⟨z, hz, st, rfl, h26, bx1, trivial⟩
   ·refine SeqW.consG rfl rfl rfl hc62 (kField rfl Try.underlying48 rfl Try.type3 rfl h1 rfl ?_)
    refine SeqW.consG rfl rfl rfl hc62 (kLoad rfl Try.underlying3 rfl rfl (bx1.load (v := (vI x1.mass)) rfl) ?_)
    refine SeqW.consG rfl rfl rfl hc62 (StepX.pure (pGtr (k := .i64) (a := x1.mass) (b := 2000) rfl rfl rfl) ?_)
    refine sx rfl (pPick (t := false) (v := (vB (decide (2000 < x1.mass)))) rfl ((congrArg vB hc62)) rfl) ?_
    refine sx rfl (pMove (v := (vB (decide (2000 < x1.mass)))) rfl rfl) ?_
    rcases if_some hr with ⟨hc63, hr⟩ | ⟨hc66, hr⟩
    ·refine kx rfl rfl rfl hc63 ?_
     iterate 2 refine kx rfl rfl rfl hc63 ?_
     refine sx rfl (pPick (t := true) (v := (vB true)) rfl ((congrArg vB hc63)) rfl) ?_
     refine sx rfl (pMove (v := (vB true)) rfl rfl) ?_
     iterate 5 refine kx rfl rfl rfl rfl ?_
     refine sx rfl (pPick (t := true) (v := (vB true)) rfl ((congrArg vB (rfl : true = true))) rfl) ?_
     refine sx rfl (pMove (v := (vB true)) rfl rfl) ?_
     iterate 3 refine kx rfl rfl rfl rfl ?_
     refine sx rfl (pPick (t := true) (v := (vB true)) rfl ((congrArg vB (rfl : true = true))) rfl) ?_
     refine sx rfl (pMove (v := (vB true)) rfl rfl) ?_
     iterate 3 refine kx rfl rfl rfl rfl ?_
     refine sx rfl (pPick (t := true) (v := (vB true)) rfl ((congrArg vB (rfl : true = true))) rfl) ?_
     refine sx rfl (pAssign (v := (vB true)) rfl rfl) ?_
     refine SeqW.done fun fr64 hf65 => ?_
     have h1 := (congrFun hf65 1).trans h1
     have h26 : fr64 26 = (vB true) := (congrFun hf65 26).trans rfl
     clear hf65
     obtain rfl := Option.some.inj hr
     exact ⟨z, hz, st, rfl, h26, bx1, trivial⟩
    ·refine SeqW.consG rfl rfl rfl hc66 (kField rfl Try.underlying48 rfl Try.type3 rfl h1 rfl ?_)
     refine SeqW.consG rfl rfl rfl hc66 (kLoad rfl Try.underlying3 rfl rfl (bx1.load (v := (vI x1.brake)) rfl) ?_)
     refine SeqW.consG rfl rfl rfl hc66 (StepX.pure (pLss (k := .i64) (a := x1.brake) (b := 0) rfl rfl rfl) ?_)
     refine sx rfl (pPick (t := false) (v := (vB (decide (x1.brake < 0)))) rfl ((congrArg vB hc66)) rfl) ?_
     refine sx rfl (pMove (v := (vB (decide (x1.brake < 0)))) rfl rfl) ?_
     rcases if_some hr with ⟨hc67, hr⟩ | ⟨hc70, hr⟩
     ·refine kx rfl rfl rfl hc67 ?_
      iterate 4 refine kx rfl rfl rfl hc67 ?_
      refine sx rfl (pPick (t := true) (v := (vB true)) rfl ((congrArg vB hc67)) rfl) ?_
      refine sx rfl (pMove (v := (vB true)) rfl rfl) ?_
      iterate 3 refine kx rfl rfl rfl rfl ?_
      refine sx rfl (pPick (t := true) (v := (vB true)) rfl ((congrArg vB (rfl : true = true))) rfl) ?_
      refine sx rfl (pMove (v := (vB true)) rfl rfl) ?_
      iterate 3 refine kx rfl rfl rfl rfl ?_
      refine sx rfl (pPick (t := true) (v := (vB true)) rfl ((congrArg vB (rfl : true = true))) rfl) ?_
      refine sx rfl (pAssign (v := (vB true)) rfl rfl) ?_
      refine SeqW.done fun fr68 hf69 => ?_
      have h1 := (congrFun hf69 1).trans h1
      have h26 : fr68 26 = (vB true) := (congrFun hf69 26).trans rfl
      clear hf69
      obtain rfl := Option.some.inj hr
      exact ⟨z, hz, st, rfl, h26, bx1, trivial⟩
     ·refine SeqW.consG rfl rfl rfl hc70 (kField rfl Try.underlying48 rfl Try.type3 rfl h1 rfl ?_)
      refine SeqW.consG rfl rfl rfl hc70 (kLoad rfl Try.underlying3 rfl rfl (bx1.load (v := (vI x1.brake)) rfl) ?_)
      refine SeqW.consG rfl rfl rfl hc70 (kField rfl Try.underlying48 rfl Try.type3 rfl h1 rfl ?_)
      refine SeqW.consG rfl rfl rfl hc70 (kLoad rfl Try.underlying3 rfl rfl (bx1.load (v := (vI x1.mass)) rfl) ?_)
      refine SeqW.consG rfl rfl rfl hc70 (StepX.pure (pGtr (k := .i64) (a := x1.brake) (b := x1.mass) rfl rfl rfl) ?_)
      refine sx rfl (pPick (t := false) (v := (vB (decide (x1.mass < x1.brake)))) rfl ((congrArg vB hc70)) rfl) ?_
      refine sx rfl (pMove (v := (vB (decide (x1.mass < x1.brake)))) rfl rfl) ?_
      rcases if_some hr with ⟨hc71, hr⟩ | ⟨hc74, hr⟩
      ·refine kx rfl rfl rfl hc71 ?_
       iterate 2 refine kx rfl rfl rfl hc71 ?_
       refine sx rfl (pPick (t := true) (v := (vB true)) rfl ((congrArg vB hc71)) rfl) ?_
       refine sx rfl (pMove (v := (vB true)) rfl rfl) ?_
       iterate 3 refine kx rfl rfl rfl rfl ?_
       refine sx rfl (pPick (t := true) (v := (vB true)) rfl ((congrArg vB (rfl : true = true))) rfl) ?_
       refine sx rfl (pAssign (v := (vB true)) rfl rfl) ?_
       refine SeqW.done fun fr72 hf73 => ?_
       have h1 := (congrFun hf73 1).trans h1
       have h26 : fr72 26 = (vB true) := (congrFun hf73 26).trans rfl
       clear hf73
       obtain rfl := Option.some.inj hr
       exact ⟨z, hz, st, rfl, h26, bx1, trivial⟩
      ·refine SeqW.consG rfl rfl rfl hc74 (kField rfl Try.underlying48 rfl Try.type3 rfl h1 rfl ?_)
       refine SeqW.consG rfl rfl rfl hc74 (kLoad rfl Try.underlying3 rfl rfl (bx1.load (v := (vI x1.goods)) rfl) ?_)
       refine SeqW.consG rfl rfl rfl hc74 (StepX.pure (pLss (k := .i64) (a := x1.goods) (b := 0) rfl rfl rfl) ?_)
       refine sx rfl (pPick (t := false) (v := (vB (decide (x1.goods < 0)))) rfl ((congrArg vB hc74)) rfl) ?_
       refine sx rfl (pMove (v := (vB (decide (x1.goods < 0)))) rfl rfl) ?_
       rcases if_some hr with ⟨hc75, hr⟩ | ⟨hc78, hr⟩
       ·refine kx rfl rfl rfl hc75 ?_
        iterate 2 refine kx rfl rfl rfl hc75 ?_
        refine sx rfl (pPick (t := true) (v := (vB true)) rfl ((congrArg vB hc75)) rfl) ?_
        refine sx rfl (pAssign (v := (vB true)) rfl rfl) ?_
        refine SeqW.done fun fr76 hf77 => ?_
        have h1 := (congrFun hf77 1).trans h1
        have h26 : fr76 26 = (vB true) := (congrFun hf77 26).trans rfl
        clear hf77
        obtain rfl := Option.some.inj hr
        exact ⟨z, hz, st, rfl, h26, bx1, trivial⟩
       ·refine SeqW.consG rfl rfl rfl hc78 (kField rfl Try.underlying48 rfl Try.type3 rfl h1 rfl ?_)
        refine SeqW.consG rfl rfl rfl hc78 (kLoad rfl Try.underlying3 rfl rfl (bx1.load (v := (vI x1.goods)) rfl) ?_)
        refine SeqW.consG rfl rfl rfl hc78 (StepX.pure (pGtr (k := .i64) (a := x1.goods) (b := 9) rfl rfl rfl) ?_)
        refine sx rfl (pPick (t := false) (v := (vB (decide (9 < x1.goods)))) rfl ((congrArg vB hc78)) rfl) ?_
        obtain ⟨y79, hy79, hr⟩ := lt_some hr
        refine sx rfl (pAssign rfl (congrArg vB hy79)) ?_
        refine SeqW.done fun fr80 hf81 => ?_
        have h1 := (congrFun hf81 1).trans h1
        have h26 : fr80 26 = (vB y79) := (congrFun hf81 26).trans rfl
        clear hf81
        obtain rfl := Option.some.inj hr
        exact ⟨z, hz, st, rfl, h26, bx1, trivial⟩

theorem u_r06_Valid {N : Nat}  {z0 z : Nat → Blk} {e m : Mem} {k : Option Nat} {fr : Nat → Value} {x0 : Wagon} (hz : Zx e.next z0 z) (st : St z e m k) (h0 : fr 0 = (Value.agg [(str x0.number), (vI x0.length), (vI x0.axles), (vI x0.mass), (vI x0.brake), (vI x0.goods), (vB x0.gentle), (str x0.dest)].toArray)) {r : Int} (hr : r06_Valid N x0 = some r) : W Try.prog (sub (bodyOf Try.f46) []) (fun ex fr' m' => ∃ z', Zx e.next z0 z' ∧ St z' e m' k ∧ (ex = .normal ∨ ex = .ret) ∧ fr' 2 = (vI r) ∧ True) fr m := by
 unfold r06_Valid at hr
 refine W.seq (W.region ?_)
 refine SeqW.consX rfl (kBox (v := (Value.agg [(str x0.number), (vI x0.length), (vI x0.axles), (vI x0.mass), (vI x0.brake), (vI x0.goods), (vB x0.gentle), (str x0.dest)].toArray)) rfl Try.type48 h0 rfl [(str x0.number), (vI x0.length), (vI x0.axles), (vI x0.mass), (vI x0.brake), (vI x0.goods), (vB x0.gentle), (str x0.dest)] rfl rfl st ?_)
 intro B1 m2 st X3 sm4 hap5
 refine sx rfl (pAssign (v := (vI 0)) rfl rfl) ?_
 refine SeqW.done fun fr7 hf8 => ?_
 have h1 : fr7 1 = (vP B1) := (congrFun hf8 1).trans rfl
 clear hf8
 refine thenQ.n (W.seq (W.region ?_))
 refine SeqW.consX rfl (kField rfl Try.underlying48 rfl Try.type9 rfl h1 rfl ?_)
 refine SeqW.consX rfl (kLoad rfl Try.underlying9 rfl rfl (X3.load (v := (str x0.number)) rfl) ?_)
 obtain ⟨y9, hy9, hr⟩ := bind_some hr
 refine SeqW.consX rfl (StepX.call (gCallee rfl rfl (args1 rfl)) ((c_r02_Kind (z := z) st.fz st.dead  hy9).mono ?_))
 rintro _ _ ⟨rfl, rfl⟩
 refine sx rfl (pMove (v := (Value.tuple [(vI y9.1), (vI y9.2)].toArray)) rfl rfl) ?_
 refine sx rfl (pExtract (vs := [(vI y9.1), (vI y9.2)]) (v := (vI y9.1)) rfl rfl rfl) ?_
 refine sx rfl (pExtract (vs := [(vI y9.1), (vI y9.2)]) (v := (vI y9.2)) rfl rfl rfl) ?_
 refine sx rfl (pAssign (v := (vI y9.1)) rfl rfl) ?_
 refine sx rfl (pAssign (v := (vI y9.2)) rfl rfl) ?_
 refine SeqW.done fun fr10 hf11 => ?_
 have h1 := (congrFun hf11 1).trans h1
 have h3 : fr10 3 = (vI y9.1) := (congrFun hf11 3).trans rfl
 have h4 : fr10 4 = (vI y9.2) := (congrFun hf11 4).trans rfl
 clear hf11
 refine thenQ.n (W.seq ?_)
 refine W.seq (W.region ?_)
 refine sx rfl (pMove (v := (vI y9.2)) rfl h4) ?_
 refine sx rfl (pNeq (k := .i64) (a := y9.2) (b := 0) rfl rfl rfl) ?_
 refine SeqW.done fun fr12 hf13 => ?_
 have h1 := (congrFun hf13 1).trans h1
 have h3 := (congrFun hf13 3).trans h3
 have h4 := (congrFun hf13 4).trans h4
 have h14 : fr12 14 = (vB (y9.2 != 0)) := (congrFun hf13 14).trans rfl
 clear hf13
 refine thenQ.n ?_
 rcases if_some hr with ⟨hc14, hr⟩ | ⟨hc17, hr⟩
 ·refine W.condT h14 hc14 (W.seq (W.region ?_))
  refine sx rfl (pMove (v := (vI y9.2)) rfl h4) ?_
  refine sx rfl (pAssign (v := (vI y9.2)) rfl rfl) ?_
  refine SeqW.done fun fr15 hf16 => ?_
  have h2 : fr15 2 = (vI y9.2) := (congrFun hf16 2).trans rfl
  clear hf16
  refine thenQ.n ?_
  refine W.ret ?_
  refine thenQ.r ?_
  obtain rfl := Option.some.inj hr
  exact ⟨z, hz, st, .inr rfl, h2, trivial⟩
 ·refine W.condF h14 hc17 (W.skip ?_)
  refine thenQ.n (W.seq (W.region ?_))
  refine sx rfl (pAssign (v := (vI 4)) rfl rfl) ?_
  refine sx rfl (pAssign (v := (vI 80)) rfl rfl) ?_
  refine SeqW.done fun fr18 hf19 => ?_
  have h1 := (congrFun hf19 1).trans h1
  have h3 := (congrFun hf19 3).trans h3
  have h5 : fr18 5 = (vI 4) := (congrFun hf19 5).trans rfl
  have h6 : fr18 6 = (vI 80) := (congrFun hf19 6).trans rfl
  clear hf19
  refine thenQ.n (W.seq ?_)
  refine W.seq (W.region ?_)
  refine sx rfl (pMove (v := (vI y9.1)) rfl h3) ?_
  refine SeqW.done fun fr20 hf21 => ?_
  have h1 := (congrFun hf21 1).trans h1
  have h5 := (congrFun hf21 5).trans h5
  have h6 := (congrFun hf21 6).trans h6
  have h16 : fr20 16 = (vI y9.1) := (congrFun hf21 16).trans rfl
  clear hf21
  refine thenQ.n ?_
  obtain ⟨y36, hy36, hr⟩ := bind_some hr
  refine W.keep (u_r06_Valid_0 (x1 := x0) (Zx.refl _) st h1 X3 h5 h6 h16 hy36) ?_
  rintro ex42 fr37 m38 hk40 ⟨z39, hz41, st, rfl, h5, h6, O43, -⟩
  have h1 := (hk40 1 rfl).trans h1
  replace hz := hz.trans hz41
  clear hk40
  refine thenQ.n (W.seq ?_)
  refine W.block ?_
  refine W.seq (W.region ?_)
  refine SeqW.consX rfl (kField rfl Try.underlying48 rfl Try.type3 rfl h1 rfl ?_)
  refine SeqW.consX rfl (kLoad rfl Try.underlying3 rfl rfl (O43.load (v := (vI x0.axles)) rfl) ?_)
  refine sx rfl (pMove (v := (vI y36.1)) rfl h5) ?_
  refine sx rfl (pNeq (k := .i64) (a := x0.axles) (b := y36.1) rfl rfl rfl) ?_
  obtain ⟨y44, hy44, hr⟩ := lt_some hr
  refine sx rfl (pAssign rfl (congrArg vB hy44)) ?_
  refine SeqW.done fun fr45 hf46 => ?_
  have h1 := (congrFun hf46 1).trans h1
  have h6 := (congrFun hf46 6).trans h6
  have h21 : fr45 21 = (vB y44) := (congrFun hf46 21).trans rfl
  clear hf46
  refine thenQ.n ?_
  rcases if_some hr with ⟨hc47, hr⟩ | ⟨hc50, hr⟩
  ·refine W.condT h21 hc47 (W.seq (W.region ?_))
   refine sx rfl (pAssign (v := (vI 1)) rfl rfl) ?_
   refine SeqW.done fun fr48 hf49 => ?_
   have h2 : fr48 2 = (vI 1) := (congrFun hf49 2).trans rfl
   clear hf49
   refine thenQ.n ?_
   refine W.ret ?_
   refine blockQ.r ?_
   refine thenQ.r ?_
   obtain rfl := Option.some.inj hr
   exact ⟨z39, hz, st, .inr rfl, h2, trivial⟩
  ·refine W.condF h21 hc50 (W.seq ?_)
   obtain ⟨y82, hy82, hr⟩ := bind_some hr
   refine W.keep (u_r06_Valid_1 (x1 := x0) (Zx.refl _) st h1 O43 h6 hy82) ?_
   rintro ex88 fr83 m84 hk86 ⟨z85, hz87, st, rfl, h26, O89, -⟩
   have h1 := (hk86 1 rfl).trans h1
   replace hz := hz.trans hz87
   clear hk86
   refine thenQ.n ?_
   rcases if_some hr with ⟨hc90, hr⟩ | ⟨hc93, hr⟩
   ·refine W.condT h26 hc90 (W.seq (W.region ?_))
    refine sx rfl (pAssign (v := (vI 2)) rfl rfl) ?_
    refine SeqW.done fun fr91 hf92 => ?_
    have h2 : fr91 2 = (vI 2) := (congrFun hf92 2).trans rfl
    clear hf92
    refine thenQ.n ?_
    refine W.ret ?_
    refine blockQ.r ?_
    refine thenQ.r ?_
    obtain rfl := Option.some.inj hr
    exact ⟨z85, hz, st, .inr rfl, h2, trivial⟩
   ·refine W.condF h26 hc93 (W.seq (W.region ?_))
    refine SeqW.consX rfl (kField rfl Try.underlying48 rfl Try.type9 rfl h1 rfl ?_)
    refine SeqW.consX rfl (kLoad rfl Try.underlying9 rfl rfl (O89.load (v := (str x0.dest)) rfl) ?_)
    obtain ⟨y94, hy94, hr⟩ := bind_some hr
    refine SeqW.consX rfl (StepX.call (gCallee rfl rfl (args1 rfl)) ((c_r06_Name (z := z85) st.fz st.dead  hy94).mono ?_))
    rintro _ _ ⟨rfl, rfl⟩
    refine sx rfl (pNot (b := y94) rfl rfl) ?_
    obtain ⟨y95, hy95, hr⟩ := lt_some hr
    refine sx rfl (pAssign rfl (congrArg vB hy95)) ?_
    refine SeqW.done fun fr96 hf97 => ?_
    have h68 : fr96 68 = (vB y95) := (congrFun hf97 68).trans rfl
    clear hf97
    refine thenQ.n ?_
    rcases if_some hr with ⟨hc98, hr⟩ | ⟨hc101, hr⟩
    ·refine W.condT h68 hc98 (W.seq (W.region ?_))
     refine sx rfl (pAssign (v := (vI 7)) rfl rfl) ?_
     refine SeqW.done fun fr99 hf100 => ?_
     have h2 : fr99 2 = (vI 7) := (congrFun hf100 2).trans rfl
     clear hf100
     refine thenQ.n ?_
     refine W.ret ?_
     refine blockQ.r ?_
     refine thenQ.r ?_
     obtain rfl := Option.some.inj hr
     exact ⟨z85, hz, st, .inr rfl, h2, trivial⟩
    ·refine W.condF h68 hc101 (W.skip ?_)
     refine blockQ.n ?_
     refine thenQ.n (W.seq (W.region ?_))
     refine sx rfl (pAssign (v := (vI 0)) rfl rfl) ?_
     refine SeqW.done fun fr102 hf103 => ?_
     have h2 : fr102 2 = (vI 0) := (congrFun hf103 2).trans rfl
     clear hf103
     refine thenQ.n ?_
     refine W.ret ?_
     obtain rfl := Option.some.inj hr
     exact ⟨z85, hz, st, .inr rfl, h2, trivial⟩

theorem c_r06_Valid {N : Nat} {z : Nat → Blk} {m : Mem} {x0 : Wagon} (fz : Fz z m) (hd : ∀ b, m.next ≤ b → m.blk b = .dead)  {r : Int} (hr : r06_Valid N x0 = some r) : CallW Try.prog 46 #[(Value.agg [(str x0.number), (vI x0.length), (vI x0.axles), (vI x0.mass), (vI x0.brake), (vI x0.goods), (vB x0.gentle), (str x0.dest)].toArray)] m fun v m' => v = (vI r) ∧ m' = m := by
 refine CallW.flat Try.func46 rfl (by kernel_rfl) (Nat.le_of_ble_eq_true rfl) rfl (z := z) (fun fr hf => ?_)
 have h0 : fr 0 = _ := hf 0 _ rfl
 refine (u_r06_Valid (k := none) (Zx.refl _) (St.start fz hd) h0 hr).mono ?_
 rintro ex fr' m' ⟨z', hz, st, he, h2, -⟩
 exact ⟨he, z', st, [(vI r)], ⟨h2.symm, trivial⟩, .inl rfl, rfl⟩

/-! ### humpyard/humpyardref06.ValidList -/

theorem u_r06_ValidList_1 : ∀ (n : Nat) {N : Nat}  {z0 z : Nat → Blk} {e m : Mem} {k : Option Nat} {fr : Nat → Value} {x0 : List Wagon} {x3 : Int} {x5 : Int} {v0 : Value} (hz : Zx e.next z0 z) (st : St z e m k) (h0 : fr 0 = v0) (s0 : SlR TWagon z x0 v0) (h3 : fr 3 = (vI x3)) (h5 : fr 5 = (vI x5)) {r : Sum (Unit) (Int)} (hr : r06_ValidList_1 N x0 x3 n x5 = some r), W Try.prog (sub (bodyOf Try.f42) [1, 1, 0, 1, 0, 0, 1, 0, 0, 1, 1, 0]) (fun ex fr' m' => ∃ z', Zx e.next z0 z' ∧ St z' e m' k ∧ ((∃ q, r = Sum.inl q ∧ ex = AExit.exit 2 ∧ True) ∨ (∃ q, r = Sum.inr q ∧ ex = AExit.ret ∧ fr' 2 = (vI q) ∧ True))) fr m := by
 intro n
 induction n with
 | zero => intro N z0 z e m k fr x0 x3 x5 v0 hz st h0 s0 h3 h5 r hr; cases (show (none : Option _) = some r from hr)
 | succ n ih =>
  intro N z0 z e m k fr x0 x3 x5 v0 hz st h0 s0 h3 h5 r hr
  unfold r06_ValidList_1 at hr
  refine W.loop1 ?_
  refine W.seq (W.seq (W.region ?_))
  refine sx rfl (pMove (v := (vI x5)) rfl h5) ?_
  refine sx rfl (pMove (v := (vI x3)) rfl h3) ?_
  refine sx rfl (pLss (k := .i64) (a := x5) (b := x3) rfl rfl rfl) ?_
  refine SeqW.done fun fr31 hf32 => ?_
  have h0 := (congrFun hf32 0).trans h0
  have h3 := (congrFun hf32 3).trans h3
  have h5 := (congrFun hf32 5).trans h5
  have h25 : fr31 25 = (vB (decide (x5 < x3))) := (congrFun hf32 25).trans rfl
  clear hf32
  refine thenQ.n ?_
  rcases if_some hr with ⟨hc33, hr⟩ | ⟨hc55, hr⟩
  ·refine W.condT h25 hc33 (W.skip ?_)
   refine thenQ.n (W.seq ?_)
   refine W.block ?_
   refine W.seq ?_
   refine W.calm (by decide) ?_
   refine sx rfl (pMove (v := v0) rfl h0) ?_
   refine sx rfl (pMove (v := (vI x5)) rfl h5) ?_
   obtain ⟨y34, hy34, hr⟩ := bind_some hr
   refine SeqW.consX rfl (kIdxR (T := TWagon) (xs := x0) (n := x5) rfl Try.underlying25 Try.type48 rfl rfl rfl s0 hy34 ?_)
   intro B35 f36 cs37 hd38 hc39
   obtain rfl := hd38
   refine SeqW.consX rfl (kField rfl Try.underlying48 rfl Try.type9 rfl rfl rfl ?_)
   refine SeqW.consX rfl (kLoad (v := (str y34.number)) rfl Try.underlying9 rfl rfl (ldz_load st.fz (hc39 0 _ rfl)) ?_)
   refine sx rfl (pMove (v := v0) rfl h0) ?_
   refine sx rfl (pMove (v := (vI x3)) rfl h3) ?_
   obtain ⟨y40, hy40, hr⟩ := bind_some hr
   refine SeqW.consX rfl (kIdxR (T := TWagon) (xs := x0) (n := x3) rfl Try.underlying25 Try.type48 rfl rfl rfl s0 hy40 ?_)
   intro B41 f42 cs43 hd44 hc45
   obtain rfl := hd44
   refine SeqW.consX rfl (kField rfl Try.underlying48 rfl Try.type9 rfl rfl rfl ?_)
   refine SeqW.consX rfl (kLoad (v := (str y40.number)) rfl Try.underlying9 rfl rfl (ldz_load st.fz (hc45 0 _ rfl)) ?_)
   refine sx rfl (pEqlS (s := y34.number) (r := y40.number) rfl rfl rfl) ?_
   refine SeqW.done fun fr46 hf47 => ?_
   have h0 := (congrFun hf47 0).trans h0
   have h3 := (congrFun hf47 3).trans h3
   have h5 := (congrFun hf47 5).trans h5
   have h38 : fr46 38 = (vB (y34.number == y40.number)) := (congrFun hf47 38).trans rfl
   clear hf47
   refine thenQ.n ?_
   rcases if_some hr with ⟨hc48, hr⟩ | ⟨hc51, hr⟩
   ·refine W.condT h38 hc48 (W.seq (W.region ?_))
    refine sx rfl (pAssign (v := (vI 8)) rfl rfl) ?_
    refine SeqW.done fun fr49 hf50 => ?_
    have h2 : fr49 2 = (vI 8) := (congrFun hf50 2).trans rfl
    clear hf50
    refine thenQ.n ?_
    refine W.ret ?_
    refine blockQ.r ?_
    refine thenQ.r ?_
    refine thenQ.r ?_
    obtain rfl := Option.some.inj hr
    exact ⟨z, hz, st, .inr ⟨_, rfl, rfl, h2, trivial⟩⟩
   ·refine W.condF h38 hc51 (W.skip ?_)
    refine blockQ.n ?_
    refine thenQ.n (W.region ?_)
    refine sx rfl (pMove (v := (vI x5)) rfl h5) ?_
    refine sx rfl (pAdd (k := .i64) (a := x5) (b := 1) rfl rfl rfl) ?_
    obtain ⟨y52, hy52, hr⟩ := lt_some hr
    refine sx rfl (pAssign rfl (congrArg (Value.int .i64) hy52)) ?_
    refine SeqW.done fun fr53 hf54 => ?_
    have h0 := (congrFun hf54 0).trans h0
    have h3 := (congrFun hf54 3).trans h3
    have h5 : fr53 5 = (vI y52) := (congrFun hf54 5).trans rfl
    clear hf54
    refine thenQ.n ?_
    exact ih hz st h0 s0 h3 h5 hr
  ·refine W.condF h25 hc55 ?_
   refine W.exit ?_
   refine thenQ.x ?_
   refine thenQ.x ?_
   obtain rfl := Option.some.inj hr
   exact ⟨z, hz, st, .inl ⟨_, rfl, rfl, trivial⟩⟩

theorem u_r06_ValidList_0 : ∀ (n : Nat) {N : Nat}  {z0 z : Nat → Blk} {e m : Mem} {k : Option Nat} {fr : Nat → Value} {x0 : List Wagon} {x3 : Int} {v0 : Value} (hz : Zx e.next z0 z) (st : St z e m k) (h0 : fr 0 = v0) (s0 : SlR TWagon z x0 v0) (h3 : fr 3 = (vI x3)) {r : Sum (Unit) (Int)} (hr : r06_ValidList_0 N x0 n x3 = some r), W Try.prog (sub (bodyOf Try.f42) [1, 1, 0, 1, 0]) (fun ex fr' m' => ∃ z', Zx e.next z0 z' ∧ St z' e m' k ∧ ((∃ q, r = Sum.inl q ∧ ex = AExit.exit 0 ∧ True) ∨ (∃ q, r = Sum.inr q ∧ ex = AExit.ret ∧ fr' 2 = (vI q) ∧ True))) fr m := by
 intro n
 induction n with
 | zero => intro N z0 z e m k fr x0 x3 v0 hz st h0 s0 h3 r hr; cases (show (none : Option _) = some r from hr)
 | succ n ih =>
  intro N z0 z e m k fr x0 x3 v0 hz st h0 s0 h3 r hr
  unfold r06_ValidList_0 at hr
  refine W.loop1 ?_
  refine W.seq (W.seq (W.region ?_))
  refine sx rfl (pMove (v := (vI x3)) rfl h3) ?_
  refine sx rfl (pMove (v := v0) rfl h0) ?_
  refine sx rfl (pLenR (xs := x0) rfl Try.underlying25 rfl s0) ?_
  refine sx rfl (pLss (k := .i64) (a := x3) (b := (x0.length : Int)) rfl rfl rfl) ?_
  refine SeqW.done fun fr11 hf12 => ?_
  have h0 := (congrFun hf12 0).trans h0
  have h3 := (congrFun hf12 3).trans h3
  have h12 : fr11 12 = (vB (decide (x3 < (x0.length : Int)))) := (congrFun hf12 12).trans rfl
  clear hf12
  refine thenQ.n ?_
  rcases if_some hr with ⟨hc13, hr⟩ | ⟨hc68, hr⟩
  ·refine W.condT h12 hc13 (W.skip ?_)
   refine thenQ.n (W.seq ?_)
   refine W.block ?_
   refine W.seq (W.seq (W.region ?_))
   refine sx rfl (pMove (v := v0) rfl h0) ?_
   refine sx rfl (pMove (v := (vI x3)) rfl h3) ?_
   obtain ⟨y14, hy14, hr⟩ := bind_some hr
   refine SeqW.consX rfl (kIdxR (T := TWagon) (xs := x0) (n := x3) rfl Try.underlying25 Try.type48 rfl rfl rfl s0 hy14 ?_)
   intro B15 f16 cs17 hd18 hc19
   obtain rfl := hd18
   refine SeqW.consX rfl (kLoadA rfl Try.underlying48 rfl Try.type48 rfl rfl (st.loads hc19) ?_)
   obtain ⟨y20, hy20, hr⟩ := bind_some hr
   refine SeqW.consX rfl (StepX.call (gCallee rfl rfl (args1 rfl)) ((c_r06_Valid (x0 := y14) (z := z) st.fz st.dead  hy20).mono ?_))
   rintro _ _ ⟨rfl, rfl⟩
   refine sx rfl (pAssign (v := (vI y20)) rfl rfl) ?_
   refine SeqW.done fun fr21 hf22 => ?_
   have h0 := (congrFun hf22 0).trans h0
   have h3 := (congrFun hf22 3).trans h3
   have h4 : fr21 4 = (vI y20) := (congrFun hf22 4).trans rfl
   clear hf22
   refine thenQ.n (W.seq (W.region ?_))
   refine sx rfl (pMove (v := (vI y20)) rfl h4) ?_
   refine sx rfl (pNeq (k := .i64) (a := y20) (b := 0) rfl rfl rfl) ?_
   refine SeqW.done fun fr23 hf24 => ?_
   have h0 := (congrFun hf24 0).trans h0
   have h3 := (congrFun hf24 3).trans h3
   have h4 := (congrFun hf24 4).trans h4
   have h21 : fr23 21 = (vB (y20 != 0)) := (congrFun hf24 21).trans rfl
   clear hf24
   refine thenQ.n ?_
   rcases if_some hr with ⟨hc25, hr⟩ | ⟨hc28, hr⟩
   ·refine W.condT h21 hc25 (W.seq (W.region ?_))
    refine sx rfl (pMove (v := (vI y20)) rfl h4) ?_
    refine sx rfl (pAssign (v := (vI y20)) rfl rfl) ?_
    refine SeqW.done fun fr26 hf27 => ?_
    have h2 : fr26 2 = (vI y20) := (congrFun hf27 2).trans rfl
    clear hf27
    refine thenQ.n ?_
    refine W.ret ?_
    refine thenQ.r ?_
    refine blockQ.r ?_
    refine thenQ.r ?_
    refine thenQ.r ?_
    obtain rfl := Option.some.inj hr
    exact ⟨z, hz, st, .inr ⟨_, rfl, rfl, h2, trivial⟩⟩
   ·refine W.condF h21 hc28 (W.skip ?_)
    refine thenQ.n (W.seq (W.region ?_))
    refine sx rfl (pAssign (v := (vI 0)) rfl rfl) ?_
    refine SeqW.done fun fr29 hf30 => ?_
    have h0 := (congrFun hf30 0).trans h0
    have h3 := (congrFun hf30 3).trans h3
    have h5 : fr29 5 = (vI 0) := (congrFun hf30 5).trans rfl
    clear hf30
    refine thenQ.n ?_
    refine W.block ?_
    obtain ⟨y56, hy56, hr⟩ := bind_some hr
    refine W.keep (u_r06_ValidList_1 _ (Zx.refl _) st h0 s0 h3 h5 hy56) ?_
    rintro ex62 fr57 m58 hk60 ⟨z59, hz61, st, ⟨y63, rfl, rfl, -⟩ | ⟨y67, rfl, rfl, h2, -⟩⟩
    ·dsimp only at hr
     replace s0 := s0.mono hz61.le
     have h0 := (hk60 0 rfl).trans h0
     have h3 := (hk60 3 rfl).trans h3
     replace hz := hz.trans hz61
     clear hk60
     refine blockQ.hit ?_
     refine blockQ.n ?_
     refine thenQ.n (W.region ?_)
     refine sx rfl (pMove (v := (vI x3)) rfl h3) ?_
     refine sx rfl (pAdd (k := .i64) (a := x3) (b := 1) rfl rfl rfl) ?_
     obtain ⟨y64, hy64, hr⟩ := lt_some hr
     refine sx rfl (pAssign rfl (congrArg (Value.int .i64) hy64)) ?_
     refine SeqW.done fun fr65 hf66 => ?_
     have h0 := (congrFun hf66 0).trans h0
     have h3 : fr65 3 = (vI y64) := (congrFun hf66 3).trans rfl
     clear hf66
     refine thenQ.n ?_
     exact ih hz st h0 s0 h3 hr
    ·dsimp only at hr
     replace hz := hz.trans hz61
     clear hk60
     refine blockQ.r ?_
     refine blockQ.r ?_
     refine thenQ.r ?_
     refine thenQ.r ?_
     obtain rfl := Option.some.inj hr
     exact ⟨z59, hz, st, .inr ⟨_, rfl, rfl, h2, trivial⟩⟩
  ·refine W.condF h12 hc68 ?_
   refine W.exit ?_
   refine thenQ.x ?_
   refine thenQ.x ?_
   obtain rfl := Option.some.inj hr
   exact ⟨z, hz, st, .inl ⟨_, rfl, rfl, trivial⟩⟩

theorem u_r06_ValidList {N : Nat}  {z0 z : Nat → Blk} {e m : Mem} {k : Option Nat} {fr : Nat → Value} {x0 : List Wagon} {v0 : Value} (hz : Zx e.next z0 z) (st : St z e m k) (h0 : fr 0 = v0) (s0 : SlR TWagon z x0 v0) {r : Int} (hr : r06_ValidList N x0 = some r) : W Try.prog (sub (bodyOf Try.f42) []) (fun ex fr' m' => ∃ z', Zx e.next z0 z' ∧ St z' e m' k ∧ (ex = .normal ∨ ex = .ret) ∧ fr' 2 = (vI r) ∧ True) fr m := by
 unfold r06_ValidList at hr
 refine W.seq (W.region ?_)
 refine sx rfl (pAssign (v := (vI 0)) rfl rfl) ?_
 refine SeqW.done fun fr1 hf2 => ?_
 have h0 := (congrFun hf2 0).trans h0
 clear hf2
 refine thenQ.n (W.seq ?_)
 refine W.seq (W.region ?_)
 refine sx rfl (pMove (v := v0) rfl h0) ?_
 refine sx rfl (pLenR (xs := x0) rfl Try.underlying25 rfl s0) ?_
 refine sx rfl (pGtr (k := .i64) (a := (x0.length : Int)) (b := 96) rfl rfl rfl) ?_
 refine SeqW.done fun fr3 hf4 => ?_
 have h0 := (congrFun hf4 0).trans h0
 have h8 : fr3 8 = (vB (decide (96 < (x0.length : Int)))) := (congrFun hf4 8).trans rfl
 clear hf4
 refine thenQ.n ?_
 rcases if_some hr with ⟨hc5, hr⟩ | ⟨hc8, hr⟩
 ·refine W.condT h8 hc5 (W.seq (W.region ?_))
  refine sx rfl (pAssign (v := (vI 3)) rfl rfl) ?_
  refine SeqW.done fun fr6 hf7 => ?_
  have h2 : fr6 2 = (vI 3) := (congrFun hf7 2).trans rfl
  clear hf7
  refine thenQ.n ?_
  refine W.ret ?_
  refine thenQ.r ?_
  obtain rfl := Option.some.inj hr
  exact ⟨z, hz, st, .inr rfl, h2, trivial⟩
 ·refine W.condF h8 hc8 (W.skip ?_)
  refine thenQ.n (W.seq ?_)
  refine W.seq (W.region ?_)
  refine sx rfl (pAssign (v := (vI 0)) rfl rfl) ?_
  refine SeqW.done fun fr9 hf10 => ?_
  have h0 := (congrFun hf10 0).trans h0
  have h3 : fr9 3 = (vI 0) := (congrFun hf10 3).trans rfl
  clear hf10
  refine thenQ.n ?_
  refine W.block ?_
  obtain ⟨y69, hy69, hr⟩ := bind_some hr
  refine W.keep (u_r06_ValidList_0 _ (Zx.refl _) st h0 s0 h3 hy69) ?_
  rintro ex75 fr70 m71 hk73 ⟨z72, hz74, st, ⟨y76, rfl, rfl, -⟩ | ⟨y79, rfl, rfl, h2, -⟩⟩
  ·dsimp only at hr
   replace hz := hz.trans hz74
   clear hk73
   refine blockQ.hit ?_
   refine thenQ.n (W.seq (W.region ?_))
   refine sx rfl (pAssign (v := (vI 0)) rfl rfl) ?_
   refine SeqW.done fun fr77 hf78 => ?_
   have h2 : fr77 2 = (vI 0) := (congrFun hf78 2).trans rfl
   clear hf78
   refine thenQ.n ?_
   refine W.ret ?_
   obtain rfl := Option.some.inj hr
   exact ⟨z72, hz, st, .inr rfl, h2, trivial⟩
  ·dsimp only at hr
   replace hz := hz.trans hz74
   clear hk73
   refine blockQ.r ?_
   refine thenQ.r ?_
   obtain rfl := Option.some.inj hr
   exact ⟨z72, hz, st, .inr rfl, h2, trivial⟩

theorem c_r06_ValidList {N : Nat} {z : Nat → Blk} {m : Mem} {x0 : List Wagon} {v0 : Value} (fz : Fz z m) (hd : ∀ b, m.next ≤ b → m.blk b = .dead) (s0 : SlR TWagon z x0 v0) {r : Int} (hr : r06_ValidList N x0 = some r) : CallW Try.prog 42 #[v0] m fun v m' => v = (vI r) ∧ m' = m := by
 refine CallW.flat Try.func42 rfl (by kernel_rfl) (Nat.le_of_ble_eq_true rfl) rfl (z := z) (fun fr hf => ?_)
 have h0 : fr 0 = _ := hf 0 _ rfl
 refine (u_r06_ValidList (k := none) (Zx.refl _) (St.start fz hd) h0 s0 hr).mono ?_
 rintro ex fr' m' ⟨z', hz, st, he, h2, -⟩
 exact ⟨he, z', st, [(vI r)], ⟨h2.symm, trivial⟩, .inl rfl, rfl⟩

/-! ### humpyard/humpyardref06.Total -/

theorem u_r06_Total_0 : ∀ (n : Nat) {N : Nat}  {z0 z : Nat → Blk} {e m : Mem} {k : Option Nat} {fr : Nat → Value} {x0 : List Wagon} {x2 : Int} {x3 : Int} {x4 : Int} {x7 : Int} {v0 : Value} (hz : Zx e.next z0 z) (st : St z e m k) (h0 : fr 0 = v0) (s0 : SlR TWagon z x0 v0) (h2 : fr 2 = (vI x2)) (h3 : fr 3 = (vI x3)) (h4 : fr 4 = (vI x4)) (h7 : fr 7 = (vI x7)) {r : Int × Int × Int} (hr : r06_Total_0 N x0 n x2 x3 x4 x7 = some r), W Try.prog (sub (bodyOf Try.f37) [1, 1, 0, 1, 0]) (fun ex fr' m' => ∃ z', Zx e.next z0 z' ∧ St z' e m' k ∧ ex = AExit.exit 0 ∧ fr' 2 = (vI r.1) ∧ fr' 3 = (vI r.2.1) ∧ fr' 4 = (vI r.2.2) ∧ True) fr m := by
 intro n
 induction n with
 | zero => intro N z0 z e m k fr x0 x2 x3 x4 x7 v0 hz st h0 s0 h2 h3 h4 h7 r hr; cases (show (none : Option _) = some r from hr)
 | succ n ih =>
  intro N z0 z e m k fr x0 x2 x3 x4 x7 v0 hz st h0 s0 h2 h3 h4 h7 r hr
  unfold r06_Total_0 at hr
  refine W.loop1 ?_
  refine W.seq (W.seq (W.region ?_))
  refine sx rfl (pMove (v := (vI x7)) rfl h7) ?_
  refine sx rfl (pMove (v := v0) rfl h0) ?_
  refine sx rfl (pLenR (xs := x0) rfl Try.underlying25 rfl s0) ?_
  refine sx rfl (pLss (k := .i64) (a := x7) (b := (x0.length : Int)) rfl rfl rfl) ?_
  refine SeqW.done fun fr14 hf15 => ?_
  have h0 := (congrFun hf15 0).trans h0
  have h2 := (congrFun hf15 2).trans h2
  have h3 := (congrFun hf15 3).trans h3
  have h4 := (congrFun hf15 4).trans h4
  have h7 := (congrFun hf15 7).trans h7
  have h16 : fr14 16 = (vB (decide (x7 < (x0.length : Int)))) := (congrFun hf15 16).trans rfl
  clear hf15
  refine thenQ.n ?_
  rcases if_some hr with ⟨hc16, hr⟩ | ⟨hc47, hr⟩
  ·refine W.condT h16 hc16 (W.skip ?_)
   refine thenQ.n (W.seq ?_)
   refine W.block ?_
   refine W.seq (W.region ?_)
   refine sx rfl (pMove (v := (vI x2)) rfl h2) ?_
   refine sx rfl (pMove (v := v0) rfl h0) ?_
   refine sx rfl (pMove (v := (vI x7)) rfl h7) ?_
   obtain ⟨y17, hy17, hr⟩ := bind_some hr
   refine SeqW.consX rfl (kIdxR (T := TWagon) (xs := x0) (n := x7) rfl Try.underlying25 Try.type48 rfl rfl rfl s0 hy17 ?_)
   intro B18 f19 cs20 hd21 hc22
   obtain rfl := hd21
   refine SeqW.consX rfl (kField rfl Try.underlying48 rfl Try.type3 rfl rfl rfl ?_)
   refine SeqW.consX rfl (kLoad (v := (vI y17.length)) rfl Try.underlying3 rfl rfl (ldz_load st.fz (hc22 1 _ rfl)) ?_)
   refine sx rfl (pAdd (k := .i64) (a := x2) (b := y17.length) rfl rfl rfl) ?_
   obtain ⟨y23, hy23, hr⟩ := lt_some hr
   refine sx rfl (pAssign rfl (congrArg (Value.int .i64) hy23)) ?_
   refine SeqW.done fun fr24 hf25 => ?_
   have h0 := (congrFun hf25 0).trans h0
   have h2 : fr24 2 = (vI y23) := (congrFun hf25 2).trans rfl
   have h3 := (congrFun hf25 3).trans h3
   have h4 := (congrFun hf25 4).trans h4
   have h7 := (congrFun hf25 7).trans h7
   clear hf25
   refine thenQ.n (W.seq (W.region ?_))
   refine sx rfl (pMove (v := (vI x3)) rfl h3) ?_
   refine sx rfl (pMove (v := v0) rfl h0) ?_
   refine sx rfl (pMove (v := (vI x7)) rfl h7) ?_
   obtain ⟨y26, hy26, hr⟩ := bind_some hr
   refine SeqW.consX rfl (kIdxR (T := TWagon) (xs := x0) (n := x7) rfl Try.underlying25 Try.type48 rfl rfl rfl s0 hy26 ?_)
   intro B27 f28 cs29 hd30 hc31
   obtain rfl := hd30
   refine SeqW.consX rfl (kField rfl Try.underlying48 rfl Try.type3 rfl rfl rfl ?_)
   refine SeqW.consX rfl (kLoad (v := (vI y26.mass)) rfl Try.underlying3 rfl rfl (ldz_load st.fz (hc31 3 _ rfl)) ?_)
   refine sx rfl (pAdd (k := .i64) (a := x3) (b := y26.mass) rfl rfl rfl) ?_
   obtain ⟨y32, hy32, hr⟩ := lt_some hr
   refine sx rfl (pAssign rfl (congrArg (Value.int .i64) hy32)) ?_
   refine SeqW.done fun fr33 hf34 => ?_
   have h0 := (congrFun hf34 0).trans h0
   have h2 := (congrFun hf34 2).trans h2
   have h3 : fr33 3 = (vI y32) := (congrFun hf34 3).trans rfl
   have h4 := (congrFun hf34 4).trans h4
   have h7 := (congrFun hf34 7).trans h7
   clear hf34
   refine thenQ.n (W.region ?_)
   refine sx rfl (pMove (v := (vI x4)) rfl h4) ?_
   refine sx rfl (pMove (v := v0) rfl h0) ?_
   refine sx rfl (pMove (v := (vI x7)) rfl h7) ?_
   obtain ⟨y35, hy35, hr⟩ := bind_some hr
   refine SeqW.consX rfl (kIdxR (T := TWagon) (xs := x0) (n := x7) rfl Try.underlying25 Try.type48 rfl rfl rfl s0 hy35 ?_)
   intro B36 f37 cs38 hd39 hc40
   obtain rfl := hd39
   refine SeqW.consX rfl (kField rfl Try.underlying48 rfl Try.type3 rfl rfl rfl ?_)
   refine SeqW.consX rfl (kLoad (v := (vI y35.axles)) rfl Try.underlying3 rfl rfl (ldz_load st.fz (hc40 2 _ rfl)) ?_)
   refine sx rfl (pAdd (k := .i64) (a := x4) (b := y35.axles) rfl rfl rfl) ?_
   obtain ⟨y41, hy41, hr⟩ := lt_some hr
   refine sx rfl (pAssign rfl (congrArg (Value.int .i64) hy41)) ?_
   refine SeqW.done fun fr42 hf43 => ?_
   have h0 := (congrFun hf43 0).trans h0
   have h2 := (congrFun hf43 2).trans h2
   have h3 := (congrFun hf43 3).trans h3
   have h4 : fr42 4 = (vI y41) := (congrFun hf43 4).trans rfl
   have h7 := (congrFun hf43 7).trans h7
   clear hf43
   refine blockQ.n ?_
   refine thenQ.n (W.region ?_)
   refine sx rfl (pMove (v := (vI x7)) rfl h7) ?_
   refine sx rfl (pAdd (k := .i64) (a := x7) (b := 1) rfl rfl rfl) ?_
   obtain ⟨y44, hy44, hr⟩ := lt_some hr
   refine sx rfl (pAssign rfl (congrArg (Value.int .i64) hy44)) ?_
   refine SeqW.done fun fr45 hf46 => ?_
   have h0 := (congrFun hf46 0).trans h0
   have h2 := (congrFun hf46 2).trans h2
   have h3 := (congrFun hf46 3).trans h3
   have h4 := (congrFun hf46 4).trans h4
   have h7 : fr45 7 = (vI y44) := (congrFun hf46 7).trans rfl
   clear hf46
   refine thenQ.n ?_
   exact ih hz st h0 s0 h2 h3 h4 h7 hr
  ·refine W.condF h16 hc47 ?_
   refine W.exit ?_
   refine thenQ.x ?_
   refine thenQ.x ?_
   obtain rfl := Option.some.inj hr
   exact ⟨z, hz, st, rfl, h2, h3, h4, trivial⟩

theorem u_r06_Total {N : Nat}  {z0 z : Nat → Blk} {e m : Mem} {k : Option Nat} {fr : Nat → Value} {x0 : List Wagon} {v0 : Value} (hz : Zx e.next z0 z) (st : St z e m k) (h0 : fr 0 = v0) (s0 : SlR TWagon z x0 v0) {r : Int × Int × Int × Int} (hr : r06_Total N x0 = some r) : W Try.prog (sub (bodyOf Try.f37) []) (fun ex fr' m' => ∃ z', Zx e.next z0 z' ∧ St z' e m' k ∧ (ex = .normal ∨ ex = .ret) ∧ fr' 2 = (vI r.1) ∧ fr' 3 = (vI r.2.1) ∧ fr' 4 = (vI r.2.2.1) ∧ fr' 5 = (vI r.2.2.2) ∧ True) fr m := by
 unfold r06_Total at hr
 refine W.seq (W.region ?_)
 refine sx rfl (pAssign (v := (vI 0)) rfl rfl) ?_
 refine sx rfl (pAssign (v := (vI 0)) rfl rfl) ?_
 refine sx rfl (pAssign (v := (vI 0)) rfl rfl) ?_
 refine sx rfl (pAssign (v := (vI 0)) rfl rfl) ?_
 refine SeqW.done fun fr1 hf2 => ?_
 have h0 := (congrFun hf2 0).trans h0
 have h2 : fr1 2 = (vI 0) := (congrFun hf2 2).trans rfl
 have h3 : fr1 3 = (vI 0) := (congrFun hf2 3).trans rfl
 have h4 : fr1 4 = (vI 0) := (congrFun hf2 4).trans rfl
 clear hf2
 refine thenQ.n (W.seq ?_)
 refine W.seq (W.region ?_)
 refine sx rfl (pMove (v := v0) rfl h0) ?_
 obtain ⟨y3, hy3, hr⟩ := bind_some hr
 refine SeqW.consX rfl (StepX.call (gCallee rfl rfl (args1 rfl)) ((c_r06_ValidList (z := z) st.fz st.dead s0 hy3).mono ?_))
 rintro _ _ ⟨rfl, rfl⟩
 refine sx rfl (pAssign (v := (vI y3)) rfl rfl) ?_
 refine SeqW.done fun fr4 hf5 => ?_
 have h0 := (congrFun hf5 0).trans h0
 have h2 := (congrFun hf5 2).trans h2
 have h3 := (congrFun hf5 3).trans h3
 have h4 := (congrFun hf5 4).trans h4
 have h6 : fr4 6 = (vI y3) := (congrFun hf5 6).trans rfl
 clear hf5
 refine thenQ.n (W.seq (W.region ?_))
 refine sx rfl (pMove (v := (vI y3)) rfl h6) ?_
 refine sx rfl (pNeq (k := .i64) (a := y3) (b := 0) rfl rfl rfl) ?_
 refine SeqW.done fun fr6 hf7 => ?_
 have h0 := (congrFun hf7 0).trans h0
 have h2 := (congrFun hf7 2).trans h2
 have h3 := (congrFun hf7 3).trans h3
 have h4 := (congrFun hf7 4).trans h4
 have h6 := (congrFun hf7 6).trans h6
 have h11 : fr6 11 = (vB (y3 != 0)) := (congrFun hf7 11).trans rfl
 clear hf7
 refine thenQ.n ?_
 rcases if_some hr with ⟨hc8, hr⟩ | ⟨hc11, hr⟩
 ·refine W.condT h11 hc8 (W.seq (W.region ?_))
  refine sx rfl (pMove (v := (vI y3)) rfl h6) ?_
  refine sx rfl (pAssign (v := (vI 0)) rfl rfl) ?_
  refine sx rfl (pAssign (v := (vI 0)) rfl rfl) ?_
  refine sx rfl (pAssign (v := (vI 0)) rfl rfl) ?_
  refine sx rfl (pAssign (v := (vI y3)) rfl rfl) ?_
  refine SeqW.done fun fr9 hf10 => ?_
  have h2 : fr9 2 = (vI 0) := (congrFun hf10 2).trans rfl
  have h3 : fr9 3 = (vI 0) := (congrFun hf10 3).trans rfl
  have h4 : fr9 4 = (vI 0) := (congrFun hf10 4).trans rfl
  have h5 : fr9 5 = (vI y3) := (congrFun hf10 5).trans rfl
  clear hf10
  refine thenQ.n ?_
  refine W.ret ?_
  refine thenQ.r ?_
  obtain rfl := Option.some.inj hr
  exact ⟨z, hz, st, .inr rfl, h2, h3, h4, h5, trivial⟩
 ·refine W.condF h11 hc11 (W.skip ?_)
  refine thenQ.n (W.seq ?_)
  refine W.seq (W.region ?_)
  refine sx rfl (pAssign (v := (vI 0)) rfl rfl) ?_
  refine SeqW.done fun fr12 hf13 => ?_
  have h0 := (congrFun hf13 0).trans h0
  have h2 := (congrFun hf13 2).trans h2
  have h3 := (congrFun hf13 3).trans h3
  have h4 := (congrFun hf13 4).trans h4
  have h7 : fr12 7 = (vI 0) := (congrFun hf13 7).trans rfl
  clear hf13
  refine thenQ.n ?_
  refine W.block ?_
  obtain ⟨y48, hy48, hr⟩ := bind_some hr
  refine W.keep (u_r06_Total_0 _ (Zx.refl _) st h0 s0 h2 h3 h4 h7 hy48) ?_
  rintro ex54 fr49 m50 hk52 ⟨z51, hz53, st, rfl, h2, h3, h4, -⟩
  replace hz := hz.trans hz53
  clear hk52
  refine blockQ.hit ?_
  refine thenQ.n (W.seq (W.region ?_))
  refine sx rfl (pMove (v := (vI y48.1)) rfl h2) ?_
  refine sx rfl (pMove (v := (vI y48.2.1)) rfl h3) ?_
  refine sx rfl (pMove (v := (vI y48.2.2)) rfl h4) ?_
  refine sx rfl (pAssign (v := (vI y48.1)) rfl rfl) ?_
  refine sx rfl (pAssign (v := (vI y48.2.1)) rfl rfl) ?_
  refine sx rfl (pAssign (v := (vI y48.2.2)) rfl rfl) ?_
  refine sx rfl (pAssign (v := (vI 0)) rfl rfl) ?_
  refine SeqW.done fun fr55 hf56 => ?_
  have h2 : fr55 2 = (vI y48.1) := (congrFun hf56 2).trans rfl
  have h3 : fr55 3 = (vI y48.2.1) := (congrFun hf56 3).trans rfl
  have h4 : fr55 4 = (vI y48.2.2) := (congrFun hf56 4).trans rfl
  have h5 : fr55 5 = (vI 0) := (congrFun hf56 5).trans rfl
  clear hf56
  refine thenQ.n ?_
  refine W.ret ?_
  obtain rfl := Option.some.inj hr
  exact ⟨z51, hz, st, .inr rfl, h2, h3, h4, h5, trivial⟩

theorem c_r06_Total {N : Nat} {z : Nat → Blk} {m : Mem} {x0 : List Wagon} {v0 : Value} (fz : Fz z m) (hd : ∀ b, m.next ≤ b → m.blk b = .dead) (s0 : SlR TWagon z x0 v0) {r : Int × Int × Int × Int} (hr : r06_Total N x0 = some r) : CallW Try.prog 37 #[v0] m fun v m' => v = (Value.tuple [(vI r.1), (vI r.2.1), (vI r.2.2.1), (vI r.2.2.2)].toArray) ∧ m' = m := by
 refine CallW.flat Try.func37 rfl (by kernel_rfl) (Nat.le_of_ble_eq_true rfl) rfl (z := z) (fun fr hf => ?_)
 have h0 : fr 0 = _ := hf 0 _ rfl
 refine (u_r06_Total (k := none) (Zx.refl _) (St.start fz hd) h0 s0 hr).mono ?_
 rintro ex fr' m' ⟨z', hz, st, he, h2, h3, h4, h5, -⟩
 exact ⟨he, z', st, [(vI r.1), (vI r.2.1), (vI r.2.2.1), (vI r.2.2.2)], ⟨h2.symm, h3.symm, h4.symm, h5.symm, trivial⟩, .inr (List.forall_mem_cons.2 ⟨rfl, List.forall_mem_cons.2 ⟨rfl, List.forall_mem_cons.2 ⟨rfl, List.forall_mem_cons.2 ⟨rfl, fun _ h => nomatch h⟩⟩⟩⟩), rfl⟩

/-! ### humpyard/humpyardref35.Total -/

theorem u_r35_Total_1 {N : Nat}  {z0 z : Nat → Blk} {e m : Mem} {k : Option Nat} {fr : Nat → Value} {x0 : List Wagon} {x1 : List Int} {x10 : Int} {v0 : Value} {v1 : Value} {x4 : Brakes} {b4 : Nat} (hz : Zx e.next z0 z) (st : St z e m k) (h0 : fr 0 = v0) (s0 : SlR TWagon z x0 v0) (h1 : fr 1 = v1) (s1 : SlR (TInt 3 .i64) z x1 v1) (h4 : fr 4 = (vP b4)) (bx4 : Bx z e m k b4 [(vI x4.length), (vI x4.axles), (vI x4.mass), (vI x4.braked), (vI x4.percent), (vI x4.required), (vI x4.missing)] 33) (h10 : fr 10 = (vI x10)) {r : Bool} (hr : r35_Total_1 N x0 x1 x10 = some r) : W Try.prog (sub (bodyOf Try.f26) [1, 1, 1, 0, 1, 0, 0, 1, 0, 0, 0]) (fun ex fr' m' => ∃ z', Zx e.next z0 z' ∧ St z' e m' k ∧ ex = AExit.normal ∧ fr' 44 = (vB r) ∧ Bx z' e m' k b4 [(vI x4.length), (vI x4.axles), (vI x4.mass), (vI x4.braked), (vI x4.percent), (vI x4.required), (vI x4.missing)] 33 ∧ True) fr m := by
 unfold r35_Total_1 at hr
 refine W.region ?_
 refine sx rfl (pMove (v := v1) rfl h1) ?_
 refine sx rfl (pMove (v := (vI x10)) rfl h10) ?_
 obtain ⟨y25, hy25, hr⟩ := bind_some hr
 refine SeqW.consX rfl (kIdxR (T := (TInt 3 .i64)) (xs := x1) (n := x10) rfl Try.underlying22 Try.type3 rfl rfl rfl s1 hy25 ?_)
 intro B26 f27 cs28 hd29 hc30
 obtain rfl := hd29
 refine SeqW.consX rfl (kLoad (v := (vI y25)) rfl Try.underlying3 rfl rfl (ldz_load st.fz (hc30 0 _ rfl)) ?_)
 refine sx rfl (pLss (k := .i64) (a := y25) (b := 0) rfl rfl rfl) ?_
 refine sx rfl (pMove (v := (vB (decide (y25 < 0)))) rfl rfl) ?_
 rcases if_some hr with ⟨hc31, hr⟩ | ⟨hc34, hr⟩
 ·refine kx rfl rfl rfl hc31 ?_
  iterate 6 refine kx rfl rfl rfl hc31 ?_
  refine sx rfl (pPick (t := true) (v := (vB true)) rfl ((congrArg vB hc31)) rfl) ?_
  refine SeqW.done fun fr32 hf33 => ?_
  have h0 := (congrFun hf33 0).trans h0
  have h1 := (congrFun hf33 1).trans h1
  have h4 := (congrFun hf33 4).trans h4
  have h10 := (congrFun hf33 10).trans h10
  have h44 : fr32 44 = (vB true) := (congrFun hf33 44).trans rfl
  clear hf33
  obtain rfl := Option.some.inj hr
  exact ⟨z, hz, st, rfl, h44, bx4, trivial⟩
 ·refine SeqW.consG rfl rfl rfl hc34 (StepX.pure (pMove (v := v1) rfl h1) ?_)
  refine SeqW.consG rfl rfl rfl hc34 (StepX.pure (pMove (v := (vI x10)) rfl h10) ?_)
  obtain ⟨y35, hy35, hr⟩ := bind_some hr
  refine SeqW.consG rfl rfl rfl hc34 (kIdxR (T := (TInt 3 .i64)) (xs := x1) (n := x10) rfl Try.underlying22 Try.type3 rfl rfl rfl s1 hy35 ?_)
  intro B36 f37 cs38 hd39 hc40
  obtain rfl := hd39
  refine SeqW.consG rfl rfl rfl hc34 (kLoad (v := (vI y35)) rfl Try.underlying3 rfl rfl (ldz_load st.fz (hc40 0 _ rfl)) ?_)
  refine SeqW.consG rfl rfl rfl hc34 (StepX.pure (pMove (v := v0) rfl h0) ?_)
  refine SeqW.consG rfl rfl rfl hc34 (StepX.pure (pLenR (xs := x0) rfl Try.underlying25 rfl s0) ?_)
  refine SeqW.consG rfl rfl rfl hc34 (StepX.pure (pGeq (k := .i64) (a := y35) (b := (x0.length : Int)) rfl rfl rfl) ?_)
  refine sx rfl (pPick (t := false) (v := (vB (decide ((x0.length : Int) ≤ y35)))) rfl ((congrArg vB hc34)) rfl) ?_
  refine SeqW.done fun fr41 hf42 => ?_
  have h0 := (congrFun hf42 0).trans h0
  have h1 := (congrFun hf42 1).trans h1
  have h4 := (congrFun hf42 4).trans h4
  have h10 := (congrFun hf42 10).trans h10
  have h44 : fr41 44 = (vB (decide ((x0.length : Int) ≤ y35))) := (congrFun hf42 44).trans rfl
  clear hf42
  obtain rfl := Option.some.inj hr
  exact ⟨z, hz, st, rfl, h44, bx4, trivial⟩

theorem u_r35_Total_0 : ∀ (n : Nat) {N : Nat}  {z0 z : Nat → Blk} {e m : Mem} {k : Option Nat} {fr : Nat → Value} {x0 : List Wagon} {x1 : List Int} {x4 : Brakes} {x10 : Int} {v0 : Value} {v1 : Value} {b4 : Nat} (hz : Zx e.next z0 z) (st : St z e m k) (h0 : fr 0 = v0) (s0 : SlR TWagon z x0 v0) (h1 : fr 1 = v1) (s1 : SlR (TInt 3 .i64) z x1 v1) (h4 : fr 4 = (vP b4)) (bx4 : Bx z e m k b4 [(vI x4.length), (vI x4.axles), (vI x4.mass), (vI x4.braked), (vI x4.percent), (vI x4.required), (vI x4.missing)] 33) (h10 : fr 10 = (vI x10)) {r : Sum (Brakes) (Brakes × Int)} (hr : r35_Total_0 N x0 x1 n x4 x10 = some r), W Try.prog (sub (bodyOf Try.f26) [1, 1, 1, 0, 1, 0]) (fun ex fr' m' => ∃ z', Zx e.next z0 z' ∧ St z' e m' k ∧ ((∃ q, r = Sum.inl q ∧ ex = AExit.exit 0 ∧ fr' 4 = (vP b4) ∧ Bx z' e m' k b4 [(vI q.length), (vI q.axles), (vI q.mass), (vI q.braked), (vI q.percent), (vI q.required), (vI q.missing)] 33 ∧ True) ∨ (∃ q, r = Sum.inr q ∧ ex = AExit.ret ∧ fr' 4 = (vP b4) ∧ Bx z' e m' k b4 [(vI q.1.length), (vI q.1.axles), (vI q.1.mass), (vI q.1.braked), (vI q.1.percent), (vI q.1.required), (vI q.1.missing)] 33 ∧ fr' 5 = (vI q.2) ∧ True))) fr m := by
 intro n
 induction n with
 | zero => intro N z0 z e m k fr x0 x1 x4 x10 v0 v1 b4 hz st h0 s0 h1 s1 h4 bx4 h10 r hr; cases (show (none : Option _) = some r from hr)
 | succ n ih =>
  intro N z0 z e m k fr x0 x1 x4 x10 v0 v1 b4 hz st h0 s0 h1 s1 h4 bx4 h10 r hr
  unfold r35_Total_0 at hr
  refine W.loop1 ?_
  refine W.seq (W.seq (W.region ?_))
  refine sx rfl (pMove (v := (vI x10)) rfl h10) ?_
  refine sx rfl (pMove (v := v1) rfl h1) ?_
  refine sx rfl (pLenR (xs := x1) rfl Try.underlying22 rfl s1) ?_
  refine sx rfl (pLss (k := .i64) (a := x10) (b := (x1.length : Int)) rfl rfl rfl) ?_
  refine SeqW.done fun fr22 hf23 => ?_
  have h0 := (congrFun hf23 0).trans h0
  have h1 := (congrFun hf23 1).trans h1
  have h4 := (congrFun hf23 4).trans h4
  have h10 := (congrFun hf23 10).trans h10
  have h28 : fr22 28 = (vB (decide (x10 < (x1.length : Int)))) := (congrFun hf23 28).trans rfl
  clear hf23
  refine thenQ.n ?_
  rcases if_some hr with ⟨hc24, hr⟩ | ⟨hc60, hr⟩
  ·refine W.condT h28 hc24 (W.skip ?_)
   refine thenQ.n (W.seq ?_)
   refine W.block ?_
   refine W.seq ?_
   obtain ⟨y43, hy43, hr⟩ := bind_some hr
   refine W.keep (u_r35_Total_1 (x4 := x4) (Zx.refl _) st h0 s0 h1 s1 h4 bx4 h10 hy43) ?_
   rintro ex49 fr44 m45 hk47 ⟨z46, hz48, st, rfl, h44, O50, -⟩
   replace s0 := s0.mono hz48.le
   replace s1 := s1.mono hz48.le
   have h0 := (hk47 0 rfl).trans h0
   have h1 := (hk47 1 rfl).trans h1
   have h4 := (hk47 4 rfl).trans h4
   have h10 := (hk47 10 rfl).trans h10
   replace hz := hz.trans hz48
   clear hk47
   refine thenQ.n ?_
   rcases if_some hr with ⟨hc51, hr⟩ | ⟨hc56, hr⟩
   ·refine W.condT h44 hc51 (W.seq (W.region ?_))
    refine SeqW.consX rfl (kBuildS [] [(vI 0), (vI 0), (vI 0), (vI 0), (vI 0), (vI 0), (vI 0)] rfl Try.underlying33 Try.type33 rfl rfl (places33 Try.underlying33) rfl (rfl) rfl ?_)
    refine SeqW.consX rfl (kPut (off := 0) (w := (Value.agg [(vI 0), (vI 0), (vI 0), (vI 0), (vI 0), (vI 0), (vI 0)].toArray)) (new := [(vI 0), (vI 0), (vI 0), (vI 0), (vI 0), (vI 0), (vI 0)]) rfl Try.type33 h4 rfl rfl rfl rfl O50 rfl [(vI 0), (vI 0), (vI 0), (vI 0), (vI 0), (vI 0), (vI 0)] rfl st ?_)
    intro m52 st O50 sm53
    refine sx rfl (pAssign (v := (vI 2)) rfl rfl) ?_
    refine SeqW.done fun fr54 hf55 => ?_
    have h4 := (congrFun hf55 4).trans h4
    have h5 : fr54 5 = (vI 2) := (congrFun hf55 5).trans rfl
    clear hf55
    refine thenQ.n ?_
    refine W.ret ?_
    refine blockQ.r ?_
    refine thenQ.r ?_
    refine thenQ.r ?_
    obtain rfl := Option.some.inj hr
    exact ⟨z46, hz, st, .inr ⟨_, rfl, rfl, h4, O50, h5, trivial⟩⟩
   ·refine W.condF h44 hc56 (W.skip ?_)
    refine blockQ.n ?_
    refine thenQ.n (W.region ?_)
    refine sx rfl (pMove (v := (vI x10)) rfl h10) ?_
    refine sx rfl (pAdd (k := .i64) (a := x10) (b := 1) rfl rfl rfl) ?_
    obtain ⟨y57, hy57, hr⟩ := lt_some hr
    refine sx rfl (pAssign rfl (congrArg (Value.int .i64) hy57)) ?_
    refine SeqW.done fun fr58 hf59 => ?_
    have h0 := (congrFun hf59 0).trans h0
    have h1 := (congrFun hf59 1).trans h1
    have h4 := (congrFun hf59 4).trans h4
    have h10 : fr58 10 = (vI y57) := (congrFun hf59 10).trans rfl
    clear hf59
    refine thenQ.n ?_
    exact ih (x4 := x4) hz st h0 s0 h1 s1 h4 O50 h10 hr
  ·refine W.condF h28 hc60 ?_
   refine W.exit ?_
   refine thenQ.x ?_
   refine thenQ.x ?_
   obtain rfl := Option.some.inj hr
   exact ⟨z, hz, st, .inl ⟨_, rfl, rfl, h4, bx4, trivial⟩⟩

theorem u_r35_Total_2 : ∀ (n : Nat) {N : Nat}  {z0 z : Nat → Blk} {e m : Mem} {k : Option Nat} {fr : Nat → Value} {x1 : List Int} {x4 : Brakes} {x11 : Int} {v1 : Value} {b4 : Nat} (hz : Zx e.next z0 z) (st : St z e m k) (h1 : fr 1 = v1) (s1 : SlR (TInt 3 .i64) z x1 v1) (h4 : fr 4 = (vP b4)) (bx4 : Bx z e m k b4 [(vI x4.length), (vI x4.axles), (vI x4.mass), (vI x4.braked), (vI x4.percent), (vI x4.required), (vI x4.missing)] 33) (h11 : fr 11 = (vI x11)) {r : Sum (Brakes) (Brakes × Int)} (hr : r35_Total_2 N x1 n x4 x11 = some r), W Try.prog (sub (bodyOf Try.f26) [1, 1, 1, 1, 0, 1, 0]) (fun ex fr' m' => ∃ z', Zx e.next z0 z' ∧ St z' e m' k ∧ ((∃ q, r = Sum.inl q ∧ ex = AExit.exit 2 ∧ fr' 4 = (vP b4) ∧ Bx z' e m' k b4 [(vI q.length), (vI q.axles), (vI q.mass), (vI q.braked), (vI q.percent), (vI q.required), (vI q.missing)] 33 ∧ True) ∨ (∃ q, r = Sum.inr q ∧ ex = AExit.ret ∧ fr' 4 = (vP b4) ∧ Bx z' e m' k b4 [(vI q.1.length), (vI q.1.axles), (vI q.1.mass), (vI q.1.braked), (vI q.1.percent), (vI q.1.required), (vI q.1.missing)] 33 ∧ fr' 5 = (vI q.2) ∧ True))) fr m := by
 intro n
 induction n with
 | zero => intro N z0 z e m k fr x1 x4 x11 v1 b4 hz st h1 s1 h4 bx4 h11 r hr; cases (show (none : Option _) = some r from hr)
 | succ n ih =>
  intro N z0 z e m k fr x1 x4 x11 v1 b4 hz st h1 s1 h4 bx4 h11 r hr
  unfold r35_Total_2 at hr
  refine W.loop1 ?_
  refine W.seq (W.seq (W.region ?_))
  refine sx rfl (pMove (v := (vI x11)) rfl h11) ?_
  refine sx rfl (pMove (v := v1) rfl h1) ?_
  refine sx rfl (pLenR (xs := x1) rfl Try.underlying22 rfl s1) ?_
  refine sx rfl (pLss (k := .i64) (a := x11) (b := (x1.length : Int)) rfl rfl rfl) ?_
  refine SeqW.done fun fr73 hf74 => ?_
  have h1 := (congrFun hf74 1).trans h1
  have h4 := (congrFun hf74 4).trans h4
  have h11 := (congrFun hf74 11).trans h11
  have h49 : fr73 49 = (vB (decide (x11 < (x1.length : Int)))) := (congrFun hf74 49).trans rfl
  clear hf74
  refine thenQ.n ?_
  rcases if_some hr with ⟨hc75, hr⟩ | ⟨hc101, hr⟩
  ·refine W.condT h49 hc75 (W.skip ?_)
   refine thenQ.n (W.seq ?_)
   refine W.block ?_
   refine W.seq ?_
   refine W.draw ?_
   refine DrawW.cons rfl (StepX.pure (pMove (v := v1) rfl h1) ?_)
   refine ⟨trivial, ?_⟩
   refine DrawW.cons rfl (StepX.pure (pMove (v := (vI x11)) rfl h11) ?_)
   refine ⟨trivial, ?_⟩
   obtain ⟨y76, hy76, hr⟩ := bind_some hr
   refine DrawW.cons rfl (kCut (T := (TInt 3 .i64)) (xs := x1) (a := 0) (b := x11) rfl Try.underlying22 Try.type3 rfl rfl rfl ⟨_, rfl⟩ s1 st hy76 ?_)
   intro V77 _ hI79 Q78
   refine ⟨?_, ?_⟩
   ·exact demN
   refine DrawW.cons rfl (StepX.pure (pMove (v := v1) rfl h1) ?_)
   refine ⟨trivial, ?_⟩
   refine DrawW.cons rfl (StepX.pure (pMove (v := (vI x11)) rfl h11) ?_)
   refine ⟨trivial, ?_⟩
   obtain ⟨y81, hy81, hr⟩ := bind_some hr
   refine DrawW.cons rfl (kIdxR (T := (TInt 3 .i64)) (xs := x1) (n := x11) rfl Try.underlying22 Try.type3 rfl rfl rfl s1 hy81 ?_)
   intro B82 f83 cs84 hd85 hc86
   obtain rfl := hd85
   refine ⟨trivial, ?_⟩
   refine DrawW.cons rfl (kLoad (v := (vI y81)) rfl Try.underlying3 rfl rfl (ldz_load st.fz (hc86 0 _ rfl)) ?_)
   refine ⟨?_, ?_⟩
   ·exact demN
   have sto87 := st
   have old88 := bx4
   obtain ⟨y89, hy89, hr⟩ := bind_some hr
   refine DrawW.cons rfl (StepX.call (gCallee rfl rfl (args2 rfl rfl)) ((c_r35_Off (z := z) st.fz st.dead Q78 hy89).mono ?_))
   rintro _ _ ⟨rfl, rfl⟩
   refine ⟨⟨?_, ?_⟩, ?_⟩
   ·first | refine demP (gLoad (v := (vI y81)) rfl Try.underlying3 rfl rfl (ldz_load st.fz (hc86 0 _ rfl))) ?_ | refine demA (by decide) ?_
    first | refine demP (hI79 _ st.fz) ?_ | refine demA (by decide) ?_
    exact demN
   ·exact demN
   refine DrawW.done fun fr90 hf91 => ?_
   have h1 := (congrFun hf91 1).trans h1
   have h4 := (congrFun hf91 4).trans h4
   have h11 := (congrFun hf91 11).trans h11
   have h59 : fr90 59 = (vB y89) := (congrFun hf91 59).trans rfl
   clear hf91
   refine thenQ.n ?_
   rcases if_some hr with ⟨hc92, hr⟩ | ⟨hc97, hr⟩
   ·refine W.condT h59 hc92 (W.seq (W.region ?_))
    refine SeqW.consX rfl (kBuildS [] [(vI 0), (vI 0), (vI 0), (vI 0), (vI 0), (vI 0), (vI 0)] rfl Try.underlying33 Try.type33 rfl rfl (places33 Try.underlying33) rfl (rfl) rfl ?_)
    refine SeqW.consX rfl (kPut (off := 0) (w := (Value.agg [(vI 0), (vI 0), (vI 0), (vI 0), (vI 0), (vI 0), (vI 0)].toArray)) (new := [(vI 0), (vI 0), (vI 0), (vI 0), (vI 0), (vI 0), (vI 0)]) rfl Try.type33 h4 rfl rfl rfl rfl bx4 rfl [(vI 0), (vI 0), (vI 0), (vI 0), (vI 0), (vI 0), (vI 0)] rfl st ?_)
    intro m93 st bx4 sm94
    refine sx rfl (pAssign (v := (vI 8)) rfl rfl) ?_
    refine SeqW.done fun fr95 hf96 => ?_
    have h4 := (congrFun hf96 4).trans h4
    have h5 : fr95 5 = (vI 8) := (congrFun hf96 5).trans rfl
    clear hf96
    refine thenQ.n ?_
    refine W.ret ?_
    refine blockQ.r ?_
    refine thenQ.r ?_
    refine thenQ.r ?_
    obtain rfl := Option.some.inj hr
    exact ⟨z, hz, st, .inr ⟨_, rfl, rfl, h4, bx4, h5, trivial⟩⟩
   ·refine W.condF h59 hc97 (W.skip ?_)
    refine blockQ.n ?_
    refine thenQ.n (W.region ?_)
    refine sx rfl (pMove (v := (vI x11)) rfl h11) ?_
    refine sx rfl (pAdd (k := .i64) (a := x11) (b := 1) rfl rfl rfl) ?_
    obtain ⟨y98, hy98, hr⟩ := lt_some hr
    refine sx rfl (pAssign rfl (congrArg (Value.int .i64) hy98)) ?_
    refine SeqW.done fun fr99 hf100 => ?_
    have h1 := (congrFun hf100 1).trans h1
    have h4 := (congrFun hf100 4).trans h4
    have h11 : fr99 11 = (vI y98) := (congrFun hf100 11).trans rfl
    clear hf100
    refine thenQ.n ?_
    exact ih (x4 := x4) hz st h1 s1 h4 bx4 h11 hr
  ·refine W.condF h49 hc101 ?_
   refine W.exit ?_
   refine thenQ.x ?_
   refine thenQ.x ?_
   obtain rfl := Option.some.inj hr
   exact ⟨z, hz, st, .inl ⟨_, rfl, rfl, h4, bx4, trivial⟩⟩

theorem u_r35_Total_4 {N : Nat}  {z0 z : Nat → Blk} {e m : Mem} {k : Option Nat} {fr : Nat → Value} {x0 : List Wagon} {x1 : List Int} {x12 : Brakes} {x13 : Int} {v0 : Value} {v1 : Value} {x4 : Brakes} {b4 : Nat} {b12 : Nat} (hz : Zx e.next z0 z) (st : St z e m k) (h0 : fr 0 = v0) (s0 : SlR TWagon z x0 v0) (h1 : fr 1 = v1) (s1 : SlR (TInt 3 .i64) z x1 v1) (h4 : fr 4 = (vP b4)) (bx4 : Bx z e m k b4 [(vI x4.length), (vI x4.axles), (vI x4.mass), (vI x4.braked), (vI x4.percent), (vI x4.required), (vI x4.missing)] 33) (h12 : fr 12 = (vP b12)) (bx12 : Bx z e m k b12 [(vI x12.length), (vI x12.axles), (vI x12.mass), (vI x12.braked), (vI x12.percent), (vI x12.required), (vI x12.missing)] 33) (h13 : fr 13 = (vI x13)) (ao4_o12 : Ap (some b4) (some b12)) {r : Brakes} (hr : r35_Total_4 N x0 x1 x12 x13 = some r) : W Try.prog (sub (bodyOf Try.f26) [1, 1, 1, 1, 1, 1, 0, 1, 0, 0, 1, 0]) (fun ex fr' m' => ∃ z', Zx e.next z0 z' ∧ St z' e m' k ∧ ex = AExit.normal ∧ fr' 12 = (vP b12) ∧ Bx z' e m' k b12 [(vI r.length), (vI r.axles), (vI r.mass), (vI r.braked), (vI r.percent), (vI r.required), (vI r.missing)] 33 ∧ Bx z' e m' k b4 [(vI x4.length), (vI x4.axles), (vI x4.mass), (vI x4.braked), (vI x4.percent), (vI x4.required), (vI x4.missing)] 33 ∧ Ap (some b12) (some b4) ∧ True) fr m := by
 unfold r35_Total_4 at hr
 refine W.block ?_
 refine W.seq (W.region ?_)
 refine sx rfl (pMove (v := v1) rfl h1) ?_
 refine sx rfl (pMove (v := (vI x13)) rfl h13) ?_
 obtain ⟨y128, hy128, hr⟩ := bind_some hr
 refine SeqW.consX rfl (StepX.call (gCallee rfl rfl (args2 rfl rfl)) ((c_r35_Off (z := z) st.fz st.dead s1 hy128).mono ?_))
 rintro _ _ ⟨rfl, rfl⟩
 refine sx rfl (pNot (b := y128) rfl rfl) ?_
 refine SeqW.done fun fr129 hf130 => ?_
 have h0 := (congrFun hf130 0).trans h0
 have h1 := (congrFun hf130 1).trans h1
 have h4 := (congrFun hf130 4).trans h4
 have h12 := (congrFun hf130 12).trans h12
 have h13 := (congrFun hf130 13).trans h13
 have h74 : fr129 74 = (vB (!y128)) := (congrFun hf130 74).trans rfl
 clear hf130
 refine thenQ.n ?_
 rcases if_some hr with ⟨hc131, hr⟩ | ⟨hc145, hr⟩
 ·refine W.condT h74 hc131 ?_
  refine W.draw ?_
  refine DrawW.cons rfl (kField rfl Try.underlying33 rfl Try.type3 rfl h12 rfl ?_)
  refine ⟨trivial, ?_⟩
  refine DrawW.cons rfl (kLoad rfl Try.underlying3 rfl rfl (bx12.load (v := (vI x12.braked)) rfl) ?_)
  refine ⟨?_, ?_⟩
  ·exact demN
  refine DrawW.cons rfl (StepX.pure (pMove (v := v0) rfl h0) ?_)
  refine ⟨trivial, ?_⟩
  refine DrawW.cons rfl (StepX.pure (pMove (v := (vI x13)) rfl h13) ?_)
  refine ⟨trivial, ?_⟩
  obtain ⟨y132, hy132, hr⟩ := bind_some hr
  refine DrawW.cons rfl (kIdxR (T := TWagon) (xs := x0) (n := x13) rfl Try.underlying25 Try.type48 rfl rfl rfl s0 hy132 ?_)
  intro B133 f134 cs135 hd136 hc137
  obtain rfl := hd136
  refine ⟨trivial, ?_⟩
  refine DrawW.cons rfl (kField rfl Try.underlying48 rfl Try.type3 rfl rfl rfl ?_)
  refine ⟨trivial, ?_⟩
  refine DrawW.cons rfl (kLoad (v := (vI y132.brake)) rfl Try.underlying3 rfl rfl (ldz_load st.fz (hc137 4 _ rfl)) ?_)
  refine ⟨?_, ?_⟩
  ·exact demN
  refine DrawW.cons rfl (StepX.pure (pAdd (k := .i64) (a := x12.braked) (b := y132.brake) rfl rfl rfl) ?_)
  refine ⟨trivial, ?_⟩
  refine DrawW.cons rfl (kField rfl Try.underlying33 rfl Try.type3 rfl h12 rfl ?_)
  refine ⟨trivial, ?_⟩
  have sto138 := st
  have old139 := bx4
  have old140 := bx12
  refine DrawW.cons rfl (kPut (off := 3) (w := (vI (IntKind.wrap .i64 (x12.braked + y132.brake)))) (new := [(vI (IntKind.wrap .i64 (x12.braked + y132.brake)))]) rfl Try.type3 rfl rfl rfl rfl rfl bx12 rfl [(vI x12.length), (vI x12.axles), (vI x12.mass), (vI (IntKind.wrap .i64 (x12.braked + y132.brake))), (vI x12.percent), (vI x12.required), (vI x12.missing)] rfl st ?_)
  intro m141 st bx12 sm142
  replace bx4 := bx4.same sm142 ao4_o12
  refine ⟨⟨?_, ?_⟩, ?_⟩
  ·first | refine demP (gLoad (v := (vI y132.brake)) rfl Try.underlying3 rfl rfl (ldz_load st.fz (hc137 4 _ rfl))) ?_ | refine demA (by decide) ?_
   first | refine demP (gLoad rfl Try.underlying3 rfl rfl (bx12.load (v := (vI x12.braked)) rfl)) ?_ | refine demA (by decide) ?_
   exact demN
  ·exact demN
  refine DrawW.done fun fr143 hf144 => ?_
  have h0 := (congrFun hf144 0).trans h0
  have h1 := (congrFun hf144 1).trans h1
  have h4 := (congrFun hf144 4).trans h4
  have h12 := (congrFun hf144 12).trans h12
  have h13 := (congrFun hf144 13).trans h13
  clear hf144
  refine blockQ.n ?_
  obtain rfl := Option.some.inj hr
  exact ⟨z, hz, st, rfl, h12, bx12, bx4, (Ap.symm ao4_o12), trivial⟩
 ·refine W.condF h74 hc145 (W.skip ?_)
  refine blockQ.n ?_
  obtain rfl := Option.some.inj hr
  exact ⟨z, hz, st, rfl, h12, bx12, bx4, (Ap.symm ao4_o12), trivial⟩

theorem u_r35_Total_3 : ∀ (n : Nat) {N : Nat}  {z0 z : Nat → Blk} {e m : Mem} {k : Option Nat} {fr : Nat → Value} {x0 : List Wagon} {x1 : List Int} {x12 : Brakes} {x13 : Int} {v0 : Value} {v1 : Value} {x4 : Brakes} {b4 : Nat} {b12 : Nat} (hz : Zx e.next z0 z) (st : St z e m k) (h0 : fr 0 = v0) (s0 : SlR TWagon z x0 v0) (h1 : fr 1 = v1) (s1 : SlR (TInt 3 .i64) z x1 v1) (h4 : fr 4 = (vP b4)) (bx4 : Bx z e m k b4 [(vI x4.length), (vI x4.axles), (vI x4.mass), (vI x4.braked), (vI x4.percent), (vI x4.required), (vI x4.missing)] 33) (h12 : fr 12 = (vP b12)) (bx12 : Bx z e m k b12 [(vI x12.length), (vI x12.axles), (vI x12.mass), (vI x12.braked), (vI x12.percent), (vI x12.required), (vI x12.missing)] 33) (h13 : fr 13 = (vI x13)) (ao4_o12 : Ap (some b4) (some b12)) {r : Brakes} (hr : r35_Total_3 N x0 x1 n x12 x13 = some r), W Try.prog (sub (bodyOf Try.f26) [1, 1, 1, 1, 1, 1, 0, 1, 0]) (fun ex fr' m' => ∃ z', Zx e.next z0 z' ∧ St z' e m' k ∧ ex = AExit.exit 4 ∧ fr' 12 = (vP b12) ∧ Bx z' e m' k b12 [(vI r.length), (vI r.axles), (vI r.mass), (vI r.braked), (vI r.percent), (vI r.required), (vI r.missing)] 33 ∧ Bx z' e m' k b4 [(vI x4.length), (vI x4.axles), (vI x4.mass), (vI x4.braked), (vI x4.percent), (vI x4.required), (vI x4.missing)] 33 ∧ Ap (some b12) (some b4) ∧ True) fr m := by
 intro n
 induction n with
 | zero => intro N z0 z e m k fr x0 x1 x12 x13 v0 v1 x4 b4 b12 hz st h0 s0 h1 s1 h4 bx4 h12 bx12 h13 ao4_o12 r hr; cases (show (none : Option _) = some r from hr)
 | succ n ih =>
  intro N z0 z e m k fr x0 x1 x12 x13 v0 v1 x4 b4 b12 hz st h0 s0 h1 s1 h4 bx4 h12 bx12 h13 ao4_o12 r hr
  unfold r35_Total_3 at hr
  refine W.loop1 ?_
  refine W.seq (W.seq (W.region ?_))
  refine sx rfl (pMove (v := (vI x13)) rfl h13) ?_
  refine sx rfl (pMove (v := v0) rfl h0) ?_
  refine sx rfl (pLenR (xs := x0) rfl Try.underlying25 rfl s0) ?_
  refine sx rfl (pLss (k := .i64) (a := x13) (b := (x0.length : Int)) rfl rfl rfl) ?_
  refine SeqW.done fun fr125 hf126 => ?_
  have h0 := (congrFun hf126 0).trans h0
  have h1 := (congrFun hf126 1).trans h1
  have h4 := (congrFun hf126 4).trans h4
  have h12 := (congrFun hf126 12).trans h12
  have h13 := (congrFun hf126 13).trans h13
  have h68 : fr125 68 = (vB (decide (x13 < (x0.length : Int)))) := (congrFun hf126 68).trans rfl
  clear hf126
  refine thenQ.n ?_
  rcases if_some hr with ⟨hc127, hr⟩ | ⟨hc160, hr⟩
  ·refine W.condT h68 hc127 (W.skip ?_)
   refine thenQ.n (W.seq ?_)
   obtain ⟨y146, hy146, hr⟩ := bind_some hr
   refine W.keep (u_r35_Total_4 (x4 := x4) (x12 := x12) (Zx.refl _) st h0 s0 h1 s1 h4 bx4 h12 bx12 h13 ao4_o12 hy146) ?_
   rintro ex152 fr147 m148 hk150 ⟨z149, hz151, st, rfl, h12, X154, O155, A156, -⟩
   replace s0 := s0.mono hz151.le
   replace s1 := s1.mono hz151.le
   have h0 := (hk150 0 rfl).trans h0
   have h1 := (hk150 1 rfl).trans h1
   have h4 := (hk150 4 rfl).trans h4
   have h13 := (hk150 13 rfl).trans h13
   replace hz := hz.trans hz151
   clear hk150
   refine thenQ.n (W.region ?_)
   refine sx rfl (pMove (v := (vI x13)) rfl h13) ?_
   refine sx rfl (pAdd (k := .i64) (a := x13) (b := 1) rfl rfl rfl) ?_
   obtain ⟨y157, hy157, hr⟩ := lt_some hr
   refine sx rfl (pAssign rfl (congrArg (Value.int .i64) hy157)) ?_
   refine SeqW.done fun fr158 hf159 => ?_
   have h0 := (congrFun hf159 0).trans h0
   have h1 := (congrFun hf159 1).trans h1
   have h4 := (congrFun hf159 4).trans h4
   have h12 := (congrFun hf159 12).trans h12
   have h13 : fr158 13 = (vI y157) := (congrFun hf159 13).trans rfl
   clear hf159
   refine thenQ.n ?_
   exact ih (x4 := x4) (x12 := y146) hz st h0 s0 h1 s1 h4 O155 h12 X154 h13 (Ap.symm A156) hr
  ·refine W.condF h68 hc160 ?_
   refine W.exit ?_
   refine thenQ.x ?_
   refine thenQ.x ?_
   obtain rfl := Option.some.inj hr
   exact ⟨z, hz, st, rfl, h12, bx12, bx4, (Ap.symm ao4_o12), trivial⟩

theorem u_r35_Total_5 {N : Nat}  {z0 z : Nat → Blk} {e m : Mem} {k : Option Nat} {fr : Nat → Value} {x7 : Int} {x12 : Brakes} {x92 : Bool} {x4 : Brakes} {b4 : Nat} {b12 : Nat} (hz : Zx e.next z0 z) (st : St z e m k) (h4 : fr 4 = (vP b4)) (bx4 : Bx z e m k b4 [(vI x4.length), (vI x4.axles), (vI x4.mass), (vI x4.braked), (vI x4.percent), (vI x4.required), (vI x4.missing)] 33) (h7 : fr 7 = (vI x7)) (h12 : fr 12 = (vP b12)) (bx12 : Bx z e m k b12 [(vI x12.length), (vI x12.axles), (vI x12.mass), (vI x12.braked), (vI x12.percent), (vI x12.required), (vI x12.missing)] 33) (h92 : fr 92 = (vB x92)) (ao4_o12 : Ap (some b4) (some b12)) {r : Brakes} (hr : r35_Total_5 N x7 x12 x92 = some r) : W Try.prog (sub (bodyOf Try.f26) [1, 1, 1, 1, 1, 1, 1, 1, 0, 1]) (fun ex fr' m' => ∃ z', Zx e.next z0 z' ∧ St z' e m' k ∧ ex = AExit.normal ∧ fr' 12 = (vP b12) ∧ Bx z' e m' k b12 [(vI r.length), (vI r.axles), (vI r.mass), (vI r.braked), (vI r.percent), (vI r.required), (vI r.missing)] 33 ∧ Bx z' e m' k b4 [(vI x4.length), (vI x4.axles), (vI x4.mass), (vI x4.braked), (vI x4.percent), (vI x4.required), (vI x4.missing)] 33 ∧ Ap (some b12) (some b4) ∧ True) fr m := by
 unfold r35_Total_5 at hr
 rcases if_some hr with ⟨hc185, hr⟩ | ⟨hc191, hr⟩
 ·refine W.condT h92 hc185 (W.region ?_)
  refine SeqW.consX rfl (kField rfl Try.underlying33 rfl Try.type3 rfl h12 rfl ?_)
  refine SeqW.consX rfl (kLoad rfl Try.underlying3 rfl rfl (bx12.load (v := (vI x12.braked)) rfl) ?_)
  refine sx rfl (pMul (k := .i64) (a := 100) (b := x12.braked) rfl rfl rfl) ?_
  refine sx rfl (pMove (v := (vI x7)) rfl h7) ?_
  obtain ⟨y186, hy186, hr⟩ := bind_some hr
  refine SeqW.consX rfl (kQuo (k1 := .i64) (a := (IntKind.wrap .i64 (100 * x12.braked))) (b := x7) rfl rfl rfl hy186 ?_)
  refine SeqW.consX rfl (kField rfl Try.underlying33 rfl Try.type3 rfl h12 rfl ?_)
  refine SeqW.consX rfl (kPut (off := 4) (w := (vI (IntKind.wrap .i64 (y186)))) (new := [(vI (IntKind.wrap .i64 (y186)))]) rfl Try.type3 rfl rfl rfl rfl rfl bx12 rfl [(vI x12.length), (vI x12.axles), (vI x12.mass), (vI x12.braked), (vI (IntKind.wrap .i64 (y186))), (vI x12.required), (vI x12.missing)] rfl st ?_)
  intro m187 st bx12 sm188
  replace bx4 := bx4.same sm188 ao4_o12
  refine SeqW.done fun fr189 hf190 => ?_
  have h4 := (congrFun hf190 4).trans h4
  have h12 := (congrFun hf190 12).trans h12
  clear hf190
  obtain rfl := Option.some.inj hr
  exact ⟨z, hz, st, rfl, h12, bx12, bx4, (Ap.symm ao4_o12), trivial⟩
 ·refine W.condF h92 hc191 (W.skip ?_)
  obtain rfl := Option.some.inj hr
  exact ⟨z, hz, st, rfl, h12, bx12, bx4, (Ap.symm ao4_o12), trivial⟩

theorem u_r35_Total {N : Nat}  {z0 z : Nat → Blk} {e m : Mem} {k : Option Nat} {fr : Nat → Value} {x0 : List Wagon} {x1 : List Int} {v0 : Value} {v1 : Value} (hz : Zx e.next z0 z) (st : St z e m k) (h0 : fr 0 = v0) (s0 : SlR TWagon z x0 v0) (h1 : fr 1 = v1) (s1 : SlR (TInt 3 .i64) z x1 v1) {r : Brakes × Int} (hr : r35_Total N x0 x1 = some r) : W Try.prog (sub (bodyOf Try.f26) []) (fun ex fr' m' => ∃ z', Zx e.next z0 z' ∧ St z' e m' k ∧ (ex = .normal ∨ ex = .ret) ∧ ∃ (c4 : Nat), fr' 4 = (vP c4) ∧ Bx z' e m' k c4 [(vI r.1.length), (vI r.1.axles), (vI r.1.mass), (vI r.1.braked), (vI r.1.percent), (vI r.1.required), (vI r.1.missing)] 33 ∧ (e.next ≤ c4 ∨ k = some c4) ∧ fr' 5 = (vI r.2) ∧ True) fr m := by
 unfold r35_Total at hr
 refine W.seq (W.region ?_)
 refine SeqW.consX rfl (kAlloc rfl Try.type33 rfl rfl rfl [(vI 0), (vI 0), (vI 0), (vI 0), (vI 0), (vI 0), (vI 0)] rfl st ?_)
 intro B1 m2 st X3 sm4 hap5
 refine sx rfl (pAssign (v := (vI 0)) rfl rfl) ?_
 refine SeqW.done fun fr7 hf8 => ?_
 have h0 := (congrFun hf8 0).trans h0
 have h1 := (congrFun hf8 1).trans h1
 have h4 : fr7 4 = (vP B1) := (congrFun hf8 4).trans rfl
 clear hf8
 refine thenQ.n (W.seq (W.region ?_))
 refine sx rfl (pMove (v := v0) rfl h0) ?_
 obtain ⟨y9, hy9, hr⟩ := bind_some hr
 refine SeqW.consX rfl (StepX.call (gCallee rfl rfl (args1 rfl)) ((c_r06_Total (z := z) st.fz st.dead s0 hy9).mono ?_))
 rintro _ _ ⟨rfl, rfl⟩
 refine sx rfl (pMove (v := (Value.tuple [(vI y9.1), (vI y9.2.1), (vI y9.2.2.1), (vI y9.2.2.2)].toArray)) rfl rfl) ?_
 refine sx rfl (pExtract (vs := [(vI y9.1), (vI y9.2.1), (vI y9.2.2.1), (vI y9.2.2.2)]) (v := (vI y9.1)) rfl rfl rfl) ?_
 refine sx rfl (pExtract (vs := [(vI y9.1), (vI y9.2.1), (vI y9.2.2.1), (vI y9.2.2.2)]) (v := (vI y9.2.1)) rfl rfl rfl) ?_
 refine sx rfl (pExtract (vs := [(vI y9.1), (vI y9.2.1), (vI y9.2.2.1), (vI y9.2.2.2)]) (v := (vI y9.2.2.1)) rfl rfl rfl) ?_
 refine sx rfl (pExtract (vs := [(vI y9.1), (vI y9.2.1), (vI y9.2.2.1), (vI y9.2.2.2)]) (v := (vI y9.2.2.2)) rfl rfl rfl) ?_
 refine sx rfl (pAssign (v := (vI y9.1)) rfl rfl) ?_
 refine sx rfl (pAssign (v := (vI y9.2.1)) rfl rfl) ?_
 refine sx rfl (pAssign (v := (vI y9.2.2.1)) rfl rfl) ?_
 refine sx rfl (pAssign (v := (vI y9.2.2.2)) rfl rfl) ?_
 refine SeqW.done fun fr10 hf11 => ?_
 have h0 := (congrFun hf11 0).trans h0
 have h1 := (congrFun hf11 1).trans h1
 have h4 := (congrFun hf11 4).trans h4
 have h6 : fr10 6 = (vI y9.1) := (congrFun hf11 6).trans rfl
 have h7 : fr10 7 = (vI y9.2.1) := (congrFun hf11 7).trans rfl
 have h8 : fr10 8 = (vI y9.2.2.1) := (congrFun hf11 8).trans rfl
 have h9 : fr10 9 = (vI y9.2.2.2) := (congrFun hf11 9).trans rfl
 clear hf11
 refine thenQ.n (W.seq ?_)
 refine W.seq (W.region ?_)
 refine sx rfl (pMove (v := (vI y9.2.2.2)) rfl h9) ?_
 refine sx rfl (pNeq (k := .i64) (a := y9.2.2.2) (b := 0) rfl rfl rfl) ?_
 refine SeqW.done fun fr12 hf13 => ?_
 have h0 := (congrFun hf13 0).trans h0
 have h1 := (congrFun hf13 1).trans h1
 have h4 := (congrFun hf13 4).trans h4
 have h6 := (congrFun hf13 6).trans h6
 have h7 := (congrFun hf13 7).trans h7
 have h8 := (congrFun hf13 8).trans h8
 have h9 := (congrFun hf13 9).trans h9
 have h22 : fr12 22 = (vB (y9.2.2.2 != 0)) := (congrFun hf13 22).trans rfl
 clear hf13
 refine thenQ.n ?_
 rcases if_some hr with ⟨hc14, hr⟩ | ⟨hc19, hr⟩
 ·refine W.condT h22 hc14 (W.seq (W.region ?_))
  refine SeqW.consX rfl (kBuildS [] [(vI 0), (vI 0), (vI 0), (vI 0), (vI 0), (vI 0), (vI 0)] rfl Try.underlying33 Try.type33 rfl rfl (places33 Try.underlying33) rfl (rfl) rfl ?_)
  refine sx rfl (pMove (v := (vI y9.2.2.2)) rfl h9) ?_
  refine SeqW.consX rfl (kPut (off := 0) (w := (Value.agg [(vI 0), (vI 0), (vI 0), (vI 0), (vI 0), (vI 0), (vI 0)].toArray)) (new := [(vI 0), (vI 0), (vI 0), (vI 0), (vI 0), (vI 0), (vI 0)]) rfl Try.type33 h4 rfl rfl rfl rfl X3 rfl [(vI 0), (vI 0), (vI 0), (vI 0), (vI 0), (vI 0), (vI 0)] rfl st ?_)
  intro m15 st X3 sm16
  refine sx rfl (pAssign (v := (vI y9.2.2.2)) rfl rfl) ?_
  refine SeqW.done fun fr17 hf18 => ?_
  have h4 := (congrFun hf18 4).trans h4
  have h5 : fr17 5 = (vI y9.2.2.2) := (congrFun hf18 5).trans rfl
  clear hf18
  refine thenQ.n ?_
  refine W.ret ?_
  refine thenQ.r ?_
  obtain rfl := Option.some.inj hr
  exact ⟨z, hz, st, .inr rfl, B1, h4, X3, X3.fresh, h5, trivial⟩
 ·refine W.condF h22 hc19 (W.skip ?_)
  refine thenQ.n (W.seq ?_)
  refine W.seq (W.region ?_)
  refine sx rfl (pAssign (v := (vI 0)) rfl rfl) ?_
  refine SeqW.done fun fr20 hf21 => ?_
  have h0 := (congrFun hf21 0).trans h0
  have h1 := (congrFun hf21 1).trans h1
  have h4 := (congrFun hf21 4).trans h4
  have h6 := (congrFun hf21 6).trans h6
  have h7 := (congrFun hf21 7).trans h7
  have h8 := (congrFun hf21 8).trans h8
  have h10 : fr20 10 = (vI 0) := (congrFun hf21 10).trans rfl
  clear hf21
  refine thenQ.n ?_
  refine W.block ?_
  obtain ⟨y61, hy61, hr⟩ := bind_some hr
  refine W.keep (u_r35_Total_0 (x4 := (Brakes.mk 0 0 0 0 0 0 0)) _ (Zx.refl _) st h0 s0 h1 s1 h4 X3 h10 hy61) ?_
  rintro ex67 fr62 m63 hk65 ⟨z64, hz66, st, ⟨y68, rfl, rfl, h4, X70, -⟩ | ⟨y210, rfl, rfl, h4, X212, h5, -⟩⟩
  ·dsimp only at hr
   replace s0 := s0.mono hz66.le
   replace s1 := s1.mono hz66.le
   have h0 := (hk65 0 rfl).trans h0
   have h1 := (hk65 1 rfl).trans h1
   have h6 := (hk65 6 rfl).trans h6
   have h7 := (hk65 7 rfl).trans h7
   have h8 := (hk65 8 rfl).trans h8
   replace hz := hz.trans hz66
   clear hk65
   refine blockQ.hit ?_
   refine thenQ.n (W.seq ?_)
   refine W.seq (W.region ?_)
   refine sx rfl (pAssign (v := (vI 0)) rfl rfl) ?_
   refine SeqW.done fun fr71 hf72 => ?_
   have h0 := (congrFun hf72 0).trans h0
   have h1 := (congrFun hf72 1).trans h1
   have h4 := (congrFun hf72 4).trans h4
   have h6 := (congrFun hf72 6).trans h6
   have h7 := (congrFun hf72 7).trans h7
   have h8 := (congrFun hf72 8).trans h8
   have h11 : fr71 11 = (vI 0) := (congrFun hf72 11).trans rfl
   clear hf72
   refine thenQ.n ?_
   refine W.block ?_
   obtain ⟨y102, hy102, hr⟩ := bind_some hr
   refine W.keep (u_r35_Total_2 (x4 := y68) _ (Zx.refl _) st h1 s1 h4 X70 h11 hy102) ?_
   rintro ex108 fr103 m104 hk106 ⟨z105, hz107, st, ⟨y109, rfl, rfl, h4, X111, -⟩ | ⟨y207, rfl, rfl, h4, X209, h5, -⟩⟩
   ·dsimp only at hr
    replace s0 := s0.mono hz107.le
    replace s1 := s1.mono hz107.le
    have h0 := (hk106 0 rfl).trans h0
    have h1 := (hk106 1 rfl).trans h1
    have h6 := (hk106 6 rfl).trans h6
    have h7 := (hk106 7 rfl).trans h7
    have h8 := (hk106 8 rfl).trans h8
    replace hz := hz.trans hz107
    clear hk106
    refine blockQ.hit ?_
    refine thenQ.n (W.seq (W.region ?_))
    refine sx rfl (pMove (v := (vI y9.1)) rfl h6) ?_
    refine sx rfl (pMove (v := (vI y9.2.2.1)) rfl h8) ?_
    refine sx rfl (pMove (v := (vI y9.2.1)) rfl h7) ?_
    refine SeqW.consX rfl (kBuildS [(0, (vI y9.1)), (1, (vI y9.2.2.1)), (2, (vI y9.2.1))] [(vI y9.1), (vI y9.2.2.1), (vI y9.2.1), (vI 0), (vI 0), (vI 0), (vI 0)] rfl Try.underlying33 Try.type33 rfl rfl (places33 Try.underlying33) rfl (rfl) rfl ?_)
    refine SeqW.consX rfl (kAlloc rfl Try.type33 rfl rfl rfl [(vI 0), (vI 0), (vI 0), (vI 0), (vI 0), (vI 0), (vI 0)] rfl st ?_)
    intro B112 m113 st X114 sm115 hap116
    have A118 := hap116 _ X111.lt'
    replace X111 := X111.same sm115 Ap.none'
    refine SeqW.consX rfl (kPut (off := 0) (w := (Value.agg [(vI y9.1), (vI y9.2.2.1), (vI y9.2.1), (vI 0), (vI 0), (vI 0), (vI 0)].toArray)) (new := [(vI y9.1), (vI y9.2.2.1), (vI y9.2.1), (vI 0), (vI 0), (vI 0), (vI 0)]) rfl Try.type33 rfl rfl rfl rfl rfl X114 rfl [(vI y9.1), (vI y9.2.2.1), (vI y9.2.1), (vI 0), (vI 0), (vI 0), (vI 0)] rfl st ?_)
    intro m119 st X114 sm120
    replace X111 := X111.same sm120 A118
    refine SeqW.done fun fr121 hf122 => ?_
    have h0 := (congrFun hf122 0).trans h0
    have h1 := (congrFun hf122 1).trans h1
    have h4 := (congrFun hf122 4).trans h4
    have h6 := (congrFun hf122 6).trans h6
    have h7 := (congrFun hf122 7).trans h7
    have h12 : fr121 12 = (vP B112) := (congrFun hf122 12).trans rfl
    clear hf122
    refine thenQ.n (W.seq ?_)
    refine W.seq (W.region ?_)
    refine sx rfl (pAssign (v := (vI 0)) rfl rfl) ?_
    refine SeqW.done fun fr123 hf124 => ?_
    have h0 := (congrFun hf124 0).trans h0
    have h1 := (congrFun hf124 1).trans h1
    have h4 := (congrFun hf124 4).trans h4
    have h6 := (congrFun hf124 6).trans h6
    have h7 := (congrFun hf124 7).trans h7
    have h12 := (congrFun hf124 12).trans h12
    have h13 : fr123 13 = (vI 0) := (congrFun hf124 13).trans rfl
    clear hf124
    refine thenQ.n ?_
    refine W.block ?_
    obtain ⟨y161, hy161, hr⟩ := bind_some hr
    refine W.keep (u_r35_Total_3 (x4 := y109) (x12 := (Brakes.mk y9.1 y9.2.2.1 y9.2.1 0 0 0 0)) _ (Zx.refl _) st h0 s0 h1 s1 h4 X111 h12 X114 h13 A118 hy161) ?_
    rintro ex167 fr162 m163 hk165 ⟨z164, hz166, st, rfl, h12, X169, O170, A171, -⟩
    have h4 := (hk165 4 rfl).trans h4
    have h6 := (hk165 6 rfl).trans h6
    have h7 := (hk165 7 rfl).trans h7
    replace hz := hz.trans hz166
    clear hk165
    refine blockQ.hit ?_
    refine thenQ.n (W.seq ?_)
    refine W.draw ?_
    refine DrawW.cons rfl (kField rfl Try.underlying33 rfl Try.type3 rfl h12 rfl ?_)
    refine ⟨trivial, ?_⟩
    refine DrawW.cons rfl (kLoad rfl Try.underlying3 rfl rfl (X169.load (v := (vI y161.braked)) rfl) ?_)
    refine ⟨?_, ?_⟩
    ·exact demN
    refine DrawW.cons rfl (StepX.pure (pMove (v := (vI y9.1)) rfl h6) ?_)
    refine ⟨trivial, ?_⟩
    have sto172 := st
    have old173 := O170
    have old174 := X169
    obtain ⟨y175, hy175, hr⟩ := bind_some hr
    refine DrawW.cons rfl (StepX.call (gCallee rfl rfl (args1 rfl)) ((c_r35_Factor (z := z164) st.fz st.dead  hy175).mono ?_))
    rintro _ _ ⟨rfl, rfl⟩
    refine ⟨⟨?_, ?_⟩, ?_⟩
    ·first | refine demP (gLoad rfl Try.underlying3 rfl rfl (X169.load (v := (vI y161.braked)) rfl)) ?_ | refine demA (by decide) ?_
     exact demN
    ·exact demN
    refine DrawW.cons rfl (StepX.pure (pMul (k := .i64) (a := y161.braked) (b := y175) rfl rfl rfl) ?_)
    refine ⟨trivial, ?_⟩
    refine DrawW.cons rfl (StepX.pure (pQuo (k := .i64) (a := (IntKind.wrap .i64 (y161.braked * y175))) (b := 100) rfl rfl rfl (by decide)) ?_)
    refine ⟨trivial, ?_⟩
    refine DrawW.cons rfl (kField rfl Try.underlying33 rfl Try.type3 rfl h12 rfl ?_)
    refine ⟨trivial, ?_⟩
    have sto176 := st
    have old177 := O170
    have old178 := X169
    refine DrawW.cons rfl (kPut (off := 3) (w := (vI (IntKind.wrap .i64 (Int.tdiv (IntKind.wrap .i64 (y161.braked * y175)) 100)))) (new := [(vI (IntKind.wrap .i64 (Int.tdiv (IntKind.wrap .i64 (y161.braked * y175)) 100)))]) rfl Try.type3 rfl rfl rfl rfl rfl X169 rfl [(vI y161.length), (vI y161.axles), (vI y161.mass), (vI (IntKind.wrap .i64 (Int.tdiv (IntKind.wrap .i64 (y161.braked * y175)) 100))), (vI y161.percent), (vI y161.required), (vI y161.missing)] rfl st ?_)
    intro m179 st X169 sm180
    replace O170 := O170.same sm180 (Ap.symm A171)
    refine ⟨⟨?_, ?_⟩, ?_⟩
    ·first | refine demP (gLoad rfl Try.underlying3 rfl rfl (X169.load (v := (vI y161.braked)) rfl)) ?_ | refine demA (by decide) ?_
     exact demN
    ·exact demN
    refine DrawW.done fun fr181 hf182 => ?_
    have h4 := (congrFun hf182 4).trans h4
    have h7 := (congrFun hf182 7).trans h7
    have h12 := (congrFun hf182 12).trans h12
    clear hf182
    refine thenQ.n (W.seq ?_)
    refine W.seq (W.region ?_)
    refine sx rfl (pMove (v := (vI y9.2.1)) rfl h7) ?_
    refine sx rfl (pGtr (k := .i64) (a := y9.2.1) (b := 0) rfl rfl rfl) ?_
    refine SeqW.done fun fr183 hf184 => ?_
    have h4 := (congrFun hf184 4).trans h4
    have h7 := (congrFun hf184 7).trans h7
    have h12 := (congrFun hf184 12).trans h12
    have h92 : fr183 92 = (vB (decide (0 < y9.2.1))) := (congrFun hf184 92).trans rfl
    clear hf184
    refine thenQ.n ?_
    obtain ⟨y192, hy192, hr⟩ := bind_some hr
    refine W.keep (u_r35_Total_5 (x4 := y109) (x12 := (Brakes.mk y161.length y161.axles y161.mass (IntKind.wrap .i64 (Int.tdiv (IntKind.wrap .i64 (y161.braked * y175)) 100)) y161.percent y161.required y161.missing)) (Zx.refl _) st h4 O170 h7 h12 X169 h92 (Ap.symm A171) hy192) ?_
    rintro ex198 fr193 m194 hk196 ⟨z195, hz197, st, rfl, h12, X200, O201, A202, -⟩
    have h4 := (hk196 4 rfl).trans h4
    replace hz := hz.trans hz197
    clear hk196
    refine thenQ.n (W.seq (W.region ?_))
    refine SeqW.consX rfl (kLoadA rfl Try.underlying33 rfl Try.type33 rfl h12 X200.loads ?_)
    refine SeqW.consX rfl (kPut (off := 0) (w := (Value.agg [(vI y192.length), (vI y192.axles), (vI y192.mass), (vI y192.braked), (vI y192.percent), (vI y192.required), (vI y192.missing)].toArray)) (new := [(vI y192.length), (vI y192.axles), (vI y192.mass), (vI y192.braked), (vI y192.percent), (vI y192.required), (vI y192.missing)]) rfl Try.type33 h4 rfl rfl rfl rfl O201 rfl [(vI y192.length), (vI y192.axles), (vI y192.mass), (vI y192.braked), (vI y192.percent), (vI y192.required), (vI y192.missing)] rfl st ?_)
    intro m203 st O201 sm204
    refine sx rfl (pAssign (v := (vI 0)) rfl rfl) ?_
    refine SeqW.done fun fr205 hf206 => ?_
    have h4 := (congrFun hf206 4).trans h4
    have h5 : fr205 5 = (vI 0) := (congrFun hf206 5).trans rfl
    clear hf206
    refine thenQ.n ?_
    refine W.ret ?_
    obtain rfl := Option.some.inj hr
    exact ⟨z195, hz, st, .inr rfl, B1, h4, O201, O201.fresh, h5, trivial⟩
   ·dsimp only at hr
    replace hz := hz.trans hz107
    clear hk106
    refine blockQ.r ?_
    refine thenQ.r ?_
    obtain rfl := Option.some.inj hr
    exact ⟨z105, hz, st, .inr rfl, B1, h4, X209, X209.fresh, h5, trivial⟩
  ·dsimp only at hr
   replace hz := hz.trans hz66
   clear hk65
   refine blockQ.r ?_
   refine thenQ.r ?_
   obtain rfl := Option.some.inj hr
   exact ⟨z64, hz, st, .inr rfl, B1, h4, X212, X212.fresh, h5, trivial⟩

theorem c_r35_Total {N : Nat} {z : Nat → Blk} {m : Mem} {x0 : List Wagon} {x1 : List Int} {v0 : Value} {v1 : Value} (fz : Fz z m) (hd : ∀ b, m.next ≤ b → m.blk b = .dead) (s0 : SlR TWagon z x0 v0) (s1 : SlR (TInt 3 .i64) z x1 v1) {r : Brakes × Int} (hr : r35_Total N x0 x1 = some r) : CallW Try.prog 26 #[v0, v1] m fun v m' => ∃ z', Zx m.next z z' ∧ Fz z' m' ∧ Same m m' none ∧ v = (Value.tuple [(Value.agg [(vI r.1.length), (vI r.1.axles), (vI r.1.mass), (vI r.1.braked), (vI r.1.percent), (vI r.1.required), (vI r.1.missing)].toArray), (vI r.2)].toArray) ∧ True := by
 refine CallW.any Try.func26 rfl (by kernel_rfl) (Nat.le_of_ble_eq_true rfl) (fun fr hf => ?_)
 have h0 : fr 0 = _ := hf 0 _ rfl
 have h1 : fr 1 = _ := hf 1 _ rfl
 refine (u_r35_Total (k := none) (Zx.refl _) (St.start fz hd) h0 s0 h1 s1 hr).mono ?_
 rintro ex fr' m' ⟨z', hz, st, he, c4, h4, bx4, fx4, h5, -⟩
 exact ⟨he, [(Value.agg [(vI r.1.length), (vI r.1.axles), (vI r.1.mass), (vI r.1.braked), (vI r.1.percent), (vI r.1.required), (vI r.1.missing)].toArray), (vI r.2)], ⟨resCell h4 bx4 Try.underlying33 rfl Try.type33 rfl, h5.symm, trivial⟩, .inr (List.forall_mem_cons.2 ⟨rfl, List.forall_mem_cons.2 ⟨rfl, fun _ h => nomatch h⟩⟩), z', hz, st.fz, st.toSame, rfl, trivial⟩

/-! ### humpyard/humpyardref35.ValidTable -/

theorem u_r35_ValidTable_1 {N : Nat}  {z0 z : Nat → Blk} {e m : Mem} {k : Option Nat} {fr : Nat → Value} {x0 : List BrakeRow} {x3 : Int} {v0 : Value} (hz : Zx e.next z0 z) (st : St z e m k) (h0 : fr 0 = v0) (s0 : SlR TBrakeRow z x0 v0) (h3 : fr 3 = (vI x3)) {r : Bool} (hr : r35_ValidTable_1 N x0 x3 = some r) : W Try.prog (sub (bodyOf Try.f36) [1, 1, 0, 1, 0, 0, 1, 0, 0, 0]) (fun ex fr' m' => ∃ z', Zx e.next z0 z' ∧ St z' e m' k ∧ ex = AExit.normal ∧ fr' 58 = (vB r) ∧ True) fr m := by
 unfold r35_ValidTable_1 at hr
 refine W.region ?_
 refine sx rfl (pMove (v := v0) rfl h0) ?_
 refine sx rfl (pMove (v := (vI x3)) rfl h3) ?_
 obtain ⟨y14, hy14, hr⟩ := bind_some hr
 refine SeqW.consX rfl (kIdxR (T := TBrakeRow) (xs := x0) (n := x3) rfl Try.underlying27 Try.type31 rfl rfl rfl s0 hy14 ?_)
 intro B15 f16 cs17 hd18 hc19
 obtain rfl := hd18
 refine SeqW.consX rfl (kField rfl Try.underlying31 rfl Try.type3 rfl rfl rfl ?_)
 refine SeqW.consX rfl (kLoad (v := (vI y14.speed)) rfl Try.underlying3 rfl rfl (ldz_load st.fz (hc19 0 _ rfl)) ?_)
 refine sx rfl (pLss (k := .i64) (a := y14.speed) (b := 1) rfl rfl rfl) ?_
 refine sx rfl (pMove (v := (vB (decide (y14.speed < 1)))) rfl rfl) ?_
 rcases if_some hr with ⟨hc20, hr⟩ | ⟨hc23, hr⟩
 ·refine kx rfl rfl rfl hc20 ?_
  iterate 5 refine kx rfl rfl rfl hc20 ?_
  refine sx rfl (pPick (t := true) (v := (vB true)) rfl ((congrArg vB hc20)) rfl) ?_
  refine sx rfl (pMove (v := (vB true)) rfl rfl) ?_
  iterate 6 refine kx rfl rfl rfl rfl ?_
  refine sx rfl (pPick (t := true) (v := (vB true)) rfl ((congrArg vB (rfl : true = true))) rfl) ?_
  refine sx rfl (pMove (v := (vB true)) rfl rfl) ?_
  iterate 6 refine kx rfl rfl rfl rfl ?_
  refine sx rfl (pPick (t := true) (v := (vB true)) rfl ((congrArg vB (rfl : true = true))) rfl) ?_
  refine sx rfl (pMove (v := (vB true)) rfl rfl) ?_
  iterate 6 refine kx rfl rfl rfl rfl ?_
  refine sx rfl (pPick (t := true) (v := (vB true)) rfl ((congrArg vB (rfl : true = true))) rfl) ?_
  refine sx rfl (pMove (v := (vB true)) rfl rfl) ?_
  iterate 6 refine kx rfl rfl rfl rfl ?_
  refine sx rfl (pPick (t := true) (v := (vB true)) rfl ((congrArg vB (rfl : true = true))) rfl) ?_
  refine SeqW.done fun fr21 hf22 => ?_
  have h0 := (congrFun hf22 0).trans h0
  have h3 := (congrFun hf22 3).trans h3
  have h58 : fr21 58 = (vB true) := (congrFun hf22 58).trans rfl
  clear hf22
  obtain rfl := Option.some.inj hr
  exact ⟨z, hz, st, rfl, h58, trivial⟩
 ·refine SeqW.consG rfl rfl rfl hc23 (StepX.pure (pMove (v := v0) rfl h0) ?_)
  refine SeqW.consG rfl rfl rfl hc23 (StepX.pure (pMove (v := (vI x3)) rfl h3) ?_)
  obtain ⟨y24, hy24, hr⟩ := bind_some hr
  refine SeqW.consG rfl rfl rfl hc23 (kIdxR (T := TBrakeRow) (xs := x0) (n := x3) rfl Try.underlying27 Try.type31 rfl rfl rfl s0 hy24 ?_)
  intro B25 f26 cs27 hd28 hc29
  obtain rfl := hd28
  refine SeqW.consG rfl rfl rfl hc23 (kField rfl Try.underlying31 rfl Try.type3 rfl rfl rfl ?_)
  refine SeqW.consG rfl rfl rfl hc23 (kLoad (v := (vI y24.speed)) rfl Try.underlying3 rfl rfl (ldz_load st.fz (hc29 0 _ rfl)) ?_)
  refine SeqW.consG rfl rfl rfl hc23 (StepX.pure (pGtr (k := .i64) (a := y24.speed) (b := 200) rfl rfl rfl) ?_)
  refine sx rfl (pPick (t := false) (v := (vB (decide (200 < y24.speed)))) rfl ((congrArg vB hc23)) rfl) ?_
  refine sx rfl (pMove (v := (vB (decide (200 < y24.speed)))) rfl rfl) ?_
  rcases if_some hr with ⟨hc30, hr⟩ | ⟨hc33, hr⟩
  ·refine kx rfl rfl rfl hc30 ?_
   iterate 5 refine kx rfl rfl rfl hc30 ?_
   refine sx rfl (pPick (t := true) (v := (vB true)) rfl ((congrArg vB hc30)) rfl) ?_
   refine sx rfl (pMove (v := (vB true)) rfl rfl) ?_
   iterate 6 refine kx rfl rfl rfl rfl ?_
   refine sx rfl (pPick (t := true) (v := (vB true)) rfl ((congrArg vB (rfl : true = true))) rfl) ?_
   refine sx rfl (pMove (v := (vB true)) rfl rfl) ?_
   iterate 6 refine kx rfl rfl rfl rfl ?_
   refine sx rfl (pPick (t := true) (v := (vB true)) rfl ((congrArg vB (rfl : true = true))) rfl) ?_
   refine sx rfl (pMove (v := (vB true)) rfl rfl) ?_
   iterate 6 refine kx rfl rfl rfl rfl ?_
   refine sx rfl (pPick (t := true) (v := (vB true)) rfl ((congrArg vB (rfl : true = true))) rfl) ?_
   refine SeqW.done fun fr31 hf32 => ?_
   have h0 := (congrFun hf32 0).trans h0
   have h3 := (congrFun hf32 3).trans h3
   have h58 : fr31 58 = (vB true) := (congrFun hf32 58).trans rfl
   clear hf32
   obtain rfl := Option.some.inj hr
   exact ⟨z, hz, st, rfl, h58, trivial⟩
  ·refine SeqW.consG rfl rfl rfl hc33 (StepX.pure (pMove (v := v0) rfl h0) ?_)
   refine SeqW.consG rfl rfl rfl hc33 (StepX.pure (pMove (v := (vI x3)) rfl h3) ?_)
   obtain ⟨y34, hy34, hr⟩ := bind_some hr
   refine SeqW.consG rfl rfl rfl hc33 (kIdxR (T := TBrakeRow) (xs := x0) (n := x3) rfl Try.underlying27 Try.type31 rfl rfl rfl s0 hy34 ?_)
   intro B35 f36 cs37 hd38 hc39
   obtain rfl := hd38
   refine SeqW.consG rfl rfl rfl hc33 (kField rfl Try.underlying31 rfl Try.type3 rfl rfl rfl ?_)
   refine SeqW.consG rfl rfl rfl hc33 (kLoad (v := (vI y34.grade)) rfl Try.underlying3 rfl rfl (ldz_load st.fz (hc39 1 _ rfl)) ?_)
   refine SeqW.consG rfl rfl rfl hc33 (StepX.pure (pLss (k := .i64) (a := y34.grade) (b := 0) rfl rfl rfl) ?_)
   refine sx rfl (pPick (t := false) (v := (vB (decide (y34.grade < 0)))) rfl ((congrArg vB hc33)) rfl) ?_
   refine sx rfl (pMove (v := (vB (decide (y34.grade < 0)))) rfl rfl) ?_
   rcases if_some hr with ⟨hc40, hr⟩ | ⟨hc43, hr⟩
   ·refine kx rfl rfl rfl hc40 ?_
    iterate 5 refine kx rfl rfl rfl hc40 ?_
    refine sx rfl (pPick (t := true) (v := (vB true)) rfl ((congrArg vB hc40)) rfl) ?_
    refine sx rfl (pMove (v := (vB true)) rfl rfl) ?_
    iterate 6 refine kx rfl rfl rfl rfl ?_
    refine sx rfl (pPick (t := true) (v := (vB true)) rfl ((congrArg vB (rfl : true = true))) rfl) ?_
    refine sx rfl (pMove (v := (vB true)) rfl rfl) ?_
    iterate 6 refine kx rfl rfl rfl rfl ?_
    refine sx rfl (pPick (t := true) (v := (vB true)) rfl ((congrArg vB (rfl : true = true))) rfl) ?_
    refine SeqW.done fun fr41 hf42 => ?_
    have h0 := (congrFun hf42 0).trans h0
    have h3 := (congrFun hf42 3).trans h3
    have h58 : fr41 58 = (vB true) := (congrFun hf42 58).trans rfl
    clear hf42
    obtain rfl := Option.some.inj hr
    exact ⟨z, hz, st, rfl, h58, trivial⟩
   ·refine SeqW.consG rfl rfl rfl hc43 (StepX.pure (pMove (v := v0) rfl h0) ?_)
    refine SeqW.consG rfl rfl rfl hc43 (StepX.pure (pMove (v := (vI x3)) rfl h3) ?_)
    obtain ⟨y44, hy44, hr⟩ := bind_some hr
    refine SeqW.consG rfl rfl rfl hc43 (kIdxR (T := TBrakeRow) (xs := x0) (n := x3) rfl Try.underlying27 Try.type31 rfl rfl rfl s0 hy44 ?_)
    intro B45 f46 cs47 hd48 hc49
    obtain rfl := hd48
    refine SeqW.consG rfl rfl rfl hc43 (kField rfl Try.underlying31 rfl Try.type3 rfl rfl rfl ?_)
    refine SeqW.consG rfl rfl rfl hc43 (kLoad (v := (vI y44.grade)) rfl Try.underlying3 rfl rfl (ldz_load st.fz (hc49 1 _ rfl)) ?_)
    refine SeqW.consG rfl rfl rfl hc43 (StepX.pure (pGtr (k := .i64) (a := y44.grade) (b := 500) rfl rfl rfl) ?_)
    refine sx rfl (pPick (t := false) (v := (vB (decide (500 < y44.grade)))) rfl ((congrArg vB hc43)) rfl) ?_
    refine sx rfl (pMove (v := (vB (decide (500 < y44.grade)))) rfl rfl) ?_
    rcases if_some hr with ⟨hc50, hr⟩ | ⟨hc53, hr⟩
    ·refine kx rfl rfl rfl hc50 ?_
     iterate 5 refine kx rfl rfl rfl hc50 ?_
     refine sx rfl (pPick (t := true) (v := (vB true)) rfl ((congrArg vB hc50)) rfl) ?_
     refine sx rfl (pMove (v := (vB true)) rfl rfl) ?_
     iterate 6 refine kx rfl rfl rfl rfl ?_
     refine sx rfl (pPick (t := true) (v := (vB true)) rfl ((congrArg vB (rfl : true = true))) rfl) ?_
     refine SeqW.done fun fr51 hf52 => ?_
     have h0 := (congrFun hf52 0).trans h0
     have h3 := (congrFun hf52 3).trans h3
     have h58 : fr51 58 = (vB true) := (congrFun hf52 58).trans rfl
     clear hf52
     obtain rfl := Option.some.inj hr
     exact ⟨z, hz, st, rfl, h58, trivial⟩
    ·refine SeqW.consG rfl rfl rfl hc53 (StepX.pure (pMove (v := v0) rfl h0) ?_)
     refine SeqW.consG rfl rfl rfl hc53 (StepX.pure (pMove (v := (vI x3)) rfl h3) ?_)
     obtain ⟨y54, hy54, hr⟩ := bind_some hr
     refine SeqW.consG rfl rfl rfl hc53 (kIdxR (T := TBrakeRow) (xs := x0) (n := x3) rfl Try.underlying27 Try.type31 rfl rfl rfl s0 hy54 ?_)
     intro B55 f56 cs57 hd58 hc59
     obtain rfl := hd58
     refine SeqW.consG rfl rfl rfl hc53 (kField rfl Try.underlying31 rfl Try.type3 rfl rfl rfl ?_)
     refine SeqW.consG rfl rfl rfl hc53 (kLoad (v := (vI y54.percent)) rfl Try.underlying3 rfl rfl (ldz_load st.fz (hc59 2 _ rfl)) ?_)
     refine SeqW.consG rfl rfl rfl hc53 (StepX.pure (pLss (k := .i64) (a := y54.percent) (b := 0) rfl rfl rfl) ?_)
     refine sx rfl (pPick (t := false) (v := (vB (decide (y54.percent < 0)))) rfl ((congrArg vB hc53)) rfl) ?_
     refine sx rfl (pMove (v := (vB (decide (y54.percent < 0)))) rfl rfl) ?_
     rcases if_some hr with ⟨hc60, hr⟩ | ⟨hc63, hr⟩
     ·refine kx rfl rfl rfl hc60 ?_
      iterate 5 refine kx rfl rfl rfl hc60 ?_
      refine sx rfl (pPick (t := true) (v := (vB true)) rfl ((congrArg vB hc60)) rfl) ?_
      refine SeqW.done fun fr61 hf62 => ?_
      have h0 := (congrFun hf62 0).trans h0
      have h3 := (congrFun hf62 3).trans h3
      have h58 : fr61 58 = (vB true) := (congrFun hf62 58).trans rfl
      clear hf62
      obtain rfl := Option.some.inj hr
      exact ⟨z, hz, st, rfl, h58, trivial⟩
     ·refine SeqW.consG rfl rfl rfl hc63 (StepX.pure (pMove (v := v0) rfl h0) ?_)
      refine SeqW.consG rfl rfl rfl hc63 (StepX.pure (pMove (v := (vI x3)) rfl h3) ?_)
      obtain ⟨y64, hy64, hr⟩ := bind_some hr
      refine SeqW.consG rfl rfl rfl hc63 (kIdxR (T := TBrakeRow) (xs := x0) (n := x3) rfl Try.underlying27 Try.type31 rfl rfl rfl s0 hy64 ?_)
      intro B65 f66 cs67 hd68 hc69
      obtain rfl := hd68
      refine SeqW.consG rfl rfl rfl hc63 (kField rfl Try.underlying31 rfl Try.type3 rfl rfl rfl ?_)
      refine SeqW.consG rfl rfl rfl hc63 (kLoad (v := (vI y64.percent)) rfl Try.underlying3 rfl rfl (ldz_load st.fz (hc69 2 _ rfl)) ?_)
      refine SeqW.consG rfl rfl rfl hc63 (StepX.pure (pGtr (k := .i64) (a := y64.percent) (b := 250) rfl rfl rfl) ?_)
      refine sx rfl (pPick (t := false) (v := (vB (decide (250 < y64.percent)))) rfl ((congrArg vB hc63)) rfl) ?_
      refine SeqW.done fun fr70 hf71 => ?_
      have h0 := (congrFun hf71 0).trans h0
      have h3 := (congrFun hf71 3).trans h3
      have h58 : fr70 58 = (vB (decide (250 < y64.percent))) := (congrFun hf71 58).trans rfl
      clear hf71
      obtain rfl := Option.some.inj hr
      exact ⟨z, hz, st, rfl, h58, trivial⟩

theorem u_r35_ValidTable_0 : ∀ (n : Nat) {N : Nat}  {z0 z : Nat → Blk} {e m : Mem} {k : Option Nat} {fr : Nat → Value} {x0 : List BrakeRow} {x3 : Int} {v0 : Value} (hz : Zx e.next z0 z) (st : St z e m k) (h0 : fr 0 = v0) (s0 : SlR TBrakeRow z x0 v0) (h3 : fr 3 = (vI x3)) {r : Sum (Unit) (Bool)} (hr : r35_ValidTable_0 N x0 n x3 = some r), W Try.prog (sub (bodyOf Try.f36) [1, 1, 0, 1, 0]) (fun ex fr' m' => ∃ z', Zx e.next z0 z' ∧ St z' e m' k ∧ ((∃ q, r = Sum.inl q ∧ ex = AExit.exit 0 ∧ True) ∨ (∃ q, r = Sum.inr q ∧ ex = AExit.ret ∧ fr' 2 = (vB q) ∧ True))) fr m := by
 intro n
 induction n with
 | zero => intro N z0 z e m k fr x0 x3 v0 hz st h0 s0 h3 r hr; cases (show (none : Option _) = some r from hr)
 | succ n ih =>
  intro N z0 z e m k fr x0 x3 v0 hz st h0 s0 h3 r hr
  unfold r35_ValidTable_0 at hr
  refine W.loop1 ?_
  refine W.seq (W.seq (W.region ?_))
  refine sx rfl (pMove (v := (vI x3)) rfl h3) ?_
  refine sx rfl (pMove (v := v0) rfl h0) ?_
  refine sx rfl (pLenR (xs := x0) rfl Try.underlying27 rfl s0) ?_
  refine sx rfl (pLss (k := .i64) (a := x3) (b := (x0.length : Int)) rfl rfl rfl) ?_
  refine SeqW.done fun fr11 hf12 => ?_
  have h0 := (congrFun hf12 0).trans h0
  have h3 := (congrFun hf12 3).trans h3
  have h10 : fr11 10 = (vB (decide (x3 < (x0.length : Int)))) := (congrFun hf12 10).trans rfl
  clear hf12
  refine thenQ.n ?_
  rcases if_some hr with ⟨hc13, hr⟩ | ⟨hc86, hr⟩
  ·refine W.condT h10 hc13 (W.skip ?_)
   refine thenQ.n (W.seq ?_)
   refine W.block ?_
   refine W.seq ?_
   obtain ⟨y72, hy72, hr⟩ := bind_some hr
   refine W.keep (u_r35_ValidTable_1 (Zx.refl _) st h0 s0 h3 hy72) ?_
   rintro ex78 fr73 m74 hk76 ⟨z75, hz77, st, rfl, h58, -⟩
   replace s0 := s0.mono hz77.le
   have h0 := (hk76 0 rfl).trans h0
   have h3 := (hk76 3 rfl).trans h3
   replace hz := hz.trans hz77
   clear hk76
   refine thenQ.n ?_
   rcases if_some hr with ⟨hc79, hr⟩ | ⟨hc82, hr⟩
   ·refine W.condT h58 hc79 (W.seq (W.region ?_))
    refine sx rfl (pAssign (v := (vB false)) rfl rfl) ?_
    refine SeqW.done fun fr80 hf81 => ?_
    have h2 : fr80 2 = (vB false) := (congrFun hf81 2).trans rfl
    clear hf81
    refine thenQ.n ?_
    refine W.ret ?_
    refine blockQ.r ?_
    refine thenQ.r ?_
    refine thenQ.r ?_
    obtain rfl := Option.some.inj hr
    exact ⟨z75, hz, st, .inr ⟨_, rfl, rfl, h2, trivial⟩⟩
   ·refine W.condF h58 hc82 (W.skip ?_)
    refine blockQ.n ?_
    refine thenQ.n (W.region ?_)
    refine sx rfl (pMove (v := (vI x3)) rfl h3) ?_
    refine sx rfl (pAdd (k := .i64) (a := x3) (b := 1) rfl rfl rfl) ?_
    obtain ⟨y83, hy83, hr⟩ := lt_some hr
    refine sx rfl (pAssign rfl (congrArg (Value.int .i64) hy83)) ?_
    refine SeqW.done fun fr84 hf85 => ?_
    have h0 := (congrFun hf85 0).trans h0
    have h3 : fr84 3 = (vI y83) := (congrFun hf85 3).trans rfl
    clear hf85
    refine thenQ.n ?_
    exact ih hz st h0 s0 h3 hr
  ·refine W.condF h10 hc86 ?_
   refine W.exit ?_
   refine thenQ.x ?_
   refine thenQ.x ?_
   obtain rfl := Option.some.inj hr
   exact ⟨z, hz, st, .inl ⟨_, rfl, rfl, trivial⟩⟩

theorem u_r35_ValidTable {N : Nat}  {z0 z : Nat → Blk} {e m : Mem} {k : Option Nat} {fr : Nat → Value} {x0 : List BrakeRow} {v0 : Value} (hz : Zx e.next z0 z) (st : St z e m k) (h0 : fr 0 = v0) (s0 : SlR TBrakeRow z x0 v0) {r : Bool} (hr : r35_ValidTable N x0 = some r) : W Try.prog (sub (bodyOf Try.f36) []) (fun ex fr' m' => ∃ z', Zx e.next z0 z' ∧ St z' e m' k ∧ (ex = .normal ∨ ex = .ret) ∧ fr' 2 = (vB r) ∧ True) fr m := by
 unfold r35_ValidTable at hr
 refine W.seq (W.region ?_)
 refine sx rfl (pAssign (v := (vB false)) rfl rfl) ?_
 refine SeqW.done fun fr1 hf2 => ?_
 have h0 := (congrFun hf2 0).trans h0
 clear hf2
 refine thenQ.n (W.seq ?_)
 refine W.seq (W.region ?_)
 refine sx rfl (pMove (v := v0) rfl h0) ?_
 refine sx rfl (pLenR (xs := x0) rfl Try.underlying27 rfl s0) ?_
 refine sx rfl (pGtr (k := .i64) (a := (x0.length : Int)) (b := 64) rfl rfl rfl) ?_
 refine SeqW.done fun fr3 hf4 => ?_
 have h0 := (congrFun hf4 0).trans h0
 have h6 : fr3 6 = (vB (decide (64 < (x0.length : Int)))) := (congrFun hf4 6).trans rfl
 clear hf4
 refine thenQ.n ?_
 rcases if_some hr with ⟨hc5, hr⟩ | ⟨hc8, hr⟩
 ·refine W.condT h6 hc5 (W.seq (W.region ?_))
  refine sx rfl (pAssign (v := (vB false)) rfl rfl) ?_
  refine SeqW.done fun fr6 hf7 => ?_
  have h2 : fr6 2 = (vB false) := (congrFun hf7 2).trans rfl
  clear hf7
  refine thenQ.n ?_
  refine W.ret ?_
  refine thenQ.r ?_
  obtain rfl := Option.some.inj hr
  exact ⟨z, hz, st, .inr rfl, h2, trivial⟩
 ·refine W.condF h6 hc8 (W.skip ?_)
  refine thenQ.n (W.seq ?_)
  refine W.seq (W.region ?_)
  refine sx rfl (pAssign (v := (vI 0)) rfl rfl) ?_
  refine SeqW.done fun fr9 hf10 => ?_
  have h0 := (congrFun hf10 0).trans h0
  have h3 : fr9 3 = (vI 0) := (congrFun hf10 3).trans rfl
  clear hf10
  refine thenQ.n ?_
  refine W.block ?_
  obtain ⟨y87, hy87, hr⟩ := bind_some hr
  refine W.keep (u_r35_ValidTable_0 _ (Zx.refl _) st h0 s0 h3 hy87) ?_
  rintro ex93 fr88 m89 hk91 ⟨z90, hz92, st, ⟨y94, rfl, rfl, -⟩ | ⟨y97, rfl, rfl, h2, -⟩⟩
  ·dsimp only at hr
   replace hz := hz.trans hz92
   clear hk91
   refine blockQ.hit ?_
   refine thenQ.n (W.seq (W.region ?_))
   refine sx rfl (pAssign (v := (vB true)) rfl rfl) ?_
   refine SeqW.done fun fr95 hf96 => ?_
   have h2 : fr95 2 = (vB true) := (congrFun hf96 2).trans rfl
   clear hf96
   refine thenQ.n ?_
   refine W.ret ?_
   obtain rfl := Option.some.inj hr
   exact ⟨z90, hz, st, .inr rfl, h2, trivial⟩
  ·dsimp only at hr
   replace hz := hz.trans hz92
   clear hk91
   refine blockQ.r ?_
   refine thenQ.r ?_
   obtain rfl := Option.some.inj hr
   exact ⟨z90, hz, st, .inr rfl, h2, trivial⟩

theorem c_r35_ValidTable {N : Nat} {z : Nat → Blk} {m : Mem} {x0 : List BrakeRow} {v0 : Value} (fz : Fz z m) (hd : ∀ b, m.next ≤ b → m.blk b = .dead) (s0 : SlR TBrakeRow z x0 v0) {r : Bool} (hr : r35_ValidTable N x0 = some r) : CallW Try.prog 36 #[v0] m fun v m' => v = (vB r) ∧ m' = m := by
 refine CallW.flat Try.func36 rfl (by kernel_rfl) (Nat.le_of_ble_eq_true rfl) rfl (z := z) (fun fr hf => ?_)
 have h0 : fr 0 = _ := hf 0 _ rfl
 refine (u_r35_ValidTable (k := none) (Zx.refl _) (St.start fz hd) h0 s0 hr).mono ?_
 rintro ex fr' m' ⟨z', hz, st, he, h2, -⟩
 exact ⟨he, z', st, [(vB r)], ⟨h2.symm, trivial⟩, .inl rfl, rfl⟩

/-! ### humpyard/humpyardref35.need -/

theorem u_r35_need_2 {N : Nat}  {z0 z : Nat → Blk} {e m : Mem} {k : Option Nat} {fr : Nat → Value} {x0 : List BrakeRow} {x1 : Int} {x2 : Int} {x8 : Int} {x9 : Bool} {x10 : Int} {v0 : Value} (hz : Zx e.next z0 z) (st : St z e m k) (h0 : fr 0 = v0) (s0 : SlR TBrakeRow z x0 v0) (h1 : fr 1 = (vI x1)) (h2 : fr 2 = (vI x2)) (h8 : fr 8 = (vI x8)) (h9 : fr 9 = (vB x9)) (h10 : fr 10 = (vI x10)) {r : Bool} (hr : r35_need_2 N x0 x1 x2 x8 x9 x10 = some r) : W Try.prog (sub (bodyOf Try.f41) [1, 1, 0, 1, 0, 0, 1, 0, 0, 0]) (fun ex fr' m' => ∃ z', Zx e.next z0 z' ∧ St z' e m' k ∧ ex = AExit.normal ∧ fr' 45 = (vB r) ∧ True) fr m := by
 unfold r35_need_2 at hr
 refine W.region ?_
 refine sx rfl (pMove (v := v0) rfl h0) ?_
 refine sx rfl (pMove (v := (vI x10)) rfl h10) ?_
 obtain ⟨y10, hy10, hr⟩ := bind_some hr
 refine SeqW.consX rfl (kIdxR (T := TBrakeRow) (xs := x0) (n := x10) rfl Try.underlying27 Try.type31 rfl rfl rfl s0 hy10 ?_)
 intro B11 f12 cs13 hd14 hc15
 obtain rfl := hd14
 refine SeqW.consX rfl (kField rfl Try.underlying31 rfl Try.type3 rfl rfl rfl ?_)
 refine SeqW.consX rfl (kLoad (v := (vI y10.speed)) rfl Try.underlying3 rfl rfl (ldz_load st.fz (hc15 0 _ rfl)) ?_)
 refine sx rfl (pMove (v := (vI x1)) rfl h1) ?_
 refine sx rfl (pGeq (k := .i64) (a := y10.speed) (b := x1) rfl rfl rfl) ?_
 refine sx rfl (pMove (v := (vB (decide (x1 ≤ y10.speed)))) rfl rfl) ?_
 rcases if_some hr with ⟨hc16, hr⟩ | ⟨hc39, hr⟩
 ·refine SeqW.consG rfl rfl rfl hc16 (StepX.pure (pMove (v := v0) rfl h0) ?_)
  refine SeqW.consG rfl rfl rfl hc16 (StepX.pure (pMove (v := (vI x10)) rfl h10) ?_)
  obtain ⟨y17, hy17, hr⟩ := bind_some hr
  refine SeqW.consG rfl rfl rfl hc16 (kIdxR (T := TBrakeRow) (xs := x0) (n := x10) rfl Try.underlying27 Try.type31 rfl rfl rfl s0 hy17 ?_)
  intro B18 f19 cs20 hd21 hc22
  obtain rfl := hd21
  refine SeqW.consG rfl rfl rfl hc16 (kField rfl Try.underlying31 rfl Try.type3 rfl rfl rfl ?_)
  refine SeqW.consG rfl rfl rfl hc16 (kLoad (v := (vI y17.grade)) rfl Try.underlying3 rfl rfl (ldz_load st.fz (hc22 1 _ rfl)) ?_)
  refine SeqW.consG rfl rfl rfl hc16 (StepX.pure (pMove (v := (vI x2)) rfl h2) ?_)
  refine SeqW.consG rfl rfl rfl hc16 (StepX.pure (pGeq (k := .i64) (a := y17.grade) (b := x2) rfl rfl rfl) ?_)
  refine sx rfl (pPick (t := true) (v := (vB (decide (x2 ≤ y17.grade)))) rfl ((congrArg vB hc16)) rfl) ?_
  refine sx rfl (pMove (v := (vB (decide (x2 ≤ y17.grade)))) rfl rfl) ?_
  rcases if_some hr with ⟨hc23, hr⟩ | ⟨hc36, hr⟩
  ·refine SeqW.consG rfl rfl rfl hc23 (StepX.pure (pMove (v := (vB x9)) rfl h9) ?_)
   refine SeqW.consG rfl rfl rfl hc23 (StepX.pure (pNot (b := x9) rfl rfl) ?_)
   refine SeqW.consG rfl rfl rfl hc23 (StepX.pure (pMove (v := (vB (!x9))) rfl rfl) ?_)
   rcases if_some hr with ⟨hc24, hr⟩ | ⟨hc27, hr⟩
   ·refine kx rfl rfl rfl hc24 ?_
    iterate 6 refine kx rfl rfl rfl hc24 ?_
    refine SeqW.consG rfl rfl rfl hc23 (StepX.pure (pPick (t := true) (v := (vB true)) rfl ((congrArg vB hc24)) rfl) ?_)
    refine sx rfl (pPick (t := true) (v := (vB true)) rfl ((congrArg vB hc23)) rfl) ?_
    refine SeqW.done fun fr25 hf26 => ?_
    have h0 := (congrFun hf26 0).trans h0
    have h1 := (congrFun hf26 1).trans h1
    have h2 := (congrFun hf26 2).trans h2
    have h8 := (congrFun hf26 8).trans h8
    have h9 := (congrFun hf26 9).trans h9
    have h10 := (congrFun hf26 10).trans h10
    have h45 : fr25 45 = (vB true) := (congrFun hf26 45).trans rfl
    clear hf26
    obtain rfl := Option.some.inj hr
    exact ⟨z, hz, st, rfl, h45, trivial⟩
   ·refine SeqW.consG rfl rfl rfl hc27 (StepX.pure (pMove (v := v0) rfl h0) ?_)
    refine SeqW.consG rfl rfl rfl hc27 (StepX.pure (pMove (v := (vI x10)) rfl h10) ?_)
    obtain ⟨y28, hy28, hr⟩ := bind_some hr
    refine SeqW.consG rfl rfl rfl hc27 (kIdxR (T := TBrakeRow) (xs := x0) (n := x10) rfl Try.underlying27 Try.type31 rfl rfl rfl s0 hy28 ?_)
    intro B29 f30 cs31 hd32 hc33
    obtain rfl := hd32
    refine SeqW.consG rfl rfl rfl hc27 (kField rfl Try.underlying31 rfl Try.type3 rfl rfl rfl ?_)
    refine SeqW.consG rfl rfl rfl hc27 (kLoad (v := (vI y28.percent)) rfl Try.underlying3 rfl rfl (ldz_load st.fz (hc33 2 _ rfl)) ?_)
    refine SeqW.consG rfl rfl rfl hc27 (StepX.pure (pMove (v := (vI x8)) rfl h8) ?_)
    refine SeqW.consG rfl rfl rfl hc27 (StepX.pure (pLss (k := .i64) (a := y28.percent) (b := x8) rfl rfl rfl) ?_)
    refine SeqW.consG rfl rfl rfl hc23 (StepX.pure (pPick (t := false) (v := (vB (decide (y28.percent < x8)))) rfl ((congrArg vB hc27)) rfl) ?_)
    refine sx rfl (pPick (t := true) (v := (vB (decide (y28.percent < x8)))) rfl ((congrArg vB hc23)) rfl) ?_
    refine SeqW.done fun fr34 hf35 => ?_
    have h0 := (congrFun hf35 0).trans h0
    have h1 := (congrFun hf35 1).trans h1
    have h2 := (congrFun hf35 2).trans h2
    have h8 := (congrFun hf35 8).trans h8
    have h9 := (congrFun hf35 9).trans h9
    have h10 := (congrFun hf35 10).trans h10
    have h45 : fr34 45 = (vB (decide (y28.percent < x8))) := (congrFun hf35 45).trans rfl
    clear hf35
    obtain rfl := Option.some.inj hr
    exact ⟨z, hz, st, rfl, h45, trivial⟩
  ·refine kx rfl rfl rfl hc36 ?_
   iterate 2 refine kx rfl rfl rfl hc36 ?_
   refine SeqW.skipU rfl rfl rfl ?_
   refine SeqW.skipU rfl rfl rfl ?_
   refine SeqW.skipU rfl rfl rfl ?_
   refine SeqW.skipU rfl rfl rfl ?_
   refine SeqW.skipU rfl rfl rfl ?_
   refine SeqW.skipU rfl rfl rfl ?_
   refine SeqW.skipU rfl rfl rfl ?_
   refine kx rfl rfl rfl hc36 ?_
   refine sx rfl (pPick (t := false) (v := (vB false)) rfl ((congrArg vB hc36)) rfl) ?_
   refine SeqW.done fun fr37 hf38 => ?_
   have h0 := (congrFun hf38 0).trans h0
   have h1 := (congrFun hf38 1).trans h1
   have h2 := (congrFun hf38 2).trans h2
   have h8 := (congrFun hf38 8).trans h8
   have h9 := (congrFun hf38 9).trans h9
   have h10 := (congrFun hf38 10).trans h10
   have h45 : fr37 45 = (vB false) := (congrFun hf38 45).trans rfl
   clear hf38
   obtain rfl := Option.some.inj hr
   exact ⟨z, hz, st, rfl, h45, trivial⟩
 ·refine kx rfl rfl rfl hc39 ?_
  iterate 6 refine kx rfl rfl rfl hc39 ?_
  refine sx rfl (pPick (t := false) (v := (vB false)) rfl ((congrArg vB hc39)) rfl) ?_
  refine sx rfl (pMove (v := (vB false)) rfl rfl) ?_
  iterate 3 refine kx rfl rfl rfl rfl ?_
  refine SeqW.skipU rfl rfl rfl ?_
  refine SeqW.skipU rfl rfl rfl ?_
  refine SeqW.skipU rfl rfl rfl ?_
  refine SeqW.skipU rfl rfl rfl ?_
  refine SeqW.skipU rfl rfl rfl ?_
  refine SeqW.skipU rfl rfl rfl ?_
  refine SeqW.skipU rfl rfl rfl ?_
  refine kx rfl rfl rfl rfl ?_
  refine sx rfl (pPick (t := false) (v := (vB false)) rfl ((congrArg vB (rfl : false = false))) rfl) ?_
  refine SeqW.done fun fr40 hf41 => ?_
  have h0 := (congrFun hf41 0).trans h0
  have h1 := (congrFun hf41 1).trans h1
  have h2 := (congrFun hf41 2).trans h2
  have h8 := (congrFun hf41 8).trans h8
  have h9 := (congrFun hf41 9).trans h9
  have h10 := (congrFun hf41 10).trans h10
  have h45 : fr40 45 = (vB false) := (congrFun hf41 45).trans rfl
  clear hf41
  obtain rfl := Option.some.inj hr
  exact ⟨z, hz, st, rfl, h45, trivial⟩

theorem u_r35_need_1 {N : Nat}  {z0 z : Nat → Blk} {e m : Mem} {k : Option Nat} {fr : Nat → Value} {x0 : List BrakeRow} {x1 : Int} {x2 : Int} {x8 : Int} {x9 : Bool} {x10 : Int} {v0 : Value} (hz : Zx e.next z0 z) (st : St z e m k) (h0 : fr 0 = v0) (s0 : SlR TBrakeRow z x0 v0) (h1 : fr 1 = (vI x1)) (h2 : fr 2 = (vI x2)) (h8 : fr 8 = (vI x8)) (h9 : fr 9 = (vB x9)) (h10 : fr 10 = (vI x10)) {r : Int × Bool} (hr : r35_need_1 N x0 x1 x2 x8 x9 x10 = some r) : W Try.prog (sub (bodyOf Try.f41) [1, 1, 0, 1, 0, 0, 1, 0]) (fun ex fr' m' => ∃ z', Zx e.next z0 z' ∧ St z' e m' k ∧ ex = AExit.normal ∧ fr' 8 = (vI r.1) ∧ fr' 9 = (vB r.2) ∧ True) fr m := by
 unfold r35_need_1 at hr
 refine W.block ?_
 refine W.seq ?_
 obtain ⟨y42, hy42, hr⟩ := bind_some hr
 refine W.keep (u_r35_need_2 (Zx.refl _) st h0 s0 h1 h2 h8 h9 h10 hy42) ?_
 rintro ex48 fr43 m44 hk46 ⟨z45, hz47, st, rfl, h45, -⟩
 replace s0 := s0.mono hz47.le
 have h0 := (hk46 0 rfl).trans h0
 have h1 := (hk46 1 rfl).trans h1
 have h2 := (hk46 2 rfl).trans h2
 have h8 := (hk46 8 rfl).trans h8
 have h9 := (hk46 9 rfl).trans h9
 have h10 := (hk46 10 rfl).trans h10
 replace hz := hz.trans hz47
 clear hk46
 refine thenQ.n ?_
 rcases if_some hr with ⟨hc49, hr⟩ | ⟨hc58, hr⟩
 ·refine W.condT h45 hc49 (W.region ?_)
  refine sx rfl (pMove (v := v0) rfl h0) ?_
  refine sx rfl (pMove (v := (vI x10)) rfl h10) ?_
  obtain ⟨y50, hy50, hr⟩ := bind_some hr
  refine SeqW.consX rfl (kIdxR (T := TBrakeRow) (xs := x0) (n := x10) rfl Try.underlying27 Try.type31 rfl rfl rfl s0 hy50 ?_)
  intro B51 f52 cs53 hd54 hc55
  obtain rfl := hd54
  refine SeqW.consX rfl (kField rfl Try.underlying31 rfl Try.type3 rfl rfl rfl ?_)
  refine SeqW.consX rfl (kLoad (v := (vI y50.percent)) rfl Try.underlying3 rfl rfl (ldz_load st.fz (hc55 2 _ rfl)) ?_)
  refine sx rfl (pAssign (v := (vI y50.percent)) rfl rfl) ?_
  refine sx rfl (pAssign (v := (vB true)) rfl rfl) ?_
  refine SeqW.done fun fr56 hf57 => ?_
  have h0 := (congrFun hf57 0).trans h0
  have h1 := (congrFun hf57 1).trans h1
  have h2 := (congrFun hf57 2).trans h2
  have h8 : fr56 8 = (vI y50.percent) := (congrFun hf57 8).trans rfl
  have h9 : fr56 9 = (vB true) := (congrFun hf57 9).trans rfl
  have h10 := (congrFun hf57 10).trans h10
  clear hf57
  refine blockQ.n ?_
  obtain rfl := Option.some.inj hr
  exact ⟨z45, hz, st, rfl, h8, h9, trivial⟩
 ·refine W.condF h45 hc58 (W.skip ?_)
  refine blockQ.n ?_
  obtain rfl := Option.some.inj hr
  exact ⟨z45, hz, st, rfl, h8, h9, trivial⟩

theorem u_r35_need_0 : ∀ (n : Nat) {N : Nat}  {z0 z : Nat → Blk} {e m : Mem} {k : Option Nat} {fr : Nat → Value} {x0 : List BrakeRow} {x1 : Int} {x2 : Int} {x8 : Int} {x9 : Bool} {x10 : Int} {v0 : Value} (hz : Zx e.next z0 z) (st : St z e m k) (h0 : fr 0 = v0) (s0 : SlR TBrakeRow z x0 v0) (h1 : fr 1 = (vI x1)) (h2 : fr 2 = (vI x2)) (h8 : fr 8 = (vI x8)) (h9 : fr 9 = (vB x9)) (h10 : fr 10 = (vI x10)) {r : Int × Bool} (hr : r35_need_0 N x0 x1 x2 n x8 x9 x10 = some r), W Try.prog (sub (bodyOf Try.f41) [1, 1, 0, 1, 0]) (fun ex fr' m' => ∃ z', Zx e.next z0 z' ∧ St z' e m' k ∧ ex = AExit.exit 0 ∧ fr' 8 = (vI r.1) ∧ fr' 9 = (vB r.2) ∧ True) fr m := by
 intro n
 induction n with
 | zero => intro N z0 z e m k fr x0 x1 x2 x8 x9 x10 v0 hz st h0 s0 h1 h2 h8 h9 h10 r hr; cases (show (none : Option _) = some r from hr)
 | succ n ih =>
  intro N z0 z e m k fr x0 x1 x2 x8 x9 x10 v0 hz st h0 s0 h1 h2 h8 h9 h10 r hr
  unfold r35_need_0 at hr
  refine W.loop1 ?_
  refine W.seq (W.seq (W.region ?_))
  refine sx rfl (pMove (v := (vI x10)) rfl h10) ?_
  refine sx rfl (pMove (v := v0) rfl h0) ?_
  refine sx rfl (pLenR (xs := x0) rfl Try.underlying27 rfl s0) ?_
  refine sx rfl (pLss (k := .i64) (a := x10) (b := (x0.length : Int)) rfl rfl rfl) ?_
  refine SeqW.done fun fr7 hf8 => ?_
  have h0 := (congrFun hf8 0).trans h0
  have h1 := (congrFun hf8 1).trans h1
  have h2 := (congrFun hf8 2).trans h2
  have h8 := (congrFun hf8 8).trans h8
  have h9 := (congrFun hf8 9).trans h9
  have h10 := (congrFun hf8 10).trans h10
  have h14 : fr7 14 = (vB (decide (x10 < (x0.length : Int)))) := (congrFun hf8 14).trans rfl
  clear hf8
  refine thenQ.n ?_
  rcases if_some hr with ⟨hc9, hr⟩ | ⟨hc69, hr⟩
  ·refine W.condT h14 hc9 (W.skip ?_)
   refine thenQ.n (W.seq ?_)
   obtain ⟨y59, hy59, hr⟩ := bind_some hr
   refine W.keep (u_r35_need_1 (Zx.refl _) st h0 s0 h1 h2 h8 h9 h10 hy59) ?_
   rintro ex65 fr60 m61 hk63 ⟨z62, hz64, st, rfl, h8, h9, -⟩
   replace s0 := s0.mono hz64.le
   have h0 := (hk63 0 rfl).trans h0
   have h1 := (hk63 1 rfl).trans h1
   have h2 := (hk63 2 rfl).trans h2
   have h10 := (hk63 10 rfl).trans h10
   replace hz := hz.trans hz64
   clear hk63
   refine thenQ.n (W.region ?_)
   refine sx rfl (pMove (v := (vI x10)) rfl h10) ?_
   refine sx rfl (pAdd (k := .i64) (a := x10) (b := 1) rfl rfl rfl) ?_
   obtain ⟨y66, hy66, hr⟩ := lt_some hr
   refine sx rfl (pAssign rfl (congrArg (Value.int .i64) hy66)) ?_
   refine SeqW.done fun fr67 hf68 => ?_
   have h0 := (congrFun hf68 0).trans h0
   have h1 := (congrFun hf68 1).trans h1
   have h2 := (congrFun hf68 2).trans h2
   have h8 := (congrFun hf68 8).trans h8
   have h9 := (congrFun hf68 9).trans h9
   have h10 : fr67 10 = (vI y66) := (congrFun hf68 10).trans rfl
   clear hf68
   refine thenQ.n ?_
   exact ih hz st h0 s0 h1 h2 h8 h9 h10 hr
  ·refine W.condF h14 hc69 ?_
   refine W.exit ?_
   refine thenQ.x ?_
   refine thenQ.x ?_
   obtain rfl := Option.some.inj hr
   exact ⟨z, hz, st, rfl, h8, h9, trivial⟩

theorem u_r35_need {N : Nat}  {z0 z : Nat → Blk} {e m : Mem} {k : Option Nat} {fr : Nat → Value} {x0 : List BrakeRow} {x1 : Int} {x2 : Int} {v0 : Value} (hz : Zx e.next z0 z) (st : St z e m k) (h0 : fr 0 = v0) (s0 : SlR TBrakeRow z x0 v0) (h1 : fr 1 = (vI x1)) (h2 : fr 2 = (vI x2)) {r : Int × Bool} (hr : r35_need N x0 x1 x2 = some r) : W Try.prog (sub (bodyOf Try.f41) []) (fun ex fr' m' => ∃ z', Zx e.next z0 z' ∧ St z' e m' k ∧ (ex = .normal ∨ ex = .ret) ∧ fr' 6 = (vI r.1) ∧ fr' 7 = (vB r.2) ∧ True) fr m := by
 unfold r35_need at hr
 refine W.seq (W.region ?_)
 refine sx rfl (pAssign (v := (vI 0)) rfl rfl) ?_
 refine sx rfl (pAssign (v := (vB false)) rfl rfl) ?_
 refine SeqW.done fun fr1 hf2 => ?_
 have h0 := (congrFun hf2 0).trans h0
 have h1 := (congrFun hf2 1).trans h1
 have h2 := (congrFun hf2 2).trans h2
 clear hf2
 refine thenQ.n (W.seq (W.region ?_))
 refine sx rfl (pAssign (v := (vI 0)) rfl rfl) ?_
 refine sx rfl (pAssign (v := (vB false)) rfl rfl) ?_
 refine SeqW.done fun fr3 hf4 => ?_
 have h0 := (congrFun hf4 0).trans h0
 have h1 := (congrFun hf4 1).trans h1
 have h2 := (congrFun hf4 2).trans h2
 have h8 : fr3 8 = (vI 0) := (congrFun hf4 8).trans rfl
 have h9 : fr3 9 = (vB false) := (congrFun hf4 9).trans rfl
 clear hf4
 refine thenQ.n (W.seq ?_)
 refine W.seq (W.region ?_)
 refine sx rfl (pAssign (v := (vI 0)) rfl rfl) ?_
 refine SeqW.done fun fr5 hf6 => ?_
 have h0 := (congrFun hf6 0).trans h0
 have h1 := (congrFun hf6 1).trans h1
 have h2 := (congrFun hf6 2).trans h2
 have h8 := (congrFun hf6 8).trans h8
 have h9 := (congrFun hf6 9).trans h9
 have h10 : fr5 10 = (vI 0) := (congrFun hf6 10).trans rfl
 clear hf6
 refine thenQ.n ?_
 refine W.block ?_
 obtain ⟨y70, hy70, hr⟩ := bind_some hr
 refine W.keep (u_r35_need_0 _ (Zx.refl _) st h0 s0 h1 h2 h8 h9 h10 hy70) ?_
 rintro ex76 fr71 m72 hk74 ⟨z73, hz75, st, rfl, h8, h9, -⟩
 replace hz := hz.trans hz75
 clear hk74
 refine blockQ.hit ?_
 refine thenQ.n (W.seq (W.region ?_))
 refine sx rfl (pMove (v := (vI y70.1)) rfl h8) ?_
 refine sx rfl (pMove (v := (vB y70.2)) rfl h9) ?_
 refine sx rfl (pAssign (v := (vI y70.1)) rfl rfl) ?_
 refine sx rfl (pAssign (v := (vB y70.2)) rfl rfl) ?_
 refine SeqW.done fun fr77 hf78 => ?_
 have h6 : fr77 6 = (vI y70.1) := (congrFun hf78 6).trans rfl
 have h7 : fr77 7 = (vB y70.2) := (congrFun hf78 7).trans rfl
 clear hf78
 refine thenQ.n ?_
 refine W.ret ?_
 obtain rfl := Option.some.inj hr
 exact ⟨z73, hz, st, .inr rfl, h6, h7, trivial⟩

theorem c_r35_need {N : Nat} {z : Nat → Blk} {m : Mem} {x0 : List BrakeRow} {x1 : Int} {x2 : Int} {v0 : Value} (fz : Fz z m) (hd : ∀ b, m.next ≤ b → m.blk b = .dead) (s0 : SlR TBrakeRow z x0 v0) {r : Int × Bool} (hr : r35_need N x0 x1 x2 = some r) : CallW Try.prog 41 #[v0, (vI x1), (vI x2)] m fun v m' => v = (Value.tuple [(vI r.1), (vB r.2)].toArray) ∧ m' = m := by
 refine CallW.flat Try.func41 rfl (by kernel_rfl) (Nat.le_of_ble_eq_true rfl) rfl (z := z) (fun fr hf => ?_)
 have h0 : fr 0 = _ := hf 0 _ rfl
 have h1 : fr 1 = _ := hf 1 _ rfl
 have h2 : fr 2 = _ := hf 2 _ rfl
 refine (u_r35_need (k := none) (Zx.refl _) (St.start fz hd) h0 s0 h1 h2 hr).mono ?_
 rintro ex fr' m' ⟨z', hz, st, he, h6, h7, -⟩
 exact ⟨he, z', st, [(vI r.1), (vB r.2)], ⟨h6.symm, h7.symm, trivial⟩, .inr (List.forall_mem_cons.2 ⟨rfl, List.forall_mem_cons.2 ⟨rfl, fun _ h => nomatch h⟩⟩), rfl⟩

/-! ### humpyard/humpyardref35.Required -/

theorem u_r35_Required_0 {N : Nat}  {z0 z : Nat → Blk} {e m : Mem} {k : Option Nat} {fr : Nat → Value} {x1 : Int} {x2 : Int} (hz : Zx e.next z0 z) (st : St z e m k) (h1 : fr 1 = (vI x1)) (h2 : fr 2 = (vI x2)) {r : Bool} (hr : r35_Required_0 N x1 x2 = some r) : W Try.prog (sub (bodyOf Try.f33) [1, 1, 0, 0]) (fun ex fr' m' => ∃ z', Zx e.next z0 z' ∧ St z' e m' k ∧ ex = AExit.normal ∧ fr' 26 = (vB r) ∧ True) fr m := by
 unfold r35_Required_0 at hr
 refine W.region ?_
 refine sx rfl (pMove (v := (vI x1)) rfl h1) ?_
 refine sx rfl (pLss (k := .i64) (a := x1) (b := 1) rfl rfl rfl) ?_
 refine sx rfl (pMove (v := (vB (decide (x1 < 1)))) rfl rfl) ?_
 rcases if_some hr with ⟨hc10, hr⟩ | ⟨hc13, hr⟩
 ·refine kx rfl rfl rfl hc10 ?_
  refine kx rfl rfl rfl hc10 ?_
  refine sx rfl (pPick (t := true) (v := (vB true)) rfl ((congrArg vB hc10)) rfl) ?_
  refine sx rfl (pMove (v := (vB true)) rfl rfl) ?_
  iterate 2 refine kx rfl rfl rfl rfl ?_
  refine sx rfl (pPick (t := true) (v := (vB true)) rfl ((congrArg vB (rfl : true = true))) rfl) ?_
  refine sx rfl (pMove (v := (vB true)) rfl rfl) ?_
  iterate 2 refine kx rfl rfl rfl rfl ?_
  refine sx rfl (pPick (t := true) (v := (vB true)) rfl ((congrArg vB (rfl : true = true))) rfl) ?_
  refine SeqW.done fun fr11 hf12 => ?_
  have h1 := (congrFun hf12 1).trans h1
  have h2 := (congrFun hf12 2).trans h2
  have h26 : fr11 26 = (vB true) := (congrFun hf12 26).trans rfl
  clear hf12
  obtain rfl := Option.some.inj hr
  exact ⟨z, hz, st, rfl, h26, trivial⟩
 ·refine SeqW.consG rfl rfl rfl hc13 (StepX.pure (pMove (v := (vI x1)) rfl h1) ?_)
  refine SeqW.consG rfl rfl rfl hc13 (StepX.pure (pGtr (k := .i64) (a := x1) (b := 200) rfl rfl rfl) ?_)
  refine sx rfl (pPick (t := false) (v := (vB (decide (200 < x1)))) rfl ((congrArg vB hc13)) rfl) ?_
  refine sx rfl (pMove (v := (vB (decide (200 < x1)))) rfl rfl) ?_
  rcases if_some hr with ⟨hc14, hr⟩ | ⟨hc17, hr⟩
  ·refine kx rfl rfl rfl hc14 ?_
   refine kx rfl rfl rfl hc14 ?_
   refine sx rfl (pPick (t := true) (v := (vB true)) rfl ((congrArg vB hc14)) rfl) ?_
   refine sx rfl (pMove (v := (vB true)) rfl rfl) ?_
   iterate 2 refine kx rfl rfl rfl rfl ?_
   refine sx rfl (pPick (t := true) (v := (vB true)) rfl ((congrArg vB (rfl : true = true))) rfl) ?_
   refine SeqW.done fun fr15 hf16 => ?_
   have h1 := (congrFun hf16 1).trans h1
   have h2 := (congrFun hf16 2).trans h2
   have h26 : fr15 26 = (vB true) := (congrFun hf16 26).trans rfl
   clear hf16
   obtain rfl := Option.some.inj hr
   exact ⟨z, hz, st, rfl, h26, trivial⟩
  ·refine SeqW.consG rfl rfl rfl hc17 (StepX.pure (pMove (v := (vI x2)) rfl h2) ?_)
   refine SeqW.consG rfl rfl rfl hc17 (StepX.pure (pLss (k := .i64) (a := x2) (b := 0) rfl rfl rfl) ?_)
   refine sx rfl (pPick (t := false) (v := (vB (decide (x2 < 0)))) rfl ((congrArg vB hc17)) rfl) ?_
   refine sx rfl (pMove (v := (vB (decide (x2 < 0)))) rfl rfl) ?_
   rcases if_some hr with ⟨hc18, hr⟩ | ⟨hc21, hr⟩
   ·refine kx rfl rfl rfl hc18 ?_
    refine kx rfl rfl rfl hc18 ?_
    refine sx rfl (pPick (t := true) (v := (vB true)) rfl ((congrArg vB hc18)) rfl) ?_
    refine SeqW.done fun fr19 hf20 => ?_
    have h1 := (congrFun hf20 1).trans h1
    have h2 := (congrFun hf20 2).trans h2
    have h26 : fr19 26 = (vB true) := (congrFun hf20 26).trans rfl
    clear hf20
    obtain rfl := Option.some.inj hr
    exact ⟨z, hz, st, rfl, h26, trivial⟩
   ·refine SeqW.consG rfl rfl rfl hc21 (StepX.pure (pMove (v := (vI x2)) rfl h2) ?_)
    refine SeqW.consG rfl rfl rfl hc21 (StepX.pure (pGtr (k := .i64) (a := x2) (b := 500) rfl rfl rfl) ?_)
    refine sx rfl (pPick (t := false) (v := (vB (decide (500 < x2)))) rfl ((congrArg vB hc21)) rfl) ?_
    refine SeqW.done fun fr22 hf23 => ?_
    have h1 := (congrFun hf23 1).trans h1
    have h2 := (congrFun hf23 2).trans h2
    have h26 : fr22 26 = (vB (decide (500 < x2))) := (congrFun hf23 26).trans rfl
    clear hf23
    obtain rfl := Option.some.inj hr
    exact ⟨z, hz, st, rfl, h26, trivial⟩

theorem u_r35_Required {N : Nat}  {z0 z : Nat → Blk} {e m : Mem} {k : Option Nat} {fr : Nat → Value} {x0 : List BrakeRow} {x1 : Int} {x2 : Int} {v0 : Value} (hz : Zx e.next z0 z) (st : St z e m k) (h0 : fr 0 = v0) (s0 : SlR TBrakeRow z x0 v0) (h1 : fr 1 = (vI x1)) (h2 : fr 2 = (vI x2)) {r : Int × Int} (hr : r35_Required N x0 x1 x2 = some r) : W Try.prog (sub (bodyOf Try.f33) []) (fun ex fr' m' => ∃ z', Zx e.next z0 z' ∧ St z' e m' k ∧ (ex = .normal ∨ ex = .ret) ∧ fr' 6 = (vI r.1) ∧ fr' 7 = (vI r.2) ∧ True) fr m := by
 unfold r35_Required at hr
 refine W.seq (W.region ?_)
 refine sx rfl (pAssign (v := (vI 0)) rfl rfl) ?_
 refine sx rfl (pAssign (v := (vI 0)) rfl rfl) ?_
 refine SeqW.done fun fr1 hf2 => ?_
 have h0 := (congrFun hf2 0).trans h0
 have h1 := (congrFun hf2 1).trans h1
 have h2 := (congrFun hf2 2).trans h2
 clear hf2
 refine thenQ.n (W.seq ?_)
 refine W.seq (W.region ?_)
 refine sx rfl (pMove (v := v0) rfl h0) ?_
 obtain ⟨y3, hy3, hr⟩ := bind_some hr
 refine SeqW.consX rfl (StepX.call (gCallee rfl rfl (args1 rfl)) ((c_r35_ValidTable (z := z) st.fz st.dead s0 hy3).mono ?_))
 rintro _ _ ⟨rfl, rfl⟩
 refine sx rfl (pNot (b := y3) rfl rfl) ?_
 refine SeqW.done fun fr4 hf5 => ?_
 have h0 := (congrFun hf5 0).trans h0
 have h1 := (congrFun hf5 1).trans h1
 have h2 := (congrFun hf5 2).trans h2
 have h12 : fr4 12 = (vB (!y3)) := (congrFun hf5 12).trans rfl
 clear hf5
 refine thenQ.n ?_
 rcases if_some hr with ⟨hc6, hr⟩ | ⟨hc9, hr⟩
 ·refine W.condT h12 hc6 (W.seq (W.region ?_))
  refine sx rfl (pAssign (v := (vI 0)) rfl rfl) ?_
  refine sx rfl (pAssign (v := (vI 1)) rfl rfl) ?_
  refine SeqW.done fun fr7 hf8 => ?_
  have h6 : fr7 6 = (vI 0) := (congrFun hf8 6).trans rfl
  have h7 : fr7 7 = (vI 1) := (congrFun hf8 7).trans rfl
  clear hf8
  refine thenQ.n ?_
  refine W.ret ?_
  refine thenQ.r ?_
  obtain rfl := Option.some.inj hr
  exact ⟨z, hz, st, .inr rfl, h6, h7, trivial⟩
 ·refine W.condF h12 hc9 (W.skip ?_)
  refine thenQ.n (W.seq (W.seq ?_))
  obtain ⟨y24, hy24, hr⟩ := bind_some hr
  refine W.keep (u_r35_Required_0 (Zx.refl _) st h1 h2 hy24) ?_
  rintro ex30 fr25 m26 hk28 ⟨z27, hz29, st, rfl, h26, -⟩
  replace s0 := s0.mono hz29.le
  have h0 := (hk28 0 rfl).trans h0
  have h1 := (hk28 1 rfl).trans h1
  have h2 := (hk28 2 rfl).trans h2
  replace hz := hz.trans hz29
  clear hk28
  refine thenQ.n ?_
  rcases if_some hr with ⟨hc31, hr⟩ | ⟨hc34, hr⟩
  ·refine W.condT h26 hc31 (W.seq (W.region ?_))
   refine sx rfl (pAssign (v := (vI 0)) rfl rfl) ?_
   refine sx rfl (pAssign (v := (vI 2)) rfl rfl) ?_
   refine SeqW.done fun fr32 hf33 => ?_
   have h6 : fr32 6 = (vI 0) := (congrFun hf33 6).trans rfl
   have h7 : fr32 7 = (vI 2) := (congrFun hf33 7).trans rfl
   clear hf33
   refine thenQ.n ?_
   refine W.ret ?_
   refine thenQ.r ?_
   obtain rfl := Option.some.inj hr
   exact ⟨z27, hz, st, .inr rfl, h6, h7, trivial⟩
  ·refine W.condF h26 hc34 (W.skip ?_)
   refine thenQ.n (W.seq (W.region ?_))
   refine sx rfl (pMove (v := v0) rfl h0) ?_
   refine sx rfl (pMove (v := (vI x1)) rfl h1) ?_
   refine sx rfl (pMove (v := (vI x2)) rfl h2) ?_
   obtain ⟨y35, hy35, hr⟩ := bind_some hr
   refine SeqW.consX rfl (StepX.call (gCallee rfl rfl (args3 rfl rfl rfl)) ((c_r35_need (z := z27) st.fz st.dead s0 hy35).mono ?_))
   rintro _ _ ⟨rfl, rfl⟩
   refine sx rfl (pMove (v := (Value.tuple [(vI y35.1), (vB y35.2)].toArray)) rfl rfl) ?_
   refine sx rfl (pExtract (vs := [(vI y35.1), (vB y35.2)]) (v := (vI y35.1)) rfl rfl rfl) ?_
   refine sx rfl (pExtract (vs := [(vI y35.1), (vB y35.2)]) (v := (vB y35.2)) rfl rfl rfl) ?_
   refine sx rfl (pAssign (v := (vI y35.1)) rfl rfl) ?_
   refine sx rfl (pAssign (v := (vB y35.2)) rfl rfl) ?_
   refine SeqW.done fun fr36 hf37 => ?_
   have h8 : fr36 8 = (vI y35.1) := (congrFun hf37 8).trans rfl
   have h9 : fr36 9 = (vB y35.2) := (congrFun hf37 9).trans rfl
   clear hf37
   refine thenQ.n (W.seq ?_)
   refine W.seq (W.region ?_)
   refine sx rfl (pMove (v := (vB y35.2)) rfl h9) ?_
   refine sx rfl (pNot (b := y35.2) rfl rfl) ?_
   refine SeqW.done fun fr38 hf39 => ?_
   have h8 := (congrFun hf39 8).trans h8
   have h35 : fr38 35 = (vB (!y35.2)) := (congrFun hf39 35).trans rfl
   clear hf39
   refine thenQ.n ?_
   rcases if_some hr with ⟨hc40, hr⟩ | ⟨hc43, hr⟩
   ·refine W.condT h35 hc40 (W.seq (W.region ?_))
    refine sx rfl (pAssign (v := (vI 0)) rfl rfl) ?_
    refine sx rfl (pAssign (v := (vI 15)) rfl rfl) ?_
    refine SeqW.done fun fr41 hf42 => ?_
    have h6 : fr41 6 = (vI 0) := (congrFun hf42 6).trans rfl
    have h7 : fr41 7 = (vI 15) := (congrFun hf42 7).trans rfl
    clear hf42
    refine thenQ.n ?_
    refine W.ret ?_
    refine thenQ.r ?_
    obtain rfl := Option.some.inj hr
    exact ⟨z27, hz, st, .inr rfl, h6, h7, trivial⟩
   ·refine W.condF h35 hc43 (W.skip ?_)
    refine thenQ.n (W.seq (W.region ?_))
    refine sx rfl (pMove (v := (vI y35.1)) rfl h8) ?_
    refine sx rfl (pAssign (v := (vI y35.1)) rfl rfl) ?_
    refine sx rfl (pAssign (v := (vI 0)) rfl rfl) ?_
    refine SeqW.done fun fr44 hf45 => ?_
    have h6 : fr44 6 = (vI y35.1) := (congrFun hf45 6).trans rfl
    have h7 : fr44 7 = (vI 0) := (congrFun hf45 7).trans rfl
    clear hf45
    refine thenQ.n ?_
    refine W.ret ?_
    obtain rfl := Option.some.inj hr
    exact ⟨z27, hz, st, .inr rfl, h6, h7, trivial⟩

theorem c_r35_Required {N : Nat} {z : Nat → Blk} {m : Mem} {x0 : List BrakeRow} {x1 : Int} {x2 : Int} {v0 : Value} (fz : Fz z m) (hd : ∀ b, m.next ≤ b → m.blk b = .dead) (s0 : SlR TBrakeRow z x0 v0) {r : Int × Int} (hr : r35_Required N x0 x1 x2 = some r) : CallW Try.prog 33 #[v0, (vI x1), (vI x2)] m fun v m' => v = (Value.tuple [(vI r.1), (vI r.2)].toArray) ∧ m' = m := by
 refine CallW.flat Try.func33 rfl (by kernel_rfl) (Nat.le_of_ble_eq_true rfl) rfl (z := z) (fun fr hf => ?_)
 have h0 : fr 0 = _ := hf 0 _ rfl
 have h1 : fr 1 = _ := hf 1 _ rfl
 have h2 : fr 2 = _ := hf 2 _ rfl
 refine (u_r35_Required (k := none) (Zx.refl _) (St.start fz hd) h0 s0 h1 h2 hr).mono ?_
 rintro ex fr' m' ⟨z', hz, st, he, h6, h7, -⟩
 exact ⟨he, z', st, [(vI r.1), (vI r.2)], ⟨h6.symm, h7.symm, trivial⟩, .inr (List.forall_mem_cons.2 ⟨rfl, List.forall_mem_cons.2 ⟨rfl, fun _ h => nomatch h⟩⟩), rfl⟩

/-! ### humpyard/humpyardref35.Sheet -/

theorem u_r35_Sheet {N : Nat}  {z0 z : Nat → Blk} {e m : Mem} {k : Option Nat} {fr : Nat → Value} {x0 : List Wagon} {x1 : List Int} {x2 : List BrakeRow} {x3 : Int} {x4 : Int} {v0 : Value} {v1 : Value} {v2 : Value} (hz : Zx e.next z0 z) (st : St z e m k) (h0 : fr 0 = v0) (s0 : SlR TWagon z x0 v0) (h1 : fr 1 = v1) (s1 : SlR (TInt 3 .i64) z x1 v1) (h2 : fr 2 = v2) (s2 : SlR TBrakeRow z x2 v2) (h3 : fr 3 = (vI x3)) (h4 : fr 4 = (vI x4)) {r : Brakes × Int} (hr : r35_Sheet N x0 x1 x2 x3 x4 = some r) : W Try.prog (sub (bodyOf Try.f34) []) (fun ex fr' m' => ∃ z', Zx e.next z0 z' ∧ St z' e m' k ∧ (ex = .normal ∨ ex = .ret) ∧ ∃ (c10 : Nat), fr' 10 = (vP c10) ∧ Bx z' e m' k c10 [(vI r.1.length), (vI r.1.axles), (vI r.1.mass), (vI r.1.braked), (vI r.1.percent), (vI r.1.required), (vI r.1.missing)] 33 ∧ (e.next ≤ c10 ∨ k = some c10) ∧ fr' 11 = (vI r.2) ∧ True) fr m := by
 unfold r35_Sheet at hr
 refine W.seq (W.region ?_)
 refine SeqW.consX rfl (kAlloc rfl Try.type33 rfl rfl rfl [(vI 0), (vI 0), (vI 0), (vI 0), (vI 0), (vI 0), (vI 0)] rfl st ?_)
 intro B1 m2 st X3 sm4 hap5
 refine sx rfl (pAssign (v := (vI 0)) rfl rfl) ?_
 refine SeqW.done fun fr7 hf8 => ?_
 have h0 := (congrFun hf8 0).trans h0
 have h1 := (congrFun hf8 1).trans h1
 have h2 := (congrFun hf8 2).trans h2
 have h3 := (congrFun hf8 3).trans h3
 have h4 := (congrFun hf8 4).trans h4
 have h10 : fr7 10 = (vP B1) := (congrFun hf8 10).trans rfl
 clear hf8
 refine thenQ.n (W.seq (W.region ?_))
 refine sx rfl (pMove (v := v0) rfl h0) ?_
 refine sx rfl (pMove (v := v1) rfl h1) ?_
 obtain ⟨y9, hy9, hr⟩ := bind_some hr
 refine SeqW.consX rfl (StepX.call (gCallee rfl rfl (args2 rfl rfl)) ((c_r35_Total (z := z) st.fz st.dead s0 s1 hy9).mono ?_))
 rintro _ m14 ⟨z10, hzx11, fz12, sm13, rfl, -⟩
 replace s0 := s0.mono hzx11.le
 replace s1 := s1.mono hzx11.le
 replace s2 := s2.mono hzx11.le
 replace X3 := X3.call hzx11 sm13 Ap.none'
 replace hz := hz.trans (Zx.here st hzx11)
 replace st := st.call hzx11 fz12 sm13 no_hq
 refine sx rfl (pMove (v := (Value.tuple [(Value.agg [(vI y9.1.length), (vI y9.1.axles), (vI y9.1.mass), (vI y9.1.braked), (vI y9.1.percent), (vI y9.1.required), (vI y9.1.missing)].toArray), (vI y9.2)].toArray)) rfl rfl) ?_
 refine sx rfl (pExtract (vs := [(Value.agg [(vI y9.1.length), (vI y9.1.axles), (vI y9.1.mass), (vI y9.1.braked), (vI y9.1.percent), (vI y9.1.required), (vI y9.1.missing)].toArray), (vI y9.2)]) (v := (Value.agg [(vI y9.1.length), (vI y9.1.axles), (vI y9.1.mass), (vI y9.1.braked), (vI y9.1.percent), (vI y9.1.required), (vI y9.1.missing)].toArray)) rfl rfl rfl) ?_
 refine sx rfl (pExtract (vs := [(Value.agg [(vI y9.1.length), (vI y9.1.axles), (vI y9.1.mass), (vI y9.1.braked), (vI y9.1.percent), (vI y9.1.required), (vI y9.1.missing)].toArray), (vI y9.2)]) (v := (vI y9.2)) rfl rfl rfl) ?_
 refine SeqW.consX rfl (kAlloc rfl Try.type33 rfl rfl rfl [(vI 0), (vI 0), (vI 0), (vI 0), (vI 0), (vI 0), (vI 0)] rfl st ?_)
 intro B15 m16 st X17 sm18 hap19
 have A21 := hap19 _ X3.lt'
 replace X3 := X3.same sm18 Ap.none'
 refine SeqW.consX rfl (kPut (off := 0) (w := (Value.agg [(vI y9.1.length), (vI y9.1.axles), (vI y9.1.mass), (vI y9.1.braked), (vI y9.1.percent), (vI y9.1.required), (vI y9.1.missing)].toArray)) (new := [(vI y9.1.length), (vI y9.1.axles), (vI y9.1.mass), (vI y9.1.braked), (vI y9.1.percent), (vI y9.1.required), (vI y9.1.missing)]) rfl Try.type33 rfl rfl rfl rfl rfl X17 rfl [(vI y9.1.length), (vI y9.1.axles), (vI y9.1.mass), (vI y9.1.braked), (vI y9.1.percent), (vI y9.1.required), (vI y9.1.missing)] rfl st ?_)
 intro m22 st X17 sm23
 replace X3 := X3.same sm23 A21
 refine sx rfl (pAssign (v := (vI y9.2)) rfl rfl) ?_
 refine SeqW.done fun fr24 hf25 => ?_
 have h2 := (congrFun hf25 2).trans h2
 have h3 := (congrFun hf25 3).trans h3
 have h4 := (congrFun hf25 4).trans h4
 have h10 := (congrFun hf25 10).trans h10
 have h12 : fr24 12 = (vP B15) := (congrFun hf25 12).trans rfl
 have h13 : fr24 13 = (vI y9.2) := (congrFun hf25 13).trans rfl
 clear hf25
 refine thenQ.n (W.seq ?_)
 refine W.seq (W.region ?_)
 refine sx rfl (pMove (v := (vI y9.2)) rfl h13) ?_
 refine sx rfl (pNeq (k := .i64) (a := y9.2) (b := 0) rfl rfl rfl) ?_
 refine SeqW.done fun fr26 hf27 => ?_
 have h2 := (congrFun hf27 2).trans h2
 have h3 := (congrFun hf27 3).trans h3
 have h4 := (congrFun hf27 4).trans h4
 have h10 := (congrFun hf27 10).trans h10
 have h12 := (congrFun hf27 12).trans h12
 have h13 := (congrFun hf27 13).trans h13
 have h22 : fr26 22 = (vB (y9.2 != 0)) := (congrFun hf27 22).trans rfl
 clear hf27
 refine thenQ.n ?_
 rcases if_some hr with ⟨hc28, hr⟩ | ⟨hc33, hr⟩
 ·refine W.condT h22 hc28 (W.seq (W.region ?_))
  refine SeqW.consX rfl (kBuildS [] [(vI 0), (vI 0), (vI 0), (vI 0), (vI 0), (vI 0), (vI 0)] rfl Try.underlying33 Try.type33 rfl rfl (places33 Try.underlying33) rfl (rfl) rfl ?_)
  refine sx rfl (pMove (v := (vI y9.2)) rfl h13) ?_
  refine SeqW.consX rfl (kPut (off := 0) (w := (Value.agg [(vI 0), (vI 0), (vI 0), (vI 0), (vI 0), (vI 0), (vI 0)].toArray)) (new := [(vI 0), (vI 0), (vI 0), (vI 0), (vI 0), (vI 0), (vI 0)]) rfl Try.type33 h10 rfl rfl rfl rfl X3 rfl [(vI 0), (vI 0), (vI 0), (vI 0), (vI 0), (vI 0), (vI 0)] rfl st ?_)
  intro m29 st X3 sm30
  refine sx rfl (pAssign (v := (vI y9.2)) rfl rfl) ?_
  refine SeqW.done fun fr31 hf32 => ?_
  have h10 := (congrFun hf32 10).trans h10
  have h11 : fr31 11 = (vI y9.2) := (congrFun hf32 11).trans rfl
  clear hf32
  refine thenQ.n ?_
  refine W.ret ?_
  refine thenQ.r ?_
  obtain rfl := Option.some.inj hr
  exact ⟨z10, hz, st, .inr rfl, B1, h10, X3, X3.fresh, h11, trivial⟩
 ·refine W.condF h22 hc33 (W.skip ?_)
  refine thenQ.n (W.seq (W.region ?_))
  refine sx rfl (pMove (v := v2) rfl h2) ?_
  refine sx rfl (pMove (v := (vI x3)) rfl h3) ?_
  refine sx rfl (pMove (v := (vI x4)) rfl h4) ?_
  obtain ⟨y34, hy34, hr⟩ := bind_some hr
  refine SeqW.consX rfl (StepX.call (gCallee rfl rfl (args3 rfl rfl rfl)) ((c_r35_Required (z := z10) st.fz st.dead s2 hy34).mono ?_))
  rintro _ _ ⟨rfl, rfl⟩
  refine sx rfl (pMove (v := (Value.tuple [(vI y34.1), (vI y34.2)].toArray)) rfl rfl) ?_
  refine sx rfl (pExtract (vs := [(vI y34.1), (vI y34.2)]) (v := (vI y34.1)) rfl rfl rfl) ?_
  refine sx rfl (pExtract (vs := [(vI y34.1), (vI y34.2)]) (v := (vI y34.2)) rfl rfl rfl) ?_
  refine sx rfl (pAssign (v := (vI y34.1)) rfl rfl) ?_
  refine sx rfl (pAssign (v := (vI y34.2)) rfl rfl) ?_
  refine SeqW.done fun fr35 hf36 => ?_
  have h10 := (congrFun hf36 10).trans h10
  have h12 := (congrFun hf36 12).trans h12
  have h13 : fr35 13 = (vI y34.2) := (congrFun hf36 13).trans rfl
  have h14 : fr35 14 = (vI y34.1) := (congrFun hf36 14).trans rfl
  clear hf36
  refine thenQ.n (W.seq ?_)
  refine W.seq (W.region ?_)
  refine sx rfl (pMove (v := (vI y34.2)) rfl h13) ?_
  refine sx rfl (pNeq (k := .i64) (a := y34.2) (b := 0) rfl rfl rfl) ?_
  refine SeqW.done fun fr37 hf38 => ?_
  have h10 := (congrFun hf38 10).trans h10
  have h12 := (congrFun hf38 12).trans h12
  have h13 := (congrFun hf38 13).trans h13
  have h14 := (congrFun hf38 14).trans h14
  have h33 : fr37 33 = (vB (y34.2 != 0)) := (congrFun hf38 33).trans rfl
  clear hf38
  refine thenQ.n ?_
  rcases if_some hr with ⟨hc39, hr⟩ | ⟨hc44, hr⟩
  ·refine W.condT h33 hc39 (W.seq (W.region ?_))
   refine SeqW.consX rfl (kBuildS [] [(vI 0), (vI 0), (vI 0), (vI 0), (vI 0), (vI 0), (vI 0)] rfl Try.underlying33 Try.type33 rfl rfl (places33 Try.underlying33) rfl (rfl) rfl ?_)
   refine sx rfl (pMove (v := (vI y34.2)) rfl h13) ?_
   refine SeqW.consX rfl (kPut (off := 0) (w := (Value.agg [(vI 0), (vI 0), (vI 0), (vI 0), (vI 0), (vI 0), (vI 0)].toArray)) (new := [(vI 0), (vI 0), (vI 0), (vI 0), (vI 0), (vI 0), (vI 0)]) rfl Try.type33 h10 rfl rfl rfl rfl X3 rfl [(vI 0), (vI 0), (vI 0), (vI 0), (vI 0), (vI 0), (vI 0)] rfl st ?_)
   intro m40 st X3 sm41
   refine sx rfl (pAssign (v := (vI y34.2)) rfl rfl) ?_
   refine SeqW.done fun fr42 hf43 => ?_
   have h10 := (congrFun hf43 10).trans h10
   have h11 : fr42 11 = (vI y34.2) := (congrFun hf43 11).trans rfl
   clear hf43
   refine thenQ.n ?_
   refine W.ret ?_
   refine thenQ.r ?_
   obtain rfl := Option.some.inj hr
   exact ⟨z10, hz, st, .inr rfl, B1, h10, X3, X3.fresh, h11, trivial⟩
  ·refine W.condF h33 hc44 (W.skip ?_)
   refine thenQ.n (W.seq (W.region ?_))
   refine sx rfl (pMove (v := (vI y34.1)) rfl h14) ?_
   refine SeqW.consX rfl (kField rfl Try.underlying33 rfl Try.type3 rfl h12 rfl ?_)
   refine SeqW.consX rfl (kPut (off := 5) (w := (vI y34.1)) (new := [(vI y34.1)]) rfl Try.type3 rfl rfl rfl rfl rfl X17 rfl [(vI y9.1.length), (vI y9.1.axles), (vI y9.1.mass), (vI y9.1.braked), (vI y9.1.percent), (vI y34.1), (vI y9.1.missing)] rfl st ?_)
   intro m45 st X17 sm46
   replace X3 := X3.same sm46 A21
   refine SeqW.done fun fr47 hf48 => ?_
   have h10 := (congrFun hf48 10).trans h10
   have h12 := (congrFun hf48 12).trans h12
   have h14 := (congrFun hf48 14).trans h14
   clear hf48
   refine thenQ.n (W.seq (W.region ?_))
   refine sx rfl (pMove (v := (vI y34.1)) rfl h14) ?_
   refine SeqW.consX rfl (kField rfl Try.underlying33 rfl Try.type3 rfl h12 rfl ?_)
   refine SeqW.consX rfl (kLoad rfl Try.underlying3 rfl rfl (X17.load (v := (vI y9.1.mass)) rfl) ?_)
   refine sx rfl (pMul (k := .i64) (a := y34.1) (b := y9.1.mass) rfl rfl rfl) ?_
   refine sx rfl (pAdd (k := .i64) (a := (IntKind.wrap .i64 (y34.1 * y9.1.mass))) (b := 99) rfl rfl rfl) ?_
   refine sx rfl (pQuo (k := .i64) (a := (IntKind.wrap .i64 ((IntKind.wrap .i64 (y34.1 * y9.1.mass)) + 99))) (b := 100) rfl rfl rfl (by decide)) ?_
   refine SeqW.consX rfl (kField rfl Try.underlying33 rfl Try.type3 rfl h12 rfl ?_)
   refine SeqW.consX rfl (kLoad rfl Try.underlying3 rfl rfl (X17.load (v := (vI y9.1.braked)) rfl) ?_)
   refine sx rfl (pSub (k := .i64) (a := (IntKind.wrap .i64 (Int.tdiv (IntKind.wrap .i64 ((IntKind.wrap .i64 (y34.1 * y9.1.mass)) + 99)) 100))) (b := y9.1.braked) rfl rfl rfl) ?_
   refine sx rfl (pMax2 (k := .i64) (a := 0) (b := (IntKind.wrap .i64 ((IntKind.wrap .i64 (Int.tdiv (IntKind.wrap .i64 ((IntKind.wrap .i64 (y34.1 * y9.1.mass)) + 99)) 100)) - y9.1.braked))) rfl rfl rfl) ?_
   refine SeqW.consX rfl (kField rfl Try.underlying33 rfl Try.type3 rfl h12 rfl ?_)
   refine SeqW.consX rfl (kPut (off := 6) (w := (vI (max 0 (IntKind.wrap .i64 ((IntKind.wrap .i64 (Int.tdiv (IntKind.wrap .i64 ((IntKind.wrap .i64 (y34.1 * y9.1.mass)) + 99)) 100)) - y9.1.braked))))) (new := [(vI (max 0 (IntKind.wrap .i64 ((IntKind.wrap .i64 (Int.tdiv (IntKind.wrap .i64 ((IntKind.wrap .i64 (y34.1 * y9.1.mass)) + 99)) 100)) - y9.1.braked))))]) rfl Try.type3 rfl rfl rfl rfl rfl X17 rfl [(vI y9.1.length), (vI y9.1.axles), (vI y9.1.mass), (vI y9.1.braked), (vI y9.1.percent), (vI y34.1), (vI (max 0 (IntKind.wrap .i64 ((IntKind.wrap .i64 (Int.tdiv (IntKind.wrap .i64 ((IntKind.wrap .i64 (y34.1 * y9.1.mass)) + 99)) 100)) - y9.1.braked))))] rfl st ?_)
   intro m49 st X17 sm50
   replace X3 := X3.same sm50 A21
   refine SeqW.done fun fr51 hf52 => ?_
   have h10 := (congrFun hf52 10).trans h10
   have h12 := (congrFun hf52 12).trans h12
   clear hf52
   refine thenQ.n (W.seq (W.region ?_))
   refine SeqW.consX rfl (kLoadA rfl Try.underlying33 rfl Try.type33 rfl h12 X17.loads ?_)
   refine SeqW.consX rfl (kPut (off := 0) (w := (Value.agg [(vI y9.1.length), (vI y9.1.axles), (vI y9.1.mass), (vI y9.1.braked), (vI y9.1.percent), (vI y34.1), (vI (max 0 (IntKind.wrap .i64 ((IntKind.wrap .i64 (Int.tdiv (IntKind.wrap .i64 ((IntKind.wrap .i64 (y34.1 * y9.1.mass)) + 99)) 100)) - y9.1.braked))))].toArray)) (new := [(vI y9.1.length), (vI y9.1.axles), (vI y9.1.mass), (vI y9.1.braked), (vI y9.1.percent), (vI y34.1), (vI (max 0 (IntKind.wrap .i64 ((IntKind.wrap .i64 (Int.tdiv (IntKind.wrap .i64 ((IntKind.wrap .i64 (y34.1 * y9.1.mass)) + 99)) 100)) - y9.1.braked))))]) rfl Try.type33 h10 rfl rfl rfl rfl X3 rfl [(vI y9.1.length), (vI y9.1.axles), (vI y9.1.mass), (vI y9.1.braked), (vI y9.1.percent), (vI y34.1), (vI (max 0 (IntKind.wrap .i64 ((IntKind.wrap .i64 (Int.tdiv (IntKind.wrap .i64 ((IntKind.wrap .i64 (y34.1 * y9.1.mass)) + 99)) 100)) - y9.1.braked))))] rfl st ?_)
   intro m53 st X3 sm54
   refine sx rfl (pAssign (v := (vI 0)) rfl rfl) ?_
   refine SeqW.done fun fr55 hf56 => ?_
   have h10 := (congrFun hf56 10).trans h10
   have h11 : fr55 11 = (vI 0) := (congrFun hf56 11).trans rfl
   clear hf56
   refine thenQ.n ?_
   refine W.ret ?_
   obtain rfl := Option.some.inj hr
   exact ⟨z10, hz, st, .inr rfl, B1, h10, X3, X3.fresh, h11, trivial⟩

theorem c_r35_Sheet {N : Nat} {z : Nat → Blk} {m : Mem} {x0 : List Wagon} {x1 : List Int} {x2 : List BrakeRow} {x3 : Int} {x4 : Int} {v0 : Value} {v1 : Value} {v2 : Value} (fz : Fz z m) (hd : ∀ b, m.next ≤ b → m.blk b = .dead) (s0 : SlR TWagon z x0 v0) (s1 : SlR (TInt 3 .i64) z x1 v1) (s2 : SlR TBrakeRow z x2 v2) {r : Brakes × Int} (hr : r35_Sheet N x0 x1 x2 x3 x4 = some r) : CallW Try.prog 34 #[v0, v1, v2, (vI x3), (vI x4)] m fun v m' => ∃ z', Zx m.next z z' ∧ Fz z' m' ∧ Same m m' none ∧ v = (Value.tuple [(Value.agg [(vI r.1.length), (vI r.1.axles), (vI r.1.mass), (vI r.1.braked), (vI r.1.percent), (vI r.1.required), (vI r.1.missing)].toArray), (vI r.2)].toArray) ∧ True := by
 refine CallW.any Try.func34 rfl (by kernel_rfl) (Nat.le_of_ble_eq_true rfl) (fun fr hf => ?_)
 have h0 : fr 0 = _ := hf 0 _ rfl
 have h1 : fr 1 = _ := hf 1 _ rfl
 have h2 : fr 2 = _ := hf 2 _ rfl
 have h3 : fr 3 = _ := hf 3 _ rfl
 have h4 : fr 4 = _ := hf 4 _ rfl
 refine (u_r35_Sheet (k := none) (Zx.refl _) (St.start fz hd) h0 s0 h1 s1 h2 s2 h3 h4 hr).mono ?_
 rintro ex fr' m' ⟨z', hz, st, he, c10, h10, bx10, fx10, h11, -⟩
 exact ⟨he, [(Value.agg [(vI r.1.length), (vI r.1.axles), (vI r.1.mass), (vI r.1.braked), (vI r.1.percent), (vI r.1.required), (vI r.1.missing)].toArray), (vI r.2)], ⟨resCell h10 bx10 Try.underlying33 rfl Try.type33 rfl, h11.symm, trivial⟩, .inr (List.forall_mem_cons.2 ⟨rfl, List.forall_mem_cons.2 ⟨rfl, fun _ h => nomatch h⟩⟩), z', hz, st.fz, st.toSame, rfl, trivial⟩

/-! ### humpyard/humpyardref35.Fastest -/

theorem u_r35_Fastest_0 {N : Nat}  {z0 z : Nat → Blk} {e m : Mem} {k : Option Nat} {fr : Nat → Value} {x3 : Int} {x10 : Brakes} {b10 : Nat} (hz : Zx e.next z0 z) (st : St z e m k) (h3 : fr 3 = (vI x3)) (h10 : fr 10 = (vP b10)) (bx10 : Bx z e m k b10 [(vI x10.length), (vI x10.axles), (vI x10.mass), (vI x10.braked), (vI x10.percent), (vI x10.required), (vI x10.missing)] 33) {r : Bool} (hr : r35_Fastest_0 N x3 = some r) : W Try.prog (sub (bodyOf Try.f35) [1, 1, 1, 1, 0, 0]) (fun ex fr' m' => ∃ z', Zx e.next z0 z' ∧ St z' e m' k ∧ ex = AExit.normal ∧ fr' 33 = (vB r) ∧ Bx z' e m' k b10 [(vI x10.length), (vI x10.axles), (vI x10.mass), (vI x10.braked), (vI x10.percent), (vI x10.required), (vI x10.missing)] 33 ∧ True) fr m := by
 unfold r35_Fastest_0 at hr
 refine W.region ?_
 refine sx rfl (pMove (v := (vI x3)) rfl h3) ?_
 refine sx rfl (pLss (k := .i64) (a := x3) (b := 0) rfl rfl rfl) ?_
 refine sx rfl (pMove (v := (vB (decide (x3 < 0)))) rfl rfl) ?_
 rcases if_some hr with ⟨hc32, hr⟩ | ⟨hc35, hr⟩
 ·refine kx rfl rfl rfl hc32 ?_
  refine kx rfl rfl rfl hc32 ?_
  refine sx rfl (pPick (t := true) (v := (vB true)) rfl ((congrArg vB hc32)) rfl) ?_
  refine SeqW.done fun fr33 hf34 => ?_
  have h3 := (congrFun hf34 3).trans h3
  have h10 := (congrFun hf34 10).trans h10
  have h33 : fr33 33 = (vB true) := (congrFun hf34 33).trans rfl
  clear hf34
  obtain rfl := Option.some.inj hr
  exact ⟨z, hz, st, rfl, h33, bx10, trivial⟩
 ·refine SeqW.consG rfl rfl rfl hc35 (StepX.pure (pMove (v := (vI x3)) rfl h3) ?_)
  refine SeqW.consG rfl rfl rfl hc35 (StepX.pure (pGtr (k := .i64) (a := x3) (b := 500) rfl rfl rfl) ?_)
  refine sx rfl (pPick (t := false) (v := (vB (decide (500 < x3)))) rfl ((congrArg vB hc35)) rfl) ?_
  refine SeqW.done fun fr36 hf37 => ?_
  have h3 := (congrFun hf37 3).trans h3
  have h10 := (congrFun hf37 10).trans h10
  have h33 : fr36 33 = (vB (decide (500 < x3))) := (congrFun hf37 33).trans rfl
  clear hf37
  obtain rfl := Option.some.inj hr
  exact ⟨z, hz, st, rfl, h33, bx10, trivial⟩

theorem u_r35_Fastest_3 {N : Nat}  {z0 z : Nat → Blk} {e m : Mem} {k : Option Nat} {fr : Nat → Value} {x10 : Brakes} {x14 : Int} {x15 : Bool} {b10 : Nat} (hz : Zx e.next z0 z) (st : St z e m k) (h10 : fr 10 = (vP b10)) (bx10 : Bx z e m k b10 [(vI x10.length), (vI x10.axles), (vI x10.mass), (vI x10.braked), (vI x10.percent), (vI x10.required), (vI x10.missing)] 33) (h14 : fr 14 = (vI x14)) (h15 : fr 15 = (vB x15)) {r : Bool} (hr : r35_Fastest_3 N x10 x14 x15 = some r) : W Try.prog (sub (bodyOf Try.f35) [1, 1, 1, 1, 1, 1, 0, 1, 0, 0, 1, 0, 0, 1, 0]) (fun ex fr' m' => ∃ z', Zx e.next z0 z' ∧ St z' e m' k ∧ ex = AExit.normal ∧ fr' 57 = (vB r) ∧ Bx z' e m' k b10 [(vI x10.length), (vI x10.axles), (vI x10.mass), (vI x10.braked), (vI x10.percent), (vI x10.required), (vI x10.missing)] 33 ∧ True) fr m := by
 unfold r35_Fastest_3 at hr
 refine W.region ?_
 refine sx rfl (pMove (v := (vB x15)) rfl h15) ?_
 refine sx rfl (pMove (v := (vB x15)) rfl rfl) ?_
 rcases if_some hr with ⟨hc66, hr⟩ | ⟨hc69, hr⟩
 ·refine SeqW.consG rfl rfl rfl hc66 (StepX.pure (pMove (v := (vI x14)) rfl h14) ?_)
  refine SeqW.consG rfl rfl rfl hc66 (kField rfl Try.underlying33 rfl Try.type3 rfl h10 rfl ?_)
  refine SeqW.consG rfl rfl rfl hc66 (kLoad rfl Try.underlying3 rfl rfl (bx10.load (v := (vI x10.percent)) rfl) ?_)
  refine SeqW.consG rfl rfl rfl hc66 (StepX.pure (pLeq (k := .i64) (a := x14) (b := x10.percent) rfl rfl rfl) ?_)
  refine sx rfl (pPick (t := true) (v := (vB (decide (x14 ≤ x10.percent)))) rfl ((congrArg vB hc66)) rfl) ?_
  refine SeqW.done fun fr67 hf68 => ?_
  have h10 := (congrFun hf68 10).trans h10
  have h57 : fr67 57 = (vB (decide (x14 ≤ x10.percent))) := (congrFun hf68 57).trans rfl
  clear hf68
  obtain rfl := Option.some.inj hr
  exact ⟨z, hz, st, rfl, h57, bx10, trivial⟩
 ·refine kx rfl rfl rfl hc69 ?_
  iterate 3 refine kx rfl rfl rfl hc69 ?_
  refine sx rfl (pPick (t := false) (v := (vB false)) rfl ((congrArg vB hc69)) rfl) ?_
  refine SeqW.done fun fr70 hf71 => ?_
  have h10 := (congrFun hf71 10).trans h10
  have h57 : fr70 57 = (vB false) := (congrFun hf71 57).trans rfl
  clear hf71
  obtain rfl := Option.some.inj hr
  exact ⟨z, hz, st, rfl, h57, bx10, trivial⟩

theorem u_r35_Fastest_2 {N : Nat}  {z0 z : Nat → Blk} {e m : Mem} {k : Option Nat} {fr : Nat → Value} {x2 : List BrakeRow} {x3 : Int} {x10 : Brakes} {x12 : Int} {x13 : Int} {v2 : Value} {b10 : Nat} (hz : Zx e.next z0 z) (st : St z e m k) (h2 : fr 2 = v2) (s2 : SlR TBrakeRow z x2 v2) (h3 : fr 3 = (vI x3)) (h10 : fr 10 = (vP b10)) (bx10 : Bx z e m k b10 [(vI x10.length), (vI x10.axles), (vI x10.mass), (vI x10.braked), (vI x10.percent), (vI x10.required), (vI x10.missing)] 33) (h12 : fr 12 = (vI x12)) (h13 : fr 13 = (vI x13)) {r : Int} (hr : r35_Fastest_2 N x2 x3 x10 x12 x13 = some r) : W Try.prog (sub (bodyOf Try.f35) [1, 1, 1, 1, 1, 1, 0, 1, 0, 0, 1, 0]) (fun ex fr' m' => ∃ z', Zx e.next z0 z' ∧ St z' e m' k ∧ ex = AExit.normal ∧ fr' 12 = (vI r) ∧ Bx z' e m' k b10 [(vI x10.length), (vI x10.axles), (vI x10.mass), (vI x10.braked), (vI x10.percent), (vI x10.required), (vI x10.missing)] 33 ∧ True) fr m := by
 unfold r35_Fastest_2 at hr
 refine W.block ?_
 refine W.seq (W.region ?_)
 refine sx rfl (pMove (v := v2) rfl h2) ?_
 refine sx rfl (pMove (v := v2) rfl h2) ?_
 refine sx rfl (pMove (v := (vI x13)) rfl h13) ?_
 obtain ⟨y57, hy57, hr⟩ := bind_some hr
 refine SeqW.consX rfl (kIdxR (T := TBrakeRow) (xs := x2) (n := x13) rfl Try.underlying27 Try.type31 rfl rfl rfl s2 hy57 ?_)
 intro B58 f59 cs60 hd61 hc62
 obtain rfl := hd61
 refine SeqW.consX rfl (kField rfl Try.underlying31 rfl Try.type3 rfl rfl rfl ?_)
 refine SeqW.consX rfl (kLoad (v := (vI y57.speed)) rfl Try.underlying3 rfl rfl (ldz_load st.fz (hc62 0 _ rfl)) ?_)
 refine sx rfl (pMove (v := (vI x3)) rfl h3) ?_
 obtain ⟨y63, hy63, hr⟩ := bind_some hr
 refine SeqW.consX rfl (StepX.call (gCallee rfl rfl (args3 rfl rfl rfl)) ((c_r35_need (z := z) st.fz st.dead s2 hy63).mono ?_))
 rintro _ _ ⟨rfl, rfl⟩
 refine sx rfl (pMove (v := (Value.tuple [(vI y63.1), (vB y63.2)].toArray)) rfl rfl) ?_
 refine sx rfl (pExtract (vs := [(vI y63.1), (vB y63.2)]) (v := (vI y63.1)) rfl rfl rfl) ?_
 refine sx rfl (pExtract (vs := [(vI y63.1), (vB y63.2)]) (v := (vB y63.2)) rfl rfl rfl) ?_
 refine sx rfl (pAssign (v := (vI y63.1)) rfl rfl) ?_
 refine sx rfl (pAssign (v := (vB y63.2)) rfl rfl) ?_
 refine SeqW.done fun fr64 hf65 => ?_
 have h2 := (congrFun hf65 2).trans h2
 have h3 := (congrFun hf65 3).trans h3
 have h10 := (congrFun hf65 10).trans h10
 have h12 := (congrFun hf65 12).trans h12
 have h13 := (congrFun hf65 13).trans h13
 have h14 : fr64 14 = (vI y63.1) := (congrFun hf65 14).trans rfl
 have h15 : fr64 15 = (vB y63.2) := (congrFun hf65 15).trans rfl
 clear hf65
 refine thenQ.n (W.seq ?_)
 obtain ⟨y72, hy72, hr⟩ := bind_some hr
 refine W.keep (u_r35_Fastest_3 (x10 := x10) (Zx.refl _) st h10 bx10 h14 h15 hy72) ?_
 rintro ex78 fr73 m74 hk76 ⟨z75, hz77, st, rfl, h57, O79, -⟩
 replace s2 := s2.mono hz77.le
 have h2 := (hk76 2 rfl).trans h2
 have h3 := (hk76 3 rfl).trans h3
 have h10 := (hk76 10 rfl).trans h10
 have h12 := (hk76 12 rfl).trans h12
 have h13 := (hk76 13 rfl).trans h13
 replace hz := hz.trans hz77
 clear hk76
 refine thenQ.n ?_
 rcases if_some hr with ⟨hc80, hr⟩ | ⟨hc90, hr⟩
 ·refine W.condT h57 hc80 (W.region ?_)
  refine sx rfl (pMove (v := (vI x12)) rfl h12) ?_
  refine sx rfl (pMove (v := v2) rfl h2) ?_
  refine sx rfl (pMove (v := (vI x13)) rfl h13) ?_
  obtain ⟨y81, hy81, hr⟩ := bind_some hr
  refine SeqW.consX rfl (kIdxR (T := TBrakeRow) (xs := x2) (n := x13) rfl Try.underlying27 Try.type31 rfl rfl rfl s2 hy81 ?_)
  intro B82 f83 cs84 hd85 hc86
  obtain rfl := hd85
  refine SeqW.consX rfl (kField rfl Try.underlying31 rfl Try.type3 rfl rfl rfl ?_)
  refine SeqW.consX rfl (kLoad (v := (vI y81.speed)) rfl Try.underlying3 rfl rfl (ldz_load st.fz (hc86 0 _ rfl)) ?_)
  refine sx rfl (pMax2 (k := .i64) (a := x12) (b := y81.speed) rfl rfl rfl) ?_
  obtain ⟨y87, hy87, hr⟩ := lt_some hr
  refine sx rfl (pAssign rfl (congrArg (Value.int .i64) hy87)) ?_
  refine SeqW.done fun fr88 hf89 => ?_
  have h2 := (congrFun hf89 2).trans h2
  have h3 := (congrFun hf89 3).trans h3
  have h10 := (congrFun hf89 10).trans h10
  have h12 : fr88 12 = (vI y87) := (congrFun hf89 12).trans rfl
  have h13 := (congrFun hf89 13).trans h13
  clear hf89
  refine blockQ.n ?_
  obtain rfl := Option.some.inj hr
  exact ⟨z75, hz, st, rfl, h12, O79, trivial⟩
 ·refine W.condF h57 hc90 (W.skip ?_)
  refine blockQ.n ?_
  obtain rfl := Option.some.inj hr
  exact ⟨z75, hz, st, rfl, h12, O79, trivial⟩

theorem u_r35_Fastest_1 : ∀ (n : Nat) {N : Nat}  {z0 z : Nat → Blk} {e m : Mem} {k : Option Nat} {fr : Nat → Value} {x2 : List BrakeRow} {x3 : Int} {x10 : Brakes} {x12 : Int} {x13 : Int} {v2 : Value} {b10 : Nat} (hz : Zx e.next z0 z) (st : St z e m k) (h2 : fr 2 = v2) (s2 : SlR TBrakeRow z x2 v2) (h3 : fr 3 = (vI x3)) (h10 : fr 10 = (vP b10)) (bx10 : Bx z e m k b10 [(vI x10.length), (vI x10.axles), (vI x10.mass), (vI x10.braked), (vI x10.percent), (vI x10.required), (vI x10.missing)] 33) (h12 : fr 12 = (vI x12)) (h13 : fr 13 = (vI x13)) {r : Int} (hr : r35_Fastest_1 N x2 x3 x10 n x12 x13 = some r), W Try.prog (sub (bodyOf Try.f35) [1, 1, 1, 1, 1, 1, 0, 1, 0]) (fun ex fr' m' => ∃ z', Zx e.next z0 z' ∧ St z' e m' k ∧ ex = AExit.exit 0 ∧ fr' 12 = (vI r) ∧ True) fr m := by
 intro n
 induction n with
 | zero => intro N z0 z e m k fr x2 x3 x10 x12 x13 v2 b10 hz st h2 s2 h3 h10 bx10 h12 h13 r hr; cases (show (none : Option _) = some r from hr)
 | succ n ih =>
  intro N z0 z e m k fr x2 x3 x10 x12 x13 v2 b10 hz st h2 s2 h3 h10 bx10 h12 h13 r hr
  unfold r35_Fastest_1 at hr
  refine W.loop1 ?_
  refine W.seq (W.seq (W.region ?_))
  refine sx rfl (pMove (v := (vI x13)) rfl h13) ?_
  refine sx rfl (pMove (v := v2) rfl h2) ?_
  refine sx rfl (pLenR (xs := x2) rfl Try.underlying27 rfl s2) ?_
  refine sx rfl (pLss (k := .i64) (a := x13) (b := (x2.length : Int)) rfl rfl rfl) ?_
  refine SeqW.done fun fr54 hf55 => ?_
  have h2 := (congrFun hf55 2).trans h2
  have h3 := (congrFun hf55 3).trans h3
  have h10 := (congrFun hf55 10).trans h10
  have h12 := (congrFun hf55 12).trans h12
  have h13 := (congrFun hf55 13).trans h13
  have h37 : fr54 37 = (vB (decide (x13 < (x2.length : Int)))) := (congrFun hf55 37).trans rfl
  clear hf55
  refine thenQ.n ?_
  rcases if_some hr with ⟨hc56, hr⟩ | ⟨hc102, hr⟩
  ·refine W.condT h37 hc56 (W.skip ?_)
   refine thenQ.n (W.seq ?_)
   obtain ⟨y91, hy91, hr⟩ := bind_some hr
   refine W.keep (u_r35_Fastest_2 (x10 := x10) (Zx.refl _) st h2 s2 h3 h10 bx10 h12 h13 hy91) ?_
   rintro ex97 fr92 m93 hk95 ⟨z94, hz96, st, rfl, h12, O98, -⟩
   replace s2 := s2.mono hz96.le
   have h2 := (hk95 2 rfl).trans h2
   have h3 := (hk95 3 rfl).trans h3
   have h10 := (hk95 10 rfl).trans h10
   have h13 := (hk95 13 rfl).trans h13
   replace hz := hz.trans hz96
   clear hk95
   refine thenQ.n (W.region ?_)
   refine sx rfl (pMove (v := (vI x13)) rfl h13) ?_
   refine sx rfl (pAdd (k := .i64) (a := x13) (b := 1) rfl rfl rfl) ?_
   obtain ⟨y99, hy99, hr⟩ := lt_some hr
   refine sx rfl (pAssign rfl (congrArg (Value.int .i64) hy99)) ?_
   refine SeqW.done fun fr100 hf101 => ?_
   have h2 := (congrFun hf101 2).trans h2
   have h3 := (congrFun hf101 3).trans h3
   have h10 := (congrFun hf101 10).trans h10
   have h12 := (congrFun hf101 12).trans h12
   have h13 : fr100 13 = (vI y99) := (congrFun hf101 13).trans rfl
   clear hf101
   refine thenQ.n ?_
   exact ih (x10 := x10) hz st h2 s2 h3 h10 O98 h12 h13 hr
  ·refine W.condF h37 hc102 ?_
   refine W.exit ?_
   refine thenQ.x ?_
   refine thenQ.x ?_
   obtain rfl := Option.some.inj hr
   exact ⟨z, hz, st, rfl, h12, trivial⟩

theorem u_r35_Fastest {N : Nat}  {z0 z : Nat → Blk} {e m : Mem} {k : Option Nat} {fr : Nat → Value} {x0 : List Wagon} {x1 : List Int} {x2 : List BrakeRow} {x3 : Int} {v0 : Value} {v1 : Value} {v2 : Value} (hz : Zx e.next z0 z) (st : St z e m k) (h0 : fr 0 = v0) (s0 : SlR TWagon z x0 v0) (h1 : fr 1 = v1) (s1 : SlR (TInt 3 .i64) z x1 v1) (h2 : fr 2 = v2) (s2 : SlR TBrakeRow z x2 v2) (h3 : fr 3 = (vI x3)) {r : Int × Int} (hr : r35_Fastest N x0 x1 x2 x3 = some r) : W Try.prog (sub (bodyOf Try.f35) []) (fun ex fr' m' => ∃ z', Zx e.next z0 z' ∧ St z' e m' k ∧ (ex = .normal ∨ ex = .ret) ∧ fr' 8 = (vI r.1) ∧ fr' 9 = (vI r.2) ∧ True) fr m := by
 unfold r35_Fastest at hr
 refine W.seq (W.region ?_)
 refine sx rfl (pAssign (v := (vI 0)) rfl rfl) ?_
 refine sx rfl (pAssign (v := (vI 0)) rfl rfl) ?_
 refine SeqW.done fun fr1 hf2 => ?_
 have h0 := (congrFun hf2 0).trans h0
 have h1 := (congrFun hf2 1).trans h1
 have h2 := (congrFun hf2 2).trans h2
 have h3 := (congrFun hf2 3).trans h3
 clear hf2
 refine thenQ.n (W.seq (W.region ?_))
 refine sx rfl (pMove (v := v0) rfl h0) ?_
 refine sx rfl (pMove (v := v1) rfl h1) ?_
 obtain ⟨y3, hy3, hr⟩ := bind_some hr
 refine SeqW.consX rfl (StepX.call (gCallee rfl rfl (args2 rfl rfl)) ((c_r35_Total (z := z) st.fz st.dead s0 s1 hy3).mono ?_))
 rintro _ m8 ⟨z4, hzx5, fz6, sm7, rfl, -⟩
 replace s0 := s0.mono hzx5.le
 replace s1 := s1.mono hzx5.le
 replace s2 := s2.mono hzx5.le
 replace hz := hz.trans (Zx.here st hzx5)
 replace st := st.call hzx5 fz6 sm7 no_hq
 refine sx rfl (pMove (v := (Value.tuple [(Value.agg [(vI y3.1.length), (vI y3.1.axles), (vI y3.1.mass), (vI y3.1.braked), (vI y3.1.percent), (vI y3.1.required), (vI y3.1.missing)].toArray), (vI y3.2)].toArray)) rfl rfl) ?_
 refine sx rfl (pExtract (vs := [(Value.agg [(vI y3.1.length), (vI y3.1.axles), (vI y3.1.mass), (vI y3.1.braked), (vI y3.1.percent), (vI y3.1.required), (vI y3.1.missing)].toArray), (vI y3.2)]) (v := (Value.agg [(vI y3.1.length), (vI y3.1.axles), (vI y3.1.mass), (vI y3.1.braked), (vI y3.1.percent), (vI y3.1.required), (vI y3.1.missing)].toArray)) rfl rfl rfl) ?_
 refine sx rfl (pExtract (vs := [(Value.agg [(vI y3.1.length), (vI y3.1.axles), (vI y3.1.mass), (vI y3.1.braked), (vI y3.1.percent), (vI y3.1.required), (vI y3.1.missing)].toArray), (vI y3.2)]) (v := (vI y3.2)) rfl rfl rfl) ?_
 refine SeqW.consX rfl (kAlloc rfl Try.type33 rfl rfl rfl [(vI 0), (vI 0), (vI 0), (vI 0), (vI 0), (vI 0), (vI 0)] rfl st ?_)
 intro B9 m10 st X11 sm12 hap13
 refine SeqW.consX rfl (kPut (off := 0) (w := (Value.agg [(vI y3.1.length), (vI y3.1.axles), (vI y3.1.mass), (vI y3.1.braked), (vI y3.1.percent), (vI y3.1.required), (vI y3.1.missing)].toArray)) (new := [(vI y3.1.length), (vI y3.1.axles), (vI y3.1.mass), (vI y3.1.braked), (vI y3.1.percent), (vI y3.1.required), (vI y3.1.missing)]) rfl Try.type33 rfl rfl rfl rfl rfl X11 rfl [(vI y3.1.length), (vI y3.1.axles), (vI y3.1.mass), (vI y3.1.braked), (vI y3.1.percent), (vI y3.1.required), (vI y3.1.missing)] rfl st ?_)
 intro m15 st X11 sm16
 refine sx rfl (pAssign (v := (vI y3.2)) rfl rfl) ?_
 refine SeqW.done fun fr17 hf18 => ?_
 have h2 := (congrFun hf18 2).trans h2
 have h3 := (congrFun hf18 3).trans h3
 have h10 : fr17 10 = (vP B9) := (congrFun hf18 10).trans rfl
 have h11 : fr17 11 = (vI y3.2) := (congrFun hf18 11).trans rfl
 clear hf18
 refine thenQ.n (W.seq ?_)
 refine W.seq (W.region ?_)
 refine sx rfl (pMove (v := (vI y3.2)) rfl h11) ?_
 refine sx rfl (pNeq (k := .i64) (a := y3.2) (b := 0) rfl rfl rfl) ?_
 refine SeqW.done fun fr19 hf20 => ?_
 have h2 := (congrFun hf20 2).trans h2
 have h3 := (congrFun hf20 3).trans h3
 have h10 := (congrFun hf20 10).trans h10
 have h11 := (congrFun hf20 11).trans h11
 have h23 : fr19 23 = (vB (y3.2 != 0)) := (congrFun hf20 23).trans rfl
 clear hf20
 refine thenQ.n ?_
 rcases if_some hr with ⟨hc21, hr⟩ | ⟨hc24, hr⟩
 ·refine W.condT h23 hc21 (W.seq (W.region ?_))
  refine sx rfl (pMove (v := (vI y3.2)) rfl h11) ?_
  refine sx rfl (pAssign (v := (vI 0)) rfl rfl) ?_
  refine sx rfl (pAssign (v := (vI y3.2)) rfl rfl) ?_
  refine SeqW.done fun fr22 hf23 => ?_
  have h8 : fr22 8 = (vI 0) := (congrFun hf23 8).trans rfl
  have h9 : fr22 9 = (vI y3.2) := (congrFun hf23 9).trans rfl
  clear hf23
  refine thenQ.n ?_
  refine W.ret ?_
  refine thenQ.r ?_
  obtain rfl := Option.some.inj hr
  exact ⟨z4, hz, st, .inr rfl, h8, h9, trivial⟩
 ·refine W.condF h23 hc24 (W.skip ?_)
  refine thenQ.n (W.seq ?_)
  refine W.seq (W.region ?_)
  refine sx rfl (pMove (v := v2) rfl h2) ?_
  obtain ⟨y25, hy25, hr⟩ := bind_some hr
  refine SeqW.consX rfl (StepX.call (gCallee rfl rfl (args1 rfl)) ((c_r35_ValidTable (z := z4) st.fz st.dead s2 hy25).mono ?_))
  rintro _ _ ⟨rfl, rfl⟩
  refine sx rfl (pNot (b := y25) rfl rfl) ?_
  refine SeqW.done fun fr26 hf27 => ?_
  have h2 := (congrFun hf27 2).trans h2
  have h3 := (congrFun hf27 3).trans h3
  have h10 := (congrFun hf27 10).trans h10
  have h27 : fr26 27 = (vB (!y25)) := (congrFun hf27 27).trans rfl
  clear hf27
  refine thenQ.n ?_
  rcases if_some hr with ⟨hc28, hr⟩ | ⟨hc31, hr⟩
  ·refine W.condT h27 hc28 (W.seq (W.region ?_))
   refine sx rfl (pAssign (v := (vI 0)) rfl rfl) ?_
   refine sx rfl (pAssign (v := (vI 1)) rfl rfl) ?_
   refine SeqW.done fun fr29 hf30 => ?_
   have h8 : fr29 8 = (vI 0) := (congrFun hf30 8).trans rfl
   have h9 : fr29 9 = (vI 1) := (congrFun hf30 9).trans rfl
   clear hf30
   refine thenQ.n ?_
   refine W.ret ?_
   refine thenQ.r ?_
   obtain rfl := Option.some.inj hr
   exact ⟨z4, hz, st, .inr rfl, h8, h9, trivial⟩
  ·refine W.condF h27 hc31 (W.skip ?_)
   refine thenQ.n (W.seq (W.seq ?_))
   obtain ⟨y38, hy38, hr⟩ := bind_some hr
   refine W.keep (u_r35_Fastest_0 (x10 := y3.1) (Zx.refl _) st h3 h10 X11 hy38) ?_
   rintro ex44 fr39 m40 hk42 ⟨z41, hz43, st, rfl, h33, O45, -⟩
   replace s2 := s2.mono hz43.le
   have h2 := (hk42 2 rfl).trans h2
   have h3 := (hk42 3 rfl).trans h3
   have h10 := (hk42 10 rfl).trans h10
   replace hz := hz.trans hz43
   clear hk42
   refine thenQ.n ?_
   rcases if_some hr with ⟨hc46, hr⟩ | ⟨hc49, hr⟩
   ·refine W.condT h33 hc46 (W.seq (W.region ?_))
    refine sx rfl (pAssign (v := (vI 0)) rfl rfl) ?_
    refine sx rfl (pAssign (v := (vI 2)) rfl rfl) ?_
    refine SeqW.done fun fr47 hf48 => ?_
    have h8 : fr47 8 = (vI 0) := (congrFun hf48 8).trans rfl
    have h9 : fr47 9 = (vI 2) := (congrFun hf48 9).trans rfl
    clear hf48
    refine thenQ.n ?_
    refine W.ret ?_
    refine thenQ.r ?_
    obtain rfl := Option.some.inj hr
    exact ⟨z41, hz, st, .inr rfl, h8, h9, trivial⟩
   ·refine W.condF h33 hc49 (W.skip ?_)
    refine thenQ.n (W.seq (W.region ?_))
    refine sx rfl (pAssign (v := (vI 0)) rfl rfl) ?_
    refine SeqW.done fun fr50 hf51 => ?_
    have h2 := (congrFun hf51 2).trans h2
    have h3 := (congrFun hf51 3).trans h3
    have h10 := (congrFun hf51 10).trans h10
    have h12 : fr50 12 = (vI 0) := (congrFun hf51 12).trans rfl
    clear hf51
    refine thenQ.n (W.seq ?_)
    refine W.seq (W.region ?_)
    refine sx rfl (pAssign (v := (vI 0)) rfl rfl) ?_
    refine SeqW.done fun fr52 hf53 => ?_
    have h2 := (congrFun hf53 2).trans h2
    have h3 := (congrFun hf53 3).trans h3
    have h10 := (congrFun hf53 10).trans h10
    have h12 := (congrFun hf53 12).trans h12
    have h13 : fr52 13 = (vI 0) := (congrFun hf53 13).trans rfl
    clear hf53
    refine thenQ.n ?_
    refine W.block ?_
    obtain ⟨y103, hy103, hr⟩ := bind_some hr
    refine W.keep (u_r35_Fastest_1 (x10 := y3.1) _ (Zx.refl _) st h2 s2 h3 h10 O45 h12 h13 hy103) ?_
    rintro ex109 fr104 m105 hk107 ⟨z106, hz108, st, rfl, h12, -⟩
    replace hz := hz.trans hz108
    clear hk107
    refine blockQ.hit ?_
    refine thenQ.n (W.seq ?_)
    refine W.seq (W.region ?_)
    refine sx rfl (pMove (v := (vI y103)) rfl h12) ?_
    refine sx rfl (pEql (k := .i64) (a := y103) (b := 0) rfl rfl rfl) ?_
    refine SeqW.done fun fr110 hf111 => ?_
    have h12 := (congrFun hf111 12).trans h12
    have h66 : fr110 66 = (vB (y103 == 0)) := (congrFun hf111 66).trans rfl
    clear hf111
    refine thenQ.n ?_
    rcases if_some hr with ⟨hc112, hr⟩ | ⟨hc115, hr⟩
    ·refine W.condT h66 hc112 (W.seq (W.region ?_))
     refine sx rfl (pAssign (v := (vI 0)) rfl rfl) ?_
     refine sx rfl (pAssign (v := (vI 15)) rfl rfl) ?_
     refine SeqW.done fun fr113 hf114 => ?_
     have h8 : fr113 8 = (vI 0) := (congrFun hf114 8).trans rfl
     have h9 : fr113 9 = (vI 15) := (congrFun hf114 9).trans rfl
     clear hf114
     refine thenQ.n ?_
     refine W.ret ?_
     refine thenQ.r ?_
     obtain rfl := Option.some.inj hr
     exact ⟨z106, hz, st, .inr rfl, h8, h9, trivial⟩
    ·refine W.condF h66 hc115 (W.skip ?_)
     refine thenQ.n (W.seq (W.region ?_))
     refine sx rfl (pMove (v := (vI y103)) rfl h12) ?_
     refine sx rfl (pAssign (v := (vI y103)) rfl rfl) ?_
     refine sx rfl (pAssign (v := (vI 0)) rfl rfl) ?_
     refine SeqW.done fun fr116 hf117 => ?_
     have h8 : fr116 8 = (vI y103) := (congrFun hf117 8).trans rfl
     have h9 : fr116 9 = (vI 0) := (congrFun hf117 9).trans rfl
     clear hf117
     refine thenQ.n ?_
     refine W.ret ?_
     obtain rfl := Option.some.inj hr
     exact ⟨z106, hz, st, .inr rfl, h8, h9, trivial⟩

theorem c_r35_Fastest {N : Nat} {z : Nat → Blk} {m : Mem} {x0 : List Wagon} {x1 : List Int} {x2 : List BrakeRow} {x3 : Int} {v0 : Value} {v1 : Value} {v2 : Value} (fz : Fz z m) (hd : ∀ b, m.next ≤ b → m.blk b = .dead) (s0 : SlR TWagon z x0 v0) (s1 : SlR (TInt 3 .i64) z x1 v1) (s2 : SlR TBrakeRow z x2 v2) {r : Int × Int} (hr : r35_Fastest N x0 x1 x2 x3 = some r) : CallW Try.prog 35 #[v0, v1, v2, (vI x3)] m fun v m' => v = (Value.tuple [(vI r.1), (vI r.2)].toArray) ∧ m' = m := by
 refine CallW.flat Try.func35 rfl (by kernel_rfl) (Nat.le_of_ble_eq_true rfl) rfl (z := z) (fun fr hf => ?_)
 have h0 : fr 0 = _ := hf 0 _ rfl
 have h1 : fr 1 = _ := hf 1 _ rfl
 have h2 : fr 2 = _ := hf 2 _ rfl
 have h3 : fr 3 = _ := hf 3 _ rfl
 refine (u_r35_Fastest (k := none) (Zx.refl _) (St.start fz hd) h0 s0 h1 s1 h2 s2 h3 hr).mono ?_
 rintro ex fr' m' ⟨z', hz, st, he, h8, h9, -⟩
 exact ⟨he, z', st, [(vI r.1), (vI r.2)], ⟨h8.symm, h9.symm, trivial⟩, .inr (List.forall_mem_cons.2 ⟨rfl, List.forall_mem_cons.2 ⟨rfl, fun _ h => nomatch h⟩⟩), rfl⟩

/-! ### humpyard/humpyardlaw35.exact -/

theorem u_l35_exact_0 {N : Nat}  {z0 z : Nat → Blk} {e m : Mem} {k : Option Nat} {fr : Nat → Value} {x2 : List BrakeRow} {x11 : Brakes} {x12 : Int} {x13 : Brakes} {x14 : Int} {x15 : Int} {x16 : Int} {x17 : Int} {x18 : Int} {x19 : Brakes} {x20 : Int} {x21 : Brakes} {x22 : Int} {x23 : Int} {x24 : Int} {x25 : Int} {x26 : Int} {v2 : Value} {b11 : Nat} {b13 : Nat} {b19 : Nat} {b21 : Nat} (hz : Zx e.next z0 z) (st : St z e m k) (h2 : fr 2 = v2) (s2 : SlR TBrakeRow z x2 v2) (h11 : fr 11 = (vP b11)) (bx11 : Bx z e m k b11 [(vI x11.length), (vI x11.axles), (vI x11.mass), (vI x11.braked), (vI x11.percent), (vI x11.required), (vI x11.missing)] 33) (h12 : fr 12 = (vI x12)) (h13 : fr 13 = (vP b13)) (bx13 : Bx z e m k b13 [(vI x13.length), (vI x13.axles), (vI x13.mass), (vI x13.braked), (vI x13.percent), (vI x13.required), (vI x13.missing)] 33) (h14 : fr 14 = (vI x14)) (h15 : fr 15 = (vI x15)) (h16 : fr 16 = (vI x16)) (h17 : fr 17 = (vI x17)) (h18 : fr 18 = (vI x18)) (h19 : fr 19 = (vP b19)) (bx19 : Bx z e m k b19 [(vI x19.length), (vI x19.axles), (vI x19.mass), (vI x19.braked), (vI x19.percent), (vI x19.required), (vI x19.missing)] 33) (h20 : fr 20 = (vI x20)) (h21 : fr 21 = (vP b21)) (bx21 : Bx z e m k b21 [(vI x21.length), (vI x21.axles), (vI x21.mass), (vI x21.braked), (vI x21.percent), (vI x21.required), (vI x21.missing)] 33) (h22 : fr 22 = (vI x22)) (h23 : fr 23 = (vI x23)) (h24 : fr 24 = (vI x24)) (h25 : fr 25 = (vI x25)) (h26 : fr 26 = (vI x26)) (ao11_o13 : Ap (some b11) (some b13)) (ao11_o19 : Ap (some b11) (some b19)) (ao13_o19 : Ap (some b13) (some b19)) (ao11_o21 : Ap (some b11) (some b21)) (ao13_o21 : Ap (some b13) (some b21)) (ao19_o21 : Ap (some b19) (some b21)) {r : Bool} (hr : l35_exact_0 N x2 x11 x12 x13 x14 x15 x16 x17 x18 x19 x20 x21 x22 x23 x24 x25 x26 = some r) : W Try.prog (sub (bodyOf Try.f22) [1, 1, 1, 1, 1, 1, 1, 1, 1, 0]) (fun ex fr' m' => ∃ z', Zx e.next z0 z' ∧ St z' e m' k ∧ ex = AExit.normal ∧ fr' 10 = (vB r) ∧ True) fr m := by
 unfold l35_exact_0 at hr
 refine W.region ?_
 refine sx rfl (pMove (v := v2) rfl h2) ?_
 obtain ⟨y85, hy85, hr⟩ := bind_some hr
 refine SeqW.consX rfl (StepX.call (gCallee rfl rfl (args1 rfl)) ((c_brake_ValidTable (z := z) st.fz st.dead s2 hy85).mono ?_))
 rintro _ _ ⟨rfl, rfl⟩
 refine sx rfl (pMove (v := v2) rfl h2) ?_
 obtain ⟨y86, hy86, hr⟩ := bind_some hr
 refine SeqW.consX rfl (StepX.call (gCallee rfl rfl (args1 rfl)) ((c_r35_ValidTable (z := z) st.fz st.dead s2 hy86).mono ?_))
 rintro _ _ ⟨rfl, rfl⟩
 refine sx rfl (pEqlB (a := y85) (b := y86) rfl Try.underlying4 rfl rfl) ?_
 refine sx rfl (pMove (v := (vB (y85 == y86))) rfl rfl) ?_
 rcases if_some hr with ⟨hc87, hr⟩ | ⟨hc119, hr⟩
 ·refine SeqW.consG rfl rfl rfl hc87 (kLoadA rfl Try.underlying33 rfl Try.type33 rfl h11 bx11.loads ?_)
  refine SeqW.consG rfl rfl rfl hc87 (kLoadA rfl Try.underlying33 rfl Try.type33 rfl h13 bx13.loads ?_)
  refine SeqW.consG rfl rfl rfl hc87 (StepX.pure (pEqA (xs := [(vI x11.length), (vI x11.axles), (vI x11.mass), (vI x11.braked), (vI x11.percent), (vI x11.required), (vI x11.missing)]) (ys := [(vI x13.length), (vI x13.axles), (vI x13.mass), (vI x13.braked), (vI x13.percent), (vI x13.required), (vI x13.missing)]) (r := decide (x11 = x13)) false rfl Try.underlying33 stood_Brakes guard_Brakes (scal_Brakes Try.underlying33 x11 x13) rfl rfl (eqc_Brakes x11 x13)) ?_)
  refine sx rfl (pPick (t := true) (v := (vB (decide (x11 = x13)))) rfl ((congrArg vB hc87)) rfl) ?_
  refine sx rfl (pMove (v := (vB (decide (x11 = x13)))) rfl rfl) ?_
  rcases if_some hr with ⟨hc88, hr⟩ | ⟨hc116, hr⟩
  ·refine SeqW.consG rfl rfl rfl hc88 (StepX.pure (pMove (v := (vI x12)) rfl h12) ?_)
   refine SeqW.consG rfl rfl rfl hc88 (StepX.pure (pMove (v := (vI x14)) rfl h14) ?_)
   refine SeqW.consG rfl rfl rfl hc88 (StepX.pure (pEql (k := .i64) (a := x12) (b := x14) rfl rfl rfl) ?_)
   refine sx rfl (pPick (t := true) (v := (vB (x12 == x14))) rfl ((congrArg vB hc88)) rfl) ?_
   refine sx rfl (pMove (v := (vB (x12 == x14))) rfl rfl) ?_
   rcases if_some hr with ⟨hc89, hr⟩ | ⟨hc113, hr⟩
   ·refine SeqW.consG rfl rfl rfl hc89 (StepX.pure (pMove (v := (vI x15)) rfl h15) ?_)
    refine SeqW.consG rfl rfl rfl hc89 (StepX.pure (pMove (v := (vI x17)) rfl h17) ?_)
    refine SeqW.consG rfl rfl rfl hc89 (StepX.pure (pEql (k := .i64) (a := x15) (b := x17) rfl rfl rfl) ?_)
    refine sx rfl (pPick (t := true) (v := (vB (x15 == x17))) rfl ((congrArg vB hc89)) rfl) ?_
    refine sx rfl (pMove (v := (vB (x15 == x17))) rfl rfl) ?_
    rcases if_some hr with ⟨hc90, hr⟩ | ⟨hc110, hr⟩
    ·refine SeqW.consG rfl rfl rfl hc90 (StepX.pure (pMove (v := (vI x16)) rfl h16) ?_)
     refine SeqW.consG rfl rfl rfl hc90 (StepX.pure (pMove (v := (vI x18)) rfl h18) ?_)
     refine SeqW.consG rfl rfl rfl hc90 (StepX.pure (pEql (k := .i64) (a := x16) (b := x18) rfl rfl rfl) ?_)
     refine sx rfl (pPick (t := true) (v := (vB (x16 == x18))) rfl ((congrArg vB hc90)) rfl) ?_
     refine sx rfl (pMove (v := (vB (x16 == x18))) rfl rfl) ?_
     rcases if_some hr with ⟨hc91, hr⟩ | ⟨hc107, hr⟩
     ·refine SeqW.consG rfl rfl rfl hc91 (kLoadA rfl Try.underlying33 rfl Try.type33 rfl h19 bx19.loads ?_)
      refine SeqW.consG rfl rfl rfl hc91 (kLoadA rfl Try.underlying33 rfl Try.type33 rfl h21 bx21.loads ?_)
      refine SeqW.consG rfl rfl rfl hc91 (StepX.pure (pEqA (xs := [(vI x19.length), (vI x19.axles), (vI x19.mass), (vI x19.braked), (vI x19.percent), (vI x19.required), (vI x19.missing)]) (ys := [(vI x21.length), (vI x21.axles), (vI x21.mass), (vI x21.braked), (vI x21.percent), (vI x21.required), (vI x21.missing)]) (r := decide (x19 = x21)) false rfl Try.underlying33 stood_Brakes guard_Brakes (scal_Brakes Try.underlying33 x19 x21) rfl rfl (eqc_Brakes x19 x21)) ?_)
      refine sx rfl (pPick (t := true) (v := (vB (decide (x19 = x21)))) rfl ((congrArg vB hc91)) rfl) ?_
      refine sx rfl (pMove (v := (vB (decide (x19 = x21)))) rfl rfl) ?_
      rcases if_some hr with ⟨hc92, hr⟩ | ⟨hc104, hr⟩
      ·refine SeqW.consG rfl rfl rfl hc92 (StepX.pure (pMove (v := (vI x20)) rfl h20) ?_)
       refine SeqW.consG rfl rfl rfl hc92 (StepX.pure (pMove (v := (vI x22)) rfl h22) ?_)
       refine SeqW.consG rfl rfl rfl hc92 (StepX.pure (pEql (k := .i64) (a := x20) (b := x22) rfl rfl rfl) ?_)
       refine sx rfl (pPick (t := true) (v := (vB (x20 == x22))) rfl ((congrArg vB hc92)) rfl) ?_
       refine sx rfl (pMove (v := (vB (x20 == x22))) rfl rfl) ?_
       rcases if_some hr with ⟨hc93, hr⟩ | ⟨hc101, hr⟩
       ·refine SeqW.consG rfl rfl rfl hc93 (StepX.pure (pMove (v := (vI x23)) rfl h23) ?_)
        refine SeqW.consG rfl rfl rfl hc93 (StepX.pure (pMove (v := (vI x25)) rfl h25) ?_)
        refine SeqW.consG rfl rfl rfl hc93 (StepX.pure (pEql (k := .i64) (a := x23) (b := x25) rfl rfl rfl) ?_)
        refine sx rfl (pPick (t := true) (v := (vB (x23 == x25))) rfl ((congrArg vB hc93)) rfl) ?_
        refine sx rfl (pMove (v := (vB (x23 == x25))) rfl rfl) ?_
        rcases if_some hr with ⟨hc94, hr⟩ | ⟨hc98, hr⟩
        ·refine SeqW.consG rfl rfl rfl hc94 (StepX.pure (pMove (v := (vI x24)) rfl h24) ?_)
         refine SeqW.consG rfl rfl rfl hc94 (StepX.pure (pMove (v := (vI x26)) rfl h26) ?_)
         refine SeqW.consG rfl rfl rfl hc94 (StepX.pure (pEql (k := .i64) (a := x24) (b := x26) rfl rfl rfl) ?_)
         refine sx rfl (pPick (t := true) (v := (vB (x24 == x26))) rfl ((congrArg vB hc94)) rfl) ?_
         obtain ⟨y95, hy95, hr⟩ := lt_some hr
         refine sx rfl (pAssign rfl (congrArg vB hy95)) ?_
         refine SeqW.done fun fr96 hf97 => ?_
         have h10 : fr96 10 = (vB y95) := (congrFun hf97 10).trans rfl
         clear hf97
         obtain rfl := Option.some.inj hr
         exact ⟨z, hz, st, rfl, h10, trivial⟩
        ·refine kx rfl rfl rfl hc98 ?_
         iterate 2 refine kx rfl rfl rfl hc98 ?_
         refine sx rfl (pPick (t := false) (v := (vB false)) rfl ((congrArg vB hc98)) rfl) ?_
         refine sx rfl (pAssign (v := (vB false)) rfl rfl) ?_
         refine SeqW.done fun fr99 hf100 => ?_
         have h10 : fr99 10 = (vB false) := (congrFun hf100 10).trans rfl
         clear hf100
         obtain rfl := Option.some.inj hr
         exact ⟨z, hz, st, rfl, h10, trivial⟩
       ·refine kx rfl rfl rfl hc101 ?_
        iterate 2 refine kx rfl rfl rfl hc101 ?_
        refine sx rfl (pPick (t := false) (v := (vB false)) rfl ((congrArg vB hc101)) rfl) ?_
        refine sx rfl (pMove (v := (vB false)) rfl rfl) ?_
        iterate 3 refine kx rfl rfl rfl rfl ?_
        refine sx rfl (pPick (t := false) (v := (vB false)) rfl ((congrArg vB (rfl : false = false))) rfl) ?_
        refine sx rfl (pAssign (v := (vB false)) rfl rfl) ?_
        refine SeqW.done fun fr102 hf103 => ?_
        have h10 : fr102 10 = (vB false) := (congrFun hf103 10).trans rfl
        clear hf103
        obtain rfl := Option.some.inj hr
        exact ⟨z, hz, st, rfl, h10, trivial⟩
      ·refine kx rfl rfl rfl hc104 ?_
       iterate 2 refine kx rfl rfl rfl hc104 ?_
       refine sx rfl (pPick (t := false) (v := (vB false)) rfl ((congrArg vB hc104)) rfl) ?_
       refine sx rfl (pMove (v := (vB false)) rfl rfl) ?_
       iterate 3 refine kx rfl rfl rfl rfl ?_
       refine sx rfl (pPick (t := false) (v := (vB false)) rfl ((congrArg vB (rfl : false = false))) rfl) ?_
       refine sx rfl (pMove (v := (vB false)) rfl rfl) ?_
       iterate 3 refine kx rfl rfl rfl rfl ?_
       refine sx rfl (pPick (t := false) (v := (vB false)) rfl ((congrArg vB (rfl : false = false))) rfl) ?_
       refine sx rfl (pAssign (v := (vB false)) rfl rfl) ?_
       refine SeqW.done fun fr105 hf106 => ?_
       have h10 : fr105 10 = (vB false) := (congrFun hf106 10).trans rfl
       clear hf106
       obtain rfl := Option.some.inj hr
       exact ⟨z, hz, st, rfl, h10, trivial⟩
     ·refine kx rfl rfl rfl hc107 ?_
      iterate 2 refine kx rfl rfl rfl hc107 ?_
      refine sx rfl (pPick (t := false) (v := (vB false)) rfl ((congrArg vB hc107)) rfl) ?_
      refine sx rfl (pMove (v := (vB false)) rfl rfl) ?_
      iterate 3 refine kx rfl rfl rfl rfl ?_
      refine sx rfl (pPick (t := false) (v := (vB false)) rfl ((congrArg vB (rfl : false = false))) rfl) ?_
      refine sx rfl (pMove (v := (vB false)) rfl rfl) ?_
      iterate 3 refine kx rfl rfl rfl rfl ?_
      refine sx rfl (pPick (t := false) (v := (vB false)) rfl ((congrArg vB (rfl : false = false))) rfl) ?_
      refine sx rfl (pMove (v := (vB false)) rfl rfl) ?_
      iterate 3 refine kx rfl rfl rfl rfl ?_
      refine sx rfl (pPick (t := false) (v := (vB false)) rfl ((congrArg vB (rfl : false = false))) rfl) ?_
      refine sx rfl (pAssign (v := (vB false)) rfl rfl) ?_
      refine SeqW.done fun fr108 hf109 => ?_
      have h10 : fr108 10 = (vB false) := (congrFun hf109 10).trans rfl
      clear hf109
      obtain rfl := Option.some.inj hr
      exact ⟨z, hz, st, rfl, h10, trivial⟩
    ·refine kx rfl rfl rfl hc110 ?_
     iterate 2 refine kx rfl rfl rfl hc110 ?_
     refine sx rfl (pPick (t := false) (v := (vB false)) rfl ((congrArg vB hc110)) rfl) ?_
     refine sx rfl (pMove (v := (vB false)) rfl rfl) ?_
     iterate 3 refine kx rfl rfl rfl rfl ?_
     refine sx rfl (pPick (t := false) (v := (vB false)) rfl ((congrArg vB (rfl : false = false))) rfl) ?_
     refine sx rfl (pMove (v := (vB false)) rfl rfl) ?_
     iterate 3 refine kx rfl rfl rfl rfl ?_
     refine sx rfl (pPick (t := false) (v := (vB false)) rfl ((congrArg vB (rfl : false = false))) rfl) ?_
     refine sx rfl (pMove (v := (vB false)) rfl rfl) ?_
     iterate 3 refine kx rfl rfl rfl rfl ?_
     refine sx rfl (pPick (t := false) (v := (vB false)) rfl ((congrArg vB (rfl : false = false))) rfl) ?_
     refine sx rfl (pMove (v := (vB false)) rfl rfl) ?_
     iterate 3 refine kx rfl rfl rfl rfl ?_
     refine sx rfl (pPick (t := false) (v := (vB false)) rfl ((congrArg vB (rfl : false = false))) rfl) ?_
     refine sx rfl (pAssign (v := (vB false)) rfl rfl) ?_
     refine SeqW.done fun fr111 hf112 => ?_
     have h10 : fr111 10 = (vB false) := (congrFun hf112 10).trans rfl
     clear hf112
     obtain rfl := Option.some.inj hr
     exact ⟨z, hz, st, rfl, h10, trivial⟩
   ·refine kx rfl rfl rfl hc113 ?_
    iterate 2 refine kx rfl rfl rfl hc113 ?_
    refine sx rfl (pPick (t := false) (v := (vB false)) rfl ((congrArg vB hc113)) rfl) ?_
    refine sx rfl (pMove (v := (vB false)) rfl rfl) ?_
    iterate 3 refine kx rfl rfl rfl rfl ?_
    refine sx rfl (pPick (t := false) (v := (vB false)) rfl ((congrArg vB (rfl : false = false))) rfl) ?_
    refine sx rfl (pMove (v := (vB false)) rfl rfl) ?_
    iterate 3 refine kx rfl rfl rfl rfl ?_
    refine sx rfl (pPick (t := false) (v := (vB false)) rfl ((congrArg vB (rfl : false = false))) rfl) ?_
    refine sx rfl (pMove (v := (vB false)) rfl rfl) ?_
    iterate 3 refine kx rfl rfl rfl rfl ?_
    refine sx rfl (pPick (t := false) (v := (vB false)) rfl ((congrArg vB (rfl : false = false))) rfl) ?_
    refine sx rfl (pMove (v := (vB false)) rfl rfl) ?_
    iterate 3 refine kx rfl rfl rfl rfl ?_
    refine sx rfl (pPick (t := false) (v := (vB false)) rfl ((congrArg vB (rfl : false = false))) rfl) ?_
    refine sx rfl (pMove (v := (vB false)) rfl rfl) ?_
    iterate 3 refine kx rfl rfl rfl rfl ?_
    refine sx rfl (pPick (t := false) (v := (vB false)) rfl ((congrArg vB (rfl : false = false))) rfl) ?_
    refine sx rfl (pAssign (v := (vB false)) rfl rfl) ?_
    refine SeqW.done fun fr114 hf115 => ?_
    have h10 : fr114 10 = (vB false) := (congrFun hf115 10).trans rfl
    clear hf115
    obtain rfl := Option.some.inj hr
    exact ⟨z, hz, st, rfl, h10, trivial⟩
  ·refine kx rfl rfl rfl hc116 ?_
   iterate 2 refine kx rfl rfl rfl hc116 ?_
   refine sx rfl (pPick (t := false) (v := (vB false)) rfl ((congrArg vB hc116)) rfl) ?_
   refine sx rfl (pMove (v := (vB false)) rfl rfl) ?_
   iterate 3 refine kx rfl rfl rfl rfl ?_
   refine sx rfl (pPick (t := false) (v := (vB false)) rfl ((congrArg vB (rfl : false = false))) rfl) ?_
   refine sx rfl (pMove (v := (vB false)) rfl rfl) ?_
   iterate 3 refine kx rfl rfl rfl rfl ?_
   refine sx rfl (pPick (t := false) (v := (vB false)) rfl ((congrArg vB (rfl : false = false))) rfl) ?_
   refine sx rfl (pMove (v := (vB false)) rfl rfl) ?_
   iterate 3 refine kx rfl rfl rfl rfl ?_
   refine sx rfl (pPick (t := false) (v := (vB false)) rfl ((congrArg vB (rfl : false = false))) rfl) ?_
   refine sx rfl (pMove (v := (vB false)) rfl rfl) ?_
   iterate 3 refine kx rfl rfl rfl rfl ?_
   refine sx rfl (pPick (t := false) (v := (vB false)) rfl ((congrArg vB (rfl : false = false))) rfl) ?_
   refine sx rfl (pMove (v := (vB false)) rfl rfl) ?_
   iterate 3 refine kx rfl rfl rfl rfl ?_
   refine sx rfl (pPick (t := false) (v := (vB false)) rfl ((congrArg vB (rfl : false = false))) rfl) ?_
   refine sx rfl (pMove (v := (vB false)) rfl rfl) ?_
   iterate 3 refine kx rfl rfl rfl rfl ?_
   refine sx rfl (pPick (t := false) (v := (vB false)) rfl ((congrArg vB (rfl : false = false))) rfl) ?_
   refine sx rfl (pAssign (v := (vB false)) rfl rfl) ?_
   refine SeqW.done fun fr117 hf118 => ?_
   have h10 : fr117 10 = (vB false) := (congrFun hf118 10).trans rfl
   clear hf118
   obtain rfl := Option.some.inj hr
   exact ⟨z, hz, st, rfl, h10, trivial⟩
 ·refine kx rfl rfl rfl hc119 ?_
  iterate 2 refine kx rfl rfl rfl hc119 ?_
  refine sx rfl (pPick (t := false) (v := (vB false)) rfl ((congrArg vB hc119)) rfl) ?_
  refine sx rfl (pMove (v := (vB false)) rfl rfl) ?_
  iterate 3 refine kx rfl rfl rfl rfl ?_
  refine sx rfl (pPick (t := false) (v := (vB false)) rfl ((congrArg vB (rfl : false = false))) rfl) ?_
  refine sx rfl (pMove (v := (vB false)) rfl rfl) ?_
  iterate 3 refine kx rfl rfl rfl rfl ?_
  refine sx rfl (pPick (t := false) (v := (vB false)) rfl ((congrArg vB (rfl : false = false))) rfl) ?_
  refine sx rfl (pMove (v := (vB false)) rfl rfl) ?_
  iterate 3 refine kx rfl rfl rfl rfl ?_
  refine sx rfl (pPick (t := false) (v := (vB false)) rfl ((congrArg vB (rfl : false = false))) rfl) ?_
  refine sx rfl (pMove (v := (vB false)) rfl rfl) ?_
  iterate 3 refine kx rfl rfl rfl rfl ?_
  refine sx rfl (pPick (t := false) (v := (vB false)) rfl ((congrArg vB (rfl : false = false))) rfl) ?_
  refine sx rfl (pMove (v := (vB false)) rfl rfl) ?_
  iterate 3 refine kx rfl rfl rfl rfl ?_
  refine sx rfl (pPick (t := false) (v := (vB false)) rfl ((congrArg vB (rfl : false = false))) rfl) ?_
  refine sx rfl (pMove (v := (vB false)) rfl rfl) ?_
  iterate 3 refine kx rfl rfl rfl rfl ?_
  refine sx rfl (pPick (t := false) (v := (vB false)) rfl ((congrArg vB (rfl : false = false))) rfl) ?_
  refine sx rfl (pMove (v := (vB false)) rfl rfl) ?_
  iterate 3 refine kx rfl rfl rfl rfl ?_
  refine sx rfl (pPick (t := false) (v := (vB false)) rfl ((congrArg vB (rfl : false = false))) rfl) ?_
  refine sx rfl (pAssign (v := (vB false)) rfl rfl) ?_
  refine SeqW.done fun fr120 hf121 => ?_
  have h10 : fr120 10 = (vB false) := (congrFun hf121 10).trans rfl
  clear hf121
  obtain rfl := Option.some.inj hr
  exact ⟨z, hz, st, rfl, h10, trivial⟩

theorem u_l35_exact {N : Nat}  {z0 z : Nat → Blk} {e m : Mem} {k : Option Nat} {fr : Nat → Value} {x0 : List Wagon} {x1 : List Int} {x2 : List BrakeRow} {x3 : Int} {x4 : Int} {v0 : Value} {v1 : Value} {v2 : Value} (hz : Zx e.next z0 z) (st : St z e m k) (h0 : fr 0 = v0) (s0 : SlR TWagon z x0 v0) (h1 : fr 1 = v1) (s1 : SlR (TInt 3 .i64) z x1 v1) (h2 : fr 2 = v2) (s2 : SlR TBrakeRow z x2 v2) (h3 : fr 3 = (vI x3)) (h4 : fr 4 = (vI x4)) {r : Bool} (hr : l35_exact N x0 x1 x2 x3 x4 = some r) : W Try.prog (sub (bodyOf Try.f22) []) (fun ex fr' m' => ∃ z', Zx e.next z0 z' ∧ St z' e m' k ∧ (ex = .normal ∨ ex = .ret) ∧ fr' 10 = (vB r) ∧ True) fr m := by
 unfold l35_exact at hr
 refine W.seq (W.region ?_)
 refine sx rfl (pAssign (v := (vB false)) rfl rfl) ?_
 refine SeqW.done fun fr1 hf2 => ?_
 have h0 := (congrFun hf2 0).trans h0
 have h1 := (congrFun hf2 1).trans h1
 have h2 := (congrFun hf2 2).trans h2
 have h3 := (congrFun hf2 3).trans h3
 have h4 := (congrFun hf2 4).trans h4
 clear hf2
 refine thenQ.n (W.seq (W.region ?_))
 refine sx rfl (pMove (v := v0) rfl h0) ?_
 refine sx rfl (pMove (v := v1) rfl h1) ?_
 obtain ⟨y3, hy3, hr⟩ := bind_some hr
 refine SeqW.consX rfl (StepX.call (gCallee rfl rfl (args2 rfl rfl)) ((c_brake_Total (z := z) st.fz st.dead s0 s1 hy3).mono ?_))
 rintro _ m8 ⟨z4, hzx5, fz6, sm7, rfl, -⟩
 replace s0 := s0.mono hzx5.le
 replace s1 := s1.mono hzx5.le
 replace s2 := s2.mono hzx5.le
 replace hz := hz.trans (Zx.here st hzx5)
 replace st := st.call hzx5 fz6 sm7 no_hq
 refine sx rfl (pMove (v := (Value.tuple [(Value.agg [(vI y3.1.length), (vI y3.1.axles), (vI y3.1.mass), (vI y3.1.braked), (vI y3.1.percent), (vI y3.1.required), (vI y3.1.missing)].toArray), (vI y3.2)].toArray)) rfl rfl) ?_
 refine sx rfl (pExtract (vs := [(Value.agg [(vI y3.1.length), (vI y3.1.axles), (vI y3.1.mass), (vI y3.1.braked), (vI y3.1.percent), (vI y3.1.required), (vI y3.1.missing)].toArray), (vI y3.2)]) (v := (Value.agg [(vI y3.1.length), (vI y3.1.axles), (vI y3.1.mass), (vI y3.1.braked), (vI y3.1.percent), (vI y3.1.required), (vI y3.1.missing)].toArray)) rfl rfl rfl) ?_
 refine sx rfl (pExtract (vs := [(Value.agg [(vI y3.1.length), (vI y3.1.axles), (vI y3.1.mass), (vI y3.1.braked), (vI y3.1.percent), (vI y3.1.required), (vI y3.1.missing)].toArray), (vI y3.2)]) (v := (vI y3.2)) rfl rfl rfl) ?_
 refine SeqW.consX rfl (kAlloc rfl Try.type33 rfl rfl rfl [(vI 0), (vI 0), (vI 0), (vI 0), (vI 0), (vI 0), (vI 0)] rfl st ?_)
 intro B9 m10 st X11 sm12 hap13
 refine SeqW.consX rfl (kPut (off := 0) (w := (Value.agg [(vI y3.1.length), (vI y3.1.axles), (vI y3.1.mass), (vI y3.1.braked), (vI y3.1.percent), (vI y3.1.required), (vI y3.1.missing)].toArray)) (new := [(vI y3.1.length), (vI y3.1.axles), (vI y3.1.mass), (vI y3.1.braked), (vI y3.1.percent), (vI y3.1.required), (vI y3.1.missing)]) rfl Try.type33 rfl rfl rfl rfl rfl X11 rfl [(vI y3.1.length), (vI y3.1.axles), (vI y3.1.mass), (vI y3.1.braked), (vI y3.1.percent), (vI y3.1.required), (vI y3.1.missing)] rfl st ?_)
 intro m15 st X11 sm16
 refine sx rfl (pAssign (v := (vI y3.2)) rfl rfl) ?_
 refine SeqW.done fun fr17 hf18 => ?_
 have h0 := (congrFun hf18 0).trans h0
 have h1 := (congrFun hf18 1).trans h1
 have h2 := (congrFun hf18 2).trans h2
 have h3 := (congrFun hf18 3).trans h3
 have h4 := (congrFun hf18 4).trans h4
 have h11 : fr17 11 = (vP B9) := (congrFun hf18 11).trans rfl
 have h12 : fr17 12 = (vI y3.2) := (congrFun hf18 12).trans rfl
 clear hf18
 refine thenQ.n (W.seq (W.region ?_))
 refine sx rfl (pMove (v := v0) rfl h0) ?_
 refine sx rfl (pMove (v := v1) rfl h1) ?_
 obtain ⟨y19, hy19, hr⟩ := bind_some hr
 refine SeqW.consX rfl (StepX.call (gCallee rfl rfl (args2 rfl rfl)) ((c_r35_Total (z := z4) st.fz st.dead s0 s1 hy19).mono ?_))
 rintro _ m24 ⟨z20, hzx21, fz22, sm23, rfl, -⟩
 replace s0 := s0.mono hzx21.le
 replace s1 := s1.mono hzx21.le
 replace s2 := s2.mono hzx21.le
 replace X11 := X11.call hzx21 sm23 Ap.none'
 replace hz := hz.trans (Zx.here st hzx21)
 replace st := st.call hzx21 fz22 sm23 no_hq
 refine sx rfl (pMove (v := (Value.tuple [(Value.agg [(vI y19.1.length), (vI y19.1.axles), (vI y19.1.mass), (vI y19.1.braked), (vI y19.1.percent), (vI y19.1.required), (vI y19.1.missing)].toArray), (vI y19.2)].toArray)) rfl rfl) ?_
 refine sx rfl (pExtract (vs := [(Value.agg [(vI y19.1.length), (vI y19.1.axles), (vI y19.1.mass), (vI y19.1.braked), (vI y19.1.percent), (vI y19.1.required), (vI y19.1.missing)].toArray), (vI y19.2)]) (v := (Value.agg [(vI y19.1.length), (vI y19.1.axles), (vI y19.1.mass), (vI y19.1.braked), (vI y19.1.percent), (vI y19.1.required), (vI y19.1.missing)].toArray)) rfl rfl rfl) ?_
 refine sx rfl (pExtract (vs := [(Value.agg [(vI y19.1.length), (vI y19.1.axles), (vI y19.1.mass), (vI y19.1.braked), (vI y19.1.percent), (vI y19.1.required), (vI y19.1.missing)].toArray), (vI y19.2)]) (v := (vI y19.2)) rfl rfl rfl) ?_
 refine SeqW.consX rfl (kAlloc rfl Try.type33 rfl rfl rfl [(vI 0), (vI 0), (vI 0), (vI 0), (vI 0), (vI 0), (vI 0)] rfl st ?_)
 intro B25 m26 st X27 sm28 hap29
 have A31 := hap29 _ X11.lt'
 replace X11 := X11.same sm28 Ap.none'
 refine SeqW.consX rfl (kPut (off := 0) (w := (Value.agg [(vI y19.1.length), (vI y19.1.axles), (vI y19.1.mass), (vI y19.1.braked), (vI y19.1.percent), (vI y19.1.required), (vI y19.1.missing)].toArray)) (new := [(vI y19.1.length), (vI y19.1.axles), (vI y19.1.mass), (vI y19.1.braked), (vI y19.1.percent), (vI y19.1.required), (vI y19.1.missing)]) rfl Try.type33 rfl rfl rfl rfl rfl X27 rfl [(vI y19.1.length), (vI y19.1.axles), (vI y19.1.mass), (vI y19.1.braked), (vI y19.1.percent), (vI y19.1.required), (vI y19.1.missing)] rfl st ?_)
 intro m32 st X27 sm33
 replace X11 := X11.same sm33 A31
 refine sx rfl (pAssign (v := (vI y19.2)) rfl rfl) ?_
 refine SeqW.done fun fr34 hf35 => ?_
 have h0 := (congrFun hf35 0).trans h0
 have h1 := (congrFun hf35 1).trans h1
 have h2 := (congrFun hf35 2).trans h2
 have h3 := (congrFun hf35 3).trans h3
 have h4 := (congrFun hf35 4).trans h4
 have h11 := (congrFun hf35 11).trans h11
 have h12 := (congrFun hf35 12).trans h12
 have h13 : fr34 13 = (vP B25) := (congrFun hf35 13).trans rfl
 have h14 : fr34 14 = (vI y19.2) := (congrFun hf35 14).trans rfl
 clear hf35
 refine thenQ.n (W.seq (W.region ?_))
 refine sx rfl (pMove (v := v2) rfl h2) ?_
 refine sx rfl (pMove (v := (vI x3)) rfl h3) ?_
 refine sx rfl (pMove (v := (vI x4)) rfl h4) ?_
 obtain ⟨y36, hy36, hr⟩ := bind_some hr
 refine SeqW.consX rfl (StepX.call (gCallee rfl rfl (args3 rfl rfl rfl)) ((c_brake_Required (z := z20) st.fz st.dead s2 hy36).mono ?_))
 rintro _ _ ⟨rfl, rfl⟩
 refine sx rfl (pMove (v := (Value.tuple [(vI y36.1), (vI y36.2)].toArray)) rfl rfl) ?_
 refine sx rfl (pExtract (vs := [(vI y36.1), (vI y36.2)]) (v := (vI y36.1)) rfl rfl rfl) ?_
 refine sx rfl (pExtract (vs := [(vI y36.1), (vI y36.2)]) (v := (vI y36.2)) rfl rfl rfl) ?_
 refine sx rfl (pAssign (v := (vI y36.1)) rfl rfl) ?_
 refine sx rfl (pAssign (v := (vI y36.2)) rfl rfl) ?_
 refine SeqW.done fun fr37 hf38 => ?_
 have h0 := (congrFun hf38 0).trans h0
 have h1 := (congrFun hf38 1).trans h1
 have h2 := (congrFun hf38 2).trans h2
 have h3 := (congrFun hf38 3).trans h3
 have h4 := (congrFun hf38 4).trans h4
 have h11 := (congrFun hf38 11).trans h11
 have h12 := (congrFun hf38 12).trans h12
 have h13 := (congrFun hf38 13).trans h13
 have h14 := (congrFun hf38 14).trans h14
 have h15 : fr37 15 = (vI y36.1) := (congrFun hf38 15).trans rfl
 have h16 : fr37 16 = (vI y36.2) := (congrFun hf38 16).trans rfl
 clear hf38
 refine thenQ.n (W.seq (W.region ?_))
 refine sx rfl (pMove (v := v2) rfl h2) ?_
 refine sx rfl (pMove (v := (vI x3)) rfl h3) ?_
 refine sx rfl (pMove (v := (vI x4)) rfl h4) ?_
 obtain ⟨y39, hy39, hr⟩ := bind_some hr
 refine SeqW.consX rfl (StepX.call (gCallee rfl rfl (args3 rfl rfl rfl)) ((c_r35_Required (z := z20) st.fz st.dead s2 hy39).mono ?_))
 rintro _ _ ⟨rfl, rfl⟩
 refine sx rfl (pMove (v := (Value.tuple [(vI y39.1), (vI y39.2)].toArray)) rfl rfl) ?_
 refine sx rfl (pExtract (vs := [(vI y39.1), (vI y39.2)]) (v := (vI y39.1)) rfl rfl rfl) ?_
 refine sx rfl (pExtract (vs := [(vI y39.1), (vI y39.2)]) (v := (vI y39.2)) rfl rfl rfl) ?_
 refine sx rfl (pAssign (v := (vI y39.1)) rfl rfl) ?_
 refine sx rfl (pAssign (v := (vI y39.2)) rfl rfl) ?_
 refine SeqW.done fun fr40 hf41 => ?_
 have h0 := (congrFun hf41 0).trans h0
 have h1 := (congrFun hf41 1).trans h1
 have h2 := (congrFun hf41 2).trans h2
 have h3 := (congrFun hf41 3).trans h3
 have h4 := (congrFun hf41 4).trans h4
 have h11 := (congrFun hf41 11).trans h11
 have h12 := (congrFun hf41 12).trans h12
 have h13 := (congrFun hf41 13).trans h13
 have h14 := (congrFun hf41 14).trans h14
 have h15 := (congrFun hf41 15).trans h15
 have h16 := (congrFun hf41 16).trans h16
 have h17 : fr40 17 = (vI y39.1) := (congrFun hf41 17).trans rfl
 have h18 : fr40 18 = (vI y39.2) := (congrFun hf41 18).trans rfl
 clear hf41
 refine thenQ.n (W.seq (W.region ?_))
 refine sx rfl (pMove (v := v0) rfl h0) ?_
 refine sx rfl (pMove (v := v1) rfl h1) ?_
 refine sx rfl (pMove (v := v2) rfl h2) ?_
 refine sx rfl (pMove (v := (vI x3)) rfl h3) ?_
 refine sx rfl (pMove (v := (vI x4)) rfl h4) ?_
 obtain ⟨y42, hy42, hr⟩ := bind_some hr
 refine SeqW.consX rfl (StepX.call (gCallee rfl rfl (args5 rfl rfl rfl rfl rfl)) ((c_brake_Sheet (z := z20) st.fz st.dead s0 s1 s2 hy42).mono ?_))
 rintro _ m47 ⟨z43, hzx44, fz45, sm46, rfl, -⟩
 replace s0 := s0.mono hzx44.le
 replace s1 := s1.mono hzx44.le
 replace s2 := s2.mono hzx44.le
 replace X11 := X11.call hzx44 sm46 Ap.none'
 replace X27 := X27.call hzx44 sm46 Ap.none'
 replace hz := hz.trans (Zx.here st hzx44)
 replace st := st.call hzx44 fz45 sm46 no_hq
 refine sx rfl (pMove (v := (Value.tuple [(Value.agg [(vI y42.1.length), (vI y42.1.axles), (vI y42.1.mass), (vI y42.1.braked), (vI y42.1.percent), (vI y42.1.required), (vI y42.1.missing)].toArray), (vI y42.2)].toArray)) rfl rfl) ?_
 refine sx rfl (pExtract (vs := [(Value.agg [(vI y42.1.length), (vI y42.1.axles), (vI y42.1.mass), (vI y42.1.braked), (vI y42.1.percent), (vI y42.1.required), (vI y42.1.missing)].toArray), (vI y42.2)]) (v := (Value.agg [(vI y42.1.length), (vI y42.1.axles), (vI y42.1.mass), (vI y42.1.braked), (vI y42.1.percent), (vI y42.1.required), (vI y42.1.missing)].toArray)) rfl rfl rfl) ?_
 refine sx rfl (pExtract (vs := [(Value.agg [(vI y42.1.length), (vI y42.1.axles), (vI y42.1.mass), (vI y42.1.braked), (vI y42.1.percent), (vI y42.1.required), (vI y42.1.missing)].toArray), (vI y42.2)]) (v := (vI y42.2)) rfl rfl rfl) ?_
 refine SeqW.consX rfl (kAlloc rfl Try.type33 rfl rfl rfl [(vI 0), (vI 0), (vI 0), (vI 0), (vI 0), (vI 0), (vI 0)] rfl st ?_)
 intro B48 m49 st X50 sm51 hap52
 have A54 := hap52 _ X11.lt'
 have A55 := hap52 _ X27.lt'
 replace X11 := X11.same sm51 Ap.none'
 replace X27 := X27.same sm51 Ap.none'
 refine SeqW.consX rfl (kPut (off := 0) (w := (Value.agg [(vI y42.1.length), (vI y42.1.axles), (vI y42.1.mass), (vI y42.1.braked), (vI y42.1.percent), (vI y42.1.required), (vI y42.1.missing)].toArray)) (new := [(vI y42.1.length), (vI y42.1.axles), (vI y42.1.mass), (vI y42.1.braked), (vI y42.1.percent), (vI y42.1.required), (vI y42.1.missing)]) rfl Try.type33 rfl rfl rfl rfl rfl X50 rfl [(vI y42.1.length), (vI y42.1.axles), (vI y42.1.mass), (vI y42.1.braked), (vI y42.1.percent), (vI y42.1.required), (vI y42.1.missing)] rfl st ?_)
 intro m56 st X50 sm57
 replace X11 := X11.same sm57 A54
 replace X27 := X27.same sm57 A55
 refine sx rfl (pAssign (v := (vI y42.2)) rfl rfl) ?_
 refine SeqW.done fun fr58 hf59 => ?_
 have h0 := (congrFun hf59 0).trans h0
 have h1 := (congrFun hf59 1).trans h1
 have h2 := (congrFun hf59 2).trans h2
 have h3 := (congrFun hf59 3).trans h3
 have h4 := (congrFun hf59 4).trans h4
 have h11 := (congrFun hf59 11).trans h11
 have h12 := (congrFun hf59 12).trans h12
 have h13 := (congrFun hf59 13).trans h13
 have h14 := (congrFun hf59 14).trans h14
 have h15 := (congrFun hf59 15).trans h15
 have h16 := (congrFun hf59 16).trans h16
 have h17 := (congrFun hf59 17).trans h17
 have h18 := (congrFun hf59 18).trans h18
 have h19 : fr58 19 = (vP B48) := (congrFun hf59 19).trans rfl
 have h20 : fr58 20 = (vI y42.2) := (congrFun hf59 20).trans rfl
 clear hf59
 refine thenQ.n (W.seq (W.region ?_))
 refine sx rfl (pMove (v := v0) rfl h0) ?_
 refine sx rfl (pMove (v := v1) rfl h1) ?_
 refine sx rfl (pMove (v := v2) rfl h2) ?_
 refine sx rfl (pMove (v := (vI x3)) rfl h3) ?_
 refine sx rfl (pMove (v := (vI x4)) rfl h4) ?_
 obtain ⟨y60, hy60, hr⟩ := bind_some hr
 refine SeqW.consX rfl (StepX.call (gCallee rfl rfl (args5 rfl rfl rfl rfl rfl)) ((c_r35_Sheet (z := z43) st.fz st.dead s0 s1 s2 hy60).mono ?_))
 rintro _ m65 ⟨z61, hzx62, fz63, sm64, rfl, -⟩
 replace s0 := s0.mono hzx62.le
 replace s1 := s1.mono hzx62.le
 replace s2 := s2.mono hzx62.le
 replace X11 := X11.call hzx62 sm64 Ap.none'
 replace X27 := X27.call hzx62 sm64 Ap.none'
 replace X50 := X50.call hzx62 sm64 Ap.none'
 replace hz := hz.trans (Zx.here st hzx62)
 replace st := st.call hzx62 fz63 sm64 no_hq
 refine sx rfl (pMove (v := (Value.tuple [(Value.agg [(vI y60.1.length), (vI y60.1.axles), (vI y60.1.mass), (vI y60.1.braked), (vI y60.1.percent), (vI y60.1.required), (vI y60.1.missing)].toArray), (vI y60.2)].toArray)) rfl rfl) ?_
 refine sx rfl (pExtract (vs := [(Value.agg [(vI y60.1.length), (vI y60.1.axles), (vI y60.1.mass), (vI y60.1.braked), (vI y60.1.percent), (vI y60.1.required), (vI y60.1.missing)].toArray), (vI y60.2)]) (v := (Value.agg [(vI y60.1.length), (vI y60.1.axles), (vI y60.1.mass), (vI y60.1.braked), (vI y60.1.percent), (vI y60.1.required), (vI y60.1.missing)].toArray)) rfl rfl rfl) ?_
 refine sx rfl (pExtract (vs := [(Value.agg [(vI y60.1.length), (vI y60.1.axles), (vI y60.1.mass), (vI y60.1.braked), (vI y60.1.percent), (vI y60.1.required), (vI y60.1.missing)].toArray), (vI y60.2)]) (v := (vI y60.2)) rfl rfl rfl) ?_
 refine SeqW.consX rfl (kAlloc rfl Try.type33 rfl rfl rfl [(vI 0), (vI 0), (vI 0), (vI 0), (vI 0), (vI 0), (vI 0)] rfl st ?_)
 intro B66 m67 st X68 sm69 hap70
 have A72 := hap70 _ X11.lt'
 have A73 := hap70 _ X27.lt'
 have A74 := hap70 _ X50.lt'
 replace X11 := X11.same sm69 Ap.none'
 replace X27 := X27.same sm69 Ap.none'
 replace X50 := X50.same sm69 Ap.none'
 refine SeqW.consX rfl (kPut (off := 0) (w := (Value.agg [(vI y60.1.length), (vI y60.1.axles), (vI y60.1.mass), (vI y60.1.braked), (vI y60.1.percent), (vI y60.1.required), (vI y60.1.missing)].toArray)) (new := [(vI y60.1.length), (vI y60.1.axles), (vI y60.1.mass), (vI y60.1.braked), (vI y60.1.percent), (vI y60.1.required), (vI y60.1.missing)]) rfl Try.type33 rfl rfl rfl rfl rfl X68 rfl [(vI y60.1.length), (vI y60.1.axles), (vI y60.1.mass), (vI y60.1.braked), (vI y60.1.percent), (vI y60.1.required), (vI y60.1.missing)] rfl st ?_)
 intro m75 st X68 sm76
 replace X11 := X11.same sm76 A72
 replace X27 := X27.same sm76 A73
 replace X50 := X50.same sm76 A74
 refine sx rfl (pAssign (v := (vI y60.2)) rfl rfl) ?_
 refine SeqW.done fun fr77 hf78 => ?_
 have h0 := (congrFun hf78 0).trans h0
 have h1 := (congrFun hf78 1).trans h1
 have h2 := (congrFun hf78 2).trans h2
 have h4 := (congrFun hf78 4).trans h4
 have h11 := (congrFun hf78 11).trans h11
 have h12 := (congrFun hf78 12).trans h12
 have h13 := (congrFun hf78 13).trans h13
 have h14 := (congrFun hf78 14).trans h14
 have h15 := (congrFun hf78 15).trans h15
 have h16 := (congrFun hf78 16).trans h16
 have h17 := (congrFun hf78 17).trans h17
 have h18 := (congrFun hf78 18).trans h18
 have h19 := (congrFun hf78 19).trans h19
 have h20 := (congrFun hf78 20).trans h20
 have h21 : fr77 21 = (vP B66) := (congrFun hf78 21).trans rfl
 have h22 : fr77 22 = (vI y60.2) := (congrFun hf78 22).trans rfl
 clear hf78
 refine thenQ.n (W.seq (W.region ?_))
 refine sx rfl (pMove (v := v0) rfl h0) ?_
 refine sx rfl (pMove (v := v1) rfl h1) ?_
 refine sx rfl (pMove (v := v2) rfl h2) ?_
 refine sx rfl (pMove (v := (vI x4)) rfl h4) ?_
 obtain ⟨y79, hy79, hr⟩ := bind_some hr
 refine SeqW.consX rfl (StepX.call (gCallee rfl rfl (args4 rfl rfl rfl rfl)) ((c_brake_Fastest (z := z61) st.fz st.dead s0 s1 s2 hy79).mono ?_))
 rintro _ _ ⟨rfl, rfl⟩
 refine sx rfl (pMove (v := (Value.tuple [(vI y79.1), (vI y79.2)].toArray)) rfl rfl) ?_
 refine sx rfl (pExtract (vs := [(vI y79.1), (vI y79.2)]) (v := (vI y79.1)) rfl rfl rfl) ?_
 refine sx rfl (pExtract (vs := [(vI y79.1), (vI y79.2)]) (v := (vI y79.2)) rfl rfl rfl) ?_
 refine sx rfl (pAssign (v := (vI y79.1)) rfl rfl) ?_
 refine sx rfl (pAssign (v := (vI y79.2)) rfl rfl) ?_
 refine SeqW.done fun fr80 hf81 => ?_
 have h0 := (congrFun hf81 0).trans h0
 have h1 := (congrFun hf81 1).trans h1
 have h2 := (congrFun hf81 2).trans h2
 have h4 := (congrFun hf81 4).trans h4
 have h11 := (congrFun hf81 11).trans h11
 have h12 := (congrFun hf81 12).trans h12
 have h13 := (congrFun hf81 13).trans h13
 have h14 := (congrFun hf81 14).trans h14
 have h15 := (congrFun hf81 15).trans h15
 have h16 := (congrFun hf81 16).trans h16
 have h17 := (congrFun hf81 17).trans h17
 have h18 := (congrFun hf81 18).trans h18
 have h19 := (congrFun hf81 19).trans h19
 have h20 := (congrFun hf81 20).trans h20
 have h21 := (congrFun hf81 21).trans h21
 have h22 := (congrFun hf81 22).trans h22
 have h23 : fr80 23 = (vI y79.1) := (congrFun hf81 23).trans rfl
 have h24 : fr80 24 = (vI y79.2) := (congrFun hf81 24).trans rfl
 clear hf81
 refine thenQ.n (W.seq (W.region ?_))
 refine sx rfl (pMove (v := v0) rfl h0) ?_
 refine sx rfl (pMove (v := v1) rfl h1) ?_
 refine sx rfl (pMove (v := v2) rfl h2) ?_
 refine sx rfl (pMove (v := (vI x4)) rfl h4) ?_
 obtain ⟨y82, hy82, hr⟩ := bind_some hr
 refine SeqW.consX rfl (StepX.call (gCallee rfl rfl (args4 rfl rfl rfl rfl)) ((c_r35_Fastest (z := z61) st.fz st.dead s0 s1 s2 hy82).mono ?_))
 rintro _ _ ⟨rfl, rfl⟩
 refine sx rfl (pMove (v := (Value.tuple [(vI y82.1), (vI y82.2)].toArray)) rfl rfl) ?_
 refine sx rfl (pExtract (vs := [(vI y82.1), (vI y82.2)]) (v := (vI y82.1)) rfl rfl rfl) ?_
 refine sx rfl (pExtract (vs := [(vI y82.1), (vI y82.2)]) (v := (vI y82.2)) rfl rfl rfl) ?_
 refine sx rfl (pAssign (v := (vI y82.1)) rfl rfl) ?_
 refine sx rfl (pAssign (v := (vI y82.2)) rfl rfl) ?_
 refine SeqW.done fun fr83 hf84 => ?_
 have h2 := (congrFun hf84 2).trans h2
 have h11 := (congrFun hf84 11).trans h11
 have h12 := (congrFun hf84 12).trans h12
 have h13 := (congrFun hf84 13).trans h13
 have h14 := (congrFun hf84 14).trans h14
 have h15 := (congrFun hf84 15).trans h15
 have h16 := (congrFun hf84 16).trans h16
 have h17 := (congrFun hf84 17).trans h17
 have h18 := (congrFun hf84 18).trans h18
 have h19 := (congrFun hf84 19).trans h19
 have h20 := (congrFun hf84 20).trans h20
 have h21 := (congrFun hf84 21).trans h21
 have h22 := (congrFun hf84 22).trans h22
 have h23 := (congrFun hf84 23).trans h23
 have h24 := (congrFun hf84 24).trans h24
 have h25 : fr83 25 = (vI y82.1) := (congrFun hf84 25).trans rfl
 have h26 : fr83 26 = (vI y82.2) := (congrFun hf84 26).trans rfl
 clear hf84
 refine thenQ.n (W.seq ?_)
 obtain ⟨y122, hy122, hr⟩ := bind_some hr
 refine W.keep (u_l35_exact_0 (x11 := y3.1) (x13 := y19.1) (x19 := y42.1) (x21 := y60.1) (Zx.refl _) st h2 s2 h11 X11 h12 h13 X27 h14 h15 h16 h17 h18 h19 X50 h20 h21 X68 h22 h23 h24 h25 h26 A31 A54 A55 A72 A73 A74 hy122) ?_
 rintro ex128 fr123 m124 hk126 ⟨z125, hz127, st, rfl, h10, -⟩
 replace hz := hz.trans hz127
 clear hk126
 refine thenQ.n ?_
 refine W.ret ?_
 obtain rfl := Option.some.inj hr
 exact ⟨z125, hz, st, .inr rfl, h10, trivial⟩

theorem c_l35_exact {N : Nat} {z : Nat → Blk} {m : Mem} {x0 : List Wagon} {x1 : List Int} {x2 : List BrakeRow} {x3 : Int} {x4 : Int} {v0 : Value} {v1 : Value} {v2 : Value} (fz : Fz z m) (hd : ∀ b, m.next ≤ b → m.blk b = .dead) (s0 : SlR TWagon z x0 v0) (s1 : SlR (TInt 3 .i64) z x1 v1) (s2 : SlR TBrakeRow z x2 v2) {r : Bool} (hr : l35_exact N x0 x1 x2 x3 x4 = some r) : CallW Try.prog 22 #[v0, v1, v2, (vI x3), (vI x4)] m fun v m' => v = (vB r) ∧ m' = m := by
 refine CallW.flat Try.func22 rfl (by kernel_rfl) (Nat.le_of_ble_eq_true rfl) rfl (z := z) (fun fr hf => ?_)
 have h0 : fr 0 = _ := hf 0 _ rfl
 have h1 : fr 1 = _ := hf 1 _ rfl
 have h2 : fr 2 = _ := hf 2 _ rfl
 have h3 : fr 3 = _ := hf 3 _ rfl
 have h4 : fr 4 = _ := hf 4 _ rfl
 refine (u_l35_exact (k := none) (Zx.refl _) (St.start fz hd) h0 s0 h1 s1 h2 s2 h3 h4 hr).mono ?_
 rintro ex fr' m' ⟨z', hz, st, he, h10, -⟩
 exact ⟨he, z', st, [(vB r)], ⟨h10.symm, trivial⟩, .inl rfl, rfl⟩

end Go.W
