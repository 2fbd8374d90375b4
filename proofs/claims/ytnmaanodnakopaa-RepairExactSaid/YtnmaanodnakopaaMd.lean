/- AmXA AmXB AmXC AmXD AmXE AmXF AmSortK WM WS -/
import Derived.Shelf.SlSortCmp.NoneTotal
import Derived.Shelf.SlicesG.Cmp
import Derived.Test.YtnmaanodnakopaaProg
import Derived.WalkKit
import Derived.Test.YtnmaanodnakopaaMc
section
set_option linter.unusedSimpArgs false
set_option linter.unusedVariables false
namespace Go.AM
section
variable {P : Program} {D : Nat → Type} {X : Ev P D} {z z' : Nat → Blk} {e m m' : Mem} {k : Option Nat} {vs vs' : List Value} {fr : Nat → Value} {E : List (Nat × SV D)} {O O' : List (Ob D)}
theorem Mm.sel (h : Mm X.G O z e m k vs) (len : vs'.length = O'.length) (φ : Nat → Nat)
    (hl : ∀ (i : Nat) (o : Ob D), O'[i]? = some o → o.live = true → ∃ p v, O[φ i]? = some p ∧ p.live = true ∧ vs[φ i]? = some v ∧ vs'[i]? = some v ∧ ObOk X.G z e m k vs' o v)
    (hf : ∀ (i : Nat) (o : Ob D) (v : Value), O'[i]? = some o → o.live = false → vs'[i]? = some v → ObOk X.G z e m k vs' o v)
    (inj : ∀ (i j : Nat) (o p : Ob D), O'[i]? = some o → O'[j]? = some p → o.live = true → p.live = true → φ i = φ j → i = j) : Mm X.G O' z e m k vs' where
  st := h.st
  len := len
  obj := fun i o v ho hv => by
    cases hL : o.live with
    | false => exact hf i o v ho hL hv
    | true =>
      obtain ⟨p, w, _, _, _, h4, h5⟩ := hl i o ho hL
      rw [hv] at h4; cases h4; exact h5
  ap := fun i j o p v w hij ho hp lo lp hv hw => by
    obtain ⟨p1, v1, g1, g2, g3, g4, _⟩ := hl i o ho lo
    obtain ⟨p2, v2, k1, k2, k3, k4, _⟩ := hl j p hp lp
    rw [hv] at g4; cases g4
    rw [hw] at k4; cases k4
    exact h.ap (φ i) (φ j) p1 p2 v w (fun hh => hij (inj i j o p ho hp lo lp hh)) g1 k1 g2 k2 g3 k3
theorem ObOk.frozen {o : Ob D} {v : Value} (hl : o.live = false) (h : ObOk X.G z e m k vs o v) (hz : Zle z z') (hv : ∀ (i : Nat) (u : Value), vs[i]? = some u → vs'[i]? = some u) : ObOk X.G z' e m' k vs' o v := by
  cases o with
  | dead => trivial
  | sl t xs fz _ => cases fz with
    | true => exact SlR.mono hz h
    | false => cases hl
  | box t cs fz _ => cases fz with
    | true => obtain ⟨b, ds, h1, h2, h3⟩ := h; exact ⟨b, ds, h1, cellsAt_mono hz h2, rels.mono h3 hz hv⟩
    | false => cases hl
  | map t kt vt es fz _ => cases fz with
    | true => exact MpR.mono h hz
    | false => cases hl
  | _ => cases hl
theorem Rl_of (h : ∀ p ∈ E, rel X.G z vs p.2 (fr p.1)) : Rl X z vs E fr := by
  induction E with
  | nil => intro d; trivial
  | cons p E ih => exact (ih fun q hq => h q (List.mem_cons_of_mem _ hq)).cons (h p List.mem_cons_self)
theorem frzV_ok {s s' : SV D} {v : Value} (hM : Mm X.G O z e m k vs) (h : frzV O s = some (s', O')) (hv : rel X.G z vs s v) : ∃ z', Inv O O' ∧ Zx e.next z z' ∧ Mm X.G O' z' e m k vs ∧ rel X.G z' vs s' v := by
  unfold frzV at h
  split at h
  · split at h
    · rename_i c c' O1 hc
      cases h
      exact frzC_ok hM hc hv
    · cases h
  · split at h
    · rename_i t cs cs' O1 hc
      cases h
      obtain ⟨ds, h1, h2⟩ := hv
      obtain ⟨z', g0, g1, g2, g3⟩ := frzL_ok hM hc h2
      exact ⟨z', g0, g1, g2, ds, h1, g3⟩
    · cases h
  · split at h
    · rename_i e1 xs O1 hc
      split at h
      · rename_i he
        subst he
        cases h
        obtain ⟨w, h1, h2⟩ := hv
        obtain ⟨z', g0, g1, g2, g3⟩ := frzC_ok (c := .own _) hM hc h1
        exact ⟨z', g0, g1, g2, h2.slr g3⟩
      · cases h
    · cases h
  · cases h
    exact ⟨z, Inv.refl _, Zx.refl z, hM, hv⟩
theorem frzO_box {i j t : Nat} {c : CV D} {cs : List (CV D)} {fz w : Bool} (h : frzO O j = some (c, O')) (hi : O[i]? = some (.box t cs fz w)) : O'[i]? = some (.box t cs fz w) := by
  unfold frzO at h
  split at h
  · rename_i ho
    cases h
    rw [List.getElem?_set]
    split
    · rename_i hj; subst hj; rw [ho] at hi; cases hi
    · exact hi
  · rename_i ho
    cases h
    rw [List.getElem?_set]
    split
    · rename_i hj; subst hj; rw [ho] at hi; cases hi
    · exact hi
  · rename_i ho
    cases h
    rw [List.getElem?_set]
    split
    · rename_i hj; subst hj; rw [ho] at hi; cases hi
    · exact hi
  · cases h
theorem frzC_box {i t : Nat} {c c' : CV D} {cs : List (CV D)} {fz w : Bool} (h : frzC O c = some (c', O')) (hi : O[i]? = some (.box t cs fz w)) : O'[i]? = some (.box t cs fz w) := by
  unfold frzC at h
  split at h
  · exact frzO_box h hi
  · cases h; exact hi
theorem frzG_ok {l : List (Nat × Nat)} : ∀ {cs cs' : List (CV D)} {n : Nat} {O O' : List (Ob D)} {ds : List Value} {z : Nat → Blk}, Mm X.G O z e m k vs → frzG l n cs O = some (cs', O') → L2 (rel0 X.G z vs) cs ds →
    ∃ z', Inv O O' ∧ Zx e.next z z' ∧ Mm X.G O' z' e m k vs ∧ L2 (rel0 X.G z' vs) cs' ds ∧ ∀ (i t : Nat) (bs : List (CV D)) (fz w : Bool), O[i]? = some (.box t bs fz w) → O'[i]? = some (.box t bs fz w)
  | [], cs', n, O, O', [], z, hM, h, _ => by cases h; exact ⟨z, Inv.refl _, Zx.refl z, hM, trivial, fun _ _ _ _ _ h => h⟩
  | c :: cs, cs', n, O, O', d :: ds, z, hM, h, ⟨h1, h2⟩ => by
    unfold frzG at h
    split at h
    · rename_i c' O1 hc
      split at h
      · rename_i cs1 O2 hcs
        cases h
        have step : ∃ z1, Inv O O1 ∧ Zx e.next z z1 ∧ Mm X.G O1 z1 e m k vs ∧ rel0 X.G z1 vs c' d ∧ ∀ (i t : Nat) (bs : List (CV D)) (fz w : Bool), O[i]? = some (.box t bs fz w) → O1[i]? = some (.box t bs fz w) := by
          split at hc
          · cases hc; exact ⟨z, Inv.refl _, Zx.refl z, hM, h1, fun _ _ _ _ _ h => h⟩
          · obtain ⟨z1, g0, g1, g2, g3⟩ := frzC_ok hM hc h1
            exact ⟨z1, g0, g1, g2, g3, fun _ _ _ _ _ h => frzC_box hc h⟩
        obtain ⟨z1, g0, g1, g2, g3, g4⟩ := step
        obtain ⟨z2, k0, k1, k2, k3, k4⟩ := frzG_ok g2 hcs (rels.mono h2 g1.le fun _ _ h => h)
        exact ⟨z2, g0.trans k0, g1.trans k1, k2, ⟨rel0.mono g3 k1.le fun _ _ h => h, k3⟩, fun _ _ _ _ _ h => k4 _ _ _ _ _ (g4 _ _ _ _ _ h)⟩
      · cases h
    · cases h
  | [], _, _, _, _, _ :: _, _, _, _, h => h.elim
  | _ :: _, _, _, _, _, [], _, _, _, h => h.elim
theorem frzX_ok {l : List (Nat × Nat)} {i : Nat} (hM : Mm X.G O z e m k vs) (h : frzX l O i = some O') : ∃ z', Inv O O' ∧ Zx e.next z z' ∧ Mm X.G O' z' e m k vs := by
  unfold frzX at h
  split at h
  · rename_i t cs w ho
    split at h
    · split at h
      · rename_i cs' O1 hf
        cases h
        obtain ⟨v, hv, b, ds, h1, h2, h3, h4⟩ := hM.at ho
        obtain ⟨z1, g0, g1, g2, g3, g4⟩ := frzG_ok hM hf h4
        have ho1 := g4 _ _ _ _ _ ho
        obtain ⟨b', ds', q1, q2, q3, q4⟩ := g2.obj i _ v ho1 hv
        have hbx : Bx z1 e m k b ds t := by
          rw [h1] at q1; cases q1
          exact ⟨h2.blk, q2.lt, q2.dead, q2.fresh⟩
        refine ⟨z1, g0.trans (Inv.set O1 i (.inr rfl)), g1, g2.turn (m' := m) ho1 hv rfl ⟨Nat.le_refl _, g2.st.dead, fun _ _ _ => rfl⟩ g2.st ⟨b, ds, h1, hbx, h3, g3⟩⟩
      · cases h
    · cases h; exact ⟨z, Inv.refl _, Zx.refl z, hM⟩
  · cases h; exact ⟨z, Inv.refl _, Zx.refl z, hM⟩
theorem frzB_ok : ∀ {its : List It} {O O' : List (Ob D)} {z : Nat → Blk}, Mm X.G O z e m k vs → frzB E its O = some O' → ∃ z', Inv O O' ∧ Zx e.next z z' ∧ Mm X.G O' z' e m k vs
  | [], O, O', z, hM, h => by cases h; exact ⟨z, Inv.refl _, Zx.refl z, hM⟩
  | it :: its, O, O', z, hM, h => by
    have go : ∀ {l : List (Nat × Nat)} {i : Nat}, (match frzX l O i with | some O' => frzB E its O' | none => none) = some O' → ∃ z', Inv O O' ∧ Zx e.next z z' ∧ Mm X.G O' z' e m k vs := by
      intro l i h
      split at h
      · rename_i O1 hf
        obtain ⟨z1, g0, g1, g2⟩ := frzX_ok hM hf
        obtain ⟨z2, k0, k1, k2⟩ := frzB_ok g2 h
        exact ⟨z2, g0.trans k0, g1.trans k1, k2⟩
      · cases h
    cases it with
    | v d c => exact frzB_ok (its := its) hM h
    | o d c =>
      cases c with
      | box t =>
        simp only [frzB] at h
        split at h
        · exact go h
        · cases h
      | bx t l =>
        simp only [frzB] at h
        split at h
        · exact go h
        · cases h
      | _ => exact frzB_ok (its := its) hM h
    | u j c =>
      cases c with
      | box t => simp only [frzB] at h; exact go h
      | bx t l => simp only [frzB] at h; exact go h
      | _ => exact frzB_ok (its := its) hM h
def AOk (X : Ev P D) (z : Nat → Blk) (vs : List Value) (fr : Nat → Value) : List It → List (SV D) → Prop
  | [], [] => True
  | .v d _ :: its, s :: l => rel X.G z vs s (fr d) ∧ AOk X z vs fr its l
  | .o _ _ :: its, _ :: l => AOk X z vs fr its l
  | .u _ _ :: its, _ :: l => AOk X z vs fr its l
  | _, _ => False
theorem frzW_ok {c : Cl} {s s' : SV D} {v : Value} (hM : Mm X.G O z e m k vs) (h : frzW c O s = some (s', O')) (hv : rel X.G z vs s v) : ∃ z', Inv O O' ∧ Zx e.next z z' ∧ Mm X.G O' z' e m k vs ∧ rel X.G z' vs s' v := by
  unfold frzW at h
  split at h
  · cases h; exact ⟨z, Inv.refl _, Zx.refl z, hM, hv⟩
  · rename_i t i off
    split at h
    · rename_i O1 hx
      split at h
      · rename_i p O2 hp
        cases h
        obtain ⟨z1, g0, g1, g2⟩ := frzX_ok hM hx
        obtain ⟨z2, k0, k1, k2, k3⟩ := capOf_ok g2 (rel.mono hv g1.le fun _ _ h => h) hp
        exact ⟨z2, g0.trans k0, g1.trans k1, k2, k3⟩
      · cases h
    · cases h
  · exact frzV_ok hM h hv
theorem frzA_ok : ∀ {its : List It} {O O' : List (Ob D)} {l : List (SV D)} {z : Nat → Blk}, Mm X.G O z e m k vs → Rl X z vs E fr → frzA E its O = some (l, O') → ∃ z', Inv O O' ∧ Zx e.next z z' ∧ Mm X.G O' z' e m k vs ∧ AOk X z' vs fr its l
  | [], O, O', l, z, hM, hE, h => by cases h; exact ⟨z, Inv.refl _, Zx.refl z, hM, trivial⟩
  | .v d c :: its, O, O', l, z, hM, hE, h => by
    simp only [frzA] at h
    split at h
    · rename_i s O1 hs
      split at h
      · rename_i l1 O2 hl
        cases h
        obtain ⟨z1, g0, g1, g2, g3⟩ := frzW_ok hM hs (hE d)
        obtain ⟨z2, k0, k1, k2, k3⟩ := frzA_ok g2 (hE.mono g1.le fun _ _ h => h) hl
        exact ⟨z2, g0.trans k0, g1.trans k1, k2, rel.mono g3 k1.le fun _ _ h => h, k3⟩
      · cases h
    · cases h
  | .o d c :: its, O, O', l, z, hM, hE, h => by
    simp only [frzA] at h
    split at h
    · rename_i l1 O2 hl
      cases h
      exact frzA_ok (its := its) hM hE hl
    · cases h
  | .u d c :: its, O, O', l, z, hM, hE, h => by
    simp only [frzA] at h
    split at h
    · rename_i l1 O2 hl
      cases h
      exact frzA_ok (its := its) hM hE hl
    · cases h
structure CO (D : Nat → Type) where
  c : OC
  x : c.ty D
def cos : (its : List It) → inT D its → List (CO D)
  | [], _ => []
  | .o _ c :: its, x => ⟨c, x.1⟩ :: cos its x.2
  | .v _ _ :: its, x => cos its x.2
  | .u _ _ :: its, x => cos its x.2
theorem mkO_cos : ∀ {its : List It} {x : inT D its}, mkO X its x = (cos its x).map fun q => OC.mk X q.c q.x false
  | [], _ => rfl
  | .o d c :: its, x => by
    show OC.mk X c x.1 false :: mkO X its x.2 = OC.mk X c x.1 false :: (cos its x.2).map _
    rw [mkO_cos]
  | .v d c :: its, x => mkO_cos (its := its)
  | .u d c :: its, x => mkO_cos (its := its)
def Ox (X : Ev P D) (σ0 : List Nat) (O : List (Ob D)) : List Nat → List (CO D) → Prop := L2 fun i q => ∃ o, O[i]? = some o ∧ OC.get X σ0 q.c o = some q.x
theorem rdB_v {σ0 : List Nat} (hm : ∀ (j i : Nat) (u : Value), σ0[j]? = some i → vs[i]? = some u → vs'[j]? = some u) : ∀ {its : List It} {l : List (SV D)} {σ : List Nat} {x : inT D its}, rdB X σ0 O its l σ = some x → AOk X z vs fr its l → ∀ p ∈ mkE X its x, rel X.G z vs' p.2 (fr p.1)
  | [], _, _, _, _, _ => by simp [mkE]
  | .v d c :: its, [], _, _, _, h => h.elim
  | .o d c :: its, [], _, _, _, h => h.elim
  | .u d c :: its, [], _, _, _, h => h.elim
  | .v d c :: its, s :: l, σ, x, h, ha => by
    simp only [rdB] at h
    obtain ⟨hcb, h⟩ := ite_some h
    split at h
    · rename_i a b h1 h2
      cases h
      intro p hp
      simp only [mkE, List.mem_cons] at hp
      rcases hp with rfl | hp
      · exact Cl.get_ok hm hcb h1 ha.1
      · exact rdB_v hm h2 ha.2 p hp
    · cases h
  | .o d c :: its, s :: l, [], x, h, ha => by cases h
  | .o d c :: its, s :: l, i :: σ, x, h, ha => by
    simp only [rdB] at h
    split at h
    · split at h
      · rename_i a b h1 h2
        cases h
        intro p hp
        exact rdB_v hm h2 ha p hp
      · cases h
    · cases h
  | .u d c :: its, s :: l, σ, x, h, ha => by
    simp only [rdB] at h
    split at h
    · split at h
      · rename_i a b h1 h2
        cases h
        intro p hp
        exact rdB_v hm h2 ha p hp
      · cases h
    · cases h
theorem rdB_o {σ0 : List Nat} : ∀ {its : List It} {l : List (SV D)} {σ : List Nat} {x : inT D its}, rdB X σ0 O its l σ = some x → Ox X σ0 O σ (cos its x)
  | [], [], [], _, _ => trivial
  | [], _ :: _, [], _, _ => trivial
  | [], _, _ :: _, _, h => by simp [rdB] at h
  | .v d c :: its, [], _, _, h => by simp [rdB] at h
  | .o d c :: its, [], _, _, h => by simp [rdB] at h
  | .u d c :: its, [], _, _, h => by simp [rdB] at h
  | .v d c :: its, s :: l, σ, x, h => by
    simp only [rdB] at h
    obtain ⟨_, h⟩ := ite_some h
    split at h
    · rename_i a b h1 h2
      cases h
      show Ox X σ0 O σ (cos its b)
      exact rdB_o h2
    · cases h
  | .o d c :: its, s :: l, [], x, h => by cases h
  | .o d c :: its, s :: l, i :: σ, x, h => by
    simp only [rdB] at h
    split at h
    · rename_i o ho
      split at h
      · rename_i a b h1 h2
        cases h
        exact ⟨⟨o, ho, h1⟩, rdB_o h2⟩
      · cases h
    · cases h
  | .u d c :: its, s :: l, σ, x, h => by
    simp only [rdB] at h
    split at h
    · split at h
      · rename_i a b h1 h2
        cases h
        show Ox X σ0 O σ (cos its b)
        exact rdB_o h2
      · cases h
    · cases h
theorem nodupB_cons {i : Nat} {l : List Nat} (h : nodupB (i :: l) = true) : i ∉ l ∧ nodupB l = true := by
  simp only [nodupB, Bool.and_eq_true, Bool.not_eq_true', List.any_eq_false] at h
  refine ⟨fun hi => ?_, h.2⟩
  exact h.1 i hi (by simp)
theorem nodupB_get : ∀ {l : List Nat}, nodupB l = true → ∀ (a b i : Nat), l[a]? = some i → l[b]? = some i → a = b
  | [], _, a, b, i, h, _ => by simp at h
  | x :: l, h, a, b, i, ha, hb => by
    obtain ⟨h1, h2⟩ := nodupB_cons h
    cases a with
    | zero =>
      cases b with
      | zero => rfl
      | succ b =>
        simp at ha hb
        subst ha
        exact absurd (List.mem_of_getElem? hb) h1
    | succ a =>
      cases b with
      | zero =>
        simp at ha hb
        subst hb
        exact absurd (List.mem_of_getElem? ha) h1
      | succ b =>
        simp at ha hb
        rw [nodupB_get h2 a b i ha hb]
def Oy (X : Ev P D) (σ0 : List Nat) (O : List (Ob D)) : List Nat → List (CO D) → Prop := L2 fun i q => ∃ w, O[i]? = some (OC.mkr X (fun n => σ0.getD n 0) q.c q.x w)
theorem mm_set {σ0 : List Nat} (hM : Mm X.G O z e m k vs) {i : Nat} {o : Ob D} {c : OC} {x : c.ty D} (ho : O[i]? = some o) (hg : OC.get X σ0 c o = some x) (w : Bool) : Mm X.G (O.set i (OC.mkr X (fun n => σ0.getD n 0) c x w)) z e m k vs := by
  obtain ⟨v, hv, hob⟩ := hM.at ho
  have hi := (List.getElem?_eq_some_iff.1 ho).1
  refine hM.sel (by rw [List.length_set]; exact hM.len) id (fun j p hp hl => ?_) (fun j p u hp hl hu => ?_) (fun i j _ _ _ _ _ _ h => h)
  · rw [List.getElem?_set] at hp
    split at hp
    · rename_i hij
      subst hij
      cases hp
      exact ⟨o, v, ho, OC.get_live hg, hv, hv, OC.get_ok hg hob (fun n i u h1 h2 => by simpa [List.getD, h1] using h2) w⟩
    · obtain ⟨u, hu, hp'⟩ := hM.at hp
      exact ⟨p, u, hp, hl, hu, hu, hp'⟩
  · rw [List.getElem?_set] at hp
    split at hp
    · cases hp; rw [OC.mkr_live] at hl; cases hl
    · exact hM.obj j p u hp hu
theorem gt_set {σ0 : List Nat} {i : Nat} {p : Ob D} : ∀ {σ : List Nat} {C : List (CO D)}, Ox X σ0 O σ C → i ∉ σ → Ox X σ0 (O.set i p) σ C
  | [], [], _, _ => trivial
  | j :: σ, q :: C, ⟨⟨o, h1, h2⟩, h3⟩, hi => by
    refine ⟨⟨o, ?_, h2⟩, gt_set h3 fun h => hi (List.mem_cons_of_mem _ h)⟩
    rw [List.getElem?_set_ne]
    · exact h1
    · rintro rfl; exact hi List.mem_cons_self
  | [], _ :: _, h, _ => h.elim
  | _ :: _, [], h, _ => h.elim
theorem set_same {α : Type} {l : List α} {i : Nat} {a : α} (h : l[i]? = some a) : l.set i a = l := by
  apply List.ext_getElem?
  intro j
  rw [List.getElem?_set]
  have hi := (List.getElem?_eq_some_iff.1 h).1
  by_cases hij : i = j
  · subst hij; rw [if_pos rfl, if_pos hi, h]
  · simp [hij]
theorem nrm_ok {σ0 : List Nat} : ∀ {its : List It} {x : inT D its} {σ : List Nat} {O : List (Ob D)}, Mm X.G O z e m k vs → Ox X σ0 O σ (cos its x) → nodupB σ = true →
    Inv O (nrm X σ0 its x σ O) ∧ Mm X.G (nrm X σ0 its x σ O) z e m k vs ∧ Oy X σ0 (nrm X σ0 its x σ O) σ (cos its x) ∧ ∀ i, i ∉ σ → (nrm X σ0 its x σ O)[i]? = O[i]?
  | [], x, [], O, hM, _, _ => ⟨Inv.refl _, hM, trivial, fun _ _ => rfl⟩
  | [], x, _ :: _, O, hM, h, _ => h.elim
  | .v d c :: its, x, σ, O, hM, h, hn => by
    have := nrm_ok (its := its) (x := x.2) (σ := σ) hM h hn
    simpa only [nrm, cos] using this
  | .u d c :: its, x, σ, O, hM, h, hn => by
    have := nrm_ok (its := its) (x := x.2) (σ := σ) hM h hn
    simpa only [nrm, cos] using this
  | .o d c :: its, x, [], O, hM, h, hn => h.elim
  | .o d c :: its, x, i :: σ, O, hM, ⟨⟨o, h1, h2⟩, h3⟩, hn => by
    obtain ⟨n1, n2⟩ := nodupB_cons hn
    have hM1 := mm_set hM h1 h2 (tchAt c O i)
    obtain ⟨g1, g2, g3, g4⟩ := nrm_ok (its := its) (x := x.2) (σ := σ) hM1 (gt_set h3 n1) n2
    have hi := (List.getElem?_eq_some_iff.1 h1).1
    refine ⟨Inv.trans ?_ g1, g2, ⟨⟨tchAt c O i, ?_⟩, g3⟩, fun j hj => ?_⟩
    · cases ht : tchAt c O i with
      | true => exact Inv.set O i (.inr OC.mkr_tch)
      | false =>
        have hc : o.tch = false ∧ c.cln o = true := by
          simp only [tchAt, h1, Bool.or_eq_false_iff, Bool.not_eq_false'] at ht
          exact ht
        have k3 := OC.get_clean h2 hc.2
        rw [hc.1] at k3
        have : O.set i (OC.mkr X (fun n => σ0.getD n 0) c x.1 false) = O := set_same (by rw [h1]; exact congrArg some k3)
        rw [this]
        exact Inv.refl O
    · show (nrm X σ0 its x.2 σ (O.set i (OC.mkr X _ c x.1 (tchAt c O i))))[i]? = _
      rw [g4 i n1, List.getElem?_set]
      simp [hi]
    · show (nrm X σ0 its x.2 σ (O.set i (OC.mkr X _ c x.1 (tchAt c O i))))[j]? = _
      rw [g4 j fun h => hj (List.mem_cons_of_mem _ h), List.getElem?_set_ne]
      rintro rfl; exact hj List.mem_cons_self
theorem optB_eq {a : Option Nat} {i : Nat} (h : optB a i = true) : a = some i := by
  unfold optB at h
  split at h
  · rw [Nat.eq_of_beq_eq_true h]
  · cases h
theorem fxT_ok {σ : List Nat} {s s' : SV D} {v : Value} (τ : Nat → Nat) (h : fxT σ s s' = true) (hr : rel X.G z vs s' v) (hv : ∀ (j i : Nat) (u : Value), σ[j]? = some i → vs[i]? = some u → vs'[τ j]? = some u) : rel X.G z vs' (rnS τ s) v := by
  unfold fxT at h
  split at h
  · exact ⟨hv _ _ _ (optB_eq h) hr.1, hr.2⟩
  · simp only [Bool.and_eq_true] at h
    obtain ⟨b, h1, h2⟩ := hr
    have := Nat.eq_of_beq_eq_true h.2
    subst this
    exact ⟨b, hv _ _ _ (optB_eq h.1) h1, h2⟩
  · obtain ⟨b, l, h1, h2⟩ := hr
    exact ⟨b, l, hv _ _ _ (optB_eq h) h1, h2⟩
  · exact hr
  · exact hr
  · exact hr
  · exact hr
  · trivial
  · simp only [Bool.and_eq_true, decide_eq_true_eq, beq_iff_eq] at h
    obtain ⟨rfl, rfl⟩ := h
    exact hr
  · have := eq_of_beq h
    subst this
    exact hr
  · have := Nat.eq_of_beq_eq_true h
    subst this
    obtain ⟨gs, h1, h2⟩ := hr
    refine ⟨gs, h1, ?_⟩
    cases gs with
    | nil => trivial
    | cons _ _ => exact h2.elim
  · cases h
theorem rnS_id (s : SV D) : rnS id s = s := by
  cases s with
  | c c => cases c <;> rfl
  | _ => rfl
structure Ent (X : Ev P D) (its : List It) (fx : List (Nat × SV D)) (x : inT D its) (σ : List Nat) (O2 : List (Ob D)) (z : Nat → Blk) (e m : Mem) (k : Option Nat) (vs vs0 : List Value) (fr : Nat → Value) : Prop where
  mm : Mm X.G O2 z e m k vs
  mm0 : Mm X.G (mkO X its x) z e m k vs0
  rl : Rl X z vs0 (mkE X its x ++ fx) fr
  nd : nodupB σ = true
  oy : Oy X σ O2 σ (cos its x)
  len : vs0.length = σ.length
  nv : ∀ (j i : Nat), σ[j]? = some i → ∃ u, vs0[j]? = some u ∧ vs[i]? = some u
  gt : ∀ q ∈ cos its x, ∀ n ∈ q.c.nums, ∃ i, σ[n]? = some i
theorem entry0 {its : List It} {fx : List (Nat × SV D)} {x : inT D its} {σ : List Nat} {O2 : List (Ob D)} (hM : Mm X.G O z e m k vs) (hE : Rl X z vs E fr) (h : rdIn0 X its fx E O = some (x, σ, O2)) :
    ∃ z' vs0, Inv O O2 ∧ Zx e.next z z' ∧ Ent X its fx x σ O2 z' e m k vs vs0 fr := by
  unfold rdIn0 at h
  split at h
  · rename_i svs O1 σ' hf ha
    split at h
    · rename_i hc
      simp only [Bool.and_eq_true] at hc
      split at h
      · rename_i x' hb
        cases h
        obtain ⟨z1, g0, g1, g2, g3⟩ := frzA_ok hM hE hf
        have ox := rdB_o hb
        obtain ⟨n1, n2, n3, n4⟩ := nrm_ok g2 ox hc.1
        have hv0 : ∀ (j i : Nat), σ[j]? = some i → ∃ u, (σ.map fun i => vs.getD i undef)[j]? = some u ∧ vs[i]? = some u := by
          intro j i hj
          obtain ⟨q, _, w, hw⟩ := n3.get j i hj
          obtain ⟨v, hv, _⟩ := n2.at hw
          refine ⟨v, ?_, hv⟩
          rw [List.getElem?_map, hj]
          simp [hv]
        have hlen : (mkO X its x).length = σ.length := by rw [mkO_cos, List.length_map]; exact n3.length.symm
        have hgt : ∀ (j : Nat) (o0 : Ob D), (mkO X its x)[j]? = some o0 → ∃ i q, q ∈ cos its x ∧ o0 = OC.mk X q.c q.x false ∧ σ[j]? = some i ∧ ∃ w, (nrm X σ its x σ O1)[i]? = some (OC.mkr X (fun n => σ.getD n 0) q.c q.x w) := by
          intro j o0 hj
          have hlt := (List.getElem?_eq_some_iff.1 hj).1
          have hs : σ[j]? = some (σ[j]'(by omega)) := List.getElem?_eq_getElem (by omega)
          obtain ⟨q, k3, w, k4⟩ := n3.get j _ hs
          rw [mkO_cos, List.getElem?_map, k3] at hj
          exact ⟨_, q, List.mem_of_getElem? k3, (Option.some.inj hj).symm, hs, w, k4⟩
        have hnum : ∀ q ∈ cos its x, ∀ n ∈ q.c.nums, ∃ i, σ[n]? = some i := by
          intro q hq
          obtain ⟨j, hj, he⟩ := List.mem_iff_getElem.1 hq
          have hj' : (cos its x)[j]? = some q := by rw [List.getElem?_eq_getElem hj, he]
          have hs : σ[j]? = some (σ[j]'(by rw [ox.length]; exact hj)) := List.getElem?_eq_getElem _
          obtain ⟨q', k1, o, _, k2⟩ := ox.get j _ hs
          rw [hj'] at k1; cases k1
          exact OC.get_nums k2
        refine ⟨z1, σ.map fun i => vs.getD i undef, g0.trans n1, g1, n2, ?_, ?_, hc.1, n3, by simp, hv0, hnum⟩
        · refine n2.sel (by rw [List.length_map]; exact hlen.symm) (fun j => σ.getD j 0) (fun j o0 hj hl => ?_) (fun j o0 u hj hl hu => ?_) (fun i j o p hi hj _ _ hij => ?_)
          · obtain ⟨i, q, hq, rfl, hs, w, hw⟩ := hgt j o0 hj
            obtain ⟨u, hu1, hu2⟩ := hv0 j i hs
            have hd : σ.getD j 0 = i := by simp [List.getD, hs]
            refine ⟨_, u, by rw [hd]; exact hw, OC.mkr_live, by rw [hd]; exact hu2, hu1, ?_⟩
            have := n2.obj i _ u hw hu2
            refine OC.mkr_ok false this fun n hn u' hu' => ?_
            obtain ⟨i', hi'⟩ := hnum q hq n hn
            have hd' : σ.getD n 0 = i' := by simp [List.getD, hi']
            rw [hd'] at hu'
            obtain ⟨u2, h1, h2⟩ := hv0 n i' hi'
            rw [hu'] at h2; cases h2; exact h1
          · obtain ⟨i, q, _, rfl, hs, w, hw⟩ := hgt j o0 hj
            rw [OC.mk_live] at hl
            cases hl
          · obtain ⟨a, _, _, _, ha, _⟩ := hgt i o hi
            obtain ⟨b, _, _, _, hb, _⟩ := hgt j p hj
            have e1 : σ.getD i 0 = a := by simp [List.getD, ha]
            have e2 : σ.getD j 0 = b := by simp [List.getD, hb]
            have : a = b := by rw [← e1, ← e2]; exact hij
            subst this
            exact nodupB_get hc.1 i j a ha hb
        · refine Rl_of fun p hp => ?_
          rcases List.mem_append.1 hp with hp | hp
          · refine rdB_v (fun j i u hj hu => ?_) hb g3 p hp
            obtain ⟨u', h1, h2⟩ := hv0 j i hj
            rw [hu] at h2; cases h2; exact h1
          · have ht := List.all_eq_true.1 hc.2 p hp
            have := fxT_ok (X := X) (z := z1) (vs := vs) (vs' := σ.map fun i => vs.getD i undef) id ht ((hE.mono g1.le fun _ _ h => h) p.1) fun j i u hj hu => by
              obtain ⟨u', h1, h2⟩ := hv0 j i hj
              rw [hu] at h2; cases h2; exact h1
            rwa [rnS_id] at this
      · cases h
    · cases h
  · cases h
theorem entry {its : List It} {fx : List (Nat × SV D)} {x : inT D its} {σ : List Nat} {O2 : List (Ob D)} (hM : Mm X.G O z e m k vs) (hE : Rl X z vs E fr) (h : rdIn X its fx E O = some (x, σ, O2)) :
    ∃ z' vs0, Inv O O2 ∧ Zx e.next z z' ∧ Ent X its fx x σ O2 z' e m k vs vs0 fr := by
  unfold rdIn at h
  split at h
  · rename_i O0 hf
    obtain ⟨z1, g0, g1, g2⟩ := frzB_ok hM hf
    obtain ⟨z2, vs0, k0, k1, k2⟩ := entry0 g2 (hE.mono g1.le fun _ _ h => h) h
    exact ⟨z2, vs0, g0.trans k0, g1.trans k1, k2⟩
  · cases h
def nilAt (E : List (Nat × SV D)) (O : List (Ob D)) (q off : Nat) : Option (Nat × Nat × List (CV D) × Bool) :=
  match lkE E q with
  | .box i 0 => (match O[i]? with | some (.box t cs false w) => (match cs[off]? with | some .nilS => some (i, t, cs, w) | _ => none) | _ => none)
  | _ => none
def ownA : List It → List (Nat × SV D) → List (Ob D) → List (Nat × SV D) × List (Ob D)
  | .o d (.sl t) :: its, E, O =>
    if Nat.blt d VC = true then (match lkE E d with | .c .nilS => ownA its ((d, .c (.own O.length)) :: E) (O ++ [.sl t [] false false]) | _ => ownA its E O)
    else (match nilAt E O ((d - VC) / 1000) ((d - VC) % 1000) with | some (i, u, cs, _) => ownA its E (O.set i (.box u (cs.set ((d - VC) % 1000) (.own O.length)) false true) ++ [.sl t [] false false]) | none => ownA its E O)
  | _ :: its, E, O => ownA its E O
  | [], E, O => (E, O)
theorem ownA_ok : ∀ {its : List It} {E : List (Nat × SV D)} {O : List (Ob D)} {vs : List Value}, Mm X.G O z e m k vs → Rl X z vs E fr → ∃ vs', Inv O (ownA its E O).2 ∧ (∀ (i : Nat) (u : Value), vs[i]? = some u → vs'[i]? = some u) ∧ Mm X.G (ownA its E O).2 z e m k vs' ∧ Rl X z vs' (ownA its E O).1 fr
  | [], E, O, vs, hM, hE => ⟨vs, Inv.refl _, fun _ _ h => h, hM, hE⟩
  | .v _ _ :: its, E, O, vs, hM, hE => ownA_ok (its := its) hM hE
  | .u _ _ :: its, E, O, vs, hM, hE => ownA_ok (its := its) hM hE
  | .o _ (.box _) :: its, E, O, vs, hM, hE => ownA_ok (its := its) hM hE
  | .o _ (.recv _) :: its, E, O, vs, hM, hE => ownA_ok (its := its) hM hE
  | .o _ (.arr _ _ _) :: its, E, O, vs, hM, hE => ownA_ok (its := its) hM hE
  | .o _ (.map _ _ _) :: its, E, O, vs, hM, hE => ownA_ok (its := its) hM hE
  | .o _ (.bx _ _) :: its, E, O, vs, hM, hE => ownA_ok (its := its) hM hE
  | .o _ (.ne _ _) :: its, E, O, vs, hM, hE => ownA_ok (its := its) hM hE
  | .o d (.sl t) :: its, E, O, vs, hM, hE => by
    have hMp : ∀ {O : List (Ob D)}, Mm X.G O z e m k vs → Mm X.G (O ++ [.sl t [] false false]) z e m k (vs ++ [.slice none 0 0]) := fun {O} hM => by
      refine hM.push (q := none) ⟨Nat.le_refl _, hM.st.dead, fun _ _ _ => rfl⟩ hM.st (fun _ _ _ _ _ _ => Ap.none') ?_ fun _ _ _ => Ap.none'
      exact (⟨.inl ⟨rfl, rfl⟩, fun b hb => by cases hb⟩ : OwF (X.G.T t) z e m k [] (.slice none 0 0))
    unfold ownA
    split
    · split
      · rename_i hs
        have hd := hE d
        rw [hs] at hd
        have hd : fr d = .slice none 0 0 := hd
        obtain ⟨vs', g1, g2, g3, g4⟩ := ownA_ok (its := its) (E := (d, .c (.own O.length)) :: E) (hMp hM) ((hE.mono (Zle.refl z) ext_get).cons ⟨by rw [hd, ← hM.len]; simp, by rw [hd]; rfl, by rw [hd]; rfl⟩)
        exact ⟨vs', (Inv.push O _).trans g1, fun i u hu => g2 i u (ext_get i u hu), g3, g4⟩
      · exact ownA_ok (its := its) hM hE
    · generalize (d - VC) / 1000 = q
      generalize (d - VC) % 1000 = off
      split
      · rename_i i u cs w hn
        have hb : O[i]? = some (.box u cs false w) ∧ cs[off]? = some .nilS := by
          unfold nilAt at hn
          split at hn
          · split at hn
            · split at hn
              · rename_i h2 _ h3
                cases hn; exact ⟨h2, h3⟩
              · cases hn
            · cases hn
          · cases hn
        obtain ⟨v, hv, b, ds, h1, h2, h3, h4⟩ := hM.at hb.1
        have hM2 := hMp hM
        have hi := (List.getElem?_eq_some_iff.1 hb.1).1
        have hset : O.set i (.box u (cs.set off (.own O.length)) false true) ++ [(.sl t [] false false : Ob D)] = (O ++ [(.sl t [] false false : Ob D)]).set i (.box u (cs.set off (.own O.length)) false true) := by
          rw [List.set_append_left _ _ hi]
        have hM3 : Mm X.G (O.set i (.box u (cs.set off (.own O.length)) false true) ++ [.sl t [] false false]) z e m k (vs ++ [.slice none 0 0]) := by
          rw [hset]
          refine hM2.turn (m' := m) (v := v) (o := .box u cs false w) (by rw [List.getElem?_append_left hi]; exact hb.1) (ext_get _ _ hv) rfl ⟨Nat.le_refl _, hM.st.dead, fun _ _ _ => rfl⟩ hM.st ?_
          refine ⟨b, ds, h1, h2, h3, L2_iff.2 ⟨by rw [List.length_set]; exact (L2_iff.1 h4).1, fun j a d ha hd => ?_⟩⟩
          rw [List.getElem?_set] at ha
          split at ha
          · rename_i hj
            split at ha
            · cases ha
              subst hj
              have hr : d = .slice none 0 0 := (L2_iff.1 h4).2 off _ d hb.2 hd
              exact ⟨by rw [hr, ← hM.len]; simp, by rw [hr]; rfl, by rw [hr]; rfl⟩
            · cases ha
          · exact rel0.mono ((L2_iff.1 h4).2 j a d ha hd) (Zle.refl z) ext_get
        obtain ⟨vs', g1, g2, g3, g4⟩ := ownA_ok (its := its) (E := E) hM3 (hE.mono (Zle.refl z) ext_get)
        exact ⟨vs', ((Inv.set O i (.inr rfl)).trans (Inv.push _ _)).trans g1, fun i u hu => g2 i u (ext_get i u hu), g3, g4⟩
      · exact ownA_ok (its := its) hM hE
end
end Go.AM
end
section
set_option linter.unusedSimpArgs false
set_option linter.unusedVariables false
namespace Go.AM
structure Ex (D : Nat → Type) where
  ex : AExit
  outs : List It
  fx : List (Nat × SV D)
noncomputable section
section
variable {P : Program} {D : Nat → Type}
def outT (D : Nat → Type) : List It → Type
  | [] => Unit
  | [i] => i.ty D
  | i :: j :: is => i.ty D × outT D (j :: is)
def toOut : (its : List It) → inT D its → outT D its
  | [], _ => ()
  | [_], x => x.1
  | _ :: j :: is, x => (x.1, toOut (j :: is) x.2)
def ofOut : (its : List It) → outT D its → inT D its
  | [], _ => ()
  | [_], y => (y, ())
  | _ :: j :: is, y => (y.1, ofOut (j :: is) y.2)
def sumT : List (Ex D) → Type
  | [] => Empty
  | [x] => outT D x.outs
  | x :: y :: xs => outT D x.outs ⊕ sumT (y :: xs)
def atEx {α : Type} : (exs : List (Ex D)) → sumT exs → ((x : Ex D) → outT D x.outs → α) → α
  | [], e, _ => nomatch (e : Empty)
  | [x], y, k => k x y
  | x :: y :: xs, r, k => match (r : outT D x.outs ⊕ sumT (y :: xs)) with | .inl a => k x a | .inr b => atEx (y :: xs) b k
variable (X : Ev P D)
def refsB (n : Nat) : Ob D → Bool
  | .box _ cs _ _ => cs.all fun c => match c with | .own i => Nat.blt i n | _ => true
  | _ => true
def keptB (n : Nat) (O : List (Ob D)) : Nat → List Nat → Bool
  | _, [] => true
  | j, k :: ks => (if k = 1 then (match O[j]? with | some o => o.live && !o.tch && refsB n o | none => false) else true) && keptB n O (j + 1) ks
def rdXI (n : Nat) (ks : List Nat) (x : Ex D) (E : List (Nat × SV D)) (O : List (Ob D)) : Option (outT D x.outs) :=
  match frzA E x.outs O, ancs E O x.outs with
  | some (svs, O1), some σ =>
    if (nodupB σ && (σ.all fun i => Nat.ble n i || Nat.beq (ks.getD i 0) 0) && keptB n O1 0 ks && x.fx.all fun p => fxT (List.range n ++ σ) p.2 (lkE E p.1)) = true then
      match rdB X (List.range n ++ σ) O1 x.outs svs σ with
      | some y => some (toOut x.outs y)
      | none => none
    else none
  | _, _ => none
def rdX (n : Nat) (ks : List Nat) (x : Ex D) (E : List (Nat × SV D)) (O : List (Ob D)) : Option (outT D x.outs) :=
  match frzB (ownA x.outs E O).1 x.outs (ownA x.outs E O).2 with
  | some O' => rdXI X n ks x (ownA x.outs E O).1 O'
  | none => none
def rdEx (n : Nat) (ks : List Nat) : (exs : List (Ex D)) → AExit → List (Nat × SV D) → List (Ob D) → Option (sumT exs)
  | [], _, _, _ => none
  | [x], e, E, O => if e = x.ex then rdX X n ks x E O else none
  | x :: y :: xs, e, E, O => if e = x.ex then (match rdX X n ks x E O with | some a => some (Sum.inl a) | none => none) else (match rdEx n ks (y :: xs) e E O with | some b => some (Sum.inr b) | none => none)
def updOf (τ : Nat → Nat) : (its : List It) → inT D its → Nat → Ob D
  | .u i c :: its, x, j => if Nat.beq i j = true then OC.mkr X τ c x.1 true else updOf τ its x.2 j
  | .v _ _ :: its, x, j => updOf τ its x.2 j
  | .o _ _ :: its, x, j => updOf τ its x.2 j
  | [], _, _ => .dead
def idN (n : Nat) : Nat := n
def pO (outs : List It) (y : inT D outs) : Nat → List Nat → List (Ob D) → List (Ob D)
  | i, k :: ks, o :: O => (if k = 1 then o else if k = 2 then updOf X idN outs y i else .dead) :: pO outs y (i + 1) ks O
  | i, [], o :: O => .dead :: pO outs y (i + 1) [] O
  | _, _, [] => []
def postO (ks : List Nat) (O0 : List (Ob D)) (outs : List It) (y : inT D outs) : List (Ob D) := pO X outs y 0 ks O0 ++ mkO X outs y
end
section
variable {P : Program} {D : Nat → Type} {X : Ev P D} {z z' : Nat → Blk} {e m m' : Mem} {k : Option Nat} {vs vs' : List Value} {fr : Nat → Value} {E : List (Nat × SV D)} {O O' : List (Ob D)}
theorem of_to : ∀ {its : List It} (x : inT D its), ofOut its (toOut its x) = x
  | [], _ => rfl
  | [_], _ => rfl
  | _ :: j :: is, x => by
    show (x.1, ofOut (j :: is) (toOut (j :: is) x.2)) = x
    rw [of_to (its := j :: is) x.2]
    rfl
theorem rdEx_some {n : Nat} {ks : List Nat} {ex : AExit} : ∀ {exs : List (Ex D)} {res : sumT exs}, rdEx X n ks exs ex E O = some res → ∃ x y, x ∈ exs ∧ ex = x.ex ∧ rdX X n ks x E O = some y ∧ ∀ {α : Type} (K : (x : Ex D) → outT D x.outs → α), atEx exs res K = K x y
  | [], _, h => by cases h
  | [x], res, h => by
    obtain ⟨h1, h2⟩ := ite_some h
    exact ⟨x, res, List.mem_cons_self, h1, h2, fun _ => rfl⟩
  | x :: y :: xs, res, h => by
    simp only [rdEx] at h
    split at h
    · rename_i hx
      split at h
      · rename_i a ha
        cases h
        exact ⟨x, a, List.mem_cons_self, hx, ha, fun _ => rfl⟩
      · cases h
    · split at h
      · rename_i b hb
        cases h
        obtain ⟨x', y', h1, h2, h3, h4⟩ := rdEx_some hb
        exact ⟨x', y', List.mem_cons_of_mem _ h1, h2, h3, fun K => h4 K⟩
      · cases h
theorem updOf_ok {σ0 : List Nat} {n : Nat} : ∀ {its : List It} {l : List (SV D)} {σ : List Nat} {x : inT D its} {j : Nat}, rdB X σ0 O its l σ = some x → (∀ τ, updOf X τ its x j = .dead) ∨ ∃ c y o, O[j]? = some o ∧ OC.get X σ0 c o = some y ∧ ∀ τ, updOf X τ its x j = OC.mkr X τ c y true
  | [], _, _, _, _, _ => .inl fun _ => rfl
  | .v d c :: its, [], _, _, _, h => by simp [rdB] at h
  | .o d c :: its, [], _, _, _, h => by simp [rdB] at h
  | .u d c :: its, [], _, _, _, h => by simp [rdB] at h
  | .v d c :: its, s :: l, σ, x, j, h => by
    simp only [rdB] at h
    obtain ⟨_, h⟩ := ite_some h
    split at h
    · rename_i a b h1 h2
      cases h
      exact updOf_ok (n := n) (its := its) h2
    · cases h
  | .o d c :: its, s :: l, [], x, j, h => by cases h
  | .o d c :: its, s :: l, i :: σ, x, j, h => by
    simp only [rdB] at h
    split at h
    · split at h
      · rename_i a b h1 h2
        cases h
        exact updOf_ok (n := n) (its := its) h2
      · cases h
    · cases h
  | .u d c :: its, s :: l, σ, x, j, h => by
    simp only [rdB] at h
    split at h
    · rename_i o ho
      split at h
      · rename_i a b h1 h2
        cases h
        by_cases hd : Nat.beq d j = true
        · have := Nat.eq_of_beq_eq_true hd
          subst this
          refine .inr ⟨c, a, o, ho, h1, fun τ => ?_⟩
          show (if Nat.beq d d = true then OC.mkr X τ c a true else _) = _
          rw [if_pos hd]
        · have e1 : ∀ τ, updOf X τ (.u d c :: its) (a, b) j = updOf X τ its b j := fun τ => by
            show (if Nat.beq d j = true then OC.mkr X τ c a true else _) = _
            rw [if_neg hd]
          simp only [e1]
          exact updOf_ok (n := n) (its := its) (j := j) h2
      · cases h
    · cases h
def It.nums : It → List Nat
  | .v _ _ => []
  | .o _ c => c.nums
  | .u _ c => c.nums
def It.nc : It → Bool
  | .v _ c => c.nc
  | _ => true
theorem updOf_mk : ∀ {its : List It} {x : inT D its} {j : Nat}, (∀ τ, updOf X τ its x j = .dead) ∨ ∃ d c y, It.u d c ∈ its ∧ ∀ τ, updOf X τ its x j = OC.mkr X τ c y true
  | [], _, _ => .inl fun _ => rfl
  | .v d c :: its, x, j => by
    rcases updOf_mk (its := its) (x := x.2) (j := j) with h | ⟨d, c, y, h1, h2⟩
    · exact .inl h
    · exact .inr ⟨d, c, y, List.mem_cons_of_mem _ h1, h2⟩
  | .o d c :: its, x, j => by
    rcases updOf_mk (its := its) (x := x.2) (j := j) with h | ⟨d, c, y, h1, h2⟩
    · exact .inl h
    · exact .inr ⟨d, c, y, List.mem_cons_of_mem _ h1, h2⟩
  | .u d c :: its, x, j => by
    by_cases hd : Nat.beq d j = true
    · exact .inr ⟨d, c, x.1, List.mem_cons_self, fun τ => if_pos hd⟩
    · have e1 : ∀ τ, updOf X τ (.u d c :: its) x j = updOf X τ its x.2 j := fun τ => if_neg hd
      simp only [e1]
      rcases updOf_mk (its := its) (x := x.2) (j := j) with h | ⟨d, c, y, h1, h2⟩
      · exact .inl h
      · exact .inr ⟨d, c, y, List.mem_cons_of_mem _ h1, h2⟩
theorem mkO_mk : ∀ {its : List It} {x : inT D its} {o : Ob D}, o ∈ mkO X its x → ∃ d c y, It.o d c ∈ its ∧ o = OC.mk X c y false
  | [], _, _, h => by simp [mkO] at h
  | .v d c :: its, x, o, h => let ⟨d, c, y, h1, h2⟩ := mkO_mk (its := its) (x := x.2) h; ⟨d, c, y, List.mem_cons_of_mem _ h1, h2⟩
  | .u d c :: its, x, o, h => let ⟨d, c, y, h1, h2⟩ := mkO_mk (its := its) (x := x.2) h; ⟨d, c, y, List.mem_cons_of_mem _ h1, h2⟩
  | .o d c :: its, x, o, h => by
    simp only [mkO, List.mem_cons] at h
    rcases h with rfl | h
    · exact ⟨d, c, x.1, List.mem_cons_self, rfl⟩
    · obtain ⟨d, c, y, h1, h2⟩ := mkO_mk (its := its) (x := x.2) h
      exact ⟨d, c, y, List.mem_cons_of_mem _ h1, h2⟩
theorem mkE_mk : ∀ {its : List It} {x : inT D its} {p : Nat × SV D}, p ∈ mkE X its x → ∃ d c y, It.v d c ∈ its ∧ p.2 = Cl.mk X c y
  | [], _, _, h => by simp [mkE] at h
  | .o d c :: its, x, o, h => by
    obtain ⟨d', c', y, h1, h2⟩ := mkE_mk (its := its) (x := x.2) h
    exact ⟨d', c', y, List.mem_cons_of_mem _ h1, h2⟩
  | .u d c :: its, x, o, h => by
    obtain ⟨d', c', y, h1, h2⟩ := mkE_mk (its := its) (x := x.2) h
    exact ⟨d', c', y, List.mem_cons_of_mem _ h1, h2⟩
  | .v d c :: its, x, o, h => by
    simp only [mkE, List.mem_cons] at h
    rcases h with rfl | h
    · exact ⟨d, c, x.1, List.mem_cons_self, rfl⟩
    · obtain ⟨d', c', y, h1, h2⟩ := mkE_mk (its := its) (x := x.2) h
      exact ⟨d', c', y, List.mem_cons_of_mem _ h1, h2⟩
theorem pO_len {outs : List It} {y : inT D outs} : ∀ {i : Nat} {ks : List Nat} {O : List (Ob D)}, (pO X outs y i ks O).length = O.length
  | i, [], [] => rfl
  | i, _ :: _, [] => rfl
  | i, k :: ks, o :: O => by simp [pO, pO_len]
  | i, [], o :: O => by simp [pO, pO_len]
theorem pO_get {outs : List It} {y : inT D outs} : ∀ {i : Nat} {ks : List Nat} {O : List (Ob D)} {j : Nat} {o : Ob D}, O[j]? = some o → (pO X outs y i ks O)[j]? = some (if ks.getD j 0 = 1 then o else if ks.getD j 0 = 2 then updOf X idN outs y (i + j) else .dead)
  | i, ks, [], j, o, h => by simp at h
  | i, k :: ks, p :: O, 0, o, h => by simp at h; subst h; simp [pO]
  | i, k :: ks, p :: O, j + 1, o, h => by
    simp only [List.getElem?_cons_succ] at h
    have := pO_get (outs := outs) (y := y) (i := i + 1) (ks := ks) h
    simp only [pO, List.getElem?_cons_succ, this, List.getD_cons_succ]
    rw [Nat.add_assoc, Nat.add_comm 1 j]
  | i, [], p :: O, 0, o, h => by simp [pO]
  | i, [], p :: O, j + 1, o, h => by
    simp only [List.getElem?_cons_succ] at h
    have := pO_get (outs := outs) (y := y) (i := i + 1) (ks := []) h
    simp only [pO, List.getElem?_cons_succ, this]
    simp
theorem refsB_ok {n : Nat} {o : Ob D} (h : refsB n o = true) : ∀ i, OwnIn i o → i < n := by
  intro i hi
  cases o with
  | box t cs fz w =>
    have := List.all_eq_true.1 h _ hi
    simpa [Nat.blt_eq] using this
  | _ => exact hi.elim
theorem keptB_ok {n : Nat} : ∀ {ks : List Nat} {i j : Nat}, keptB n O i ks = true → ks.getD j 0 = 1 → ∃ o, O[i + j]? = some o ∧ o.live = true ∧ o.tch = false ∧ ∀ i, OwnIn i o → i < n
  | [], i, j, _, h => by simp at h
  | k :: ks, i, 0, hk, h => by
    simp only [keptB, Bool.and_eq_true] at hk
    simp at h
    subst h
    have h1 := hk.1
    rw [if_pos rfl] at h1
    split at h1
    · rename_i o ho
      simp only [Bool.and_eq_true, Bool.not_eq_true'] at h1
      exact ⟨o, ho, h1.1.1, h1.1.2, refsB_ok h1.2⟩
    · cases h1
  | k :: ks, i, j + 1, hk, h => by
    simp only [keptB, Bool.and_eq_true] at hk
    simp only [List.getD_cons_succ] at h
    obtain ⟨o, h1, h2⟩ := keptB_ok hk.2 h
    exact ⟨o, by rw [← h1]; congr 1; omega, h2⟩
theorem post_ofI {ins : List It} {ks : List Nat} {x : inT D ins} {xx : Ex D} {y : outT D xx.outs} {vs0 : List Value} (hi : Inv (mkO X ins x) O) (hv : ∀ (i : Nat) (u : Value), vs0[i]? = some u → vs[i]? = some u) (hl0 : vs0.length = (mkO X ins x).length)
    (hM : Mm X.G O z e m k vs) (hE : Rl X z vs E fr) (h : rdXI X vs0.length ks xx E O = some y) :
    ∃ z' nv, Zx e.next z z' ∧ Mm X.G (postO X ks (mkO X ins x) xx.outs (ofOut _ y)) z' e m k (vs0 ++ nv) ∧ ∀ p ∈ mkE X xx.outs (ofOut _ y) ++ xx.fx, rel X.G z' (vs0 ++ nv) p.2 (fr p.1) := by
  unfold rdXI at h
  split at h
  · rename_i svs O1 σ hf ha
    split at h
    · rename_i hc
      simp only [Bool.and_eq_true] at hc
      obtain ⟨⟨⟨c1, c2⟩, c3⟩, c4⟩ := hc
      split at h
      · rename_i y' hb
        cases h
        rw [of_to]
        obtain ⟨z1, g0, g1, g2, g3⟩ := frzA_ok hM hE hf
        have ox := rdB_o hb
        have hi1 := hi.trans g0
        have hnv : ∀ (j i : Nat), σ[j]? = some i → ∃ u, (σ.map fun i => vs.getD i undef)[j]? = some u ∧ vs[i]? = some u := by
          intro j i hj
          obtain ⟨q, _, o, ho, _⟩ := ox.get j i hj
          obtain ⟨v, hv, _⟩ := g2.at ho
          exact ⟨v, by rw [List.getElem?_map, hj]; simp [hv], hv⟩
        have hlen : (mkO X xx.outs y').length = σ.length := by rw [mkO_cos, List.length_map]; exact ox.length.symm
        have hcv : ∀ (j : Nat) (o : Ob D), (postO X ks (mkO X ins x) xx.outs y')[j]? = some o →
            (j < vs0.length ∧ ∃ o0, (mkO X ins x)[j]? = some o0 ∧ o = (if ks.getD j 0 = 1 then o0 else if ks.getD j 0 = 2 then updOf X idN xx.outs y' j else .dead)) ∨
            (vs0.length ≤ j ∧ (mkO X xx.outs y')[j - vs0.length]? = some o) := by
          intro j o hj
          unfold postO at hj
          by_cases hlt : j < vs0.length
          · refine .inl ⟨hlt, ?_⟩
            rw [List.getElem?_append_left (by rw [pO_len]; omega)] at hj
            have hs : (mkO X ins x)[j]? = some ((mkO X ins x)[j]'(by omega)) := List.getElem?_eq_getElem (by omega)
            have := pO_get (X := X) (outs := xx.outs) (y := y') (i := 0) (ks := ks) hs
            rw [hj] at this
            refine ⟨_, hs, ?_⟩
            have := Option.some.inj this
            rw [Nat.zero_add] at this
            exact this
          · refine .inr ⟨by omega, ?_⟩
            rw [List.getElem?_append_right (by rw [pO_len]; omega), pO_len, ← hl0] at hj
            exact hj
        have hleft : ∀ (j : Nat) (u : Value), j < vs0.length → vs[j]? = some u → (vs0 ++ σ.map fun i => vs.getD i undef)[j]? = some u := by
          intro j u hj hu
          rw [List.getElem?_append_left hj]
          have : vs0[j]? = some vs0[j] := List.getElem?_eq_getElem hj
          have := hv j _ this
          rw [hu] at this
          cases this
          exact List.getElem?_eq_getElem hj
        have hnum : ∀ (n i : Nat) (u : Value), (List.range vs0.length ++ σ)[n]? = some i → vs[i]? = some u → (vs0 ++ σ.map fun i => vs.getD i undef)[n]? = some u := by
          intro n i u hn hu
          by_cases hlt : n < vs0.length
          · rw [List.getElem?_append_left (by simpa using hlt), List.getElem?_range hlt] at hn
            cases hn
            exact hleft n u hlt hu
          · rw [List.getElem?_append_right (by simpa using hlt), List.length_range] at hn
            obtain ⟨u', h1, h2⟩ := hnv _ _ hn
            rw [hu] at h2; cases h2
            rw [List.getElem?_append_right (by omega)]
            exact h1
        refine ⟨z1, σ.map fun i => vs.getD i undef, g1, ?_, ?_⟩
        · refine g2.sel ?_ (fun j => if j < vs0.length then j else σ.getD (j - vs0.length) 0) (fun j o hj hl => ?_) (fun j o u hj hl hu => ?_) (fun i j o p hi' hj hli hlj hij => ?_)
          · unfold postO
            rw [List.length_append, List.length_append, pO_len, hlen, List.length_map, hl0]
          · rcases hcv j o hj with ⟨hlt, o0, ho0, ho⟩ | ⟨hge, ho⟩
            · simp only [if_pos hlt]
              by_cases k1 : ks.getD j 0 = 1
              · rw [if_pos k1] at ho
                subst ho
                obtain ⟨p, p1, p2, p3, p4⟩ := keptB_ok c3 k1
                rw [Nat.zero_add] at p1
                have := hi1.old j p (by omega) p1 p2 p3
                rw [ho0] at this; cases this
                obtain ⟨v, v1, v2⟩ := g2.at p1
                obtain ⟨_, c, w, _, rfl⟩ := mkO_mk (List.mem_of_getElem? ho0)
                exact ⟨_, v, p1, p2, v1, hleft j v hlt v1, OC.mkr_okC false v2 fun n _ ho u hu => hleft n u (p4 n ho) hu⟩
              · rw [if_neg k1] at ho
                by_cases k2 : ks.getD j 0 = 2
                · rw [if_pos k2] at ho
                  rcases updOf_ok (n := 0) (j := j) hb with hd | ⟨c, w, p, p1, p2, p3⟩
                  · rw [ho, hd] at hl; cases hl
                  · obtain ⟨v, v1, v2⟩ := g2.at p1
                    refine ⟨p, v, p1, OC.get_live p2, v1, hleft j v hlt v1, ?_⟩
                    rw [ho, p3]
                    exact OC.get_ok p2 v2 hnum true
                · rw [if_neg k2] at ho
                  rw [ho] at hl; cases hl
            · have hn : ¬ j < vs0.length := by omega
              simp only [if_neg hn]
              have hlt := (List.getElem?_eq_some_iff.1 ho).1
              have hs : σ[j - vs0.length]? = some (σ[j - vs0.length]'(by omega)) := List.getElem?_eq_getElem (by omega)
              obtain ⟨q, q1, p, p1, p2⟩ := ox.get _ _ hs
              rw [mkO_cos, List.getElem?_map, q1] at ho
              have ho := (Option.some.inj ho).symm
              subst ho
              obtain ⟨u, u1, u2⟩ := hnv _ _ hs
              obtain ⟨v, v1, v2⟩ := g2.at p1
              rw [u2] at v1; cases v1
              have hd : σ.getD (j - vs0.length) 0 = σ[j - vs0.length]'(by omega) := by simp [List.getD, hs]
              refine ⟨p, u, by rw [hd]; exact p1, OC.get_live p2, by rw [hd]; exact u2, ?_, ?_⟩
              · rw [List.getElem?_append_right hge]; exact u1
              · exact OC.get_ok p2 v2 hnum false
          · rcases hcv j o hj with ⟨hlt, o0, ho0, ho⟩ | ⟨hge, ho⟩
            · by_cases k1 : ks.getD j 0 = 1
              · rw [if_pos k1] at ho
                subst ho
                obtain ⟨_, c, w, _, rfl⟩ := mkO_mk (List.mem_of_getElem? ho0)
                rw [OC.mk_live] at hl; cases hl
              · rw [if_neg k1] at ho
                by_cases k2 : ks.getD j 0 = 2
                · rw [if_pos k2] at ho
                  rcases updOf_mk (X := X) (its := xx.outs) (x := y') (j := j) with hd | ⟨_, c, w, _, hd⟩
                  · rw [ho, hd]; trivial
                  · rw [ho, hd, OC.mkr_live] at hl; cases hl
                · rw [if_neg k2] at ho
                  rw [ho]; trivial
            · obtain ⟨_, c, w, _, rfl⟩ := mkO_mk (List.mem_of_getElem? ho)
              rw [OC.mk_live] at hl; cases hl
          · have dead : ∀ (i j : Nat) (o p : Ob D), i < vs0.length → vs0.length ≤ j → (postO X ks (mkO X ins x) xx.outs y')[i]? = some o → (postO X ks (mkO X ins x) xx.outs y')[j]? = some p → o.live = true → i = σ.getD (j - vs0.length) 0 → False := by
              intro i j o p hi2 hj2 ho hp hlo hij
              rcases hcv j p hp with ⟨hlt, _⟩ | ⟨_, hp'⟩
              · omega
              · have hlt := (List.getElem?_eq_some_iff.1 hp').1
                have hs : σ[j - vs0.length]? = some (σ[j - vs0.length]'(by omega)) := List.getElem?_eq_getElem (by omega)
                have hd : σ.getD (j - vs0.length) 0 = σ[j - vs0.length]'(by omega) := by simp [List.getD, hs]
                have hm : i ∈ σ := by rw [hij, hd]; exact List.getElem_mem _
                have := List.all_eq_true.1 c2 i hm
                simp only [Bool.or_eq_true] at this
                have hks : ks.getD i 0 = 0 := by
                  rcases this with h1 | h1
                  · have := Nat.le_of_ble_eq_true h1; omega
                  · exact Nat.eq_of_beq_eq_true h1
                rcases hcv i o ho with ⟨_, o0, _, ho'⟩ | ⟨hge, _⟩
                · rw [hks] at ho'
                  simp at ho'
                  rw [ho'] at hlo; cases hlo
                · omega
            by_cases h1 : i < vs0.length
            · by_cases h2 : j < vs0.length
              · simpa [h1, h2] using hij
              · simp only [if_pos h1, if_neg h2] at hij
                exact (dead i j o p h1 (by omega) hi' hj hli hij).elim
            · by_cases h2 : j < vs0.length
              · simp only [if_neg h1, if_pos h2] at hij
                exact (dead j i p o h2 (by omega) hj hi' hlj hij.symm).elim
              · simp only [if_neg h1, if_neg h2] at hij
                rcases hcv i o hi' with ⟨hlt, _⟩ | ⟨_, hi2⟩
                · omega
                · rcases hcv j p hj with ⟨hlt, _⟩ | ⟨_, hj2⟩
                  · omega
                  · have hlt1 := (List.getElem?_eq_some_iff.1 hi2).1
                    have hlt2 := (List.getElem?_eq_some_iff.1 hj2).1
                    have s1 : σ[i - vs0.length]? = some (σ.getD (i - vs0.length) 0) := by rw [List.getElem?_eq_getElem (by omega)]; simp [List.getD, List.getElem?_eq_getElem (show i - vs0.length < σ.length by omega)]
                    have s2 : σ[j - vs0.length]? = some (σ.getD (j - vs0.length) 0) := by rw [List.getElem?_eq_getElem (by omega)]; simp [List.getD, List.getElem?_eq_getElem (show j - vs0.length < σ.length by omega)]
                    rw [hij] at s1
                    have := nodupB_get c1 _ _ _ s1 s2
                    omega
        · intro p hp
          rcases List.mem_append.1 hp with hp | hp
          · refine rdB_v (fun j i u hj hu => ?_) hb g3 p hp
            by_cases hlt : j < vs0.length
            · rw [List.getElem?_append_left (by simpa using hlt)] at hj
              rw [List.getElem?_range hlt] at hj
              cases hj
              exact hleft j u hlt hu
            · rw [List.getElem?_append_right (by simpa using hlt)] at hj
              rw [List.length_range] at hj
              obtain ⟨u', h1, h2⟩ := hnv _ _ hj
              rw [hu] at h2; cases h2
              show (vs0 ++ _)[j]? = _
              rw [List.getElem?_append_right (by omega)]
              exact h1
          · have ht := List.all_eq_true.1 c4 p hp
            have := fxT_ok (X := X) (z := z1) (vs := vs) (vs' := vs0 ++ σ.map fun i => vs.getD i undef) id ht ((hE.mono g1.le fun _ _ h => h) p.1) fun j i u hj hu => by
              by_cases hlt : j < vs0.length
              · rw [List.getElem?_append_left (by simpa using hlt)] at hj
                rw [List.getElem?_range hlt] at hj
                cases hj
                exact hleft j u hlt hu
              · rw [List.getElem?_append_right (by simpa using hlt)] at hj
                rw [List.length_range] at hj
                obtain ⟨u', h1, h2⟩ := hnv _ _ hj
                rw [hu] at h2; cases h2
                show (vs0 ++ _)[j]? = _
                rw [List.getElem?_append_right (by omega)]
                exact h1
            rwa [rnS_id] at this
      · cases h
    · cases h
  · cases h
theorem post_of {ins : List It} {ks : List Nat} {x : inT D ins} {xx : Ex D} {y : outT D xx.outs} {vs0 : List Value} (hi : Inv (mkO X ins x) O) (hv : ∀ (i : Nat) (u : Value), vs0[i]? = some u → vs[i]? = some u) (hl0 : vs0.length = (mkO X ins x).length)
    (hM : Mm X.G O z e m k vs) (hE : Rl X z vs E fr) (h : rdX X vs0.length ks xx E O = some y) :
    ∃ z' nv, Zx e.next z z' ∧ Mm X.G (postO X ks (mkO X ins x) xx.outs (ofOut _ y)) z' e m k (vs0 ++ nv) ∧ ∀ p ∈ mkE X xx.outs (ofOut _ y) ++ xx.fx, rel X.G z' (vs0 ++ nv) p.2 (fr p.1) := by
  obtain ⟨vs', g1, g2, g3, g4⟩ := ownA_ok (its := xx.outs) hM hE
  unfold rdX at h
  split at h
  · rename_i O0 hf
    obtain ⟨z1, k0, k1, k2⟩ := frzB_ok g3 hf
    obtain ⟨z2, nv, q0, q1, q2⟩ := post_ofI ((hi.trans g1).trans k0) (fun i u hu => g2 i u (hv i u hu)) hl0 k2 (g4.mono k1.le fun _ _ h => h) h
    exact ⟨z2, nv, k1.trans q0, q1, q2⟩
  · cases h
end
end
end Go.AM
end
section
set_option linter.unusedSimpArgs false
set_option linter.unusedVariables false
namespace Go.AM
structure PD (D : Nat → Type) where
  path : List Nat
  ins : List It
  fx : List (Nat × SV D)
  ks : List Nat
  exs : List (Ex D)
  keep : List Nat
noncomputable section
section
variable {P : Program} {D : Nat → Type}
def PD.F (p : PD D) : Type := inT D p.ins → Option (sumT p.exs)
def nO : List It → Nat
  | [] => 0
  | .o _ _ :: its => nO its + 1
  | _ :: its => nO its
def simpS : SV D → Bool
  | .c (.own _) | .box _ _ | .arr _ | .c .nilS | .c .nilP | .c .nilM | .undef | .un | .c (.int _ _) | .c (.bool _) | .fn _ [] => true
  | _ => false
def refS : SV D → Option Nat
  | .c (.own j) | .box j _ | .arr j => some j
  | _ => none
def fxOk (n : Nat) (ks : List Nat) (s : SV D) : Bool := simpS s && match refS s with | some j => Nat.ble n j || !Nat.beq (ks.getD j 0) 0 | none => true
def posOf : List Nat → Nat → Option Nat
  | [], _ => none
  | a :: σ, i => if Nat.beq a i = true then some 0 else (match posOf σ i with | some j => some (j + 1) | none => none)
variable (X : Ev P D)
def turnO (τ : Nat → Nat) (σ ks : List Nat) (outs : List It) (y : inT D outs) : Nat → List (Ob D) → List (Ob D)
  | _, [] => []
  | i, o :: O => (match posOf σ i with | some j => (if ks.getD j 0 = 1 then o else if ks.getD j 0 = 2 then updOf X τ outs y j else .dead) | none => if o.live = true then .dead else o) :: turnO τ σ ks outs y (i + 1) O
def mkOr (τ : Nat → Nat) : (its : List It) → inT D its → List (Ob D)
  | [], _ => []
  | .o _ c :: its, x => OC.mkr X τ c x.1 false :: mkOr τ its x.2
  | .v _ _ :: its, x => mkOr τ its x.2
  | .u _ _ :: its, x => mkOr τ its x.2
def num (σ : List Nat) (n N : Nat) (j : Nat) : Nat := if Nat.blt j n = true then σ.getD j 0 else N + (j - n)
def actE (p : PD D) (σ : List Nat) (N : Nat) (xx : Ex D) (y : inT D xx.outs) (E : List (Nat × SV D)) : List (Nat × SV D) :=
  mkE X xx.outs y ++ ((xx.fx.map fun q => (q.1, rnS (num σ (nO p.ins) N) q.2)) ++ p.keep.map fun d => (d, lkE E d))
def actO (p : PD D) (σ : List Nat) (O2 : List (Ob D)) (xx : Ex D) (y : inT D xx.outs) : List (Ob D) := turnO X (num σ (nO p.ins) O2.length) σ p.ks xx.outs y 0 O2 ++ mkOr X (num σ (nO p.ins) O2.length) xx.outs y
def PD.runI (p : PD D) (F : p.F) (E : List (Nat × SV D)) (O : List (Ob D)) {ρ : Type} (K : AExit → List (Nat × SV D) → List (Ob D) → Option ρ) : Option ρ :=
  match rdIn X p.ins p.fx E O with
  | some (x, σ, O2) => Option.bind (F x) fun res => atEx p.exs res fun xx y => K xx.ex (actE X p σ O2.length xx (ofOut _ y) E) (actO X p σ O2 xx (ofOut _ y))
  | none => none
def PD.run (p : PD D) (F : p.F) (E : List (Nat × SV D)) (O : List (Ob D)) {ρ : Type} (K : AExit → List (Nat × SV D) → List (Ob D) → Option ρ) : Option ρ := p.runI X F (ownA p.ins E O).1 (ownA p.ins E O).2 K
def PD.pc (p : PD D) (F : p.F) : Pc D where
  path := p.path
  fits := fun E O => (rdIn X p.ins p.fx (ownA p.ins E O).1 (ownA p.ins E O).2).isSome
  run := fun E O {_} K => p.run X F E O K
def okN (n : Nat) (ks : List Nat) (r : Nat) : Bool := Nat.ble n r || !Nat.beq (ks.getD r 0) 0
def kInsOk (n : Nat) (ks : List Nat) : Nat → List It → Bool
  | _, [] => true
  | j, .o _ c :: its => (!Nat.beq (ks.getD j 0) 1 || c.nums.all (okN n ks)) && kInsOk n ks (j + 1) its
  | j, _ :: its => kInsOk n ks j its
def PD.chk (B : Code) (p : PD D) : Bool := ((p.exs.all fun xx => xx.outs.all fun i => i.nc && i.nums.all (okN (nO p.ins) p.ks)) && kInsOk (nO p.ins) p.ks 0 p.ins) && (p.exs.all (fun xx => xx.fx.all fun q => fxOk (nO p.ins) p.ks q.2) && p.keep.all fun d => !(writes (sub B p.path)).contains d)
def lpOk : Nat → List Nat → List Nat → List (Ob D) → Bool
  | _, [], _, _ => true
  | j, k :: ks, σ, O => (if k = 0 then true else optB (σ[j]?) j && (if k = 1 then (match O[j]? with | some o => !o.tch | none => false) else true)) && lpOk (j + 1) ks σ O
def loopK (p : PD D) (F : p.F) (ex : AExit) (E : List (Nat × SV D)) (O : List (Ob D)) : Option (sumT p.exs) :=
  if ex = .normal then
    match rdIn X p.ins p.fx (ownA p.ins E O).1 (ownA p.ins E O).2 with
    | some (x, σ, O2) => if lpOk 0 p.ks σ O2 = true then F x else none
    | none => none
  else rdEx X (nO p.ins) p.ks p.exs ex E O
end
section
variable {P : Program} {D : Nat → Type} {X : Ev P D} {z z' : Nat → Blk} {e m m' : Mem} {k : Option Nat} {vs vs' : List Value} {fr : Nat → Value} {E : List (Nat × SV D)} {O O' : List (Ob D)}
theorem okN_ok {n : Nat} {ks : List Nat} {r : Nat} (h : okN n ks r = true) : n ≤ r ∨ ks.getD r 0 ≠ 0 := by
  simp only [okN, Bool.or_eq_true, Bool.not_eq_true'] at h
  rcases h with h | h
  · exact .inl (Nat.le_of_ble_eq_true h)
  · refine .inr fun hh => ?_
    rw [hh] at h; cases h
theorem kInsOk_ok {n : Nat} {ks : List Nat} : ∀ {its : List It} {x : inT D its} {i j : Nat} {q : CO D}, kInsOk n ks i its = true → (cos its x)[j]? = some q → ks.getD (i + j) 0 = 1 → ∀ r ∈ q.c.nums, n ≤ r ∨ ks.getD r 0 ≠ 0
  | [], _, _, _, _, _, h, _ => by simp [cos] at h
  | .v d c :: its, x, i, j, q, hk, h, h1 => kInsOk_ok (its := its) (x := x.2) hk h h1
  | .u d c :: its, x, i, j, q, hk, h, h1 => kInsOk_ok (its := its) (x := x.2) hk h h1
  | .o d c :: its, x, i, 0, q, hk, h, h1 => by
    simp only [cos, List.getElem?_cons_zero] at h
    cases h
    simp only [kInsOk, Bool.and_eq_true] at hk
    intro r hr
    have h2 := hk.1
    rw [Nat.add_zero] at h1
    rw [h1] at h2
    exact okN_ok (List.all_eq_true.1 (by simpa using h2) r hr)
  | .o d c :: its, x, i, j + 1, q, hk, h, h1 => by
    simp only [cos, List.getElem?_cons_succ] at h
    simp only [kInsOk, Bool.and_eq_true] at hk
    exact kInsOk_ok (its := its) (x := x.2) hk.2 h (by rw [← h1]; congr 1; omega)
theorem ownG_ext {τ τ' : Nat → Nat} {l : List (Nat × Nat)} (h : ∀ p ∈ l, τ p.2 = τ' p.2) : ∀ {cs : List (CV D)} {i : Nat}, ownG τ l i cs = ownG τ' l i cs
  | [], _ => rfl
  | c :: cs, i => by
    simp only [ownG, ownG_ext h (cs := cs)]
    congr 1
    cases hf : fndN l i with
    | none => rfl
    | some n => simp only; rw [h _ (fndN_mem hf)]
theorem mkr_ext {τ τ' : Nat → Nat} {c : OC} {x : c.ty D} {w : Bool} (h : ∀ r ∈ c.nums, τ r = τ' r) : OC.mkr X τ c x w = OC.mkr X τ' c x w := by
  cases c with
  | bx t l =>
    simp only [OC.mkr]
    rw [ownG_ext fun p hp => h p.2 (List.mem_map.2 ⟨p, hp, rfl⟩)]
  | _ => rfl
theorem mkOr_cos {τ : Nat → Nat} : ∀ {its : List It} {x : inT D its}, mkOr X τ its x = (cos its x).map fun q => OC.mkr X τ q.c q.x false
  | [], _ => rfl
  | .o d c :: its, x => by
    show OC.mkr X τ c x.1 false :: mkOr X τ its x.2 = OC.mkr X τ c x.1 false :: (cos its x.2).map _
    rw [mkOr_cos]
  | .v d c :: its, x => mkOr_cos (its := its)
  | .u d c :: its, x => mkOr_cos (its := its)
theorem mkO_len : ∀ {its : List It} {x : inT D its}, (mkO X its x).length = nO its
  | [], _ => rfl
  | .v _ _ :: its, x => mkO_len (its := its)
  | .u _ _ :: its, x => mkO_len (its := its)
  | .o _ _ :: its, x => by
    show ((mkO X its x.2).length + 1) = nO its + 1
    rw [mkO_len]
def PostC (X : Ev P D) (p : PD D) (x : inT D p.ins) (res : sumT p.exs) (z : Nat → Blk) (e : Mem) (k : Option Nat) (vs0 : List Value) (ex : AExit) (fr' : Nat → Value) (m' : Mem) : Prop :=
  ∃ z' nv xx y, xx ∈ p.exs ∧ ex = xx.ex ∧ (∀ {α : Type} (K : (x : Ex D) → outT D x.outs → α), atEx p.exs res K = K xx y) ∧ Zx e.next z z' ∧
    Mm X.G (postO X p.ks (mkO X p.ins x) xx.outs (ofOut _ y)) z' e m' k (vs0 ++ nv) ∧ ∀ q ∈ mkE X xx.outs (ofOut _ y) ++ xx.fx, rel X.G z' (vs0 ++ nv) q.2 (fr' q.1)
def CC (X : Ev P D) (B : Code) (p : PD D) (F : p.F) : Prop := ∀ (x : inT D p.ins) (res : sumT p.exs) {z : Nat → Blk} {e m : Mem} {k : Option Nat} {vs0 : List Value} {fr : Nat → Value},
  F x = some res → Mm X.G (mkO X p.ins x) z e m k vs0 → Rl X z vs0 (mkE X p.ins x ++ p.fx) fr → W P (sub B p.path) (PostC X p x res z e k vs0) fr m
theorem CC.of (hC : COk X) {B : Code} {us : List (Pc D)} {p : PD D} {F : p.F} (hus : ∀ u ∈ us, p.path.length < u.path.length → PcOk X B u)
    (heq : ∀ x, exC X us calm true p.path.reverse (sub B p.path) (mkE X p.ins x ++ p.fx) (mkO X p.ins x) (rdEx X (nO p.ins) p.ks p.exs) = F x) : CC X B p F := by
  intro x res z e m k vs0 fr hF hM hE
  have h := heq x
  rw [hF] at h
  have hn : vs0.length = nO p.ins := by rw [hM.len, mkO_len]
  refine (exC_ok hC (L := p.path.length) hus (sub B p.path) true p.path.reverse _ _ _ res (by rw [List.reverse_reverse]) (by simp) (by simp) hM hE h).mono ?_
  rintro ex fr1 m1 ⟨z1, vs1, E1, O1, h0, h1, h2, h3, h4, h5⟩
  obtain ⟨xx, y, g1, g2, g3, g4⟩ := rdEx_some h5
  obtain ⟨z2, nv, k1, k2, k3⟩ := post_of (ks := p.ks) (x := x) h0 h2 hM.len h3 h4 (by rw [hn]; exact g3)
  exact ⟨z2, nv, xx, y, g1, g2, g4, h1.trans k1, k2, k3⟩
theorem rn_ok {s : SV D} {v : Value} {τ : Nat → Nat} (h : simpS s = true) (hr : rel X.G z vs s v) (hv : ∀ (j : Nat) (u : Value), refS s = some j → vs[j]? = some u → vs'[τ j]? = some u) : rel X.G z vs' (rnS τ s) v := by
  unfold simpS at h
  split at h
  · exact ⟨hv _ _ rfl hr.1, hr.2⟩
  · obtain ⟨b, h1, h2⟩ := hr; exact ⟨b, hv _ _ rfl h1, h2⟩
  · obtain ⟨b, l, h1, h2⟩ := hr; exact ⟨b, l, hv _ _ rfl h1, h2⟩
  · exact hr
  · exact hr
  · exact hr
  · exact hr
  · exact hr
  · exact hr
  · exact hr
  · obtain ⟨gs, h1, h2⟩ := hr
    refine ⟨gs, h1, ?_⟩
    cases gs with
    | nil => trivial
    | cons _ _ => exact h2.elim
  · cases h
theorem fxOk_ok {n : Nat} {ks : List Nat} {s : SV D} (h : fxOk n ks s = true) : simpS s = true ∧ ∀ j, refS s = some j → n ≤ j ∨ ks.getD j 0 ≠ 0 := by
  simp only [fxOk, Bool.and_eq_true] at h
  refine ⟨h.1, fun j hj => ?_⟩
  have h2 := h.2
  rw [hj] at h2
  simp only [Bool.or_eq_true, Bool.not_eq_true'] at h2
  rcases h2 with h2 | h2
  · exact .inl (Nat.le_of_ble_eq_true h2)
  · refine .inr fun hh => ?_
    rw [hh] at h2; cases h2
theorem lpOk_ok : ∀ {ks : List Nat} {i j : Nat} {σ : List Nat}, lpOk i ks σ O = true → ks.getD j 0 ≠ 0 → σ[i + j]? = some (i + j) ∧ (ks.getD j 0 = 1 → ∃ o, O[i + j]? = some o ∧ o.tch = false)
  | [], i, j, σ, _, h => by simp at h
  | k :: ks, i, 0, σ, hk, h => by
    simp only [lpOk, Bool.and_eq_true] at hk
    simp only [List.getD_cons_zero] at h ⊢
    have h1 := hk.1
    rw [if_neg h] at h1
    simp only [Bool.and_eq_true] at h1
    refine ⟨optB_eq h1.1, fun k1 => ?_⟩
    have h2 := h1.2
    rw [if_pos k1] at h2
    split at h2
    · rename_i o ho
      exact ⟨o, ho, by simpa using h2⟩
    · cases h2
  | k :: ks, i, j + 1, σ, hk, h => by
    simp only [lpOk, Bool.and_eq_true] at hk
    simp only [List.getD_cons_succ] at h ⊢
    have := lpOk_ok hk.2 h
    rw [show i + (j + 1) = i + 1 + j by omega]
    exact this
theorem pO_eq {outs : List It} {y : inT D outs} {ks : List Nat} {A B : List (Ob D)} (hl : A.length = B.length) (h : ∀ j, ks.getD j 0 = 1 → A[j]? = B[j]?) : pO X outs y 0 ks A = pO X outs y 0 ks B := by
  apply List.ext_getElem?
  intro j
  by_cases hj : j < A.length
  · have a : A[j]? = some A[j] := List.getElem?_eq_getElem hj
    have b : B[j]? = some (B[j]'(by omega)) := List.getElem?_eq_getElem (by omega)
    rw [pO_get a, pO_get b]
    by_cases k1 : ks.getD j 0 = 1
    · have e := h j k1
      rw [a, b] at e
      rw [if_pos k1, if_pos k1, Option.some.inj e]
    · rw [if_neg k1, if_neg k1]
  · rw [List.getElem?_eq_none (by rw [pO_len]; omega), List.getElem?_eq_none (by rw [pO_len]; omega)]
theorem CC.loop (hC : COk X) {B c : Code} {us : List (Pc D)} {p : PD D} {F : Nat → p.F} (hB : sub B p.path = .loop c) (hk : p.chk B = true) (hus : ∀ u ∈ us, p.path.length + 1 < u.path.length → PcOk X B u) (h0 : ∀ x, F 0 x = none)
    (heq : ∀ n x, exC X us calm true (0 :: p.path.reverse) c (mkE X p.ins x ++ p.fx) (mkO X p.ins x) (loopK X p (F n)) = F (n + 1) x) : ∀ n, CC X B p (F n) := by
  intro n
  induction n with
  | zero => intro x res z e m k vs0 fr hF; rw [h0] at hF; cases hF
  | succ n ih =>
    intro x res z e m k vs0 fr hF hM hE
    have h := heq n x
    rw [hF] at h
    rw [hB]
    have hn : vs0.length = nO p.ins := by rw [hM.len, mkO_len]
    refine W.loop1 ((exC_ok hC (L := p.path.length + 1) hus c true (0 :: p.path.reverse) _ _ _ res (by rw [List.reverse_cons, List.reverse_reverse, ← sub_app, hB]; exact sub_nil c) (by simp) (by simp) hM hE h).mono ?_)
    rintro ex fr1 m1 ⟨z1, vs1, E1, O1, h0, h1, h2, h3, h4, h5⟩
    have other : rdEx X (nO p.ins) p.ks p.exs ex E1 O1 = some res → PostC X p x res z e k vs0 ex fr1 m1 := by
      intro h5
      obtain ⟨xx, y, g1, g2, g3, g4⟩ := rdEx_some h5
      obtain ⟨z2, nv, k1, k2, k3⟩ := post_of (ks := p.ks) (x := x) h0 h2 hM.len h3 h4 (by rw [hn]; exact g3)
      exact ⟨z2, nv, xx, y, g1, g2, g4, h1.trans k1, k2, k3⟩
    cases ex with
    | exit i => exact other h5
    | ret => exact other h5
    | normal =>
      show W P (.loop c) _ fr1 m1
      have h5 : (match rdIn X p.ins p.fx (ownA p.ins E1 O1).1 (ownA p.ins E1 O1).2 with
        | some (x, σ, O2) => if lpOk 0 p.ks σ O2 = true then F n x else none
        | none => none) = some res := h5
      split at h5
      · rename_i x' σ O2 hr
        obtain ⟨hlp, hF'⟩ := ite_some h5
        obtain ⟨vs1', w1, w2, w3, w4⟩ := ownA_ok (its := p.ins) h3 h4
        obtain ⟨z2, vs2, i1, i2, en⟩ := entry w3 w4 hr
        have i1 := w1.trans i1
        have h2 : ∀ (i : Nat) (u : Value), vs0[i]? = some u → vs1'[i]? = some u := fun i u hu => w2 i u (h2 i u hu)
        have hgo := ih x' res hF' en.mm0 en.rl
        rw [hB] at hgo
        refine hgo.mono ?_
        rintro ex fr2 m2 ⟨z3, nv, xx, y, g1, g2, g3, g4, g5, g6⟩
        have same : ∀ j, p.ks.getD j 0 ≠ 0 → ∀ u, vs2[j]? = some u → vs0[j]? = some u := by
          intro j hj u hu
          obtain ⟨s1, _⟩ := lpOk_ok hlp hj
          rw [Nat.zero_add] at s1
          obtain ⟨u', t1, t2⟩ := en.nv _ _ s1
          rw [hu] at t1; cases t1
          have hlt : j < vs0.length := by
            have := (List.getElem?_eq_some_iff.1 hu).1
            rw [en.len, en.oy.length, ← List.length_map (f := fun q => OC.mk X q.c q.x false), ← mkO_cos, mkO_len] at this
            omega
          have := h2 j _ (List.getElem?_eq_getElem hlt)
          rw [t2] at this; cases this
          exact List.getElem?_eq_getElem hlt
        have hl2 : vs2.length = vs0.length := by rw [en.len, en.oy.length, ← List.length_map (f := fun q => OC.mk X q.c q.x false), ← mkO_cos, mkO_len, hn]
        have same' : ∀ (j : Nat) (u : Value), nO p.ins ≤ j ∨ p.ks.getD j 0 ≠ 0 → (vs2 ++ nv)[j]? = some u → (vs0 ++ nv)[j]? = some u := by
          intro j u hj hu
          by_cases hlt : j < vs0.length
          · rw [List.getElem?_append_left (by omega)] at hu ⊢
            rcases hj with hj | hj
            · omega
            · exact same j hj u hu
          · rw [List.getElem?_append_right (by omega)] at hu ⊢
            rw [hl2] at hu; exact hu
        have hk0 := hk
        simp only [PD.chk, Bool.and_eq_true] at hk0
        have hko := hk0.1.1
        have hki := hk0.1.2
        have hpo : pO X xx.outs (ofOut _ y) 0 p.ks (mkO X p.ins x') = pO X xx.outs (ofOut _ y) 0 p.ks (mkO X p.ins x) := by
          refine pO_eq (by rw [mkO_len, mkO_len]) fun j hj => ?_
          obtain ⟨s1, s2⟩ := lpOk_ok hlp (show p.ks.getD j 0 ≠ 0 by rw [hj]; simp)
          obtain ⟨o, o1, o2⟩ := s2 hj
          rw [Nat.zero_add] at s1 o1
          obtain ⟨q, q1, w, q2⟩ := en.oy.get j j s1
          rw [o1] at q2
          have q2 := Option.some.inj q2
          subst q2
          rw [OC.mkr_tch] at o2
          subst o2
          have q1' : (mkO X p.ins x')[j]? = some (OC.mk X q.c q.x false) := by rw [mkO_cos, List.getElem?_map, q1]; rfl
          have hjl : j < (mkO X p.ins x).length := by rw [mkO_len, ← mkO_len (X := X) (x := x')]; exact (List.getElem?_eq_some_iff.1 q1').1
          have old := (h0.trans i1).old j _ hjl o1 OC.mkr_live OC.mkr_tch
          rw [q1', old]
          refine congrArg some (mkr_ext fun r hr => ?_)
          obtain ⟨ir, hir⟩ := en.gt q (List.mem_of_getElem? q1) r hr
          have hrl : r < nO p.ins := by
            have := (List.getElem?_eq_some_iff.1 hir).1
            rw [en.oy.length, ← List.length_map (f := fun q => OC.mk X q.c q.x false), ← mkO_cos, mkO_len] at this
            exact this
          rcases kInsOk_ok (i := 0) hki q1 (by rw [Nat.zero_add]; exact hj) r hr with h | h
          · omega
          · obtain ⟨s3, _⟩ := lpOk_ok hlp h
            rw [Nat.zero_add] at s3
            simp [List.getD, s3]
        have hfx : ∀ q ∈ xx.fx, fxOk (nO p.ins) p.ks q.2 = true := by
          exact fun q hq => List.all_eq_true.1 (List.all_eq_true.1 hk0.2.1 xx g1) q hq
        have hout : ∀ i ∈ xx.outs, ∀ r ∈ i.nums, nO p.ins ≤ r ∨ p.ks.getD r 0 ≠ 0 := fun i hi r hr => okN_ok (List.all_eq_true.1 (Bool.and_eq_true_iff.1 (List.all_eq_true.1 (List.all_eq_true.1 hko xx g1) i hi)).2 r hr)
        refine ⟨z3, nv, xx, y, g1, g2, g3, (h1.trans i2).trans g4, ?_, fun q hq => ?_⟩
        · have hpost : postO X p.ks (mkO X p.ins x') xx.outs (ofOut _ y) = postO X p.ks (mkO X p.ins x) xx.outs (ofOut _ y) := by rw [postO, postO, hpo]
          rw [hpost] at g5
          have key : ∀ (i : Nat) (o : Ob D), (postO X p.ks (mkO X p.ins x) xx.outs (ofOut _ y))[i]? = some o → o.live = true → (nO p.ins ≤ i ∨ p.ks.getD i 0 ≠ 0) := by
            intro i o ho hl
            by_cases hlt : i < nO p.ins
            · refine .inr fun hks => ?_
              unfold postO at ho
              rw [List.getElem?_append_left (by rw [pO_len, mkO_len]; exact hlt)] at ho
              have hs : (mkO X p.ins x)[i]? = some ((mkO X p.ins x)[i]'(by rw [mkO_len]; exact hlt)) := List.getElem?_eq_getElem _
              rw [pO_get hs, hks] at ho
              simp at ho
              subst ho; cases hl
            · exact .inl (by omega)
          have mk : ∀ (i : Nat) (o : Ob D), (postO X p.ks (mkO X p.ins x) xx.outs (ofOut _ y))[i]? = some o → o = .dead ∨ ∃ c a w, o = OC.mk X c a w ∧ ∀ r ∈ c.nums, nO p.ins ≤ r ∨ p.ks.getD r 0 ≠ 0 := by
            intro i o ho
            unfold postO at ho
            by_cases hlt : i < nO p.ins
            · rw [List.getElem?_append_left (by rw [pO_len, mkO_len]; exact hlt)] at ho
              have hs : (mkO X p.ins x)[i]? = some ((mkO X p.ins x)[i]'(by rw [mkO_len]; exact hlt)) := List.getElem?_eq_getElem _
              rw [pO_get hs] at ho
              have ho := (Option.some.inj ho).symm
              by_cases k1 : p.ks.getD i 0 = 1
              · rw [if_pos k1] at ho
                have hs' : (mkO X p.ins x)[i]? = some o := by rw [ho]; exact hs
                rw [mkO_cos, List.getElem?_map] at hs'
                obtain ⟨q, hq, he⟩ := Option.map_eq_some_iff.1 hs'
                exact .inr ⟨q.c, q.x, false, he.symm, kInsOk_ok (i := 0) hki hq (by rw [Nat.zero_add]; exact k1)⟩
              · rw [if_neg k1] at ho
                by_cases k2 : p.ks.getD i 0 = 2
                · rw [if_pos k2] at ho
                  rcases updOf_mk (X := X) (its := xx.outs) (x := ofOut _ y) (j := 0 + i) with hd | ⟨d, c, a, hd, he⟩
                  · exact .inl (by rw [ho, hd])
                  · exact .inr ⟨c, a, true, by rw [ho, he]; rfl, hout _ hd⟩
                · rw [if_neg k2] at ho; exact .inl ho
            · rw [List.getElem?_append_right (by rw [pO_len, mkO_len]; omega)] at ho
              obtain ⟨d, c, a, hd, hh⟩ := mkO_mk (List.mem_of_getElem? ho)
              exact .inr ⟨c, a, false, hh, hout _ hd⟩
          refine g5.sel (by rw [← g5.len]; simp [hl2]) id (fun i o ho hl => ?_) (fun i o u ho hl hu => ?_) (fun i j _ _ _ _ _ _ h => h)
          · obtain ⟨v, v1, v2⟩ := g5.at ho
            refine ⟨o, v, ho, hl, v1, same' i v (key i o ho hl) v1, ?_⟩
            rcases mk i o ho with rfl | ⟨c, a, w, rfl, hr⟩
            · trivial
            · exact OC.mkr_ok w v2 fun r hr' u hu => same' r u (hr r hr') hu
          · rcases mk i o ho with rfl | ⟨c, a, w, rfl, _⟩
            · trivial
            · rw [OC.mk_live] at hl; cases hl
        · have hr := g6 q hq
          rcases List.mem_append.1 hq with hq | hq
          · obtain ⟨d, c, a, hd, hc⟩ := mkE_mk hq
            rw [hc] at hr ⊢
            exact Cl.mk_vs (Bool.and_eq_true_iff.1 (List.all_eq_true.1 (List.all_eq_true.1 hko xx g1) _ hd)).1 hr
          · obtain ⟨s1, s2⟩ := fxOk_ok (hfx q hq)
            have := rn_ok (X := X) (τ := id) (vs' := vs0 ++ nv) s1 hr fun j u hj hu => same' j u (s2 j hj) hu
            rwa [rnS_id] at this
      · cases h5
theorem posOf_some : ∀ {σ : List Nat} {i j : Nat}, posOf σ i = some j → σ[j]? = some i
  | [], _, _, h => by cases h
  | a :: σ, i, j, h => by
    simp only [posOf] at h
    split at h
    · rename_i ha
      cases h
      rw [Nat.eq_of_beq_eq_true ha]; rfl
    · split at h
      · rename_i j' hj
        cases h
        rw [List.getElem?_cons_succ]
        exact posOf_some hj
      · cases h
theorem turnO_len {τ : Nat → Nat} {σ ks : List Nat} {outs : List It} {y : inT D outs} : ∀ {i : Nat} {O : List (Ob D)}, (turnO X τ σ ks outs y i O).length = O.length
  | i, [] => rfl
  | i, o :: O => by simp [turnO, turnO_len]
theorem turnO_get {τ : Nat → Nat} {σ ks : List Nat} {outs : List It} {y : inT D outs} : ∀ {i : Nat} {O : List (Ob D)} {a : Nat} {o : Ob D}, O[a]? = some o → (turnO X τ σ ks outs y i O)[a]? = some (match posOf σ (i + a) with | some j => (if ks.getD j 0 = 1 then o else if ks.getD j 0 = 2 then updOf X τ outs y j else .dead) | none => if o.live = true then .dead else o)
  | i, [], a, o, h => by simp at h
  | i, p :: O, 0, o, h => by simp at h; subst h; simp [turnO]
  | i, p :: O, a + 1, o, h => by
    simp only [List.getElem?_cons_succ] at h
    have := turnO_get (τ := τ) (σ := σ) (ks := ks) (outs := outs) (y := y) (i := i + 1) h
    simp only [turnO, List.getElem?_cons_succ, this]
    rw [show i + (a + 1) = i + 1 + a by omega]
theorem CC.pcI {B : Code} {p : PD D} {F : p.F} (h : CC X B p F) (hk : p.chk B = true) {ρ : Type} (E : List (Nat × SV D)) (O : List (Ob D)) (K : AExit → List (Nat × SV D) → List (Ob D) → Option ρ) (r : ρ) {z : Nat → Blk} {e m : Mem} {k : Option Nat} {vs : List Value} {fr : Nat → Value}
    (hM : Mm X.G O z e m k vs) (hE : Rl X z vs E fr) (hr : p.runI X F E O K = some r) : W P (sub B p.path) (fun x => Nx X O z e k vs (K x) r) fr m := by
  unfold PD.runI at hr
  split at hr
  · rename_i x σ O2 hi
    obtain ⟨res, hF, hr⟩ := bind_some hr
    obtain ⟨z1, vs0, i1, i2, en⟩ := entry hM hE hi
    simp only [PD.chk, Bool.and_eq_true] at hk
    have hn : σ.length = nO p.ins := by rw [← mkO_len (X := X) (x := x), mkO_cos, List.length_map]; exact en.oy.length
    have hn0 : vs0.length = nO p.ins := by rw [en.len, hn]
    refine (h x res hF en.mm0 en.rl).keep ?_
    rintro ex fr1 m1 hkeep ⟨z2, nv, xx, y, g1, g2, g3, g4, g5, g6⟩
    rw [g3] at hr
    subst g2
    have hnl : nv.length = (mkO X xx.outs (ofOut _ y)).length := by
      have := g5.len
      unfold postO at this
      rw [List.length_append, List.length_append, pO_len, mkO_len] at this
      omega
    have hN : vs.length = O2.length := en.mm.len
    have hext : ∀ (i : Nat) (u : Value), vs[i]? = some u → (vs ++ nv)[i]? = some u := ext_get
    have hnum : ∀ (j : Nat) (u : Value), (vs0 ++ nv)[j]? = some u → (vs ++ nv)[num σ (nO p.ins) O2.length j]? = some u := by
      intro j u hu
      unfold num
      by_cases hlt : j < nO p.ins
      · have hb : Nat.blt j (nO p.ins) = true := by simpa [Nat.blt_eq] using hlt
        rw [if_pos hb]
        rw [List.getElem?_append_left (by omega)] at hu
        have hs : σ[j]? = some (σ.getD j 0) := by rw [List.getElem?_eq_getElem (by omega)]; simp [List.getD, List.getElem?_eq_getElem (show j < σ.length by omega)]
        obtain ⟨u', t1, t2⟩ := en.nv _ _ hs
        rw [hu] at t1; cases t1
        exact hext _ _ t2
      · have hb : ¬ Nat.blt j (nO p.ins) = true := by simpa [Nat.blt_eq] using hlt
        rw [if_neg hb]
        rw [List.getElem?_append_right (by omega), hn0] at hu
        rw [List.getElem?_append_right (by omega), hN]
        rw [show O2.length + (j - nO p.ins) - O2.length = j - nO p.ins by omega]
        exact hu
    -- the objects
    have hcv : ∀ (i : Nat) (o : Ob D), (actO X p σ O2 xx (ofOut _ y))[i]? = some o →
        (i < O2.length ∧ ∃ o2, O2[i]? = some o2 ∧ o = (match posOf σ i with | some j => (if p.ks.getD j 0 = 1 then o2 else if p.ks.getD j 0 = 2 then updOf X (num σ (nO p.ins) O2.length) xx.outs (ofOut _ y) j else .dead) | none => if o2.live = true then .dead else o2)) ∨
        (O2.length ≤ i ∧ (mkOr X (num σ (nO p.ins) O2.length) xx.outs (ofOut _ y))[i - O2.length]? = some o) := by
      intro i o ho
      unfold actO at ho
      by_cases hlt : i < O2.length
      · refine .inl ⟨hlt, ?_⟩
        rw [List.getElem?_append_left (by rw [turnO_len]; exact hlt)] at ho
        have hs : O2[i]? = some O2[i] := List.getElem?_eq_getElem hlt
        rw [turnO_get hs, Nat.zero_add] at ho
        exact ⟨_, hs, (Option.some.inj ho).symm⟩
      · refine .inr ⟨by omega, ?_⟩
        rw [List.getElem?_append_right (by rw [turnO_len]; omega), turnO_len] at ho
        exact ho
    have hpost : ∀ (j : Nat) (o0 : Ob D), (mkO X p.ins x)[j]? = some o0 → (postO X p.ks (mkO X p.ins x) xx.outs (ofOut _ y))[j]? = some (if p.ks.getD j 0 = 1 then o0 else if p.ks.getD j 0 = 2 then updOf X idN xx.outs (ofOut _ y) j else .dead) := by
      intro j o0 hj
      unfold postO
      rw [List.getElem?_append_left (by rw [pO_len]; exact (List.getElem?_eq_some_iff.1 hj).1)]
      have := pO_get (X := X) (outs := xx.outs) (y := ofOut _ y) (i := 0) (ks := p.ks) hj
      rw [Nat.zero_add] at this
      exact this
    have hpost2 : ∀ (i : Nat) (o : Ob D), (mkO X xx.outs (ofOut _ y))[i]? = some o → (postO X p.ks (mkO X p.ins x) xx.outs (ofOut _ y))[nO p.ins + i]? = some o := by
      intro i o ho
      unfold postO
      rw [List.getElem?_append_right (by rw [pO_len, mkO_len]; omega), pO_len, mkO_len, show nO p.ins + i - nO p.ins = i by omega]
      exact ho
    -- what an object that lives was
    have hlv : ∀ (i : Nat) (o : Ob D), (actO X p σ O2 xx (ofOut _ y))[i]? = some o → o.live = true →
        (∃ j, posOf σ i = some j ∧ ((p.ks.getD j 0 = 1 ∧ O2[i]? = some o) ∨ (p.ks.getD j 0 ≠ 1 ∧ p.ks.getD j 0 = 2 ∧ o = updOf X (num σ (nO p.ins) O2.length) xx.outs (ofOut _ y) j))) ∨ (O2.length ≤ i ∧ (mkOr X (num σ (nO p.ins) O2.length) xx.outs (ofOut _ y))[i - O2.length]? = some o) := by
      intro i o ho hl
      rcases hcv i o ho with ⟨hlt, o2, h2, h3⟩ | h
      · left
        cases hp : posOf σ i with
        | some j =>
          rw [hp] at h3
          dsimp only at h3
          refine ⟨j, rfl, ?_⟩
          by_cases k1 : p.ks.getD j 0 = 1
          · rw [if_pos k1] at h3
            exact .inl ⟨k1, by rw [h2, h3]⟩
          · rw [if_neg k1] at h3
            by_cases k2 : p.ks.getD j 0 = 2
            · rw [if_pos k2] at h3; exact .inr ⟨k1, k2, h3⟩
            · rw [if_neg k2] at h3; rw [h3] at hl; cases hl
        | none =>
          rw [hp] at h3
          dsimp only at h3
          by_cases h4 : o2.live = true
          · rw [if_pos h4] at h3; rw [h3] at hl; cases hl
          · rw [if_neg h4] at h3; rw [h3] at hl; exact absurd hl h4
      · exact .inr h
    refine ⟨z2, vs ++ nv, _, _, i1.trans ?_, i2.trans g4, hext, ?_, Rl_of ?_, hr⟩
    · refine ⟨?_, fun i o hi ho hl ht => ?_⟩
      · unfold actO
        rw [List.length_append, turnO_len]
        omega
      · rcases hlv i o ho hl with ⟨j, _, h | ⟨_, _, h⟩⟩ | h
        · exact h.2
        · rcases updOf_mk (X := X) (its := xx.outs) (x := ofOut _ y) (j := j) with hd | ⟨_, c, a, _, hd⟩
          · rw [h, hd] at hl; cases hl
          · rw [h, hd, OC.mkr_tch] at ht; cases ht
        · omega
    · refine g5.sel ?_ (fun i => if i < O2.length then (posOf σ i).getD 0 else nO p.ins + (i - O2.length)) (fun i o ho hl => ?_) (fun i o u ho hl hu => ?_) (fun i j o q hi' hj hli hlj hij => ?_)
      · unfold actO
        rw [List.length_append, List.length_append, turnO_len, hnl, hN, mkOr_cos, mkO_cos, List.length_map, List.length_map]
      · rcases hlv i o ho hl with ⟨j, hp, hc⟩ | ⟨hge, hc⟩
        · have hs := posOf_some hp
          obtain ⟨q, q1', w, q2⟩ := en.oy.get j i hs
          have q1 : (mkO X p.ins x)[j]? = some (OC.mk X q.c q.x false) := by rw [mkO_cos, List.getElem?_map, q1']; rfl
          obtain ⟨u, t1, t2⟩ := en.nv _ _ hs
          have hlt : i < O2.length := (List.getElem?_eq_some_iff.1 q2).1
          simp only [if_pos hlt, hp, Option.getD_some]
          have hpj := hpost j _ q1
          have hu0 : (vs0 ++ nv)[j]? = some u := ext_get _ _ t1
          rcases hc with ⟨k1, hc⟩ | ⟨k1, k2, hc⟩
          · rw [if_pos k1] at hpj
            rw [q2] at hc
            have hc := Option.some.inj hc
            subst hc
            have hob := g5.obj j _ u hpj hu0
            refine ⟨_, u, hpj, OC.mk_live, hu0, hext _ _ t2, OC.mkr_ok w hob fun r hr u' hu' => ?_⟩
            obtain ⟨ir, hir⟩ := en.gt q (List.mem_of_getElem? q1') r hr
            have hlr : r < nO p.ins := by rw [← hn]; exact (List.getElem?_eq_some_iff.1 hir).1
            have := hnum r u' hu'
            unfold num at this
            rwa [if_pos (by simpa [Nat.blt_eq] using hlr)] at this
          · rw [if_neg k1, if_pos k2] at hpj
            have hob := g5.obj j _ u hpj hu0
            rcases updOf_mk (X := X) (its := xx.outs) (x := ofOut _ y) (j := j) with hd | ⟨_, c, a, _, hd⟩
            · rw [hc, hd] at hl; cases hl
            · rw [hd] at hob
              refine ⟨_, u, hpj, by rw [hd]; exact OC.mkr_live, hu0, hext _ _ t2, ?_⟩
              rw [hc, hd]
              exact OC.mkr_ok true hob fun r _ u' hu' => hnum r u' hu'
        · have hnlt : ¬ i < O2.length := by omega
          simp only [if_neg hnlt]
          rw [mkOr_cos, List.getElem?_map] at hc
          obtain ⟨q, hq, rfl⟩ := Option.map_eq_some_iff.1 hc
          have hpj := hpost2 (i - O2.length) (OC.mk X q.c q.x false) (by rw [mkO_cos, List.getElem?_map, hq]; rfl)
          obtain ⟨u, u1, u2⟩ := g5.at hpj
          refine ⟨_, u, hpj, OC.mk_live, u1, ?_, ?_⟩
          · rw [List.getElem?_append_right (by omega), hn0, show nO p.ins + (i - O2.length) - nO p.ins = i - O2.length by omega] at u1
            rw [List.getElem?_append_right (by omega), hN]
            exact u1
          · exact OC.mkr_ok false u2 fun r _ u' hu' => hnum r u' hu'
      · rcases hcv i o ho with ⟨hlt, o2, h2, h3⟩ | ⟨_, h⟩
        · cases hp : posOf σ i with
          | some j =>
            rw [hp] at h3
            dsimp only at h3
            have hs := posOf_some hp
            obtain ⟨q, q1, w, q2⟩ := en.oy.get j i hs
            rw [h2] at q2
            by_cases k1 : p.ks.getD j 0 = 1
            · rw [if_pos k1] at h3
              rw [h3, Option.some.inj q2, OC.mkr_live] at hl; cases hl
            · rw [if_neg k1] at h3
              by_cases k2 : p.ks.getD j 0 = 2
              · rw [if_pos k2] at h3
                rcases updOf_mk (X := X) (its := xx.outs) (x := ofOut _ y) (j := j) with hd | ⟨_, c, a, _, hd⟩
                · rw [h3, hd]; trivial
                · rw [h3, hd, OC.mkr_live] at hl; cases hl
              · rw [if_neg k2] at h3; rw [h3]; trivial
          | none =>
            rw [hp] at h3
            dsimp only at h3
            by_cases h4 : o2.live = true
            · rw [if_pos h4] at h3; rw [h3]; trivial
            · rw [if_neg h4] at h3
              subst h3
              rw [List.getElem?_append_left (by omega)] at hu
              exact (en.mm.obj i o u h2 hu).frozen hl g4.le hext
        · rw [mkOr_cos, List.getElem?_map] at h
          obtain ⟨q, hq, rfl⟩ := Option.map_eq_some_iff.1 h
          rw [OC.mkr_live] at hl; cases hl
      · have one : ∀ (i : Nat) (o : Ob D), (actO X p σ O2 xx (ofOut _ y))[i]? = some o → o.live = true → (i < O2.length ∧ ∃ j, posOf σ i = some j ∧ j < nO p.ins) ∨ O2.length ≤ i := by
          intro i o ho hl
          rcases hlv i o ho hl with ⟨j, hp, _⟩ | ⟨hge, _⟩
          · have hs := posOf_some hp
            obtain ⟨o0, q1, w, q2⟩ := en.oy.get j i hs
            exact .inl ⟨(List.getElem?_eq_some_iff.1 q2).1, j, hp, by have := (List.getElem?_eq_some_iff.1 hs).1; omega⟩
          · exact .inr hge
        rcases one i o hi' hli with ⟨a1, a2, a3, a4⟩ | a1
        · rcases one j q hj hlj with ⟨b1, b2, b3, b4⟩ | b1
          · simp only [if_pos a1, if_pos b1, a3, b3, Option.getD_some] at hij
            subst hij
            have s1 := posOf_some a3
            have s2 := posOf_some b3
            rw [s1] at s2
            exact Option.some.inj s2
          · have hb : ¬ j < O2.length := by omega
            simp only [if_pos a1, if_neg hb, a3, Option.getD_some] at hij
            omega
        · have ha : ¬ i < O2.length := by omega
          rcases one j q hj hlj with ⟨b1, b2, b3, b4⟩ | b1
          · simp only [if_neg ha, if_pos b1, b3, Option.getD_some] at hij
            omega
          · have hb : ¬ j < O2.length := by omega
            simp only [if_neg ha, if_neg hb] at hij
            omega
    · intro q hq
      unfold actE at hq
      rcases List.mem_append.1 hq with hq | hq
      · obtain ⟨d, c, a, hd, hc⟩ := mkE_mk hq
        have := g6 q (List.mem_append.2 (.inl hq))
        rw [hc] at this ⊢
        exact Cl.mk_vs (Bool.and_eq_true_iff.1 (List.all_eq_true.1 (List.all_eq_true.1 hk.1.1 xx g1) _ hd)).1 this
      · rcases List.mem_append.1 hq with hq | hq
        · obtain ⟨q0, hq0, rfl⟩ := List.mem_map.1 hq
          have := g6 q0 (List.mem_append.2 (.inr hq0))
          obtain ⟨s1, _⟩ := fxOk_ok (List.all_eq_true.1 (List.all_eq_true.1 hk.2.1 xx g1) q0 hq0)
          exact rn_ok s1 this fun j u _ hu => hnum j u hu
        · obtain ⟨d, hd, rfl⟩ := List.mem_map.1 hq
          have hw := List.all_eq_true.1 hk.2.2 d hd
          have := hkeep d (by simpa using hw)
          show rel X.G z2 (vs ++ nv) (lkE E d) (fr1 d)
          rw [this]
          exact rel.mono (hE d) (i2.le.trans g4.le) hext
  · cases hr
theorem CC.pc {B : Code} {p : PD D} {F : p.F} (h : CC X B p F) (hk : p.chk B = true) : PcOk X B (p.pc X F) := by
  intro ρ E O K r z e m k vs fr _ hM hE hr
  obtain ⟨vs', g1, g2, g3, g4⟩ := ownA_ok (its := p.ins) hM hE
  exact (h.pcI hk _ _ K r g3 g4 hr).mono fun _ _ _ hn => hn.from g1 (Zx.refl z) g2
end
end
end Go.AM
end
section
set_option linter.unusedSimpArgs false
set_option linter.unusedVariables false
namespace Go.AM
structure FD (D : Nat → Type) where
  f : Nat
  np : Nat
  ins : List It
  fx : List (Nat × SV D)
  rcv : Option (Nat × Nat)
  rk : Nat
  outs : List It
  ofx : List (Nat × SV D)
  rvs : List ResultVar
  flat : Bool
def VB : Nat := 1000000
def resOf : Nat → List ResultVar → List Nat
  | _, [] => []
  | n, .tmp d :: rs => d :: resOf (n + 1) rs
  | n, .cell _ _ :: rs => n :: resOf (n + 1) rs
def FD.res {D : Nat → Type} (d : FD D) : List Nat := resOf VB d.rvs
noncomputable section
section
variable {P : Program} {D : Nat → Type}
def loadB (P : Program) (t : Nat) (a : SV D) (O : List (Ob D)) : Option (SV D) :=
  match a with
  | .box i off =>
    match O[i]? with
    | some (.box _ cs _ _) => loadC (P := P) t cs off some
    | some (.recv _ cs _) => loadC (P := P) t cs off some
    | _ => none
  | _ => none
def rvE (P : Program) (E : List (Nat × SV D)) (O : List (Ob D)) : Nat → List ResultVar → Option (List (Nat × SV D))
  | _, [] => some []
  | n, .tmp d :: rs => if Nat.blt d VB = true then rvE P E O (n + 1) rs else none
  | n, .cell a t :: rs => match loadB P t (lkE E a) O, rvE P E O (n + 1) rs with | some V, some l => some ((n, V) :: l) | _, _ => none
def rT (D : Nat → Type) : Option (Nat × Nat) → Type
  | none => Unit
  | some p => D p.2
def FD.F (d : FD D) : Type := rT D d.rcv → inT D d.ins → Option (outT D d.outs)
variable (X : Ev P D)
def rO : (c : Option (Nat × Nat)) → rT D c → List (Ob D)
  | none, _ => []
  | some p, x => [.recv p.2 (lvX X p.2 x) false]
def rE : Option (Nat × Nat) → List (Nat × SV D)
  | none => []
  | some p => [(p.1, .box 0 0)]
def rks (d : FD D) : List Nat := match d.rcv with | none => [] | some _ => [d.rk]
def FD.xx (d : FD D) : Ex D := ⟨.ret, d.outs, d.ofx⟩
def retK (d : FD D) (ex : AExit) (E : List (Nat × SV D)) (O : List (Ob D)) : Option (outT D d.outs) :=
  if ex = .normal ∨ ex = .ret then Option.bind (rvE P E O VB d.rvs) fun l => rdX X (rks d).length (rks d) d.xx (l ++ E) O else none
def enumE : Nat → List (SV D) → List (Nat × SV D)
  | _, [] => []
  | i, s :: l => (i, s) :: enumE (i + 1) l
def tupE (E : List (Nat × SV D)) : List Nat → Option (List (CV D ⊕ (Nat × List (CV D))))
  | [] => some []
  | d :: ds =>
    match lkE E d, tupE E ds with
    | .c c, some l => some (.inl c :: l)
    | .agg t cs, some l => some (.inr (t, cs) :: l)
    | _, _ => none
def resE (E : List (Nat × SV D)) : List Nat → Option (SV D)
  | [d] => some (lkE E d)
  | ds => match tupE E ds with | some l => some (.tup l) | none => none
def flatC : CV D → Option Value
  | .int k n => some (.int k n)
  | .bool b => some (.bool b)
  | .str s => some (AM.str s)
  | _ => none
def flatL : List (CV D) → Option (List Value)
  | [] => some []
  | c :: cs => match flatC c, flatL cs with | some v, some l => some (v :: l) | _, _ => none
def flatT : List (CV D ⊕ (Nat × List (CV D))) → Option (List Value)
  | [] => some []
  | .inl c :: l => (match flatC c, flatT l with | some v, some vs => some (v :: vs) | _, _ => none)
  | .inr p :: l => (match flatL p.2, flatT l with | some ds, some vs => some (.agg ds.toArray :: vs) | _, _ => none)
def flatS : SV D → Option Value
  | .c c => flatC c
  | .agg _ cs => (match flatL cs with | some ds => some (.agg ds.toArray) | none => none)
  | .tup l => (match flatT l with | some vs => some (.tuple vs.toArray) | none => none)
  | _ => none
def rcvG (t : Nat) : Option (Ob D) → Option (D t)
  | some (.box t' cs false _) => if t' = t then pkX X t cs else none
  | some (.recv t' cs _) => if t' = t then pkX X t cs else none
  | _ => none
def rcvP (t : Nat) (cs : List (CV D)) : Ob D → Ob D
  | .box _ _ _ _ => .box t cs false true
  | _ => .recv t cs true
def newOk : List It → Bool
  | [] => true
  | .o _ (.recv _) :: _ => false
  | .o _ _ :: its => newOk its
  | .v _ c :: its => c.nc && newOk its
  | .u _ _ :: its => newOk its
def num1 (i N j : Nat) : Nat := if Nat.beq j 0 = true then i else N + (j - 1)
def goCall (outs : List It) (ofx : List (Nat × SV D)) (res : List Nat) (flat : Bool) (rk : Nat) (svs : List (SV D)) (O O1 : List (Ob D)) {ρ : Type} (K : SV D → List (Ob D) → Option ρ) : (rcv : Option (Nat × Nat)) → (rT D rcv → Option (outT D outs)) → Option ρ
  | none, G =>
    Option.bind (G ()) fun y =>
      match resE (mkE X outs (ofOut _ y) ++ ofx.map fun q => (q.1, rnS (fun j => O1.length + j) q.2)) res with
      | some sv => if flat = true then (match flatS sv with | some _ => K sv O | none => none) else K sv (O1 ++ mkOr X (fun j => O1.length + j) outs (ofOut _ y))
      | none => none
  | some p, G =>
    match lkE (enumE 0 svs) p.1 with
    | .box i 0 =>
      match O1[i]? with
      | some o =>
        Option.bind (rcvG X p.2 (some o)) fun r =>
        Option.bind (G r) fun y =>
          match resE (mkE X outs (ofOut _ y) ++ ofx.map fun q => (q.1, rnS (num1 i O1.length) q.2)) res with
          | some sv =>
            if rk = 2 then
              match updOf X idN outs (ofOut _ y) 0 with
              | .recv t cs _ => if t = p.2 then K sv (O1.set i (rcvP p.2 cs o) ++ mkOr X (num1 i O1.length) outs (ofOut _ y)) else none
              | _ => none
            else if rk = 1 then (if o.clean = true then K sv (O1 ++ mkOr X (num1 i O1.length) outs (ofOut _ y)) else K sv (O1.set i (rcvP p.2 (lvX X p.2 r) o) ++ mkOr X (num1 i O1.length) outs (ofOut _ y))) else none
          | none => none
      | none => none
    | _ => none
def FD.call (d : FD D) (F : d.F) (svs : List (SV D)) (O : List (Ob D)) {ρ : Type} (K : SV D → List (Ob D) → Option ρ) : Option ρ :=
  if Nat.beq svs.length d.np = true then
    match frzA (enumE 0 svs) d.ins O with
    | some (avs, O1) =>
      if (d.fx.all fun p => fxT [] p.2 (lkE (enumE 0 svs) p.1)) = true then
        match rdB X [] O1 d.ins avs [] with
        | some x => goCall X d.outs d.ofx d.res d.flat d.rk svs O O1 K d.rcv fun r => F r x
        | none => none
      else none
    | none => none
  else none
end
section
variable {P : Program} {D : Nat → Type} {X : Ev P D} {z z1 z2 : Nat → Blk} {e m m1 : Mem} {k q : Option Nat} {vs : List Value} {fr : Nat → Value} {E : List (Nat × SV D)} {O O' : List (Ob D)}
theorem Mm.call (h : Mm X.G O z1 e m k vs) (hz : Zx m.next z1 z2) (s : Same m m1 q) (st : St z2 e m1 k) (hl : O'.length = O.length)
    (ho : ∀ (j : Nat) (o' : Ob D), O'[j]? = some o' → (O[j]? = some o' ∧ (o'.live = true → ∀ v, vs[j]? = some v → Ap (blkV v) q)) ∨ (∃ o, O[j]? = some o ∧ o.live = true ∧ ∀ v, vs[j]? = some v → ObOk X.G z2 e m1 k vs o' v)) : Mm X.G O' z2 e m1 k vs where
  st := st
  len := by rw [hl]; exact h.len
  obj := fun j o' v hj hv => by
    rcases ho j o' hj with ⟨h1, h2⟩ | ⟨o, h1, h2, h3⟩
    · have hob := h.obj j o' v h1 hv
      cases hL : o'.live with
      | false => exact hob.frozen hL hz.le fun _ _ h => h
      | true => exact (hob.same s (fun _ => h2 hL v hv) fun _ _ h => h).zle hz.le (fun _ b hb => hz.low b (hob.lt hL b hb).1) fun _ b j L t hb => hz.low b (h.st.fz b (by rw [hb]; simp)).2
    · exact h3 v hv
  ap := fun a b o p v w hab ha hb la lb hv hw => by
    have key : ∀ (j : Nat) (o' : Ob D), O'[j]? = some o' → o'.live = true → ∃ o, O[j]? = some o ∧ o.live = true := by
      intro j o' hj hl
      rcases ho j o' hj with ⟨h1, _⟩ | ⟨o, h1, h2, _⟩
      · exact ⟨o', h1, hl⟩
      · exact ⟨o, h1, h2⟩
    obtain ⟨o1, g1, g2⟩ := key a o ha la
    obtain ⟨o2, g3, g4⟩ := key b p hb lb
    exact h.ap a b o1 o2 v w hab g1 g3 g2 g4 hv hw
theorem Mm.adds {N : List (Ob D)} {nv : List Value} {lim : Nat} (h : Mm X.G O z e m k vs) (hl : nv.length = N.length)
    (hlt : ∀ (j : Nat) (o : Ob D) (v : Value), O[j]? = some o → vs[j]? = some v → o.live = true → ∀ b, blkV v = some b → b < lim)
    (hn : ∀ (j : Nat) (o : Ob D) (v : Value), N[j]? = some o → nv[j]? = some v → ObOk X.G z e m k (vs ++ nv) o v ∧ ∀ b, blkV v = some b → lim ≤ b)
    (ha : ∀ (i j : Nat) (o p : Ob D) (v w : Value), i ≠ j → N[i]? = some o → N[j]? = some p → nv[i]? = some v → nv[j]? = some w → Ap (blkV v) (blkV w)) : Mm X.G (O ++ N) z e m k (vs ++ nv) := by
  have cs : ∀ (j : Nat) (o : Ob D) (v : Value), (O ++ N)[j]? = some o → (vs ++ nv)[j]? = some v → (j < O.length ∧ O[j]? = some o ∧ vs[j]? = some v) ∨ (O.length ≤ j ∧ N[j - O.length]? = some o ∧ nv[j - O.length]? = some v) := by
    intro j o v ho hv
    by_cases hj : j < O.length
    · rw [List.getElem?_append_left hj] at ho
      rw [List.getElem?_append_left (by rw [h.len]; exact hj)] at hv
      exact .inl ⟨hj, ho, hv⟩
    · rw [List.getElem?_append_right (by omega)] at ho
      rw [List.getElem?_append_right (by rw [h.len]; omega), h.len] at hv
      exact .inr ⟨by omega, ho, hv⟩
  refine ⟨h.st, by rw [List.length_append, List.length_append, h.len, hl], fun j o v ho hv => ?_, fun i j o p v w hij ho hp lo lp hv hw => ?_⟩
  · rcases cs j o v ho hv with ⟨_, h1, h2⟩ | ⟨_, h1, h2⟩
    · exact (h.obj j o v h1 h2).same (m' := m) (q := none) ⟨Nat.le_refl _, h.st.dead, fun _ _ _ => rfl⟩ (fun _ => Ap.none') ext_get
    · exact (hn _ o v h1 h2).1
  · have mix : ∀ (i j : Nat) (o p : Ob D) (v w : Value), O[i]? = some o → vs[i]? = some v → o.live = true → N[j]? = some p → nv[j]? = some w → Ap (blkV v) (blkV w) := by
      intro i j o p v w ho hv lo hp hw b hb hb'
      have := hlt i o v ho hv lo b hb
      have := (hn j p w hp hw).2 b hb'
      omega
    rcases cs i o v ho hv with ⟨_, h1, h2⟩ | ⟨_, h1, h2⟩
    · rcases cs j p w hp hw with ⟨_, h3, h4⟩ | ⟨_, h3, h4⟩
      · exact h.ap i j o p v w hij h1 h3 lo lp h2 h4
      · exact mix i _ o p v w h1 h2 lo h3 h4
    · rcases cs j p w hp hw with ⟨_, h3, h4⟩ | ⟨_, h3, h4⟩
      · exact (mix j _ p o w v h3 h4 lp h1 h2).symm
      · exact ha _ _ o p v w (by omega) h1 h3 h2 h4
theorem newOk_at : ∀ {its : List It} {x : inT D its} {q : CO D}, newOk its = true → q ∈ cos its x → ∀ t, q.c ≠ .recv t
  | [], _, _, _, h => by simp [cos] at h
  | .v d c :: its, x, o, hn, h => newOk_at (its := its) (x := x.2) (Bool.and_eq_true_iff.1 hn).2 h
  | .u d c :: its, x, o, hn, h => newOk_at (its := its) (x := x.2) hn h
  | .o d c :: its, x, o, hn, h => by
    simp only [cos, List.mem_cons] at h
    have hn' : (∀ t, c ≠ .recv t) ∧ newOk its = true := by
      cases c with
      | recv t => cases hn
      | _ => exact ⟨fun t h => (by cases h), hn⟩
    rcases h with rfl | h
    · exact hn'.1
    · exact newOk_at (its := its) (x := x.2) hn'.2 h
theorem born {c : OC} {x : c.ty D} {w : Bool} {v : Value} {kk : Option Nat} {τ : Nat → Nat} (hc : ∀ t, c ≠ .recv t) (he : e.next ≤ m.next) (h : ObOk X.G z m m1 kk vs (OC.mkr X τ c x w) v) : ObOk X.G z e m1 k vs (OC.mkr X τ c x w) v ∧ ∀ b, blkV v = some b → m.next ≤ b := by
  cases c with
  | recv t => exact absurd rfl (hc t)
  | bx t l =>
    obtain ⟨b, ds, rfl, h1, h2, h3⟩ := h
    exact ⟨⟨b, ds, rfl, ⟨h1.blk, h1.lt, h1.dead, .inl (Nat.le_trans he h2)⟩, Nat.le_trans he h2, h3⟩, fun c hc => by cases hc; exact h2⟩
  | sl t =>
    have h : OwF (X.G.T t) z m m1 kk x v := h
    refine ⟨(⟨h.ow, fun b hb => Nat.le_trans he (h.fresh b hb)⟩ : OwF (X.G.T t) z e m1 k x v), ?_⟩
    rw [blkV_of (by obtain ⟨a, c, rfl⟩ := h.ow.len; intro r; simp)]
    exact h.fresh
  | box t =>
    obtain ⟨b, ds, rfl, h1, h2, h3⟩ := h
    exact ⟨⟨b, ds, rfl, ⟨h1.blk, h1.lt, h1.dead, .inl (Nat.le_trans he h2)⟩, Nat.le_trans he h2, h3⟩, fun c hc => by cases hc; exact h2⟩
  | arr t u n =>
    obtain ⟨⟨b, rfl⟩, h⟩ := h
    exact ⟨⟨⟨b, rfl⟩, h.ow, fun b hb => Nat.le_trans he (h.fresh b hb)⟩, fun c hc => h.fresh c hc⟩
  | map t kt vt =>
    have h : OwM (X.G.M t kt vt) z m m1 kk x v := h
    obtain ⟨r, rfl, h1, h2, h3, h4⟩ := h.ow
    exact ⟨(⟨⟨r, rfl, h1, h2, h3, Nat.le_trans he h4⟩⟩ : OwM (X.G.M t kt vt) z e m1 k x _), fun c hc => by cases hc; exact h4⟩
  | ne e0 t =>
    obtain ⟨hu, ws, h⟩ := h
    refine ⟨⟨hu, ws, ⟨h.ow.ow, fun b hb => Nat.le_trans he (h.ow.fresh b hb)⟩, h.len, fun j w xs h1 h2 h3 => (h.inn j w xs h1 h2 h3).anti he, fun p hp => by cases hp⟩, ?_⟩
    rw [blkV_of (by obtain ⟨a, c, rfl⟩ := h.ow.ow.len; intro r; simp)]
    exact h.ow.fresh
theorem tupE_ok : ∀ {res : List Nat} {l : List (CV D ⊕ (Nat × List (CV D)))}, Rl X z vs E fr → tupE E res = some l → L2 (relT X.G z vs) l (res.map fr) ∧ ∀ x ∈ res.map fr, storable x = true
  | [], l, hE, h => by cases h; exact ⟨trivial, by simp⟩
  | d :: ds, l, hE, h => by
    simp only [tupE] at h
    have hd := hE d
    split at h
    · rename_i c l1 hc hl
      cases h
      rw [hc] at hd
      obtain ⟨g1, g2⟩ := tupE_ok hE hl
      refine ⟨⟨hd, g1⟩, fun x hx => ?_⟩
      rcases List.mem_cons.1 hx with rfl | hx
      · exact (rel0.stor hd).1
      · exact g2 x hx
    · rename_i t cs l1 hc hl
      cases h
      rw [hc] at hd
      obtain ⟨g1, g2⟩ := tupE_ok hE hl
      refine ⟨⟨hd, g1⟩, fun x hx => ?_⟩
      rcases List.mem_cons.1 hx with rfl | hx
      · obtain ⟨ds, hd, _⟩ := hd; rw [hd]; rfl
      · exact g2 x hx
    · cases h
theorem resE_ok {res : List Nat} {sv : SV D} (hE : Rl X z vs E fr) (h : resE E res = some sv) : rel X.G z vs sv (pack (res.map fr)) ∧ ((res.map fr).length = 1 ∨ ∀ x ∈ res.map fr, storable x = true) := by
  unfold resE at h
  split at h
  · cases h; exact ⟨hE _, .inl rfl⟩
  · rename_i ds hds
    split at h
    · rename_i l hl
      cases h
      obtain ⟨g1, g2⟩ := tupE_ok hE hl
      refine ⟨?_, .inr g2⟩
      have : pack (res.map fr) = .tuple (res.map fr).toArray := by
        unfold pack
        split
        · rename_i x hx
          match res, hds, hx with
          | [d], hds, _ => exact absurd rfl (hds d)
        · rfl
      rw [this]
      exact ⟨_, rfl, g1⟩
    · cases h
theorem flatC_ok {c : CV D} {v w : Value} (h : flatC c = some w) (hr : rel0 X.G z vs c v) : v = w ∧ flat0 w = true := by
  cases c <;> first | (cases h; done) | (cases h; exact ⟨hr, rfl⟩)
theorem flatL_ok : ∀ {cs : List (CV D)} {ds ws : List Value}, flatL cs = some ws → L2 (rel0 X.G z vs) cs ds → ds = ws ∧ ws.all flat0 = true
  | [], [], _, h, _ => by cases h; exact ⟨rfl, rfl⟩
  | c :: cs, d :: ds, ws, h, ⟨h1, h2⟩ => by
    simp only [flatL] at h
    split at h
    · rename_i v l hv hl
      cases h
      obtain ⟨rfl, g1⟩ := flatC_ok hv h1
      obtain ⟨rfl, g2⟩ := flatL_ok hl h2
      exact ⟨rfl, by simp only [List.all_cons, g1, g2, Bool.and_self]⟩
    · cases h
  | [], _ :: _, _, _, h => h.elim
  | _ :: _, [], _, _, h => h.elim
theorem flatT_ok : ∀ {l : List (CV D ⊕ (Nat × List (CV D)))} {ds ws : List Value}, flatT l = some ws → L2 (relT X.G z vs) l ds → ds = ws ∧ ws.all flat1 = true
  | [], [], _, h, _ => by cases h; exact ⟨rfl, rfl⟩
  | .inl c :: l, d :: ds, ws, h, ⟨h1, h2⟩ => by
    simp only [flatT] at h
    split at h
    · rename_i v l1 hv hl
      cases h
      obtain ⟨rfl, g1⟩ := flatC_ok hv h1
      obtain ⟨rfl, g2⟩ := flatT_ok hl h2
      have : flat1 d = true := by cases d <;> first | exact g1 | cases g1
      exact ⟨rfl, by simp only [List.all_cons, this, g2, Bool.and_self]⟩
    · cases h
  | .inr p :: l, d :: ds, ws, h, ⟨⟨cs, h0, h1⟩, h2⟩ => by
    simp only [flatT] at h
    split at h
    · rename_i v l1 hv hl
      cases h
      obtain ⟨rfl, g1⟩ := flatL_ok hv h1
      obtain ⟨rfl, g2⟩ := flatT_ok hl h2
      subst h0
      exact ⟨rfl, by simp only [List.all_cons, g2, Bool.and_true]; exact g1⟩
    · cases h
  | [], _ :: _, _, _, h => h.elim
  | _ :: _, [], _, _, h => h.elim
theorem flatS_ok {s : SV D} {v w : Value} (h : flatS s = some w) (hr : rel X.G z vs s v) : v = w ∧ AM.flat w = true := by
  unfold flatS at h
  split at h
  · obtain ⟨rfl, g⟩ := flatC_ok h hr
    refine ⟨rfl, ?_⟩
    cases v <;> first | exact g | cases g
  · split at h
    · rename_i ds hd
      cases h
      obtain ⟨es, rfl, h2⟩ := hr
      obtain ⟨rfl, g⟩ := flatL_ok hd h2
      exact ⟨rfl, g⟩
    · cases h
  · split at h
    · rename_i ws hd
      cases h
      obtain ⟨es, rfl, h2⟩ := hr
      obtain ⟨rfl, g⟩ := flatT_ok hd h2
      exact ⟨rfl, g⟩
    · cases h
  · cases h
def rIns : Option (Nat × Nat) → List It
  | none => []
  | some p => [.o p.1 (.recv p.2)]
def rX : (c : Option (Nat × Nat)) → rT D c → inT D (rIns c)
  | none, _ => ()
  | some _, r => (r, ())
theorem rO_eq (c : Option (Nat × Nat)) (r : rT D c) : mkO X (rIns c) (rX c r) = rO X c r := by cases c <;> rfl
theorem rO_len {c : Option (Nat × Nat)} {r : rT D c} {n : Nat} : (match c with | none => [] | some _ => [n]).length = (rO X c r).length := by cases c <;> rfl
theorem rks_len {d : FD D} {r : rT D d.rcv} : (rO X d.rcv r).length = (rks d).length := by
  unfold rks
  rw [← rO_len (X := X) (r := r) (n := d.rk)]
def PostF (X : Ev P D) (d : FD D) (r : rT D d.rcv) (y : outT D d.outs) (z : Nat → Blk) (m : Mem) (kk : Option Nat) (vs0 : List Value) (ex : AExit) (fr' : Nat → Value) (m1 : Mem) : Prop :=
  (ex = .normal ∨ ex = .ret) ∧ ∃ fr2, resultsR P fr' m1 d.rvs (d.res.map fr2) ∧ ∃ z2 nv, Zx m.next z z2 ∧ Mm X.G (postO X (rks d) (rO X d.rcv r) d.outs (ofOut _ y)) z2 m m1 kk (vs0 ++ nv) ∧ ∀ q ∈ mkE X d.outs (ofOut _ y) ++ d.ofx, rel X.G z2 (vs0 ++ nv) q.2 (fr2 q.1)
def FC (X : Ev P D) (B : Code) (d : FD D) (F : d.F) : Prop := ∀ (r : rT D d.rcv) (x : inT D d.ins) (y : outT D d.outs) {z : Nat → Blk} {m : Mem} {kk : Option Nat} {vs0 : List Value} {fr : Nat → Value},
  F r x = some y → Mm X.G (rO X d.rcv r) z m m kk vs0 → Rl X z vs0 (mkE X d.ins x ++ (d.fx ++ rE d.rcv)) fr → W P B (PostF X d r y z m kk vs0) fr m
theorem loadB_ok {t : Nat} {a : SV D} {V : SV D} {v : Value} (hM : Mm X.G O z e m k vs) (ha : rel X.G z vs a v) (h : loadB P t a O = some V) : ∃ b off w, v = .pointer (some ⟨b, off, none⟩) ∧ rel X.G z vs V w ∧ ∃ d, P.underlying t = some d ∧
    (if aggT d = true then ∃ i cs, P.info? t = some i ∧ rdN m b off i.size = some cs ∧ w = .agg cs.toArray else m.load b off = some w) := by
  have fin : ∀ {b n : Nat} {cs : List (CV D)} {ds : List Value}, (∀ (j : Nat) (w : Value), ds[j]? = some w → m.load b (0 + j) = some w) → L2 (rel0 X.G z vs) cs ds → loadC (P := P) t cs n some = some V → ∃ w, rel X.G z vs V w ∧ ∃ d, P.underlying t = some d ∧ (if aggT d = true then ∃ i cs, P.info? t = some i ∧ rdN m b n i.size = some cs ∧ w = .agg cs.toArray else m.load b n = some w) := by
    intro b n cs ds hc hr h
    unfold loadC at h
    split at h
    · cases h
    · rename_i d hd
      split at h
      · rename_i hag
        split at h
        · cases h
        · rename_i i hi
          split at h
          · rename_i hlen
            cases h
            have hr' : L2 (rel0 X.G z vs) ((cs.drop n).take i.size) ((ds.drop n).take i.size) := L2.take _ (L2.drop _ hr)
            have hl2 : ((ds.drop n).take i.size).length = i.size := by rw [← hr'.length]; exact hlen
            refine ⟨.agg ((ds.drop n).take i.size).toArray, ⟨_, rfl, hr'⟩, d, hd, ?_⟩
            rw [if_pos hag]
            refine ⟨i, _, hi, rdN_of _ _ _ hl2 fun j w hj => ?_, rfl⟩
            rw [List.getElem?_take] at hj
            split at hj
            · rw [List.getElem?_drop] at hj
              have := hc _ w hj
              rwa [Nat.zero_add] at this
            · cases hj
          · cases h
      · rename_i hag
        split at h
        · rename_i c hcs
          cases h
          obtain ⟨w, hw, hrw⟩ := hr.get n c hcs
          refine ⟨w, hrw, d, hd, ?_⟩
          rw [if_neg hag]
          have := hc n w hw
          rwa [Nat.zero_add] at this
        · cases h
  unfold loadB at h
  split at h
  · rename_i i off
    obtain ⟨b, hv, hx⟩ := ha
    split at h
    · rename_i u cs fz w1 hO
      have hob := hM.obj i _ _ hO hv
      cases fz with
      | true =>
        obtain ⟨b', ds, he, hc, hr⟩ := hob
        cases he
        obtain ⟨w, h1, h2⟩ := fin (b := b) (hM.st.loads hc) hr h
        exact ⟨b, off, w, hx, h1, h2⟩
      | false =>
        obtain ⟨b', ds, he, hb, _, hr⟩ := hob
        cases he
        obtain ⟨w, h1, h2⟩ := fin (b := b) hb.loads hr h
        exact ⟨b, off, w, hx, h1, h2⟩
    · rename_i u cs w1 hO
      obtain ⟨b', ds, he, hb, hr⟩ := hM.obj i _ _ hO hv
      cases he
      obtain ⟨w, h1, h2⟩ := fin (b := b) hb.loads hr h
      exact ⟨b, off, w, hx, h1, h2⟩
    · cases h
  · cases h
theorem rvE_lt : ∀ {rs : List ResultVar} {n : Nat} {l : List (Nat × SV D)}, rvE P E O n rs = some l → ∀ x ∈ resOf n rs, x < VB ∨ n ≤ x
  | [], n, l, _, x, hx => by simp [resOf] at hx
  | .tmp d :: rs, n, l, h, x, hx => by
    obtain ⟨h1, h2⟩ := ite_some h
    simp only [resOf, List.mem_cons] at hx
    rcases hx with rfl | hx
    · exact .inl (by simpa [Nat.blt_eq] using h1)
    · rcases rvE_lt h2 x hx with h | h
      · exact .inl h
      · exact .inr (by omega)
  | .cell a t :: rs, n, l, h, x, hx => by
    simp only [rvE] at h
    split at h
    · rename_i V l' _ h2
      simp only [resOf, List.mem_cons] at hx
      rcases hx with rfl | hx
      · exact .inr (Nat.le_refl _)
      · rcases rvE_lt h2 x hx with h | h
        · exact .inl h
        · exact .inr (by omega)
    · cases h
theorem rvE_ok (hM : Mm X.G O z e m k vs) (hE : Rl X z vs E fr) : ∀ {rs : List ResultVar} {n : Nat} {l : List (Nat × SV D)}, VB ≤ n → rvE P E O n rs = some l → ∃ fr2, (∀ d, d < n → fr2 d = fr d) ∧ Rl X z vs (l ++ E) fr2 ∧ resultsR P fr m rs ((resOf n rs).map fr2)
  | [], n, l, _, h => by cases h; exact ⟨fr, fun _ _ => rfl, hE, trivial⟩
  | .tmp d :: rs, n, l, hn, h => by
    obtain ⟨h1, h2⟩ := ite_some h
    have hd : d < VB := by simpa [Nat.blt_eq] using h1
    obtain ⟨fr2, g1, g2, g3⟩ := rvE_ok hM hE (Nat.le_succ_of_le hn) h2
    exact ⟨fr2, fun d hd => g1 d (Nat.lt_succ_of_lt hd), g2, g1 d (Nat.lt_succ_of_lt (Nat.lt_of_lt_of_le hd hn)), g3⟩
  | .cell a t :: rs, n, l, hn, h => by
    simp only [rvE] at h
    split at h
    · rename_i V l' h1 h2
      cases h
      obtain ⟨fr2, g1, g2, g3⟩ := rvE_ok hM hE (Nat.le_succ_of_le hn) h2
      obtain ⟨b, off, w, w1, w2, w3⟩ := loadB_ok hM (hE a) h1
      refine ⟨fun i => if i = n then w else fr2 i, fun d hd => ?_, fun i => ?_, ?_⟩
      · show (if d = n then w else fr2 d) = fr d
        rw [if_neg (by omega)]; exact g1 d (by omega)
      · show rel X.G z vs (lkE ((n, V) :: (l' ++ E)) i) (if i = n then w else fr2 i)
        simp only [lkE]
        split
        · rename_i hi
          rw [if_pos (Nat.eq_of_beq_eq_true hi).symm]; exact w2
        · rename_i hi
          rw [if_neg (by rintro rfl; simp at hi)]; exact g2 i
      · have hm : (resOf (n + 1) rs).map (fun i => if i = n then w else fr2 i) = (resOf (n + 1) rs).map fr2 := by
          apply List.map_congr_left
          intro x hx
          rw [if_neg]
          rintro rfl
          rcases rvE_lt h2 _ hx with h | h <;> omega
        refine ⟨⟨b, off, w1, ?_⟩, ?_⟩
        · show ∃ d, _
          simp only [if_true]
          exact w3
        · show resultsR P fr m rs ((resOf (n + 1) rs).map _)
          rw [hm]; exact g3
    · cases h
theorem FC.of (hC : COk X) {B : Code} {us : List (Pc D)} {d : FD D} {F : d.F} (hus : ∀ u ∈ us, 0 < u.path.length → PcOk X B u)
    (heq : ∀ r x, exC X us calm true [] B (mkE X d.ins x ++ (d.fx ++ rE d.rcv)) (rO X d.rcv r) (retK X d) = F r x) : FC X B d F := by
  intro r x y z m kk vs0 fr hF hM hE
  have h := heq r x
  rw [hF] at h
  refine (exC_ok hC (L := 0) hus B true [] _ _ _ y (sub_nil B) (by simp) (by simp) hM hE h).mono ?_
  rintro ex fr1 m1 ⟨z1, vs1, E1, O1, h0, h1, h2, h3, h4, h5⟩
  obtain ⟨hx, h5⟩ := ite_some h5
  obtain ⟨l, hl0, h6⟩ := bind_some h5
  obtain ⟨fr2, q1, q2, q3⟩ := rvE_ok h3 h4 (Nat.le_refl _) hl0
  have hl : (rks d).length = vs0.length := by
    rw [hM.len, rks_len]
  rw [hl] at h6
  have hr := rO_eq (X := X) d.rcv r
  obtain ⟨z2, nv, k1, k2, k3⟩ := post_of (ks := rks d) (ins := rIns d.rcv) (x := rX d.rcv r) (xx := d.xx) (by rw [hr]; exact h0) h2 (by rw [hr]; exact hM.len) h3 q2 h6
  rw [hr] at k2
  exact ⟨hx, fr2, q3, z2, nv, h1.trans k1, k2, k3⟩
end
end
end Go.AM
end
section
set_option linter.unusedSimpArgs false
set_option linter.unusedVariables false
namespace Go.AM
noncomputable section
section
variable {P : Program} {D : Nat → Type} {X : Ev P D} {z z1 z2 : Nat → Blk} {e m m1 : Mem} {k q : Option Nat} {vs : List Value} {fr : Nat → Value} {E : List (Nat × SV D)} {O O' : List (Ob D)} {ρ : Type} {r : ρ}
theorem enumE_at : ∀ {l : List (SV D)} {args : List Value} {i : Nat}, L2 (rel X.G z vs) l args → (∀ (j : Nat) (v : Value), args[j]? = some v → fr (i + j) = v) → Rl X z vs (enumE i l) fr
  | [], [], i, _, _ => fun d => trivial
  | s :: l, a :: args, i, ⟨h1, h2⟩, hf => by
    refine (enumE_at (i := i + 1) h2 fun j v hj => ?_).cons ?_
    · rw [show i + 1 + j = i + (j + 1) by omega]
      exact hf (j + 1) v hj
    · have := hf 0 a rfl
      rw [Nat.add_zero] at this
      rw [this]; exact h1
  | [], _ :: _, _, h, _ => h.elim
  | _ :: _, [], _, h, _ => h.elim
structure FOk (P : Program) (X : Ev P D) (d : FD D) (F : d.F) : Prop where
  ex : ∃ fn c, P.funcs[d.f]? = some fn ∧ fn.body = some c ∧ okFn P d.f = true ∧ Nat.ble d.np fn.ntmps = true ∧ fn.results.toList = d.rvs ∧ FC X c d F
  new : newOk d.outs = true
  sf : (d.fx.all fun p => simpS p.2) = true
  so : (d.ofx.all fun p => simpS p.2) = true
  sx : (d.fx.all fun p => (refS p.2).isNone) = true
theorem flatC_self {c : CV D} {w : Value} (h : flatC c = some w) : rel0 X.G z vs c w ∧ flat0 w = true ∧ flat1 w = true ∧ AM.flat w = true := by
  cases c <;> first | (cases h; done) | (cases h; exact ⟨rfl, rfl, rfl, rfl⟩)
theorem flatL_self : ∀ {cs : List (CV D)} {ws : List Value}, flatL cs = some ws → L2 (rel0 X.G z vs) cs ws ∧ ws.all flat0 = true
  | [], _, h => by cases h; exact ⟨trivial, rfl⟩
  | c :: cs, ws, h => by
    simp only [flatL] at h
    split at h
    · rename_i v l hv hl
      cases h
      obtain ⟨g1, g2, _⟩ := flatC_self (X := X) (z := z) (vs := vs) hv
      obtain ⟨g3, g4⟩ := flatL_self hl
      exact ⟨⟨g1, g3⟩, by simp only [List.all_cons, g2, g4, Bool.and_self]⟩
    · cases h
theorem flatT_self : ∀ {l : List (CV D ⊕ (Nat × List (CV D)))} {ws : List Value}, flatT l = some ws → L2 (relT X.G z vs) l ws ∧ ws.all flat1 = true
  | [], _, h => by cases h; exact ⟨trivial, rfl⟩
  | .inl c :: l, ws, h => by
    simp only [flatT] at h
    split at h
    · rename_i v l1 hv hl
      cases h
      obtain ⟨g1, _, g2, _⟩ := flatC_self (X := X) (z := z) (vs := vs) hv
      obtain ⟨g3, g4⟩ := flatT_self hl
      exact ⟨⟨g1, g3⟩, by simp only [List.all_cons, g2, g4, Bool.and_self]⟩
    · cases h
  | .inr p :: l, ws, h => by
    simp only [flatT] at h
    split at h
    · rename_i v l1 hv hl
      cases h
      obtain ⟨g1, g2⟩ := flatL_self (X := X) (z := z) (vs := vs) hv
      obtain ⟨g3, g4⟩ := flatT_self hl
      exact ⟨⟨⟨v, rfl, g1⟩, g3⟩, by simp only [List.all_cons, g4, Bool.and_true]; exact g2⟩
    · cases h
theorem flatS_self {s : SV D} {w : Value} (h : flatS s = some w) : rel X.G z vs s w ∧ AM.flat w = true := by
  unfold flatS at h
  split at h
  · obtain ⟨g1, _, _, g2⟩ := flatC_self (X := X) (z := z) (vs := vs) h
    exact ⟨g1, g2⟩
  · split at h
    · rename_i ds hd
      cases h
      obtain ⟨g1, g2⟩ := flatL_self (X := X) (z := z) (vs := vs) hd
      exact ⟨⟨ds, rfl, g1⟩, g2⟩
    · cases h
  · split at h
    · rename_i ws hd
      cases h
      obtain ⟨g1, g2⟩ := flatT_self (X := X) (z := z) (vs := vs) hd
      exact ⟨⟨ws, rfl, g1⟩, g2⟩
    · cases h
  · cases h
theorem Inv.app (O N : List (Ob D)) : Inv O (O ++ N) := ⟨by simp, fun i p hi hp _ _ => by rw [List.getElem?_append_left hi] at hp; exact hp⟩
theorem Mm.nil (hM : Mm X.G O z e m k vs) : Mm X.G ([] : List (Ob D)) z m m none [] := ⟨St.start hM.st.fz hM.st.dead, rfl, by simp, by simp⟩
theorem st_call {kk : Option Nat} (h : St z1 e m k) (h2 : St z2 m m1 kk) (hk : ∀ b, kk = some b → e.next ≤ b ∨ k = some b) : St z2 e m1 k ∧ Same m m1 kk :=
  ⟨⟨h2.fz, h2.dead, h.dead0, Nat.le_trans h.next h2.next, fun b hb hn => by
    rw [h2.kept b (Nat.lt_of_lt_of_le hb h.next) (fun hh => by rcases hk b hh with h3 | h3; omega; exact hn h3)]
    exact h.kept b hb hn⟩, ⟨h2.next, h2.dead, h2.kept⟩⟩
theorem start_rl {ins : List It} {fx : List (Nat × SV D)} {svs avs : List (SV D)} {O1 : List (Ob D)} {x : inT D ins} {vs0 : List Value} (hE : Rl X z vs (enumE 0 svs) fr) (ha : AOk X z vs fr ins avs) (hb : rdB X [] O1 ins avs [] = some x)
    (hx : (fx.all fun p => fxT [] p.2 (lkE (enumE 0 svs) p.1)) = true) : ∀ p ∈ mkE X ins x ++ fx, rel X.G z vs0 p.2 (fr p.1) := by
  intro p hp
  rcases List.mem_append.1 hp with hp | hp
  · exact rdB_v (fun j i u hj _ => by simp at hj) hb ha p hp
  · have ht := List.all_eq_true.1 hx p hp
    have := fxT_ok (X := X) (vs' := vs0) id ht (hE p.1) (by simp)
    rwa [rnS_id] at this
theorem after {outs : List It} {y : inT D outs} {O0 : List (Ob D)} {vs0 nv : List Value} {kk : Option Nat} {O2 O3 : List (Ob D)} {τ : Nat → Nat} (h1 : Mm X.G O2 z1 e m k vs) (h3 : Mm X.G O3 z2 e m1 k vs) (h0 : Mm X.G (O0 ++ mkO X outs y) z2 m m1 kk (vs0 ++ nv)) (hl : vs0.length = O0.length) (hn : newOk outs = true)
    (hlt : ∀ (j : Nat) (o : Ob D) (v : Value), O3[j]? = some o → vs[j]? = some v → o.live = true → ∀ b, blkV v = some b → b < m.next) (hτ : ∀ (j : Nat) (u : Value), (vs0 ++ nv)[j]? = some u → (vs ++ nv)[τ j]? = some u) : Mm X.G (O3 ++ mkOr X τ outs y) z2 e m1 k (vs ++ nv) := by
  have hcl : (mkO X outs y).length = (mkOr X τ outs y).length := by rw [mkO_cos, mkOr_cos, List.length_map, List.length_map]
  have hnl : nv.length = (mkO X outs y).length := by
    have := h0.len
    simp only [List.length_append] at this
    omega
  have up : ∀ (j : Nat) (o : Ob D) (v : Value), (mkOr X τ outs y)[j]? = some o → nv[j]? = some v → ∃ q ∈ cos outs y, o = OC.mkr X τ q.c q.x false ∧ (O0 ++ mkO X outs y)[O0.length + j]? = some (OC.mk X q.c q.x false) ∧ (vs0 ++ nv)[O0.length + j]? = some v := by
    intro j o v ho hv
    rw [mkOr_cos, List.getElem?_map] at ho
    cases hq : (cos outs y)[j]? with
    | none => rw [hq] at ho; cases ho
    | some q =>
      rw [hq] at ho
      cases ho
      refine ⟨q, List.mem_of_getElem? hq, rfl, ?_, ?_⟩
      · rw [List.getElem?_append_right (by omega), show O0.length + j - O0.length = j by omega, mkO_cos, List.getElem?_map, hq]
        rfl
      · rw [List.getElem?_append_right (by omega), hl, show O0.length + j - O0.length = j by omega]
        exact hv
  refine h3.adds (hnl.trans hcl) hlt (fun j o v ho hv => ?_) (fun i j o p v w hij ho hp hv hw => ?_)
  · obtain ⟨q, hq, rfl, g1, g2⟩ := up j o v ho hv
    have hob := h0.obj _ _ v g1 g2
    exact born (newOk_at hn hq) h1.st.next (OC.mkr_ok (τ' := τ) (vs' := vs ++ nv) false hob fun n _ u hu => hτ n u hu)
  · obtain ⟨q, hq, rfl, g1, g2⟩ := up i o v ho hv
    obtain ⟨q', hq', rfl, g3, g4⟩ := up j p w hp hw
    exact h0.ap _ _ _ _ v w (by omega) g1 g3 OC.mk_live OC.mk_live g2 g4
theorem newOk_nc : ∀ {its : List It}, newOk its = true → ∀ d c, It.v d c ∈ its → c.nc = true
  | .v d c :: its, h, d', c', hm => by
    have h := Bool.and_eq_true_iff.1 h
    rcases List.mem_cons.1 hm with he | hm
    · cases he; exact h.1
    · exact newOk_nc (its := its) h.2 d' c' hm
  | .u d c :: its, h, d', c', hm => by
    rcases List.mem_cons.1 hm with he | hm
    · cases he
    · exact newOk_nc (its := its) h d' c' hm
  | .o d c :: its, h, d', c', hm => by
    rcases List.mem_cons.1 hm with he | hm
    · cases he
    · refine newOk_nc (its := its) ?_ d' c' hm
      cases c <;> first | exact h | cases h
theorem out_rl {outs : List It} {y : inT D outs} {ofx : List (Nat × SV D)} {vs0 vs1 : List Value} {τ : Nat → Nat} (hn : newOk outs = true) (ho : (ofx.all fun p => simpS p.2) = true) (h : ∀ q ∈ mkE X outs y ++ ofx, rel X.G z vs0 q.2 (fr q.1)) (hv : ∀ (j : Nat) (u : Value), vs0[j]? = some u → vs1[τ j]? = some u) :
    Rl X z vs1 (mkE X outs y ++ ofx.map fun q => (q.1, rnS τ q.2)) fr := by
  refine Rl_of fun q hq => ?_
  rcases List.mem_append.1 hq with hq | hq
  · obtain ⟨d, c, a, hd, hc⟩ := mkE_mk hq
    have := h q (List.mem_append.2 (.inl hq))
    rw [hc] at this ⊢
    exact Cl.mk_vs (newOk_nc hn d c hd) this
  · obtain ⟨q0, hq0, rfl⟩ := List.mem_map.1 hq
    exact rn_ok (List.all_eq_true.1 ho q0 hq0) (h q0 (List.mem_append.2 (.inr hq0))) fun j u _ hu => hv j u hu
theorem rcvG_ok {t b : Nat} {o : Ob D} {x : D t} (hg : rcvG X t (some o) = some x) (ho : ObOk X.G z e m k vs o (.pointer (some ⟨b, 0, none⟩))) :
    o.live = true ∧ (e.next ≤ b ∨ k = some b) ∧ (∀ vs', ObOk X.G z m m (some b) vs' (.recv t (lvX X t x) false : Ob D) (.pointer (some ⟨b, 0, none⟩))) ∧
    (∀ {z2 : Nat → Blk} {m1 : Mem} {w : Bool} {a : D t} {ws : List Value}, ObOk X.G z2 m m1 (some b) ws (.recv t (lvX X t a) w : Ob D) (.pointer (some ⟨b, 0, none⟩)) → ObOk X.G z2 e m1 k vs (rcvP t (lvX X t a) o) (.pointer (some ⟨b, 0, none⟩)) ∧ (o.clean = true → a = x → ObOk X.G z2 e m1 k vs o (.pointer (some ⟨b, 0, none⟩)))) := by
  unfold rcvG at hg
  split at hg
  · rename_i t' cs w heq
    cases heq
    obtain ⟨ht, hg⟩ := ite_some hg
    subst ht
    obtain ⟨c, ds, h1, h2, h3, h4⟩ := ho
    cases h1
    refine ⟨rfl, .inl h3, fun vs' => ⟨b, ds, rfl, ⟨h2.blk, h2.lt, h2.dead, .inr rfl⟩, pkX_lv hg h4⟩, ?_⟩
    intro z2 m1 w a ws hr
    obtain ⟨c, ds', g1, g2, g3⟩ := hr
    cases g1
    refine ⟨⟨b, ds', rfl, ⟨g2.blk, g2.lt, g2.dead, .inl h3⟩, h3, lvX_vs g3⟩, fun hc ha => ?_⟩
    subst ha
    rw [pkX_n hg hc]
    exact ⟨b, ds', rfl, ⟨g2.blk, g2.lt, g2.dead, .inl h3⟩, h3, lvX_vs g3⟩
  · rename_i t' cs w heq
    cases heq
    obtain ⟨ht, hg⟩ := ite_some hg
    subst ht
    obtain ⟨c, ds, h1, h2, h4⟩ := ho
    cases h1
    refine ⟨rfl, h2.fresh, fun vs' => ⟨b, ds, rfl, ⟨h2.blk, h2.lt, h2.dead, .inr rfl⟩, pkX_lv hg h4⟩, ?_⟩
    intro z2 m1 w a ws hr
    obtain ⟨c, ds', g1, g2, g3⟩ := hr
    cases g1
    refine ⟨⟨b, ds', rfl, ⟨g2.blk, g2.lt, g2.dead, h2.fresh⟩, lvX_vs g3⟩, fun hc ha => ?_⟩
    subst ha
    rw [pkX_n hg hc]
    exact ⟨b, ds', rfl, ⟨g2.blk, g2.lt, g2.dead, h2.fresh⟩, lvX_vs g3⟩
  · cases hg
def FD.quiet (d : FD D) : Bool := d.flat && d.rcv.isNone
def CallOk (X : Ev P D) (d : FD D) (F : d.F) : Prop := ∀ (svs : List (SV D)) (O : List (Ob D)) {ρ : Type} (K : SV D → List (Ob D) → Option ρ) (r : ρ) {z : Nat → Blk} {e m : Mem} {k : Option Nat} {vs : List Value} (args : List Value),
  Mm X.G O z e m k vs → L2 (rel X.G z vs) svs args → d.call X F svs O K = some r → CallW P d.f args.toArray m fun v m' => Nxt X O z e k vs K r v m' ∧ (d.quiet = true → m' = m) ∧ ∃ q, Chg m m' q ∧ TgtQ vs (boxesOf svs) q
theorem Same.chg {q : Option Nat} (h : Same m m1 q) : Chg m m1 q := ⟨h.next, h.blk⟩
theorem boxes_at {i off d : Nat} : ∀ {l : List (SV D)} {n : Nat}, lkE (enumE n l) d = .box i off → i ∈ boxesOf l
  | [], n, h => by cases h
  | s :: l, n, h => by
    simp only [enumE, lkE] at h
    split at h
    · subst h; exact List.mem_cons_self
    · have := boxes_at h
      cases s <;> first | exact this | exact List.mem_cons_of_mem _ this
theorem FOk.call {d : FD D} {F : d.F} (hF : FOk P X d F) : CallOk X d F := by
  intro svs O ρ K r z e m k vs args hM hL h
  obtain ⟨fn, c, f1, f2, f3, f4, f5, hB⟩ := hF.ex
  have hnew := hF.new
  have hso := hF.so
  unfold FD.call at h
  obtain ⟨hlen, h⟩ := ite_some h
  have hlen := Nat.eq_of_beq_eq_true hlen
  split at h
  · rename_i avs O1 hf
    obtain ⟨hx, h⟩ := ite_some h
    split at h
    · rename_i x hb
      have hsz : args.toArray.size ≤ fn.ntmps := by
        rw [List.size_toArray, ← hL.length, hlen]
        exact Nat.le_of_ble_eq_true f4
      have hE : ∀ fr : Nat → Value, (∀ i v, args.toArray.toList[i]? = some v → fr i = v) → Rl X z vs (enumE 0 svs) fr := fun fr hfr => enumE_at hL fun j v hj => by rw [Nat.zero_add]; exact hfr j v (by simpa using hj)
      obtain ⟨f, np, ins, fx, rcv, rk, outs, ofx, rvs, flat⟩ := d
      cases rcv with
      | none =>
        obtain ⟨y, hy, h⟩ := bind_some h
        split at h
        · rename_i sv hsv
          have body : ∀ fr : Nat → Value, (∀ i v, args.toArray.toList[i]? = some v → fr i = v) → W P c (fun ex fr1 m1 => (ex = .normal ∨ ex = .ret) ∧ ∃ z1 z2 nv, Inv O O1 ∧ Zx e.next z z1 ∧ Mm X.G O1 z1 e m k vs ∧ Zx m.next z1 z2 ∧ Mm X.G (mkO X outs (ofOut outs y)) z2 m m1 none nv ∧ ∃ fr2, resultsR P fr1 m1 rvs ((resOf VB rvs).map fr2) ∧ (rel X.G z2 (vs ++ nv) sv (pack ((resOf VB rvs).map fr2)) ∧ (((resOf VB rvs).map fr2).length = 1 ∨ ∀ x ∈ (resOf VB rvs).map fr2, storable x = true))) fr m := by
            intro fr hfr
            obtain ⟨z1, g0, g1, g2, g3⟩ := frzA_ok hM (hE fr hfr) hf
            have hrl := start_rl (vs0 := []) ((hE fr hfr).mono g1.le fun _ _ h => h) g3 hb hx
            refine (hB () x y (z := z1) (m := m) (kk := none) (vs0 := []) hy g2.nil (Rl_of fun p hp => hrl p (by simpa [rE] using hp))).mono ?_
            rintro ex fr1 m1 ⟨he, fr2, q1, z2, nv, k1, k2, k3⟩
            have k2 : Mm X.G (mkO X outs (ofOut outs y)) z2 m m1 none nv := k2
            refine ⟨he, z1, z2, nv, g0, g1, g2, k1, k2, fr2, q1, resE_ok (out_rl (vs0 := nv) hnew hso k3 fun j u hu => ?_) hsv⟩
            show (vs ++ nv)[O1.length + j]? = some u
            rw [List.getElem?_append_right (by rw [g2.len]; omega), g2.len, show O1.length + j - O1.length = j by omega]
            exact hu
          split at h
          · split at h
            · rename_i w hw
              obtain ⟨w1, w2⟩ := flatS_self (X := X) (z := z) (vs := vs) hw
              refine (CallW.flat (z := z) f1 f2 f3 hsz w2 fun fr hfr => (body fr hfr).mono ?_).mono ?_
              · rintro ex fr1 m1 ⟨he, z1, z2, nv, _, _, _, _, k2, fr2, q1, k3, k4⟩
                exact ⟨he, z2, k2.st, _, by rw [f5]; exact q1, k4, (flatS_ok hw k3).1⟩
              · rintro v m' ⟨rfl, rfl⟩
                exact ⟨Nxt.here hM w1 h, fun _ => rfl, none, Chg.refl _, .inl rfl⟩
            · cases h
          · rename_i hnf
            refine CallW.any f1 f2 f3 hsz fun fr hfr => (body fr hfr).mono ?_
            rintro ex fr1 m1 ⟨he, z1, z2, nv, g0, g1, g2, k1, k2, fr2, q1, k3, k4⟩
            obtain ⟨s1, s2⟩ := st_call (e := e) (k := k) g2.st k2.st (by simp)
            refine ⟨he, _, by rw [f5]; exact q1, k4, ⟨z2, vs ++ nv, sv, _, g0.trans (Inv.app _ _), g1.trans (k1.anti hM.st.next), ext_get, ?_, k3, h⟩, fun hq => absurd (by simpa [FD.quiet] using hq) hnf, none, s2.chg, .inl rfl⟩
            have h3 := g2.call k1 s2 s1 rfl fun j o' hj => .inl ⟨hj, fun _ v _ => Ap.none'⟩
            have hnum0 : ∀ (j : Nat) (u : Value), ([] ++ nv)[j]? = some u → (vs ++ nv)[O1.length + j]? = some u := fun j u hu => by
              rw [List.getElem?_append_right (by rw [g2.len]; omega), g2.len, show O1.length + j - O1.length = j by omega]
              exact hu
            exact after (O0 := []) (vs0 := []) g2 h3 k2 rfl hnew (fun j o v ho hv hl b hb => ((g2.obj j o v ho hv).lt hl b hb).1) hnum0
        · cases h
      | some p =>
        unfold goCall at h
        dsimp only at h
        split at h
        · rename_i i hi
          split at h
          · rename_i o ho
            obtain ⟨rr, hrr, h⟩ := bind_some h
            obtain ⟨y, hy, h⟩ := bind_some h
            split at h
            · rename_i sv hsv
              refine CallW.any f1 f2 f3 hsz fun fr hfr => ?_
              obtain ⟨z1, g0, g1, g2, g3⟩ := frzA_ok hM (hE fr hfr) hf
              have hrl := fun vs0 => start_rl (vs0 := vs0) ((hE fr hfr).mono g1.le fun _ _ h => h) g3 hb hx
              have hp := hE fr hfr p.1
              rw [hi] at hp
              obtain ⟨b, b1, b2⟩ := hp
              have hob := g2.obj i o _ ho b1
              obtain ⟨r1, r2, r3, r4⟩ := rcvG_ok hrr hob
              have hM0 : Mm X.G (rO X (some p) rr) z1 m m (some b) [.pointer (some ⟨b, 0, none⟩)] := by
                refine ⟨St.start g2.st.fz g2.st.dead, rfl, fun j o' v hj hv => ?_, fun a b' o' p' v w hab ha hb' => ?_⟩
                · cases j with
                  | zero => simp [rO] at hj hv; subst hj hv; exact r3 _
                  | succ j => simp [rO] at hj
                · cases a with
                  | zero => cases b' with
                    | zero => exact absurd rfl hab
                    | succ b' => simp [rO] at hb'
                  | succ a => simp [rO] at ha
              refine (hB rr x y (z := z1) (m := m) (kk := some b) (vs0 := [.pointer (some ⟨b, 0, none⟩)]) hy hM0 (Rl_of fun q hq => ?_)).mono ?_
              · rcases List.mem_append.1 hq with hq | hq
                · exact hrl _ q (List.mem_append.2 (.inl hq))
                · rcases List.mem_append.1 hq with hq | hq
                  · exact hrl _ q (List.mem_append.2 (.inr hq))
                  · simp only [rE, List.mem_cons, List.not_mem_nil, or_false] at hq
                    subst hq
                    exact ⟨b, rfl, b2⟩
              rintro ex fr1 m1 ⟨he, fr2, q1, z2, nv, k1, k2, k3⟩
              obtain ⟨s1, s2⟩ := st_call (e := e) (k := k) g2.st k2.st (fun c hc => by cases hc; exact r2)
              have hi0 : i < O1.length := (List.getElem?_eq_some_iff.1 ho).1
              have hnum : ∀ (j : Nat) (u : Value), ([Value.pointer (some ⟨b, 0, none⟩)] ++ nv)[j]? = some u → (vs ++ nv)[num1 i O1.length j]? = some u := by
                intro j u hu
                cases j with
                | zero =>
                  simp at hu; subst hu
                  show (vs ++ nv)[i]? = _
                  exact ext_get _ _ b1
                | succ j =>
                  simp at hu
                  show (vs ++ nv)[O1.length + (j + 1 - 1)]? = _
                  rw [List.getElem?_append_right (by rw [g2.len]; omega), g2.len, show O1.length + (j + 1 - 1) - O1.length = j by omega]
                  exact hu
              have hres := resE_ok (out_rl hnew hso k3 hnum) hsv
              have k2 : Mm X.G (([if rk = 1 then (.recv p.2 (lvX X p.2 rr) false : Ob D) else if rk = 2 then updOf X idN outs (ofOut outs y) 0 else .dead] : List (Ob D)) ++ mkO X outs (ofOut outs y)) z2 m m1 (some b) ([.pointer (some ⟨b, 0, none⟩)] ++ nv) := k2
              have hh := k2.obj 0 _ (.pointer (some ⟨b, 0, none⟩)) rfl rfl
              have apart : ∀ (j : Nat) (o' : Ob D), j ≠ i → O1[j]? = some o' → o'.live = true → ∀ v, vs[j]? = some v → Ap (blkV v) (some b) := fun j o' hji hj hl v hv => g2.ap j i o' o v _ hji hj ho hl r1 hv b1
              have lt1 : ∀ (j : Nat) (o' : Ob D) (v : Value), O1[j]? = some o' → vs[j]? = some v → o'.live = true → ∀ c, blkV v = some c → c < m.next := fun j o' v ho hv hl c hc => ((g2.obj j o' v ho hv).lt hl c hc).1
              have fin : ∀ {O3 : List (Ob D)}, Inv O1 O3 → Mm X.G O3 z2 e m1 k vs → (∀ (j : Nat) (o' : Ob D) (v : Value), O3[j]? = some o' → vs[j]? = some v → o'.live = true → ∀ c, blkV v = some c → c < m.next) → K sv (O3 ++ mkOr X (num1 i O1.length) outs (ofOut outs y)) = some r → Nxt X O z e k vs K r (pack ((resOf VB rvs).map fr2)) m1 := by
                intro O3 hi3 h3 hlt hK
                exact ⟨z2, vs ++ nv, sv, _, (g0.trans hi3).trans (Inv.app _ _), g1.trans (k1.anti hM.st.next), ext_get, after g2 h3 k2 rfl hnew hlt hnum, hres.1, hK⟩
              have turn : ∀ {o3 : Ob D}, o3.tch = true → (∀ v, vs[i]? = some v → ObOk X.G z2 e m1 k vs o3 v) → K sv (O1.set i o3 ++ mkOr X (num1 i O1.length) outs (ofOut outs y)) = some r → Nxt X O z e k vs K r (pack ((resOf VB rvs).map fr2)) m1 := by
                intro o3 ht h3 hK
                refine fin (Inv.set O1 i (.inr ht)) (g2.call k1 s2 s1 (by simp) fun j o' hj => ?_) (fun j o' v hj hv hl c hc => ?_) hK
                · rw [List.getElem?_set] at hj
                  split at hj
                  · rename_i hij
                    subst hij
                    simp [hi0] at hj
                    subst hj
                    exact .inr ⟨o, ho, r1, h3⟩
                  · rename_i hij
                    exact .inl ⟨hj, fun hl v hv => apart j o' (fun e => hij e.symm) hj hl v hv⟩
                · rw [List.getElem?_set] at hj
                  split at hj
                  · rename_i hij
                    subst hij
                    exact lt1 i o v ho hv r1 c hc
                  · exact lt1 j o' v hj hv hl c hc
              refine ⟨he, _, by rw [f5]; exact q1, hres.2, ?_, fun hq => absurd hq (by simp [FD.quiet]), some b, s2.chg, .inr ⟨i, boxes_at hi, _, b1, rfl⟩⟩
              split at h
              · rename_i hk2
                rw [if_neg (by omega), if_pos hk2] at hh
                split at h
                · rename_i t cs w hu
                  obtain ⟨ht, h⟩ := ite_some h
                  rcases updOf_mk (X := X) (its := outs) (x := ofOut outs y) (j := 0) with hd | ⟨_, c', a', _, hd⟩
                  · rw [hd] at hu; cases hu
                  · cases c' with
                    | recv t' =>
                      have hd := hd idN
                      have hd' := hd
                      rw [hu] at hd
                      simp only [OC.mkr] at hd
                      cases hd
                      subst ht
                      rw [hd'] at hh
                      refine turn ?_ (fun v hv => ?_) h
                      · unfold rcvP; split <;> rfl
                      · rw [b1] at hv; cases hv
                        exact (r4 hh).1
                    | _ => rw [hd] at hu; cases hu
                · cases h
              · obtain ⟨hk1, h⟩ := ite_some h
                rw [if_pos hk1] at hh
                split at h
                · rename_i hcl
                  refine fin (Inv.refl O1) (g2.call k1 s2 s1 rfl fun j o' hj => ?_) lt1 h
                  by_cases hji : j = i
                  · subst hji
                    rw [ho] at hj; cases hj
                    exact .inr ⟨o, ho, r1, fun v hv => by rw [b1] at hv; cases hv; exact (r4 hh).2 hcl rfl⟩
                  · exact .inl ⟨hj, fun hl v hv => apart j o' hji hj hl v hv⟩
                · refine turn ?_ (fun v hv => ?_) h
                  · unfold rcvP; split <;> rfl
                  · rw [b1] at hv; cases hv
                    exact (r4 hh).1
            · cases h
          · cases h
        · cases h
    · cases h
  · cases h
structure FE (D : Nat → Type) where
  d : FD D
  F : d.F
def FD.fits (X : Ev P D) (d : FD D) (svs : List (SV D)) (O : List (Ob D)) : Bool :=
  Nat.beq svs.length d.np && match frzA (enumE 0 svs) d.ins O with
  | some (avs, O1) => (d.fx.all fun p => fxT [] p.2 (lkE (enumE 0 svs) p.1)) && (rdB X [] O1 d.ins avs []).isSome
  | none => false
def goCalls (X : Ev P D) : List (FE D) → Nat → List (SV D) → List (Ob D) → {ρ : Type} → (SV D → List (Ob D) → Option ρ) → Option ρ
  | [], _, _, _, _, _ => none
  | x :: l, f, svs, O, _, K => if (Nat.beq x.d.f f && x.d.fits X svs O) = true then x.d.call X x.F svs O K else goCalls X l f svs O K
def goFlat (X : Ev P D) : List (FE D) → Nat → List (SV D) → List (Ob D) → Bool
  | [], _, _, _ => false
  | x :: l, f, svs, O => if (Nat.beq x.d.f f && x.d.fits X svs O) = true then x.d.quiet else goFlat X l f svs O
structure ChQ (D : Nat → Type) where
  F : (f : Nat) → List (SV D) → List (Ob D) → Bool
  U : Operand → Option Operand → Option Operand → Nat
  C : (f : Nat) → List (SV D) → List (Ob D) → {ρ : Type} → (SV D → List (Ob D) → Option ρ) → Option ρ
def Ev.ch (X : Ev P D) (q : ChQ D) : Ev P D := { X with C := q.C, F := q.F, U := q.U }
def Ev.with (X : Ev P D) (l : List (FE D)) : Ev P D := X.ch ⟨goFlat X l, X.U, goCalls X l⟩
def Ev.cuts (X : Ev P D) (f : Operand → Option Operand → Option Operand → Nat) : Ev P D := X.ch ⟨X.F, f, X.C⟩
theorem lvX_with (l : ChQ D) (t : Nat) (x : D t) : lvX (X.ch l) t x = lvX X t x := by
  cases hI : X.I t with
  | none =>
    have h2 : (X.ch l).I t = none := hI
    unfold lvX
    rw [hI, h2]
  | some ti =>
    have h2 : (X.ch l).I t = some ti := hI
    unfold lvX
    rw [hI, h2]
theorem pkX_with (l : ChQ D) (t : Nat) (cs : List (CV D)) : pkX (X.ch l) t cs = pkX X t cs := by
  cases hI : X.I t with
  | none =>
    have h2 : (X.ch l).I t = none := hI
    unfold pkX
    rw [hI, h2]
  | some ti =>
    have h2 : (X.ch l).I t = some ti := hI
    unfold pkX
    rw [hI, h2]
theorem mkCaps_with (l : ChQ D) : ∀ (ts : List Nat) (x : inDs D ts), mkCaps (X.ch l) ts x = mkCaps X ts x
  | [], _ => rfl
  | t :: ts, x => by
    show (t, lvX (X.ch l) t x.1) :: mkCaps (X.ch l) ts x.2 = (t, lvX X t x.1) :: mkCaps X ts x.2
    rw [mkCaps_with l ts x.2, lvX_with l t x.1]
theorem gtCaps_with (l : ChQ D) : ∀ (ts : List Nat) (x : List (Nat × List (CV D))), gtCaps (X.ch l) ts x = gtCaps X ts x
  | [], [] => rfl
  | [], _ :: _ => rfl
  | _ :: _, [] => rfl
  | t :: ts, p :: x => by
    simp only [gtCaps, gtCaps_with l ts x, pkX_with]
theorem Cl.mk_with (l : ChQ D) (c : Cl) (x : c.ty D) : Cl.mk (X.ch l) c x = Cl.mk X c x := by
  cases c with
  | fn f ts => exact congrArg (SV.fn f) (mkCaps_with l ts x)
  | agg t => exact congrArg (SV.agg t) (lvX_with l t x)
  | rp t => exact congrArg (fun cs => SV.rp t cs 0) (lvX_with l t x)
  | _ => rfl
theorem Cl.get_with (l : ChQ D) (c : Cl) (s : SV D) : Cl.get (X.ch l) c s = Cl.get X c s := by
  unfold Cl.get
  split
  · rfl
  · rfl
  · rfl
  · rfl
  · rfl
  · rfl
  · rfl
  · rename_i t t' cs
    exact congrArg (fun q : Option (D t) => if t' = t then q else none) (pkX_with l t cs)
  · rename_i t t' cs off
    exact congrArg (fun q : Option (D t) => if t' = t ∧ off = 0 then q else none) (pkX_with l t cs)
  · rename_i f ts f' cs
    exact congrArg (fun q : Option (inDs D ts) => if f' = f then q else none) (gtCaps_with l ts cs)
  · rfl
  · rfl
theorem OC.mkr_with (l : ChQ D) (τ : Nat → Nat) (c : OC) (x : c.ty D) (w : Bool) : OC.mkr (X.ch l) τ c x w = OC.mkr X τ c x w := by
  cases c with
  | box t => exact congrArg (fun cs => Ob.box t cs false w) (lvX_with l t x)
  | recv t => exact congrArg (fun cs => Ob.recv t cs w) (lvX_with l t x)
  | bx t p => exact congrArg (fun cs => Ob.box t (ownG τ p 0 cs) false w) (lvX_with l t x)
  | _ => rfl
theorem OC.mk_with (l : ChQ D) (c : OC) (x : c.ty D) (w : Bool) : OC.mk (X.ch l) c x w = OC.mk X c x w := OC.mkr_with l _ c x w
theorem OC.get_with (l : ChQ D) (σ : List Nat) (c : OC) (o : Ob D) : OC.get (X.ch l) σ c o = OC.get X σ c o := by
  unfold OC.get
  split
  · rfl
  · rename_i t t' cs w
    exact congrArg (fun q : Option (D t) => if t' = t then q else none) (pkX_with l t cs)
  · rename_i t t' cs w
    exact congrArg (fun q : Option (D t) => if t' = t then q else none) (pkX_with l t cs)
  · rfl
  · rfl
  · rename_i t p t' cs w
    exact congrArg (fun q : Option (D t) => if t' = t ∧ linkB σ cs p = true then q else none) (pkX_with l t (nilG p 0 cs))
  · rfl
  · rfl
theorem rcvG_with (l : ChQ D) (t : Nat) (o : Option (Ob D)) : rcvG (X.ch l) t o = rcvG X t o := by
  unfold rcvG
  split
  · rw [pkX_with]
  · rw [pkX_with]
  · rfl
theorem rdB_with (l : ChQ D) {σ0 : List Nat} : ∀ (its : List It) (avs : List (SV D)) (σ : List Nat), rdB (X.ch l) σ0 O its avs σ = rdB X σ0 O its avs σ
  | [], _, [] => rfl
  | [], _, _ :: _ => by simp [rdB]
  | .v _ _ :: _, [], _ => by simp [rdB]
  | .o _ _ :: _, [], _ => by simp [rdB]
  | .u _ _ :: _, [], _ => by simp [rdB]
  | .v d c :: its, s :: avs, σ => by simp only [rdB, Cl.get_with, rdB_with l its avs σ]
  | .o d c :: its, s :: avs, [] => rfl
  | .o d c :: its, s :: avs, i :: σ => by simp only [rdB, OC.get_with, rdB_with l its avs σ]
  | .u d c :: its, s :: avs, σ => by simp only [rdB, OC.get_with, rdB_with l its avs σ]
theorem mkO_with (l : ChQ D) : ∀ (its : List It) (x : inT D its), mkO (X.ch l) its x = mkO X its x
  | [], _ => rfl
  | .v d c :: its, x => mkO_with l its x.2
  | .u d c :: its, x => mkO_with l its x.2
  | .o d c :: its, x => by
    show OC.mk (X.ch l) c x.1 false :: mkO (X.ch l) its x.2 = OC.mk X c x.1 false :: mkO X its x.2
    rw [mkO_with l its x.2]
    exact congrArg (fun q => q :: mkO X its x.2) (OC.mk_with l c x.1 false)
theorem mkOr_with (l : ChQ D) {τ : Nat → Nat} : ∀ (its : List It) (x : inT D its), mkOr (X.ch l) τ its x = mkOr X τ its x
  | [], _ => rfl
  | .v d c :: its, x => mkOr_with l its x.2
  | .u d c :: its, x => mkOr_with l its x.2
  | .o d c :: its, x => by
    show OC.mkr (X.ch l) τ c x.1 false :: mkOr (X.ch l) τ its x.2 = OC.mkr X τ c x.1 false :: mkOr X τ its x.2
    rw [mkOr_with l its x.2]
    exact congrArg (fun q => q :: mkOr X τ its x.2) (OC.mkr_with l τ c x.1 false)
theorem mkE_with (l : ChQ D) : ∀ (its : List It) (x : inT D its), mkE (X.ch l) its x = mkE X its x
  | [], _ => rfl
  | .v d c :: its, x => by
    show (d, Cl.mk (X.ch l) c x.1) :: mkE (X.ch l) its x.2 = (d, Cl.mk X c x.1) :: mkE X its x.2
    rw [mkE_with l its x.2]
    exact congrArg (fun q => (d, q) :: mkE X its x.2) (Cl.mk_with l c x.1)
  | .u d c :: its, x => mkE_with l its x.2
  | .o d c :: its, x => mkE_with l its x.2
theorem updOf_with (l : ChQ D) {τ : Nat → Nat} : ∀ (its : List It) (x : inT D its) (j : Nat), updOf (X.ch l) τ its x j = updOf X τ its x j
  | [], _, _ => rfl
  | .v d c :: its, x, j => updOf_with l its x.2 j
  | .u d c :: its, x, j => by
    show (if Nat.beq d j = true then OC.mkr (X.ch l) τ c x.1 true else updOf (X.ch l) τ its x.2 j) = (if Nat.beq d j = true then OC.mkr X τ c x.1 true else updOf X τ its x.2 j)
    rw [updOf_with l its x.2 j]
    exact congrArg (fun q => if Nat.beq d j = true then q else updOf X τ its x.2 j) (OC.mkr_with l τ c x.1 true)
  | .o d c :: its, x, j => updOf_with l its x.2 j
theorem call_with (l : ChQ D) (d : FD D) (F : d.F) (svs : List (SV D)) (O : List (Ob D)) {ρ : Type} (K : SV D → List (Ob D) → Option ρ) : d.call (X.ch l) F svs O K = d.call X F svs O K := by
  obtain ⟨f, np, ins, fx, rcv, rk, outs, ofx, res, flat⟩ := d
  unfold FD.call
  dsimp only
  simp only [rdB_with]
  cases rcv with
  | none => simp only [goCall, mkE_with, mkOr_with]
  | some p =>
    simp only [goCall, mkE_with, mkOr_with, updOf_with, rcvG_with, lvX_with]
theorem CallOk.base {l : List (FE D)} {d : FD D} {F : d.F} (h : CallOk (X.with l) d F) : CallOk X d F := by
  intro svs O ρ K r z e m k vs args hM hL hc
  rw [← call_with ⟨goFlat X l, X.U, goCalls X l⟩] at hc
  exact h svs O K r args hM hL hc
theorem COk.cuts {f : Operand → Option Operand → Option Operand → Nat} (h : COk X) : COk (X.cuts f) := h
theorem CallOk.cuts {f : Operand → Option Operand → Option Operand → Nat} {d : FD D} {F : d.F} (h : CallOk (X.cuts f) d F) : CallOk X d F := by
  intro svs O ρ K r z e m k vs args hM hL hc
  rw [← call_with ⟨X.F, f, X.C⟩] at hc
  exact h svs O K r args hM hL hc
theorem goCalls_ok {f : Nat} {svs : List (SV D)} {K : SV D → List (Ob D) → Option ρ} {args : List Value} (hM : Mm X.G O z e m k vs) (hL : L2 (rel X.G z vs) svs args) : ∀ {l : List (FE D)}, (∀ x ∈ l, CallOk X x.d x.F) → goCalls X l f svs O K = some r → CallW P f args.toArray m fun v m' => Nxt X O z e k vs K r v m' ∧ (goFlat X l f svs O = true → m' = m) ∧ ∃ q, Chg m m' q ∧ TgtQ vs (boxesOf svs) q
  | [], _, hc => by cases hc
  | x :: l, h, hc => by
    unfold goCalls at hc
    unfold goFlat
    split at hc
    · rename_i hx
      rw [if_pos hx]
      simp only [Bool.and_eq_true] at hx
      have := Nat.eq_of_beq_eq_true hx.1
      subst this
      exact h x List.mem_cons_self svs O K r args hM hL hc
    · rename_i hx
      rw [if_neg hx]
      exact goCalls_ok hM hL (fun y hy => h y (List.mem_cons_of_mem _ hy)) hc
theorem COk.of {l : List (FE D)} (h : ∀ x ∈ l, CallOk X x.d x.F) : COk (X.with l) := by
  intro f svs O ρ K r z e m k vs args hM hL hc
  exact goCalls_ok (X := X) hM hL h hc
theorem all_call {l : List (FE D)} {x : FE D} (h : CallOk (X.with l) x.d x.F) (hl : ∀ y ∈ l, CallOk X y.d y.F) : ∀ y ∈ x :: l, CallOk X y.d y.F := by
  intro y hy
  rcases List.mem_cons.1 hy with rfl | hy
  · exact h.base
  · exact hl y hy
theorem all_cons {l : List (FE D)} {x : FE D} (h : FOk P (X.with l) x.d x.F) (hl : ∀ y ∈ l, CallOk X y.d y.F) : ∀ y ∈ x :: l, CallOk X y.d y.F := by
  intro y hy
  rcases List.mem_cons.1 hy with rfl | hy
  · exact h.call.base
  · exact hl y hy
end
end
end Go.AM
end
section
set_option linter.unusedSimpArgs false
set_option linter.unusedVariables false
namespace Go.AM
inductive LT : Type 1 where
  | int (k : IntKind) | bool | str
  | sl (α : Type) (T : Ty α)
def LT.ty : LT → Type
  | .int _ => Int
  | .bool => Bool
  | .str => List UInt8
  | .sl α _ => List α
def LT.rd (z : Nat → Blk) : (l : LT) → l.ty → Value → Prop
  | .int k, n, v => v = .int k n
  | .bool, b, v => v = .bool b
  | .str, s, v => v = AM.str s
  | .sl _ T, xs, v => SlR T z xs v
def inL : List LT → Type
  | [] => Unit
  | l :: ls => l.ty × inL ls
def rdL (z : Nat → Blk) : (ls : List LT) → inL ls → List Value → Prop
  | [], _, [] => True
  | l :: ls, x, v :: vs => l.rd z x.1 v ∧ rdL z ls x.2 vs
  | _, _, _ => False
theorem rdL_len {z : Nat → Blk} : ∀ {ls : List LT} {x : inL ls} {cs : List Value}, rdL z ls x cs → cs.length = ls.length
  | [], _, [], _ => rfl
  | l :: ls, x, v :: vs, h => by simp [rdL_len h.2]
  | [], _, _ :: _, h => h.elim
  | _ :: _, _, [], h => h.elim
theorem rdL_mono {z z' : Nat → Blk} (hz : Zle z z') : ∀ {ls : List LT} {x : inL ls} {cs : List Value}, rdL z ls x cs → rdL z' ls x cs
  | [], _, [], _ => trivial
  | l :: ls, x, v :: vs, h => ⟨by
    have h1 := h.1
    cases l with
    | sl α T => exact SlR.mono hz h1
    | _ => exact h1, rdL_mono hz h.2⟩
  | [], _, _ :: _, h => h.elim
  | _ :: _, _, [], h => h.elim
theorem rdL_one {z : Nat → Blk} : ∀ {ls : List LT} {x : inL ls} {cs : List Value}, rdL z ls x cs → ∀ c ∈ cs, storable c = true ∧ c.cells = #[c]
  | [], _, [], _, c, hc => by simp at hc
  | l :: ls, x, v :: vs, h, c, hc => by
    rcases List.mem_cons.1 hc with rfl | hc
    · have h1 := h.1
      cases l with
      | sl α T => obtain ⟨a, c, rfl⟩ := SlR.len h1; exact ⟨rfl, rfl⟩
      | _ => obtain rfl := h1; exact ⟨rfl, rfl⟩
    · exact rdL_one h.2 c hc
  | [], _, _ :: _, h, _, _ => h.elim
  | _ :: _, _, [], h, _, _ => h.elim
def TyOf (t : TypeId) (ls : List LT) {α : Type} (to : α → inL ls) : Ty α where
  sz := ls.length
  tid := t
  rd := fun z x cs => rdL z ls (to x) cs
  len := fun _ _ _ h => rdL_len h
  mono := fun _ _ hz _ _ h => rdL_mono hz h
  one := fun _ _ _ h => rdL_one h
noncomputable section
inductive LC where
  | int (k : IntKind) | bool | str
  | sl (e : Nat)
section
variable {P : Program} {D : Nat → Type} (G : Tab D)
def LC.lt : LC → LT
  | .int k => .int k
  | .bool => .bool
  | .str => .str
  | .sl e => .sl (D e) (G.T e)
def toT : List LC → List LT
  | [] => []
  | c :: cs => c.lt G :: toT cs
def lvL : (ls : List LC) → inL (toT G ls) → List (CV D)
  | [], _ => []
  | .int k :: ls, x => .int k x.1 :: lvL ls x.2
  | .bool :: ls, x => .bool x.1 :: lvL ls x.2
  | .str :: ls, x => .str x.1 :: lvL ls x.2
  | .sl e :: ls, x => .sl e x.1 :: lvL ls x.2
def pkL : (ls : List LC) → List (CV D) → Option (inL (toT G ls))
  | [], [] => some ()
  | .int k :: ls, .int k' n :: cs => if k' = k then (match pkL ls cs with | some y => some (n, y) | none => none) else none
  | .bool :: ls, .bool b :: cs => (match pkL ls cs with | some y => some (b, y) | none => none)
  | .str :: ls, .str s :: cs => (match pkL ls cs with | some y => some (s, y) | none => none)
  | .sl e :: ls, .sl e' xs :: cs => if h : e' = e then (match pkL ls cs with | some y => some ((h ▸ xs : List (D e)), y) | none => none) else none
  | .sl e :: ls, .nilS :: cs => (match pkL ls cs with | some y => some (([] : List (D e)), y) | none => none)
  | _, _ => none
variable {G}
theorem lvL_ok {z : Nat → Blk} {vs : List Value} : ∀ {ls : List LC} {x : inL (toT G ls)} {cs : List Value}, rdL z (toT G ls) x cs → L2 (rel0 G z vs) (lvL G ls x) cs
  | [], _, [], _ => trivial
  | .int k :: ls, x, v :: w, h => ⟨h.1, lvL_ok h.2⟩
  | .bool :: ls, x, v :: w, h => ⟨h.1, lvL_ok h.2⟩
  | .str :: ls, x, v :: w, h => ⟨h.1, lvL_ok h.2⟩
  | .sl e :: ls, x, v :: w, h => ⟨h.1, lvL_ok h.2⟩
  | [], _, _ :: _, h => h.elim
  | .int _ :: _, _, [], h => h.elim
  | .bool :: _, _, [], h => h.elim
  | .str :: _, _, [], h => h.elim
  | .sl _ :: _, _, [], h => h.elim
theorem pkL_lv : ∀ {ls : List LC} (x : inL (toT G ls)), pkL G ls (lvL G ls x) = some x
  | [], _ => rfl
  | .int k :: ls, x => by
    show (if k = k then (match pkL G ls (lvL G ls x.2) with | some y => some (x.1, y) | none => none) else none) = _
    rw [pkL_lv x.2, if_pos rfl]; rfl
  | .bool :: ls, x => by
    show (match pkL G ls (lvL G ls x.2) with | some y => some (x.1, y) | none => none) = _
    rw [pkL_lv x.2]; rfl
  | .str :: ls, x => by
    show (match pkL G ls (lvL G ls x.2) with | some y => some (x.1, y) | none => none) = _
    rw [pkL_lv x.2]; rfl
  | .sl e :: ls, x => by
    show (if h : e = e then (match pkL G ls (lvL G ls x.2) with | some y => some ((h ▸ x.1 : List (D e)), y) | none => none) else none) = _
    rw [pkL_lv x.2, dif_pos rfl]; rfl
theorem pkL_ok {z : Nat → Blk} {vs : List Value} : ∀ {ls : List LC} {cs : List (CV D)} {x : inL (toT G ls)} {ds : List Value}, pkL G ls cs = some x → L2 (rel0 G z vs) cs ds → rdL z (toT G ls) x ds := by
  intro ls
  induction ls with
  | nil =>
    intro cs x ds h hr
    cases cs with
    | nil => cases ds with
      | nil => trivial
      | cons _ _ => exact hr.elim
    | cons c cs => cases h
  | cons l ls ih =>
    intro cs x ds h hr
    cases cs with
    | nil => cases l <;> cases h
    | cons c cs =>
      cases ds with
      | nil => exact hr.elim
      | cons d ds =>
        obtain ⟨h1, h2⟩ := hr
        have fin : ∀ {α : Type} {f : inL (toT G ls) → α} {o : Option (inL (toT G ls))} {r : α}, (match o with | some y => some (f y) | none => none) = some r → ∃ y, o = some y ∧ r = f y := by
          intro α f o r h
          cases o with
          | none => cases h
          | some y => cases h; exact ⟨y, rfl, rfl⟩
        cases l with
        | int k =>
          cases c with
          | int k' n =>
            obtain ⟨hk, h⟩ := ite_some (α := inL (toT G (.int k :: ls))) h
            subst hk
            obtain ⟨y, hy, rfl⟩ := fin h
            exact ⟨h1, ih hy h2⟩
          | _ => cases h
        | bool =>
          cases c with
          | bool n =>
            obtain ⟨y, hy, rfl⟩ := fin h
            exact ⟨h1, ih hy h2⟩
          | _ => cases h
        | str =>
          cases c with
          | str n =>
            obtain ⟨y, hy, rfl⟩ := fin h
            exact ⟨h1, ih hy h2⟩
          | _ => cases h
        | sl t =>
          cases c with
          | sl e' xs =>
            by_cases hk : e' = t
            · subst hk
              have h : (if h : e' = e' then (match pkL G ls cs with | some y => some ((h ▸ xs : List (D e')), y) | none => none) else none) = some x := h
              rw [dif_pos rfl] at h
              obtain ⟨y, hy, rfl⟩ := fin h
              exact ⟨h1, ih hy h2⟩
            · have h : (if h : e' = t then (match pkL G ls cs with | some y => some ((h ▸ xs : List (D t)), y) | none => none) else none) = some x := h
              rw [dif_neg hk] at h
              cases h
          | nilS =>
            obtain ⟨y, hy, rfl⟩ := fin h
            exact ⟨.inl ⟨h1, rfl⟩, ih hy h2⟩
          | _ => cases h
theorem pkL_n : ∀ {ls : List LC} {cs : List (CV D)} {x : inL (toT G ls)}, pkL G ls cs = some x → MtC cs (lvL G ls x) := by
  intro ls
  induction ls with
  | nil =>
    intro cs x h
    cases cs with
    | nil => trivial
    | cons c cs => cases h
  | cons l ls ih =>
    intro cs x h
    cases cs with
    | nil => cases l <;> cases h
    | cons c cs =>
      have fin : ∀ {α : Type} {f : inL (toT G ls) → α} {o : Option (inL (toT G ls))} {r : α}, (match o with | some y => some (f y) | none => none) = some r → ∃ y, o = some y ∧ r = f y := by
        intro α f o r h
        cases o with
        | none => cases h
        | some y => cases h; exact ⟨y, rfl, rfl⟩
      cases l with
      | int k =>
        cases c with
        | int k' n =>
          obtain ⟨hk, h⟩ := ite_some (α := inL (toT G (.int k :: ls))) h
          subst hk
          obtain ⟨y, hy, rfl⟩ := fin h
          exact ⟨fun _ => rfl, ih hy⟩
        | _ => cases h
      | bool =>
        cases c with
        | bool n =>
          obtain ⟨y, hy, rfl⟩ := fin h
          exact ⟨fun _ => rfl, ih hy⟩
        | _ => cases h
      | str =>
        cases c with
        | str n =>
          obtain ⟨y, hy, rfl⟩ := fin h
          exact ⟨fun _ => rfl, ih hy⟩
        | _ => cases h
      | sl t =>
        cases c with
        | sl e' xs =>
          by_cases hk : e' = t
          · subst hk
            have h : (if h : e' = e' then (match pkL G ls cs with | some y => some ((h ▸ xs : List (D e')), y) | none => none) else none) = some x := h
            rw [dif_pos rfl] at h
            obtain ⟨y, hy, rfl⟩ := fin h
            exact ⟨fun _ => rfl, ih hy⟩
          · have h : (if h : e' = t then (match pkL G ls cs with | some y => some ((h ▸ xs : List (D t)), y) | none => none) else none) = some x := h
            rw [dif_neg hk] at h
            cases h
        | nilS =>
          obtain ⟨y, hy, rfl⟩ := fin h
          exact ⟨fun h => (by cases h), ih hy⟩
        | _ => cases h
theorem toT_len : ∀ {ls : List LC}, (toT G ls).length = ls.length
  | [] => rfl
  | l :: ls => by simp [toT, toT_len]
def zcL : List LC → List (CV D)
  | [] => []
  | .int k :: ls => .int k 0 :: zcL ls
  | .bool :: ls => .bool false :: zcL ls
  | .str :: ls => .str [] :: zcL ls
  | .sl _ :: ls => .nilS :: zcL ls
def zvL : List LC → List Value
  | [] => []
  | .int k :: ls => .int k 0 :: zvL ls
  | .bool :: ls => .bool false :: zvL ls
  | .str :: ls => .string ⟨#[]⟩ :: zvL ls
  | .sl _ :: ls => .slice none 0 0 :: zvL ls
theorem zcL_ok {z : Nat → Blk} {vs : List Value} : ∀ {ls : List LC}, L2 (rel0 G z vs) (zcL ls : List (CV D)) (zvL ls)
  | [] => trivial
  | .int k :: ls => ⟨rfl, zcL_ok⟩
  | .bool :: ls => ⟨rfl, zcL_ok⟩
  | .str :: ls => ⟨rfl, zcL_ok⟩
  | .sl _ :: ls => ⟨rfl, zcL_ok⟩
theorem lvL_own : ∀ {ls : List LC} {x : inL (toT G ls)}, (lvL G ls x).all nOwn = true
  | [], _ => rfl
  | .int k :: ls, x => by simp only [lvL, List.all_cons, lvL_own, nOwn, Bool.and_self]
  | .bool :: ls, x => by simp only [lvL, List.all_cons, lvL_own, nOwn, Bool.and_self]
  | .str :: ls, x => by simp only [lvL, List.all_cons, lvL_own, nOwn, Bool.and_self]
  | .sl _ :: ls, x => by simp only [lvL, List.all_cons, lvL_own, nOwn, Bool.and_self]
def tiOf {t : Nat} (ls : List LC) (to : D t → inL (toT G ls)) (of : inL (toT G ls) → D t) (h1 : ∀ x, of (to x) = x) (h2 : ∀ y, to (of y) = y) (x0 : D t) (i : TypeInfo) (zv : Value)
    (hT : G.T t = TyOf t (toT G ls) to) (hi : P.info? t = some i) (hsz : i.size = ls.length) (hpos : (ls.length == 0) = false) (hby : Nat.ble i.bytes 32768 = true) (hz : i.zero = some zv) (hzf : zv.cells.toList.all flat0 = true) (hzs : zv.cells.size = i.size)
    (rd0 : ∀ z, rdL z (toT G ls) (to x0) zv.cells.toList) (hzv : zv.cells.toList = zvL ls) : TI P G t where
  zc := zcL ls
  hzc := fun z vs => by rw [hzv]; exact zcL_ok
  lvo := fun x => lvL_own
  lv := fun x => lvL G ls (to x)
  pk := fun cs => match pkL G ls cs with | some y => some (of y) | none => none
  x0 := x0
  i := i
  zv := zv
  tid := by rw [hT]; rfl
  hi := hi
  hsz := by rw [hT, hsz]; exact toT_len.symm
  hpos := by
    rw [hT]
    show ((toT G ls).length == 0) = false
    rw [toT_len]; exact hpos
  hby := hby
  hz := hz
  hzf := hzf
  hzs := hzs
  rd0 := fun z => by rw [hT]; exact rd0 z
  rdl := fun z vs x cs h => by rw [hT] at h; exact lvL_ok h
  pkl := fun z vs cs x ds h hr => by
    rw [hT]
    split at h
    · rename_i y hy
      cases h
      show rdL z (toT G ls) (to (of y)) ds
      rw [h2]; exact pkL_ok hy hr
    · cases h
  pklv := fun x => by
    show (match pkL G ls (lvL G ls (to x)) with | some y => some (of y) | none => none) = some x
    rw [pkL_lv]; exact congrArg some (h1 x)
  pkn := fun cs x h => by
    split at h
    · rename_i y hy
      cases h
      rw [h2]; exact pkL_n hy
    · cases h
def lvV : (ls : List LC) → inL (toT G ls) → List Value
  | [], _ => []
  | .int k :: ls, x => .int k x.1 :: lvV ls x.2
  | .bool :: ls, x => .bool x.1 :: lvV ls x.2
  | .str :: ls, x => AM.str x.1 :: lvV ls x.2
  | .sl _ :: ls, x => undef :: lvV ls x.2
def scalLC (P : Program) : List Field → Nat → List LC → Bool
  | [], _, [] => true
  | f :: fs, i, .int _ :: ls => (f.offset == i && f.name != "_") && ((match P.underlying f.type with | some (.int _) => true | _ => false) && scalLC P fs (i + 1) ls)
  | f :: fs, i, .bool :: ls => (f.offset == i && f.name != "_") && ((match P.underlying f.type with | some .bool => true | _ => false) && scalLC P fs (i + 1) ls)
  | f :: fs, i, .str :: ls => (f.offset == i && f.name != "_") && ((match P.underlying f.type with | some .string => true | _ => false) && scalLC P fs (i + 1) ls)
  | _, _, _ => false
theorem scalLC_ok : ∀ {fs : List Field} {i : Nat} {ls : List LC} {x y : inL (toT G ls)}, scalLC P fs i ls = true → ScalF P fs i (lvV ls x) (lvV ls y)
  | [], _, [], _, _, _ => trivial
  | f :: fs, i, .int k :: ls, x, y, h => by
    simp only [scalLC, Bool.and_eq_true, beq_iff_eq, bne_iff_ne] at h
    obtain ⟨⟨h1, h2⟩, h3, h4⟩ := h
    refine ⟨h1, h2, .inl ?_, scalLC_ok h4⟩
    split at h3
    · exact ⟨k, _, _, _, ‹_›, rfl, rfl⟩
    · cases h3
  | f :: fs, i, .bool :: ls, x, y, h => by
    simp only [scalLC, Bool.and_eq_true, beq_iff_eq, bne_iff_ne] at h
    obtain ⟨⟨h1, h2⟩, h3, h4⟩ := h
    refine ⟨h1, h2, .inr (.inl ?_), scalLC_ok h4⟩
    split at h3
    · exact ⟨_, _, ‹_›, rfl, rfl⟩
    · cases h3
  | f :: fs, i, .str :: ls, x, y, h => by
    simp only [scalLC, Bool.and_eq_true, beq_iff_eq, bne_iff_ne] at h
    obtain ⟨⟨h1, h2⟩, h3, h4⟩ := h
    refine ⟨h1, h2, .inr (.inr ?_), scalLC_ok h4⟩
    split at h3
    · exact ⟨_, _, ‹_›, rfl, rfl⟩
    · cases h3
  | _ :: _, _, .sl _ :: _, _, _, h => by cases h
  | [], _, _ :: _, _, _, h => by cases h
  | _ :: _, _, [], _, _, h => by cases h
theorem lvV_inj : ∀ {fs : List Field} {i : Nat} {ls : List LC} {x y : inL (toT G ls)}, scalLC P fs i ls = true → lvV ls x = lvV ls y → x = y
  | _, _, [], _, _, _, _ => rfl
  | f :: fs, i, .int k :: ls, x, y, h, e => by
    simp only [scalLC, Bool.and_eq_true] at h
    simp only [lvV, List.cons.injEq] at e
    exact Prod.ext (Value.int.inj e.1).2 (lvV_inj h.2.2 e.2)
  | f :: fs, i, .bool :: ls, x, y, h, e => by
    simp only [scalLC, Bool.and_eq_true] at h
    simp only [lvV, List.cons.injEq] at e
    exact Prod.ext (Value.bool.inj e.1) (lvV_inj h.2.2 e.2)
  | f :: fs, i, .str :: ls, x, y, h, e => by
    simp only [scalLC, Bool.and_eq_true] at h
    simp only [lvV, List.cons.injEq] at e
    exact Prod.ext (str_inj e.1) (lvV_inj h.2.2 e.2)
  | _ :: _, _, .sl _ :: _, _, _, h, _ => by cases h
  | [], _, .sl _ :: _, _, _, h, _ => by cases h
  | [], _, .int _ :: _, _, _, h, _ => by cases h
  | [], _, .bool :: _, _, _, h, _ => by cases h
  | [], _, .str :: _, _, _, h, _ => by cases h
theorem lvV_rd {z : Nat → Blk} : ∀ {fs : List Field} {i : Nat} {ls : List LC} {x : inL (toT G ls)} {ds : List Value}, scalLC P fs i ls = true → rdL z (toT G ls) x ds → ds = lvV ls x
  | _, _, [], _, [], _, _ => rfl
  | _, _, [], _, _ :: _, _, h => h.elim
  | f :: fs, i, .int k :: ls, x, d :: ds, h, e => by
    simp only [scalLC, Bool.and_eq_true] at h
    have h1 : d = .int k x.1 := e.1
    rw [lvV, h1, ← lvV_rd h.2.2 e.2]
  | f :: fs, i, .bool :: ls, x, d :: ds, h, e => by
    simp only [scalLC, Bool.and_eq_true] at h
    have h1 : d = .bool x.1 := e.1
    rw [lvV, h1, ← lvV_rd h.2.2 e.2]
  | f :: fs, i, .str :: ls, x, d :: ds, h, e => by
    simp only [scalLC, Bool.and_eq_true] at h
    have h1 : d = AM.str x.1 := e.1
    rw [lvV, h1, ← lvV_rd h.2.2 e.2]
  | _ :: _, _, .sl _ :: _, _, _, h, _ => by cases h
  | [], _, _ :: _, _, _, h, _ => by cases h
  | _ :: _, _, .int _ :: _, _, [], _, h => h.elim
  | _ :: _, _, .bool :: _, _, [], _, h => h.elim
  | _ :: _, _, .str :: _, _, [], _, h => h.elim
def qiOf {t : Nat} (ls : List LC) (to : D t → inL (toT G ls)) (of : inL (toT G ls) → D t) (h1 : ∀ x, of (to x) = x) (fs : Array Field) (eq : D t → D t → Bool) (hT : G.T t = TyOf t (toT G ls) to) (he : ∀ x y, eq x y = true ↔ x = y)
    (ht : P.underlying t = some (.struct fs)) (hp : P.stoodInHeld t = false) (hg : P.eqGuardType P.depth t = false) (hs : scalLC P fs.toList 0 ls = true) : QI P G t where
  fs := fs
  eq := eq
  va := fun x => lvV ls (to x)
  ht := ht
  hp := hp
  hg := hg
  hs := fun x y => scalLC_ok hs
  hv := fun z x ds h => by rw [hT] at h; exact lvV_rd hs h
  he := fun x y => by
    rw [he]
    constructor
    · rintro rfl; rfl
    · intro h
      have := lvV_inj hs h
      rw [← h1 x, ← h1 y, this]
structure KI (P : Program) (G : Tab D) (kt : Nat) where
  dec : DecidableEq (D kt)
  K : KeyOk P kt (G.kc kt)
  kget : SV D → Option (D kt)
  hkg : ∀ z vs s a v, kget s = some a → rel G z vs s v → v = cellV (tyAgg P kt) (G.kc kt a)
structure VI (P : Program) (G : Tab D) (vt : Nat) where
  V : ValOk P vt (G.kc vt)
  vget : CV D → Option (D vt)
  vput : D vt → CV D
  z0 : D vt
  i : TypeInfo
  hi : P.info? vt = some i
  hvn : tyAgg P vt = false
  hz : i.zero = some (cellV false (G.kc vt z0))
  hvg : ∀ z vs c a v, vget c = some a → rel0 G z vs c v → v = cellV false (G.kc vt a)
  hvp : ∀ z vs a, rel0 G z vs (vput a) (cellV false (G.kc vt a))
theorem pc_cons {X : Ev P D} {B : Code} {u : Pc D} {us : List (Pc D)} (h : PcOk X B u) (hs : ∀ v ∈ us, PcOk X B v) : ∀ v ∈ u :: us, PcOk X B v := by
  intro v hv
  rcases List.mem_cons.1 hv with rfl | hv
  · exact h
  · exact hs v hv
theorem pc_nil {X : Ev P D} {B : Code} : ∀ v ∈ ([] : List (Pc D)), PcOk X B v := by simp
theorem CallOk.law {X : Ev P D} {d : FD D} {F : d.F} (hF : CallOk X d F) {m : Mem} {z : Nat → Blk} (hz : Fz z m) (hd : ∀ b, m.next ≤ b → m.blk b = .dead) {svs : List (SV D)} {args : List Value} (hL : L2 (rel X.G z []) svs args)
    (h : d.call X F svs [] (fun sv _ => some sv) = some (.c (.bool true))) : CallW P d.f args.toArray m fun v _ => v = .bool true := by
  have hM : Mm X.G ([] : List (Ob D)) z m m none [] := ⟨St.start hz hd, rfl, by simp, by simp⟩
  refine (hF svs [] (fun sv _ => some sv) _ args hM hL h).mono fun v m' hv => ?_
  obtain ⟨⟨z', vs', sv, O', _, _, _, _, hr, hK⟩, _⟩ := hv
  cases hK
  exact hr
end
end
end Go.AM
end
section
set_option linter.unusedSimpArgs false
set_option linter.unusedVariables false
set_option linter.unusedSectionVars false
namespace Go.AM
open Go.Sort Go.Shelf Go.Proofs
noncomputable def srtL {α : Type} [Inhabited α] (cf : α → α → Int) (xs : List α) : List α := (pdq (ltOf cf) xs.toArray 0 xs.toArray.size (Lib.bitLen xs.toArray.size) true true).toList
noncomputable def srtI {α : Type} [Inhabited α] (cf : α → α → Int) (xs : List α) : Option (List α) := if xs.length < 4611686018427387904 then some (srtL cf xs) else none
def cmpI (x y : Int) : Int := Lib.compareInt x y
section
variable {α : Type} [Inhabited α]
theorem cmpI_lt (x y : Int) : decide (cmpI x y < 0) = decide (x < y) := by
  unfold cmpI Lib.compareInt
  by_cases h1 : x < y
  · simp [h1]
  · by_cases h2 : x > y <;> simp [h1, h2]
theorem swo_key (f : α → Int) : SWO (ltOf fun x y => cmpI (f x) (f y)) := by
  have e : ∀ x y, ltOf (fun x y => cmpI (f x) (f y)) x y = decide (f x < f y) := fun x y => cmpI_lt _ _
  refine ⟨fun x => ?_, fun x y z h1 h2 => ?_, fun x y z h1 h2 => ?_⟩
  · rw [e]; simp
  · rw [e] at *; simp at *; omega
  · rw [e] at *; simp at *; omega
theorem srtL_sorts (cf : α → α → Int) (hO : SWO (ltOf cf)) (xs : List α) : PermIn 0 xs.length xs.toArray (srtL cf xs).toArray ∧ SortedIn (ltOf cf) 0 xs.length (srtL cf xs).toArray := by
  have h := pdq_sorts (ltOf cf) hO xs.toArray 0 xs.toArray.size (Lib.bitLen xs.toArray.size) true true (Nat.zero_le _) (Nat.le_refl _) (Or.inl rfl)
  have e : (srtL cf xs).toArray = pdq (ltOf cf) xs.toArray 0 xs.toArray.size (Lib.bitLen xs.toArray.size) true true := by unfold srtL; simp
  rw [e]
  simpa using h
theorem srtL_len (cf : α → α → Int) (hO : SWO (ltOf cf)) (xs : List α) : (srtL cf xs).length = xs.length := by
  have := (srtL_sorts cf hO xs).1.1
  simpa using this
theorem srtL_perm (cf : α → α → Int) (hO : SWO (ltOf cf)) (xs : List α) : (srtL cf xs).Perm xs := by
  have h := (srtL_sorts cf hO xs).1
  have hl := srtL_len cf hO xs
  have h2 := h.2.2
  have e1 : ((srtL cf xs).toArray.extract 0 xs.length).toList = srtL cf xs := by simp [← hl]
  have e2 : (xs.toArray.extract 0 xs.length).toList = xs := by simp
  rw [e1, e2] at h2
  exact h2
theorem srtL_sorted (f : α → Int) (xs : List α) : (srtL (fun x y => cmpI (f x) (f y)) xs).Pairwise fun x y => f x ≤ f y := by
  have hO := swo_key f
  have h := (srtL_sorts _ hO xs).2
  have hl := srtL_len _ hO xs
  rw [List.pairwise_iff_getElem]
  intro i j hi hj hij
  have := h i j (Nat.zero_le _) hij (by omega)
  have e : ∀ x y, ltOf (fun x y => cmpI (f x) (f y)) x y = decide (f x < f y) := fun x y => cmpI_lt _ _
  rw [e] at this
  have hi' : (srtL (fun x y => cmpI (f x) (f y)) xs).toArray[i]! = (srtL (fun x y => cmpI (f x) (f y)) xs)[i] := by rw [getElem!_pos _ _ (by simpa using hi)]; simp
  have hj' : (srtL (fun x y => cmpI (f x) (f y)) xs).toArray[j]! = (srtL (fun x y => cmpI (f x) (f y)) xs)[j] := by rw [getElem!_pos _ _ (by simpa using hj)]; simp
  rw [hi', hj'] at this
  simp at this
  omega
theorem flatK_get {enc : α → List Value} {k : Nat} (hk : ∀ x, (enc x).length = k) : ∀ (xs : List α) (t : Nat), t < xs.length * k → (xs.flatMap enc)[t]? = some ((enc xs.toArray[t / k]!)[t % k]!)
  | [], t, h => by simp at h
  | x :: xs, t, h => by
    have k0 : 0 < k := by rcases Nat.eq_zero_or_pos k with h0 | h0; · subst h0; simp at h
                          · exact h0
    rw [List.flatMap_cons, List.getElem?_append]
    split
    · rename_i hlt
      rw [hk] at hlt
      have h1 : t / k = 0 := Nat.div_eq_of_lt hlt
      have h2 : t % k = t := Nat.mod_eq_of_lt hlt
      rw [h1, h2]
      have : t < (enc x).length := by rw [hk]; exact hlt
      simp [List.getElem?_eq_getElem this, getElem!_pos (enc x) t this]
    · rename_i hge
      rw [hk] at hge ⊢
      have hge : k ≤ t := by omega
      rw [flatK_get hk xs (t - k) (by simp only [List.length_cons, Nat.add_mul] at h; omega)]
      have h1 : t / k = (t - k) / k + 1 := by rw [← Nat.sub_add_cancel hge, Nat.add_div_right _ k0]; simp
      have h2 : t % k = (t - k) % k := by rw [← Nat.sub_add_cancel hge, Nat.add_mod_right]; simp
      have hlt : (t - k) / k < xs.length := by
        rw [Nat.div_lt_iff_lt_mul k0]
        simp only [List.length_cons, Nat.add_mul] at h; omega
      rw [h1, h2]
      congr 3
      simp [getElem!_pos xs.toArray ((t - k) / k) (by simpa using hlt), getElem!_pos (x :: xs).toArray ((t - k) / k + 1) (by simpa using hlt)]
theorem flatK_len {enc : α → List Value} {k : Nat} (hk : ∀ x, (enc x).length = k) (xs : List α) : (xs.flatMap enc).length = xs.length * k := by
  induction xs with
  | nil => simp
  | cons x xs ih => rw [List.flatMap_cons, List.length_append, hk, ih, List.length_cons, Nat.add_mul]; omega
variable {P : Program} {ρ : Ren}
theorem sortW_of (L : SlLaysF0.n6 P ρ) {f g k : Nat} (hf : ρ.f 6 = f) (aE : ∀ w, (isAgg (ρ.t 24)).run P w = .ok true w) (zE : ∀ w, (Go.sizeOf (ρ.t 24)).run P w = .ok k w) (enc : α → List Value) (hk : ∀ x, (enc x).length = k) (h1 : ∀ x, (enc x).all flat0 = true)
    (cf : α → α → Int) (hO : SWO (ltOf cf)) (eg : ∀ args w, (callFunc g args).run P w = .ok (.enter g args) w)
    (hcl : ∀ (x y : α) (W : World), Calls P g #[.agg (enc x).toArray, .agg (enc y).toArray] W fun e w' => e = .returned (.int .i64 (cf x y)) ∧ ∃ q os', w' = grow (W.drewN q) os')
    (xs : List α) (hsz : xs.length < 4611686018427387904) (hk0 : 0 < k) (hx0 : 0 < xs.length) : sortW P f (.func (.func g) #[] #[]) xs.length (xs.flatMap enc) ((srtL cf xs).flatMap enc) := by
  subst hf
  intro w blk off cap cs t fz hw hF hfz
  have hlF := flatK_len hk xs
  have hH : HoldsK enc k w blk off xs.toArray := by
    intro j hj
    rw [size_flatK] at hj
    have hj : j < xs.length * k := by simpa using hj
    have hg := flatK_get hk xs j hj
    have hc := hF j _ hg
    have hlt : off + j < cs.size := (Array.getElem?_eq_some_iff.1 hc).1
    refine ⟨?_, ?_⟩
    · rw [get_flatK enc k xs.toArray j (by simpa using hj)]
      simp [World.cell?, hw, hc]
    · simp only [World.frozen?, hw]
      have := hfz (off + j) hlt
      simp only [Bool.and_eq_false_iff, decide_eq_false_iff_not]
      by_cases h1 : fz.1 ≤ off + j
      · right; exact fun h2 => this ⟨h1, h2⟩
      · left; exact h1
  have hblk : blk < w.heap.size := by
    rcases Nat.lt_or_ge blk w.heap.size with h | h
    · exact h
    · rw [Array.getElem?_eq_none h] at hw; cases hw
  have hcell : ∀ x, ∀ v ∈ enc x, v.oneCell' = true := fun x v hv => (flat0_VR0 (j := fun _ => none) (List.all_eq_true.1 (h1 x) v hv)).one
  refine (AnyQ.slices_SortFunc_eq L k aE zE enc hk hcell cf hO g #[] blk off cap xs.toArray w eg (fun m os dk _ x y => hcl x y _) hH hblk (by simpa using hsz)).mono ?_
  rintro e w' ⟨rfl, n, os, rfl⟩
  have hp : (pdq (ltOf cf) xs.toArray 0 xs.toArray.size (Lib.bitLen xs.toArray.size) true true) = (srtL cf xs).toArray := by unfold srtL; simp
  rw [hp]
  have hls := srtL_len cf hO xs
  have hsize : (sortWorldK enc k w blk off n (srtL cf xs).toArray os).heap.size = w.heap.size + os.size := by
    simp [sortWorldK, grow, putRowK, putRow, mapBlock, Sort.ahead]
  have hget : ∀ c, c < w.heap.size → (sortWorldK enc k w blk off n (srtL cf xs).toArray os).heap[c]? = (w.heap.modify blk (onCells (putCells id off (flatK enc k (srtL cf xs).toArray))))[c]? := by
    intro c hc
    simp only [sortWorldK, grow, putRowK, putRow, mapBlock, Sort.ahead]
    rw [Array.getElem?_append_left (by simpa using hc)]
  refine ⟨rfl, rfl, rfl, rfl, by rw [hsize]; omega, fun c hc hcb => ?_, ?_⟩
  · rw [hget c hc, Array.getElem?_modify, if_neg (by omega)]
  · rw [hget blk hblk, Array.getElem?_modify, if_pos rfl, hw]
    simp only [Option.map_some, onCells]
    congr 2
    have hle : off + (xs.flatMap enc).length ≤ cs.size := by
      have hpos : 0 < xs.length * k := Nat.mul_pos hx0 hk0
      have hlast := List.getElem?_eq_getElem (l := xs.flatMap enc) (i := (xs.flatMap enc).length - 1) (by omega)
      have := (Array.getElem?_eq_some_iff.1 (hF _ _ hlast)).1
      omega
    apply Array.ext_getElem?
    intro i
    have hle2 : off + ((srtL cf xs).flatMap enc).length ≤ cs.toList.length := by rw [flatK_len hk, hls, ← hlF, Array.length_toList]; exact hle
    have e1 : ((setN cs.toList off ((srtL cf xs).flatMap enc)).toArray)[i]? = if off ≤ i ∧ i < off + ((srtL cf xs).flatMap enc).length then ((srtL cf xs).flatMap enc)[i - off]? else cs.toList[i]? := by
      rw [← setN_get _ _ _ _ hle2]; simp
    rw [e1]
    simp only [putCells]
    rw [Array.getElem?_mapIdx, size_flatK]
    by_cases hin : off ≤ i ∧ i < off + ((srtL cf xs).flatMap enc).length
    · rw [if_pos hin]
      have hl2 := flatK_len hk (srtL cf xs)
      have hics : i < cs.size := by rw [hl2, hls, ← hlF] at hin; omega
      rw [Array.getElem?_eq_getElem hics]
      simp only [Option.map_some]
      rw [if_pos ⟨hin.1, by rw [hl2] at hin; simpa using hin.2⟩]
      have := flatK_get hk (srtL cf xs) (i - off) (by rw [← hl2]; omega)
      rw [this, get_flatK enc k _ _ (by rw [hl2] at hin; simp; omega)]
      rfl
    · rw [if_neg hin]
      have hl2 := flatK_len hk (srtL cf xs)
      have : ¬ (off ≤ i ∧ i < off + (srtL cf xs).toArray.size * k) := by rw [hl2] at hin; simpa using hin
      simp only [this, if_false]
      cases hc : cs[i]? with
      | none => simp [hc]
      | some v => simp [hc]
end
noncomputable section
section
variable {P : Program} {D : Nat → Type} {G : Tab D}
def allS : List LC → Bool
  | [] => true
  | .sl _ :: _ => false
  | _ :: ls => allS ls
theorem allS_rd {z : Nat → Blk} : ∀ {ls : List LC} {x : inL (toT G ls)} {ds : List Value}, allS ls = true → rdL z (toT G ls) x ds → ds = lvV ls x
  | [], _, [], _, _ => rfl
  | [], _, _ :: _, _, h => h.elim
  | .int k :: ls, x, d :: ds, h, e => by
    have h1 : d = .int k x.1 := e.1
    rw [lvV, h1, ← allS_rd (ls := ls) h e.2]
  | .bool :: ls, x, d :: ds, h, e => by
    have h1 : d = .bool x.1 := e.1
    rw [lvV, h1, ← allS_rd (ls := ls) h e.2]
  | .str :: ls, x, d :: ds, h, e => by
    have h1 : d = AM.str x.1 := e.1
    rw [lvV, h1, ← allS_rd (ls := ls) h e.2]
  | .sl _ :: _, _, _, h, _ => by cases h
  | .int _ :: _, _, [], _, h => h.elim
  | .bool :: _, _, [], _, h => h.elim
  | .str :: _, _, [], _, h => h.elim
theorem allS_of {z : Nat → Blk} : ∀ {ls : List LC} {x : inL (toT G ls)}, allS ls = true → rdL z (toT G ls) x (lvV ls x)
  | [], _, _ => trivial
  | .int k :: ls, x, h => ⟨rfl, allS_of (ls := ls) h⟩
  | .bool :: ls, x, h => ⟨rfl, allS_of (ls := ls) h⟩
  | .str :: ls, x, h => ⟨rfl, allS_of (ls := ls) h⟩
  | .sl _ :: _, _, h => by cases h
theorem allS_flat : ∀ {ls : List LC} {x : inL (toT G ls)}, allS ls = true → (lvV ls x).all flat0 = true
  | [], _, _ => rfl
  | .int k :: ls, x, h => by simp only [lvV, List.all_cons, allS_flat (ls := ls) (x := x.2) h]; rfl
  | .bool :: ls, x, h => by simp only [lvV, List.all_cons, allS_flat (ls := ls) (x := x.2) h]; rfl
  | .str :: ls, x, h => by simp only [lvV, List.all_cons, allS_flat (ls := ls) (x := x.2) h]; rfl
  | .sl _ :: _, _, h => by cases h
theorem allS_len : ∀ {ls : List LC} {x : inL (toT G ls)}, (lvV ls x).length = ls.length
  | [], _ => rfl
  | .int k :: ls, x => by simp only [lvV, List.length_cons, allS_len (ls := ls)]
  | .bool :: ls, x => by simp only [lvV, List.length_cons, allS_len (ls := ls)]
  | .str :: ls, x => by simp only [lvV, List.length_cons, allS_len (ls := ls)]
  | .sl _ :: ls, x => by simp only [lvV, List.length_cons, allS_len (ls := ls)]
def siOf {t : Nat} (ls : List LC) (to : D t → inL (toT G ls)) (hT : G.T t = TyOf t (toT G ls) to) (ha : allS ls = true) (x0 : D t) (key : D t → Int) {ρ : Ren} (L : SlLaysF0.n6 P ρ) (f g : Nat) (hf : ρ.f 6 = f) (ok : okFn P f = true)
    (aE : ∀ w, (isAgg (ρ.t 24)).run P w = .ok true w) (zE : ∀ w, (Go.sizeOf (ρ.t 24)).run P w = .ok ls.length w) (eg : ∀ args w, (callFunc g args).run P w = .ok (.enter g args) w) (hpos : Nat.blt 0 ls.length = true)
    (hcl : ∀ (x y : D t) (W : World), Calls P g #[.agg (lvV ls (to x)).toArray, .agg (lvV ls (to y)).toArray] W fun e w' => e = .returned (.int .i64 (cmpI (key x) (key y))) ∧ ∃ q os', w' = grow (W.drewN q) os') : SI P G where
  f := f
  g := g
  e := t
  srt := @srtI (D t) ⟨x0⟩ fun x y => cmpI (key x) (key y)
  va := fun x => lvV ls (to x)
  hv := fun z x ds h => by rw [hT] at h; exact allS_rd ha h
  hr := fun z x => by rw [hT]; exact allS_of ha
  hf := fun x => allS_flat ha
  ok := ok
  h0 := fun p cap w => by subst hf; exact AnyF.slices_SortFunc_none L p cap _ w
  hn := fun xs ys h => by
    letI : Inhabited (D t) := ⟨x0⟩
    unfold srtI at h
    split at h
    · cases h; exact srtL_len _ (swo_key key) xs
    · cases h
  hs := fun xs ys h h0 => by
    letI : Inhabited (D t) := ⟨x0⟩
    unfold srtI at h
    split at h
    · rename_i hlt
      cases h
      exact sortW_of L hf aE zE (fun x => lvV ls (to x)) (fun _ => allS_len) (fun _ => allS_flat ha) (fun x y => cmpI (key x) (key y)) (swo_key key) eg hcl xs hlt (Nat.le_of_ble_eq_true hpos) h0
    · cases h
end
end
end Go.AM
end
section
set_option linter.unusedVariables false
set_option linter.unusedSimpArgs false
set_option maxRecDepth 100000
set_option maxHeartbeats 1000000
namespace Go.W
open Go.AM
noncomputable section
structure Item where
  train : Int
  block : Int
  round : Int
  length : Int
deriving DecidableEq
structure Disorder where
  items : (List Item)
  homes : (List Int)
  tracks : (List (List Int))
deriving DecidableEq
structure Pull where
  item : Int
  reason : Int
  because : Int
  round : Int
deriving DecidableEq
structure Maker where
  l : (List Int)
  n : Int
deriving DecidableEq
structure SpotR where
  track : Int
  place : Int
deriving DecidableEq
structure Spot where
  track : Int
  place : Int
deriving DecidableEq
structure Scene where
  d : Disorder
  at_ : (List Spot)
  round : (List Int)
deriving DecidableEq
structure Job where
  items : (List Item)
  weight : Int
deriving DecidableEq
def zcA (N : Nat) (x0 : List Int) : Option Maker :=
  some (Maker.mk x0 0)
def zbC_0 (N : Nat) (x0 : Maker) (x5 : Int) (x11 : Bool) : Option Int :=
  if x11 = true then
    Option.bind (modI x0.n (x0.l.length : Int)) fun y1 =>
    Option.bind (getI x0.l y1) fun y2 =>
    Option.bind (divI x0.n (x0.l.length : Int)) fun y3 =>
    AM.lt (IntKind.wrap .i64 (y2 + (IntKind.wrap .i64 ((IntKind.wrap .i64 (y3)) * 7919)))) fun y4 =>
    some y4
  else
    some x5
def zbC_1 (N : Nat) (x1 : Int) (x5 : Int) (x51 : Bool) : Option Int :=
  if x51 = true then
    AM.lt (IntKind.wrap .i64 (x5 + x1)) fun y7 =>
    some y7
  else
    some x5
def zbC (N : Nat) (x0 : Maker) (x1 : Int) : Option (Int × Maker) :=
  Option.bind (zbC_0 N x0 0 (decide (0 < (x0.l.length : Int)))) fun y5 =>
  Option.bind (modI y5 x1) fun y6 =>
  Option.bind (zbC_1 N x1 y6 (decide (y6 < 0))) fun y8 =>
  some (y8, (Maker.mk x0.l (IntKind.wrap .i64 (x0.n + 1))))
def zbD (N : Nat) (x0 : Maker) (x1 : List Int) : Option (Int × Maker) :=
  Option.bind (zbC N x0 (x1.length : Int)) fun y1 =>
  Option.bind (getI x1 y1.1) fun y2 =>
  some (y2, y1.2)
def zaK_0 (N : Nat) (x6 : Int) : Nat → Disorder → (List Int) → (List (List Int)) → Option (Disorder × List Int × List (List Int))
  | 0, _, _, _ => none
  | n + 1, x7, x2007001, x2007002 =>
    if (decide ((x2007001.length : Int) < x6)) = true then
      Option.bind (appI x2007001 ([(x2007001.length : Int)] : List Int)) fun y6 =>
      zaK_0 N x6 n (Disorder.mk [] [] []) y6 x2007002
    else
      some ((Disorder.mk [] [] []), x2007001, x2007002)
def zaK_2 (N : Nat) (x5 : Int) (x6 : Int) : Nat → Int → (List Int) → (List (List Int)) → Option (List Int × List (List Int))
  | 0, _, _, _ => none
  | n + 1, x8, x2007001, x2007002 =>
    if (decide (x8 < x6)) = true then
      Option.bind (getI x2007001 x8) fun y9 =>
      Option.bind (getI x2007001 x8) fun y10 =>
      AM.lt (x2007001.set ((x8 : Int).toNat) (IntKind.wrap .i64 ((IntKind.wrap .i64 (x5 - 1)) - x8))) fun y11 =>
      AM.lt (IntKind.wrap .i64 (x8 + 1)) fun y12 =>
      zaK_2 N x5 x6 n y12 y11 x2007002
    else
      some (x2007001, x2007002)
def zaK_1 (N : Nat) (x5 : Int) (x6 : Int) (x41 : Bool) (x2007001 : List Int) (x2007002 : List (List Int)) : Option (List Int × List (List Int)) :=
  if x41 = true then
    Option.bind (zaK_2 N x5 x6 N 0 x2007001 x2007002) fun y13 =>
    some (y13.1, y13.2)
  else
    some (x2007001, x2007002)
def zaK_4 (N : Nat) (x0 : Maker) (x9 : Int) : Option (Maker × Bool) :=
  if (decide (0 < x9)) = true then
    Option.bind (zbC N x0 5) fun y23 =>
    some (y23.2, (decide (0 < y23.1)))
  else
    some (x0, false)
def zaK_5 (N : Nat) (x0 : Maker) (x10 : List Int) (x12 : Int) (x13 : Item) (x88 : Bool) : Option (Maker × List Int × Item) :=
  if x88 = true then
    Option.bind (getI x10 x12) fun y25 =>
    Option.bind (getI x10 x12) fun y26 =>
    Option.bind (zbC N x0 2) fun y27 =>
    Option.bind (getI x10 x12) fun y28 =>
    Option.bind (getI x10 x12) fun y29 =>
    AM.lt (x10.set ((x12 : Int).toNat) (min 31 (IntKind.wrap .i64 (y26 + y27.1)))) fun y30 =>
    some (y27.2, y30, (Item.mk x13.train (min 31 (IntKind.wrap .i64 (y26 + y27.1))) x13.round x13.length))
  else
    some (x0, x10, x13)
def zaK_6 (N : Nat) (x0 : Maker) (x9 : Int) : Option (Maker × Bool) :=
  if (decide (x9 < 2)) = true then
    Option.bind (zbC N x0 4) fun y32 =>
    some (y32.2, (y32.1 == 0))
  else
    some (x0, false)
def zaK_7 (N : Nat) (x0 : Maker) (x5 : Int) (x14 : Int) (x109 : Bool) : Option (Maker × Int) :=
  if x109 = true then
    Option.bind (zbC N x0 x5) fun y34 =>
    some (y34.2, y34.1)
  else
    some (x0, x14)
def zaK_3 (N : Nat) (x5 : Int) (x6 : Int) (x9 : Int) (x2007001 : List Int) : Nat → Maker → Disorder → (List Int) → Int → (List Item) → (List (List Int)) → Option (Maker × Disorder × List Item × List (List Int))
  | 0, _, _, _, _, _, _ => none
  | n + 1, x0, x7, x10, x11, x2007000, x2007002 =>
    if (decide (0 < x11)) = true then
      Option.bind (zbC N x0 x6) fun y18 =>
      Option.bind (zbC N y18.2 4) fun y19 =>
      Option.bind (zbD N y19.2 ([80, 142, 262] : List Int)) fun y20 =>
      Option.bind (getI x2007001 y18.1) fun y21 =>
      Option.bind (getI x2007001 y18.1) fun y22 =>
      Option.bind (zaK_4 N y20.2 x9) fun y24 =>
      Option.bind (zaK_5 N y24.1 x10 y18.1 (Item.mk y18.1 y19.1 0 y20.1) y24.2) fun y31 =>
      Option.bind (zaK_6 N y31.1 x9) fun y33 =>
      Option.bind (zaK_7 N y33.1 x5 y22 y33.2) fun y35 =>
      Option.bind (getI x2007002 y35.2) fun y36 =>
      Option.bind (getI x2007002 y35.2) fun y37 =>
      Option.bind (appI y37 ([(x2007000.length : Int)] : List Int)) fun y38 =>
      Option.bind (getI x2007002 y35.2) fun y39 =>
      if y35.2 = y35.2 then
        Option.bind (getI x2007002 y35.2) fun y40 =>
        Option.bind (appI x2007000 ([y31.2.2] : List Item)) fun y41 =>
        AM.lt (IntKind.wrap .i64 (x11 - 1)) fun y42 =>
        zaK_3 N x5 x6 x9 x2007001 n y35.1 (Disorder.mk [] [] []) y31.2.1 y42 y41 (x2007002.set ((y35.2 : Int).toNat) y38)
      else
        none
    else
      some (x0, (Disorder.mk [] [] []), x2007000, x2007002)
def zaK (N : Nat) (x0 : Maker) (x1 : Int) : Option (Disorder × Maker) :=
  Option.bind (zbC N x0 4) fun y1 =>
  AM.lt (IntKind.wrap .i64 (2 + y1.1)) fun y2 =>
  Option.bind (mkI ([] : List Int) y2) fun y3 =>
  Option.bind (zbC N y1.2 (min 3 y2)) fun y4 =>
  AM.lt (IntKind.wrap .i64 (1 + y4.1)) fun y5 =>
  Option.bind (zaK_0 N y5 N (Disorder.mk [] [] []) [] y3) fun y7 =>
  Option.bind (zbC N y4.2 2) fun y8 =>
  Option.bind (zaK_1 N y2 y5 (y8.1 == 0) y7.2.1 y7.2.2) fun y14 =>
  Option.bind (zbC N y8.2 3) fun y15 =>
  Option.bind (mkI 0 y5) fun y16 =>
  Option.bind (zbC N y15.2 (IntKind.wrap .i64 (x1 + 1))) fun y17 =>
  Option.bind (zaK_3 N y2 y5 y15.1 y14.1 N y17.2 (Disorder.mk [] [] []) y16 y17.1 [] y14.2) fun y43 =>
  some ((Disorder.mk y43.2.2.1 y14.1 (List.map (fun (z : List Int) => z) y43.2.2.2)), y43.1)
def zbQ_0 (N : Nat) (x1 : Disorder) : Option Bool :=
  if (decide (96 < (x1.items.length : Int))) = true then
    some true
  else
    if (decide (16 < (x1.homes.length : Int))) = true then
      some true
    else
      some (decide (24 < (x1.tracks.length : Int)))
def zbQ_2 (N : Nat) (x1 : Disorder) (x4 : Item) : Option Bool :=
  if (decide (x4.train < 0)) = true then
    some true
  else
    if (decide ((x1.homes.length : Int) ≤ x4.train)) = true then
      some true
    else
      if (decide (x4.block < 0)) = true then
        some true
      else
        if (decide (32 ≤ x4.block)) = true then
          some true
        else
          if (x4.round != 0) = true then
            some true
          else
            if (decide (x4.length < 1)) = true then
              some true
            else
              some (decide (400 < x4.length))
def zbQ_1 (N : Nat) (x1 : Disorder) : Nat → Int → Option (Sum (Unit) (Bool))
  | 0, _ => none
  | n + 1, x3 =>
    if (decide (x3 < (x1.items.length : Int))) = true then
      Option.bind (getI x1.items x3) fun y2 =>
      Option.bind (zbQ_2 N x1 y2) fun y3 =>
      if y3 = true then
        some (Sum.inr false)
      else
        AM.lt (IntKind.wrap .i64 (x3 + 1)) fun y4 =>
        zbQ_1 N x1 n y4
    else
      some (Sum.inl ())
def zbQ_4 (N : Nat) (x1 : Disorder) (x5 : Int) : Option Bool :=
  Option.bind (getI x1.homes x5) fun y7 =>
  if (decide (y7 < 0)) = true then
    some true
  else
    Option.bind (getI x1.homes x5) fun y8 =>
    some (decide ((x1.tracks.length : Int) ≤ y8))
def zbQ_5 (N : Nat) (x1 : Disorder) (x5 : Int) : Nat → Int → Option (Sum (Unit) (Bool))
  | 0, _ => none
  | n + 1, x6 =>
    if (decide (x6 < x5)) = true then
      Option.bind (getI x1.homes x6) fun y10 =>
      Option.bind (getI x1.homes x5) fun y11 =>
      if (y10 == y11) = true then
        some (Sum.inr false)
      else
        AM.lt (IntKind.wrap .i64 (x6 + 1)) fun y12 =>
        zbQ_5 N x1 x5 n y12
    else
      some (Sum.inl ())
def zbQ_3 (N : Nat) (x1 : Disorder) : Nat → Int → Option (Sum (Unit) (Bool))
  | 0, _ => none
  | n + 1, x5 =>
    if (decide (x5 < (x1.homes.length : Int))) = true then
      Option.bind (zbQ_4 N x1 x5) fun y9 =>
      if y9 = true then
        some (Sum.inr false)
      else
        Option.bind (zbQ_5 N x1 x5 N 0) fun y13 =>
        match y13 with
        | Sum.inl y14 =>
          AM.lt (IntKind.wrap .i64 (x5 + 1)) fun y15 =>
          zbQ_3 N x1 n y15
        | Sum.inr y16 =>
          some (Sum.inr y16)
    else
      some (Sum.inl ())
def zbQ_8 (N : Nat) (x7 : List Int) (x10 : Int) : Option Bool :=
  if (decide (x10 < 0)) = true then
    some true
  else
    some (decide ((x7.length : Int) ≤ x10))
def zbQ_7 (N : Nat) (x1 : Disorder) (x8 : Int) : Nat → (List Int) → Int → Option (Sum (List Int) (Bool))
  | 0, _, _ => none
  | n + 1, x7, x9 =>
    Option.bind (getI x1.tracks x8) fun y20 =>
    if (decide (x9 < (y20.length : Int))) = true then
      Option.bind (getI x1.tracks x8) fun y21 =>
      Option.bind (getI y21 x9) fun y22 =>
      Option.bind (zbQ_8 N x7 y22) fun y23 =>
      if y23 = true then
        some (Sum.inr false)
      else
        Option.bind (getI x7 y22) fun y24 =>
        Option.bind (getI x7 y22) fun y25 =>
        Option.bind (getI x7 y22) fun y26 =>
        Option.bind (getI x7 y22) fun y27 =>
        AM.lt (x7.set ((y22 : Int).toNat) (IntKind.wrap .i64 (y25 + 1))) fun y28 =>
        AM.lt (IntKind.wrap .i64 (x9 + 1)) fun y29 =>
        zbQ_7 N x1 x8 n y28 y29
    else
      some (Sum.inl x7)
def zbQ_6 (N : Nat) (x1 : Disorder) : Nat → (List Int) → Int → Option (Sum (List Int) (Bool))
  | 0, _, _ => none
  | n + 1, x7, x8 =>
    if (decide (x8 < (x1.tracks.length : Int))) = true then
      Option.bind (zbQ_7 N x1 x8 N x7 0) fun y30 =>
      match y30 with
      | Sum.inl y31 =>
        AM.lt (IntKind.wrap .i64 (x8 + 1)) fun y32 =>
        zbQ_6 N x1 n y31 y32
      | Sum.inr y33 =>
        some (Sum.inr y33)
    else
      some (Sum.inl x7)
def zbQ_9 (N : Nat) (x7 : List Int) : Nat → Int → Option (Sum (Unit) (Bool))
  | 0, _ => none
  | n + 1, x11 =>
    if (decide (x11 < (x7.length : Int))) = true then
      Option.bind (getI x7 x11) fun y36 =>
      Option.bind (getI x7 x11) fun y37 =>
      if (y37 != 1) = true then
        some (Sum.inr false)
      else
        AM.lt (IntKind.wrap .i64 (x11 + 1)) fun y38 =>
        zbQ_9 N x7 n y38
    else
      some (Sum.inl ())
def zbQ (N : Nat) (x0 : Disorder) : Option Bool :=
  Option.bind (zbQ_0 N x0) fun y1 =>
  if y1 = true then
    some false
  else
    Option.bind (zbQ_1 N x0 N 0) fun y5 =>
    match y5 with
    | Sum.inl y6 =>
      Option.bind (zbQ_3 N x0 N 0) fun y17 =>
      match y17 with
      | Sum.inl y18 =>
        Option.bind (mkI 0 (x0.items.length : Int)) fun y19 =>
        Option.bind (zbQ_6 N x0 N y19 0) fun y34 =>
        match y34 with
        | Sum.inl y35 =>
          Option.bind (zbQ_9 N y35 N 0) fun y39 =>
          match y39 with
          | Sum.inl y40 =>
            some true
          | Sum.inr y41 =>
            some y41
        | Sum.inr y42 =>
          some y42
      | Sum.inr y43 =>
        some y43
    | Sum.inr y44 =>
      some y44
def zbU_1 (N : Nat) (x1 : Disorder) (x4 : Int) : Nat → (List SpotR) → Int → Option (List SpotR)
  | 0, _, _ => none
  | n + 1, x3, x5 =>
    Option.bind (getI x1.tracks x4) fun y2 =>
    if (decide (x5 < (y2.length : Int))) = true then
      Option.bind (getI x1.tracks x4) fun y3 =>
      Option.bind (getI y3 x5) fun y4 =>
      Option.bind (getI x3 y4) fun y5 =>
      Option.bind (getI x3 y4) fun y6 =>
      AM.lt (x3.set ((y4 : Int).toNat) (SpotR.mk x4 x5)) fun y7 =>
      AM.lt (IntKind.wrap .i64 (x5 + 1)) fun y8 =>
      zbU_1 N x1 x4 n y7 y8
    else
      some x3
def zbU_0 (N : Nat) (x1 : Disorder) : Nat → (List SpotR) → Int → Option (List SpotR)
  | 0, _, _ => none
  | n + 1, x3, x4 =>
    if (decide (x4 < (x1.tracks.length : Int))) = true then
      Option.bind (zbU_1 N x1 x4 N x3 0) fun y9 =>
      AM.lt (IntKind.wrap .i64 (x4 + 1)) fun y10 =>
      zbU_0 N x1 n y9 y10
    else
      some x3
def zbU (N : Nat) (x0 : Disorder) : Option (List SpotR) :=
  Option.bind (mkI (SpotR.mk 0 0) (x0.items.length : Int)) fun y1 =>
  Option.bind (zbU_0 N x0 N y1 0) fun y11 =>
  some y11
def zbZ (N : Nat) (x0 : Disorder) (x1 : List SpotR) (x2 : Int) : Option Bool :=
  Option.bind (getI x1 x2) fun y1 =>
  Option.bind (getI x0.items x2) fun y2 =>
  Option.bind (getI x0.homes y2.train) fun y3 =>
  AM.lt (y1.track == y3) fun y4 =>
  some y4
def zbH_0 (N : Nat) (x0 : List SpotR) (x1 : Int) (x2 : Int) : Option Bool :=
  Option.bind (getI x0 x1) fun y1 =>
  Option.bind (getI x0 x2) fun y2 =>
  if (y1.track == y2.track) = true then
    Option.bind (getI x0 x1) fun y3 =>
    Option.bind (getI x0 x2) fun y4 =>
    AM.lt (decide (y4.place < y3.place)) fun y5 =>
    some y5
  else
    some false
def zbH (N : Nat) (x0 : List SpotR) (x1 : Int) (x2 : Int) : Option Bool :=
  Option.bind (zbH_0 N x0 x1 x2) fun y6 =>
  some y6
def zbG_0 (N : Nat) (x1 : Int) (x2 : Int) (x3 : Disorder) : Option Bool :=
  Option.bind (getI x3.items x1) fun y1 =>
  Option.bind (getI x3.items x2) fun y2 =>
  if (y1.train == y2.train) = true then
    Option.bind (getI x3.items x1) fun y3 =>
    Option.bind (getI x3.items x2) fun y4 =>
    AM.lt (decide (y3.block < y4.block)) fun y5 =>
    some y5
  else
    some false
def zbG (N : Nat) (x0 : Disorder) (x1 : Int) (x2 : Int) : Option Bool :=
  Option.bind (zbG_0 N x1 x2 x0) fun y6 =>
  some y6
def zbF_0 (N : Nat) (x1 : List SpotR) (x2 : Int) (x3 : Int) (x4 : Disorder) : Option Bool :=
  Option.bind (zbZ N x4 x1 x2) fun y1 =>
  if y1 = true then
    Option.bind (zbH N x1 x3 x2) fun y2 =>
    if y2 = true then
      Option.bind (zbG N x4 x3 x2) fun y3 =>
      some y3
    else
      some false
  else
    some false
def zbF (N : Nat) (x0 : Disorder) (x1 : List SpotR) (x2 : Int) (x3 : Int) : Option Bool :=
  Option.bind (zbF_0 N x1 x2 x3 x0) fun y4 =>
  some y4
def zbS_0 (N : Nat) (x1 : List SpotR) (x2 : Int) (x3 : Disorder) : Nat → Pull → Int → Option (Sum (Pull) (Pull × Bool))
  | 0, _, _ => none
  | n + 1, x6, x8 =>
    if (decide (x8 < (x3.items.length : Int))) = true then
      Option.bind (zbF N x3 x1 x2 x8) fun y2 =>
      if y2 = true then
        some (Sum.inr ((Pull.mk x2 3 x8 0), true))
      else
        AM.lt (IntKind.wrap .i64 (x8 + 1)) fun y3 =>
        zbS_0 N x1 x2 x3 n x6 y3
    else
      some (Sum.inl x6)
def zbS (N : Nat) (x0 : Disorder) (x1 : List SpotR) (x2 : Int) : Option (Pull × Bool) :=
  Option.bind (zbZ N x0 x1 x2) fun y1 =>
  if (!y1) = true then
    some ((Pull.mk x2 1 (-1) 0), true)
  else
    Option.bind (zbS_0 N x1 x2 x0 N (Pull.mk 0 0 0 0) 0) fun y4 =>
    match y4 with
    | Sum.inl y5 =>
      some ((Pull.mk 0 0 0 0), false)
    | Sum.inr y6 =>
      some (y6.1, y6.2)
def zbT_1 (N : Nat) (x1 : List SpotR) (x2 : List Int) (x3 : Int) (x4 : Int) (x12 : Int) : Option Bool :=
  Option.bind (getI x2 x12) fun y1 =>
  if (decide (0 ≤ y1)) = true then
    Option.bind (getI x2 x12) fun y2 =>
    if (decide (y2 < x4)) = true then
      Option.bind (zbH N x1 x3 x12) fun y3 =>
      some y3
    else
      some false
  else
    some false
def zbT_0 (N : Nat) (x1 : List SpotR) (x2 : List Int) (x3 : Int) (x4 : Int) (x5 : Disorder) : Nat → Pull → Int → Option (Sum (Pull) (Pull × Bool))
  | 0, _, _ => none
  | n + 1, x10, x12 =>
    if (decide (x12 < (x5.items.length : Int))) = true then
      Option.bind (zbT_1 N x1 x2 x3 x4 x12) fun y4 =>
      if y4 = true then
        some (Sum.inr ((Pull.mk x3 2 x12 x4), true))
      else
        AM.lt (IntKind.wrap .i64 (x12 + 1)) fun y5 =>
        zbT_0 N x1 x2 x3 x4 x5 n x10 y5
    else
      some (Sum.inl x10)
def zbT_3 (N : Nat) (x2 : List Int) (x3 : Int) (x4 : Int) (x5 : Disorder) (x13 : Int) : Option Bool :=
  Option.bind (getI x2 x13) fun y8 =>
  if (decide (0 ≤ y8)) = true then
    Option.bind (getI x2 x13) fun y9 =>
    if (decide (y9 < x4)) = true then
      Option.bind (zbG N x5 x13 x3) fun y10 =>
      some y10
    else
      some false
  else
    some false
def zbT_2 (N : Nat) (x2 : List Int) (x3 : Int) (x4 : Int) (x5 : Disorder) : Nat → Pull → Int → Option (Sum (Pull) (Pull × Bool))
  | 0, _, _ => none
  | n + 1, x10, x13 =>
    if (decide (x13 < (x5.items.length : Int))) = true then
      Option.bind (zbT_3 N x2 x3 x4 x5 x13) fun y11 =>
      if y11 = true then
        some (Sum.inr ((Pull.mk x3 3 x13 x4), true))
      else
        AM.lt (IntKind.wrap .i64 (x13 + 1)) fun y12 =>
        zbT_2 N x2 x3 x4 x5 n x10 y12
    else
      some (Sum.inl x10)
def zbT (N : Nat) (x0 : Disorder) (x1 : List SpotR) (x2 : List Int) (x3 : Int) (x4 : Int) : Option (Pull × Bool) :=
  Option.bind (zbT_0 N x1 x2 x3 x4 x0 N (Pull.mk 0 0 0 0) 0) fun y6 =>
  match y6 with
  | Sum.inl y7 =>
    Option.bind (zbT_2 N x2 x3 x4 x0 N y7 0) fun y13 =>
    match y13 with
    | Sum.inl y14 =>
      some ((Pull.mk 0 0 0 0), false)
    | Sum.inr y15 =>
      some (y15.1, y15.2)
  | Sum.inr y16 =>
    some (y16.1, y16.2)
def zbP_1 (N : Nat) (x1 : Disorder) (x4 : List SpotR) (x5 : List Pull) (x6 : List Int) (x7 : Int) : Option (List Pull × List Int) :=
  Option.bind (getI x6 x7) fun y5 =>
  Option.bind (getI x6 x7) fun y6 =>
  AM.lt (x6.set ((x7 : Int).toNat) (-1)) fun y7 =>
  Option.bind (zbS N x1 x4 x7) fun y8 =>
  if y8.2 = true then
    Option.bind (getI x5 x7) fun y9 =>
    Option.bind (getI x5 x7) fun y10 =>
    AM.lt (x5.set ((x7 : Int).toNat) y8.1) fun y11 =>
    Option.bind (getI y7 x7) fun y12 =>
    Option.bind (getI y7 x7) fun y13 =>
    AM.lt (y7.set ((x7 : Int).toNat) 0) fun y14 =>
    some (y11, y14)
  else
    some (x5, y7)
def zbP_0 (N : Nat) (x1 : Disorder) (x4 : List SpotR) : Nat → (List Pull) → (List Int) → Int → Option (List Pull × List Int)
  | 0, _, _, _ => none
  | n + 1, x5, x6, x7 =>
    if (decide (x7 < (x6.length : Int))) = true then
      Option.bind (zbP_1 N x1 x4 x5 x6 x7) fun y15 =>
      AM.lt (IntKind.wrap .i64 (x7 + 1)) fun y16 =>
      zbP_0 N x1 x4 n y15.1 y15.2 y16
    else
      some (x5, x6)
def zbP_4 (N : Nat) (x1 : Disorder) (x4 : List SpotR) (x5 : List Pull) (x6 : List Int) (x10 : Int) (x11 : Bool) (x12 : Int) : Option (List Pull × List Int × Bool) :=
  Option.bind (getI x6 x12) fun y18 =>
  Option.bind (getI x6 x12) fun y19 =>
  if (decide (0 ≤ y19)) = true then
    some (x5, x6, x11)
  else
    Option.bind (zbT N x1 x4 x6 x12 x10) fun y20 =>
    if y20.2 = true then
      Option.bind (getI x5 x12) fun y21 =>
      Option.bind (getI x5 x12) fun y22 =>
      AM.lt (x5.set ((x12 : Int).toNat) y20.1) fun y23 =>
      Option.bind (getI x6 x12) fun y24 =>
      Option.bind (getI x6 x12) fun y25 =>
      AM.lt (x6.set ((x12 : Int).toNat) x10) fun y26 =>
      some (y23, y26, true)
    else
      some (x5, x6, x11)
def zbP_3 (N : Nat) (x1 : Disorder) (x4 : List SpotR) (x10 : Int) : Nat → (List Pull) → (List Int) → Bool → Int → Option (List Pull × List Int × Bool)
  | 0, _, _, _, _ => none
  | n + 1, x5, x6, x11, x12 =>
    if (decide (x12 < (x6.length : Int))) = true then
      Option.bind (zbP_4 N x1 x4 x5 x6 x10 x11 x12) fun y27 =>
      AM.lt (IntKind.wrap .i64 (x12 + 1)) fun y28 =>
      zbP_3 N x1 x4 x10 n y27.1 y27.2.1 y27.2.2 y28
    else
      some (x5, x6, x11)
def zbP_2 (N : Nat) (x1 : Disorder) (x4 : List SpotR) : Nat → (List Pull) → (List Int) → Int → Bool → Option (List Pull × List Int)
  | 0, _, _, _, _ => none
  | n + 1, x5, x6, x10, x11 =>
    if x11 = true then
      Option.bind (zbP_3 N x1 x4 x10 N x5 x6 false 0) fun y29 =>
      AM.lt (IntKind.wrap .i64 (x10 + 1)) fun y30 =>
      zbP_2 N x1 x4 n y29.1 y29.2.1 y30 y29.2.2
    else
      some (x5, x6)
def zbP_6 (N : Nat) (x5 : List Pull) (x6 : List Int) (x15 : List Pull) (x16 : Int) : Option (List Pull) :=
  Option.bind (getI x6 x16) fun y32 =>
  Option.bind (getI x6 x16) fun y33 =>
  if (decide (0 ≤ y33)) = true then
    Option.bind (getI x5 x16) fun y34 =>
    Option.bind (getI x5 x16) fun y35 =>
    Option.bind (appI x15 ([y35] : List Pull)) fun y36 =>
    some y36
  else
    some x15
def zbP_5 (N : Nat) (x5 : List Pull) (x6 : List Int) : Nat → (List Pull) → Int → Option (List Pull)
  | 0, _, _ => none
  | n + 1, x15, x16 =>
    if (decide (x16 < (x6.length : Int))) = true then
      Option.bind (zbP_6 N x5 x6 x15 x16) fun y37 =>
      AM.lt (IntKind.wrap .i64 (x16 + 1)) fun y38 =>
      zbP_5 N x5 x6 n y37 y38
    else
      some x15
def zbP (N : Nat) (x0 : Disorder) : Option (List Pull × Int) :=
  Option.bind (zbQ N x0) fun y1 =>
  if (!y1) = true then
    some ([], 1)
  else
    Option.bind (zbU N x0) fun y2 =>
    Option.bind (mkI (Pull.mk 0 0 0 0) (x0.items.length : Int)) fun y3 =>
    Option.bind (mkI 0 (x0.items.length : Int)) fun y4 =>
    Option.bind (zbP_0 N x0 y2 N y3 y4 0) fun y17 =>
    Option.bind (zbP_2 N x0 y2 N y17.1 y17.2 1 true) fun y31 =>
    Option.bind (zbP_5 N y31.1 y31.2 N [] 0) fun y39 =>
    some (y39, 0)
def zaE_0 (N : Nat) (x3 : Disorder) : Nat → (List (List Int)) → Int → Option (List (List Int))
  | 0, _, _ => none
  | n + 1, x5, x6 =>
    if (decide (x6 < (x3.tracks.length : Int))) = true then
      Option.bind (getI x3.tracks x6) fun y3 =>
      Option.bind (appI ([] : List Int) y3) fun y4 =>
      Option.bind (appI x5 (([[]] : List (List Int)).set ((0 : Int).toNat) y4)) fun y5 =>
      AM.lt (IntKind.wrap .i64 (x6 + 1)) fun y6 =>
      zaE_0 N x3 n y5 y6
    else
      some x5
def zaE_1 (N : Nat) (x0 : Maker) (x38 : Int) (x2003000 : List Item) (x2003001 : List Int) (x2003002 : List (List Int)) : Option (Maker × Disorder × List Item × List Int × List (List Int)) :=
  AM.lt (x38 == 0) fun y9 =>
  if y9 = true then
    Option.bind (zbD N x0 ([(-1), (x2003002.length : Int), 0] : List Int)) fun y10 =>
    Option.bind (getI x2003001 0) fun y11 =>
    Option.bind (getI x2003001 0) fun y12 =>
    AM.lt (x2003001.set ((0 : Int).toNat) y10.1) fun y13 =>
    some (y10.2, (Disorder.mk [] [] []), x2003000, y13, x2003002)
  else
    AM.lt (x38 == 1) fun y14 =>
    if y14 = true then
      Option.bind (getI x2003001 0) fun y15 =>
      Option.bind (getI x2003001 0) fun y16 =>
      Option.bind (appI x2003001 ([y16] : List Int)) fun y17 =>
      some (x0, (Disorder.mk [] [] []), x2003000, y17, x2003002)
    else
      AM.lt (x38 == 2) fun y18 =>
      if y18 = true then
        Option.bind (getI x2003002 0) fun y19 =>
        Option.bind (getI x2003002 0) fun y20 =>
        Option.bind (zbD N x0 ([0, (-1), (x2003000.length : Int)] : List Int)) fun y21 =>
        Option.bind (appI y20 ([y21.1] : List Int)) fun y22 =>
        Option.bind (getI x2003002 0) fun y23 =>
        if 0 = 0 then
          Option.bind (getI x2003002 0) fun y24 =>
          some (y21.2, (Disorder.mk [] [] []), x2003000, x2003001, (x2003002.set ((0 : Int).toNat) y22))
        else
          none
      else
        AM.lt (x38 == 3) fun y25 =>
        if y25 = true then
          if (decide (0 < (x2003000.length : Int))) = true then
            Option.bind (zbD N x0 ([0, 1] : List Int)) fun y26 =>
            Option.bind (getI x2003000 0) fun y27 =>
            Option.bind (getI x2003000 0) fun y28 =>
            AM.lt (x2003000.set ((0 : Int).toNat) (Item.mk y28.train y28.block y26.1 y28.length)) fun y29 =>
            Option.bind (zbD N y26.2 ([0, (-1), (x2003001.length : Int)] : List Int)) fun y30 =>
            Option.bind (getI y29 0) fun y31 =>
            Option.bind (getI y29 0) fun y32 =>
            AM.lt (y29.set ((0 : Int).toNat) (Item.mk y30.1 y32.block y32.round y32.length)) fun y33 =>
            some (y30.2, (Disorder.mk [] [] []), y33, x2003001, x2003002)
          else
            some (x0, (Disorder.mk [] [] []), x2003000, x2003001, x2003002)
        else
          AM.lt (x38 == 4) fun y34 =>
          if y34 = true then
            Option.bind (appI x2003000 ([(Item.mk 0 0 0 100)] : List Item)) fun y35 =>
            some (x0, (Disorder.mk [] [] []), y35, x2003001, x2003002)
          else
            some (x0, (Disorder.mk [] [] []), x2003000, x2003001, x2003002)
def zaE (N : Nat) (x0 : Maker) (x1 : Disorder) : Option (Disorder × Maker) :=
  Option.bind (appI ([] : List Item) x1.items) fun y1 =>
  Option.bind (appI ([] : List Int) x1.homes) fun y2 =>
  Option.bind (zaE_0 N (Disorder.mk [] [] x1.tracks) N ([] : List (List Int)) 0) fun y7 =>
  Option.bind (zbC N x0 6) fun y8 =>
  Option.bind (zaE_1 N y8.2 y8.1 y1 y2 y7) fun y36 =>
  some ((Disorder.mk y36.2.2.1 y36.2.2.2.1 (List.map (fun (z : List Int) => z) y36.2.2.2.2)), y36.1)
def zaF_0 (N : Nat) (x0 : List Int) (x1 : Int) (x7 : Int) : Nat → Int → Option (Sum (Unit) (Int))
  | 0, _ => none
  | n + 1, x8 =>
    if (decide (x8 < x7)) = true then
      Option.bind (getI x0 x8) fun y1 =>
      if (x1 == y1) = true then
        some (Sum.inr x8)
      else
        zaF_0 N x0 x1 x7 n (IntKind.wrap .i64 (x8 + 1))
    else
      some (Sum.inl ())
def zaF (N : Nat) (x0 : List Int) (x1 : Int) : Option Int :=
  Option.bind (zaF_0 N x0 x1 (x0.length : Int) N 0) fun y2 =>
  match y2 with
  | Sum.inl y3 =>
    some (-1)
  | Sum.inr y4 =>
    some y4
def zaC (N : Nat) (x0 : List Int) (x1 : Int) : Option Bool :=
  Option.bind (zaF N x0 x1) fun y1 =>
  AM.lt (decide (0 ≤ y1)) fun y2 =>
  some y2
def zaW_2 (N : Nat) (x4 : List Spot) (x5 : List Bool) (x10 : Int) : Option Bool :=
  if (decide (x10 < 0)) = true then
    some true
  else
    if (decide ((x4.length : Int) ≤ x10)) = true then
      some true
    else
      Option.bind (getI x5 x10) fun y5 =>
      Option.bind (getI x5 x10) fun y6 =>
      some y6
def zaW_1 (N : Nat) (x7 : Int) (x27 : List Int) (x28 : Int) : Nat → (List Spot) → (List Bool) → Int → Int → Option (Sum (List Spot × List Bool × Int) (Bool))
  | 0, _, _, _, _ => none
  | n + 1, x4, x5, x6, x29 =>
    if (decide (x29 < x28)) = true then
      Option.bind (getI x27 x29) fun y4 =>
      Option.bind (zaW_2 N x4 x5 y4) fun y7 =>
      if y7 = true then
        some (Sum.inr false)
      else
        Option.bind (getI x4 y4) fun y8 =>
        Option.bind (getI x4 y4) fun y9 =>
        AM.lt (x4.set ((y4 : Int).toNat) (Spot.mk x7 x29)) fun y10 =>
        Option.bind (getI x5 y4) fun y11 =>
        Option.bind (getI x5 y4) fun y12 =>
        AM.lt (x5.set ((y4 : Int).toNat) true) fun y13 =>
        AM.lt (IntKind.wrap .i64 (x6 + 1)) fun y14 =>
        zaW_1 N x7 x27 x28 n y10 y13 y14 (IntKind.wrap .i64 (x29 + 1))
    else
      some (Sum.inl (x4, x5, x6))
def zaW_0 (N : Nat) (x20 : List (List Int)) (x21 : Int) : Nat → (List Spot) → (List Bool) → Int → Int → Option (Sum (List Spot × Int) (Bool))
  | 0, _, _, _, _ => none
  | n + 1, x4, x5, x6, x22 =>
    if (decide (x22 < x21)) = true then
      Option.bind (getI x20 x22) fun y3 =>
      Option.bind (zaW_1 N x22 y3 (y3.length : Int) N x4 x5 x6 0) fun y15 =>
      match y15 with
      | Sum.inl y16 =>
        zaW_0 N x20 x21 n y16.1 y16.2.1 y16.2.2 (IntKind.wrap .i64 (x22 + 1))
      | Sum.inr y17 =>
        some (Sum.inr y17)
    else
      some (Sum.inl (x4, x6))
def zaW (N : Nat) (x0 : Disorder) : Option (List Spot × Bool) :=
  Option.bind (mkI (Spot.mk 0 0) (x0.items.length : Int)) fun y1 =>
  Option.bind (mkI false (x0.items.length : Int)) fun y2 =>
  Option.bind (zaW_0 N x0.tracks (x0.tracks.length : Int) N y1 y2 0 0) fun y18 =>
  match y18 with
  | Sum.inl y19 =>
    AM.lt (y19.2 == (y19.1.length : Int)) fun y20 =>
    some (y19.1, y20)
  | Sum.inr y21 =>
    some ([], y21)
def zaT_0 (N : Nat) (x1 : Disorder) : Option Bool :=
  if (decide (96 < (x1.items.length : Int))) = true then
    some true
  else
    if (decide (16 < (x1.homes.length : Int))) = true then
      some true
    else
      some (decide (24 < (x1.tracks.length : Int)))
def zaT_2 (N : Nat) (x1 : Disorder) (x3 : Int) (x4 : Int) : Option Bool :=
  if (decide (x4 < 0)) = true then
    some true
  else
    if (decide ((x1.tracks.length : Int) ≤ x4)) = true then
      some true
    else
      Option.bind (cutI x1.homes 0 x3) fun y3 =>
      Option.bind (zaC N y3 x4) fun y4 =>
      some y4
def zaT_1 (N : Nat) (x1 : Disorder) (x26 : List Int) (x27 : Int) : Nat → Int → Option (Sum (Unit) (Bool))
  | 0, _ => none
  | n + 1, x28 =>
    if (decide (x28 < x27)) = true then
      Option.bind (getI x26 x28) fun y2 =>
      Option.bind (zaT_2 N x1 x28 y2) fun y5 =>
      if y5 = true then
        some (Sum.inr false)
      else
        zaT_1 N x1 x26 x27 n (IntKind.wrap .i64 (x28 + 1))
    else
      some (Sum.inl ())
def zaT_4 (N : Nat) (x1 : Disorder) (x6 : Item) : Option Bool :=
  if (decide (x6.train < 0)) = true then
    some true
  else
    if (decide ((x1.homes.length : Int) ≤ x6.train)) = true then
      some true
    else
      if (decide (x6.block < 0)) = true then
        some true
      else
        if (decide (32 ≤ x6.block)) = true then
          some true
        else
          if (x6.round != 0) = true then
            some true
          else
            if (decide (x6.length < 1)) = true then
              some true
            else
              some (decide (400 < x6.length))
def zaT_3 (N : Nat) (x1 : Disorder) (x52 : List Item) (x53 : Int) : Nat → Int → Option (Sum (Unit) (Bool))
  | 0, _ => none
  | n + 1, x54 =>
    if (decide (x54 < x53)) = true then
      Option.bind (getI x52 x54) fun y8 =>
      Option.bind (zaT_4 N x1 y8) fun y9 =>
      if y9 = true then
        some (Sum.inr false)
      else
        zaT_3 N x1 x52 x53 n (IntKind.wrap .i64 (x54 + 1))
    else
      some (Sum.inl ())
def zaT (N : Nat) (x0 : Disorder) : Option Bool :=
  Option.bind (zaT_0 N x0) fun y1 =>
  if y1 = true then
    some false
  else
    Option.bind (zaT_1 N x0 x0.homes (x0.homes.length : Int) N 0) fun y6 =>
    match y6 with
    | Sum.inl y7 =>
      Option.bind (zaT_3 N x0 x0.items (x0.items.length : Int) N 0) fun y10 =>
      match y10 with
      | Sum.inl y11 =>
        Option.bind (zaW N x0) fun y12 =>
        some y12.2
      | Sum.inr y13 =>
        some y13
    | Sum.inr y14 =>
      some y14
def zbA_0 (N : Nat) (x24 : Int) : Nat → Int → (List Int) → Option (List Int)
  | 0, _, _ => none
  | n + 1, x25, x2003004 =>
    if (decide (x25 < x24)) = true then
      Option.bind (getI x2003004 x25) fun y3 =>
      Option.bind (getI x2003004 x25) fun y4 =>
      AM.lt (x2003004.set ((x25 : Int).toNat) (-1)) fun y5 =>
      zbA_0 N x24 n (IntKind.wrap .i64 (x25 + 1)) y5
    else
      some x2003004
def zbA (N : Nat) (x0 : Disorder) : Option (Scene × List Spot × List Int) :=
  Option.bind (mkI 0 (x0.items.length : Int)) fun y1 =>
  Option.bind (zaW N x0) fun y2 =>
  Option.bind (zbA_0 N (y1.length : Int) N 0 y1) fun y6 =>
  some ((Scene.mk x0 [] []), y2.1, y6)
def zbJ (N : Nat) (x0 : Scene) (x1 : Int) : Option Bool :=
  Option.bind (getI x0.at_ x1) fun y1 =>
  Option.bind (getI x0.d.items x1) fun y2 =>
  Option.bind (getI x0.d.homes y2.train) fun y3 =>
  AM.lt (y1.track == y3) fun y4 =>
  some y4
def zbB_0 (N : Nat) (x0 : Scene) (x1 : Int) (x2 : Int) : Option Bool :=
  Option.bind (getI x0.d.items x1) fun y1 =>
  Option.bind (getI x0.d.items x2) fun y2 =>
  if (y1.train == y2.train) = true then
    Option.bind (getI x0.d.items x1) fun y3 =>
    Option.bind (getI x0.d.items x2) fun y4 =>
    AM.lt (decide (y3.block < y4.block)) fun y5 =>
    some y5
  else
    some false
def zbB (N : Nat) (x0 : Scene) (x1 : Int) (x2 : Int) : Option Bool :=
  Option.bind (zbB_0 N x0 x1 x2) fun y6 =>
  some y6
def zaX_0 (N : Nat) (x0 : Scene) (x1 : Int) (x2 : Int) : Option Bool :=
  Option.bind (getI x0.at_ x1) fun y1 =>
  Option.bind (getI x0.at_ x2) fun y2 =>
  if (y1.track == y2.track) = true then
    Option.bind (getI x0.at_ x1) fun y3 =>
    Option.bind (getI x0.at_ x2) fun y4 =>
    AM.lt (decide (y4.place < y3.place)) fun y5 =>
    some y5
  else
    some false
def zaX (N : Nat) (x0 : Scene) (x1 : Int) (x2 : Int) : Option Bool :=
  Option.bind (zaX_0 N x0 x1 x2) fun y6 =>
  some y6
def zaY_0 (N : Nat) (x0 : Scene) (x1 : Int) (x2 : Int) : Option Bool :=
  Option.bind (getI x0.round x1) fun y1 =>
  if (decide (0 ≤ y1)) = true then
    Option.bind (getI x0.round x1) fun y2 =>
    AM.lt (decide (y2 < x2)) fun y3 =>
    some y3
  else
    some false
def zaY (N : Nat) (x0 : Scene) (x1 : Int) (x2 : Int) : Option Bool :=
  Option.bind (zaY_0 N x0 x1 x2) fun y4 =>
  some y4
def zaO_0 (N : Nat) (x0 : Scene) (x1 : Int) (x3 : Int) : Option Bool :=
  if (x3 == (-1)) = true then
    Option.bind (zbJ N x0 x1) fun y1 =>
    AM.lt (!y1) fun y2 =>
    some y2
  else
    some false
def zaO_1 (N : Nat) (x0 : Scene) (x3 : Int) : Option Bool :=
  if (decide (x3 < 0)) = true then
    some true
  else
    some (decide ((x0.d.items.length : Int) ≤ x3))
def zaO_2 (N : Nat) (x2 : Int) (x4 : Int) : Option Bool :=
  if (x2 == 3) = true then
    AM.lt (x4 == 0) fun y5 =>
    some y5
  else
    some false
def zaO_3 (N : Nat) (x0 : Scene) (x1 : Int) (x3 : Int) : Option Bool :=
  Option.bind (zbJ N x0 x1) fun y7 =>
  if y7 = true then
    Option.bind (zbB N x0 x3 x1) fun y8 =>
    if y8 = true then
      Option.bind (zaX N x0 x3 x1) fun y9 =>
      some y9
    else
      some false
  else
    some false
def zaO_4 (N : Nat) (x0 : Scene) (x1 : Int) (x3 : Int) (x4 : Int) : Option Bool :=
  Option.bind (zbB N x0 x3 x1) fun y12 =>
  if y12 = true then
    Option.bind (zaY N x0 x3 x4) fun y13 =>
    some y13
  else
    some false
def zaO_5 (N : Nat) (x0 : Scene) (x1 : Int) (x3 : Int) (x4 : Int) : Option Bool :=
  Option.bind (zaX N x0 x1 x3) fun y16 =>
  if y16 = true then
    Option.bind (zaY N x0 x3 x4) fun y17 =>
    some y17
  else
    some false
def zaO (N : Nat) (x0 : Scene) (x1 : Int) (x2 : Int) (x3 : Int) (x4 : Int) : Option Bool :=
  if (x2 == 1) = true then
    Option.bind (zaO_0 N x0 x1 x3) fun y3 =>
    some y3
  else
    Option.bind (zaO_1 N x0 x3) fun y4 =>
    if y4 = true then
      some false
    else
      Option.bind (zaO_2 N x2 x4) fun y6 =>
      if y6 = true then
        Option.bind (zaO_3 N x0 x1 x3) fun y10 =>
        some y10
      else
        AM.lt (x2 == 3) fun y11 =>
        if y11 = true then
          Option.bind (zaO_4 N x0 x1 x3 x4) fun y14 =>
          some y14
        else
          AM.lt (x2 == 2) fun y15 =>
          if y15 = true then
            Option.bind (zaO_5 N x0 x1 x3 x4) fun y18 =>
            some y18
          else
            some false
def zbV_0 (N : Nat) (x0 : Scene) (x1 : Int) (x6 : Pull) (x8 : List Int) (x14 : Bool) : Option (Sum (Pull × List Int) (Pull × Bool)) :=
  if x14 = true then
    Option.bind (zbJ N x0 x1) fun y1 =>
    if (!y1) = true then
      some (Sum.inr ((Pull.mk x1 1 (-1) 0), true))
    else
      Option.bind (cutI x8 1 (x8.length : Int)) fun y2 =>
      some (Sum.inl (x6, y2))
  else
    some (Sum.inl (x6, x8))
def zbV_2 (N : Nat) (x0 : Scene) (x1 : Int) (x2 : Int) (x10 : Int) (x34 : Int) : Nat → Pull → Int → Option (Sum (Pull) (Pull × Bool))
  | 0, _, _ => none
  | n + 1, x6, x35 =>
    if (decide (x35 < x34)) = true then
      Option.bind (zaO N x0 x1 x10 x35 x2) fun y6 =>
      if y6 = true then
        some (Sum.inr ((Pull.mk x1 x10 x35 x2), true))
      else
        zbV_2 N x0 x1 x2 x10 x34 n x6 (IntKind.wrap .i64 (x35 + 1))
    else
      some (Sum.inl x6)
def zbV_1 (N : Nat) (x0 : Scene) (x1 : Int) (x2 : Int) (x23 : List Int) (x24 : Int) : Nat → Pull → Int → Option (Sum (Pull) (Pull × Bool))
  | 0, _, _ => none
  | n + 1, x6, x25 =>
    if (decide (x25 < x24)) = true then
      Option.bind (getI x23 x25) fun y5 =>
      Option.bind (zbV_2 N x0 x1 x2 y5 (x0.d.items.length : Int) N x6 0) fun y7 =>
      match y7 with
      | Sum.inl y8 =>
        zbV_1 N x0 x1 x2 x23 x24 n y8 (IntKind.wrap .i64 (x25 + 1))
      | Sum.inr y9 =>
        some (Sum.inr (y9.1, y9.2))
    else
      some (Sum.inl x6)
def zbV (N : Nat) (x0 : Scene) (x1 : Int) (x2 : Int) : Option (Pull × Bool) :=
  Option.bind (zbV_0 N x0 x1 (Pull.mk 0 0 0 0) ([2, 3] : List Int) (x2 == 0)) fun y3 =>
  match y3 with
  | Sum.inl y4 =>
    Option.bind (zbV_1 N x0 x1 x2 y4.2 (y4.2.length : Int) N y4.1 0) fun y10 =>
    match y10 with
    | Sum.inl y11 =>
      some ((Pull.mk 0 0 0 0), false)
    | Sum.inr y12 =>
      some (y12.1, y12.2)
  | Sum.inr y13 =>
    some (y13.1, y13.2)
def zaP (N : Nat) (x0 : Int) : Option Bool :=
  AM.lt (x0 != x0) fun y1 =>
  some y1
def zaM (N : Nat) (x0 : Int) (x1 : Int) : Option Int :=
  Option.bind (zaP N x0) fun y1 =>
  Option.bind (zaP N x1) fun y2 =>
  if y1 = true then
    if y2 = true then
      some 0
    else
      some (-1)
  else
    if y2 = true then
      some 1
    else
      if (decide (x0 < x1)) = true then
        some (-1)
      else
        if (decide (x1 < x0)) = true then
          some 1
        else
          some 0
def zaH (N : Nat) (x0 : Pull) (x1 : Pull) : Option Int :=
  Option.bind (zaM N x0.item x1.item) fun y1 =>
  some y1
def zaS_2 (N : Nat) (x4 : Scene) (x5 : List Pull) (x6 : Int) (x25 : Int) (x2004003 : List Spot) (x2004004 : List Int) : Option (List Pull) :=
  Option.bind (getI x2004004 x25) fun y4 =>
  Option.bind (getI x2004004 x25) fun y5 =>
  if (decide (0 ≤ y5)) = true then
    some x5
  else
    Option.bind (zbV N (Scene.mk x4.d x2004003 x2004004) x25 x6) fun y6 =>
    if y6.2 = true then
      Option.bind (appI x5 ([y6.1] : List Pull)) fun y7 =>
      some y7
    else
      some x5
def zaS_1 (N : Nat) (x4 : Scene) (x6 : Int) (x24 : Int) (x2004003 : List Spot) (x2004004 : List Int) : Nat → (List Pull) → Int → Option (List Pull)
  | 0, _, _ => none
  | n + 1, x5, x25 =>
    if (decide (x25 < x24)) = true then
      Option.bind (zaS_2 N (Scene.mk x4.d [] []) x5 x6 x25 x2004003 x2004004) fun y8 =>
      zaS_1 N x4 x6 x24 x2004003 x2004004 n y8 (IntKind.wrap .i64 (x25 + 1))
    else
      some x5
def zaS_3 (N : Nat) (x5 : List Pull) (x6 : Int) (x51 : Nat × Nat) (x52 : Int) : Nat → Int → (List Int) → Option (List Int)
  | 0, _, _ => none
  | n + 1, x53, x2004004 =>
    if (decide (x53 < x52)) = true then
      Option.bind (getI (List.drop x51.1 (List.take x51.2 x5)) x53) fun y11 =>
      Option.bind (getI x5 ((x51.1 : Int) + x53)) fun y12 =>
      Option.bind (getI x2004004 y12.item) fun y13 =>
      Option.bind (getI x2004004 y12.item) fun y14 =>
      AM.lt (x2004004.set ((y12.item : Int).toNat) x6) fun y15 =>
      zaS_3 N x5 x6 x51 x52 n (IntKind.wrap .i64 (x53 + 1)) y15
    else
      some x2004004
def zaS_4 (N : Nat) (x5 : List Pull) (x6 : Int) (x7 : Int) : Option Bool :=
  if (decide (0 < x6)) = true then
    some ((x5.length : Int) == x7)
  else
    some false
def zaS_0 (N : Nat) (x1 : Disorder) (x4 : Scene) (x2004003 : List Spot) : Nat → (List Pull) → Int → (List Int) → Option (List Pull)
  | 0, _, _, _ => none
  | n + 1, x5, x6, x2004004 =>
    AM.lt (x5.length : Int) fun y3 =>
    Option.bind (zaS_1 N (Scene.mk x4.d [] []) x6 (x1.items.length : Int) x2004003 x2004004 N x5 0) fun y9 =>
    Option.bind (cutI y9 y3 (y9.length : Int)) fun y10 =>
    Option.bind (zaS_3 N y9 x6 (Int.toNat y3, Int.toNat (y9.length : Int)) ((List.drop (Int.toNat y3) (List.take (Int.toNat (y9.length : Int)) y9)).length : Int) N 0 x2004004) fun y16 =>
    Option.bind (zaS_4 N y9 x6 y3) fun y17 =>
    if y17 = true then
      some y9
    else
      AM.lt (IntKind.wrap .i64 (x6 + 1)) fun y18 =>
      zaS_0 N x1 x4 x2004003 n y9 y18 y16
def zaS (N : Nat) (x0 : Disorder) : Option (List Pull × Int) :=
  Option.bind (zaT N x0) fun y1 =>
  if (!y1) = true then
    some ([], 1)
  else
    Option.bind (zbA N x0) fun y2 =>
    Option.bind (zaS_0 N x0 (Scene.mk y2.1.d [] []) y2.2.1 N [] 0 y2.2.2) fun y19 =>
    Option.bind (@srtI Pull ⟨(Pull.mk 0 0 0 0)⟩ (fun (a b : Pull) => cmpI a.item b.item) y19) fun y20 =>
    some (y20, 0)
def zaU_1 (N : Nat) (x2 : Disorder) (x7 : Pull) (x2005004 : List Int) : Option Bool :=
  if (decide (x7.item < 0)) = true then
    some true
  else
    if (decide ((x2.items.length : Int) ≤ x7.item)) = true then
      some true
    else
      Option.bind (getI x2005004 x7.item) fun y3 =>
      Option.bind (getI x2005004 x7.item) fun y4 =>
      if (decide (0 ≤ y4)) = true then
        some true
      else
        some (decide (x7.round < 0))
def zaU_0 (N : Nat) (x2 : Disorder) (x16 : List Pull) (x17 : Int) : Nat → Int → (List Int) → Option (Sum (List Int) (Bool))
  | 0, _, _ => none
  | n + 1, x18, x2005004 =>
    if (decide (x18 < x17)) = true then
      Option.bind (getI x16 x18) fun y2 =>
      Option.bind (zaU_1 N x2 y2 x2005004) fun y5 =>
      if y5 = true then
        some (Sum.inr false)
      else
        Option.bind (getI x2005004 y2.item) fun y6 =>
        Option.bind (getI x2005004 y2.item) fun y7 =>
        AM.lt (x2005004.set ((y2.item : Int).toNat) y2.round) fun y8 =>
        zaU_0 N x2 x16 x17 n (IntKind.wrap .i64 (x18 + 1)) y8
    else
      some (Sum.inl x2005004)
def zaU_2 (N : Nat) (x5 : Scene) (x59 : List Pull) (x60 : Int) (x2005003 : List Spot) (x2005004 : List Int) : Nat → Int → Option (Sum (Unit) (Bool))
  | 0, _ => none
  | n + 1, x61 =>
    if (decide (x61 < x60)) = true then
      Option.bind (getI x59 x61) fun y11 =>
      Option.bind (zaO N (Scene.mk x5.d x2005003 x2005004) y11.item y11.reason y11.because y11.round) fun y12 =>
      if (!y12) = true then
        some (Sum.inr false)
      else
        zaU_2 N x5 x59 x60 x2005003 x2005004 n (IntKind.wrap .i64 (x61 + 1))
    else
      some (Sum.inl ())
def zaU_6 (N : Nat) (x5 : Scene) (x10 : Int) (x12 : Int) (x80 : List Int) (x2005003 : List Spot) : Option Bool :=
  Option.bind (zbJ N (Scene.mk x5.d x2005003 x80) x10) fun y17 =>
  if y17 = true then
    Option.bind (zbB N (Scene.mk x5.d x2005003 x80) x12 x10) fun y18 =>
    if y18 = true then
      Option.bind (zaX N (Scene.mk x5.d x2005003 x80) x12 x10) fun y19 =>
      some y19
    else
      some false
  else
    some false
def zaU_7 (N : Nat) (x5 : Scene) (x10 : Int) (x12 : Int) (x13 : Bool) (x80 : List Int) (x2005003 : List Spot) : Option Bool :=
  Option.bind (zbJ N (Scene.mk x5.d x2005003 x80) x10) fun y21 =>
  if (!y21) = true then
    some true
  else
    if x13 = true then
      some true
    else
      Option.bind (getI x80 x12) fun y22 =>
      Option.bind (getI x80 x12) fun y23 =>
      if (decide (0 ≤ y23)) = true then
        Option.bind (zbB N (Scene.mk x5.d x2005003 x80) x12 x10) fun y24 =>
        if y24 = true then
          some true
        else
          Option.bind (zaX N (Scene.mk x5.d x2005003 x80) x10 x12) fun y25 =>
          some y25
      else
        some false
def zaU_5 (N : Nat) (x5 : Scene) (x10 : Int) (x80 : List Int) (x91 : Int) (x2005003 : List Spot) : Nat → Int → Option (Sum (Unit) (Bool))
  | 0, _ => none
  | n + 1, x92 =>
    if (decide (x92 < x91)) = true then
      Option.bind (zaU_6 N (Scene.mk x5.d [] []) x10 x92 x80 x2005003) fun y20 =>
      Option.bind (zaU_7 N (Scene.mk x5.d [] []) x10 x92 y20 x80 x2005003) fun y26 =>
      if y26 = true then
        some (Sum.inr false)
      else
        zaU_5 N x5 x10 x80 x91 x2005003 n (IntKind.wrap .i64 (x92 + 1))
    else
      some (Sum.inl ())
def zaU_4 (N : Nat) (x2 : Disorder) (x5 : Scene) (x80 : List Int) (x82 : Int) (x2005003 : List Spot) : Option (Sum (Unit) (Bool)) :=
  Option.bind (getI x80 x82) fun y15 =>
  Option.bind (getI x80 x82) fun y16 =>
  if (decide (0 ≤ y16)) = true then
    some (Sum.inl ())
  else
    Option.bind (zaU_5 N (Scene.mk x5.d [] []) x82 x80 (x2.items.length : Int) x2005003 N 0) fun y27 =>
    match y27 with
    | Sum.inl y28 =>
      some (Sum.inl ())
    | Sum.inr y29 =>
      some (Sum.inr y29)
def zaU_3 (N : Nat) (x2 : Disorder) (x5 : Scene) (x80 : List Int) (x81 : Int) (x2005003 : List Spot) : Nat → Int → Option (Sum (Unit) (Bool))
  | 0, _ => none
  | n + 1, x82 =>
    if (decide (x82 < x81)) = true then
      Option.bind (zaU_4 N x2 (Scene.mk x5.d [] []) x80 x82 x2005003) fun y30 =>
      match y30 with
      | Sum.inl y31 =>
        zaU_3 N x2 x5 x80 x81 x2005003 n (IntKind.wrap .i64 (x82 + 1))
      | Sum.inr y32 =>
        some (Sum.inr y32)
    else
      some (Sum.inl ())
def zaU (N : Nat) (x0 : Disorder) (x1 : List Pull) : Option Bool :=
  Option.bind (zbA N x0) fun y1 =>
  Option.bind (zaU_0 N x0 x1 (x1.length : Int) N 0 y1.2.2) fun y9 =>
  match y9 with
  | Sum.inl y10 =>
    Option.bind (zaU_2 N (Scene.mk y1.1.d [] []) x1 (x1.length : Int) y1.2.1 y10 N 0) fun y13 =>
    match y13 with
    | Sum.inl y14 =>
      Option.bind (zaU_3 N x0 (Scene.mk y1.1.d [] []) y10 (y10.length : Int) y1.2.1 N 0) fun y33 =>
      match y33 with
      | Sum.inl y34 =>
        some true
      | Sum.inr y35 =>
        some y35
    | Sum.inr y36 =>
      some y36
  | Sum.inr y37 =>
    some y37
def zaR (N : Nat) (x0 : Disorder) (x1 : List Pull) : Option (Bool × Int) :=
  Option.bind (zaT N x0) fun y1 =>
  if (!y1) = true then
    some (false, 1)
  else
    Option.bind (zaU N x0 x1) fun y2 =>
    some (y2, 0)
def zaQ_0 (N : Nat) (x1 : List SpotR) (x4 : Disorder) (x7 : Pull) : Option Bool :=
  if (x7.because == (-1)) = true then
    Option.bind (zbZ N x4 x1 x7.item) fun y1 =>
    AM.lt (!y1) fun y2 =>
    some y2
  else
    some false
def zaQ_1 (N : Nat) (x4 : Disorder) (x9 : Int) : Option Bool :=
  if (decide (x9 < 0)) = true then
    some true
  else
    some (decide ((x4.items.length : Int) ≤ x9))
def zaQ_2 (N : Nat) (x2 : List Int) (x7 : Pull) (x9 : Int) : Option Bool :=
  Option.bind (getI x2 x9) fun y5 =>
  if (decide (0 ≤ y5)) = true then
    Option.bind (getI x2 x9) fun y6 =>
    AM.lt (decide (y6 < x7.round)) fun y7 =>
    some y7
  else
    some false
def zaQ_3 (N : Nat) (x1 : List SpotR) (x7 : Pull) (x9 : Int) (x10 : Bool) : Option Bool :=
  if x10 = true then
    Option.bind (zbH N x1 x7.item x9) fun y10 =>
    some y10
  else
    some false
def zaQ_4 (N : Nat) (x1 : List SpotR) (x4 : Disorder) (x7 : Pull) (x9 : Int) (x10 : Bool) : Option Bool :=
  if x10 = true then
    Option.bind (zbG N x4 x9 x7.item) fun y13 =>
    if y13 = true then
      some true
    else
      if (x7.round == 0) = true then
        Option.bind (zbF N x4 x1 x7.item x9) fun y14 =>
        some y14
      else
        some false
  else
    if (x7.round == 0) = true then
      Option.bind (zbF N x4 x1 x7.item x9) fun y15 =>
      some y15
    else
      some false
def zaQ (N : Nat) (x0 : Disorder) (x1 : List SpotR) (x2 : List Int) (x3 : Pull) : Option Bool :=
  if (x3.reason == 1) = true then
    Option.bind (zaQ_0 N x1 x0 x3) fun y3 =>
    some y3
  else
    Option.bind (zaQ_1 N x0 x3.because) fun y4 =>
    if y4 = true then
      some false
    else
      Option.bind (zaQ_2 N x2 x3 x3.because) fun y8 =>
      AM.lt (x3.reason == 2) fun y9 =>
      if y9 = true then
        Option.bind (zaQ_3 N x1 x3 x3.because y8) fun y11 =>
        some y11
      else
        AM.lt (x3.reason == 3) fun y12 =>
        if y12 = true then
          Option.bind (zaQ_4 N x1 x0 x3 x3.because y8) fun y16 =>
          some y16
        else
          some false
def zbR_0 (N : Nat) : Nat → (List Int) → Int → Option (List Int)
  | 0, _, _ => none
  | n + 1, x6, x7 =>
    if (decide (x7 < (x6.length : Int))) = true then
      Option.bind (getI x6 x7) fun y3 =>
      Option.bind (getI x6 x7) fun y4 =>
      AM.lt (x6.set ((x7 : Int).toNat) (-1)) fun y5 =>
      AM.lt (IntKind.wrap .i64 (x7 + 1)) fun y6 =>
      zbR_0 N n y5 y6
    else
      some x6
def zbR_2 (N : Nat) (x1 : List Pull) (x6 : List Int) (x8 : Int) (x9 : Int) : Option Bool :=
  if (decide (x9 < 0)) = true then
    some true
  else
    if (decide ((x6.length : Int) ≤ x9)) = true then
      some true
    else
      Option.bind (getI x6 x9) fun y9 =>
      Option.bind (getI x6 x9) fun y10 =>
      if (decide (0 ≤ y10)) = true then
        some true
      else
        Option.bind (getI x1 x8) fun y11 =>
        some (decide (y11.round < 0))
def zbR_1 (N : Nat) (x1 : List Pull) : Nat → (List Int) → Int → Option (Sum (List Int) (Bool))
  | 0, _, _ => none
  | n + 1, x6, x8 =>
    if (decide (x8 < (x1.length : Int))) = true then
      Option.bind (getI x1 x8) fun y8 =>
      Option.bind (zbR_2 N x1 x6 x8 y8.item) fun y12 =>
      if y12 = true then
        some (Sum.inr false)
      else
        Option.bind (getI x1 x8) fun y13 =>
        Option.bind (getI x6 y8.item) fun y14 =>
        Option.bind (getI x6 y8.item) fun y15 =>
        AM.lt (x6.set ((y8.item : Int).toNat) y13.round) fun y16 =>
        AM.lt (IntKind.wrap .i64 (x8 + 1)) fun y17 =>
        zbR_1 N x1 n y16 y17
    else
      some (Sum.inl x6)
def zbR_3 (N : Nat) (x1 : List Pull) (x2 : Disorder) (x5 : List SpotR) (x6 : List Int) : Nat → Int → Option (Sum (Unit) (Bool))
  | 0, _ => none
  | n + 1, x10 =>
    if (decide (x10 < (x1.length : Int))) = true then
      Option.bind (getI x1 x10) fun y20 =>
      Option.bind (zaQ N x2 x5 x6 y20) fun y21 =>
      if (!y21) = true then
        some (Sum.inr false)
      else
        AM.lt (IntKind.wrap .i64 (x10 + 1)) fun y22 =>
        zbR_3 N x1 x2 x5 x6 n y22
    else
      some (Sum.inl ())
def zbR_7 (N : Nat) (x2 : Disorder) (x5 : List SpotR) (x6 : List Int) (x11 : Int) (x14 : Int) : Option Bool :=
  Option.bind (getI x6 x14) fun y28 =>
  Option.bind (getI x6 x14) fun y29 =>
  if (decide (0 ≤ y29)) = true then
    Option.bind (zbH N x5 x11 x14) fun y30 =>
    if y30 = true then
      some true
    else
      Option.bind (zbG N x2 x14 x11) fun y31 =>
      some y31
  else
    some false
def zbR_6 (N : Nat) (x2 : Disorder) (x5 : List SpotR) (x6 : List Int) (x11 : Int) : Nat → Int → Option (Sum (Unit) (Bool))
  | 0, _ => none
  | n + 1, x14 =>
    if (decide (x14 < (x6.length : Int))) = true then
      Option.bind (zbR_7 N x2 x5 x6 x11 x14) fun y32 =>
      if y32 = true then
        some (Sum.inr false)
      else
        AM.lt (IntKind.wrap .i64 (x14 + 1)) fun y33 =>
        zbR_6 N x2 x5 x6 x11 n y33
    else
      some (Sum.inl ())
def zbR_5 (N : Nat) (x2 : Disorder) (x5 : List SpotR) (x6 : List Int) (x11 : Int) : Option (Sum (Unit) (Bool)) :=
  Option.bind (getI x6 x11) fun y25 =>
  Option.bind (getI x6 x11) fun y26 =>
  if (decide (0 ≤ y26)) = true then
    some (Sum.inl ())
  else
    Option.bind (zbS N x2 x5 x11) fun y27 =>
    if y27.2 = true then
      some (Sum.inr false)
    else
      Option.bind (zbR_6 N x2 x5 x6 x11 N 0) fun y34 =>
      match y34 with
      | Sum.inl y35 =>
        some (Sum.inl ())
      | Sum.inr y36 =>
        some (Sum.inr y36)
def zbR_4 (N : Nat) (x2 : Disorder) (x5 : List SpotR) (x6 : List Int) : Nat → Int → Option (Sum (Unit) (Bool))
  | 0, _ => none
  | n + 1, x11 =>
    if (decide (x11 < (x6.length : Int))) = true then
      Option.bind (zbR_5 N x2 x5 x6 x11) fun y37 =>
      match y37 with
      | Sum.inl y38 =>
        AM.lt (IntKind.wrap .i64 (x11 + 1)) fun y39 =>
        zbR_4 N x2 x5 x6 n y39
      | Sum.inr y40 =>
        some (Sum.inr y40)
    else
      some (Sum.inl ())
def zbR (N : Nat) (x0 : Disorder) (x1 : List Pull) : Option Bool :=
  Option.bind (zbU N x0) fun y1 =>
  Option.bind (mkI 0 (x0.items.length : Int)) fun y2 =>
  Option.bind (zbR_0 N N y2 0) fun y7 =>
  Option.bind (zbR_1 N x1 N y7 0) fun y18 =>
  match y18 with
  | Sum.inl y19 =>
    Option.bind (zbR_3 N x1 x0 y1 y19 N 0) fun y23 =>
    match y23 with
    | Sum.inl y24 =>
      Option.bind (zbR_4 N x0 y1 y19 N 0) fun y41 =>
      match y41 with
      | Sum.inl y42 =>
        some true
      | Sum.inr y43 =>
        some y43
    | Sum.inr y44 =>
      some y44
  | Sum.inr y45 =>
    some y45
def zbO (N : Nat) (x0 : Disorder) (x1 : List Pull) : Option (Bool × Int) :=
  Option.bind (zbQ N x0) fun y1 =>
  if (!y1) = true then
    some (false, 1)
  else
    Option.bind (zbR N x0 x1) fun y2 =>
    some (y2, 0)
def zaI (N : Nat) (x0 : Pull) (x1 : Int) : Option Bool :=
  AM.lt (x0.item == x1) fun y1 =>
  some y1
def zaB_0 (N : Nat) (x0 : List Pull) (x1 : Int) (x7 : Int) : Nat → Int → Option (Sum (Unit) (Int))
  | 0, _ => none
  | n + 1, x8 =>
    if (decide (x8 < x7)) = true then
      Option.bind (getI x0 x8) fun y1 =>
      Option.bind (zaI N y1 x1) fun y2 =>
      if y2 = true then
        some (Sum.inr x8)
      else
        zaB_0 N x0 x1 x7 n (IntKind.wrap .i64 (x8 + 1))
    else
      some (Sum.inl ())
def zaB (N : Nat) (x0 : List Pull) (x1 : Int) : Option Int :=
  Option.bind (zaB_0 N x0 x1 (x0.length : Int) N 0) fun y3 =>
  match y3 with
  | Sum.inl y4 =>
    some (-1)
  | Sum.inr y5 =>
    some y5
def zaA (N : Nat) (x0 : List Pull) (x1 : Int) : Option Bool :=
  Option.bind (zaB N x0 x1) fun y1 =>
  AM.lt (decide (0 ≤ y1)) fun y2 =>
  some y2
def zaV_2 (N : Nat) (x1 : List Pull) (x2 : Bool) (x7 : List (List Int)) (x8 : Int) (x24 : List Int) (x26 : Int) : Option (List (List Int)) :=
  Option.bind (getI x24 x26) fun y3 =>
  Option.bind (zaA N x1 y3) fun y4 =>
  if (!(y4 == x2)) = true then
    Option.bind (getI x7 x8) fun y5 =>
    Option.bind (getI x7 x8) fun y6 =>
    Option.bind (appI y6 ([y3] : List Int)) fun y7 =>
    Option.bind (getI x7 x8) fun y8 =>
    if x8 = x8 then
      Option.bind (getI x7 x8) fun y9 =>
      some (x7.set ((x8 : Int).toNat) y7)
    else
      none
  else
    some x7
def zaV_1 (N : Nat) (x1 : List Pull) (x2 : Bool) (x8 : Int) (x24 : List Int) (x25 : Int) : Nat → (List (List Int)) → Int → Option (List (List Int))
  | 0, _, _ => none
  | n + 1, x7, x26 =>
    if (decide (x26 < x25)) = true then
      Option.bind (zaV_2 N x1 x2 x7 x8 x24 x26) fun y10 =>
      zaV_1 N x1 x2 x8 x24 x25 n y10 (IntKind.wrap .i64 (x26 + 1))
    else
      some x7
def zaV_0 (N : Nat) (x1 : List Pull) (x2 : Bool) (x17 : List (List Int)) (x18 : Int) : Nat → (List (List Int)) → Int → Option (List (List Int))
  | 0, _, _ => none
  | n + 1, x7, x19 =>
    if (decide (x19 < x18)) = true then
      Option.bind (getI x17 x19) fun y2 =>
      Option.bind (zaV_1 N x1 x2 x19 y2 (y2.length : Int) N x7 0) fun y11 =>
      zaV_0 N x1 x2 x17 x18 n y11 (IntKind.wrap .i64 (x19 + 1))
    else
      some x7
def zaV (N : Nat) (x0 : Disorder) (x1 : List Pull) (x2 : Bool) : Option (List (List Int)) :=
  Option.bind (mkI ([] : List Int) (x0.tracks.length : Int)) fun y1 =>
  Option.bind (zaV_0 N x1 x2 x0.tracks (x0.tracks.length : Int) N y1 0) fun y12 =>
  some y12
def zaZ (N : Nat) (x0 : Disorder) (x1 : List Pull) : Option (List (List Int) × Int) :=
  Option.bind (zaR N x0 x1) fun y1 =>
  AM.lt (y1.2 != 0) fun y2 =>
  if y2 = true then
    some ([], y1.2)
  else
    AM.lt (!y1.1) fun y3 =>
    if y3 = true then
      some ([], 17)
    else
      Option.bind (zaV N x0 x1 true) fun y4 =>
      some ((List.map (fun (z : List Int) => z) y4), 0)
def zbE_0 (N : Nat) (x0 : List Pull) (x1 : Int) : Nat → Int → Option (Sum (Unit) (Bool))
  | 0, _ => none
  | n + 1, x5 =>
    if (decide (x5 < (x0.length : Int))) = true then
      Option.bind (getI x0 x5) fun y1 =>
      if (y1.item == x1) = true then
        some (Sum.inr true)
      else
        AM.lt (IntKind.wrap .i64 (x5 + 1)) fun y2 =>
        zbE_0 N x0 x1 n y2
    else
      some (Sum.inl ())
def zbE (N : Nat) (x0 : List Pull) (x1 : Int) : Option Bool :=
  Option.bind (zbE_0 N x0 x1 N 0) fun y3 =>
  match y3 with
  | Sum.inl y4 =>
    some false
  | Sum.inr y5 =>
    some y5
def zbY_2 (N : Nat) (x1 : List Pull) (x2 : Disorder) (x7 : Int) (x8 : List Int) (x9 : Int) : Option (List Int) :=
  Option.bind (getI x2.tracks x7) fun y4 =>
  Option.bind (getI y4 x9) fun y5 =>
  Option.bind (zbE N x1 y5) fun y6 =>
  if (!y6) = true then
    Option.bind (getI x2.tracks x7) fun y7 =>
    Option.bind (getI y7 x9) fun y8 =>
    Option.bind (appI x8 ([y8] : List Int)) fun y9 =>
    some y9
  else
    some x8
def zbY_1 (N : Nat) (x1 : List Pull) (x2 : Disorder) (x7 : Int) : Nat → (List Int) → Int → Option (List Int)
  | 0, _, _ => none
  | n + 1, x8, x9 =>
    Option.bind (getI x2.tracks x7) fun y3 =>
    if (decide (x9 < (y3.length : Int))) = true then
      Option.bind (zbY_2 N x1 x2 x7 x8 x9) fun y10 =>
      AM.lt (IntKind.wrap .i64 (x9 + 1)) fun y11 =>
      zbY_1 N x1 x2 x7 n y10 y11
    else
      some x8
def zbY_0 (N : Nat) (x1 : List Pull) (x2 : Disorder) : Nat → (List (List Int)) → Int → Option (List (List Int))
  | 0, _, _ => none
  | n + 1, x6, x7 =>
    if (decide (x7 < (x2.tracks.length : Int))) = true then
      Option.bind (zbY_1 N x1 x2 x7 N ([] : List Int) 0) fun y12 =>
      Option.bind (appI x6 ([y12] : List (List Int))) fun y13 =>
      AM.lt (IntKind.wrap .i64 (x7 + 1)) fun y14 =>
      zbY_0 N x1 x2 n y13 y14
    else
      some x6
def zbY (N : Nat) (x0 : Disorder) (x1 : List Pull) : Option (List (List Int) × Int) :=
  Option.bind (zbQ N x0) fun y1 =>
  if (!y1) = true then
    some ([], 1)
  else
    Option.bind (zbR N x0 x1) fun y2 =>
    if (!y2) = true then
      some ([], 17)
    else
      Option.bind (zbY_0 N x1 x0 N [] 0) fun y15 =>
      some (y15, 0)
def zaG_0 (N : Nat) (x6 : Bool) : Option Unit :=
  if x6 = true then
    none
  else
    some ()
def zaG_1 (N : Nat) (x1 : Int) (x16 : Bool) : Option (List Int) :=
  if x16 = true then
    if (decide (0 < x1)) = true then
      Option.bind (mkI 0 x1) fun y3 =>
      Option.bind (cutI y3 0 (([] : List Int).length : Int)) fun y4 =>
      some y4
    else
      none
  else
    some []
def zaG (N : Nat) (x1 : Int) : Option (List Int) :=
  Option.bind (zaG_0 N (decide (x1 < 0))) fun y1 =>
  AM.lt (IntKind.wrap .i64 (x1 - (IntKind.wrap .i64 (0 - (([] : List Int).length : Int))))) fun y2 =>
  Option.bind (zaG_1 N y2 (decide (0 < y2))) fun y5 =>
  some y5
def zaD_1 (N : Nat) (x3 : Int) (x9 : List (List Int)) (x11 : Int) : Option Int :=
  Option.bind (getI x9 x11) fun y1 =>
  AM.lt (IntKind.wrap .i64 (x3 + (y1.length : Int))) fun y2 =>
  if (decide (y2 < 0)) = true then
    none
  else
    some y2
def zaD_0 (N : Nat) (x9 : List (List Int)) (x10 : Int) : Nat → Int → Int → Option Int
  | 0, _, _ => none
  | n + 1, x3, x11 =>
    if (decide (x11 < x10)) = true then
      Option.bind (zaD_1 N x3 x9 x11) fun y3 =>
      zaD_0 N x9 x10 n y3 (IntKind.wrap .i64 (x11 + 1))
    else
      some x3
def zaD_2 (N : Nat) (x25 : List (List Int)) (x26 : Int) : Nat → (List Int) → Int → Option (List Int)
  | 0, _, _ => none
  | n + 1, x6, x27 =>
    if (decide (x27 < x26)) = true then
      Option.bind (getI x25 x27) fun y6 =>
      Option.bind (appI x6 y6) fun y7 =>
      zaD_2 N x25 x26 n y7 (IntKind.wrap .i64 (x27 + 1))
    else
      some x6
def zaD (N : Nat) (x0 : List (List Int)) : Option (List Int) :=
  Option.bind (zaD_0 N x0 (x0.length : Int) N 0 0) fun y4 =>
  Option.bind (zaG N y4) fun y5 =>
  Option.bind (zaD_2 N x0 (x0.length : Int) N y5 0) fun y8 =>
  some y8
def zcC_0 (N : Nat) (x0 : Int) (x1 : Int) (x2 : Int) : Option Bool :=
  if (decide (x1 ≤ x0)) = true then
    AM.lt (decide (x0 ≤ x2)) fun y1 =>
    some y1
  else
    some false
def zcC (N : Nat) (x0 : Int) (x1 : Int) (x2 : Int) : Option Bool :=
  Option.bind (zcC_0 N x0 x1 x2) fun y2 =>
  some y2
def zbM_1 (N : Nat) (x4 : Item) : Option Bool :=
  Option.bind (zcC N x4.train 0 15) fun y3 =>
  if (!y3) = true then
    some true
  else
    Option.bind (zcC N x4.block 0 31) fun y4 =>
    if (!y4) = true then
      some true
    else
      Option.bind (zcC N x4.round 0 12) fun y5 =>
      if (!y5) = true then
        some true
      else
        Option.bind (zcC N x4.length 1 400) fun y6 =>
        some (!y6)
def zbM_2 (N : Nat) (x1 : Job) (x3 : Int) (x4 : Item) : Option Bool :=
  if (decide (0 < x3)) = true then
    Option.bind (getI x1.items (IntKind.wrap .i64 (x3 - 1))) fun y8 =>
    some (decide (x4.round < y8.round))
  else
    some false
def zbM_0 (N : Nat) (x1 : Job) (x14 : List Item) (x15 : Int) : Nat → Int → Option (Sum (Unit) (Int))
  | 0, _ => none
  | n + 1, x16 =>
    if (decide (x16 < x15)) = true then
      Option.bind (getI x14 x16) fun y2 =>
      Option.bind (zbM_1 N y2) fun y7 =>
      if y7 = true then
        some (Sum.inr 2)
      else
        Option.bind (zbM_2 N x1 x16 y2) fun y9 =>
        if y9 = true then
          some (Sum.inr 12)
        else
          zbM_0 N x1 x14 x15 n (IntKind.wrap .i64 (x16 + 1))
    else
      some (Sum.inl ())
def zbM (N : Nat) (x0 : Job) : Option Int :=
  if (decide (96 < (x0.items.length : Int))) = true then
    some 3
  else
    Option.bind (zcC N x0.weight 0 12) fun y1 =>
    if (!y1) = true then
      some 2
    else
      Option.bind (zbM_0 N x0 x0.items (x0.items.length : Int) N 0) fun y10 =>
      match y10 with
      | Sum.inl y11 =>
        some 0
      | Sum.inr y12 =>
        some y12
def zbI_0 (N : Nat) (x2 : Int) : Option Bool :=
  if (decide (x2 < 0)) = true then
    some true
  else
    AM.lt (decide (12 < x2)) fun y3 =>
    some y3
def zbI_1 (N : Nat) (x3 : Disorder) (x11 : List Int) (x46 : Int) : Nat → Job → Int → (List Item) → Option (Job × List Item)
  | 0, _, _, _ => none
  | n + 1, x12, x47, x2012000 =>
    if (decide (x47 < x46)) = true then
      Option.bind (getI x11 x47) fun y8 =>
      Option.bind (getI x11 x47) fun y9 =>
      Option.bind (getI x3.items y9) fun y10 =>
      Option.bind (appI x2012000 ([y10] : List Item)) fun y11 =>
      zbI_1 N x3 x11 x46 n (Job.mk [] x12.weight) (IntKind.wrap .i64 (x47 + 1)) y11
    else
      some ((Job.mk [] x12.weight), x2012000)
def zbI (N : Nat) (x0 : Disorder) (x1 : List Pull) (x2 : Int) : Option (Job × List Int × Int) :=
  Option.bind (zaR N x0 x1) fun y1 =>
  AM.lt (y1.2 != 0) fun y2 =>
  if y2 = true then
    some ((Job.mk [] 0), [], y1.2)
  else
    Option.bind (zbI_0 N x2) fun y4 =>
    if y4 = true then
      some ((Job.mk [] 0), [], 2)
    else
      AM.lt (!y1.1) fun y5 =>
      if y5 = true then
        some ((Job.mk [] 0), [], 17)
      else
        Option.bind (zaV N x0 x1 false) fun y6 =>
        Option.bind (zaD N (List.map (fun (z : List Int) => z) y6)) fun y7 =>
        Option.bind (zbI_1 N x0 y7 (y7.length : Int) N (Job.mk [] x2) 0 []) fun y12 =>
        Option.bind (zbM N (Job.mk y12.2 y12.1.weight)) fun y13 =>
        if (y13 != 0) = true then
          some ((Job.mk [] 0), [], y13)
        else
          some ((Job.mk y12.2 y12.1.weight), y7, 0)
def zcB_0 (N : Nat) (x2 : Int) : Option Bool :=
  if (decide (x2 < 0)) = true then
    some true
  else
    AM.lt (decide (12 < x2)) fun y3 =>
    some y3
def zcB_3 (N : Nat) (x1 : List Pull) (x3 : Disorder) (x9 : Job) (x10 : List Int) (x11 : Int) (x12 : Int) (x2009000 : List Item) : Option (Job × List Int × List Item) :=
  Option.bind (getI x3.tracks x11) fun y8 =>
  Option.bind (getI y8 x12) fun y9 =>
  Option.bind (zbE N x1 y9) fun y10 =>
  if y10 = true then
    Option.bind (getI x3.items y9) fun y11 =>
    Option.bind (appI x2009000 ([y11] : List Item)) fun y12 =>
    Option.bind (appI x10 ([y9] : List Int)) fun y13 =>
    some ((Job.mk [] x9.weight), y13, y12)
  else
    some ((Job.mk [] x9.weight), x10, x2009000)
def zcB_2 (N : Nat) (x1 : List Pull) (x3 : Disorder) (x11 : Int) : Nat → Job → (List Int) → Int → (List Item) → Option (Job × List Int × List Item)
  | 0, _, _, _, _ => none
  | n + 1, x9, x10, x12, x2009000 =>
    Option.bind (getI x3.tracks x11) fun y7 =>
    if (decide (x12 < (y7.length : Int))) = true then
      Option.bind (zcB_3 N x1 x3 (Job.mk [] x9.weight) x10 x11 x12 x2009000) fun y14 =>
      AM.lt (IntKind.wrap .i64 (x12 + 1)) fun y15 =>
      zcB_2 N x1 x3 x11 n (Job.mk [] y14.1.weight) y14.2.1 y15 y14.2.2
    else
      some ((Job.mk [] x9.weight), x10, x2009000)
def zcB_1 (N : Nat) (x1 : List Pull) (x3 : Disorder) : Nat → Job → (List Int) → Int → (List Item) → Option (Job × List Int × List Item)
  | 0, _, _, _, _ => none
  | n + 1, x9, x10, x11, x2009000 =>
    if (decide (x11 < (x3.tracks.length : Int))) = true then
      Option.bind (zcB_2 N x1 x3 x11 N (Job.mk [] x9.weight) x10 0 x2009000) fun y16 =>
      AM.lt (IntKind.wrap .i64 (x11 + 1)) fun y17 =>
      zcB_1 N x1 x3 n (Job.mk [] y16.1.weight) y16.2.1 y17 y16.2.2
    else
      some ((Job.mk [] x9.weight), x10, x2009000)
def zcB (N : Nat) (x0 : Disorder) (x1 : List Pull) (x2 : Int) : Option (Job × List Int × Int) :=
  Option.bind (zbQ N x0) fun y1 =>
  AM.lt (!y1) fun y2 =>
  if y2 = true then
    some ((Job.mk [] 0), [], 1)
  else
    Option.bind (zcB_0 N x2) fun y4 =>
    if y4 = true then
      some ((Job.mk [] 0), [], 2)
    else
      Option.bind (zbR N x0 x1) fun y5 =>
      AM.lt (!y5) fun y6 =>
      if y6 = true then
        some ((Job.mk [] 0), [], 17)
      else
        Option.bind (zcB_1 N x1 x0 N (Job.mk [] x2) [] 0 []) fun y18 =>
        some ((Job.mk y18.2.2 y18.1.weight), y18.2.1, 0)
def zaJ_0 (N : Nat) (x0 : List Pull) (x1 : List Pull) : Nat → Int → Option (Sum (Unit) (Bool))
  | 0, _ => none
  | n + 1, x5 =>
    if (decide (x5 < (x0.length : Int))) = true then
      Option.bind (getI x0 x5) fun y1 =>
      Option.bind (getI x1 x5) fun y2 =>
      if (!(decide (y1 = y2))) = true then
        some (Sum.inr false)
      else
        AM.lt (IntKind.wrap .i64 (x5 + 1)) fun y3 =>
        zaJ_0 N x0 x1 n y3
    else
      some (Sum.inl ())
def zaJ (N : Nat) (x0 : List Pull) (x1 : List Pull) : Option Bool :=
  if ((x0.length : Int) != (x1.length : Int)) = true then
    some false
  else
    Option.bind (zaJ_0 N x0 x1 N 0) fun y4 =>
    match y4 with
    | Sum.inl y5 =>
      some true
    | Sum.inr y6 =>
      some y6
def zbW_0 (N : Nat) (x0 : List Int) (x1 : List Int) : Nat → Int → Option (Sum (Unit) (Bool))
  | 0, _ => none
  | n + 1, x5 =>
    if (decide (x5 < (x0.length : Int))) = true then
      Option.bind (getI x0 x5) fun y1 =>
      Option.bind (getI x1 x5) fun y2 =>
      if (y1 != y2) = true then
        some (Sum.inr false)
      else
        AM.lt (IntKind.wrap .i64 (x5 + 1)) fun y3 =>
        zbW_0 N x0 x1 n y3
    else
      some (Sum.inl ())
def zbW (N : Nat) (x0 : List Int) (x1 : List Int) : Option Bool :=
  if ((x0.length : Int) != (x1.length : Int)) = true then
    some false
  else
    Option.bind (zbW_0 N x0 x1 N 0) fun y4 =>
    match y4 with
    | Sum.inl y5 =>
      some true
    | Sum.inr y6 =>
      some y6
def zbL_0 (N : Nat) (x0 : List (List Int)) (x1 : List (List Int)) : Nat → Int → Option (Sum (Unit) (Bool))
  | 0, _ => none
  | n + 1, x5 =>
    if (decide (x5 < (x0.length : Int))) = true then
      Option.bind (getI x0 x5) fun y1 =>
      Option.bind (getI x1 x5) fun y2 =>
      Option.bind (zbW N y1 y2) fun y3 =>
      if (!y3) = true then
        some (Sum.inr false)
      else
        AM.lt (IntKind.wrap .i64 (x5 + 1)) fun y4 =>
        zbL_0 N x0 x1 n y4
    else
      some (Sum.inl ())
def zbL (N : Nat) (x0 : List (List Int)) (x1 : List (List Int)) : Option Bool :=
  if ((x0.length : Int) != (x1.length : Int)) = true then
    some false
  else
    Option.bind (zbL_0 N x0 x1 N 0) fun y5 =>
    match y5 with
    | Sum.inl y6 =>
      some true
    | Sum.inr y7 =>
      some y7
def zbK_0 (N : Nat) (x0 : List Item) (x1 : List Item) : Nat → Int → Option (Sum (Unit) (Bool))
  | 0, _ => none
  | n + 1, x5 =>
    if (decide (x5 < (x0.length : Int))) = true then
      Option.bind (getI x0 x5) fun y1 =>
      Option.bind (getI x1 x5) fun y2 =>
      if (!(decide (y1 = y2))) = true then
        some (Sum.inr false)
      else
        AM.lt (IntKind.wrap .i64 (x5 + 1)) fun y3 =>
        zbK_0 N x0 x1 n y3
    else
      some (Sum.inl ())
def zbK (N : Nat) (x0 : List Item) (x1 : List Item) : Option Bool :=
  if ((x0.length : Int) != (x1.length : Int)) = true then
    some false
  else
    Option.bind (zbK_0 N x0 x1 N 0) fun y4 =>
    match y4 with
    | Sum.inl y5 =>
      some true
    | Sum.inr y6 =>
      some y6
def zaL_0 (N : Nat) (x2 : Job) (x3 : Job) : Option Bool :=
  if (x2.weight == x3.weight) = true then
    Option.bind (zbK N x2.items x3.items) fun y1 =>
    some y1
  else
    some false
def zaL (N : Nat) (x0 : Job) (x1 : Job) : Option Bool :=
  Option.bind (zaL_0 N x0 x1) fun y2 =>
  some y2
def zbN_0 (N : Nat) (x3 : Disorder) (x7 : List Pull) (x8 : Int) (x9 : List Pull) (x10 : Int) (x11 : Bool) (x12 : Int) (x13 : Bool) (x14 : Int) (x15 : List (List Int)) (x16 : Int) (x17 : List (List Int)) (x18 : Int) (x19 : Job) (x20 : List Int) (x21 : Int) (x22 : Job) (x23 : List Int) (x24 : Int) : Option Bool :=
  Option.bind (zaT N x3) fun y9 =>
  Option.bind (zbQ N x3) fun y10 =>
  if (y9 == y10) = true then
    Option.bind (zaJ N x7 x9) fun y11 =>
    if y11 = true then
      if (x8 == x10) = true then
        if (x11 == x13) = true then
          if (x12 == x14) = true then
            Option.bind (zbL N x15 x17) fun y12 =>
            if y12 = true then
              if (x16 == x18) = true then
                Option.bind (zaL N x19 x22) fun y13 =>
                if y13 = true then
                  Option.bind (zbW N x20 x23) fun y14 =>
                  if y14 = true then
                    AM.lt (x21 == x24) fun y15 =>
                    some y15
                  else
                    some false
                else
                  some false
              else
                some false
            else
              some false
          else
            some false
        else
          some false
      else
        some false
    else
      some false
  else
    some false
def zbN (N : Nat) (x0 : Disorder) (x1 : List Pull) (x2 : Int) : Option Bool :=
  Option.bind (zaS N x0) fun y1 =>
  Option.bind (zbP N x0) fun y2 =>
  Option.bind (zaR N x0 x1) fun y3 =>
  Option.bind (zbO N x0 x1) fun y4 =>
  Option.bind (zaZ N x0 x1) fun y5 =>
  Option.bind (zbY N x0 x1) fun y6 =>
  Option.bind (zbI N x0 x1 x2) fun y7 =>
  Option.bind (zcB N x0 x1 x2) fun y8 =>
  Option.bind (zbN_0 N x0 y1.1 y1.2 y2.1 y2.2 y3.1 y3.2 y4.1 y4.2 y5.1 y5.2 y6.1 y6.2 y7.1 y7.2.1 y7.2.2 y8.1 y8.2.1 y8.2.2) fun y16 =>
  some y16
def zbX_0 (N : Nat) (x3 : List Pull) (x4 : Int) (x5 : List Pull) (x6 : Int) (x7 : Bool) (x8 : Int) : Option Bool :=
  if (x4 == 0) = true then
    Option.bind (zaJ N x3 ([(Pull.mk 0 3 1 0), (Pull.mk 1 2 0 1)] : List Pull)) fun y4 =>
    if y4 = true then
      if (x6 == 0) = true then
        Option.bind (zaJ N x5 ([(Pull.mk 0 3 1 1), (Pull.mk 1 1 (-1) 0)] : List Pull)) fun y5 =>
        if y5 = true then
          if (x8 == 0) = true then
            some x7
          else
            some false
        else
          some false
      else
        some false
    else
      some false
  else
    some false
def zbX (N : Nat) : Option Bool :=
  Option.bind (zaS N (Disorder.mk ([(Item.mk 0 1 0 100), (Item.mk 0 0 0 100)] : List Item) ([0] : List Int) ([([0, 1] : List Int)] : List (List Int)))) fun y1 =>
  Option.bind (zaS N (Disorder.mk ([(Item.mk 0 2 0 100), (Item.mk 0 1 0 100)] : List Item) ([0] : List Int) ([([0] : List Int), ([1] : List Int)] : List (List Int)))) fun y2 =>
  Option.bind (zaR N (Disorder.mk ([(Item.mk 0 2 0 100), (Item.mk 0 1 0 100)] : List Item) ([0] : List Int) ([([0] : List Int), ([1] : List Int)] : List (List Int))) y2.1) fun y3 =>
  Option.bind (zbX_0 N y1.1 y1.2 y2.1 y2.2 y3.1 y3.2) fun y6 =>
  some y6
def zaN_1 (N : Nat) (x10 : Int) (x12 : List Pull) : Option Bool :=
  if (x10 == 1) = true then
    some (decide (0 < (x12.length : Int)))
  else
    some false
def zaN_2 (N : Nat) (x9 : Maker) (x11 : Disorder) (x12 : List Pull) (x37 : Bool) : Option (Maker × List Pull) :=
  if x37 = true then
    Option.bind (zbC N x9 (x12.length : Int)) fun y5 =>
    Option.bind (getI x12 y5.1) fun y6 =>
    Option.bind (getI x12 y5.1) fun y7 =>
    Option.bind (zbD N y5.2 ([y7.reason, 0, 1, 2, 3] : List Int)) fun y8 =>
    Option.bind (getI x12 y5.1) fun y9 =>
    Option.bind (zbD N y8.2 ([y9.because, (-1), 0, 1, (x11.items.length : Int)] : List Int)) fun y10 =>
    Option.bind (getI x12 y5.1) fun y11 =>
    Option.bind (getI x12 y5.1) fun y12 =>
    Option.bind (zbD N y10.2 ([y11.round, (IntKind.wrap .i64 (y12.round + 1)), 0, (-1)] : List Int)) fun y13 =>
    Option.bind (getI x12 y5.1) fun y14 =>
    AM.lt (x12.set ((y5.1 : Int).toNat) (Pull.mk y14.item y8.1 y14.because y14.round)) fun y15 =>
    Option.bind (getI y15 y5.1) fun y16 =>
    AM.lt (y15.set ((y5.1 : Int).toNat) (Pull.mk y16.item y16.reason y10.1 y16.round)) fun y17 =>
    Option.bind (getI y17 y5.1) fun y18 =>
    AM.lt (y17.set ((y5.1 : Int).toNat) (Pull.mk y18.item y18.reason y18.because y13.1)) fun y19 =>
    Option.bind (getI y19 y5.1) fun y20 =>
    Option.bind (getI y19 0) fun y21 =>
    Option.bind (getI y19 0) fun y22 =>
    Option.bind (zbD N y13.2 ([y20.item, y22.item, (-1)] : List Int)) fun y23 =>
    Option.bind (getI y19 y5.1) fun y24 =>
    AM.lt (y19.set ((y5.1 : Int).toNat) (Pull.mk y23.1 y24.reason y24.because y24.round)) fun y25 =>
    some (y23.2, y25)
  else
    some (x9, x12)
def zaN_3 (N : Nat) (x9 : Maker) (x11 : Disorder) (x98 : Bool) : Option (Maker × Disorder) :=
  if x98 = true then
    Option.bind (zaE N x9 x11) fun y27 =>
    some (y27.2, y27.1)
  else
    some (x9, x11)
def zaN_5 (N : Nat) : Nat → (List Pull) → Int → Option (List Pull)
  | 0, _, _ => none
  | n + 1, x12, x16 =>
    if (decide (x16 < (x12.length : Int))) = true then
      Option.bind (getI x12 x16) fun y29 =>
      Option.bind (getI x12 x16) fun y30 =>
      Option.bind (getI x12 x16) fun y31 =>
      Option.bind (getI x12 x16) fun y32 =>
      AM.lt (x12.set ((x16 : Int).toNat) (Pull.mk y32.item y32.reason y32.because (IntKind.wrap .i64 (y30.round * 2)))) fun y33 =>
      AM.lt (IntKind.wrap .i64 (x16 + 1)) fun y34 =>
      zaN_5 N n y33 y34
    else
      some x12
def zaN_4 (N : Nat) (x12 : List Pull) (x103 : Bool) : Option (List Pull) :=
  if x103 = true then
    Option.bind (zaN_5 N N x12 0) fun y35 =>
    some y35
  else
    some x12
def zaN_6 (N : Nat) (x2 : List Pull) (x3 : Int) (x9 : Maker) (x11 : Disorder) (x12 : List Pull) : Option (Maker × Bool) :=
  Option.bind (zbD N x9 ([0, 12, 12, 13, (-1)] : List Int)) fun y37 =>
  Option.bind (zbN N x11 x12 y37.1) fun y38 =>
  if (!y38) = true then
    some (y37.2, true)
  else
    if (decide ((x2.length : Int) < 100)) = true then
      Option.bind (zbN N x11 x2 x3) fun y39 =>
      some (y37.2, (!y39))
    else
      some (y37.2, false)
def zaN_0 (N : Nat) (x2 : List Pull) (x3 : Int) : Nat → Maker → Int → Option (Sum (Unit) (Bool))
  | 0, _, _ => none
  | n + 1, x9, x10 =>
    if (decide (x10 < 4)) = true then
      Option.bind (zaK N x9 12) fun y2 =>
      Option.bind (zbP N y2.1) fun y3 =>
      Option.bind (zaN_1 N x10 y3.1) fun y4 =>
      Option.bind (zaN_2 N y2.2 y2.1 y3.1 y4) fun y26 =>
      Option.bind (zaN_3 N y26.1 y2.1 (x10 == 2)) fun y28 =>
      Option.bind (zaN_4 N y26.2 (x10 == 3)) fun y36 =>
      Option.bind (zaN_6 N x2 x3 y28.1 y28.2 y36) fun y40 =>
      if y40.2 = true then
        some (Sum.inr false)
      else
        AM.lt (IntKind.wrap .i64 (x10 + 1)) fun y41 =>
        zaN_0 N x2 x3 n y40.1 y41
    else
      some (Sum.inl ())
def zaN_7 (N : Nat) (x2 : List Pull) (x5 : Disorder) : Option Bool :=
  if (decide (110 < (x5.items.length : Int))) = true then
    some true
  else
    if (decide (30 < (x5.homes.length : Int))) = true then
      some true
    else
      if (decide (40 < (x5.tracks.length : Int))) = true then
        some true
      else
        some (decide (100 < (x2.length : Int)))
def zaN_8 (N : Nat) (x5 : Disorder) : Nat → Int → Option (Sum (Unit) (Bool))
  | 0, _ => none
  | n + 1, x17 =>
    if (decide (x17 < (x5.tracks.length : Int))) = true then
      Option.bind (getI x5.tracks x17) fun y46 =>
      if (decide (120 < (y46.length : Int))) = true then
        Option.bind (zbX N) fun y47 =>
        some (Sum.inr y47)
      else
        AM.lt (IntKind.wrap .i64 (x17 + 1)) fun y48 =>
        zaN_8 N x5 n y48
    else
      some (Sum.inl ())
def zaN_9 (N : Nat) (x2 : List Pull) (x3 : Int) (x5 : Disorder) : Option Bool :=
  Option.bind (zbN N x5 x2 x3) fun y51 =>
  if y51 = true then
    Option.bind (zbX N) fun y52 =>
    some y52
  else
    some false
def zaN (N : Nat) (x0 : List Int) (x1 : Disorder) (x2 : List Pull) (x3 : Int) : Option Bool :=
  Option.bind (zcA N x0) fun y1 =>
  Option.bind (zaN_0 N x2 x3 N y1 0) fun y42 =>
  match y42 with
  | Sum.inl y43 =>
    Option.bind (zaN_7 N x2 x1) fun y44 =>
    if y44 = true then
      Option.bind (zbX N) fun y45 =>
      some y45
    else
      Option.bind (zaN_8 N x1 N 0) fun y49 =>
      match y49 with
      | Sum.inl y50 =>
        Option.bind (zaN_9 N x2 x3 x1) fun y53 =>
        some y53
      | Sum.inr y54 =>
        some y54
  | Sum.inr y55 =>
    some y55
end
end Go.W
end
section
set_option linter.unusedVariables false
set_option linter.unusedSimpArgs false
set_option maxRecDepth 100000
set_option maxHeartbeats 1000000
namespace Go.W
open Go.AM Go.Proofs Go.Sort Go.Shelf Go.RowKit Go.Lib
def sortL28_ren : Go.Shelf.Ren := ⟨fun | 6 => 28 | 15 => 57 | 14 => 56 | 28 => 87 | 29 => 88 | 20 => 79 | 21 => 80 | 22 => 81 | 23 => 82 | 24 => 83 | 25 => 84 | 26 => 85 | 27 => 86 | 46 => 91 | 47 => 92 | 48 => 93 | 49 => 94 | 50 => 95 | 57 => 96 | n => n, fun | 22 => 30 | 24 => 39 | 25 => 79 | 3 => 3 | 39 => 104 | 0 => 0 | 53 => 131 | 55 => 133 | 4 => 4 | 46 => 124 | 45 => 123 | 50 => 128 | 5 => 5 | 9 => 9 | 66 => 137 | 70 => 141 | 76 => 143 | 77 => 144 | n => n, fun | n => n⟩
theorem sortL28 : Go.Proofs.SlLaysF0.n6 Try.prog sortL28_ren := {
  mixed := by kernel_rfl,
  f6 := ⟨Try.f28.name, by decide, Try.func28.trans (congrArg some (by kernel_rfl))⟩,
  f14 := ⟨Try.f56.name, by decide, Try.func56.trans (congrArg some (by kernel_rfl))⟩,
  f15 := Try.func57.trans (congrArg some (by kernel_rfl)),
  f20 := ⟨Try.f79.name, by decide, Try.func79.trans (congrArg some (by kernel_rfl))⟩,
  f21 := ⟨Try.f80.name, by decide, Try.func80.trans (congrArg some (by kernel_rfl))⟩,
  f22 := ⟨Try.f81.name, by decide, Try.func81.trans (congrArg some (by kernel_rfl))⟩,
  f23 := ⟨Try.f82.name, by decide, Try.func82.trans (congrArg some (by kernel_rfl))⟩,
  f24 := ⟨Try.f83.name, by decide, Try.func83.trans (congrArg some (by kernel_rfl))⟩,
  f25 := ⟨Try.f84.name, by decide, Try.func84.trans (congrArg some (by kernel_rfl))⟩,
  f26 := ⟨Try.f85.name, by decide, Try.func85.trans (congrArg some (by kernel_rfl))⟩,
  f27 := ⟨Try.f86.name, by decide, Try.func86.trans (congrArg some (by kernel_rfl))⟩,
  f28 := Try.func87.trans (congrArg some (by kernel_rfl)),
  f29 := Try.func88.trans (congrArg some (by kernel_rfl)),
  f46 := ⟨Try.f91.name, by decide, Try.func91.trans (congrArg some (by kernel_rfl))⟩,
  f47 := Try.func92.trans (congrArg some (by kernel_rfl)),
  f48 := Try.func93.trans (congrArg some (by kernel_rfl)),
  f49 := ⟨Try.f94.name, by decide, Try.func94.trans (congrArg some (by kernel_rfl))⟩,
  f50 := ⟨Try.f95.name, by decide, Try.func95.trans (congrArg some (by kernel_rfl))⟩,
  f57 := ⟨Try.f96.name, by decide, Try.func96.trans (congrArg some (by kernel_rfl))⟩,
  t0 := Try.underlying0,
  a0 := Try.isAgg0,
  z0 := Try.sizeOf0,
  v0 := Try.zeroValue0,
  t3 := Try.underlying3,
  a3 := Try.isAgg3,
  z3 := Try.sizeOf3,
  v3 := Try.zeroValue3,
  t4 := Try.underlying4,
  a4 := Try.isAgg4,
  z4 := Try.sizeOf4,
  v4 := Try.zeroValue4,
  t5 := Try.underlying5,
  a5 := Try.isAgg5,
  z5 := Try.sizeOf5,
  v5 := Try.zeroValue5,
  t9 := Try.underlying9,
  a9 := Try.isAgg9,
  z9 := Try.sizeOf9,
  v9 := Try.zeroValue9,
  t22 := Try.underlying30,
  a22 := Try.isAgg30,
  z22 := Try.sizeOf30,
  v22 := Try.zeroValue30,
  t25 := Try.underlying79,
  a25 := Try.isAgg79,
  z25 := Try.sizeOf79,
  v25 := Try.zeroValue79,
  t39 := Try.underlying104,
  a39 := Try.isAgg104,
  z39 := Try.sizeOf104,
  v39 := Try.zeroValue104,
  t45 := Try.underlying123,
  a45 := Try.isAgg123,
  z45 := Try.sizeOf123,
  v45 := Try.zeroValue123,
  t46 := Try.underlying124,
  a46 := Try.isAgg124,
  z46 := Try.sizeOf124,
  v46 := Try.zeroValue124,
  t50 := Try.underlying128,
  a50 := Try.isAgg128,
  z50 := Try.sizeOf128,
  v50 := Try.zeroValue128,
  t53 := Try.underlying131,
  a53 := Try.isAgg131,
  z53 := Try.sizeOf131,
  v53 := Try.zeroValue131,
  t55 := Try.underlying133,
  a55 := Try.isAgg133,
  z55 := Try.sizeOf133,
  v55 := Try.zeroValue133,
  t66 := Try.underlying137,
  a66 := Try.isAgg137,
  z66 := Try.sizeOf137,
  v66 := Try.zeroValue137,
  t70 := Try.underlying141,
  a70 := Try.isAgg141,
  z70 := Try.sizeOf141,
  v70 := Try.zeroValue141,
  t76 := Try.underlying143,
  a76 := Try.isAgg143,
  z76 := Try.sizeOf143,
  v76 := Try.zeroValue143,
  t77 := Try.underlying144,
  a77 := Try.isAgg144,
  z77 := Try.sizeOf144,
  v77 := Try.zeroValue144 }
def cmpL30_ren : Go.Shelf.Ren := ⟨fun | 5 => 30 | 7 => 58 | n => n, fun | 22 => 3 | 3 => 3 | 4 => 4 | n => n, fun | n => n⟩
theorem cmpL30 : Go.Proofs.SlLaysC2.n5 Try.prog cmpL30_ren := {
  mixed := by kernel_rfl,
  f5 := ⟨Try.f30.name, by decide, Try.func30.trans (congrArg some (by kernel_rfl))⟩,
  f7 := ⟨Try.f58.name, by decide, Try.func58.trans (congrArg some (by kernel_rfl))⟩,
  t3 := Try.underlying3,
  a3 := Try.isAgg3,
  z3 := Try.sizeOf3,
  v3 := Try.zeroValue3,
  t4 := Try.underlying4,
  a4 := Try.isAgg4,
  z4 := Try.sizeOf4,
  v4 := Try.zeroValue4,
  t22 := Try.underlying3,
  a22 := Try.isAgg3,
  z22 := Try.sizeOf3,
  v22 := Try.zeroValue3 }
set_option maxHeartbeats 1000000 in
theorem clos29 (x y : Pull) (W : World) : Calls Try.prog 29 #[.agg #[.int .i64 x.item, .int .i64 x.reason, .int .i64 x.because, .int .i64 x.round], .agg #[.int .i64 y.item, .int .i64 y.reason, .int .i64 y.because, .int .i64 y.round]] W fun e w' => e = .returned (.int .i64 (cmpI x.item y.item)) ∧ ∃ q os', w' = grow (W.drewN q) os' := by
  have hcon := fun W' => AnyG.cmp_Compare_int cmpL30 x.item y.item W'
  change ∀ W', Calls Try.prog 30 _ _ _ at hcon
  unfold cmpI
  generalize Lib.compareInt x.item y.item = r at hcon ⊢
  go_enter Try.func29, Try.ntmps29
  go_wp2_with (go_at_call 30; refine (hcon _).mono ?_; rintro e w' ⟨rfl, rfl⟩)
  go_ret
  exact ⟨rfl, 0, _, by rw [alloc_eq_grow, alloc_eq_grow, grow_grow]; rfl⟩
end Go.W
end
