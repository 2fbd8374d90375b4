/- LRtD LRtS LRtV LRtW LRtF LRtE LRtG LRtR LRtT LRtU LRtY LRtZ -/
import Derived.Test.YtkbomolgmgeogaaMe
section
set_option linter.unusedVariables false
set_option linter.unusedSimpArgs false
namespace Go.W
open Go.AM
/-! ### Distances -/
abbrev Dst := List (Place × Int)
/-- The place behind a node of an element. -/
def beh (l : List PlantElement) (i n : Int) : Place := Place.mk (nbr l i n) n
/-- What is known of the distances so far. -/
structure DI (l : List PlantElement) (to : Int) (d : Dst) : Prop where
  key : ∀ p v, mpGet d p = some v → p.in_ ∈ eI l p.element
  zero : ∀ p, mpGet d p = some 0 → p.element = to
  pos : ∀ p v, mpGet d p = some v → v ≠ 0 → 0 < v ∧ ∃ n ∈ thr l p.element p.in_, mpGet d (beh l p.element n) = some (v - 1)
  keys : (d.map Prod.fst).Nodup
theorem mpGet_mem {α β : Type} [DecidableEq α] : ∀ {m : List (α × β)} {k : α}, (∃ v, mpGet m k = some v) ↔ k ∈ m.map Prod.fst
  | [], k => by simp [mpGet]
  | p :: m, k => by
    simp only [mpGet, List.map_cons, List.mem_cons]
    by_cases h : p.1 = k
    · rw [if_pos h]; simp [h]
    · rw [if_neg h, mpGet_mem]
      constructor
      · exact .inr
      · rintro (hh | hh)
        · exact absurd hh.symm h
        · exact hh
theorem mpSet_new {α β : Type} [DecidableEq α] : ∀ {m : List (α × β)} {k : α} {v : β}, mpGet m k = none → mpSet m k v = m ++ [(k, v)]
  | [], k, v, _ => rfl
  | p :: m, k, v, h => by
    simp only [mpGet] at h
    split at h
    · cases h
    · rename_i hk
      rw [mpSet, if_neg hk, mpSet_new h]; rfl
/-- Distances grow: what was there stays. -/
def Dle (d d' : Dst) : Prop := ∀ p v, mpGet d p = some v → mpGet d' p = some v
theorem Dle.refl (d : Dst) : Dle d d := fun _ _ h => h
theorem Dle.trans {a b c : Dst} (h : Dle a b) (k : Dle b c) : Dle a c := fun p v hp => k p v (h p v hp)
theorem Dle.set {d : Dst} {p : Place} {v : Int} (h : mpGet d p = none) : Dle d (mpSet d p v) := fun q w hq => by
  rw [mpGet_set, if_neg (fun hh => by rw [hh, hq] at h; cases h)]; exact hq
theorem DI.add {l : List PlantElement} {to : Int} {d : Dst} (h : DI l to d) {p : Place} {v : Int} (hp : mpGet d p = none) (h1 : p.in_ ∈ eI l p.element) (h2 : v = 0 → p.element = to) (h3 : v ≠ 0 → 0 < v ∧ ∃ n ∈ thr l p.element p.in_, mpGet d (beh l p.element n) = some (v - 1)) : DI l to (mpSet d p v) := by
  have hle := Dle.set (v := v) hp
  refine ⟨fun q w hq => ?_, fun q hq => ?_, fun q w hq hw => ?_, ?_⟩
  · rw [mpGet_set] at hq
    split at hq
    · rename_i hh; cases hq; subst hh; exact h1
    · exact h.key q w hq
  · rw [mpGet_set] at hq
    split at hq
    · rename_i hh; cases hq; subst hh; exact h2 rfl
    · exact h.zero q hq
  · rw [mpGet_set] at hq
    split at hq
    · rename_i hh
      cases hq; subst hh
      obtain ⟨a, n, b, c⟩ := h3 hw
      exact ⟨a, n, b, hle _ _ c⟩
    · obtain ⟨a, n, b, c⟩ := h.pos q w hq hw
      exact ⟨a, n, b, hle _ _ c⟩
  · rw [mpSet_new hp, List.map_append, List.nodup_append]
    refine ⟨h.keys, by simp, fun x hx y hy => ?_⟩
    simp at hy
    subst hy
    intro hh
    subst hh
    obtain ⟨w, hw⟩ := mpGet_mem.2 hx
    rw [hw] at hp; cases hp
/-! ### How many places there are -/
def allP (l : List PlantElement) : List Place := (List.range l.length).flatMap fun (i : Nat) => (eI l (i : Int)).map fun n => Place.mk (i : Int) n
theorem allP_len (l : List PlantElement) : (allP l).length ≤ 3 * l.length := by
  unfold allP
  have key : ∀ (q : List Nat), (q.flatMap fun (i : Nat) => (eI l (i : Int)).map fun n => Place.mk (i : Int) n).length ≤ 3 * q.length := by
    intro q
    induction q with
    | nil => simp
    | cons a q ih =>
      rw [List.flatMap_cons, List.length_append, List.length_map, List.length_cons]
      have := eI_len l (a : Int)
      omega
  have := key (List.range l.length)
  rw [List.length_range] at this
  exact this
theorem allP_mem {l : List PlantElement} {p : Place} (h : p.in_ ∈ eI l p.element) : p ∈ allP l := by
  obtain ⟨h0, h1, x, hx, hn⟩ := eI_mem h
  unfold allP
  rw [List.mem_flatMap]
  refine ⟨p.element.toNat, List.mem_range.2 (by omega), List.mem_map.2 ⟨p.in_, ?_, ?_⟩⟩
  · rw [Int.toNat_of_nonneg h0]; exact h
  · rw [Int.toNat_of_nonneg h0]
theorem nodup_le {α : Type} [DecidableEq α] : ∀ {a b : List α}, a.Nodup → (∀ x ∈ a, x ∈ b) → a.length ≤ b.length
  | [], b, _, _ => by simp
  | x :: a, b, hd, hs => by
    have hd' := List.nodup_cons.1 hd
    have hx := hs x List.mem_cons_self
    have := nodup_le (a := a) (b := b.erase x) hd'.2 fun y hy => (List.mem_erase_of_ne (by rintro rfl; exact hd'.1 hy)).2 (hs y (List.mem_cons_of_mem _ hy))
    rw [List.length_erase_of_mem hx] at this
    have hpos := List.length_pos_of_mem hx
    simp only [List.length_cons]; omega
theorem DI.len {l : List PlantElement} {to : Int} {d : Dst} (h : DI l to d) : d.length ≤ 3 * l.length := by
  have h1 := nodup_le (b := allP l) h.keys fun p hp => by
    obtain ⟨v, hv⟩ := mpGet_mem.2 hp
    exact allP_mem (h.key p v hv)
  have := allP_len l
  rw [List.length_map] at h1
  omega
theorem DI.chain {l : List PlantElement} {to : Int} {d : Dst} (h : DI l to d) : ∀ (v : Nat) (p : Place), mpGet d p = some (v : Int) → ∃ ks : List Place, ks.length = v + 1 ∧ ks.Nodup ∧ ∀ q ∈ ks, ∃ w, mpGet d q = some w ∧ w ≤ v
  | 0, p, hp => ⟨[p], rfl, by simp, fun q hq => by simp at hq; subst hq; exact ⟨_, hp, Int.le_refl _⟩⟩
  | v + 1, p, hp => by
    obtain ⟨_, n, _, hn⟩ := h.pos p _ hp (by omega)
    obtain ⟨ks, h1, h2, h3⟩ := h.chain v (beh l p.element n) (by rw [hn]; congr 1; omega)
    refine ⟨p :: ks, by simp [h1], List.nodup_cons.2 ⟨fun hm => ?_, h2⟩, fun q hq => ?_⟩
    · obtain ⟨w, hw, hw2⟩ := h3 p hm
      rw [hp] at hw; cases hw; omega
    · rcases List.mem_cons.1 hq with rfl | hq
      · exact ⟨_, hp, Int.le_refl _⟩
      · obtain ⟨w, hw, hw2⟩ := h3 q hq; exact ⟨w, hw, by omega⟩
theorem DI.nonneg {l : List PlantElement} {to : Int} {d : Dst} (h : DI l to d) {p : Place} {v : Int} (hp : mpGet d p = some v) : 0 ≤ v := by
  by_cases h0 : v = 0
  · omega
  · have := (h.pos p v hp h0).1; omega
theorem DI.val {l : List PlantElement} {to : Int} {d : Dst} (h : DI l to d) {p : Place} {v : Int} (hp : mpGet d p = some v) : v < d.length := by
  obtain ⟨n, rfl⟩ := Int.eq_ofNat_of_zero_le (h.nonneg hp)
  obtain ⟨ks, h1, h2, h3⟩ := h.chain n p hp
  have := nodup_le (b := d.map Prod.fst) h2 fun q hq => by
    obtain ⟨w, hw, _⟩ := h3 q hq
    exact mpGet_mem.1 ⟨w, hw⟩
  rw [List.length_map] at this
  omega
/-! ### The loops -/
/-- What stands in the queue: distances from 'c' to 'c + 1', ascending; nothing known is farther. -/
structure QI (d : Dst) (q : List Place) (c : Int) : Prop where
  mem : ∀ p ∈ q, ∃ v, mpGet d p = some v ∧ c ≤ v
  top : ∀ p v, mpGet d p = some v → v ≤ c + 1
  ord : q.Pairwise fun a b => ∀ x y, mpGet d a = some x → mpGet d b = some y → x ≤ y
/-- One more at the end. -/
theorem QI.push {d : Dst} {q : List Place} {c : Int} (h : QI d q c) {p : Place} {v : Int} (hp : mpGet d p = none) (h1 : c ≤ v) (h2 : v ≤ c + 1) (h3 : ∀ a ∈ q, ∀ x, mpGet d a = some x → x ≤ v) : QI (mpSet d p v) (q ++ [p]) c := by
  have hle := Dle.set (v := v) hp
  have hnew : ∀ {x}, mpGet (mpSet d p v) p = some x → x = v := fun hx => by rw [mpGet_set, if_pos rfl] at hx; cases hx; rfl
  have hold : ∀ a ∈ q, ∀ x, mpGet (mpSet d p v) a = some x → mpGet d a = some x := fun a ha x hx => by
    obtain ⟨y, hy, _⟩ := h.mem a ha
    have := hle _ _ hy
    rw [hx] at this; cases this; exact hy
  refine ⟨fun r hr => ?_, fun r w hw => ?_, ?_⟩
  · rcases List.mem_append.1 hr with hr | hr
    · obtain ⟨w, hw, hc⟩ := h.mem r hr; exact ⟨w, hle _ _ hw, hc⟩
    · simp at hr; subst hr; exact ⟨v, by rw [mpGet_set, if_pos rfl], h1⟩
  · rw [mpGet_set] at hw
    split at hw
    · cases hw; exact h2
    · exact h.top r w hw
  · rw [List.pairwise_append]
    refine ⟨h.ord.imp_of_mem fun {a b} ha hb hR x y hx hy => hR x y (hold a ha x hx) (hold b hb y hy), by simp, fun a ha b hb x y hx hy => ?_⟩
    simp at hb
    subst hb
    rw [hnew hy]
    exact h3 a ha x (hold a ha x hx)
/-- What was looked at leads to nothing that is not known. -/
def Dn (l : List PlantElement) (d : Dst) (p : Place) (v : Int) : Prop := ∀ m ∈ thr l (nbr l p.element p.in_) p.in_, ∃ w, mpGet d (Place.mk (nbr l p.element p.in_) m) = some w ∧ w ≤ v + 1
def DN (l : List PlantElement) (d : Dst) (q : List Place) : Prop := ∀ p v, mpGet d p = some v → p ∈ q ∨ Dn l d p v
def Cl (l : List PlantElement) (d : Dst) : Prop := ∀ p v, mpGet d p = some v → Dn l d p v
theorem dist0 (N : Nat) {l : List PlantElement} {to : Int} {e : List Int} (he : e = eI l to) (hd : e.Nodup) : ∀ (k n i : Nat) (d : Dst) (q : List Place), k < n → i + k = e.length → DI l to d → QI d q 0 → (∀ p v, mpGet d p = some v → v = 0 ∧ p ∈ q) → (∀ m ∈ e.drop i, mpGet d (Place.mk to m) = none) → d.length = q.length → d.length + k ≤ 1000 →
    ∃ d' q', route_distances_0 N to e e.length n d q i = some (d', q') ∧ DI l to d' ∧ QI d' q' 0 ∧ DN l d' q' ∧ d'.length = q'.length ∧ Dle d d' ∧ ∀ m ∈ e.drop i, mpGet d' (Place.mk to m) = some 0
  | k, 0, i, d, q, hn, _, _, _, _, _, _, _ => by omega
  | 0, n + 1, i, d, q, hn, hi, hD, hQ, hZ, hm, hl, hb => by
    obtain rfl : i = e.length := by omega
    rw [route_distances_0, if_neg (dneg (by omega)), List.drop_length]
    exact ⟨d, q, rfl, hD, hQ, fun p v hp => .inl (hZ p v hp).2, hl, Dle.refl d, by simp⟩
  | k + 1, n + 1, i, d, q, hn, hi, hD, hQ, hZ, hm, hl, hb => by
    have hlt : i < e.length := by omega
    have ha := at_lt hlt
    have he3 := eI_len l to
    rw [route_distances_0, if_pos (dpos (by omega)), getI_nat ha]
    simp only [bind_some', lt_def]
    rw [appI_ok (by simp; omega), bind_some', w64s (by rw [he] at hlt; omega)]
    rw [drop_at ha] at hm ⊢
    have hnone := hm _ List.mem_cons_self
    have hD' := hD.add (v := 0) hnone (by rw [← he]; exact List.getElem_mem hlt) (fun _ => rfl) (fun hh => absurd rfl hh)
    have hle := Dle.set (v := 0) hnone
    have hnot : e[i] ∉ e.drop (i + 1) := by
      intro hm
      obtain ⟨j, hj⟩ := List.getElem?_of_mem hm
      rw [List.getElem?_drop] at hj
      obtain ⟨hjl, hj⟩ := List.getElem?_eq_some_iff.1 hj
      exact List.pairwise_iff_getElem.1 hd i (i + 1 + j) hlt hjl (by omega) hj.symm
    obtain ⟨d', q', g1, g2, g3, g7, g4, g5, g6⟩ := dist0 N he hd k n (i + 1) (mpSet d (Place.mk to e[i]) 0) (q ++ [Place.mk to e[i]]) (by omega) (by omega) hD' (hQ.push hnone (by omega) (by omega) fun a ha x hx => by rw [(hZ a x hx).1]; omega) (fun p v hp => by
      rw [mpGet_set] at hp
      split at hp
      · rename_i hh; cases hp; subst hh; exact ⟨rfl, List.mem_append_right _ (by simp)⟩
      · exact ⟨(hZ p v hp).1, List.mem_append_left _ (hZ p v hp).2⟩) (fun m hmm => by
      rw [mpGet_set, if_neg (fun hh => hnot (by have := congrArg Place.in_ hh; simp at this; rw [this]; exact hmm))]
      exact hm m (List.mem_cons_of_mem _ hmm)) (by rw [mpSet_new hnone]; simp [hl]) (by rw [mpSet_new hnone]; simp; omega)
    refine ⟨d', q', g1, g2, g3, g7, g4, hle.trans g5, fun m hmm => ?_⟩
    rcases List.mem_cons.1 hmm with rfl | hmm
    · exact g5 _ _ (by rw [mpGet_set, if_pos rfl])
    · exact g6 m hmm
/-- From a place 'p' to those through the element behind it. -/
theorem dist2 (N : Nat) {l : List PlantElement} {to : Int} (hP : PlOk l) {p : Place} {v : Int} (hpk : p.in_ ∈ eI l p.element) (hk0 : 0 ≤ nbr l p.element p.in_) {t : List Int} (ht : t = thr l (nbr l p.element p.in_) p.in_) : ∀ (k n i : Nat) (d : Dst) (q : List Place), k < n → i + k = t.length → DI l to d → QI d q v → mpGet d p = some v → 0 ≤ v → v ≤ 1000 → d.length + k ≤ 1000 → q.length ≤ 1000 + i →
    ∃ d' q', route_distances_2 N p (nbr l p.element p.in_) t t.length n d q i = some (d', q') ∧ DI l to d' ∧ QI d' q' v ∧ (∀ r w, mpGet d' r = some w → mpGet d r = some w ∨ r ∈ q') ∧ (∀ r ∈ q, r ∈ q') ∧ d'.length + q.length = d.length + q'.length ∧ Dle d d' ∧ (∀ m ∈ t.drop i, ∃ w, mpGet d' (Place.mk (nbr l p.element p.in_) m) = some w) ∧ d'.length ≤ d.length + k
  | k, 0, i, d, q, hn, _, _, _, _, _, _, _, _ => by omega
  | 0, n + 1, i, d, q, hn, hi, hD, hQ, hv, hv0, hv1, hb, hq => by
    obtain rfl : i = t.length := by omega
    rw [route_distances_2, if_neg (dneg (by omega)), List.drop_length]
    exact ⟨d, q, rfl, hD, hQ, fun _ _ h => .inl h, fun _ h => h, by omega, Dle.refl d, by simp, by omega⟩
  | k + 1, n + 1, i, d, q, hn, hi, hD, hQ, hv, hv0, hv1, hb, hq => by
    have hlt : i < t.length := by omega
    have ha := at_lt hlt
    have ht3 := thr_len l (nbr l p.element p.in_) p.in_
    rw [route_distances_2, if_pos (dpos (by omega))]
    unfold route_distances_3
    rw [getI_nat ha, drop_at ha]
    simp only [bind_some', lt_def]
    have hmt : t[i] ∈ thr l (nbr l p.element p.in_) p.in_ := by rw [← ht]; exact List.getElem_mem hlt
    cases hg : mpGet d (Place.mk (nbr l p.element p.in_) t[i]) with
    | some w =>
      simp only [Option.isSome_some, Bool.not_true, Bool.false_eq_true, if_false, bind_some']
      rw [w64s (by rw [ht] at hlt; omega)]
      obtain ⟨d', q', g1, g2, g3, g8, g9, g4, g5, g6, g7⟩ := dist2 N hP hpk hk0 ht k n (i + 1) d q (by omega) (by omega) hD hQ hv hv0 hv1 (by omega) (by omega)
      refine ⟨d', q', g1, g2, g3, g8, g9, g4, g5, fun m hm => ?_, by omega⟩
      rcases List.mem_cons.1 hm with rfl | hm
      · exact ⟨w, g5 _ _ hg⟩
      · exact g6 m hm
    | none =>
      simp only [Option.isSome_none, Bool.not_false, if_true, hv, Option.getD_some]
      rw [w64 (by omega) (by omega), appI_ok (by simp; rw [ht] at hlt; omega), bind_some', bind_some']
      simp only []
      rw [w64s (by rw [ht] at hlt; omega)]
      obtain ⟨m1, m2⟩ := thr_mem hmt
      have hsym := hP.thr_sym hmt
      have hbeh : beh l (nbr l p.element p.in_) p.in_ = p := by
        unfold beh
        rw [hP.nbr_sym hpk hk0]
      have hD' := hD.add (v := v + 1) hg m2 (fun hh => by omega) (fun _ => ⟨by omega, p.in_, hsym.1, by rw [hbeh, hv]; congr 1; omega⟩)
      have hle := Dle.set (v := v + 1) hg
      obtain ⟨d', q', g1, g2, g3, g8, g9, g4, g5, g6, g7⟩ := dist2 N hP hpk hk0 ht k n (i + 1) (mpSet d (Place.mk (nbr l p.element p.in_) t[i]) (v + 1)) (q ++ [Place.mk (nbr l p.element p.in_) t[i]]) (by omega) (by omega) hD' (hQ.push hg (by omega) (by omega) fun a ha x hx => hQ.top a x hx) (hle _ _ hv) hv0 hv1 (by rw [mpSet_new hg]; simp; omega) (by simp; omega)
      refine ⟨d', q', g1, g2, g3, fun r w hr => ?_, fun r hr => g9 r (List.mem_append_left _ hr), ?_, hle.trans g5, fun m hm => ?_, ?_⟩
      · rcases g8 r w hr with h | h
        · rw [mpGet_set] at h
          split at h
          · rename_i hh; subst hh; exact .inr (g9 _ (List.mem_append_right _ (by simp)))
          · exact .inl h
        · exact .inr h
      · rw [mpSet_new hg] at g4; simp at g4; omega
      · rcases List.mem_cons.1 hm with rfl | hm
        · exact ⟨v + 1, g5 _ _ (by rw [mpGet_set, if_pos rfl])⟩
        · exact g6 m hm
      · rw [mpSet_new hg] at g7; simp at g7; omega
/-- The search: what is left in the queue, and what is not known yet, grows less. -/
theorem dist1 (N : Nat) (hN : 1000 ≤ N) {l : List PlantElement} {to : Int} (hP : PlOk l) : ∀ (k n : Nat) (d : Dst) (q : List Place) (c : Int), k < n → q.length + 3 * l.length ≤ k + d.length → DI l to d → QI d q c → DN l d q → q.length ≤ d.length →
    ∃ d', route_distances_1 N l n d q = some d' ∧ DI l to d' ∧ Dle d d' ∧ Cl l d'
  | k, 0, d, q, c, hn, _, _, _, _, _ => by omega
  | k, n + 1, d, q, c, hn, hk, hD, hQ, hN2, hq => by
    have hdl := hD.len
    have hll := hP.len
    rw [route_distances_1]
    cases q with
    | nil =>
      rw [if_neg (dneg (by simp))]
      exact ⟨d, rfl, hD, Dle.refl d, fun p v hp => by
        rcases hN2 p v hp with h | h
        · cases h
        · exact h⟩
    | cons p q =>
      rw [if_pos (dpos (by simp))]
      have hg : getI (p :: q) 0 = some p := rfl
      have hcut : cutI (p :: q) 1 ((p :: q).length : Int) = some q := cutI_drop (xs := p :: q) (i := 1) (by simp)
      obtain ⟨v, hvp, hcv⟩ := hQ.mem p List.mem_cons_self
      have hpk := hD.key p v hvp
      have hv0 := hD.nonneg hvp
      have hv1 := hD.val hvp
      rw [hg, bind_some', bind_some', hcut, bind_some', pnbr_ok N (by omega) (by omega), bind_some', pthr_ok N (by omega), bind_some']
      simp only [List.length_cons] at hk hq
      have hord := List.pairwise_cons.1 hQ.ord
      have hQ' : QI d q v := ⟨fun r hr => by
        obtain ⟨w, hw, _⟩ := hQ.mem r (List.mem_cons_of_mem _ hr)
        exact ⟨w, hw, hord.1 r hr v w hvp hw⟩, fun r w hw => by have := hQ.top r w hw; omega, hord.2⟩
      have ht3 := thr_len l (nbr l p.element p.in_) p.in_
      have key : ∃ d' q', route_distances_2 N p (nbr l p.element p.in_) (thr l (nbr l p.element p.in_) p.in_) (thr l (nbr l p.element p.in_) p.in_).length N d q 0 = some (d', q') ∧ DI l to d' ∧ QI d' q' v ∧ (∀ r w, mpGet d' r = some w → mpGet d r = some w ∨ r ∈ q') ∧ (∀ r ∈ q, r ∈ q') ∧ d'.length + q.length = d.length + q'.length ∧ Dle d d' ∧ Dn l d' p v := by
        by_cases hk0 : 0 ≤ nbr l p.element p.in_
        · obtain ⟨d', q', g1, g2, g3, g8, g9, g4, g5, g6, g7⟩ := dist2 N hP hpk hk0 rfl (thr l (nbr l p.element p.in_) p.in_).length N 0 d q (by omega) (by omega) hD hQ' hvp hv0 (by omega) (by omega) (by omega)
          exact ⟨d', q', g1, g2, g3, g8, g9, g4, g5, fun m hm => by
            obtain ⟨w, hw⟩ := g6 m (by simpa using hm)
            exact ⟨w, hw, g3.top _ _ hw⟩⟩
        · have hnil : thr l (nbr l p.element p.in_) p.in_ = [] := by
            unfold thr eI
            rw [if_neg hk0]
            rfl
          rw [hnil]
          have : route_distances_2 N p (nbr l p.element p.in_) [] (([] : List Int).length : Int) N d q 0 = some (d, q) := by
            obtain ⟨M, rfl⟩ : ∃ M, N = M + 1 := ⟨N - 1, by omega⟩
            rw [route_distances_2, if_neg (by simp)]
          exact ⟨d, q, this, hD, hQ', fun _ _ h => .inl h, fun _ h => h, by omega, Dle.refl d, fun m hm => by rw [hnil] at hm; simp at hm⟩
      obtain ⟨d', q', g1, g2, g3, g8, g9, g4, g5, g6⟩ := key
      rw [g1, bind_some']
      have hdl' := g2.len
      cases k with
      | zero => omega
      | succ k =>
        obtain ⟨d2, h1, h2, h3, h4⟩ := dist1 N hN hP k n d' q' v (by omega) (by omega) g2 g3 (fun r w hr => by
          rcases g8 r w hr with h | h
          · rcases hN2 r w h with h' | h'
            · rcases List.mem_cons.1 h' with rfl | h'
              · rw [hvp] at h; cases h; exact .inr g6
              · exact .inl (g9 r h')
            · exact .inr fun m hm => by
                obtain ⟨x, hx, hx2⟩ := h' m hm
                exact ⟨x, g5 _ _ hx, hx2⟩
          · exact .inl h) (by omega)
        exact ⟨d2, h1, h2, g5.trans h3, h4⟩
theorem DI.nil (l : List PlantElement) (to : Int) : DI l to [] := ⟨by simp [mpGet], by simp [mpGet], by simp [mpGet], by simp⟩
theorem dist_ok (N : Nat) (hN : 1000 ≤ N) {l : List PlantElement} {to : Int} (hP : PlOk l) : ∃ d, route_distances N l to = some d ∧ DI l to d ∧ (∀ m ∈ eI l to, mpGet d (Place.mk to m) = some 0) ∧ Cl l d := by
  unfold route_distances
  have he := eI_len l to
  have hll := hP.len
  rw [pEnds_ok, bind_some']
  obtain ⟨d, q, h1, h2, h3, h7, h4, h5, h6⟩ := dist0 N rfl (hP.nodup to) (eI l to).length N 0 [] [] (by omega) (by omega) (DI.nil l to) ⟨by simp, by simp [mpGet], by simp⟩ (by simp [mpGet]) (by simp [mpGet]) rfl (by simp; omega)
  have h1 : route_distances_0 N to (eI l to) (eI l to).length N [] [] 0 = some (d, q) := h1
  rw [h1, bind_some']
  have hdl := h2.len
  obtain ⟨d', g1, g2, g3, g4⟩ := dist1 N hN hP (q.length + 3 * l.length) N d q 0 (by omega) (by omega) h2 h3 h7 (by omega)
  rw [g1, bind_some']
  refine ⟨d', rfl, g2, fun m hm => g3 _ _ (h6 m (by simpa using hm)), g4⟩
end Go.W
end
section
set_option linter.unusedVariables false
set_option linter.unusedSimpArgs false
set_option maxRecDepth 100000
namespace Go.W
open Go.AM
def smallP : List PlantElement := [(PlantElement.mk 1 [116, 49] 0 1 0 9), (PlantElement.mk 2 [119] 1 2 3 0), (PlantElement.mk 1 [116, 50] 2 4 0 9), (PlantElement.mk 1 [116, 51] 3 5 0 9)]
def smallR : List Visit := [(Visit.mk 0 (-1) 1), (Visit.mk 1 1 3), (Visit.mk 3 3 (-1))]
theorem sfind (M : Nat) : route_Find (M + 60) smallP 0 3 = some (smallR, 0) := by kernel_rfl
theorem sfind2 (M : Nat) : route_Find (M + 60) smallP 2 3 = some ([], 15) := by kernel_rfl
theorem svalid (M : Nat) : route_Valid (M + 60) smallP smallR = some true := by kernel_rfl
theorem sset0 (M : Nat) : route_Settings_0 (M + 60) smallP smallR (smallR.length : Int) (M + 60) [] 0 = some [Setting.mk 1 2] := by kernel_rfl
theorem srt1 {α : Type} (x0 : α) (f : α → Int) (x : α) : @srtI α ⟨x0⟩ (fun a b => cmpI (f a) (f b)) [x] = some [x] := by
  letI : Inhabited α := ⟨x0⟩
  unfold srtI
  rw [if_pos (by simp)]
  have := srtL_perm (fun a b => cmpI (f a) (f b)) (swo_key f) [x]
  rw [List.perm_singleton.1 this]
theorem sset (M : Nat) : route_Settings (M + 60) smallP smallR = some ([Setting.mk 1 2], 0) := by
  unfold route_Settings
  rw [svalid, bind_some', if_neg (by simp), sset0, bind_some', srt1 (Setting.mk 0 0) Setting.element (Setting.mk 1 2), bind_some']
theorem sane27 (M : Nat) : l27_sane (M + 60) = some true := by
  unfold l27_sane
  have h0 : l27_small (M + 60) = some smallP := rfl
  rw [h0, bind_some', sfind, bind_some', bind_some']
  simp only []
  rw [sset, bind_some', bind_some', sfind2, bind_some']
  have h1 : l27_sane_0 (M + 60) smallR 0 [Setting.mk 1 2] 0 15 = some true := by kernel_rfl
  rw [h1, bind_some']
theorem sane27' {N : Nat} (h : 60 ≤ N) : l27_sane N = some true := by
  obtain ⟨M, rfl⟩ : ∃ M, N = M + 60 := ⟨N - 60, by omega⟩
  exact sane27 M
end Go.W
end
section
set_option linter.unusedVariables false
set_option linter.unusedSimpArgs false
namespace Go.W
open Go.AM
/-! ### Small ones -/
def trk (l : List PlantElement) (i : Int) : Prop := 0 ≤ i ∧ ∃ x, l[i.toNat]? = some x ∧ x.kind = 1
instance (l : List PlantElement) (i : Int) : Decidable (trk l i) := by
  unfold trk
  cases h : l[i.toNat]? with
  | none => exact isFalse (by rintro ⟨_, x, hx, _⟩; cases hx)
  | some y => exact if h2 : 0 ≤ i ∧ y.kind = 1 then isTrue ⟨h2.1, y, rfl, h2.2⟩ else isFalse (by rintro ⟨a, x, hx, b⟩; cases hx; exact h2 ⟨a, b⟩)
theorem ptrk_ok (N : Nat) (l : List PlantElement) (i : Int) : route_track N l i = some (decide (trk l i)) := by
  unfold route_track route_track_0
  by_cases h0 : 0 ≤ i
  · rw [if_pos (lpos h0)]
    by_cases h1 : i < l.length
    · rw [if_pos (dpos h1)]
      have hlt : i.toNat < l.length := by omega
      have hg : getI l i = some l[i.toNat] := by simp [getI, h0, hlt]
      rw [hg, bind_some', lt_def, bind_some']
      congr 1
      by_cases hk : l[i.toNat].kind = 1
      · rw [decide_eq_true (show trk l i from ⟨h0, _, at_lt hlt, hk⟩)]; simpa using hk
      · rw [decide_eq_false (show ¬ trk l i from by rintro ⟨_, x, hx, hk'⟩; rw [at_lt hlt] at hx; cases hx; exact hk hk')]; simpa using hk
    · rw [if_neg (dneg h1), bind_some', decide_eq_false (show ¬ trk l i from by rintro ⟨_, x, hx, _⟩; have := (List.getElem?_eq_some_iff.1 hx).1; omega)]
  · rw [if_neg (lneg h0), bind_some', decide_eq_false (show ¬ trk l i from fun h => h0 h.1)]
theorem rtrk_ok (N : Nat) (l : List PlantElement) (i : Int) : r27_track N l i = some (decide (trk l i)) := by
  have h := ptrk_ok N l i
  unfold route_track route_track_0 at h
  unfold r27_track r27_track_0
  exact h
theorem contains_ok (N : Nat) {l : List Int} (hN : l.length < N) (hl : l.length ≤ 1000000) (x : Int) : slices_Contains_int_int N l x = some (l.contains x) := by
  unfold slices_Contains_int_int slices_Index_int_int
  have h := first_gen (l := l) (fun _ y => x == y) (fun i _ => (i : Int)) (fun m i => slices_Index_int_int_0 N l x l.length m i) (fun m => by
    show slices_Index_int_int_0 N l x l.length (m + 1) _ = _
    rw [slices_Index_int_int_0, if_neg (dneg (by omega))]) (fun m i y hy => by
    show slices_Index_int_int_0 N l x l.length (m + 1) _ = _
    have hlt := (List.getElem?_eq_some_iff.1 hy).1
    rw [slices_Index_int_int_0, if_pos (dpos (by omega)), getI_nat hy, bind_some', w64s (by omega)]) l.length N 0 hN (by omega)
  simp only [Int.natCast_zero, List.drop_zero] at h
  rw [h, bind_some']
  have key : (∃ u, res (fun _ y => x == y) (fun i _ => (i : Int)) 0 l = .inl u) ↔ l.contains x = false := by
    have : res (fun _ y => x == y) (fun i (_ : Int) => (i : Int)) 0 l = .inl () ↔ _ := res_none
    constructor
    · rintro ⟨u, hu⟩
      have h2 := this.1 hu
      rw [Bool.eq_false_iff]
      intro hc
      have hm : x ∈ l := by simpa using hc
      obtain ⟨j, hj⟩ := List.getElem?_of_mem hm
      have := h2 j x hj
      simp at this
    · intro hc
      refine ⟨(), this.2 fun j y hj => ?_⟩
      have hm : x ∉ l := by simpa using hc
      simp only [beq_eq_false_iff_ne, ne_eq]
      rintro rfl
      exact hm (List.mem_of_getElem? hj)
  rcases res_first (fun _ y => x == y) l 0 with ⟨h1, h2⟩ | ⟨h1, h2⟩
  · rw [h1]
    have := key.1 ⟨(), h1⟩
    rw [this]
    rfl
  · rw [h1]
    have : l.contains x = true := by
      cases hc : l.contains x with
      | true => rfl
      | false => obtain ⟨u, hu⟩ := key.2 hc; rw [h1] at hu; cases hu
    rw [this]
    simp only [bind_some', lt_def]
    rw [decide_eq_true h2]
theorem rHas_ok (N : Nat) {l : List Int} (hN : l.length < N) (hl : l.length ≤ 1000000) (x : Int) : r27_Has N l x = some (l.contains x) := by
  have h := has_gen (l := l) (x := x) (fun n i => r27_Has_0 N l x n i) (fun n => by
    show r27_Has_0 N l x (n + 1) _ = _
    rw [r27_Has_0, if_neg (dneg (by omega))]) (fun n i y hy => by
    show r27_Has_0 N l x (n + 1) _ = _
    have hlt := (List.getElem?_eq_some_iff.1 hy).1
    rw [r27_Has_0, if_pos (dpos (by omega)), getI_nat hy, bind_some', lt_def, w64s (by omega)]) hN
  unfold r27_Has
  rw [h, bind_some']
  cases l.contains x <;> rfl
def elems (r : List Visit) : List Int := r.map Visit.element
theorem visits_ok (N : Nat) {r : List Visit} (hN : r.length < N) (hl : r.length ≤ 9223372036854775807) (x : Int) : r27_Visits N r x = some ((elems r).contains x) := by
  have h := first_gen (l := r) (fun _ y => y.element == x) (fun _ _ => true) (fun n i => r27_Visits_0 N r x n i) (fun n => by
    show r27_Visits_0 N r x (n + 1) _ = _
    rw [r27_Visits_0, if_neg (dneg (by omega))]) (fun n i y hy => by
    show r27_Visits_0 N r x (n + 1) _ = _
    have hlt := (List.getElem?_eq_some_iff.1 hy).1
    rw [r27_Visits_0, if_pos (dpos (by omega)), getI_nat hy, bind_some', lt_def, w64s (by omega)]) r.length N 0 hN (by omega)
  simp only [Int.natCast_zero, List.drop_zero] at h
  unfold r27_Visits
  rw [h, bind_some', res_any (fun y : Visit => y.element == x)]
  have e : (r.any fun y => y.element == x) = (elems r).contains x := by
    unfold elems
    rw [← any_eq, List.any_map]
    rfl
  rw [e]
  cases (elems r).contains x <;> rfl
/-! ### Twice -/
theorem twice_loop (N : Nat) {r : List Visit} (hl : r.length ≤ 9223372036854775807) : ∀ (k n i : Nat) (x3 : List (Int × Bool)), k < n → i + k = r.length → (∀ a, (mpGet x3 a).getD false = (elems (r.take i)).contains a) → (elems (r.take i)).Nodup →
    (route_twice_0 N r r.length n x3 i = some (.inl ()) ∧ (elems r).Nodup) ∨ (route_twice_0 N r r.length n x3 i = some (.inr true) ∧ ¬ (elems r).Nodup)
  | k, 0, i, x3, hn, _, _, _ => by omega
  | 0, n + 1, i, x3, hn, hi, h1, h2 => by
    obtain rfl : i = r.length := by omega
    rw [route_twice_0, if_neg (dneg (by omega))]
    rw [List.take_length] at h2
    exact .inl ⟨rfl, h2⟩
  | k + 1, n + 1, i, x3, hn, hi, h1, h2 => by
    have hlt : i < r.length := by omega
    have ha := at_lt hlt
    rw [route_twice_0, if_pos (dpos (by omega)), getI_nat ha, bind_some', lt_def, h1]
    have htk : elems (r.take (i + 1)) = elems (r.take i) ++ [r[i].element] := by unfold elems; rw [take_at ha, List.map_append]; rfl
    by_cases hc : (elems (r.take i)).contains r[i].element = true
    · rw [if_pos hc]
      refine .inr ⟨rfl, fun hd => ?_⟩
      have hs : (elems (r.take (i + 1))).Nodup := hd.sublist ((List.take_sublist (i + 1) r).map _)
      rw [htk, List.nodup_append] at hs
      exact hs.2.2 _ (by simpa using hc) _ (by simp) rfl
    · rw [if_neg hc, lt_def, w64s (by omega)]
      refine twice_loop N hl k n (i + 1) _ (by omega) (by omega) (fun a => ?_) ?_
      · rw [mpGet_set, htk]
        by_cases hh : r[i].element = a
        · rw [if_pos hh]; simp [hh]
        · rw [if_neg hh, h1]
          have hh' : ¬ a = r[i].element := fun q => hh q.symm
          simp [hh']
      · rw [htk, List.nodup_append]
        refine ⟨h2, by simp, fun x hx y hy => ?_⟩
        simp at hy
        subst hy
        rintro rfl
        exact hc (by simpa using hx)
theorem twice_ok (N : Nat) {r : List Visit} (hN : r.length < N) (hl : r.length ≤ 9223372036854775807) : ∃ b, route_twice N r = some b ∧ (b = false ↔ (elems r).Nodup) := by
  unfold route_twice
  have h := twice_loop N hl r.length N 0 [] hN (by omega) (fun a => by simp [mpGet, elems]) (by simp [elems])
  rcases h with ⟨h1, h2⟩ | ⟨h1, h2⟩
  · have h1 : route_twice_0 N r r.length N [] 0 = some (.inl ()) := h1
    rw [h1, bind_some']
    exact ⟨false, rfl, by simp [h2]⟩
  · have h1 : route_twice_0 N r r.length N [] 0 = some (.inr true) := h1
    rw [h1, bind_some']
    exact ⟨true, rfl, by simp [h2]⟩
/-! ### A way -/
structure WayP (l : List PlantElement) (r : List Visit) : Prop where
  two : 2 ≤ r.length
  st : ∀ v, r[0]? = some v → trk l v.element ∧ v.in_ = -1 ∧ v.out ∈ eI l v.element
  en : ∀ v, r[r.length - 1]? = some v → trk l v.element ∧ v.out = -1
  step : ∀ (i : Nat) v w, r[i]? = some v → r[i + 1]? = some w → w.in_ = v.out ∧ 0 ≤ w.element ∧ w.element = nbr l v.element v.out
  mid : ∀ (i : Nat) v, 0 < i → i + 1 < r.length → r[i]? = some v → v.out ∈ thr l v.element v.in_
theorem WayP.ins {l : List PlantElement} {r : List Visit} (h : WayP l r) {i : Nat} {v : Visit} (hi : 0 < i) (hv : r[i]? = some v) : v.in_ ∈ eI l v.element := by
  obtain ⟨j, rfl⟩ : ∃ j, i = j + 1 := ⟨i - 1, by omega⟩
  have hlt := (List.getElem?_eq_some_iff.1 hv).1
  have hj := at_lt (xs := r) (i := j) (by omega)
  obtain ⟨a, b, c⟩ := h.step j _ v hj hv
  rw [c, a]
  exact (nbr_mem (by rw [← c]; exact b)).1
theorem WayP.outs {l : List PlantElement} {r : List Visit} (h : WayP l r) {i : Nat} {v : Visit} (hi : i + 1 < r.length) (hv : r[i]? = some v) : v.out ∈ eI l v.element := by
  cases i with
  | zero => exact (h.st v hv).2.2
  | succ i => exact (thr_mem (h.mid (i + 1) v (by omega) hi hv)).2
/-- A chain of conditions with early ends. -/
theorem or_cond {a : Bool} {x : Option Bool} {p q : Prop} (ha : a = false ↔ p) (hx : ∃ b, x = some b ∧ (b = false ↔ q)) : ∃ b, (if a = true then some true else x) = some b ∧ (b = false ↔ p ∧ q) := by
  cases a with
  | true => exact ⟨true, rfl, by simp at ha; simp [ha]⟩
  | false =>
    obtain ⟨b, h1, h2⟩ := hx
    refine ⟨b, by simpa using h1, ?_⟩
    rw [h2]
    simp at ha
    simp [ha]
theorem notdec {p : Prop} [Decidable p] : (!decide p) = false ↔ p := by simp
theorem ncont {l : List Int} {x : Int} : (!l.contains x) = false ↔ x ∈ l := by simp
theorem bne_f {a b : Int} : (a != b) = false ↔ a = b := by simp
theorem dlt_f {a b : Int} : decide (a < b) = false ↔ b ≤ a := by simp
theorem pway_ok (N : Nat) {l : List PlantElement} {r : List Visit} (hN : r.length + l.length + 10 ≤ N) (hl : l.length ≤ 1000000) (hr : r.length ≤ 9223372036854775807) : ∃ b, route_way N l r = some b ∧ (b = true ↔ WayP l r) := by
  unfold route_way
  rw [lt_def]
  by_cases h2 : r.length < 2
  · have h : route_way_0 N l r (IntKind.wrap .i64 ((r.length : Int) - 1)) = some true := by
      unfold route_way_0
      rw [if_pos (dpos (by rw [w64 (by omega) (by omega)]; omega))]
    rw [h, bind_some', if_pos rfl]
    exact ⟨false, rfl, by simp; intro hw; have := hw.two; omega⟩
  have hw : IntKind.wrap .i64 ((r.length : Int) - 1) = ((r.length - 1 : Nat) : Int) := by rw [w64 (by omega) (by omega)]; omega
  rw [hw]
  have h0 := at_lt (xs := r) (i := 0) (by omega)
  have hz := at_lt (xs := r) (i := r.length - 1) (by omega)
  generalize hv0 : r[0]'(by omega) = v at h0
  generalize hvz : r[r.length - 1]'(by omega) = w at hz
  have g0 : getI r 0 = some v := getI_nat h0
  have gz : getI r ((r.length - 1 : Nat) : Int) = some w := getI_nat hz
  have e1 := eI_len l v.element
  have e2 := eI_len l w.element
  have c0 : ∃ b, route_way_0 N l r ((r.length - 1 : Nat) : Int) = some b ∧ (b = false ↔ trk l v.element ∧ trk l w.element ∧ v.in_ = -1 ∧ w.out = -1) := by
    unfold route_way_0
    rw [if_neg (dneg (by omega))]
    simp only [g0, gz, bind_some', ptrk_ok]
    exact or_cond notdec (or_cond notdec (or_cond bne_f ⟨_, rfl, bne_f⟩))
  have c1 : ∃ b, route_way_1 N l r ((r.length - 1 : Nat) : Int) = some b ∧ (b = false ↔ v.out ∈ eI l v.element ∧ w.in_ ∈ eI l w.element) := by
    unfold route_way_1
    simp only [g0, gz, bind_some', pEnds_ok]
    rw [contains_ok N (by omega) (by omega), contains_ok N (by omega) (by omega)]
    simp only [bind_some']
    exact or_cond ncont ⟨_, rfl, ncont⟩
  obtain ⟨b0, p0, q0⟩ := c0
  obtain ⟨b1, p1, q1⟩ := c1
  rw [p0, bind_some']
  have st' : ∀ {x}, r[0]? = some x → x = v := fun hx => by rw [h0] at hx; cases hx; rfl
  have en' : ∀ {x}, r[r.length - 1]? = some x → x = w := fun hx => by rw [hz] at hx; cases hx; rfl
  cases b0 with
  | true =>
    rw [if_pos rfl]
    refine ⟨false, rfl, ?_⟩
    simp only [Bool.false_eq_true, false_iff]
    intro hw
    have a := hw.st v h0
    have b := hw.en w hz
    have := q0.2 ⟨a.1, b.1, a.2.1, b.2⟩
    cases this
  | false =>
    rw [if_neg (by simp), p1, bind_some']
    have q0 := q0.1 rfl
    cases b1 with
    | true =>
      rw [if_pos rfl]
      refine ⟨false, rfl, ?_⟩
      simp only [Bool.false_eq_true, false_iff]
      intro hw
      have := q1.2 ⟨(hw.st v h0).2.2, hw.ins (by omega) hz⟩
      cases this
    | false =>
      rw [if_neg (by simp)]
      have q1 := q1.1 rfl
      have hcut : cutI r 1 (r.length : Int) = some (r.drop 1) := cutI_drop (i := 1) (by omega)
      rw [hcut, bind_some']
      have hlen : (r.drop 1).length = r.length - 1 := List.length_drop
      let bad : Nat → Visit → Prop := fun i y => ¬ ((y.in_ = (r.getD i (Visit.mk 0 0 0)).out ∧ 0 ≤ y.element ∧ nbr l (r.getD i (Visit.mk 0 0 0)).element (r.getD i (Visit.mk 0 0 0)).out = y.element) ∧ (i + 2 < r.length → y.out ∈ thr l y.element y.in_))
      have hloop := first_gen (l := r.drop 1) (fun i y => @decide (bad i y) (Classical.propDecidable _)) (fun _ _ => false) (fun m i => route_way_2 N l r ((r.length - 1 : Nat) : Int) (r.drop 1) (r.drop 1).length m i) (fun m => by
        show route_way_2 N l r _ (r.drop 1) (r.drop 1).length (m + 1) _ = _
        rw [route_way_2, if_neg (dneg (by omega))]) (fun m i y hy => by
        show route_way_2 N l r _ (r.drop 1) (r.drop 1).length (m + 1) _ = _
        have hlt := (List.getElem?_eq_some_iff.1 hy).1
        have hi := at_lt (xs := r) (i := i) (by omega)
        rw [route_way_2, if_pos (dpos (by omega)), getI_nat hy, bind_some', getI_nat hi, bind_some']
        have hgd : r.getD i (Visit.mk 0 0 0) = r[i]'(by omega) := by simp [List.getD, hi]
        have d3 : ∃ b, route_way_3 N l y (r[i]'(by omega)) = some b ∧ (b = false ↔ y.in_ = (r.getD i (Visit.mk 0 0 0)).out ∧ 0 ≤ y.element ∧ nbr l (r.getD i (Visit.mk 0 0 0)).element (r.getD i (Visit.mk 0 0 0)).out = y.element) := by
          unfold route_way_3
          rw [hgd, pnbr_ok N (by omega) (by omega), bind_some']
          exact or_cond bne_f (or_cond dlt_f ⟨_, rfl, bne_f⟩)
        have d4 : ∃ b, route_way_4 N l ((r.length - 1 : Nat) : Int) i y = some b ∧ (b = false ↔ (i + 2 < r.length → y.out ∈ thr l y.element y.in_)) := by
          unfold route_way_4
          rw [w64s (by omega)]
          by_cases hh : i + 2 < r.length
          · rw [if_pos (dpos (by omega)), pthr_ok N (by omega), bind_some', contains_ok N (by have := thr_len l y.element y.in_; omega) (by have := thr_len l y.element y.in_; omega), bind_some']
            exact ⟨_, rfl, by rw [ncont]; simp [hh]⟩
          · rw [if_neg (dneg (by omega))]
            exact ⟨false, rfl, by simp [hh]⟩
        obtain ⟨b3, r3, s3⟩ := d3
        obtain ⟨b4, r4, s4⟩ := d4
        rw [r3, bind_some']
        cases b3 with
        | true =>
          have hb : bad i y := fun hh => by have := s3.2 hh.1; cases this
          rw [if_pos rfl, @decide_eq_true _ (Classical.propDecidable _) hb, if_pos rfl]
        | false =>
          rw [if_neg (by simp), r4, bind_some']
          cases b4 with
          | true =>
            have hb : bad i y := fun hh => by have := s4.2 hh.2; cases this
            rw [if_pos rfl, @decide_eq_true _ (Classical.propDecidable _) hb, if_pos rfl]
          | false =>
            have hb : ¬ bad i y := fun hh => hh ⟨s3.1 rfl, s4.1 rfl⟩
            rw [if_neg (by simp), @decide_eq_false _ (Classical.propDecidable _) hb, if_neg (by simp), w64s (by omega)]) (r.drop 1).length N 0 (by omega) (by omega)
      simp only [Int.natCast_zero, List.drop_zero] at hloop
      rw [hloop, bind_some']
      have hiff : WayP l r ↔ ∀ (j : Nat) (y : Visit), (r.drop 1)[j]? = some y → ¬ bad j y := by
        constructor
        · intro hw j y hj hb
          rw [List.getElem?_drop, Nat.add_comm] at hj
          have hlt := (List.getElem?_eq_some_iff.1 hj).1
          have hi := at_lt (xs := r) (i := j) (by omega)
          have hgd : r.getD j (Visit.mk 0 0 0) = r[j]'(by omega) := by simp [List.getD, hi]
          obtain ⟨a, b, c⟩ := hw.step j _ y hi hj
          refine hb ⟨by rw [hgd]; exact ⟨a, b, c.symm⟩, fun hh => hw.mid (j + 1) y (by omega) (by omega) hj⟩
        · intro hh
          refine ⟨by omega, fun x hx => ?_, fun x hx => ?_, fun i x y hx hy => ?_, fun i x hi hi2 hx => ?_⟩
          · rw [st' hx]; exact ⟨q0.1, q0.2.2.1, q1.1⟩
          · rw [en' hx]; exact ⟨q0.2.1, q0.2.2.2⟩
          · have := Classical.not_not.1 (hh i y (by rw [List.getElem?_drop, Nat.add_comm]; exact hy))
            have hgd : r.getD i (Visit.mk 0 0 0) = x := by simp [List.getD, hx]
            rw [hgd] at this
            exact ⟨this.1.1, this.1.2.1, this.1.2.2.symm⟩
          · obtain ⟨j, rfl⟩ : ∃ j, i = j + 1 := ⟨i - 1, by omega⟩
            have := Classical.not_not.1 (hh j x (by rw [List.getElem?_drop, Nat.add_comm]; exact hx))
            exact this.2 (by omega)
      have hres := res_none (p := fun i y => @decide (bad i y) (Classical.propDecidable _)) (out := fun _ _ => false) (l := r.drop 1) (i := 0)
      cases hr2 : res (fun i y => @decide (bad i y) (Classical.propDecidable _)) (fun _ _ => false) 0 (r.drop 1) with
      | inl u =>
        refine ⟨true, rfl, ?_⟩
        simp only [true_iff]
        refine hiff.2 fun j y hj => ?_
        have := (hres.1 hr2) j y hj
        rw [Nat.zero_add] at this
        exact @of_decide_eq_false _ (Classical.propDecidable _) this
      | inr b =>
        have hbf : b = false := by
          have key : ∀ (e : List Visit) (i : Nat) (b : Bool), res (fun i y => @decide (bad i y) (Classical.propDecidable _)) (fun _ _ => false) i e = .inr b → b = false := by
            intro e
            induction e with
            | nil => intro i b h; cases h
            | cons y e ih =>
              intro i b h
              rw [res] at h
              split at h
              · cases h; rfl
              · exact ih _ _ h
          exact key _ _ _ hr2
        subst hbf
        refine ⟨false, rfl, ?_⟩
        simp only [Bool.false_eq_true, false_iff]
        intro hw
        have := hres.2 fun j y hj => by
          rw [Nat.zero_add]
          exact @decide_eq_false _ (Classical.propDecidable _) (hiff.1 hw j y hj)
        rw [this] at hr2; cases hr2
end Go.W
end
section
set_option linter.unusedVariables false
set_option linter.unusedSimpArgs false
namespace Go.W
open Go.AM
/-- A route through a plant. -/
def RtP (l : List PlantElement) (r : List Visit) : Prop := vErr l = 0 ∧ WayP l r ∧ (elems r).Nodup
theorem pVal_ok (N : Nat) {l : List PlantElement} {r : List Visit} (hN : r.length + l.length + 200 ≤ N) (hl : l.length ≤ 1000000) (hr : r.length ≤ 9223372036854775807) : ∃ b, route_Valid N l r = some b ∧ (b = true ↔ RtP l r) := by
  unfold route_Valid route_Valid_0 RtP
  rw [pvalid_ok N (by omega), bind_some']
  by_cases h0 : vErr l = 0
  · rw [if_pos (by simpa using h0)]
    obtain ⟨b, h1, h2⟩ := pway_ok N (l := l) (r := r) (by omega) hl hr
    obtain ⟨c, h3, h4⟩ := twice_ok N (r := r) (by omega) hr
    rw [h1, bind_some']
    cases b with
    | true =>
      rw [if_pos rfl, h3]
      simp only [bind_some', lt_def]
      refine ⟨!c, rfl, ?_⟩
      simp only [Bool.not_eq_true', h4]
      exact ⟨fun h => ⟨h0, h2.1 rfl, h⟩, fun h => h.2.2⟩
    | false =>
      rw [if_neg (by simp), bind_some']
      refine ⟨false, rfl, ?_⟩
      simp only [Bool.false_eq_true, false_iff]
      intro h
      have := h2.2 h.2.1
      cases this
  · rw [if_neg (by simpa using h0), bind_some']
    exact ⟨false, rfl, by simp [h0]⟩
theorem rVal_ok (N : Nat) {l : List PlantElement} {r : List Visit} (hN : r.length + l.length + 200 ≤ N) (hl : l.length ≤ 1000000) (hr : r.length ≤ 9223372036854775807) (hnm : l.length ≤ 96 → ∀ x ∈ l, x.name.length < N ∧ x.name.length ≤ 9223372036854775807) : ∃ b, r27_Valid N l r = some b ∧ (b = true ↔ RtP l r) := by
  unfold r27_Valid
  rw [lt_def]
  by_cases h0 : vErr l = 0
  case neg =>
    have h : r27_Valid_0 N l r (IntKind.wrap .i64 ((r.length : Int) - 1)) = some true := by
      unfold r27_Valid_0
      rw [rvalid_ok N (by omega) hnm, bind_some', if_pos (by simpa using h0)]
    rw [h, bind_some', if_pos rfl]
    exact ⟨false, rfl, by simp [RtP, h0]⟩
  by_cases h2 : r.length < 2
  · have h : r27_Valid_0 N l r (IntKind.wrap .i64 ((r.length : Int) - 1)) = some true := by
      unfold r27_Valid_0
      rw [rvalid_ok N (by omega) hnm, bind_some', if_neg (by simpa using h0), if_pos (dpos (by rw [w64 (by omega) (by omega)]; omega))]
    rw [h, bind_some', if_pos rfl]
    refine ⟨false, rfl, ?_⟩
    simp only [Bool.false_eq_true, false_iff]
    intro hw
    have := hw.2.1.two
    omega
  have hw : IntKind.wrap .i64 ((r.length : Int) - 1) = ((r.length - 1 : Nat) : Int) := by rw [w64 (by omega) (by omega)]; omega
  rw [hw]
  have h0' := at_lt (xs := r) (i := 0) (by omega)
  have hz := at_lt (xs := r) (i := r.length - 1) (by omega)
  generalize hv0 : r[0]'(by omega) = v at h0'
  generalize hvz : r[r.length - 1]'(by omega) = w at hz
  have g0 : getI r 0 = some v := getI_nat h0'
  have gz : getI r ((r.length - 1 : Nat) : Int) = some w := getI_nat hz
  have st' : ∀ {x}, r[0]? = some x → x = v := fun hx => by rw [h0'] at hx; cases hx; rfl
  have en' : ∀ {x}, r[r.length - 1]? = some x → x = w := fun hx => by rw [hz] at hx; cases hx; rfl
  have c0 : ∃ b, r27_Valid_0 N l r ((r.length - 1 : Nat) : Int) = some b ∧ (b = false ↔ trk l v.element ∧ trk l w.element ∧ v.in_ = -1 ∧ w.out = -1) := by
    unfold r27_Valid_0
    rw [rvalid_ok N (by omega) hnm, bind_some', if_neg (by simpa using h0), if_neg (dneg (by omega))]
    simp only [g0, gz, bind_some', rtrk_ok]
    exact or_cond notdec (or_cond notdec (or_cond bne_f ⟨_, rfl, bne_f⟩))
  obtain ⟨b0, p0, q0⟩ := c0
  rw [p0, bind_some']
  cases b0 with
  | true =>
    rw [if_pos rfl]
    refine ⟨false, rfl, ?_⟩
    simp only [Bool.false_eq_true, false_iff]
    intro hh
    have a := hh.2.1.st v h0'
    have b := hh.2.1.en w hz
    have := q0.2 ⟨a.1, b.1, a.2.1, b.2⟩
    cases this
  | false =>
    rw [if_neg (by simp)]
    have q0 := q0.1 rfl
    let nx : Nat → Visit := fun i => r.getD (i + 1) (Visit.mk 0 0 0)
    let good : Nat → Visit → Prop := fun i y => (0 ≤ y.element ∧ y.element < l.length ∧ y.element ∉ elems (r.take i)) ∧ (i + 1 < r.length → y.out ∈ eI l y.element ∧ (nx i).in_ = y.out ∧ (nx i).element = nbr l y.element y.out) ∧ (0 < i → i + 1 < r.length → y.out ∈ thr l y.element y.in_)
    have hloop := first_gen (l := r) (fun i y => @decide (¬ good i y) (Classical.propDecidable _)) (fun _ _ => false) (fun m i => r27_Valid_1 N l r ((r.length - 1 : Nat) : Int) m i) (fun m => by
      show r27_Valid_1 N l r _ (m + 1) _ = _
      rw [r27_Valid_1, if_neg (lneg (by omega))]) (fun m i y hy => by
      show r27_Valid_1 N l r _ (m + 1) _ = _
      have hlt := (List.getElem?_eq_some_iff.1 hy).1
      rw [r27_Valid_1, if_pos (lpos (by omega))]
      have hte := thr_len l y.element y.in_
      have hee := eI_len l y.element
      have d2 : ∃ b, r27_Valid_2 N l r i = some b ∧ (b = false ↔ 0 ≤ y.element ∧ y.element < l.length ∧ y.element ∉ elems (r.take i)) := by
        unfold r27_Valid_2
        simp only [getI_nat hy, bind_some']
        rw [cutI_take (by omega), bind_some', visits_ok N (by rw [List.length_take]; omega) (by rw [List.length_take]; omega), bind_some']
        refine or_cond dlt_f (or_cond (p := y.element < l.length) (by simp) ⟨_, rfl, by simp⟩)
      have d3 : ∃ b, r27_Valid_3 N l r ((r.length - 1 : Nat) : Int) i = some b ∧ (b = false ↔ (i + 1 < r.length → y.out ∈ eI l y.element ∧ (nx i).in_ = y.out ∧ (nx i).element = nbr l y.element y.out)) := by
        unfold r27_Valid_3
        by_cases hh : i + 1 < r.length
        · have hx := at_lt hh
          have hgd : nx i = r[i + 1] := by show r.getD (i + 1) (Visit.mk 0 0 0) = _; simp [List.getD, hx]
          rw [if_pos (dpos (by omega)), w64s (by omega)]
          simp only [getI_nat hy, getI_nat hx, bind_some', rEnds_ok]
          rw [rHas_ok N (by omega) (by omega), rnbr_ok N (by omega) (by omega)]
          simp only [bind_some']
          obtain ⟨b, k1, k2⟩ := or_cond (a := !(eI l y.element).contains y.out) ncont (or_cond (a := r[i + 1].in_ != y.out) bne_f (x := some (r[i + 1].element != nbr l y.element y.out)) ⟨_, rfl, bne_f⟩)
          exact ⟨b, k1, by rw [k2, hgd]; simp [hh]⟩
        · rw [if_neg (dneg (by omega))]
          exact ⟨false, rfl, by simp [hh]⟩
      have d4 : ∃ b, r27_Valid_4 N l r ((r.length - 1 : Nat) : Int) i = some b ∧ (b = false ↔ (0 < i → i + 1 < r.length → y.out ∈ thr l y.element y.in_)) := by
        unfold r27_Valid_4
        by_cases hi : 0 < i
        · rw [if_pos (dpos (by omega))]
          by_cases hh : i + 1 < r.length
          · rw [if_pos (dpos (by omega))]
            simp only [getI_nat hy, bind_some']
            rw [rthr_ok N (by omega), bind_some', rHas_ok N (by omega) (by omega), bind_some']
            exact ⟨_, rfl, by rw [ncont]; simp [hi, hh]⟩
          · rw [if_neg (dneg (by omega))]
            exact ⟨false, rfl, by simp [hh]⟩
        · rw [if_neg (dneg (by omega))]
          exact ⟨false, rfl, by simp [hi]⟩
      obtain ⟨b2, r2, s2⟩ := d2
      obtain ⟨b3, r3, s3⟩ := d3
      obtain ⟨b4, r4, s4⟩ := d4
      rw [r2, bind_some']
      cases b2 with
      | true =>
        have hb : ¬ good i y := fun hh => by have := s2.2 hh.1; cases this
        rw [if_pos rfl, @decide_eq_true _ (Classical.propDecidable _) hb, if_pos rfl]
      | false =>
        rw [if_neg (by simp), r3, bind_some']
        cases b3 with
        | true =>
          have hb : ¬ good i y := fun hh => by have := s3.2 hh.2.1; cases this
          rw [if_pos rfl, @decide_eq_true _ (Classical.propDecidable _) hb, if_pos rfl]
        | false =>
          rw [if_neg (by simp), r4, bind_some']
          cases b4 with
          | true =>
            have hb : ¬ good i y := fun hh => by have := s4.2 hh.2.2; cases this
            rw [if_pos rfl, @decide_eq_true _ (Classical.propDecidable _) hb, if_pos rfl]
          | false =>
            have hb : ¬ ¬ good i y := fun hh => hh ⟨s2.1 rfl, s3.1 rfl, s4.1 rfl⟩
            rw [if_neg (by simp), @decide_eq_false _ (Classical.propDecidable _) hb, if_neg (by simp), lt_def, w64s (by omega)]) r.length N 0 (by omega) (by omega)
    simp only [Int.natCast_zero, List.drop_zero] at hloop
    rw [hloop, bind_some']
    have hiff : RtP l r ↔ ∀ (j : Nat) (y : Visit), r[j]? = some y → good j y := by
      constructor
      · rintro ⟨_, hw, hd⟩ j y hj
        have hlt := (List.getElem?_eq_some_iff.1 hj).1
        refine ⟨?_, fun hh => ?_, fun h1 h2 => hw.mid j y h1 h2 hj⟩
        · have hin : 0 ≤ y.element ∧ y.element < l.length := by
            cases j with
            | zero =>
              obtain ⟨a, x, hx, _⟩ := (hw.st y hj).1
              have := (List.getElem?_eq_some_iff.1 hx).1
              omega
            | succ j =>
              have := eI_mem (hw.ins (by omega) hj)
              exact ⟨this.1, this.2.1⟩
          refine ⟨hin.1, hin.2, fun hm => ?_⟩
          unfold elems at hm hd
          obtain ⟨z, hz, hze⟩ := List.mem_map.1 hm
          obtain ⟨i, hi⟩ := List.getElem?_of_mem hz
          rw [List.getElem?_take] at hi
          split at hi
          · rename_i hij
            obtain ⟨hil, hi⟩ := List.getElem?_eq_some_iff.1 hi
            obtain ⟨_, hj⟩ := List.getElem?_eq_some_iff.1 hj
            have := List.pairwise_iff_getElem.1 hd i j (by simpa using hil) (by simpa using hlt) hij
            rw [List.getElem_map, List.getElem_map, hi, hj] at this
            exact this hze
          · cases hi
        · have hx := at_lt hh
          have hgd : nx j = r[j + 1] := by show r.getD (j + 1) (Visit.mk 0 0 0) = _; simp [List.getD, hx]
          rw [hgd]
          obtain ⟨a, b, c⟩ := hw.step j y _ hj hx
          exact ⟨hw.outs hh hj, a, c⟩
      · intro hh
        refine ⟨h0, ⟨by omega, fun x hx => ?_, fun x hx => ?_, fun i x y hx hy => ?_, fun i x hi hi2 hx => (hh i x hx).2.2 hi hi2⟩, ?_⟩
        · have e := st' hx
          have := (hh 0 x hx).2.1 (by omega)
          rw [e] at this ⊢
          exact ⟨q0.1, q0.2.2.1, this.1⟩
        · rw [en' hx]; exact ⟨q0.2.1, q0.2.2.2⟩
        · have hlt := (List.getElem?_eq_some_iff.1 hy).1
          have := (hh i x hx).2.1 hlt
          have hgd : nx i = y := by show r.getD (i + 1) (Visit.mk 0 0 0) = _; simp [List.getD, hy]
          rw [hgd] at this
          exact ⟨this.2.1, (hh (i + 1) y hy).1.1, this.2.2⟩
        · unfold elems
          refine List.pairwise_iff_getElem.2 fun i j hi hj hij => ?_
          rw [List.getElem_map, List.getElem_map]
          intro he
          have hjr : j < r.length := by simpa using hj
          have hir : i < r.length := by simpa using hi
          refine (hh j r[j] (at_lt hjr)).1.2.2 ?_
          rw [← he]
          unfold elems
          refine List.mem_map.2 ⟨r[i], List.mem_of_getElem? (i := i) ?_, rfl⟩
          rw [List.getElem?_take, if_pos hij, at_lt hir]
    have hres := res_none (p := fun i y => @decide (¬ good i y) (Classical.propDecidable _)) (out := fun _ _ => false) (l := r) (i := 0)
    cases hr2 : res (fun i y => @decide (¬ good i y) (Classical.propDecidable _)) (fun _ _ => false) 0 r with
    | inl u =>
      refine ⟨true, rfl, ?_⟩
      simp only [true_iff]
      refine hiff.2 fun j y hj => ?_
      have := (hres.1 hr2) j y hj
      rw [Nat.zero_add] at this
      exact Classical.not_not.1 (@of_decide_eq_false _ (Classical.propDecidable _) this)
    | inr b =>
      have hbf : b = false := by
        have key : ∀ (e : List Visit) (i : Nat) (b : Bool), res (fun i y => @decide (¬ good i y) (Classical.propDecidable _)) (fun _ _ => false) i e = .inr b → b = false := by
          intro e
          induction e with
          | nil => intro i b h; cases h
          | cons y e ih =>
            intro i b h
            rw [res] at h
            split at h
            · cases h; rfl
            · exact ih _ _ h
        exact key _ _ _ hr2
      subst hbf
      refine ⟨false, rfl, ?_⟩
      simp only [Bool.false_eq_true, false_iff]
      intro hw
      have := hres.2 fun j y hj => by
        rw [Nat.zero_add]
        exact @decide_eq_false _ (Classical.propDecidable _) (fun hh => hh (hiff.1 hw j y hj))
      rw [this] at hr2; cases hr2
end Go.W
end
section
set_option linter.unusedVariables false
set_option linter.unusedSimpArgs false
namespace Go.W
open Go.AM
/-! ### Comparisons -/
def cmpR (a b : Int) : Int := if a < b then -1 else if b < a then 1 else 0
theorem cmp_ok (N : Nat) (a b : Int) : cmp_Compare_int N a b = some (cmpR a b) := by
  unfold cmp_Compare_int cmp_isNaN_int cmpR
  simp only [lt_def, bne_self_eq_false, bind_some', Bool.false_eq_true, if_false]
  by_cases h : a < b
  · rw [if_pos (dpos h), if_pos h]
  · rw [if_neg (dneg h), if_neg h]
    by_cases h2 : b < a
    · rw [if_pos (dpos h2), if_pos h2]
    · rw [if_neg (dneg h2), if_neg h2]
theorem or3_ok (N : Nat) (hN : 4 ≤ N) (a b c : Int) : cmp_Or_int N [a, b, c] = some (if a ≠ 0 then a else if b ≠ 0 then b else c) := by
  obtain ⟨M, rfl⟩ : ∃ M, N = M + 4 := ⟨N - 4, by omega⟩
  unfold cmp_Or_int
  have hl : (([a, b, c] : List Int).length : Int) = 3 := rfl
  have g0 : getI [a, b, c] 0 = some a := rfl
  have g1 : getI [a, b, c] 1 = some b := rfl
  have g2 : getI [a, b, c] 2 = some c := rfl
  have w0 : IntKind.wrap .i64 (0 + 1) = 1 := by rw [w64] <;> omega
  have w1 : IntKind.wrap .i64 (1 + 1) = 2 := by rw [w64] <;> omega
  have w2 : IntKind.wrap .i64 (2 + 1) = 3 := by rw [w64] <;> omega
  have d0 : decide ((0 : Int) < 3) = true := rfl
  have d1 : decide ((1 : Int) < 3) = true := rfl
  have d2 : decide ((2 : Int) < 3) = true := rfl
  have d3 : decide ((3 : Int) < 3) = false := rfl
  rw [hl, cmp_Or_int_0, d0, if_pos rfl, g0, bind_some']
  by_cases ha : a = 0
  · subst ha
    rw [if_neg (by simp), w0, cmp_Or_int_0, d1, if_pos rfl, g1, bind_some']
    by_cases hb : b = 0
    · subst hb
      rw [if_neg (by simp), w1, cmp_Or_int_0, d2, if_pos rfl, g2, bind_some']
      by_cases hc : c = 0
      · subst hc
        rw [if_neg (by simp), w2, cmp_Or_int_0, d3, if_neg (by simp)]
        rfl
      · rw [if_pos (by simpa using hc)]; rfl
    · rw [if_pos (by simpa using hb)]; simp [bind_some', hb]
  · rw [if_pos (by simpa using ha)]; simp [bind_some', ha]
/-- Ahead: fewer steps, then a lesser element, then a lesser node. -/
def lexLt (v1 e1 n1 v2 e2 n2 : Int) : Prop := v1 < v2 ∨ (v1 = v2 ∧ (e1 < e2 ∨ (e1 = e2 ∧ n1 < n2)))
instance (v1 e1 n1 v2 e2 n2 : Int) : Decidable (lexLt v1 e1 n1 v2 e2 n2) := by unfold lexLt; infer_instance
theorem cmpR_lt {a b : Int} (h : a < b) : cmpR a b = -1 := if_pos h
theorem cmpR_gt {a b : Int} (h : b < a) : cmpR a b = 1 := by unfold cmpR; rw [if_neg (by omega), if_pos h]
theorem cmpR_eq (a : Int) : cmpR a a = 0 := by unfold cmpR; rw [if_neg (by omega), if_neg (by omega)]
theorem lex_cmp (v1 e1 n1 v2 e2 n2 : Int) : (if cmpR v1 v2 ≠ 0 then cmpR v1 v2 else if cmpR e1 e2 ≠ 0 then cmpR e1 e2 else cmpR n1 n2) < 0 ↔ lexLt v1 e1 n1 v2 e2 n2 := by
  unfold lexLt
  rcases Int.lt_trichotomy v1 v2 with h | h | h
  · rw [cmpR_lt h]; simp [h]
  · subst h
    rw [cmpR_eq]
    simp only [ne_eq, not_true_eq_false, if_false, Int.lt_irrefl, false_or, true_and]
    rcases Int.lt_trichotomy e1 e2 with h | h | h
    · rw [cmpR_lt h]; simp [h]
    · subst h
      rw [cmpR_eq]
      simp only [ne_eq, not_true_eq_false, if_false, Int.lt_irrefl, false_or, true_and]
      rcases Int.lt_trichotomy n1 n2 with h | h | h
      · rw [cmpR_lt h]; simp [h]
      · subst h; rw [cmpR_eq]; simp
      · rw [cmpR_gt h]; simp; omega
    · rw [cmpR_gt h]; simp; omega
  · rw [cmpR_gt h]; simp; omega
structure NxI (l : List PlantElement) (d : Dst) (e : Int) (q : List Int) (out : Int) (best : Place) (found : Bool) : Prop where
  no : found = false → ∀ m ∈ q, mpGet d (beh l e m) = none
  yes : found = true → out ∈ q ∧ best = beh l e out ∧ ∃ v, mpGet d best = some v ∧ ∀ m ∈ q, ∀ w, mpGet d (beh l e m) = some w → ¬ lexLt w (nbr l e m) m v (nbr l e out) out
theorem next_loop (N : Nat) {l : List PlantElement} (hN : l.length + 10 ≤ N) (hl : l.length ≤ 1000000) {d : Dst} {e : Int} {o : List Int} (ho : o.length ≤ 1000) : ∀ (k n i : Nat) (out : Int) (best : Place) (found : Bool), k < n → i + k = o.length → NxI l d e (o.take i) out best found →
    ∃ out' best' found', route_next_0 N l d e o o.length n out best found i = some (out', best', found') ∧ NxI l d e o out' best' found'
  | k, 0, i, out, best, found, hn, _, _ => by omega
  | 0, n + 1, i, out, best, found, hn, hi, hI => by
    obtain rfl : i = o.length := by omega
    rw [route_next_0, if_neg (dneg (by omega))]
    rw [List.take_length] at hI
    exact ⟨_, _, _, rfl, hI⟩
  | k + 1, n + 1, i, out, best, found, hn, hi, hI => by
    have hlt : i < o.length := by omega
    have ha := at_lt hlt
    rw [route_next_0, if_pos (dpos (by omega))]
    have htk : o.take (i + 1) = o.take i ++ [o[i]] := take_at ha
    have key : ∃ out' best' found', route_next_1 N l d e out best found o i = some (out', best', found') ∧ NxI l d e (o.take (i + 1)) out' best' found' := by
      unfold route_next_1
      rw [getI_nat ha, bind_some', pnbr_ok N (by omega) hl, bind_some', lt_def, lt_def]
      have hb : Place.mk (nbr l e o[i]) o[i] = beh l e o[i] := rfl
      rw [hb]
      cases hg : mpGet d (beh l e o[i]) with
      | none =>
        refine ⟨out, best, found, by simp, ⟨fun hf m hm => ?_, fun hf => ?_⟩⟩
        · rw [htk] at hm
          rcases List.mem_append.1 hm with hm | hm
          · exact hI.no hf m hm
          · simp at hm; subst hm; exact hg
        · obtain ⟨a, b, v, c, dd⟩ := hI.yes hf
          refine ⟨by rw [htk]; exact List.mem_append_left _ a, b, v, c, fun m hm w hw => ?_⟩
          rw [htk] at hm
          rcases List.mem_append.1 hm with hm | hm
          · exact dd m hm w hw
          · simp at hm; subst hm; rw [hg] at hw; cases hw
      | some w =>
        simp only [Option.isSome_some, Bool.not_true, Bool.false_eq_true, if_false, Option.getD_some]
        unfold route_next_2
        have taken : (found = true → ∀ v, mpGet d best = some v → lexLt w (nbr l e o[i]) o[i] v best.element out) → NxI l d e (o.take (i + 1)) o[i] (beh l e o[i]) true := by
          intro hlex
          refine ⟨fun hf => (by cases hf), fun _ => ⟨by rw [htk]; exact List.mem_append_right _ (List.mem_singleton.2 rfl), rfl, w, hg, fun m hm w' hw' => ?_⟩⟩
          rw [htk] at hm
          rcases List.mem_append.1 hm with hm | hm
          · cases found with
            | false => have := hI.no rfl m hm; rw [hw'] at this; cases this
            | true =>
              obtain ⟨a, b, v, c, dd⟩ := hI.yes rfl
              have h1 := hlex rfl v c
              have h2 := dd m hm w' hw'
              rw [b] at h1
              have hbe : (beh l e out).element = nbr l e out := rfl
              rw [hbe] at h1
              unfold lexLt at *
              omega
          · simp at hm; subst hm; rw [hg] at hw'; cases hw'
            unfold lexLt; omega
        cases found with
        | false =>
          simp only [Bool.not_false, if_true, bind_some']
          exact ⟨_, _, _, rfl, taken (fun h => by cases h)⟩
        | true =>
          obtain ⟨a, b, v, c, dd⟩ := hI.yes rfl
          rw [if_neg (by simp), c]
          simp only [lt_def, Option.getD_some, cmp_ok, bind_some']
          rw [or3_ok N (by omega), bind_some', bind_some']
          have hbe : (beh l e o[i]).element = nbr l e o[i] := rfl
          by_cases hlex : lexLt w (nbr l e o[i]) o[i] v best.element out
          · rw [decide_eq_true ((lex_cmp w (beh l e o[i]).element o[i] v best.element out).2 (by rw [hbe]; exact hlex)), if_pos rfl]
            exact ⟨_, _, _, rfl, taken fun _ v' hv' => by rw [c] at hv'; cases hv'; exact hlex⟩
          · rw [decide_eq_false (fun hh => hlex (by rw [← hbe]; exact (lex_cmp w (beh l e o[i]).element o[i] v best.element out).1 hh)), if_neg (by simp)]
            refine ⟨out, best, true, rfl, ⟨fun hf => (by cases hf), fun _ => ⟨by rw [htk]; exact List.mem_append_left _ a, b, v, c, fun m hm w' hw' => ?_⟩⟩⟩
            rw [htk] at hm
            rcases List.mem_append.1 hm with hm | hm
            · exact dd m hm w' hw'
            · simp at hm; subst hm; rw [hg] at hw'; cases hw'
              rw [b] at hlex
              exact hlex
    obtain ⟨out', best', found', g1, g2⟩ := key
    rw [g1, bind_some']
    simp only []
    rw [w64s (by omega)]
    exact next_loop N hN hl ho k n (i + 1) _ _ _ (by omega) (by omega) g2
theorem nextR_ok (N : Nat) {l : List PlantElement} (hN : l.length + 1010 ≤ N) (hl : l.length ≤ 1000000) (d : Dst) (e : Int) {o : List Int} (ho : o.length ≤ 1000) : ∃ out best found, route_next N l d e o = some (out, best, found) ∧ NxI l d e o out best found := by
  unfold route_next
  obtain ⟨out, best, found, h1, h2⟩ := next_loop N (l := l) (d := d) (e := e) (by omega) hl ho o.length N 0 0 (Place.mk 0 0) false (by omega) (by omega) ⟨fun _ m hm => by simp at hm, fun h => by cases h⟩
  have h1 : route_next_0 N l d e o o.length N 0 (Place.mk 0 0) false 0 = some (out, best, found) := h1
  rw [h1, bind_some']
  exact ⟨_, _, _, rfl, h2⟩
/-! ### The way so far -/
/-- The nodes by which a visit can go on. -/
def outsP (l : List PlantElement) (e n : Int) : List Int := if n < 0 then eI l e else thr l e n
theorem outsP_len (l : List PlantElement) (e n : Int) : (outsP l e n).length ≤ 3 := by
  unfold outsP
  split
  · exact eI_len l e
  · exact thr_len l e n
/-- The best of the nodes, by the distances 'g'. -/
def Bst (l : List PlantElement) (g : Int → Int → Option Int) (e : Int) (o : List Int) (out : Int) : Prop := out ∈ o ∧ ∃ v, g (nbr l e out) out = some v ∧ ∀ m ∈ o, ∀ w, g (nbr l e m) m = some w → ¬ lexLt w (nbr l e m) m v (nbr l e out) out
theorem Bst.uniq {l : List PlantElement} {g : Int → Int → Option Int} {e : Int} {o : List Int} {a b : Int} (h : Bst l g e o a) (k : Bst l g e o b) : a = b := by
  obtain ⟨h1, v, h2, h3⟩ := h
  obtain ⟨k1, w, k2, k3⟩ := k
  have p := h3 b k1 w k2
  have q := k3 a h1 v h2
  unfold lexLt at p q
  omega
structure Pth (l : List PlantElement) (g : Int → Int → Option Int) (fr : Int) (r : List Visit) : Prop where
  best : ∀ (i : Nat) v, i + 1 < r.length → r[i]? = some v → Bst l g v.element (outsP l v.element v.in_) v.out
  nz : ∀ (i : Nat) v, 0 < i → i + 1 < r.length → r[i]? = some v → g v.element v.in_ ≠ some 0
  ne : 1 ≤ r.length
  st : ∀ v, r[0]? = some v → v.element = fr ∧ v.in_ = -1
  step : ∀ (i : Nat) v w, r[i]? = some v → r[i + 1]? = some w → w.in_ = v.out ∧ 0 ≤ w.element ∧ w.element = nbr l v.element v.out ∧ v.out ∈ eI l v.element
  mid : ∀ (i : Nat) v, 0 < i → i + 1 < r.length → r[i]? = some v → v.out ∈ thr l v.element v.in_
/-- One visit more. -/
theorem Pth.add {l : List PlantElement} {g : Int → Int → Option Int} {fr : Int} {r : List Visit} {v : Visit} {out : Int} (h : Pth l g fr r) (hv : r[r.length - 1]? = some v) (h0 : 0 ≤ nbr l v.element out) (ho : out ∈ eI l v.element) (ht : 1 < r.length → out ∈ thr l v.element v.in_) (hb : Bst l g v.element (outsP l v.element v.in_) out) (hz : 1 < r.length → g v.element v.in_ ≠ some 0) :
    Pth l g fr (r.set (r.length - 1) (Visit.mk v.element v.in_ out) ++ [Visit.mk (nbr l v.element out) out (-1)]) := by
  have hne := h.ne
  have hlen : (r.set (r.length - 1) (Visit.mk v.element v.in_ out)).length = r.length := List.length_set
  have get : ∀ (i : Nat) x, (r.set (r.length - 1) (Visit.mk v.element v.in_ out) ++ [Visit.mk (nbr l v.element out) out (-1)])[i]? = some x → (i + 1 < r.length ∧ r[i]? = some x) ∨ (i + 1 = r.length ∧ x = Visit.mk v.element v.in_ out) ∨ (i = r.length ∧ x = Visit.mk (nbr l v.element out) out (-1)) := by
    intro i x hx
    by_cases hi : i < r.length
    · rw [List.getElem?_append_left (by omega), List.getElem?_set] at hx
      by_cases he : r.length - 1 = i
      · rw [if_pos he, if_pos (by omega)] at hx
        exact .inr (.inl ⟨by omega, by cases hx; rfl⟩)
      · rw [if_neg he] at hx
        exact .inl ⟨by omega, hx⟩
    · rw [List.getElem?_append_right (by omega)] at hx
      have := (List.getElem?_eq_some_iff.1 hx).1
      simp at this
      have hi2 : i = r.length := by omega
      subst hi2
      rw [hlen] at hx
      simp at hx
      exact .inr (.inr ⟨rfl, hx.symm⟩)
  refine ⟨fun i x hi2 hx => ?_, fun i x hi hi2 hx => ?_, by simp, fun x hx => ?_, fun i x y hx hy => ?_, fun i x hi hi2 hx => ?_⟩
  · simp only [List.length_append, List.length_set, List.length_cons, List.length_nil] at hi2
    rcases get i x hx with ⟨a, b⟩ | ⟨a, rfl⟩ | ⟨a, _⟩
    · exact h.best i x a b
    · exact hb
    · omega
  · simp only [List.length_append, List.length_set, List.length_cons, List.length_nil] at hi2
    rcases get i x hx with ⟨a, b⟩ | ⟨a, rfl⟩ | ⟨a, _⟩
    · exact h.nz i x hi a b
    · exact hz (by omega)
    · omega
  · rcases get 0 x hx with ⟨_, a⟩ | ⟨a, rfl⟩ | ⟨a, _⟩
    · exact h.st x a
    · have : r.length - 1 = 0 := by omega
      rw [this] at hv
      have := h.st v hv
      exact this
    · omega
  · rcases get i x hx with ⟨a, b⟩ | ⟨a, rfl⟩ | ⟨a, _⟩
    · rcases get (i + 1) y hy with ⟨c, dd⟩ | ⟨c, rfl⟩ | ⟨c, _⟩
      · exact h.step i x y b dd
      · have hv' : r[i + 1]? = some v := by rw [← hv]; congr 1; omega
        exact h.step i x v b hv'
      · omega
    · rcases get (i + 1) y hy with ⟨c, _⟩ | ⟨c, _⟩ | ⟨c, rfl⟩
      · omega
      · omega
      · exact ⟨rfl, h0, rfl, ho⟩
    · rcases get (i + 1) y hy with ⟨c, _⟩ | ⟨c, _⟩ | ⟨c, _⟩ <;> omega
  · simp only [List.length_append, List.length_set, List.length_cons, List.length_nil] at hi2
    rcases get i x hx with ⟨a, b⟩ | ⟨a, rfl⟩ | ⟨a, _⟩
    · exact h.mid i x hi (by omega) b
    · exact ht (by omega)
    · omega
theorem Pth.same {l : List PlantElement} {g : Int → Int → Option Int} {fr : Int} {r1 r2 : List Visit} (h1 : Pth l g fr r1) (h2 : Pth l g fr r2) (two : 2 ≤ r2.length) (hz : ∀ z, r2[r2.length - 1]? = some z → g z.element z.in_ = some 0) :
    ∀ i, i < r1.length → i < r2.length ∧ ∀ v1 v2, r1[i]? = some v1 → r2[i]? = some v2 → v1.element = v2.element ∧ v1.in_ = v2.in_ ∧ (i + 1 < r1.length → i + 1 < r2.length ∧ v1.out = v2.out) := by
  have nxt : ∀ (i : Nat) v1 v2, r1[i]? = some v1 → r2[i]? = some v2 → v1.element = v2.element → v1.in_ = v2.in_ → i + 1 < r1.length → i + 1 < r2.length ∧ v1.out = v2.out := by
    intro i v1 v2 a b e1 e2 hi
    have hi2 := (List.getElem?_eq_some_iff.1 b).1
    have hlt : i + 1 < r2.length := by
      by_cases hh : i + 1 = r2.length
      · have e : i = r2.length - 1 := by omega
        have b' := b
        rw [e] at b'
        have := hz v2 b'
        have hne := h1.nz i v1 (by omega) hi a
        rw [e1, e2] at hne
        exact absurd this hne
      · omega
    refine ⟨hlt, ?_⟩
    have p := h1.best i v1 hi a
    have q := h2.best i v2 hlt b
    rw [e1, e2] at p
    exact p.uniq q
  intro i
  induction i with
  | zero =>
    intro hi
    refine ⟨by omega, fun v1 v2 a b => ?_⟩
    obtain ⟨p1, p2⟩ := h1.st v1 a
    obtain ⟨q1, q2⟩ := h2.st v2 b
    have e1 : v1.element = v2.element := by rw [p1, q1]
    have e2 : v1.in_ = v2.in_ := by rw [p2, q2]
    exact ⟨e1, e2, fun hh => nxt 0 v1 v2 a b e1 e2 hh⟩
  | succ i ih =>
    intro hi
    obtain ⟨g1, g2⟩ := ih (by omega)
    have a := at_lt (xs := r1) (i := i) (by omega)
    have b := at_lt (xs := r2) (i := i) g1
    obtain ⟨e1, e2, e3⟩ := g2 _ _ a b
    obtain ⟨e4, e5⟩ := e3 hi
    refine ⟨e4, fun v1 v2 c dd => ?_⟩
    obtain ⟨p1, p2, p3, p4⟩ := h1.step i _ v1 a c
    obtain ⟨q1, q2, q3, q4⟩ := h2.step i _ v2 b dd
    have f1 : v1.element = v2.element := by rw [p3, q3, e1, e5]
    have f2 : v1.in_ = v2.in_ := by rw [p1, q1, e5]
    exact ⟨f1, f2, fun hh => nxt (i + 1) v1 v2 c dd f1 f2 hh⟩
/-- Two whole ways are the same. -/
theorem Pth.eq {l : List PlantElement} {g : Int → Int → Option Int} {fr : Int} {r1 r2 : List Visit} (h1 : Pth l g fr r1) (h2 : Pth l g fr r2) (two1 : 2 ≤ r1.length) (two2 : 2 ≤ r2.length) (hz1 : ∀ z, r1[r1.length - 1]? = some z → g z.element z.in_ = some 0 ∧ z.out = -1) (hz2 : ∀ z, r2[r2.length - 1]? = some z → g z.element z.in_ = some 0 ∧ z.out = -1) : r1 = r2 := by
  have s1 := h1.same h2 two2 fun z hz => (hz2 z hz).1
  have s2 := h2.same h1 two1 fun z hz => (hz1 z hz).1
  have hl : r1.length = r2.length := by
    have := (s1 (r1.length - 1) (by omega)).1
    have := (s2 (r2.length - 1) (by omega)).1
    omega
  refine List.ext_getElem? fun i => ?_
  by_cases hi : i < r1.length
  · have a := at_lt (xs := r1) (i := i) hi
    have b := at_lt (xs := r2) (i := i) (by omega)
    obtain ⟨e1, e2, e3⟩ := (s1 i hi).2 _ _ a b
    rw [a, b]
    congr 1
    have e4 : (r1[i]).out = (r2[i]'(by omega)).out := by
      by_cases hh : i + 1 < r1.length
      · exact (e3 hh).2
      · have e : i = r1.length - 1 := by omega
        have e' : i = r2.length - 1 := by omega
        have a' := a
        have b' := b
        have p := (hz1 (r1[i]) (by rw [← a']; congr 1; omega)).2
        have q := (hz2 (r2[i]'(by omega)) (by rw [← b']; congr 1; omega)).2
        rw [p, q]
    generalize r1[i] = x at *
    generalize r2[i]'(by omega) = y at *
    cases x; cases y
    simp only at e1 e2 e4
    subst e1 e2 e4
    rfl
  · rw [List.getElem?_eq_none (by omega), List.getElem?_eq_none (by omega)]
/-- A part of a way visits what the way visits. -/
theorem Pth.once {l : List PlantElement} {g : Int → Int → Option Int} {fr : Int} {r1 r2 : List Visit} (h1 : Pth l g fr r1) (h2 : Pth l g fr r2) (two : 2 ≤ r2.length) (hz : ∀ z, r2[r2.length - 1]? = some z → g z.element z.in_ = some 0) (hd : (elems r2).Nodup) : (elems r1).Nodup := by
  have s1 := h1.same h2 two hz
  have : elems r1 = (elems r2).take r1.length := by
    refine List.ext_getElem? fun i => ?_
    unfold elems
    rw [List.getElem?_take]
    by_cases hi : i < r1.length
    · have a := at_lt (xs := r1) (i := i) hi
      have b := at_lt (xs := r2) (i := i) (s1 i hi).1
      rw [if_pos hi, List.getElem?_map, List.getElem?_map, a, b]
      simp only [Option.map_some]
      rw [((s1 i hi).2 _ _ a b).1]
    · rw [if_neg hi, List.getElem?_map, List.getElem?_eq_none (by omega)]
      rfl
  rw [this]
  exact hd.sublist (List.take_sublist _ _)
theorem find_loop (N : Nat) (hN : 4000 ≤ N) {l : List PlantElement} (hP : PlOk l) {d : Dst} {fr to : Int} (hD : DI l to d) : ∀ (k n : Nat) (r : List Visit) (o : List Int) (v : Visit), k < n → Pth l (fun i n => mpGet d (Place.mk i n)) fr r → r[r.length - 1]? = some v →
    ((r.length = 1 ∧ o = eI l fr ∧ d.length ≤ k) ∨ (1 < r.length ∧ o = thr l v.element v.in_ ∧ ∃ w, mpGet d (Place.mk v.element v.in_) = some w ∧ w ≠ 0 ∧ w ≤ k)) → r.length + k ≤ 2000 →
    (∃ r', route_Find_1 N l d n r o = some (.inl r') ∧ Pth l (fun i n => mpGet d (Place.mk i n)) fr r' ∧ 2 ≤ r'.length ∧ (∃ z, r'[r'.length - 1]? = some z ∧ z.element = to ∧ z.out = -1 ∧ mpGet d (Place.mk z.element z.in_) = some 0) ∧ r'.length ≤ 2001 ∧ ∀ m ∈ o, ∀ w, mpGet d (beh l v.element m) = some w → (r'.length : Int) ≤ r.length + 1 + w) ∨
    (route_Find_1 N l d n r o = some (.inr 15) ∧ r.length = 1 ∧ ∀ m ∈ o, mpGet d (beh l v.element m) = none)
  | k, 0, r, o, v, hn, _, _, _, _ => by omega
  | k, n + 1, r, o, v, hn, hPt, hv, hinv, hlen => by
    have hne := hPt.ne
    have hll := hP.len
    have hdl := hD.len
    have hw : IntKind.wrap .i64 ((r.length : Int) - 1) = ((r.length - 1 : Nat) : Int) := by rw [w64 (by omega) (by omega)]; omega
    have ho3 : o.length ≤ 3 := by
      rcases hinv with ⟨_, rfl, _⟩ | ⟨_, rfl, _⟩
      · exact eI_len l fr
      · exact thr_len _ _ _
    rw [route_Find_1, hw, getI_nat hv]
    simp only [bind_some']
    obtain ⟨out, best, found, h1, h2⟩ := nextR_ok N (l := l) (by omega) (by omega) d v.element (o := o) (by omega)
    rw [h1, bind_some']
    simp only []
    cases found with
    | false =>
      simp only [Bool.not_false, if_true]
      refine .inr ⟨trivial, ?_, h2.no rfl⟩
      rcases hinv with ⟨a, _⟩ | ⟨_, rfl, w, hw1, hw2, _⟩
      · exact a
      · obtain ⟨_, m, hm1, hm2⟩ := hD.pos _ w hw1 hw2
        have := h2.no rfl m hm1
        rw [this] at hm2; cases hm2
    | true =>
      obtain ⟨q1, q2, v1, q3, q4⟩ := h2.yes rfl
      rw [if_neg (by simp), lt_def]
      have hkey := hD.key best v1 q3
      rw [q2] at hkey
      have h0 : 0 ≤ nbr l v.element out := (eI_mem hkey).1
      have hv1 := hD.nonneg q3
      have hv1l := hD.val q3
      have hout : out ∈ eI l v.element := by
        rcases hinv with ⟨a, rfl, _⟩ | ⟨_, rfl, _⟩
        · have : r.length - 1 = 0 := by omega
          rw [this] at hv
          rw [(hPt.st v hv).1]; exact q1
        · exact (thr_mem q1).2
      have hPt' := hPt.add hv h0 hout (fun hh => by
        rcases hinv with ⟨a, _⟩ | ⟨_, rfl, _⟩
        · omega
        · exact q1) (by
        have ho : o = outsP l v.element v.in_ := by
          unfold outsP
          rcases hinv with ⟨a, b, _⟩ | ⟨_, b, w, hw1, _⟩
          · have e0 : r.length - 1 = 0 := by omega
            rw [e0] at hv
            obtain ⟨c1, c2⟩ := hPt.st v hv
            rw [c1, c2, if_pos (by omega)]; exact b
          · have hk := hD.key _ _ hw1
            obtain ⟨_, _, x, hx, hm⟩ := eI_mem hk
            have := ((soundP_ends (hP.snd x (List.mem_of_getElem? hx))).2.1 _ hm).1
            rw [if_neg (by simpa using this)]; exact b
        rw [← ho]
        exact ⟨q1, v1, by rw [q2] at q3; exact q3, q4⟩) (fun hh => by
        rcases hinv with ⟨a, _⟩ | ⟨_, _, w, hw1, hw2, _⟩
        · omega
        · rw [hw1]; intro hc; cases hc; exact hw2 rfl)
      have hset : (r.set (((r.length - 1 : Nat) : Int)).toNat (Visit.mk v.element v.in_ out)) = r.set (r.length - 1) (Visit.mk v.element v.in_ out) := by rw [Int.toNat_natCast]
      have hb1 : best.element = nbr l v.element out := by rw [q2]; rfl
      have hb2 : best.in_ = out := by rw [q2]; rfl
      rw [hset, hb1, hb2, appI_ok (by simp; omega), bind_some', lt_def, q3]
      simp only [Option.getD_some]
      have hlen' : (r.set (r.length - 1) (Visit.mk v.element v.in_ out) ++ [Visit.mk (nbr l v.element out) out (-1)]).length = r.length + 1 := by simp
      have hlast : (r.set (r.length - 1) (Visit.mk v.element v.in_ out) ++ [Visit.mk (nbr l v.element out) out (-1)])[r.length + 1 - 1]? = some (Visit.mk (nbr l v.element out) out (-1)) := by
        rw [List.getElem?_append_right (by simp)]; simp
      have hmin : ∀ m ∈ o, ∀ w, mpGet d (beh l v.element m) = some w → v1 ≤ w := by
        intro m hm w hw
        have := q4 m hm w hw
        unfold lexLt at this
        omega
      by_cases hz : v1 = 0
      · rw [if_pos (by simpa using hz)]
        refine .inl ⟨_, rfl, hPt', by omega, ⟨_, by rw [hlen']; exact hlast, ?_, rfl, ?_⟩, by omega, fun m hm w hw => ?_⟩
        · have := hD.zero best (by rw [q3, hz])
          rw [hb1] at this; exact this
        · have : best = Place.mk (nbr l v.element out) out := q2
          rw [← this, q3, hz]
        · have := hmin m hm w hw
          rw [hlen']; omega
      · rw [if_neg (by simpa using hz), pthr_ok N (by omega), bind_some']
        have hk1 : v1 + 1 ≤ k := by
          rcases hinv with ⟨_, _, a⟩ | ⟨_, rfl, w, hw1, hw2, hw3⟩
          · omega
          · obtain ⟨_, m, hm1, hm2⟩ := hD.pos _ w hw1 hw2
            have := hmin m hm1 _ hm2
            omega
        cases k with
        | zero => omega
        | succ k =>
          have hbest : best = Place.mk (nbr l v.element out) out := q2
          have ih := find_loop N hN hP hD k n (r.set (r.length - 1) (Visit.mk v.element v.in_ out) ++ [Visit.mk (nbr l v.element out) out (-1)]) (thr l (nbr l v.element out) out) (Visit.mk (nbr l v.element out) out (-1)) (by omega) hPt' (by rw [hlen']; exact hlast)
            (.inr ⟨by omega, rfl, v1, by rw [← hbest]; exact q3, hz, by omega⟩) (by omega)
          rcases ih with ⟨r', g1, g2, g3, g4, g5, g6⟩ | ⟨g1, g2, _⟩
          · refine .inl ⟨r', g1, g2, g3, g4, g5, fun m hm w hw => ?_⟩
            obtain ⟨_, m0, hm1, hm2⟩ := hD.pos best v1 q3 hz
            rw [hb1, hb2] at hm1
            rw [hb1] at hm2
            have := g6 m0 hm1 _ hm2
            have := hmin m hm w hw
            omega
          · omega
/-- What Find answers for a plant with nothing wrong, with the distances that it goes by. -/
theorem find_all (N : Nat) (hN : 4000 ≤ N) {l : List PlantElement} (hP : PlOk l) (fr to : Int) :
    (route_Find N l fr to = some ([], 2) ∧ (¬ trk l fr ∨ ¬ trk l to ∨ fr = to)) ∨ (trk l fr ∧ trk l to ∧ fr ≠ to ∧ ∃ d, DI l to d ∧ (∀ m ∈ eI l to, mpGet d (Place.mk to m) = some 0) ∧ Cl l d ∧
      ((route_Find N l fr to = some ([], 15) ∧ ∀ m ∈ eI l fr, mpGet d (beh l fr m) = none) ∨ (route_Find N l fr to = some ([], 17) ∧ ∃ r, Pth l (fun i n => mpGet d (Place.mk i n)) fr r ∧ 2 ≤ r.length ∧ (∀ z, r[r.length - 1]? = some z → mpGet d (Place.mk z.element z.in_) = some 0 ∧ z.out = -1) ∧ ¬ (elems r).Nodup) ∨ ∃ r, route_Find N l fr to = some (r, 0) ∧ (Pth l (fun i n => mpGet d (Place.mk i n)) fr r ∧ ∀ z, r[r.length - 1]? = some z → mpGet d (Place.mk z.element z.in_) = some 0 ∧ z.out = -1) ∧ RtP l r ∧ r.length ≤ 2001 ∧ (∀ v, r[0]? = some v → v.element = fr) ∧ (∀ v, r[r.length - 1]? = some v → v.element = to) ∧ ∀ m ∈ eI l fr, ∀ w, mpGet d (beh l fr m) = some w → (r.length : Int) ≤ 2 + w)) := by
  unfold route_Find
  rw [hP.p N (by omega), bind_some', if_neg (by simp)]
  have h0 : ∃ b, route_Find_0 N l fr to = some b ∧ (b = false ↔ trk l fr ∧ trk l to ∧ fr ≠ to) := by
    unfold route_Find_0
    simp only [ptrk_ok, bind_some']
    exact or_cond notdec (or_cond notdec ⟨_, rfl, by simp⟩)
  obtain ⟨b, h1, h2⟩ := h0
  rw [h1, bind_some']
  cases b with
  | true =>
    rw [if_pos rfl]
    refine .inl ⟨rfl, ?_⟩
    by_cases a : trk l fr
    · by_cases c : trk l to
      · right; right
        by_cases e : fr = to
        · exact e
        · have := h2.2 ⟨a, c, e⟩; cases this
      · exact .inr (.inl c)
    · exact .inl a
  | false =>
    rw [if_neg (by simp)]
    obtain ⟨t1, t2, t3⟩ := h2.1 rfl
    obtain ⟨d, g1, g2, g3, g4⟩ := dist_ok N (by omega) (to := to) hP
    rw [g1, bind_some', pEnds_ok, bind_some']
    have hdl := g2.len
    have hll := hP.len
    refine .inr ⟨t1, t2, t3, d, g2, g3, g4, ?_⟩
    have hl := find_loop N hN hP (fr := fr) g2 d.length N [Visit.mk fr (-1) 0] (eI l fr) (Visit.mk fr (-1) 0) (by omega)
      ⟨fun i v hi => by simp at hi, fun i v hi hi2 => by simp at hi2, by simp, fun v hv => by simp at hv; subst hv; exact ⟨rfl, rfl⟩, fun i v w hv hw => by simp at hw, fun i v hi hi2 hv => by simp at hi2⟩ (by simp) (.inl ⟨by simp, rfl, by omega⟩) (by simp; omega)
    rcases hl with ⟨r', q1, q2, q3, ⟨z, q4, q5, q6, q10⟩, q7, q8⟩ | ⟨q1, _, q9⟩
    · rw [q1, bind_some']
      simp only []
      obtain ⟨c, c1, c2⟩ := twice_ok N (r := r') (by omega) (by omega)
      rw [c1, bind_some']
      cases c with
      | true =>
        right; left; rw [if_pos rfl]
        refine ⟨rfl, r', q2, q3, fun y hy => ?_, fun hd => by have := c2.2 hd; cases this⟩
        rw [q4] at hy; cases hy; exact ⟨q10, q6⟩
      | false =>
        right; right
        rw [if_neg (by simp)]
        have hfirst := at_lt (xs := r') (i := 0) (by omega)
        have hz' : ∀ v, r'[r'.length - 1]? = some v → v = z := fun v hv => by rw [q4] at hv; cases hv; rfl
        refine ⟨r', rfl, ⟨q2, fun y hy => by rw [q4] at hy; cases hy; exact ⟨q10, q6⟩⟩, ⟨hP.err, ⟨q3, fun v hv => ?_, fun v hv => ?_, fun i v w hv hw => ?_, q2.mid⟩, c2.1 rfl⟩, q7, fun v hv => (q2.st v hv).1, fun v hv => by rw [hz' v hv]; exact q5, fun m hm w hw => by have := q8 m hm w hw; simp at this; omega⟩
        · obtain ⟨a, b⟩ := q2.st v hv
          have := q2.step 0 v _ hv (at_lt (xs := r') (i := 1) (by omega))
          exact ⟨by rw [a]; exact t1, b, this.2.2.2⟩
        · rw [hz' v hv, q5]; exact ⟨t2, q6⟩
        · obtain ⟨a, b, c, dd⟩ := q2.step i v w hv hw
          exact ⟨a, b, c⟩
    · rw [q1, bind_some']
      exact .inl ⟨rfl, q9⟩
end Go.W
end
section
set_option linter.unusedVariables false
set_option linter.unusedSimpArgs false
namespace Go.W
open Go.AM
/-! ### Tracks -/
def trks (l : List PlantElement) : Nat → List PlantElement → List Int
  | _, [] => []
  | i, x :: xs => if x.kind = 1 then (i : Int) :: trks l (i + 1) xs else trks l (i + 1) xs
theorem trks_len (l : List PlantElement) : ∀ (q : List PlantElement) (i : Nat), (trks l i q).length ≤ q.length
  | [], i => by simp [trks]
  | x :: q, i => by
    rw [trks]
    have := trks_len l q (i + 1)
    split <;> simp <;> omega
theorem trks_mem {l : List PlantElement} {a : Int} : ∀ {q : List PlantElement} {i : Nat}, a ∈ trks l i q → ∃ (j : Nat) (x : PlantElement), a = ((i + j : Nat) : Int) ∧ q[j]? = some x ∧ x.kind = 1
  | [], i, h => by simp [trks] at h
  | x :: q, i, h => by
    rw [trks] at h
    split at h
    · rename_i hk
      rcases List.mem_cons.1 h with rfl | h
      · exact ⟨0, x, by simp, rfl, hk⟩
      · obtain ⟨j, y, h1, h2, h3⟩ := trks_mem h
        exact ⟨j + 1, y, by rw [h1]; omega, by simpa using h2, h3⟩
    · obtain ⟨j, y, h1, h2, h3⟩ := trks_mem h
      exact ⟨j + 1, y, by rw [h1]; omega, by simpa using h2, h3⟩
theorem tracks_loop (N : Nat) {l : List PlantElement} (hl : l.length ≤ 1000000) : ∀ (k n i : Nat) (q : List Int), k < n → i + k = l.length → q.length ≤ i → yardgen_Tracks_0 N l n q i = some (q ++ trks l i (l.drop i))
  | k, 0, i, q, hn, _, _ => by omega
  | 0, n + 1, i, q, hn, hi, hq => by
    obtain rfl : i = l.length := by omega
    rw [yardgen_Tracks_0, if_neg (dneg (by omega)), List.drop_length, trks, List.append_nil]
  | k + 1, n + 1, i, q, hn, hi, hq => by
    have hlt : i < l.length := by omega
    have ha := at_lt hlt
    rw [yardgen_Tracks_0, if_pos (dpos (by omega))]
    unfold yardgen_Tracks_1
    rw [getI_nat ha, bind_some', drop_at ha, trks]
    by_cases hk : l[i].kind = 1
    · rw [if_pos (by simpa using hk), if_pos hk, appI_ok (by simp; omega), bind_some', bind_some', lt_def, w64s (by omega), tracks_loop N hl k n (i + 1) _ (by omega) (by omega) (by simp; omega)]
      simp
    · rw [if_neg (by simpa using hk), if_neg hk, bind_some', lt_def, w64s (by omega), tracks_loop N hl k n (i + 1) _ (by omega) (by omega) (by omega)]
theorem tracks_ok (N : Nat) {l : List PlantElement} (hl : l.length ≤ 1000000) (hN : l.length < N) : yardgen_Tracks N l = some (trks l 0 l) := by
  unfold yardgen_Tracks
  have h := tracks_loop N hl l.length N 0 [] hN (by omega) (by simp)
  simp only [Int.natCast_zero, List.drop_zero, List.nil_append] at h
  rw [h, bind_some']
/-! ### The law -/
end Go.W
end
section
set_option linter.unusedVariables false
set_option linter.unusedSimpArgs false
namespace Go.W
open Go.AM
/-! ### Walks and distances -/
/-! ### The walk that the law takes -/
theorem endsP_two {x : PlantElement} (h : endsP x ≠ []) : 2 ≤ (endsP x).length := by
  unfold endsP at *
  split
  · simp
  · split
    · simp
    · rename_i h1 h2
      rw [if_neg h1, if_neg h2] at h; exact absurd rfl h
theorem thr_pos {l : List PlantElement} (hP : PlOk l) {i n : Int} (h : n ∈ eI l i) : 0 < (thr l i n).length := by
  obtain ⟨h0, h1, x, hx, hn⟩ := eI_mem h
  obtain ⟨j, rfl⟩ := Int.eq_ofNat_of_zero_le h0
  rw [Int.toNat_natCast] at hx
  have h2 := endsP_two (soundP_ends (hP.snd x (List.mem_of_getElem? hx))).2.2.1
  unfold thr thrE
  rw [eI_nat hx, if_pos (by simpa using hn)]
  split
  · rw [List.length_tail]; omega
  · rw [List.length_take]; omega
structure WkI (l : List PlantElement) (w : List Visit) (v : Visit) : Prop where
  ne : 1 ≤ w.length
  last : w[w.length - 1]? = some v
  st : ∀ v, w[0]? = some v → trk l v.element ∧ v.in_ = -1 ∧ v.out ∈ eI l v.element
  out : v.out ∈ eI l v.element
  step : ∀ (i : Nat) v w', w[i]? = some v → w[i + 1]? = some w' → w'.in_ = v.out ∧ 0 ≤ w'.element ∧ w'.element = nbr l v.element v.out
  mid : ∀ (i : Nat) v, 0 < i → w[i]? = some v → v.out ∈ thr l v.element v.in_
theorem app_at {α : Type} {w : List α} {y : α} {i : Nat} {x : α} (h : (w ++ [y])[i]? = some x) : (i < w.length ∧ w[i]? = some x) ∨ (i = w.length ∧ x = y) := by
  by_cases hi : i < w.length
  · rw [List.getElem?_append_left hi] at h; exact .inl ⟨hi, h⟩
  · have := (List.getElem?_eq_some_iff.1 h).1
    simp at this
    have : i = w.length := by omega
    subst this
    simp at h
    exact .inr ⟨rfl, h.symm⟩
theorem WkI.step' {l : List PlantElement} {w : List Visit} {v y : Visit} (h : WkI l w v) (h1 : y.in_ = v.out) (h0 : 0 ≤ nbr l v.element v.out) (h2 : y.element = nbr l v.element v.out) : ∀ (i : Nat) a b, (w ++ [y])[i]? = some a → (w ++ [y])[i + 1]? = some b → b.in_ = a.out ∧ 0 ≤ b.element ∧ b.element = nbr l a.element a.out := by
  intro i a b ha hb
  rcases app_at hb with ⟨p, q⟩ | ⟨p, rfl⟩
  · rcases app_at ha with ⟨r, s⟩ | ⟨r, _⟩
    · exact h.step i a b s q
    · omega
  · rcases app_at ha with ⟨r, s⟩ | ⟨r, _⟩
    · have := h.last
      rw [show w.length - 1 = i by omega, s] at this
      cases this
      exact ⟨h1, by rw [h2]; exact h0, h2⟩
    · omega
theorem WkI.st' {l : List PlantElement} {w : List Visit} {v y : Visit} (h : WkI l w v) : ∀ a, (w ++ [y])[0]? = some a → trk l a.element ∧ a.in_ = -1 ∧ a.out ∈ eI l a.element := by
  intro a ha
  rcases app_at ha with ⟨_, q⟩ | ⟨p, _⟩
  · exact h.st a q
  · have := h.ne; omega
theorem WkI.add {l : List PlantElement} {w : List Visit} {v : Visit} {o : Int} (h : WkI l w v) (h0 : 0 ≤ nbr l v.element v.out) (ho : o ∈ thr l (nbr l v.element v.out) v.out) : WkI l (w ++ [Visit.mk (nbr l v.element v.out) v.out o]) (Visit.mk (nbr l v.element v.out) v.out o) where
  ne := by simp
  last := by simp
  st := h.st'
  out := (thr_mem ho).2
  step := h.step' rfl h0 rfl
  mid := fun i a hi ha => by
    rcases app_at ha with ⟨_, q⟩ | ⟨_, rfl⟩
    · exact h.mid i a hi q
    · exact ho
theorem WkI.fin {l : List PlantElement} {w : List Visit} {v : Visit} (h : WkI l w v) (h0 : 0 ≤ nbr l v.element v.out) (ht : trk l (nbr l v.element v.out)) : WayP l (w ++ [Visit.mk (nbr l v.element v.out) v.out (-1)]) where
  two := by have := h.ne; simp; omega
  st := h.st'
  en := fun a ha => by simp at ha; subst ha; exact ⟨ht, rfl⟩
  step := h.step' rfl h0 rfl
  mid := fun i a hi hi2 ha => by
    rcases app_at ha with ⟨_, q⟩ | ⟨p, _⟩
    · exact h.mid i a hi q
    · simp at hi2; omega
theorem trk_lt {l : List PlantElement} {i n : Int} (h : 0 ≤ nbr l i n) : nbr l i n < l.length := by
  rcases nbr_spec l i n with ⟨a, _⟩ | ⟨j, x, a, b, _⟩
  · omega
  · have := (List.getElem?_eq_some_iff.1 b).1
    omega
theorem walk1 (N : Nat) (hN : 4000 ≤ N) {l : List PlantElement} (hP : PlOk l) {c : Int} {s : Maker} (hs : Mk c s) (hc : c ≤ 1000000) {e n : Int} (h0 : 0 ≤ e) (h1 : e < l.length) {o : List Int} (ho : 0 < o.length) : ∃ b s', yardgen_Walk_1 N s l e o = some (s', b) ∧ Mk (c + 1) s' ∧ (b = true → trk l e) := by
  have hll := hP.len
  obtain ⟨j, rfl⟩ := Int.eq_ofNat_of_zero_le h0
  have hj := at_lt (xs := l) (i := j) (by omega)
  have g0 : getI o 0 = some o[0] := getI_nat (at_lt (xs := o) (i := 0) ho)
  unfold yardgen_Walk_1
  rw [getI_nat hj, bind_some']
  by_cases hk : l[j].kind = 1
  · have ht : trk l (j : Int) := ⟨by omega, _, hj, hk⟩
    rw [if_pos (by simpa using hk)]
    obtain ⟨r, s', p1, p2, p3, p4⟩ := next_ok N (s := s) (c := c) 2 (by omega) (by omega) hs (by omega)
    rw [p1, bind_some']
    by_cases hr : r = 0
    · rw [if_pos (by simpa using hr)]; exact ⟨_, _, rfl, p4, fun _ => ht⟩
    · rw [if_neg (by simpa using hr), g0, bind_some', bind_some', rnbr_ok N (by omega) (by omega), bind_some']
      exact ⟨_, _, rfl, p4, fun _ => ht⟩
  · rw [if_neg (by simpa using hk)]
    exact ⟨_, _, rfl, hs.le (by omega), fun h => by cases h⟩
theorem walk_loop (N : Nat) (hN : 4000 ≤ N) {l : List PlantElement} (hP : PlOk l) : ∀ (k n i : Nat) (c : Int) (s : Maker) (v : Visit) (w : List Visit), k < n → i + k = 12 → Mk c s → c + 2 * k ≤ 1000000 → WkI l w v → w.length = i + 1 →
    ∃ s' w', (yardgen_Walk_0 N l n s v w i = some (.inl (s', w')) ∨ yardgen_Walk_0 N l n s v w i = some (.inr (s', w'))) ∧ Mk (c + 2 * k) s' ∧ 1 ≤ w'.length ∧ w'.length ≤ 13 ∧ (WayP l w' ∨ ∀ v, w'[w'.length - 1]? = some v → v.out ≠ -1)
  | k, 0, i, c, s, v, w, hn, _, _, _, _, _ => by omega
  | k, n + 1, i, c, s, v, w, hn, hi, hs, hc, hI, hl => by
    have hll := hP.len
    have stop : ∀ v', w[w.length - 1]? = some v' → v'.out ≠ -1 := fun v' hv' => by
      rw [hI.last] at hv'; cases hv'
      obtain ⟨_, _, x, hx, hn⟩ := eI_mem hI.out
      have := (soundP_ends (hP.snd x (List.mem_of_getElem? hx))).2.1 _ hn
      omega
    cases k with
    | zero =>
      rw [yardgen_Walk_0, if_neg (dneg (by omega))]
      exact ⟨s, w, .inl rfl, hs.le (by omega), by omega, by omega, .inr stop⟩
    | succ k =>
      rw [yardgen_Walk_0, if_pos (dpos (by omega)), rnbr_ok N (by omega) (by omega), bind_some']
      by_cases h0 : nbr l v.element v.out < 0
      · rw [if_pos (dpos h0)]
        exact ⟨s, w, .inl rfl, hs.le (by omega), by omega, by omega, .inr stop⟩
      · rw [if_neg (dneg h0), rthr_ok N (by omega), bind_some']
        have h0' : 0 ≤ nbr l v.element v.out := by omega
        have hpos := thr_pos hP (nbr_mem h0').1
        have h3 := thr_len l (nbr l v.element v.out) v.out
        obtain ⟨b, s1, q1, q2, q3⟩ := walk1 N hN hP hs (by omega) h0' (trk_lt h0') (n := v.out) hpos
        rw [q1, bind_some']
        simp only []
        cases b with
        | true =>
          rw [if_pos rfl, appI_ok (by simp; omega), bind_some']
          exact ⟨_, _, .inr rfl, q2.le (by omega), by simp, by simp; omega, .inl (hI.fin h0' (q3 rfl))⟩
        | false =>
          rw [if_neg (by simp)]
          obtain ⟨r, s2, p1, p2, p3, p4⟩ := next_ok N (s := s1) (c := c + 1) ((thr l (nbr l v.element v.out) v.out).length : Int) (by omega) (by omega) q2 (by omega)
          obtain ⟨r, rfl⟩ := Int.eq_ofNat_of_zero_le p2
          have hr := at_lt (xs := thr l (nbr l v.element v.out) v.out) (i := r) (by omega)
          rw [p1, bind_some']
          simp only []
          rw [getI_nat hr, bind_some', bind_some', appI_ok (by simp; omega), bind_some', lt_def, w64s (by omega)]
          have hI' := hI.add h0' (List.mem_of_getElem? hr)
          obtain ⟨s', w', g1, g2, g3, g4, g5⟩ := walk_loop N hN hP k n (i + 1) (c + 1 + 1) s2 _ _ (by omega) (by omega) p4 (by omega) hI' (by simp; omega)
          exact ⟨s', w', g1, g2.le (by omega), g3, g4, g5⟩
theorem walk_ok (N : Nat) (hN : 4000 ≤ N) {l : List PlantElement} (hP : MadeP l) {c : Int} {s : Maker} (hs : Mk c s) (hc : c ≤ 900000) :
    ∃ w s', yardgen_Walk N s l = some (w, s') ∧ Mk (c + 30) s' ∧ 1 ≤ w.length ∧ w.length ≤ 13 ∧ (WayP l w ∨ ∀ v, w[w.length - 1]? = some v → v.out ≠ -1) := by
  have hll := hP.ok.len
  unfold yardgen_Walk
  rw [tracks_ok N (by omega) (by omega), bind_some']
  have hlen := trks_len l l 0
  have hpos : 0 < (trks l 0 l).length := by
    obtain ⟨x, hx, hk⟩ := hP.fst
    cases l with
    | nil => simp at hx
    | cons y l =>
      simp at hx; subst hx
      rw [trks, if_pos hk]; simp
  have htrk : ∀ a ∈ trks l 0 l, trk l a := by
    intro a ha
    obtain ⟨j, x, h1, h2, h3⟩ := trks_mem ha
    rw [Nat.zero_add] at h1
    subst h1
    exact ⟨by omega, x, by simpa using h2, h3⟩
  obtain ⟨r, s1, p1, p2, p3, p4⟩ := next_ok N (s := s) (c := c) ((trks l 0 l).length : Int) (by omega) (by omega) hs (by omega)
  obtain ⟨r, rfl⟩ := Int.eq_ofNat_of_zero_le p2
  have hr := at_lt (xs := trks l 0 l) (i := r) (by omega)
  have ht := htrk _ (List.mem_of_getElem? hr)
  rw [p1, bind_some']
  simp only []
  rw [getI_nat hr, bind_some', bind_some', rEnds_ok, bind_some']
  generalize (trks l 0 l)[r]'(by omega) = e at *
  have hpos2 : 0 < (eI l e).length := by
    obtain ⟨a, x, b, cc⟩ := ht
    unfold eI
    rw [if_pos a, b]
    simp [endsP, cc]
  have h3 := eI_len l e
  obtain ⟨q, s2, q1, q2, q3, q4⟩ := next_ok N (s := s1) (c := c + 1) ((eI l e).length : Int) (by omega) (by omega) p4 (by omega)
  obtain ⟨q, rfl⟩ := Int.eq_ofNat_of_zero_le q2
  have hq := at_lt (xs := eI l e) (i := q) (by omega)
  rw [q1, bind_some']
  simp only []
  rw [getI_nat hq, bind_some', bind_some']
  have hmem := List.mem_of_getElem? hq
  generalize (eI l e)[q]'(by omega) = o at *
  have hI : WkI l [Visit.mk e (-1) o] (Visit.mk e (-1) o) := ⟨by simp, by simp, fun v hv => by simp at hv; subst hv; exact ⟨ht, rfl, hmem⟩, hmem, fun i v w hv hw => by simp at hw, fun i v hi hv => by
    have := (List.getElem?_eq_some_iff.1 hv).1
    simp at this; omega⟩
  obtain ⟨s', w', g1, g2, g3, g4, g5⟩ := walk_loop N hN hP.ok 12 N 0 (c + 1 + 1) s2 _ _ (by omega) (by omega) q4 (by omega) hI rfl
  refine ⟨w', s', ?_, g2.le (by omega), g3, g4, g5⟩
  rcases g1 with g1 | g1
  · have g1 : yardgen_Walk_0 N l N s2 (Visit.mk e (-1) o) [Visit.mk e (-1) o] 0 = some (.inl (s', w')) := g1
    rw [g1]; rfl
  · have g1 : yardgen_Walk_0 N l N s2 (Visit.mk e (-1) o) [Visit.mk e (-1) o] 0 = some (.inr (s', w')) := g1
    rw [g1]; rfl
/-! ### The law -/
theorem vals_eq (N : Nat) (hN : 4000 ≤ N) {l : List PlantElement} (hP : PlOk l) {w : List Visit} (hw : w.length ≤ 3000) : ∃ b, route_Valid N l w = some b ∧ r27_Valid N l w = some b ∧ (b = true ↔ RtP l w) := by
  have hll := hP.len
  obtain ⟨b1, p1, p2⟩ := pVal_ok N (l := l) (r := w) (by omega) (by omega) (by omega)
  obtain ⟨b2, r1, r2⟩ := rVal_ok N (l := l) (r := w) (by omega) (by omega) (by omega) fun _ x hx => by
    have h1 := (soundP_ends (hP.snd x hx)).2.2.2
    unfold pnOk at h1
    simp only [Bool.and_eq_true, decide_eq_true_eq] at h1
    omega
  have : b1 = b2 := Bool.eq_iff_iff.2 (p2.trans r2.symm)
  exact ⟨b1, p1, by rw [this]; exact r1, p2⟩
end Go.W
end
section
set_option linter.unusedVariables false
set_option linter.unusedSimpArgs false
namespace Go.W
open Go.AM
abbrev SDst := List (Step × Int)
def gS (d : SDst) (i n : Int) : Option Int := mpGet d (Step.mk i n)
theorem gS_set (d : SDst) (i n v i' n' : Int) : gS (mpSet d (Step.mk i n) v) i' n' = if i = i' ∧ n = n' then some v else gS d i' n' := by
  unfold gS
  rw [mpGet_set]
  by_cases h : i = i' ∧ n = n'
  · obtain ⟨rfl, rfl⟩ := h; simp
  · rw [if_neg h, if_neg (fun hh => h (by cases hh; exact ⟨rfl, rfl⟩))]
theorem mpSet_old {α β : Type} [DecidableEq α] : ∀ {m : List (α × β)} {k : α} {v w : β}, mpGet m k = some w → (mpSet m k v).map Prod.fst = m.map Prod.fst
  | [], k, v, w, h => by simp [mpGet] at h
  | p :: m, k, v, w, h => by
    simp only [mpGet] at h
    split at h
    · rename_i hk
      rw [mpSet, if_pos hk]; simp
    · rename_i hk
      rw [mpSet, if_neg hk]; simp [mpSet_old h]
structure RI (l : List PlantElement) (to : Int) (d : SDst) : Prop where
  key : ∀ i n v, gS d i n = some v → n ∈ eI l i
  toz : ∀ n v, gS d to n = some v → v = 0
  pos : ∀ i n v, i ≠ to → gS d i n = some v → 0 < v ∧ ∃ m ∈ thr l i n, ∃ w, gS d (nbr l i m) m = some w ∧ w < v
  val : ∀ i n v, gS d i n = some v → v < d.length
  keys : (d.map Prod.fst).Nodup
theorem RI.nonneg {l : List PlantElement} {to : Int} {d : SDst} (h : RI l to d) {i n v : Int} (hg : gS d i n = some v) : 0 ≤ v := by
  by_cases hi : i = to
  · subst hi; have := h.toz n v hg; omega
  · have := (h.pos i n v hi hg).1; omega
theorem RI.len {l : List PlantElement} {to : Int} {d : SDst} (h : RI l to d) : d.length ≤ 3 * l.length := by
  have hm : ((d.map Prod.fst).map fun s => Place.mk s.element s.in_).Nodup := by
    have hk := h.keys
    generalize d.map Prod.fst = q at hk
    rw [List.nodup_iff_pairwise_ne, List.pairwise_map]
    exact (List.nodup_iff_pairwise_ne.1 hk).imp fun {a b} hab hh => hab (by
      cases a; cases b
      simp at hh ⊢
      exact hh)
  have h1 := nodup_le (b := allP l) hm fun p hp => by
    obtain ⟨s, hs, rfl⟩ := List.mem_map.1 hp
    obtain ⟨v, hv⟩ := mpGet_mem.2 hs
    exact allP_mem (h.key s.element s.in_ v hv)
  have := allP_len l
  rw [List.length_map, List.length_map] at h1
  omega
/-! ### The least distance behind a place -/
structure NxR (l : List PlantElement) (d : SDst) (e : Int) (q : List Int) (best : Int) (ok : Bool) : Prop where
  no : ok = false → ∀ m ∈ q, gS d (nbr l e m) m = none
  yes : ok = true → (∃ m ∈ q, gS d (nbr l e m) m = some best) ∧ ∀ m ∈ q, ∀ w, gS d (nbr l e m) m = some w → best ≤ w
theorem rnext_loop (N : Nat) {l : List PlantElement} (hN : l.length + 10 ≤ N) (hl : l.length ≤ 1000000) {d : SDst} {v : Visit} {o : List Int} (ho : o.length ≤ 1000) : ∀ (k n i : Nat) (best : Int) (ok : Bool), k < n → i + k = o.length → NxR l d v.element (o.take i) best ok →
    ∃ best' ok', r27_next_0 N l d v o n best ok i = some (best', ok') ∧ NxR l d v.element o best' ok'
  | k, 0, i, best, ok, hn, _, _ => by omega
  | 0, n + 1, i, best, ok, hn, hi, hI => by
    obtain rfl : i = o.length := by omega
    rw [r27_next_0, if_neg (dneg (by omega))]
    rw [List.take_length] at hI
    exact ⟨_, _, rfl, hI⟩
  | k + 1, n + 1, i, best, ok, hn, hi, hI => by
    have hlt : i < o.length := by omega
    have ha := at_lt hlt
    have htk := take_at ha
    rw [r27_next_0, if_pos (dpos (by omega))]
    have key : ∃ best' ok', r27_next_1 N l d v best ok o i = some (best', ok') ∧ NxR l d v.element (o.take (i + 1)) best' ok' := by
      unfold r27_next_1
      simp only [getI_nat ha, bind_some']
      rw [rnbr_ok N (by omega) hl, bind_some', lt_def, lt_def]
      have hgd : mpGet d (Step.mk (nbr l v.element o[i]) o[i]) = gS d (nbr l v.element o[i]) o[i] := rfl
      rw [hgd]
      cases hg : gS d (nbr l v.element o[i]) o[i] with
      | none =>
        have h2 : r27_next_2 N best ok ((none : Option Int).getD 0) (none : Option Int).isSome = some false := rfl
        rw [h2, bind_some', if_neg (by simp)]
        refine ⟨best, ok, rfl, ⟨fun hf m hm => ?_, fun hf => ⟨?_, fun m hm w hw => ?_⟩⟩⟩
        · rw [htk] at hm
          rcases List.mem_append.1 hm with hm | hm
          · exact hI.no hf m hm
          · simp at hm; subst hm; exact hg
        · obtain ⟨⟨m, a, b⟩, _⟩ := hI.yes hf
          exact ⟨m, by rw [htk]; exact List.mem_append_left _ a, b⟩
        · rw [htk] at hm
          rcases List.mem_append.1 hm with hm | hm
          · exact (hI.yes hf).2 m hm w hw
          · simp at hm; subst hm; rw [hg] at hw; cases hw
      | some w =>
        have h2 : r27_next_2 N best ok ((some w : Option Int).getD 0) (some w : Option Int).isSome = some (!ok || decide (w < best)) := by
          unfold r27_next_2
          cases ok <;> simp
        rw [h2, bind_some']
        by_cases hc : (!ok || decide (w < best)) = true
        · rw [if_pos hc]
          refine ⟨w, true, rfl, ⟨fun hf => (by cases hf), fun _ => ⟨⟨o[i], by rw [htk]; exact List.mem_append_right _ (by simp), hg⟩, fun m hm w' hw' => ?_⟩⟩⟩
          rw [htk] at hm
          rcases List.mem_append.1 hm with hm | hm
          · cases ok with
            | false => have := hI.no rfl m hm; rw [hw'] at this; cases this
            | true =>
              have := (hI.yes rfl).2 m hm w' hw'
              simp at hc; omega
          · simp at hm; subst hm; rw [hg] at hw'; cases hw'; omega
        · rw [if_neg hc]
          cases ok with
          | false => simp at hc
          | true =>
            simp at hc
            obtain ⟨⟨m, a, b⟩, h3⟩ := hI.yes rfl
            refine ⟨best, true, rfl, ⟨fun hf => (by cases hf), fun _ => ⟨⟨m, by rw [htk]; exact List.mem_append_left _ a, b⟩, fun m hm w' hw' => ?_⟩⟩⟩
            rw [htk] at hm
            rcases List.mem_append.1 hm with hm | hm
            · exact h3 m hm w' hw'
            · simp at hm; subst hm; rw [hg] at hw'; cases hw'; omega
    obtain ⟨best', ok', g1, g2⟩ := key
    rw [g1, bind_some', lt_def, w64s (by omega)]
    exact rnext_loop N hN hl ho k n (i + 1) _ _ (by omega) (by omega) g2
theorem routs_ok (N : Nat) (hN : 4 ≤ N) (l : List PlantElement) (v : Visit) : r27_outs N l v = some (outsP l v.element v.in_) := by
  unfold r27_outs outsP
  by_cases h : v.in_ < 0
  · rw [if_pos (dpos h), if_pos h, rEnds_ok, bind_some']
  · rw [if_neg (dneg h), if_neg h, rthr_ok N hN, bind_some']
theorem rnext_ok (N : Nat) {l : List PlantElement} (hN : l.length + 10 ≤ N) (hl : l.length ≤ 1000000) (d : SDst) (v : Visit) : ∃ best ok, r27_next N l d v = some (best, ok) ∧ NxR l d v.element (outsP l v.element v.in_) best ok := by
  unfold r27_next
  have h3 := outsP_len l v.element v.in_
  rw [routs_ok N (by omega), bind_some']
  obtain ⟨best, ok, h1, h2⟩ := rnext_loop N (l := l) (d := d) (v := v) hN hl (o := outsP l v.element v.in_) (by omega) (outsP l v.element v.in_).length N 0 0 false (by omega) (by omega) ⟨fun _ m hm => by simp at hm, fun h => by cases h⟩
  have h1 : r27_next_0 N l d v (outsP l v.element v.in_) N 0 false 0 = some (best, ok) := h1
  rw [h1, bind_some']
  exact ⟨_, _, rfl, h2⟩
/-! ### How much can still change -/
def mS (l : List PlantElement) (d : SDst) : Nat := ((allP l).map fun p => ((gS d p.element p.in_).getD 300).toNat).sum
theorem sum_lt {α : Type} {f g : α → Nat} : ∀ {q : List α}, (∀ x ∈ q, g x ≤ f x) → (∃ x ∈ q, g x < f x) → (q.map g).sum < (q.map f).sum
  | [], _, h => by obtain ⟨x, hx, _⟩ := h; cases hx
  | y :: q, h1, h2 => by
    simp only [List.map_cons, List.sum_cons]
    have hy := h1 y List.mem_cons_self
    have hq : ∀ (q : List α), (∀ x ∈ q, g x ≤ f x) → (q.map g).sum ≤ (q.map f).sum := by
      intro q
      induction q with
      | nil => intro _; simp
      | cons z q ih =>
        intro h
        simp only [List.map_cons, List.sum_cons]
        have := h z List.mem_cons_self
        have := ih fun x hx => h x (List.mem_cons_of_mem _ hx)
        omega
    obtain ⟨x, hx, hlt⟩ := h2
    rcases List.mem_cons.1 hx with rfl | hx
    · have := hq q fun x hx => h1 x (List.mem_cons_of_mem _ hx); omega
    · have := sum_lt (q := q) (fun x hx => h1 x (List.mem_cons_of_mem _ hx)) ⟨x, hx, hlt⟩; omega
theorem mS_le {l : List PlantElement} {to : Int} {d : SDst} (h : RI l to d) (hl : l.length ≤ 96) : mS l d ≤ 90000 := by
  have key : ∀ (q : List Place), (q.map fun p => ((gS d p.element p.in_).getD 300).toNat).sum ≤ 300 * q.length := by
    intro q
    induction q with
    | nil => simp
    | cons p q ih =>
      simp only [List.map_cons, List.sum_cons, List.length_cons]
      have : ((gS d p.element p.in_).getD 300).toNat ≤ 300 := by
        cases hg : gS d p.element p.in_ with
        | none => decide
        | some v =>
          have := h.val _ _ _ hg
          have := h.len
          simp; omega
      omega
  have h1 := key (allP l)
  have h2 := allP_len l
  unfold mS
  omega
/-- One more place, or a lesser distance. -/
theorem RI.set {l : List PlantElement} {to : Int} {d : SDst} (h : RI l to d) (hl : l.length ≤ 96) {i n b : Int} (hi : i ≠ to) (hn : n ∈ eI l i) (hb : ∃ m ∈ thr l i n, gS d (nbr l i m) m = some b) (hc : ∀ v, gS d i n = some v → b + 1 < v) :
    RI l to (mpSet d (Step.mk i n) (b + 1)) ∧ mS l (mpSet d (Step.mk i n) (b + 1)) < mS l d := by
  obtain ⟨m, hm, hmb⟩ := hb
  have hb0 := h.nonneg hmb
  have hbv := h.val _ _ _ hmb
  have hdl := h.len
  have hne : nbr l i m ≠ i := (nbr_mem (l := l) (i := i) (n := m) (by
    have := h.key _ _ _ hmb
    exact (eI_mem this).1)).2
  have hlen : b + 1 < ((mpSet d (Step.mk i n) (b + 1)).length : Int) ∧ (d.length : Int) ≤ ((mpSet d (Step.mk i n) (b + 1)).length : Int) ∧ ((mpSet d (Step.mk i n) (b + 1)).map Prod.fst).Nodup := by
    cases hg : mpGet d (Step.mk i n) with
    | none =>
      rw [mpSet_new hg, List.map_append, List.nodup_append]
      refine ⟨by simp; omega, by simp; omega, h.keys, by simp, fun x hx y hy => ?_⟩
      simp at hy; subst hy
      rintro rfl
      obtain ⟨w, hw⟩ := mpGet_mem.2 hx
      rw [hw] at hg; cases hg
    | some w =>
      have e := mpSet_old (v := b + 1) hg
      have e2 : (mpSet d (Step.mk i n) (b + 1)).length = d.length := by have := congrArg List.length e; simpa using this
      have := h.val i n w hg
      have := hc w hg
      exact ⟨by rw [e2]; omega, by rw [e2]; omega, by rw [e]; exact h.keys⟩
  have hkeep : ∀ i' m' w v, gS d i' m' = some w → w < v → ∃ w', gS (mpSet d (Step.mk i n) (b + 1)) i' m' = some w' ∧ w' < v := by
    intro i' m' w v hw hv
    rw [gS_set]
    by_cases hh : i = i' ∧ n = m'
    · rw [if_pos hh]
      obtain ⟨rfl, rfl⟩ := hh
      have := hc w hw
      exact ⟨_, rfl, by omega⟩
    · rw [if_neg hh]; exact ⟨w, hw, hv⟩
  refine ⟨⟨fun i' n' v hg => ?_, fun n' v hg => ?_, fun i' n' v hi' hg => ?_, fun i' n' v hg => ?_, hlen.2.2⟩, ?_⟩
  · rw [gS_set] at hg
    split at hg
    · rename_i hh; obtain ⟨rfl, rfl⟩ := hh; exact hn
    · exact h.key _ _ _ hg
  · rw [gS_set] at hg
    split at hg
    · rename_i hh; exact absurd hh.1 hi
    · exact h.toz _ _ hg
  · rw [gS_set] at hg
    split at hg
    · rename_i hh; obtain ⟨rfl, rfl⟩ := hh
      cases hg
      obtain ⟨w', q1, q2⟩ := hkeep _ _ b (b + 1) hmb (by omega)
      exact ⟨by omega, m, hm, w', q1, q2⟩
    · obtain ⟨a, m', b', w, c, e⟩ := h.pos i' n' v hi' hg
      obtain ⟨w', q1, q2⟩ := hkeep _ _ w v c e
      exact ⟨a, m', b', w', q1, q2⟩
  · rw [gS_set] at hg
    split at hg
    · cases hg; exact hlen.1
    · have := h.val _ _ _ hg; omega
  · unfold mS
    refine sum_lt (fun p _ => ?_) ⟨Place.mk i n, allP_mem hn, ?_⟩
    · rw [gS_set]
      split
      · rename_i hh
        obtain ⟨rfl, rfl⟩ := hh
        cases hg : gS d p.element p.in_ with
        | none => simp; omega
        | some v => have := hc v hg; simp; omega
      · exact Nat.le_refl _
    · rw [gS_set, if_pos ⟨rfl, rfl⟩]
      show (b + 1).toNat < ((gS d i n).getD 300).toNat
      cases hg : gS d i n with
      | none => simp; omega
      | some v => have := hc v hg; simp; omega
/-- Nothing is to be changed at a place. -/
def St1 (l : List PlantElement) (to : Int) (d : SDst) (i n : Int) : Prop := i ≠ to → ∀ m ∈ thr l i n, ∀ w, gS d (nbr l i m) m = some w → ∃ x, gS d i n = some x ∧ x ≤ w + 1
/-- What a part of a pass does. -/
def PassR (l : List PlantElement) (to : Int) (d : SDst) (c : Bool) (S : SDst → Prop) (d' : SDst) (c' : Bool) : Prop :=
  RI l to d' ∧ (∀ n, gS d' to n = gS d to n) ∧ ((d' = d ∧ c' = c ∧ S d) ∨ (c' = true ∧ mS l d' < mS l d))
theorem PassR.trans {l : List PlantElement} {to : Int} {d d1 d2 : SDst} {c c1 c2 : Bool} {S S2 : SDst → Prop} (h : PassR l to d c S d1 c1) (k : PassR l to d1 c1 S2 d2 c2) : PassR l to d c (fun d => S d ∧ S2 d) d2 c2 := by
  obtain ⟨a, z, b⟩ := h
  obtain ⟨e, y, f⟩ := k
  refine ⟨e, fun n => (y n).trans (z n), ?_⟩
  rcases b with ⟨rfl, rfl, b⟩ | ⟨rfl, b⟩
  · rcases f with ⟨rfl, rfl, f⟩ | ⟨rfl, f⟩
    · exact .inl ⟨rfl, rfl, b, f⟩
    · exact .inr ⟨rfl, f⟩
  · rcases f with ⟨rfl, rfl, f⟩ | ⟨rfl, f⟩
    · exact .inr ⟨rfl, b⟩
    · exact .inr ⟨rfl, by omega⟩
theorem PassR.imp {l : List PlantElement} {to : Int} {d d1 : SDst} {c c1 : Bool} {S S2 : SDst → Prop} (h : PassR l to d c S d1 c1) (k : S d → S2 d) : PassR l to d c S2 d1 c1 := by
  obtain ⟨a, z, b⟩ := h
  refine ⟨a, z, ?_⟩
  rcases b with ⟨p, q, b⟩ | b
  · exact .inl ⟨p, q, k b⟩
  · exact .inr b
theorem rdist4 (N : Nat) (hN : 4000 ≤ N) {l : List PlantElement} (hl : l.length ≤ 96) {to : Int} {d : SDst} (h : RI l to d) (c : Bool) (i : Nat) {e : List Int} (he : e = eI l (i : Int)) (hs : ∀ n ∈ e, 0 ≤ n) {k : Nat} (hk : k < e.length) :
    ∃ d' c', r27_distances_4 N l to d c i e k = some (d', c') ∧ PassR l to d c (fun d => St1 l to d i (e[k]'hk)) d' c' := by
  unfold r27_distances_4
  by_cases hi : (i : Int) = to
  · rw [if_pos (by simpa using hi)]
    exact ⟨d, c, rfl, h, fun _ => rfl, .inl ⟨rfl, rfl, fun hh => absurd hi hh⟩⟩
  · rw [if_neg (by simpa using hi)]
    have ha := at_lt hk
    simp only [getI_nat ha, bind_some']
    obtain ⟨b, ok, h1, h2⟩ := rnext_ok N (l := l) (by omega) (by omega) d (Visit.mk i e[k] 0)
    rw [h1, bind_some', lt_def, lt_def]
    simp only [] at h2 ⊢
    have hmem := List.mem_of_getElem? ha
    have ho : outsP l i e[k] = thr l i e[k] := by
      unfold outsP
      rw [if_neg (by have := hs _ hmem; omega)]
    rw [ho] at h2
    have hgd : mpGet d (Step.mk (i : Int) e[k]) = gS d i e[k] := rfl
    rw [hgd]
    cases ok with
    | false =>
      have h5 : r27_distances_5 N b false ((gS d i e[k]).getD 0) (gS d i e[k]).isSome = some false := rfl
      rw [h5, bind_some', if_neg (by simp)]
      exact ⟨d, c, rfl, h, fun _ => rfl, .inl ⟨rfl, rfl, fun _ m hm w hw => by rw [h2.no rfl m hm] at hw; cases hw⟩⟩
    | true =>
      obtain ⟨hb, hmin⟩ := h2.yes rfl
      have hbv : 0 ≤ b ∧ b < 300 := by
        obtain ⟨m, _, hm⟩ := hb
        have := h.nonneg hm
        have := h.val _ _ _ hm
        have := h.len
        omega
      have hw : IntKind.wrap .i64 (b + 1) = b + 1 := w64 (by omega) (by omega)
      have h5 : r27_distances_5 N b true ((gS d i e[k]).getD 0) (gS d i e[k]).isSome = some (!(gS d i e[k]).isSome || decide (b + 1 < (gS d i e[k]).getD 0)) := by
        unfold r27_distances_5
        rw [hw]
        cases (gS d i e[k]).isSome <;> simp
      rw [h5, bind_some', hw, lt_def]
      by_cases hc : (!(gS d i e[k]).isSome || decide (b + 1 < (gS d i e[k]).getD 0)) = true
      · rw [if_pos hc]
        obtain ⟨g1, g2⟩ := h.set hl hi (by rw [← he]; exact hmem) hb (fun v hv => by rw [hv] at hc; simpa using hc)
        exact ⟨_, _, rfl, g1, fun n => by rw [gS_set, if_neg (fun hh => hi hh.1)], .inr ⟨rfl, g2⟩⟩
      · rw [if_neg hc]
        refine ⟨d, c, rfl, h, fun _ => rfl, .inl ⟨rfl, rfl, fun _ m hm w hw => ?_⟩⟩
        cases hg : gS d i e[k] with
        | none => rw [hg] at hc; simp at hc
        | some x =>
          rw [hg] at hc
          simp at hc
          have := hmin m hm w hw
          exact ⟨x, rfl, by omega⟩
theorem rdist3 (N : Nat) (hN : 4000 ≤ N) {l : List PlantElement} (hl : l.length ≤ 96) {to : Int} (i : Nat) {e : List Int} (he : e = eI l (i : Int)) (hs : ∀ n ∈ e, 0 ≤ n) : ∀ (k n j : Nat) (d : SDst) (c : Bool), k < n → j + k = e.length → RI l to d →
    ∃ d' c', r27_distances_3 N l to i e n d c j = some (d', c') ∧ PassR l to d c (fun d => ∀ m ∈ e.drop j, St1 l to d i m) d' c'
  | k, 0, j, d, c, hn, _, _ => by omega
  | 0, n + 1, j, d, c, hn, hj, h => by
    obtain rfl : j = e.length := by omega
    rw [r27_distances_3, if_neg (dneg (by omega)), List.drop_length]
    exact ⟨d, c, rfl, h, fun _ => rfl, .inl ⟨rfl, rfl, by simp⟩⟩
  | k + 1, n + 1, j, d, c, hn, hj, h => by
    have hlt : j < e.length := by omega
    have h3 : e.length ≤ 3 := by rw [he]; exact eI_len l i
    rw [r27_distances_3, if_pos (dpos (by omega))]
    obtain ⟨d1, c1, g1, g2⟩ := rdist4 N hN hl h c i he hs hlt
    rw [g1, bind_some', lt_def, w64s (by omega)]
    obtain ⟨d2, c2, g3, g4⟩ := rdist3 N hN hl i he hs k n (j + 1) d1 c1 (by omega) (by omega) g2.1
    refine ⟨d2, c2, g3, (g2.trans g4).imp fun hh m hm => ?_⟩
    rw [drop_at (at_lt hlt)] at hm
    rcases List.mem_cons.1 hm with rfl | hm
    · exact hh.1
    · exact hh.2 m hm
theorem rdist2 (N : Nat) (hN : 4000 ≤ N) {l : List PlantElement} (hP : PlOk l) {to : Int} : ∀ (k n i : Nat) (d : SDst) (c : Bool), k < n → i + k = l.length → RI l to d →
    ∃ d' c', r27_distances_2 N l to n d c i = some (d', c') ∧ PassR l to d c (fun d => ∀ j : Nat, i ≤ j → ∀ m ∈ eI l (j : Int), St1 l to d j m) d' c'
  | k, 0, i, d, c, hn, _, _ => by omega
  | 0, n + 1, i, d, c, hn, hi, h => by
    obtain rfl : i = l.length := by omega
    rw [r27_distances_2, if_neg (dneg (by omega))]
    exact ⟨d, c, rfl, h, fun _ => rfl, .inl ⟨rfl, rfl, fun j hj m hm => by have := (eI_mem hm).2.1; omega⟩⟩
  | k + 1, n + 1, i, d, c, hn, hi, h => by
    have hll := hP.len
    rw [r27_distances_2, if_pos (dpos (by omega)), rEnds_ok, bind_some']
    have h3 := eI_len l (i : Int)
    obtain ⟨d1, c1, g1, g2⟩ := rdist3 N hN hll (to := to) i rfl (fun n hn => by
      obtain ⟨_, _, x, hx, hm⟩ := eI_mem hn
      exact ((soundP_ends (hP.snd x (List.mem_of_getElem? hx))).2.1 _ hm).1) (eI l (i : Int)).length N 0 d c (by omega) (by omega) h
    have g1 : r27_distances_3 N l to i (eI l (i : Int)) N d c 0 = some (d1, c1) := g1
    rw [g1, bind_some', lt_def, w64s (by omega)]
    obtain ⟨d2, c2, g3, g4⟩ := rdist2 N hN hP k n (i + 1) d1 c1 (by omega) (by omega) g2.1
    refine ⟨d2, c2, g3, (g2.trans g4).imp fun hh j hj m hm => ?_⟩
    by_cases hji : j = i
    · subst hji; exact hh.1 m (by simpa using hm)
    · exact hh.2 j (by omega) m hm
theorem rdist1 (N : Nat) (hN : 4000 ≤ N) {l : List PlantElement} (hP : PlOk l) {to : Int} : ∀ (k n : Nat) (d : SDst), k + 1 < n → mS l d ≤ k → RI l to d →
    ∃ d', r27_distances_1 N l to n d true = some d' ∧ RI l to d' ∧ (∀ n, gS d' to n = gS d to n) ∧ ∀ i m, m ∈ eI l i → St1 l to d' i m
  | k, 0, d, hn, _, _ => by omega
  | k, n + 1, d, hn, hk, h => by
    have hll := hP.len
    rw [r27_distances_1, if_pos rfl]
    obtain ⟨d1, c1, g1, g2, g3, g4⟩ := rdist2 N hN hP (to := to) l.length N 0 d false (by omega) (by omega) h
    have g1 : r27_distances_2 N l to N d false 0 = some (d1, c1) := g1
    rw [g1, bind_some']
    simp only []
    rcases g4 with ⟨rfl, rfl, g4⟩ | ⟨rfl, g4⟩
    · obtain ⟨n, rfl⟩ : ∃ n', n = n' + 1 := ⟨n - 1, by omega⟩
      rw [r27_distances_1, if_neg (by simp)]
      refine ⟨d1, rfl, h, fun _ => rfl, fun i m hm => ?_⟩
      obtain ⟨j, rfl⟩ := Int.eq_ofNat_of_zero_le (eI_mem hm).1
      exact g4 j (by omega) m hm
    · cases k with
      | zero => omega
      | succ k =>
        obtain ⟨d2, q1, q2, q3, q4⟩ := rdist1 N hN hP k n d1 (by omega) (by omega) g2
        exact ⟨d2, q1, q2, fun n => (q3 n).trans (g3 n), q4⟩
theorem rdist0 (N : Nat) {l : List PlantElement} {to : Int} {e : List Int} (he : e = eI l to) : ∀ (k n i : Nat) (d : SDst), k < n → i + k = e.length → RI l to d → (∀ i n v, gS d i n = some v → v = 0 ∧ i = to) → (∀ m ∈ e.take i, gS d to m = some 0) →
    ∃ d', r27_distances_0 N to e n d i = some d' ∧ RI l to d' ∧ ∀ m ∈ e, gS d' to m = some 0
  | k, 0, i, d, hn, _, _, _, _ => by omega
  | 0, n + 1, i, d, hn, hi, h, hz, ht => by
    obtain rfl : i = e.length := by omega
    rw [r27_distances_0, if_neg (dneg (by omega))]
    rw [List.take_length] at ht
    exact ⟨d, rfl, h, ht⟩
  | k + 1, n + 1, i, d, hn, hi, h, hz, ht => by
    have hlt : i < e.length := by omega
    have ha := at_lt hlt
    have h3 : e.length ≤ 3 := by rw [he]; exact eI_len l to
    rw [r27_distances_0, if_pos (dpos (by omega))]
    simp only [getI_nat ha, bind_some', lt_def]
    rw [w64s (by omega)]
    have hmem : e[i] ∈ eI l to := by rw [← he]; exact List.mem_of_getElem? ha
    have hz' : ∀ i' n' v, gS (mpSet d (Step.mk to e[i]) 0) i' n' = some v → v = 0 ∧ i' = to := fun i' n' v hg => by
      rw [gS_set] at hg
      split at hg
      · rename_i hh; cases hg; exact ⟨rfl, hh.1.symm⟩
      · exact hz _ _ _ hg
    have hlen : 0 < (mpSet d (Step.mk to e[i]) 0).length ∧ ((mpSet d (Step.mk to e[i]) 0).map Prod.fst).Nodup := by
      cases hg : mpGet d (Step.mk to e[i]) with
      | none =>
        rw [mpSet_new hg, List.map_append, List.nodup_append]
        refine ⟨by simp, h.keys, by simp, fun x hx y hy => ?_⟩
        simp at hy; subst hy
        rintro rfl
        obtain ⟨w, hw⟩ := mpGet_mem.2 hx
        rw [hw] at hg; cases hg
      | some w =>
        have e1 := mpSet_old (v := 0) hg
        have e2 : (mpSet d (Step.mk to e[i]) 0).length = d.length := by have := congrArg List.length e1; simpa using this
        have := h.val to _ w hg
        have := (hz _ _ _ hg).1
        exact ⟨by omega, by rw [e1]; exact h.keys⟩
    refine rdist0 N he k n (i + 1) _ (by omega) (by omega) ⟨fun i' n' v hg => ?_, fun n' v hg => (hz' _ _ _ hg).1, fun i' n' v hi' hg => absurd (hz' _ _ _ hg).2 hi', fun i' n' v hg => by have := (hz' _ _ _ hg).1; omega, hlen.2⟩ hz' fun m hm => ?_
    · rw [gS_set] at hg
      split at hg
      · rename_i hh; obtain ⟨rfl, rfl⟩ := hh; exact hmem
      · exact h.key _ _ _ hg
    · rw [take_at ha] at hm
      rw [gS_set]
      split
      · rfl
      · rcases List.mem_append.1 hm with hm | hm
        · exact ht m hm
        · simp at hm; subst hm
          rename_i hh
          exact absurd ⟨rfl, rfl⟩ hh
/-- The reference's distances. -/
structure RD (l : List PlantElement) (to : Int) (d : SDst) : Prop where
  ri : RI l to d
  zero : ∀ m ∈ eI l to, gS d to m = some 0
  st : ∀ i m, m ∈ eI l i → St1 l to d i m
theorem rdist_ok (N : Nat) (hN : 100000 ≤ N) {l : List PlantElement} (hP : PlOk l) (to : Int) : ∃ d, r27_distances N l to = some d ∧ RD l to d := by
  unfold r27_distances
  rw [rEnds_ok, bind_some']
  have h3 := eI_len l to
  obtain ⟨d, h1, h2, h4⟩ := rdist0 N (l := l) (to := to) rfl (eI l to).length N 0 [] (by omega) (by omega) ⟨by simp [gS, mpGet], by simp [gS, mpGet], by simp [gS, mpGet], by simp [gS, mpGet], by simp⟩ (by simp [gS, mpGet]) (by simp)
  have h1 : r27_distances_0 N to (eI l to) N [] 0 = some d := h1
  rw [h1, bind_some']
  have hm := mS_le h2 hP.len
  obtain ⟨d', g1, g2, g3, g4⟩ := rdist1 N (by omega) hP 90000 N d (by omega) hm h2
  rw [g1, bind_some']
  exact ⟨d', rfl, g2, fun m hm => by rw [g3]; exact h4 m hm, g4⟩
/-- Behind each place but the last there is one that is nearer by one. -/
theorem RD.next {l : List PlantElement} {to : Int} {d : SDst} (h : RD l to d) {i n v : Int} (hi : i ≠ to) (hg : gS d i n = some v) : ∃ m ∈ thr l i n, gS d (nbr l i m) m = some (v - 1) := by
  obtain ⟨a, m, hm, w, hw, hlt⟩ := h.ri.pos i n v hi hg
  obtain ⟨x, hx, hx2⟩ := h.st i n (h.ri.key _ _ _ hg) hi m hm w hw
  rw [hg] at hx; cases hx
  exact ⟨m, hm, by rw [hw]; congr 1; omega⟩
end Go.W
end
section
set_option linter.unusedVariables false
set_option linter.unusedSimpArgs false
namespace Go.W
open Go.AM
/-! ### The best way on -/
/-- 'e' and 'out' are the best so far: the least element, then the least node, of those at distance 'b'. -/
structure PkI (l : List PlantElement) (d : SDst) (v : Int) (b : Int) (q : List Int) (out e : Int) : Prop where
  no : e < 0 → ∀ m ∈ q, gS d (nbr l v m) m ≠ some b
  yes : 0 ≤ e → out ∈ q ∧ e = nbr l v out ∧ gS d e out = some b ∧ ∀ m ∈ q, gS d (nbr l v m) m = some b → e < nbr l v m ∨ (e = nbr l v m ∧ out ≤ m)
theorem rpick_loop (N : Nat) {l : List PlantElement} (hN : l.length + 10 ≤ N) (hl : l.length ≤ 1000000) {to : Int} {d : SDst} (hd : RI l to d) {b : Int} {o : List Int} (ho : o.length ≤ 1000) {ve vi : Int} : ∀ (k n i : Nat) (out e : Int), k < n → i + k = o.length → PkI l d ve b (o.take i) out e →
    ∃ out' e', r27_Find_2 N l d b o n (Visit.mk ve vi out) e i = some (Visit.mk ve vi out', e') ∧ PkI l d ve b o out' e'
  | k, 0, i, out, e, hn, _, _ => by omega
  | 0, n + 1, i, out, e, hn, hi, hI => by
    obtain rfl : i = o.length := by omega
    rw [r27_Find_2, if_neg (dneg (by omega))]
    rw [List.take_length] at hI
    exact ⟨_, _, rfl, hI⟩
  | k + 1, n + 1, i, out, e, hn, hi, hI => by
    have hlt : i < o.length := by omega
    have ha := at_lt hlt
    have htk := take_at ha
    rw [r27_Find_2, if_pos (dpos (by omega))]
    have key : ∃ out' e', r27_Find_3 N l d (Visit.mk ve vi out) b o e i = some (Visit.mk ve vi out', e') ∧ PkI l d ve b (o.take (i + 1)) out' e' := by
      unfold r27_Find_3
      simp only [getI_nat ha, bind_some']
      rw [rnbr_ok N (by omega) hl, bind_some', lt_def, lt_def]
      have hgd : mpGet d (Step.mk (nbr l ve o[i]) o[i]) = gS d (nbr l ve o[i]) o[i] := rfl
      rw [hgd]
      have keep : (gS d (nbr l ve o[i]) o[i] = some b → 0 ≤ e ∧ (e < nbr l ve o[i] ∨ (e = nbr l ve o[i] ∧ out ≤ o[i]))) → PkI l d ve b (o.take (i + 1)) out e := by
        intro hk
        refine ⟨fun he m hm => ?_, fun he => ?_⟩
        · rw [htk] at hm
          rcases List.mem_append.1 hm with hm | hm
          · exact hI.no he m hm
          · simp at hm; subst hm
            intro hh
            have := (hk hh).1; omega
        · obtain ⟨p, q, r, s⟩ := hI.yes he
          refine ⟨by rw [htk]; exact List.mem_append_left _ p, q, r, fun m hm hmb => ?_⟩
          rw [htk] at hm
          rcases List.mem_append.1 hm with hm | hm
          · exact s m hm hmb
          · simp at hm; subst hm; exact (hk hmb).2
      have take' : gS d (nbr l ve o[i]) o[i] = some b → (0 ≤ e → nbr l ve o[i] < e ∨ (nbr l ve o[i] = e ∧ o[i] < out)) → PkI l d ve b (o.take (i + 1)) o[i] (nbr l ve o[i]) := by
        intro hg hk
        have h0 := (eI_mem (hd.key _ _ _ hg)).1
        refine ⟨fun he => by omega, fun _ => ⟨by rw [htk]; exact List.mem_append_right _ (by simp), rfl, hg, fun m hm hmb => ?_⟩⟩
        rw [htk] at hm
        rcases List.mem_append.1 hm with hm | hm
        · by_cases he : e < 0
          · exact absurd hmb (hI.no he m hm)
          · have := hk (by omega)
            obtain ⟨p, q, r, s⟩ := hI.yes (by omega)
            have := s m hm hmb
            omega
        · simp at hm; subst hm; omega
      cases hg : gS d (nbr l ve o[i]) o[i] with
      | none =>
        have h4 : r27_Find_4 N (Visit.mk ve vi out) b o e i (nbr l ve o[i]) ((none : Option Int).getD 0) (none : Option Int).isSome = some false := rfl
        rw [h4, bind_some', if_neg (by simp)]
        exact ⟨out, e, rfl, keep fun hh => by rw [hg] at hh; cases hh⟩
      | some w =>
        unfold r27_Find_4
        simp only [Option.isSome_some, Option.getD_some, if_true, getI_nat ha, bind_some']
        by_cases hw : w = b
        · subst hw
          rw [if_pos (by simp)]
          by_cases he : e < 0
          · rw [if_pos (dpos he), bind_some', if_pos rfl]
            exact ⟨_, _, rfl, take' hg fun hh => by omega⟩
          · rw [if_neg (dneg he)]
            by_cases h1 : nbr l ve o[i] < e
            · rw [if_pos (dpos h1), bind_some', if_pos rfl]
              exact ⟨_, _, rfl, take' hg fun hh => .inl h1⟩
            · rw [if_neg (dneg h1)]
              by_cases h2 : nbr l ve o[i] = e
              · rw [if_pos (by simpa using h2), bind_some']
                by_cases h3 : o[i] < out
                · rw [if_pos (dpos h3)]
                  exact ⟨_, _, rfl, take' hg fun hh => .inr ⟨h2, h3⟩⟩
                · rw [if_neg (dneg h3)]
                  exact ⟨_, _, rfl, keep fun hh => ⟨by omega, .inr ⟨h2.symm, by omega⟩⟩⟩
              · rw [if_neg (by simpa using h2), bind_some', if_neg (by simp)]
                exact ⟨_, _, rfl, keep fun hh => ⟨by omega, .inl (by omega)⟩⟩
        · rw [if_neg (by simpa using hw), bind_some', if_neg (by simp)]
          exact ⟨_, _, rfl, keep fun hh => by rw [hg] at hh; cases hh; exact absurd rfl hw⟩
    obtain ⟨out', e', g1, g2⟩ := key
    rw [g1, bind_some', lt_def, w64s (by omega)]
    exact rpick_loop N hN hl hd ho k n (i + 1) _ _ (by omega) (by omega) g2
theorem set_last {α : Type} (r : List α) (a b : α) : (r ++ [a]).set r.length b = r ++ [b] := by
  induction r with
  | nil => rfl
  | cons x r ih => simp [ih]
/-! ### The way -/
theorem rfind_loop (N : Nat) (hN : 100000 ≤ N) {l : List PlantElement} (hP : PlOk l) {d : SDst} {fr to : Int} (hD : RD l to d) : ∀ (k n : Nat) (r : List Visit) (v : Visit), k < n →
    Pth l (gS d) fr (r ++ [Visit.mk v.element v.in_ (-1)]) → (elems r).Nodup → (r ≠ [] → gS d v.element v.in_ = some (k : Int)) → (∀ m ∈ outsP l v.element v.in_, ∀ w, gS d (nbr l v.element m) m = some w → (k : Int) - 1 ≤ w) → r.length + k ≤ 1000 → (outsP l v.element v.in_ = eI l v.element ∨ outsP l v.element v.in_ = thr l v.element v.in_ ∧ r ≠ []) → (r = [] → outsP l v.element v.in_ = eI l v.element) →
    ((∃ m ∈ outsP l v.element v.in_, gS d (nbr l v.element m) m = some ((k : Int) - 1)) ∨ (k = 0 ∧ v.element = to)) →
    (r27_Find_1 N l d n v ((k : Int) - 1) r = some (.inr 17) ∧ ∃ r0, Pth l (gS d) fr r0 ∧ ¬ (elems r0).Nodup) ∨ ∃ r' v', r27_Find_1 N l d n v ((k : Int) - 1) r = some (.inl (v', r')) ∧ Pth l (gS d) fr (r' ++ [Visit.mk v'.element v'.in_ (-1)]) ∧ (elems r').Nodup ∧ r'.length = r.length + k ∧ v'.element = to ∧ (r' ≠ [] → gS d v'.element v'.in_ = some 0)
  | k, 0, r, v, hn, _, _, _, _, _, _, _, _ => by omega
  | 0, n + 1, r, v, hn, hp, hd, hv, hmn, hl, ho, ho2, hg => by
    rw [r27_Find_1, if_neg (lneg (by omega))]
    refine .inr ⟨r, v, rfl, hp, hd, rfl, ?_, hv⟩
    rcases hg with ⟨m, hm, hg⟩ | ⟨_, hg⟩
    · have := hD.ri.nonneg hg; omega
    · exact hg
  | k + 1, n + 1, r, v, hn, hp, hd, hv, hmn, hl, ho, ho2, hg => by
    have hll := hP.len
    have h3 := outsP_len l v.element v.in_
    rw [r27_Find_1, if_pos (lpos (by omega)), routs_ok N (by omega), bind_some']
    obtain ⟨out, e, g1, g2⟩ := rpick_loop N (l := l) (by omega) (by omega) hD.ri (b := ((k + 1 : Nat) : Int) - 1) (o := outsP l v.element v.in_) (by omega) (ve := v.element) (vi := v.in_) (outsP l v.element v.in_).length N 0 (-1) (-1) (by omega) (by omega) ⟨fun _ m hm => by simp at hm, fun h => by omega⟩
    have g1 : r27_Find_2 N l d (((k + 1 : Nat) : Int) - 1) (outsP l v.element v.in_) N (Visit.mk v.element v.in_ (-1)) (-1) 0 = some (Visit.mk v.element v.in_ out, e) := g1
    simp only []
    rw [g1, bind_some']
    simp only []
    rw [visits_ok N (by omega) (by omega), bind_some']
    by_cases hc : (elems r).contains v.element = true
    · rw [if_pos hc]
      refine .inl ⟨rfl, _, hp, fun hh => ?_⟩
      unfold elems at hh hc
      rw [List.map_append, List.nodup_append] at hh
      exact hh.2.2 v.element (by simpa using hc) v.element (by simp) rfl
    · rw [if_neg hc, appI_ok (by simp; omega), bind_some', lt_def, w64 (by omega) (by omega)]
      have hg : ∃ m ∈ outsP l v.element v.in_, gS d (nbr l v.element m) m = some (((k + 1 : Nat) : Int) - 1) := by
        rcases hg with hg | ⟨hg, _⟩
        · exact hg
        · omega
      have he0 : 0 ≤ e := by
        by_cases h : e < 0
        · obtain ⟨m, hm, hm2⟩ := hg
          exact absurd hm2 (g2.no h m hm)
        · omega
      obtain ⟨q1, q2, q3, q4⟩ := g2.yes he0
      have hin := hD.ri.key _ _ _ q3
      have hout : out ∈ eI l v.element := by
        rcases ho with h | ⟨h, _⟩
        · rw [h] at q1; exact q1
        · rw [h] at q1; exact (thr_mem q1).2
      have hlast : (r ++ [Visit.mk v.element v.in_ (-1)])[(r ++ [Visit.mk v.element v.in_ (-1)]).length - 1]? = some (Visit.mk v.element v.in_ (-1)) := by simp
      have hp' := hp.add hlast (out := out) (by rw [q2] at he0; exact he0) hout (fun hh => by
        have hne : r ≠ [] := by rintro rfl; simp at hh
        rcases ho with h | ⟨h, _⟩
        · by_cases hi : v.in_ < 0
          · exfalso
            obtain ⟨j, hj⟩ : ∃ j, r.length = j + 1 := ⟨r.length - 1, by have := List.length_pos_iff.2 hne; omega⟩
            have a1 : (r ++ [Visit.mk v.element v.in_ (-1)])[j + 1]? = some (Visit.mk v.element v.in_ (-1)) := by rw [List.getElem?_append_right (by omega)]; simp [hj]
            have a0 := at_lt (xs := r ++ [Visit.mk v.element v.in_ (-1)]) (i := j) (by simp; omega)
            obtain ⟨b1, b2, b3, b4⟩ := hp.step j _ _ a0 a1
            obtain ⟨_, _, x, hx, hm⟩ := eI_mem b4
            have := ((soundP_ends (hP.snd x (List.mem_of_getElem? hx))).2.1 _ hm).1
            simp only at b1
            omega
          · unfold outsP at q1
            rw [if_neg hi] at q1; exact q1
        · rw [h] at q1; exact q1) ⟨q1, ((k + 1 : Nat) : Int) - 1, by rw [← q2]; exact q3, fun m hm w hw => by
        have h1 := hmn m hm w hw
        unfold lexLt
        by_cases hwb : w = ((k + 1 : Nat) : Int) - 1
        · have := q4 m hm (by rw [hw, hwb])
          rw [← q2]; simp only at this ⊢; omega
        · rw [← q2]; simp only at h1 ⊢; omega⟩ (fun hh => by
        have hne : r ≠ [] := by rintro rfl; simp at hh
        rw [show (Visit.mk v.element v.in_ (-1)).element = v.element from rfl, hv hne]
        intro hc0
        have := Option.some.inj hc0
        omega)
      have hlen1 : (r ++ [Visit.mk v.element v.in_ (-1)]).length - 1 = r.length := by simp
      rw [hlen1, set_last] at hp'
      simp only at hp'
      rw [← q2] at hp'
      have hin0 : ¬ out < 0 := by
        obtain ⟨_, _, x, hx, hm⟩ := eI_mem hin
        have := ((soundP_ends (hP.snd x (List.mem_of_getElem? hx))).2.1 _ hm).1
        omega
      have ho' : outsP l e out = thr l e out := by unfold outsP; rw [if_neg hin0]
      have hk1 : (((k + 1 : Nat) : Int) - 1 - 1) = (k : Int) - 1 := by omega
      rw [hk1]
      have ih := rfind_loop N hN hP hD k n (r ++ [Visit.mk v.element v.in_ out]) (Visit.mk e out 0) (by omega) hp' (by
        unfold elems at hd hc ⊢
        rw [List.map_append, List.nodup_append]
        refine ⟨hd, by simp, fun x hx y hy => ?_⟩
        simp at hy; subst hy
        rintro rfl
        exact hc (by simpa using hx)) (fun _ => by
        show gS d e out = some (k : Int)
        rw [q3]; congr 1; omega) (fun m hm w hw => by
        have hm : m ∈ thr l e out := by rw [← ho']; exact hm
        by_cases he : e = to
        · subst he
          have h1 := hD.ri.toz _ _ q3
          have h2 := hD.ri.nonneg hw
          omega
        · obtain ⟨x, hx, hx2⟩ := hD.st e out hin he m hm w hw
          rw [q3] at hx; cases hx
          omega) (by simp; omega) (.inr ⟨ho', by simp⟩) (fun hh => by simp at hh) (by
        by_cases he : e = to
        · right
          subst he
          have := hD.ri.toz _ _ q3
          exact ⟨by omega, rfl⟩
        · left
          obtain ⟨m, hm, hm2⟩ := hD.next he q3
          refine ⟨m, by rw [ho']; exact hm, ?_⟩
          rw [hm2]; exact congrArg some (by omega))
      rcases ih with ih | ⟨r', v', i1, i2, i3, i4, i5, i6⟩
      · exact .inl ih
      · exact .inr ⟨r', v', i1, i2, i3, by rw [i4]; simp; omega, i5, i6⟩
/-- A walk is as long as the distances say, at least. -/
theorem rwalk_dist {l : List PlantElement} {to : Int} {d : SDst} (hD : RD l to d) {w : List Visit} (hW : WayP l w) (he : ∀ v, w[w.length - 1]? = some v → v.element = to) :
    ∀ (k i : Nat) (v : Visit), i + k = w.length - 1 → 1 ≤ i → w[i]? = some v → ∃ x, gS d v.element v.in_ = some x ∧ x ≤ k
  | 0, i, v, hi, h1, hv => by
    have hi' : i = w.length - 1 := by omega
    have hel := he v (by rw [← hi']; exact hv)
    have hin := hW.ins (by omega) hv
    rw [hel] at hin
    exact ⟨0, by rw [hel]; exact hD.zero _ hin, by omega⟩
  | k + 1, i, v, hi, h1, hv => by
    have htwo := hW.two
    have hin := hW.ins (by omega) hv
    by_cases hel : v.element = to
    · rw [hel] at hin
      exact ⟨0, by rw [hel]; exact hD.zero _ hin, by omega⟩
    · have hu := at_lt (xs := w) (i := i + 1) (by omega)
      obtain ⟨x, hx, hx2⟩ := rwalk_dist hD hW he k (i + 1) _ (by omega) (by omega) hu
      obtain ⟨a, b, c⟩ := hW.step i v _ hv hu
      rw [c, a] at hx
      obtain ⟨y, hy, hy2⟩ := hD.st v.element v.in_ hin hel v.out (hW.mid i v (by omega) (by omega) hv) x hx
      exact ⟨y, hy, by omega⟩
/-- What the reference's Find answers for a plant with nothing wrong. -/
theorem rfind_all (N : Nat) (hN : 100000 ≤ N) {l : List PlantElement} (hP : PlOk l) (fr to : Int) :
    (r27_Find N l fr to = some ([], 2) ∧ (¬ trk l fr ∨ ¬ trk l to ∨ fr = to)) ∨ (trk l fr ∧ trk l to ∧ fr ≠ to ∧
      ∃ d, RD l to d ∧ ((r27_Find N l fr to = some ([], 15) ∧ ∀ m ∈ eI l fr, gS d (nbr l fr m) m = none) ∨ (r27_Find N l fr to = some ([], 17) ∧ ∃ r0, Pth l (gS d) fr r0 ∧ ¬ (elems r0).Nodup ∧ ∃ m ∈ eI l fr, gS d (nbr l fr m) m ≠ none) ∨ ∃ r, r27_Find N l fr to = some (r, 0) ∧ (Pth l (gS d) fr r ∧ ∀ z, r[r.length - 1]? = some z → gS d z.element z.in_ = some 0 ∧ z.out = -1) ∧ RtP l r ∧ r.length ≤ 2000 ∧ (∀ v, r[0]? = some v → v.element = fr) ∧ (∀ v, r[r.length - 1]? = some v → v.element = to) ∧
        ∀ w, WayP l w → (∀ v, w[0]? = some v → v.element = fr) → (∀ v, w[w.length - 1]? = some v → v.element = to) → r.length ≤ w.length)) := by
  unfold r27_Find
  rw [hP.r N (by omega), bind_some', if_neg (by simp)]
  have h0 : ∃ b, r27_Find_0 N l fr to = some b ∧ (b = false ↔ trk l fr ∧ trk l to ∧ fr ≠ to) := by
    unfold r27_Find_0
    simp only [rtrk_ok, bind_some']
    exact or_cond notdec (or_cond notdec ⟨_, rfl, by simp⟩)
  obtain ⟨b, h1, h2⟩ := h0
  rw [h1, bind_some']
  cases b with
  | true =>
    rw [if_pos rfl]
    refine .inl ⟨rfl, ?_⟩
    by_cases a : trk l fr
    · by_cases c : trk l to
      · right; right
        by_cases e : fr = to
        · exact e
        · have := h2.2 ⟨a, c, e⟩; cases this
      · exact .inr (.inl c)
    · exact .inl a
  | false =>
    rw [if_neg (by simp)]
    obtain ⟨t1, t2, t3⟩ := h2.1 rfl
    obtain ⟨d, g1, g2⟩ := rdist_ok N hN hP to
    have hll := hP.len
    have hdl := g2.ri.len
    obtain ⟨b, ok, q1, q2⟩ := rnext_ok N (l := l) (by omega) (by omega) d (Visit.mk fr (-1) 0)
    rw [g1, bind_some', q1, bind_some']
    simp only [] at q2 ⊢
    refine .inr ⟨t1, t2, t3, d, g2, ?_⟩
    have ho : outsP l fr (-1) = eI l fr := by unfold outsP; rw [if_pos (by omega)]
    rw [ho] at q2
    cases ok with
    | false => exact .inl ⟨if_pos rfl, q2.no rfl⟩
    | true =>
      right
      rw [if_neg (by simp)]
      obtain ⟨hb, hmin⟩ := q2.yes rfl
      have hb0 : 0 ≤ b ∧ b < 300 := by
        obtain ⟨m, _, hm⟩ := hb
        have := g2.ri.nonneg hm
        have := g2.ri.val _ _ _ hm
        omega
      obtain ⟨k, hk⟩ := Int.eq_ofNat_of_zero_le (show 0 ≤ b + 1 by omega)
      have hbk : b = (k : Int) - 1 := by omega
      have hl := rfind_loop N hN hP g2 (fr := fr) k N [] (Visit.mk fr (-1) 0) (by omega)
        ⟨fun i v hi => by simp at hi, fun i v hi hi2 => by simp at hi2, by simp, fun v hv => by simp at hv; subst hv; exact ⟨rfl, rfl⟩, fun i v w hv hw => by simp at hw, fun i v hi hi2 hv => by simp at hi2⟩ (by simp [elems]) (fun h => absurd rfl h) (fun m hm w hw => by rw [← hbk]; exact hmin m (by rw [← ho]; exact hm) w hw) (by simp; omega) (.inl ho) (fun _ => ho) (.inl (by rw [← hbk]; simp only []; rw [ho]; exact hb))
      rw [hbk]
      have hex : ∃ m ∈ eI l fr, gS d (nbr l fr m) m ≠ none := by
        obtain ⟨m, hm, hm2⟩ := hb
        exact ⟨m, hm, by rw [hm2]; simp⟩
      rcases hl with ⟨hl, r0, p1, p2⟩ | ⟨r', v', i1, i2, i3, i4, i5, i6⟩
      · rw [hl, bind_some']; exact .inl ⟨rfl, r0, p1, p2, hex⟩
      · rw [i1, bind_some']
        simp only []
        have hlen : r'.length = k := by rw [i4]; simp
        rw [visits_ok N (by omega) (by omega), bind_some']
        by_cases hc : (elems r').contains to = true
        · rw [if_pos hc]
          refine .inl ⟨rfl, _, i2, fun hh => ?_, hex⟩
          unfold elems at hh hc
          rw [List.map_append, List.nodup_append] at hh
          exact hh.2.2 to (by simpa using hc) to (by simp [i5]) rfl
        · rw [if_neg hc, appI_ok (by simp; omega), bind_some']
          right
          have he : Visit.mk v'.element v'.in_ (-1) = Visit.mk to v'.in_ (-1) := by rw [i5]
          rw [he] at i2
          have hk1 : 1 ≤ k := by omega
          have hz : ∀ v, (r' ++ [Visit.mk to v'.in_ (-1)])[(r' ++ [Visit.mk to v'.in_ (-1)]).length - 1]? = some v → v = Visit.mk to v'.in_ (-1) := fun v hv => by simp at hv; exact hv.symm
          refine ⟨_, rfl, ⟨i2, fun y hy => by
            rw [hz y hy]
            refine ⟨?_, rfl⟩
            have h6 := i6 (by rintro rfl; simp at hlen; omega)
            rw [i5] at h6
            exact h6⟩, ⟨hP.err, ⟨by simp; omega, fun v hv => ?_, fun v hv => ?_, fun i v w hv hw => ?_, i2.mid⟩, ?_⟩, by simp; omega, fun v hv => (i2.st v hv).1, fun v hv => by rw [hz v hv], fun w hW hf he => ?_⟩
          · obtain ⟨a, bb⟩ := i2.st v hv
            have := i2.step 0 v _ hv (at_lt (xs := r' ++ [Visit.mk to v'.in_ (-1)]) (i := 1) (by simp; omega))
            exact ⟨by rw [a]; exact t1, bb, this.2.2.2⟩
          · rw [hz v hv]; exact ⟨t2, rfl⟩
          · obtain ⟨a, bb, c, dd⟩ := i2.step i v w hv hw
            exact ⟨a, bb, c⟩
          · unfold elems at i3 hc ⊢
            rw [List.map_append, List.nodup_append]
            refine ⟨i3, by simp, fun x hx y hy => ?_⟩
            simp at hy; subst hy
            rintro rfl
            exact hc (by simpa using hx)
          · have htwo := hW.two
            have w0 := at_lt (xs := w) (i := 0) (by omega)
            have w1 := at_lt (xs := w) (i := 1) (by omega)
            obtain ⟨x, hx, hx2⟩ := rwalk_dist g2 hW he (w.length - 2) 1 _ (by omega) (by omega) w1
            obtain ⟨p, q, rr⟩ := hW.step 0 _ _ w0 w1
            have s3 := (hW.st _ w0).2.2
            rw [hf _ w0] at s3
            rw [rr, p, hf _ w0] at hx
            have := hmin _ s3 x hx
            simp; omega
end Go.W
end
section
set_option linter.unusedVariables false
set_option linter.unusedSimpArgs false
namespace Go.W
open Go.AM
/-! ### Settings -/
def setE (x : PlantElement) (v : Visit) : List Setting :=
  if x.kind = 3 then [Setting.mk v.element 3] else if x.kind = 2 then (if v.in_ = x.b ∨ v.out = x.b then [Setting.mk v.element 1] else [Setting.mk v.element 2]) else []
def setV (l : List PlantElement) (v : Visit) : List Setting := match l[v.element.toNat]? with | some x => setE x v | none => []
def setsOf (l : List PlantElement) (r : List Visit) : List Setting := r.flatMap (setV l)
theorem setE_len (x : PlantElement) (v : Visit) : (setE x v).length ≤ 1 := by
  unfold setE
  split
  · simp
  · split
    · split <;> simp
    · simp
theorem setV_el {l : List PlantElement} {v : Visit} {s : Setting} (h : s ∈ setV l v) : s.element = v.element := by
  unfold setV at h
  split at h
  · unfold setE at h
    split at h
    · simp at h; subst h; rfl
    · split at h
      · split at h <;> (simp at h; subst h; rfl)
      · simp at h
  · simp at h
theorem setV_len (l : List PlantElement) (v : Visit) : (setV l v).length ≤ 1 := by
  unfold setV
  split
  · exact setE_len _ _
  · simp
theorem setsOf_len (l : List PlantElement) : ∀ (r : List Visit), (setsOf l r).length ≤ r.length
  | [] => by simp [setsOf]
  | v :: r => by
    have := setsOf_len l r
    have h1 := setV_len l v
    unfold setsOf at *
    rw [List.flatMap_cons, List.length_append, List.length_cons]
    omega
theorem sets1 (N : Nat) {l : List PlantElement} {r : List Visit} {i : Nat} {v : Visit} (hv : r[i]? = some v) (h0 : 0 ≤ v.element) (h1 : v.element < l.length) {acc : List Setting} (ha : acc.length ≤ 1000000) : route_Settings_1 N l acc r i = some (acc ++ setV l v) := by
  obtain ⟨j, hj⟩ := Int.eq_ofNat_of_zero_le h0
  have hjl := at_lt (xs := l) (i := j) (by omega)
  unfold route_Settings_1 setV
  have hg : getI l v.element = some (l[j]'(by omega)) := by rw [hj]; exact getI_nat hjl
  have hg2 : l[v.element.toNat]? = some (l[j]'(by omega)) := by rw [hj, Int.toNat_natCast]; exact hjl
  rw [getI_nat hv, bind_some', hg, bind_some', lt_def, hg2]
  generalize l[j]'(by omega) = x at *
  simp only []
  unfold setE
  by_cases h3 : x.kind = 3
  · rw [if_pos (by simpa using h3), if_pos h3, appI_ok (by simp; omega), bind_some']
  · rw [if_neg (by simpa using h3), if_neg h3]
    by_cases h2 : x.kind = 2
    · have hs2 : route_Settings_2 N v x = some (decide (v.in_ = x.b ∨ v.out = x.b)) := by
        unfold route_Settings_2
        rw [if_pos (by simpa using h2)]
        by_cases a : v.in_ = x.b
        · rw [if_pos (by simpa using a)]; simp [a]
        · rw [if_neg (by simpa using a), lt_def]
          congr 1
          exact Bool.eq_iff_iff.2 (by simp [a])
      rw [hs2, bind_some', if_pos h2]
      by_cases hb : v.in_ = x.b ∨ v.out = x.b
      · rw [if_pos (by simpa using hb), if_pos hb, appI_ok (by simp; omega), bind_some']
      · rw [if_neg (by simpa using hb), if_neg hb, lt_def, if_pos (by simpa using h2), appI_ok (by simp; omega), bind_some']
    · have hs2 : route_Settings_2 N v x = some false := by
        unfold route_Settings_2
        rw [if_neg (by simpa using h2)]
      rw [hs2, bind_some', if_neg (by simp), lt_def, if_neg (by simpa using h2), if_neg h2, List.append_nil]
theorem sets_loop (N : Nat) {l : List PlantElement} {r : List Visit} (hr : ∀ v ∈ r, 0 ≤ v.element ∧ v.element < l.length) (hl : r.length ≤ 100000) : ∀ (k n i : Nat) (acc : List Setting), k < n → i + k = r.length → acc.length ≤ i → route_Settings_0 N l r r.length n acc i = some (acc ++ setsOf l (r.drop i))
  | k, 0, i, acc, hn, _, _ => by omega
  | 0, n + 1, i, acc, hn, hi, ha => by
    obtain rfl : i = r.length := by omega
    rw [route_Settings_0, if_neg (dneg (by omega)), List.drop_length]
    simp [setsOf]
  | k + 1, n + 1, i, acc, hn, hi, ha => by
    have hlt : i < r.length := by omega
    have hv := at_lt hlt
    obtain ⟨h0, h1⟩ := hr _ (List.mem_of_getElem? hv)
    have h2 := setV_len l r[i]
    rw [route_Settings_0, if_pos (dpos (by omega)), sets1 N hv h0 h1 (by omega), bind_some', w64s (by omega), sets_loop N hr hl k n (i + 1) _ (by omega) (by omega) (by simp; omega), drop_at hv]
    unfold setsOf
    rw [List.flatMap_cons, List.append_assoc]
theorem WayP.ok {l : List PlantElement} {r : List Visit} (h : WayP l r) : ∀ v ∈ r, 0 ≤ v.element ∧ v.element < l.length := by
  intro v hv
  obtain ⟨i, hi⟩ := List.getElem?_of_mem hv
  have hlt := (List.getElem?_eq_some_iff.1 hi).1
  have two := h.two
  by_cases h0 : i + 1 < r.length
  · have := eI_mem (h.outs h0 hi); exact ⟨this.1, this.2.1⟩
  · have := eI_mem (h.ins (by omega) hi); exact ⟨this.1, this.2.1⟩
instance instSet : Inhabited Setting := ⟨Setting.mk 0 0⟩
noncomputable def sorted (q : List Setting) : List Setting := @srtL Setting instSet (fun (a b : Setting) => cmpI a.element b.element) q
theorem settings_ok (N : Nat) (hN : 4000 ≤ N) {l : List PlantElement} (hP : PlOk l) {r : List Visit} (hr : RtP l r) (hl : r.length ≤ 3000) : route_Settings N l r = some (sorted (setsOf l r), 0) := by
  obtain ⟨b, h1, _, h3⟩ := vals_eq N hN hP (w := r) hl
  unfold route_Settings
  rw [h1, bind_some', h3.2 hr, if_neg (by simp)]
  have h := sets_loop N (l := l) (r := r) hr.2.1.ok (by omega) r.length N 0 [] (by omega) (by omega) (by simp)
  have h : route_Settings_0 N l r r.length N [] 0 = some (setsOf l r) := h
  have := setsOf_len l r
  rw [h, bind_some']
  unfold srtI
  rw [if_pos (by omega), bind_some']
  rfl
theorem sorted_mem {q : List Setting} {x : Setting} : x ∈ sorted q ↔ x ∈ q := (@srtL_perm Setting instSet (fun (a b : Setting) => cmpI a.element b.element) (swo_key Setting.element) q).mem_iff
theorem sorted_len (q : List Setting) : (sorted q).length = q.length := (@srtL_perm Setting instSet (fun (a b : Setting) => cmpI a.element b.element) (swo_key Setting.element) q).length_eq
theorem sorted_lt {q : List Setting} (h : (q.map Setting.element).Nodup) : (sorted q).Pairwise fun a b => a.element < b.element := by
  have h1 : (sorted q).Pairwise fun a b => a.element ≤ b.element := @srtL_sorted Setting instSet Setting.element q
  have hp : (sorted q).Perm q := @srtL_perm Setting instSet (fun (a b : Setting) => cmpI a.element b.element) (swo_key Setting.element) q
  have h2 : ((sorted q).map Setting.element).Nodup := (hp.map Setting.element).nodup_iff.2 h
  rw [List.nodup_iff_pairwise_ne, List.pairwise_map] at h2
  exact (h1.and h2).imp fun ⟨a, b⟩ => by omega
theorem same_lists : ∀ {a b : List Setting}, a.Pairwise (fun x y => x.element < y.element) → b.Pairwise (fun x y => x.element < y.element) → (∀ x, x ∈ a ↔ x ∈ b) → a = b
  | [], [], _, _, _ => rfl
  | [], y :: b, _, _, h => by have := (h y).2 List.mem_cons_self; cases this
  | x :: a, [], _, _, h => by have := (h x).1 List.mem_cons_self; cases this
  | x :: a, y :: b, h1, h2, h => by
    rw [List.pairwise_cons] at h1 h2
    have hxy : x = y := by
      rcases List.mem_cons.1 ((h x).1 List.mem_cons_self) with e | e
      · exact e
      · rcases List.mem_cons.1 ((h y).2 List.mem_cons_self) with f | f
        · exact f.symm
        · have := h2.1 _ e; have := h1.1 _ f; omega
    subst hxy
    congr 1
    refine same_lists h1.2 h2.2 fun z => ⟨fun hz => ?_, fun hz => ?_⟩
    · rcases List.mem_cons.1 ((h z).1 (List.mem_cons_of_mem _ hz)) with e | e
      · have := h1.1 _ hz; rw [e] at this; omega
      · exact e
    · rcases List.mem_cons.1 ((h z).2 (List.mem_cons_of_mem _ hz)) with e | e
      · have := h2.1 _ hz; rw [e] at this; omega
      · exact e
theorem setsOf_keys (l : List PlantElement) : ∀ (r : List Visit), ((setsOf l r).map Setting.element).Sublist (elems r)
  | [] => by simp [setsOf, elems]
  | v :: r => by
    have ih := setsOf_keys l r
    have h1 := setV_len l v
    have h2 := fun s => setV_el (l := l) (v := v) (s := s)
    unfold setsOf elems at *
    rw [List.flatMap_cons, List.map_append, List.map_cons]
    generalize setV l v = q at *
    match q, h1 with
    | [], _ => exact (List.Sublist.cons _ ih)
    | [s], _ =>
      have := h2 s (by simp)
      simp only [List.map_cons, List.map_nil, List.cons_append, List.nil_append]
      rw [this]
      exact List.Sublist.cons_cons _ ih
/-! ### The way back -/
/-! ### RouteReverses -/
theorem ssame_ok (N : Nat) {a : List Setting} (hN : a.length < N) (hl : a.length ≤ 1000000) : yardgen_SameSettings N a a = some true := by
  have key : ∀ (k n i : Nat), k < n → i + k = a.length → r29_SameSettings_0 N a a n i = some (.inl ()) := by
    intro k
    induction k with
    | zero =>
      intro n i hn hi
      obtain ⟨n, rfl⟩ : ∃ m, n = m + 1 := ⟨n - 1, by omega⟩
      rw [r29_SameSettings_0, if_neg (dneg (by omega))]
    | succ k ih =>
      intro n i hn hi
      obtain ⟨n, rfl⟩ : ∃ m, n = m + 1 := ⟨n - 1, by omega⟩
      have hv := at_lt (xs := a) (i := i) (by omega)
      rw [r29_SameSettings_0, if_pos (dpos (by omega)), getI_nat hv, bind_some', bind_some', if_neg (by simp), lt_def, w64s (by omega)]
      exact ih n (i + 1) (by omega) (by omega)
  have h := key a.length N 0 hN (by omega)
  have h : r29_SameSettings_0 N a a N 0 = some (.inl ()) := h
  unfold yardgen_SameSettings r29_SameSettings
  rw [if_neg (by simp), h]
  rfl
end Go.W
end
section
set_option linter.unusedVariables false
set_option linter.unusedSimpArgs false
namespace Go.W
open Go.AM
/-! ### Distances -/
theorem dist_le {l : List PlantElement} (hP : PlOk l) {to : Int} {d : Dst} {dr : SDst} (hz : ∀ m ∈ eI l to, mpGet d (Place.mk to m) = some 0) (hC : Cl l d) (hR : RD l to dr) : ∀ (k : Nat) (i n : Int), gS dr i n = some (k : Int) → ∃ w, mpGet d (Place.mk i n) = some w ∧ w ≤ k
  | k, i, n, h => by
    have hk := hR.ri.key _ _ _ h
    by_cases hi : i = to
    · subst hi
      exact ⟨0, hz _ hk, by omega⟩
    · obtain ⟨m, hm, hg⟩ := hR.next hi h
      have h0 := hR.ri.nonneg hg
      cases k with
      | zero => omega
      | succ k =>
        have hg' : gS dr (nbr l i m) m = some (k : Int) := by rw [hg]; exact congrArg some (by omega)
        obtain ⟨w, hw, hw2⟩ := dist_le hP hz hC hR k _ _ hg'
        have hnb := (eI_mem (hR.ri.key _ _ _ hg)).1
        have hsym := hP.nbr_sym (thr_mem hm).2 hnb
        obtain ⟨x, hx, hx2⟩ := hC _ w hw n (by simp only [hsym]; exact (hP.thr_sym hm).1)
        simp only [hsym] at hx
        exact ⟨x, hx, by omega⟩
theorem dist_ge {l : List PlantElement} {to : Int} {d : Dst} {dr : SDst} (hD : DI l to d) (hR : RD l to dr) : ∀ (k : Nat) (i n : Int), mpGet d (Place.mk i n) = some (k : Int) → ∃ w, gS dr i n = some w ∧ w ≤ k
  | 0, i, n, h => by
    have hk := hD.key _ _ h
    have hi := hD.zero (Place.mk i n) h
    simp only at hi hk
    subst hi
    exact ⟨0, hR.zero _ hk, by omega⟩
  | k + 1, i, n, h => by
    have hk := hD.key _ _ h
    simp only at hk
    obtain ⟨_, m, hm, hg⟩ := hD.pos _ _ h (by omega)
    have hg' : mpGet d (Place.mk (nbr l i m) m) = some (k : Int) := by
      have : beh l i m = Place.mk (nbr l i m) m := rfl
      rw [← this, hg]; exact congrArg some (by omega)
    obtain ⟨w, hw, hw2⟩ := dist_ge hD hR k _ _ hg'
    by_cases hi : i = to
    · subst hi
      exact ⟨0, hR.zero _ hk, by omega⟩
    · obtain ⟨x, hx, hx2⟩ := hR.st i n hk hi m hm w hw
      exact ⟨x, hx, by omega⟩
theorem dist_eq {l : List PlantElement} (hP : PlOk l) {to : Int} {d : Dst} {dr : SDst} (hD : DI l to d) (hz : ∀ m ∈ eI l to, mpGet d (Place.mk to m) = some 0) (hC : Cl l d) (hR : RD l to dr) : (fun i n => mpGet d (Place.mk i n)) = gS dr := by
  funext i n
  show mpGet d (Place.mk i n) = gS dr i n
  cases h1 : gS dr i n with
  | some v =>
    obtain ⟨k, rfl⟩ := Int.eq_ofNat_of_zero_le (hR.ri.nonneg h1)
    obtain ⟨w, hw, hw2⟩ := dist_le hP hz hC hR k i n h1
    obtain ⟨j, rfl⟩ := Int.eq_ofNat_of_zero_le (hD.nonneg hw)
    obtain ⟨x, hx, hx2⟩ := dist_ge hD hR j i n hw
    rw [h1] at hx; cases hx
    rw [hw]; exact congrArg some (by omega)
  | none =>
    cases h2 : mpGet d (Place.mk i n) with
    | none => rfl
    | some w =>
      obtain ⟨j, rfl⟩ := Int.eq_ofNat_of_zero_le (hD.nonneg h2)
      obtain ⟨x, hx, _⟩ := dist_ge hD hR j i n h2
      rw [h1] at hx; cases hx
/-! ### Find -/
theorem find_eq (N : Nat) (hN : 100000 ≤ N) {l : List PlantElement} (hP : PlOk l) (fr to : Int) : ∃ r e, route_Find N l fr to = some (r, e) ∧ r27_Find N l fr to = some (r, e) ∧ r.length ≤ 2001 := by
  rcases find_all N (by omega) hP fr to with ⟨p, p'⟩ | ⟨a, b, c, d, g1, g2, g3, g⟩
  · rcases rfind_all N hN hP fr to with ⟨q, _⟩ | ⟨a, b, c, _⟩
    · exact ⟨_, _, p, q, by simp⟩
    · rcases p' with h | h | h
      · exact absurd a h
      · exact absurd b h
      · exact absurd h c
  · rcases rfind_all N hN hP fr to with ⟨_, q⟩ | ⟨_, _, _, dr, k1, k⟩
    · rcases q with h | h | h
      · exact absurd a h
      · exact absurd b h
      · exact absurd h c
    · have hg := dist_eq hP g1 g2 g3 k1
      have hgv : ∀ i n, mpGet d (Place.mk i n) = gS dr i n := fun i n => congrFun (congrFun hg i) n
      rw [hg] at g
      simp only [hgv] at g
      have hbeh : ∀ m, mpGet d (beh l fr m) = gS dr (nbr l fr m) m := fun m => hgv _ _
      have some_of : ∀ {r : List Visit}, Pth l (gS dr) fr r → 2 ≤ r.length → ∃ m ∈ eI l fr, gS dr (nbr l fr m) m ≠ none := fun {r} hp h2 => by
        have h0 := at_lt (xs := r) (i := 0) (by omega)
        obtain ⟨q1, v, q2, _⟩ := hp.best 0 _ (by omega) h0
        obtain ⟨s1, s2⟩ := hp.st _ h0
        unfold outsP at q1
        rw [s2, if_pos (by omega), s1] at q1
        rw [s1] at q2
        exact ⟨_, q1, by rw [q2]; simp⟩
      rcases g with ⟨p, p1⟩ | ⟨p, r1, p1, p2, p3, p4⟩ | ⟨r1, p, ⟨p1, p3⟩, p2, p5, p6⟩
      · rcases k with ⟨q, _⟩ | ⟨q, _, _, _, m, hm, hm2⟩ | ⟨r2, q, ⟨q1, _⟩, q2, _⟩
        · exact ⟨_, _, p, q, by simp⟩
        · exact absurd (p1 m hm) hm2
        · obtain ⟨m, hm, hm2⟩ := some_of q1 q2.2.1.two
          exact absurd (p1 m hm) hm2
      · rcases k with ⟨q, q1⟩ | ⟨q, _⟩ | ⟨r2, q, ⟨q1, q3⟩, q2, _⟩
        · obtain ⟨m, hm, hm2⟩ := some_of p1 p2
          exact absurd (q1 m hm) hm2
        · exact ⟨_, _, p, q, by simp⟩
        · have := p1.eq q1 p2 q2.2.1.two p3 q3
          rw [this] at p4
          exact absurd q2.2.2 p4
      · have two := p2.2.1.two
        rcases k with ⟨q, q1⟩ | ⟨q, r0, q1, q2, _⟩ | ⟨r2, q, ⟨q1, q3⟩, q2, _⟩
        · obtain ⟨m, hm, hm2⟩ := some_of p1 two
          exact absurd (q1 m hm) hm2
        · exact absurd (q1.once p1 two (fun z hz => (p3 z hz).1) p2.2.2) q2
        · have := p1.eq q1 two q2.2.1.two p3 q3
          subst this
          exact ⟨_, _, p, q, p5⟩
/-! ### Settings -/
theorem put_loop (N : Nat) {s : List Setting} {x : Setting} (hl : s.length ≤ 100000) : ∀ (k n : Nat), k < n → k ≤ s.length → (∀ (j : Nat) y, k ≤ j → s[j]? = some y → x.element ≤ y.element) →
    ∃ i : Nat, r27_Put_0 N s x n k = some (i : Int) ∧ i ≤ s.length ∧ (∀ (j : Nat) y, i ≤ j → s[j]? = some y → x.element ≤ y.element) ∧ (∀ y, 0 < i → s[i - 1]? = some y → y.element < x.element)
  | k, 0, hn, _, _ => by omega
  | 0, n + 1, hn, hk, hg => by
    rw [r27_Put_0]
    have h1 : r27_Put_1 N s x ((0 : Nat) : Int) = some false := by
      unfold r27_Put_1
      rw [if_neg (dneg (by omega))]
    rw [h1, bind_some', if_neg (by simp)]
    exact ⟨0, rfl, by omega, hg, fun y h => by omega⟩
  | k + 1, n + 1, hn, hk, hg => by
    have hv := at_lt (xs := s) (i := k) (by omega)
    rw [r27_Put_0]
    have h1 : r27_Put_1 N s x ((k + 1 : Nat) : Int) = some (decide (x.element ≤ s[k].element)) := by
      unfold r27_Put_1
      rw [if_pos (dpos (by omega)), w64p (by omega), getI_nat hv, bind_some']
    rw [h1, bind_some']
    by_cases hc : x.element ≤ s[k].element
    · rw [if_pos (lpos hc), lt_def, w64p (by omega)]
      refine put_loop N hl k n (by omega) (by omega) fun j y hj hy => ?_
      by_cases hjk : j = k
      · subst hjk; rw [hv] at hy; cases hy; exact hc
      · exact hg j y (by omega) hy
    · rw [if_neg (lneg hc)]
      refine ⟨k + 1, rfl, hk, hg, fun y _ hy => ?_⟩
      rw [Nat.add_sub_cancel, hv] at hy; cases hy
      omega
theorem put_ok (N : Nat) {s : List Setting} {x : Setting} (hl : s.length ≤ 100000) (hN : s.length < N) (hs : s.Pairwise fun a b => a.element < b.element) (hx : ∀ y ∈ s, y.element ≠ x.element) :
    ∃ s', r27_Put N s x = some s' ∧ (s'.Pairwise fun a b => a.element < b.element) ∧ (∀ y, y ∈ s' ↔ y = x ∨ y ∈ s) ∧ s'.length = s.length + 1 := by
  obtain ⟨i, h1, h2, h3, h4⟩ := put_loop N (s := s) (x := x) hl s.length N hN (Nat.le_refl _) (fun j y hj hy => by
    have := (List.getElem?_eq_some_iff.1 hy).1
    omega)
  unfold r27_Put
  rw [lt_def, h1, bind_some']
  have hp2 : r27_Put_2 N s x i = some false := by
    unfold r27_Put_2
    by_cases hi : i < s.length
    · have hv := at_lt hi
      rw [if_pos (dpos (by omega)), getI_nat hv, bind_some']
      congr 1
      simpa using hx _ (List.mem_of_getElem? hv)
    · rw [if_neg (dneg (by omega))]
  rw [hp2, bind_some', if_neg (by simp)]
  have hc3 : cut3I s (i : Int) (i : Int) = some (s.take i) := by
    unfold cut3I
    rw [if_pos ⟨by omega, by omega, by omega, rfl⟩, Int.toNat_natCast]
  rw [hc3, bind_some', cutI_drop h2, bind_some', appI_ok (by rw [List.length_drop]; simp; omega), bind_some', if_neg (by simp), appI_ok (by rw [List.length_take]; simp; omega), bind_some']
  have hlow : ∀ y ∈ s.take i, y.element < x.element := by
    intro y hy
    obtain ⟨j, hj⟩ := List.getElem?_of_mem hy
    rw [List.getElem?_take] at hj
    split at hj
    · rename_i hji
      have hi1 := at_lt (xs := s) (i := i - 1) (by omega)
      have hb := h4 _ (by omega) hi1
      by_cases hj1 : j = i - 1
      · rw [hj1, hi1] at hj; cases hj; exact hb
      · obtain ⟨hjl, hj⟩ := List.getElem?_eq_some_iff.1 hj
        have := List.pairwise_iff_getElem.1 hs j (i - 1) hjl (by omega) (by omega)
        rw [hj] at this
        omega
    · cases hj
  have hhigh : ∀ y ∈ s.drop i, x.element < y.element := by
    intro y hy
    obtain ⟨j, hj⟩ := List.getElem?_of_mem hy
    rw [List.getElem?_drop] at hj
    have := h3 (i + j) y (by omega) hj
    have := hx y (List.mem_of_getElem? hj)
    omega
  refine ⟨_, rfl, ?_, fun y => ?_, by simp; omega⟩
  · rw [List.pairwise_append]
    refine ⟨hs.sublist (List.take_sublist _ _), ?_, fun a ha b hb => ?_⟩
    · rw [List.singleton_append, List.pairwise_cons]
      exact ⟨hhigh, hs.sublist (List.drop_sublist _ _)⟩
    · have h5 := hlow a ha
      rw [List.singleton_append] at hb
      rcases List.mem_cons.1 hb with rfl | hb
      · exact h5
      · have := hhigh b hb; omega
  · have := List.take_append_drop i s
    constructor
    · intro hy
      rcases List.mem_append.1 hy with hy | hy
      · exact .inr (List.mem_of_mem_take hy)
      · rw [List.singleton_append] at hy
        rcases List.mem_cons.1 hy with hy | hy
        · exact .inl hy
        · exact .inr (List.mem_of_mem_drop hy)
    · rintro (rfl | hy)
      · exact List.mem_append_right _ (by simp)
      · rw [← this] at hy
        rcases List.mem_append.1 hy with hy | hy
        · exact List.mem_append_left _ hy
        · exact List.mem_append_right _ (by simp [hy])
def posE (x : PlantElement) (v : Visit) : Int := if x.kind = 3 then 3 else if x.kind = 2 then (if v.in_ = x.b ∨ v.out = x.b then 1 else 2) else 0
theorem setE_pos (x : PlantElement) (v : Visit) : setE x v = if posE x v = 0 then [] else [Setting.mk v.element (posE x v)] := by
  unfold setE posE
  by_cases h3 : x.kind = 3
  · simp [h3]
  · by_cases h2 : x.kind = 2
    · by_cases hb : v.in_ = x.b ∨ v.out = x.b
      · simp [h2, hb]
      · simp [h2, hb]
    · simp [h3, h2]
theorem rpos_ok (N : Nat) {l : List PlantElement} {v : Visit} {x : PlantElement} (hx : getI l v.element = some x) : r27_Position N l v = some (posE x v) := by
  unfold r27_Position posE
  rw [hx, bind_some', lt_def]
  by_cases h3 : x.kind = 3
  · rw [if_pos (by simpa using h3), if_pos h3]
  · rw [if_neg (by simpa using h3), if_neg h3]
    by_cases h2 : x.kind = 2
    · have hs2 : r27_Position_0 N v x = some (decide (v.in_ = x.b ∨ v.out = x.b)) := by
        unfold r27_Position_0
        rw [if_pos (by simpa using h2)]
        by_cases a : v.in_ = x.b
        · rw [if_pos (by simpa using a)]; simp [a]
        · rw [if_neg (by simpa using a), lt_def]
          congr 1
          exact Bool.eq_iff_iff.2 (by simp [a])
      rw [hs2, bind_some', if_pos h2]
      by_cases hb : v.in_ = x.b ∨ v.out = x.b
      · rw [if_pos (by simpa using hb), if_pos hb]
      · rw [if_neg (by simpa using hb), if_neg hb, lt_def, if_pos (by simpa using h2)]
    · have hs2 : r27_Position_0 N v x = some false := by
        unfold r27_Position_0
        rw [if_neg (by simpa using h2)]
      rw [hs2, bind_some', if_neg (by simp), lt_def, if_neg (by simpa using h2), if_neg h2]
theorem rsets_loop (N : Nat) {l : List PlantElement} {r : List Visit} (hr : ∀ v ∈ r, 0 ≤ v.element ∧ v.element < l.length) (hd : (elems r).Nodup) (hl : r.length ≤ 50000) (hN : r.length < N) : ∀ (k n i : Nat) (s : List Setting), k < n → i + k = r.length → s.length ≤ i → (s.Pairwise fun a b => a.element < b.element) → (∀ y, y ∈ s ↔ y ∈ setsOf l (r.take i)) →
    ∃ s', r27_Settings_0 N l r n s i = some s' ∧ (s'.Pairwise fun a b => a.element < b.element) ∧ ∀ y, y ∈ s' ↔ y ∈ setsOf l r
  | k, 0, i, s, hn, _, _, _, _ => by omega
  | 0, n + 1, i, s, hn, hi, ha, hp, hm => by
    obtain rfl : i = r.length := by omega
    rw [r27_Settings_0, if_neg (dneg (by omega))]
    rw [List.take_length] at hm
    exact ⟨s, rfl, hp, hm⟩
  | k + 1, n + 1, i, s, hn, hi, ha, hp, hm => by
    have hlt : i < r.length := by omega
    have hv := at_lt hlt
    obtain ⟨h0, h1⟩ := hr _ (List.mem_of_getElem? hv)
    obtain ⟨q, hq⟩ := Int.eq_ofNat_of_zero_le h0
    have hx := at_lt (xs := l) (i := q) (by omega)
    have hg : getI l (r[i]).element = some (l[q]'(by omega)) := by rw [hq]; exact getI_nat hx
    have hx2 : l[(r[i]).element.toNat]? = some (l[q]'(by omega)) := by rw [hq, Int.toNat_natCast]; exact hx
    have hset : setV l r[i] = setE (l[q]'(by omega)) r[i] := by unfold setV; rw [hx2]
    have htk : ∀ y, y ∈ setsOf l (r.take (i + 1)) ↔ y ∈ setsOf l (r.take i) ∨ y ∈ setV l r[i] := fun y => by
      rw [take_at hv]
      unfold setsOf
      rw [List.flatMap_append, List.flatMap_cons, List.flatMap_nil, List.append_nil, List.mem_append]
    have key : ∃ s', r27_Settings_1 N l r s i = some s' ∧ (s'.Pairwise fun a b => a.element < b.element) ∧ (∀ y, y ∈ s' ↔ y ∈ setsOf l (r.take (i + 1))) ∧ s'.length ≤ i + 1 := by
      unfold r27_Settings_1
      rw [getI_nat hv, bind_some', rpos_ok N hg, bind_some']
      rw [setE_pos] at hset
      by_cases hz : posE (l[q]'(by omega)) r[i] = 0
      · rw [if_neg (by simpa using hz)]
        rw [if_pos hz] at hset
        exact ⟨s, rfl, hp, fun y => by rw [htk, hset, hm]; simp, by omega⟩
      · rw [if_pos (by simpa using hz), bind_some']
        rw [if_neg hz] at hset
        obtain ⟨s', p1, p2, p3, p4⟩ := put_ok N (s := s) (x := Setting.mk r[i].element (posE (l[q]'(by omega)) r[i])) (by omega) (by omega) hp (fun y hy hh => by
          have hy := (hm y).1 hy
          unfold setsOf at hy
          obtain ⟨v, hv1, hv2⟩ := List.mem_flatMap.1 hy
          have e := setV_el hv2
          have hd2 : (elems (r.take (i + 1))).Nodup := hd.sublist ((List.take_sublist (i + 1) r).map _)
          unfold elems at hd2
          rw [take_at hv, List.map_append, List.nodup_append] at hd2
          exact hd2.2.2 v.element (List.mem_map_of_mem hv1) r[i].element (by simp) (by rw [← e, hh]))
        rw [p1, bind_some']
        exact ⟨s', rfl, p2, fun y => by rw [p3, htk, hset, hm]; simp [or_comm], by omega⟩
    obtain ⟨s', g1, g2, g3, g4⟩ := key
    rw [r27_Settings_0, if_pos (dpos (by omega)), g1, bind_some', lt_def, w64s (by omega)]
    exact rsets_loop N hr hd hl hN k n (i + 1) s' (by omega) (by omega) g4 g2 g3
/-- Both give the same settings, or none. -/
theorem sets_eq (N : Nat) {l : List PlantElement} {r : List Visit} (hN : r.length + l.length + 4000 ≤ N) (hl : l.length ≤ 1000000) (hr : r.length ≤ 9223372036854775807) (hnm : l.length ≤ 96 → ∀ x ∈ l, x.name.length < N ∧ x.name.length ≤ 9223372036854775807) :
    ∃ b s e, route_Valid N l r = some b ∧ r27_Valid N l r = some b ∧ route_Settings N l r = some (s, e) ∧ r27_Settings N l r = some (s, e) ∧ s.length ≤ 96 := by
  obtain ⟨b1, p1, p2⟩ := pVal_ok N (l := l) (r := r) (by omega) hl hr
  obtain ⟨b2, r1, r2⟩ := rVal_ok N (l := l) (r := r) (by omega) hl hr hnm
  have hb : b1 = b2 := Bool.eq_iff_iff.2 (p2.trans r2.symm)
  subst hb
  cases b1 with
  | false =>
    refine ⟨false, [], 1, p1, r1, ?_, ?_, by simp⟩
    · unfold route_Settings
      rw [p1, bind_some', if_pos (by simp)]
    · unfold r27_Settings
      rw [r1, bind_some', if_pos (by simp)]
  | true =>
    have hR := p2.1 rfl
    have hP := PlOk.of hR.1
    have hll := hP.len
    have hrl : r.length ≤ l.length := by
      have h1 := nodup_le (b := (List.range l.length).map fun (i : Nat) => (i : Int)) hR.2.2 fun x hx => by
        unfold elems at hx
        obtain ⟨v, hv, rfl⟩ := List.mem_map.1 hx
        obtain ⟨a, b⟩ := hR.2.1.ok v hv
        exact List.mem_map.2 ⟨v.element.toNat, List.mem_range.2 (by omega), by omega⟩
      simp [elems] at h1
      exact h1
    have hs := settings_ok N (by omega) hP hR (by omega)
    have hsl := setsOf_len l r
    refine ⟨true, sorted (setsOf l r), 0, p1, r1, hs, ?_, by rw [sorted_len]; omega⟩
    unfold r27_Settings
    rw [r1, bind_some', if_neg (by simp)]
    obtain ⟨s', g1, g2, g3⟩ := rsets_loop N hR.2.1.ok hR.2.2 (by omega) (by omega) r.length N 0 [] (by omega) (by omega) (by simp) (by simp) (by simp [setsOf])
    have g1 : r27_Settings_0 N l r N [] 0 = some s' := g1
    rw [g1, bind_some']
    have hlt := sorted_lt (hR.2.2.sublist (setsOf_keys l r))
    rw [same_lists g2 hlt fun y => by rw [g3, sorted_mem]]
/-! ### exact -/
theorem vsame_ok (N : Nat) {a : List Visit} (hN : a.length < N) (hl : a.length ≤ 1000000) : yardgen_SameVisits N a a = some true := by
  have key : ∀ (k n i : Nat), k < n → i + k = a.length → r29_SameVisits_0 N a a n i = some (.inl ()) := by
    intro k
    induction k with
    | zero =>
      intro n i hn hi
      obtain ⟨n, rfl⟩ : ∃ m, n = m + 1 := ⟨n - 1, by omega⟩
      rw [r29_SameVisits_0, if_neg (dneg (by omega))]
    | succ k ih =>
      intro n i hn hi
      obtain ⟨n, rfl⟩ : ∃ m, n = m + 1 := ⟨n - 1, by omega⟩
      have hv := at_lt (xs := a) (i := i) (by omega)
      rw [r29_SameVisits_0, if_pos (dpos (by omega)), getI_nat hv, bind_some', bind_some', if_neg (by simp), lt_def, w64s (by omega)]
      exact ih n (i + 1) (by omega) (by omega)
  have h := key a.length N 0 hN (by omega)
  have h : r29_SameVisits_0 N a a N 0 = some (.inl ()) := h
  unfold yardgen_SameVisits r29_SameVisits
  rw [if_neg (by simp), h]
  rfl
theorem exact27 (N : Nat) {l : List PlantElement} {r : List Visit} (hN : r.length + l.length + 200000 ≤ N) (hl : l.length ≤ 1000000) (hr : r.length ≤ 9223372036854775807) (hnm : l.length ≤ 96 → ∀ x ∈ l, x.name.length < N ∧ x.name.length ≤ 9223372036854775807) (fr to : Int) : l27_exact N l fr to r = some true := by
  have hfind : ∃ q e, route_Find N l fr to = some (q, e) ∧ r27_Find N l fr to = some (q, e) ∧ q.length ≤ 2001 := by
    by_cases hv : vErr l = 0
    · exact find_eq N (by omega) (PlOk.of hv) fr to
    · refine ⟨[], vErr l, ?_, ?_, by simp⟩
      · unfold route_Find
        rw [pvalid_ok N (by omega), bind_some', if_pos (by simpa using hv)]
      · unfold r27_Find
        rw [rvalid_ok N (by omega) hnm, bind_some', if_pos (by simpa using hv)]
  obtain ⟨q, e, f1, f2, f3⟩ := hfind
  obtain ⟨b, s, e', s1, s2, s3, s4, s5⟩ := sets_eq N (l := l) (r := r) (by omega) hl hr hnm
  unfold l27_exact
  rw [f1, bind_some', f2, bind_some', s3, bind_some', s4, bind_some']
  have h0 : l27_exact_0 N l r q e q e s e' s e' = some true := by
    unfold l27_exact_0
    rw [vsame_ok N (by omega) (by omega), bind_some', if_pos rfl, if_pos (by simp), s1, bind_some', s2, bind_some', if_pos (by simp), ssame_ok N (by omega) (by omega), bind_some', if_pos rfl, lt_def]
    simp
  rw [h0, bind_some']
end Go.W
end
section
set_option linter.unusedVariables false
set_option linter.unusedSimpArgs false
namespace Go.W
open Go.AM
def Nm13 (l : List PlantElement) : Prop := ∀ x ∈ l, x.name.length ≤ 13
theorem Nm13.set {l : List PlantElement} (h : Nm13 l) {i : Nat} {x : PlantElement} (hx : x.name.length ≤ 13) : Nm13 (l.set i x) := fun y hy => by
  rcases List.mem_or_eq_of_mem_set hy with hy | hy
  · exact h y hy
  · rw [hy]; exact hx
theorem MadeP.n13 {l : List PlantElement} (h : MadeP l) : Nm13 l := fun x hx => by
  have h1 := (soundP_ends (h.ok.snd x hx)).2.2.2
  unfold pnOk at h1
  simp only [Bool.and_eq_true, decide_eq_true_eq] at h1
  omega
theorem spoil_ok (N : Nat) {l : List PlantElement} (hl : 1 ≤ l.length) (hl2 : l.length ≤ 96) (hn : Nm13 l) {c : Int} {s : Maker} (hs : Mk c s) (hc : c ≤ 1000000) : ∃ l' s', yardgen_SpoilPlant N s l = some (l', s') ∧ Mk (c + 3) s' ∧ l'.length = l.length ∧ Nm13 l' := by
  unfold yardgen_SpoilPlant
  rw [appI_ok (by simp; omega), bind_some', List.nil_append]
  obtain ⟨r, s1, p1, p2, p3, p4⟩ := next_ok N (s := s) (c := c) (l.length : Int) (by omega) (by omega) hs (by omega)
  obtain ⟨r, rfl⟩ := Int.eq_ofNat_of_zero_le p2
  have hv := at_lt (xs := l) (i := r) (by omega)
  have hnx := hn _ (List.mem_of_getElem? hv)
  rw [p1, bind_some']
  simp only [getI_nat hv, bind_some', Int.toNat_natCast]
  obtain ⟨k, s2, q1, q2, q3, q4⟩ := next_ok N (s := s1) (c := c + 1) 7 (by omega) (by omega) p4 (by omega)
  rw [q1, bind_some']
  simp only [lt_def]
  by_cases k0 : k = 0
  · rw [if_pos (by simpa using k0)]
    obtain ⟨x, s3, t1, t2, t3⟩ := pick_ok N (s := s2) (c := c + 1 + 1) [0, 1, 2, 3, 4] (by simp) (by simp) q4 (by omega)
    rw [t1, bind_some']
    exact ⟨_, _, rfl, t3.le (by omega), by simp, hn.set hnx⟩
  rw [if_neg (by simpa using k0)]
  by_cases k1 : k = 1
  · rw [if_pos (by simpa using k1)]
    obtain ⟨x, s3, t1, t2, t3, t4⟩ := next_ok N (s := s2) (c := c + 1 + 1) 5 (by omega) (by omega) q4 (by omega)
    obtain ⟨x, rfl⟩ := Int.eq_ofNat_of_zero_le t2
    rw [t1, bind_some']
    simp only []
    have hx : x < ([[], [112, 48, 48], [80], [97, 98, 99, 100, 101, 102, 103, 104, 105, 106, 107, 108, 109], [97, 32, 98]] : List (List UInt8)).length := by simp; omega
    rw [getI_nat (at_lt hx), bind_some', bind_some']
    refine ⟨_, _, rfl, t4.le (by omega), by simp, hn.set ?_⟩
    have hm := List.getElem_mem hx
    generalize ([[], [112, 48, 48], [80], [97, 98, 99, 100, 101, 102, 103, 104, 105, 106, 107, 108, 109], [97, 32, 98]] : List (List UInt8))[x] = nm at hm
    simp only [List.mem_cons, List.not_mem_nil, or_false] at hm
    rcases hm with rfl | rfl | rfl | rfl | rfl <;> simp
  rw [if_neg (by simpa using k1)]
  by_cases k2 : k = 2
  · rw [if_pos (by simpa using k2)]
    obtain ⟨x, s3, t1, t2, t3⟩ := pick_ok N (s := s2) (c := c + 1 + 1) [(-1), 0, 1, 2, 63, 64, (l[r]'(by omega)).b] (by simp) (by simp) q4 (by omega)
    rw [t1, bind_some']
    exact ⟨_, _, rfl, t3.le (by omega), by simp, hn.set hnx⟩
  rw [if_neg (by simpa using k2)]
  by_cases k3 : k = 3
  · rw [if_pos (by simpa using k3)]
    obtain ⟨x, s3, t1, t2, t3⟩ := pick_ok N (s := s2) (c := c + 1 + 1) [(-1), 0, 1, 2, 63, 64] (by simp) (by simp) q4 (by omega)
    rw [t1, bind_some']
    exact ⟨_, _, rfl, t3.le (by omega), by simp, hn.set hnx⟩
  rw [if_neg (by simpa using k3)]
  by_cases k4 : k = 4
  · rw [if_pos (by simpa using k4)]
    obtain ⟨x, s3, t1, t2, t3⟩ := pick_ok N (s := s2) (c := c + 1 + 1) [0, 1, 5, 64] (by simp) (by simp) q4 (by omega)
    rw [t1, bind_some']
    exact ⟨_, _, rfl, t3.le (by omega), by simp, hn.set hnx⟩
  rw [if_neg (by simpa using k4)]
  by_cases k5 : k = 5
  · rw [if_pos (by simpa using k5)]
    obtain ⟨x, s3, t1, t2, t3⟩ := pick_ok N (s := s2) (c := c + 1 + 1) [0, 1, 100000, 100001] (by simp) (by simp) q4 (by omega)
    rw [t1, bind_some']
    exact ⟨_, _, rfl, t3.le (by omega), by simp, hn.set hnx⟩
  rw [if_neg (by simpa using k5)]
  exact ⟨_, _, rfl, q4.le (by omega), rfl, hn⟩
theorem exw_ok (N : Nat) {w : List Visit} (hw : 1 ≤ w.length) (hw2 : w.length ≤ 13) {c : Int} {s : Maker} (hs : Mk c s) (hc : c ≤ 1000000) (b : Bool) : ∃ s' w', l27_RouteExact_1 N s w b = some (s', w') ∧ Mk (c + 3) s' ∧ w'.length = w.length := by
  unfold l27_RouteExact_1
  cases b with
  | false => exact ⟨_, _, if_neg (by simp), hs.le (by omega), rfl⟩
  | true =>
    rw [if_pos rfl]
    obtain ⟨r, s1, p1, p2, p3, p4⟩ := next_ok N (s := s) (c := c) (w.length : Int) (by omega) (by omega) hs (by omega)
    obtain ⟨r, rfl⟩ := Int.eq_ofNat_of_zero_le p2
    have hv := at_lt (xs := w) (i := r) (by omega)
    rw [p1, bind_some']
    simp only [getI_nat hv, bind_some', Int.toNat_natCast]
    obtain ⟨x, s2, t1, t2, t3⟩ := pick_ok N (s := s1) (c := c + 1) [(w[r]'(by omega)).in_, (-1), (w[r]'(by omega)).out] (by simp) (by simp) p4 (by omega)
    rw [t1, bind_some']
    simp only []
    obtain ⟨y, s3, q1, q2, q3⟩ := pick_ok N (s := s2) (c := c + 1 + 1) [(w[r]'(by omega)).out, (-1), (w[r]'(by omega)).in_] (by simp) (by simp) t3 (by omega)
    rw [q1, bind_some', lt_def]
    simp only []
    have hv2 := at_lt (xs := w.set r (Visit.mk (w[r]'(by omega)).element x (w[r]'(by omega)).out)) (i := r) (by simp; omega)
    rw [getI_nat hv2, bind_some', lt_def]
    exact ⟨_, _, rfl, q3.le (by omega), by simp⟩
theorem ex3_ok (N : Nat) {l : List PlantElement} {w r : List Visit} (hN : r.length + 300000 ≤ N) (hl : l.length ≤ 96) (hn : Nm13 l) (hw : 1 ≤ w.length) (hw2 : w.length ≤ 13) (hr : r.length ≤ 9223372036854775807) (a b : Int) : l27_RouteExact_3 N r l w a b = some false := by
  have hnm : l.length ≤ 96 → ∀ x ∈ l, x.name.length < N ∧ x.name.length ≤ 9223372036854775807 := fun _ x hx => by have := hn x hx; omega
  unfold l27_RouteExact_3
  rw [exact27 N (by omega) (by omega) (by omega) hnm, bind_some', if_neg (by simp)]
  have h0 := at_lt (xs := w) (i := 0) (by omega)
  have hz := at_lt (xs := w) (i := w.length - 1) (by omega)
  have g0 : getI w 0 = some (w[0]'(by omega)) := getI_nat h0
  have hw1 : IntKind.wrap .i64 ((w.length : Int) - 1) = ((w.length - 1 : Nat) : Int) := by rw [w64 (by omega) (by omega)]; omega
  simp only [g0, hw1, getI_nat hz, bind_some']
  rw [exact27 N (by omega) (by omega) (by omega) hnm, bind_some']
  rfl
theorem exact_loop (N : Nat) {r : List Visit} (hN : r.length + 300000 ≤ N) (hr : r.length ≤ 9223372036854775807) : ∀ (k n i : Nat) (c : Int) (s : Maker), k < n → i + k = 3 → Mk c s → 0 ≤ c → c + 40000 * k ≤ 800000 → l27_RouteExact_0 N r n s i = some (.inl ())
  | k, 0, i, c, s, hn, _, _, _, _ => by omega
  | 0, n + 1, i, c, s, hn, hi, hs, hc0, hc => by
    obtain rfl : i = 3 := by omega
    rw [l27_RouteExact_0, if_neg (dneg (by omega))]
  | k + 1, n + 1, i, c, s, hn, hi, hs, hc0, hc => by
    rw [l27_RouteExact_0, if_pos (dpos (by omega))]
    obtain ⟨l, s1, h1, h2, hP⟩ := plant_at N (by omega) (b := c) (by omega) (by omega) hs (k := 12) (by omega)
    rw [h1, bind_some']
    simp only []
    have hll := hP.ok.len
    have hl1 : 1 ≤ l.length := by
      obtain ⟨x, hx, _⟩ := hP.fst
      have := (List.getElem?_eq_some_iff.1 hx).1
      omega
    obtain ⟨w, s2, e1, e2, e3, e4, _⟩ := walk_ok N (by omega) hP h2 (by omega)
    rw [e1, bind_some']
    simp only []
    obtain ⟨q, s3, p1, p2, p3, p4⟩ := next_ok N (s := s2) (c := c + 30000 + 30) 3 (by omega) (by omega) e2 (by omega)
    rw [p1, bind_some']
    simp only []
    obtain ⟨s4, w', f1, f2, f3⟩ := exw_ok N (w := w) e3 e4 p4 (by omega) (q == 0)
    rw [f1, bind_some']
    simp only []
    have hsp : ∃ s5 l', l27_RouteExact_2 N s4 l ((i : Int) == 2) = some (s5, l') ∧ Mk (c + 30000 + 30 + 1 + 3 + 3) s5 ∧ l'.length = l.length ∧ Nm13 l' := by
      unfold l27_RouteExact_2
      cases ((i : Int) == 2) with
      | false => exact ⟨_, _, if_neg (by simp), f2.le (by omega), rfl, hP.n13⟩
      | true =>
        rw [if_pos rfl]
        obtain ⟨l', s5, t1, t2, t3, t4⟩ := spoil_ok N hl1 hll hP.n13 f2 (by omega)
        rw [t1, bind_some']
        exact ⟨_, _, rfl, t2, t3, t4⟩
    obtain ⟨s5, l', t1, t2, t3, t4⟩ := hsp
    rw [t1, bind_some']
    simp only []
    have hw2 : IntKind.wrap .i64 ((l'.length : Int) + 2) = (l'.length : Int) + 2 := w64 (by omega) (by omega)
    rw [hw2]
    obtain ⟨a, s6, a1, a2, a3, a4⟩ := next_ok N (s := s5) (c := c + 30000 + 30 + 1 + 3 + 3) ((l'.length : Int) + 2) (by omega) (by omega) t2 (by omega)
    rw [a1, bind_some']
    simp only []
    obtain ⟨b, s7, b1, b2, b3, b4⟩ := next_ok N (s := s6) (c := c + 30000 + 30 + 1 + 3 + 3 + 1) ((l'.length : Int) + 2) (by omega) (by omega) a4 (by omega)
    rw [b1, bind_some', lt_def, lt_def]
    simp only []
    rw [ex3_ok N (l := l') (w := w') (r := r) hN (by omega) t4 (by omega) (by omega) hr, bind_some', if_neg (by simp), lt_def, w64s (by omega)]
    exact exact_loop N hN hr k n (i + 1) (c + 40000) s7 (by omega) (by omega) (b4.le (by omega)) (by omega) (by omega)
theorem rexact27_ok (N : Nat) (x0 : List Int) (l : List PlantElement) (fr to : Int) (r : List Visit) (hN : r.length + 300000 ≤ N) (hr : r.length ≤ 9223372036854775807) (hnm : l.length ≤ 96 → ∀ x ∈ l, x.name.length < N ∧ x.name.length ≤ 9223372036854775807) : l27_RouteExact N x0 l fr to r = some true := by
  unfold l27_RouteExact gen_New
  have h0 := exact_loop N hN hr 3 N 0 0 (Maker.mk x0 0) (by omega) (by omega) (mk0 x0) (by omega) (by omega)
  have h0 : l27_RouteExact_0 N r N (Maker.mk x0 0) 0 = some (.inl ()) := h0
  rw [bind_some', h0, bind_some']
  simp only []
  have h4 : l27_RouteExact_4 N l fr to r = some true := by
    unfold l27_RouteExact_4
    by_cases a : (60 : Int) < l.length
    · rw [if_pos (dpos a)]
    · rw [if_neg (dneg a)]
      by_cases b : (100 : Int) < r.length
      · rw [if_pos (dpos b)]
      · rw [if_neg (dneg b), exact27 N (by omega) (by omega) hr hnm, bind_some', if_pos rfl, sane27' (by omega), bind_some']
  rw [h4, bind_some']
/-- All functions answer as the reference does. -/
theorem rex27T (t : List Int) (_ : gSl (gInt .i64) t) (l : List PlantElement) (hl : gSl (fun x : PlantElement => gInt .i64 x.kind ∧ gStr x.name ∧ gInt .i64 x.a ∧ gInt .i64 x.b ∧ gInt .i64 x.c ∧ gInt .i64 x.length) l)
    (fr : Int) (_ : gInt .i64 fr) (to : Int) (_ : gInt .i64 to) (r : List Visit) (hr : gSl (fun x : Visit => gInt .i64 x.element ∧ gInt .i64 x.in_ ∧ gInt .i64 x.out) r) : ∃ N, l27_RouteExact N t l fr to r = some true := by
  have h3 : maxLen ≤ 9223372036854775807 := by decide
  have h1 := hr.1
  refine ⟨maxLen + 300000, rexact27_ok _ t l fr to r (by omega) (by omega) fun _ x hx => ?_⟩
  have h2 := (hl.2 x hx).2.1
  simp only [gStr] at h2
  omega
end Go.W
end
