/- LRtV LRtW LRtF LRtE LRtG LRtR LRtT LRtU LRtX -/
import Derived.Test.YtkbomolgmgeogaaMe
section
set_option linter.unusedVariables false
set_option linter.unusedSimpArgs false
namespace Go.W
open Go.AM
/-! ### Small ones -/
def trk (l : List PlantElement) (i : Int) : Prop := 0 ≤ i ∧ ∃ x, l[i.toNat]? = some x ∧ x.kind = 1
instance (l : List PlantElement) (i : Int) : Decidable (trk l i) := by
  unfold trk
  cases h : l[i.toNat]? with
  | none => exact isFalse (by rintro ⟨_, x, hx, _⟩; cases hx)
  | some y => exact if h2 : 0 ≤ i ∧ y.kind = 1 then isTrue ⟨h2.1, y, rfl, h2.2⟩ else isFalse (by rintro ⟨a, x, hx, b⟩; cases hx; exact h2 ⟨a, b⟩)
theorem ptrk_ok (N : Nat) (l : List PlantElement) (i : Int) : route_track N l i = some (decide (trk l i)) := by
  unfold route_track route_track_0
  by_cases h0 : 0 ≤ i
  · rw [if_pos (lpos h0)]
    by_cases h1 : i < l.length
    · rw [if_pos (dpos h1)]
      have hlt : i.toNat < l.length := by omega
      have hg : getI l i = some l[i.toNat] := by simp [getI, h0, hlt]
      rw [hg, bind_some', lt_def, bind_some']
      congr 1
      by_cases hk : l[i.toNat].kind = 1
      · rw [decide_eq_true (show trk l i from ⟨h0, _, at_lt hlt, hk⟩)]; simpa using hk
      · rw [decide_eq_false (show ¬ trk l i from by rintro ⟨_, x, hx, hk'⟩; rw [at_lt hlt] at hx; cases hx; exact hk hk')]; simpa using hk
    · rw [if_neg (dneg h1), bind_some', decide_eq_false (show ¬ trk l i from by rintro ⟨_, x, hx, _⟩; have := (List.getElem?_eq_some_iff.1 hx).1; omega)]
  · rw [if_neg (lneg h0), bind_some', decide_eq_false (show ¬ trk l i from fun h => h0 h.1)]
theorem rtrk_ok (N : Nat) (l : List PlantElement) (i : Int) : r27_track N l i = some (decide (trk l i)) := by
  have h := ptrk_ok N l i
  unfold route_track route_track_0 at h
  unfold r27_track r27_track_0
  exact h
theorem contains_ok (N : Nat) {l : List Int} (hN : l.length < N) (hl : l.length ≤ 1000000) (x : Int) : slices_Contains_int_int N l x = some (l.contains x) := by
  unfold slices_Contains_int_int slices_Index_int_int
  have h := first_gen (l := l) (fun _ y => x == y) (fun i _ => (i : Int)) (fun m i => slices_Index_int_int_0 N l x l.length m i) (fun m => by
    show slices_Index_int_int_0 N l x l.length (m + 1) _ = _
    rw [slices_Index_int_int_0, if_neg (dneg (by omega))]) (fun m i y hy => by
    show slices_Index_int_int_0 N l x l.length (m + 1) _ = _
    have hlt := (List.getElem?_eq_some_iff.1 hy).1
    rw [slices_Index_int_int_0, if_pos (dpos (by omega)), getI_nat hy, bind_some', w64s (by omega)]) l.length N 0 hN (by omega)
  simp only [Int.natCast_zero, List.drop_zero] at h
  rw [h, bind_some']
  have key : (∃ u, res (fun _ y => x == y) (fun i _ => (i : Int)) 0 l = .inl u) ↔ l.contains x = false := by
    have : res (fun _ y => x == y) (fun i (_ : Int) => (i : Int)) 0 l = .inl () ↔ _ := res_none
    constructor
    · rintro ⟨u, hu⟩
      have h2 := this.1 hu
      rw [Bool.eq_false_iff]
      intro hc
      have hm : x ∈ l := by simpa using hc
      obtain ⟨j, hj⟩ := List.getElem?_of_mem hm
      have := h2 j x hj
      simp at this
    · intro hc
      refine ⟨(), this.2 fun j y hj => ?_⟩
      have hm : x ∉ l := by simpa using hc
      simp only [beq_eq_false_iff_ne, ne_eq]
      rintro rfl
      exact hm (List.mem_of_getElem? hj)
  rcases res_first (fun _ y => x == y) l 0 with ⟨h1, h2⟩ | ⟨h1, h2⟩
  · rw [h1]
    have := key.1 ⟨(), h1⟩
    rw [this]
    rfl
  · rw [h1]
    have : l.contains x = true := by
      cases hc : l.contains x with
      | true => rfl
      | false => obtain ⟨u, hu⟩ := key.2 hc; rw [h1] at hu; cases hu
    rw [this]
    simp only [bind_some', lt_def]
    rw [decide_eq_true h2]
theorem rHas_ok (N : Nat) {l : List Int} (hN : l.length < N) (hl : l.length ≤ 1000000) (x : Int) : r27_Has N l x = some (l.contains x) := by
  have h := has_gen (l := l) (x := x) (fun n i => r27_Has_0 N l x n i) (fun n => by
    show r27_Has_0 N l x (n + 1) _ = _
    rw [r27_Has_0, if_neg (dneg (by omega))]) (fun n i y hy => by
    show r27_Has_0 N l x (n + 1) _ = _
    have hlt := (List.getElem?_eq_some_iff.1 hy).1
    rw [r27_Has_0, if_pos (dpos (by omega)), getI_nat hy, bind_some', lt_def, w64s (by omega)]) hN
  unfold r27_Has
  rw [h, bind_some']
  cases l.contains x <;> rfl
def elems (r : List Visit) : List Int := r.map Visit.element
theorem visits_ok (N : Nat) {r : List Visit} (hN : r.length < N) (hl : r.length ≤ 1000000) (x : Int) : r27_Visits N r x = some ((elems r).contains x) := by
  have h := first_gen (l := r) (fun _ y => y.element == x) (fun _ _ => true) (fun n i => r27_Visits_0 N r x n i) (fun n => by
    show r27_Visits_0 N r x (n + 1) _ = _
    rw [r27_Visits_0, if_neg (dneg (by omega))]) (fun n i y hy => by
    show r27_Visits_0 N r x (n + 1) _ = _
    have hlt := (List.getElem?_eq_some_iff.1 hy).1
    rw [r27_Visits_0, if_pos (dpos (by omega)), getI_nat hy, bind_some', lt_def, w64s (by omega)]) r.length N 0 hN (by omega)
  simp only [Int.natCast_zero, List.drop_zero] at h
  unfold r27_Visits
  rw [h, bind_some', res_any (fun y : Visit => y.element == x)]
  have e : (r.any fun y => y.element == x) = (elems r).contains x := by
    unfold elems
    rw [← any_eq, List.any_map]
    rfl
  rw [e]
  cases (elems r).contains x <;> rfl
/-! ### Twice -/
theorem twice_loop (N : Nat) {r : List Visit} (hl : r.length ≤ 1000000) : ∀ (k n i : Nat) (x3 : List (Int × Bool)), k < n → i + k = r.length → (∀ a, (mpGet x3 a).getD false = (elems (r.take i)).contains a) → (elems (r.take i)).Nodup →
    (route_twice_0 N r r.length n x3 i = some (.inl ()) ∧ (elems r).Nodup) ∨ (route_twice_0 N r r.length n x3 i = some (.inr true) ∧ ¬ (elems r).Nodup)
  | k, 0, i, x3, hn, _, _, _ => by omega
  | 0, n + 1, i, x3, hn, hi, h1, h2 => by
    obtain rfl : i = r.length := by omega
    rw [route_twice_0, if_neg (dneg (by omega))]
    rw [List.take_length] at h2
    exact .inl ⟨rfl, h2⟩
  | k + 1, n + 1, i, x3, hn, hi, h1, h2 => by
    have hlt : i < r.length := by omega
    have ha := at_lt hlt
    rw [route_twice_0, if_pos (dpos (by omega)), getI_nat ha, bind_some', lt_def, h1]
    have htk : elems (r.take (i + 1)) = elems (r.take i) ++ [r[i].element] := by unfold elems; rw [take_at ha, List.map_append]; rfl
    by_cases hc : (elems (r.take i)).contains r[i].element = true
    · rw [if_pos hc]
      refine .inr ⟨rfl, fun hd => ?_⟩
      have hs : (elems (r.take (i + 1))).Nodup := hd.sublist ((List.take_sublist (i + 1) r).map _)
      rw [htk, List.nodup_append] at hs
      exact hs.2.2 _ (by simpa using hc) _ (by simp) rfl
    · rw [if_neg hc, lt_def, w64s (by omega)]
      refine twice_loop N hl k n (i + 1) _ (by omega) (by omega) (fun a => ?_) ?_
      · rw [mpGet_set, htk]
        by_cases hh : r[i].element = a
        · rw [if_pos hh]; simp [hh]
        · rw [if_neg hh, h1]
          have hh' : ¬ a = r[i].element := fun q => hh q.symm
          simp [hh']
      · rw [htk, List.nodup_append]
        refine ⟨h2, by simp, fun x hx y hy => ?_⟩
        simp at hy
        subst hy
        rintro rfl
        exact hc (by simpa using hx)
theorem twice_ok (N : Nat) {r : List Visit} (hN : r.length < N) (hl : r.length ≤ 1000000) : ∃ b, route_twice N r = some b ∧ (b = false ↔ (elems r).Nodup) := by
  unfold route_twice
  have h := twice_loop N hl r.length N 0 [] hN (by omega) (fun a => by simp [mpGet, elems]) (by simp [elems])
  rcases h with ⟨h1, h2⟩ | ⟨h1, h2⟩
  · have h1 : route_twice_0 N r r.length N [] 0 = some (.inl ()) := h1
    rw [h1, bind_some']
    exact ⟨false, rfl, by simp [h2]⟩
  · have h1 : route_twice_0 N r r.length N [] 0 = some (.inr true) := h1
    rw [h1, bind_some']
    exact ⟨true, rfl, by simp [h2]⟩
/-! ### A way -/
structure WayP (l : List PlantElement) (r : List Visit) : Prop where
  two : 2 ≤ r.length
  st : ∀ v, r[0]? = some v → trk l v.element ∧ v.in_ = -1 ∧ v.out ∈ eI l v.element
  en : ∀ v, r[r.length - 1]? = some v → trk l v.element ∧ v.out = -1
  step : ∀ (i : Nat) v w, r[i]? = some v → r[i + 1]? = some w → w.in_ = v.out ∧ 0 ≤ w.element ∧ w.element = nbr l v.element v.out
  mid : ∀ (i : Nat) v, 0 < i → i + 1 < r.length → r[i]? = some v → v.out ∈ thr l v.element v.in_
theorem WayP.ins {l : List PlantElement} {r : List Visit} (h : WayP l r) {i : Nat} {v : Visit} (hi : 0 < i) (hv : r[i]? = some v) : v.in_ ∈ eI l v.element := by
  obtain ⟨j, rfl⟩ : ∃ j, i = j + 1 := ⟨i - 1, by omega⟩
  have hlt := (List.getElem?_eq_some_iff.1 hv).1
  have hj := at_lt (xs := r) (i := j) (by omega)
  obtain ⟨a, b, c⟩ := h.step j _ v hj hv
  rw [c, a]
  exact (nbr_mem (by rw [← c]; exact b)).1
theorem WayP.outs {l : List PlantElement} {r : List Visit} (h : WayP l r) {i : Nat} {v : Visit} (hi : i + 1 < r.length) (hv : r[i]? = some v) : v.out ∈ eI l v.element := by
  cases i with
  | zero => exact (h.st v hv).2.2
  | succ i => exact (thr_mem (h.mid (i + 1) v (by omega) hi hv)).2
/-- A chain of conditions with early ends. -/
theorem or_cond {a : Bool} {x : Option Bool} {p q : Prop} (ha : a = false ↔ p) (hx : ∃ b, x = some b ∧ (b = false ↔ q)) : ∃ b, (if a = true then some true else x) = some b ∧ (b = false ↔ p ∧ q) := by
  cases a with
  | true => exact ⟨true, rfl, by simp at ha; simp [ha]⟩
  | false =>
    obtain ⟨b, h1, h2⟩ := hx
    refine ⟨b, by simpa using h1, ?_⟩
    rw [h2]
    simp at ha
    simp [ha]
theorem notdec {p : Prop} [Decidable p] : (!decide p) = false ↔ p := by simp
theorem ncont {l : List Int} {x : Int} : (!l.contains x) = false ↔ x ∈ l := by simp
theorem bne_f {a b : Int} : (a != b) = false ↔ a = b := by simp
theorem dlt_f {a b : Int} : decide (a < b) = false ↔ b ≤ a := by simp
theorem pway_ok (N : Nat) {l : List PlantElement} {r : List Visit} (hN : r.length + l.length + 10 ≤ N) (hl : l.length ≤ 1000000) (hr : r.length ≤ 1000000) : ∃ b, route_way N l r = some b ∧ (b = true ↔ WayP l r) := by
  unfold route_way
  rw [lt_def]
  by_cases h2 : r.length < 2
  · have h : route_way_0 N l r (IntKind.wrap .i64 ((r.length : Int) - 1)) = some true := by
      unfold route_way_0
      rw [if_pos (dpos (by rw [w64 (by omega) (by omega)]; omega))]
    rw [h, bind_some', if_pos rfl]
    exact ⟨false, rfl, by simp; intro hw; have := hw.two; omega⟩
  have hw : IntKind.wrap .i64 ((r.length : Int) - 1) = ((r.length - 1 : Nat) : Int) := by rw [w64 (by omega) (by omega)]; omega
  rw [hw]
  have h0 := at_lt (xs := r) (i := 0) (by omega)
  have hz := at_lt (xs := r) (i := r.length - 1) (by omega)
  generalize hv0 : r[0]'(by omega) = v at h0
  generalize hvz : r[r.length - 1]'(by omega) = w at hz
  have g0 : getI r 0 = some v := getI_nat h0
  have gz : getI r ((r.length - 1 : Nat) : Int) = some w := getI_nat hz
  have e1 := eI_len l v.element
  have e2 := eI_len l w.element
  have c0 : ∃ b, route_way_0 N l r ((r.length - 1 : Nat) : Int) = some b ∧ (b = false ↔ trk l v.element ∧ trk l w.element ∧ v.in_ = -1 ∧ w.out = -1) := by
    unfold route_way_0
    rw [if_neg (dneg (by omega))]
    simp only [g0, gz, bind_some', ptrk_ok]
    exact or_cond notdec (or_cond notdec (or_cond bne_f ⟨_, rfl, bne_f⟩))
  have c1 : ∃ b, route_way_1 N l r ((r.length - 1 : Nat) : Int) = some b ∧ (b = false ↔ v.out ∈ eI l v.element ∧ w.in_ ∈ eI l w.element) := by
    unfold route_way_1
    simp only [g0, gz, bind_some', pEnds_ok]
    rw [contains_ok N (by omega) (by omega), contains_ok N (by omega) (by omega)]
    simp only [bind_some']
    exact or_cond ncont ⟨_, rfl, ncont⟩
  obtain ⟨b0, p0, q0⟩ := c0
  obtain ⟨b1, p1, q1⟩ := c1
  rw [p0, bind_some']
  have st' : ∀ {x}, r[0]? = some x → x = v := fun hx => by rw [h0] at hx; cases hx; rfl
  have en' : ∀ {x}, r[r.length - 1]? = some x → x = w := fun hx => by rw [hz] at hx; cases hx; rfl
  cases b0 with
  | true =>
    rw [if_pos rfl]
    refine ⟨false, rfl, ?_⟩
    simp only [Bool.false_eq_true, false_iff]
    intro hw
    have a := hw.st v h0
    have b := hw.en w hz
    have := q0.2 ⟨a.1, b.1, a.2.1, b.2⟩
    cases this
  | false =>
    rw [if_neg (by simp), p1, bind_some']
    have q0 := q0.1 rfl
    cases b1 with
    | true =>
      rw [if_pos rfl]
      refine ⟨false, rfl, ?_⟩
      simp only [Bool.false_eq_true, false_iff]
      intro hw
      have := q1.2 ⟨(hw.st v h0).2.2, hw.ins (by omega) hz⟩
      cases this
    | false =>
      rw [if_neg (by simp)]
      have q1 := q1.1 rfl
      have hcut : cutI r 1 (r.length : Int) = some (r.drop 1) := cutI_drop (i := 1) (by omega)
      rw [hcut, bind_some']
      have hlen : (r.drop 1).length = r.length - 1 := List.length_drop
      let bad : Nat → Visit → Prop := fun i y => ¬ ((y.in_ = (r.getD i (Visit.mk 0 0 0)).out ∧ 0 ≤ y.element ∧ nbr l (r.getD i (Visit.mk 0 0 0)).element (r.getD i (Visit.mk 0 0 0)).out = y.element) ∧ (i + 2 < r.length → y.out ∈ thr l y.element y.in_))
      have hloop := first_gen (l := r.drop 1) (fun i y => @decide (bad i y) (Classical.propDecidable _)) (fun _ _ => false) (fun m i => route_way_2 N l r ((r.length - 1 : Nat) : Int) (r.drop 1) (r.drop 1).length m i) (fun m => by
        show route_way_2 N l r _ (r.drop 1) (r.drop 1).length (m + 1) _ = _
        rw [route_way_2, if_neg (dneg (by omega))]) (fun m i y hy => by
        show route_way_2 N l r _ (r.drop 1) (r.drop 1).length (m + 1) _ = _
        have hlt := (List.getElem?_eq_some_iff.1 hy).1
        have hi := at_lt (xs := r) (i := i) (by omega)
        rw [route_way_2, if_pos (dpos (by omega)), getI_nat hy, bind_some', getI_nat hi, bind_some']
        have hgd : r.getD i (Visit.mk 0 0 0) = r[i]'(by omega) := by simp [List.getD, hi]
        have d3 : ∃ b, route_way_3 N l y (r[i]'(by omega)) = some b ∧ (b = false ↔ y.in_ = (r.getD i (Visit.mk 0 0 0)).out ∧ 0 ≤ y.element ∧ nbr l (r.getD i (Visit.mk 0 0 0)).element (r.getD i (Visit.mk 0 0 0)).out = y.element) := by
          unfold route_way_3
          rw [hgd, pnbr_ok N (by omega) (by omega), bind_some']
          exact or_cond bne_f (or_cond dlt_f ⟨_, rfl, bne_f⟩)
        have d4 : ∃ b, route_way_4 N l ((r.length - 1 : Nat) : Int) i y = some b ∧ (b = false ↔ (i + 2 < r.length → y.out ∈ thr l y.element y.in_)) := by
          unfold route_way_4
          rw [w64s (by omega)]
          by_cases hh : i + 2 < r.length
          · rw [if_pos (dpos (by omega)), pthr_ok N (by omega), bind_some', contains_ok N (by have := thr_len l y.element y.in_; omega) (by have := thr_len l y.element y.in_; omega), bind_some']
            exact ⟨_, rfl, by rw [ncont]; simp [hh]⟩
          · rw [if_neg (dneg (by omega))]
            exact ⟨false, rfl, by simp [hh]⟩
        obtain ⟨b3, r3, s3⟩ := d3
        obtain ⟨b4, r4, s4⟩ := d4
        rw [r3, bind_some']
        cases b3 with
        | true =>
          have hb : bad i y := fun hh => by have := s3.2 hh.1; cases this
          rw [if_pos rfl, @decide_eq_true _ (Classical.propDecidable _) hb, if_pos rfl]
        | false =>
          rw [if_neg (by simp), r4, bind_some']
          cases b4 with
          | true =>
            have hb : bad i y := fun hh => by have := s4.2 hh.2; cases this
            rw [if_pos rfl, @decide_eq_true _ (Classical.propDecidable _) hb, if_pos rfl]
          | false =>
            have hb : ¬ bad i y := fun hh => hh ⟨s3.1 rfl, s4.1 rfl⟩
            rw [if_neg (by simp), @decide_eq_false _ (Classical.propDecidable _) hb, if_neg (by simp), w64s (by omega)]) (r.drop 1).length N 0 (by omega) (by omega)
      simp only [Int.natCast_zero, List.drop_zero] at hloop
      rw [hloop, bind_some']
      have hiff : WayP l r ↔ ∀ (j : Nat) (y : Visit), (r.drop 1)[j]? = some y → ¬ bad j y := by
        constructor
        · intro hw j y hj hb
          rw [List.getElem?_drop, Nat.add_comm] at hj
          have hlt := (List.getElem?_eq_some_iff.1 hj).1
          have hi := at_lt (xs := r) (i := j) (by omega)
          have hgd : r.getD j (Visit.mk 0 0 0) = r[j]'(by omega) := by simp [List.getD, hi]
          obtain ⟨a, b, c⟩ := hw.step j _ y hi hj
          refine hb ⟨by rw [hgd]; exact ⟨a, b, c.symm⟩, fun hh => hw.mid (j + 1) y (by omega) (by omega) hj⟩
        · intro hh
          refine ⟨by omega, fun x hx => ?_, fun x hx => ?_, fun i x y hx hy => ?_, fun i x hi hi2 hx => ?_⟩
          · rw [st' hx]; exact ⟨q0.1, q0.2.2.1, q1.1⟩
          · rw [en' hx]; exact ⟨q0.2.1, q0.2.2.2⟩
          · have := Classical.not_not.1 (hh i y (by rw [List.getElem?_drop, Nat.add_comm]; exact hy))
            have hgd : r.getD i (Visit.mk 0 0 0) = x := by simp [List.getD, hx]
            rw [hgd] at this
            exact ⟨this.1.1, this.1.2.1, this.1.2.2.symm⟩
          · obtain ⟨j, rfl⟩ : ∃ j, i = j + 1 := ⟨i - 1, by omega⟩
            have := Classical.not_not.1 (hh j x (by rw [List.getElem?_drop, Nat.add_comm]; exact hx))
            exact this.2 (by omega)
      have hres := res_none (p := fun i y => @decide (bad i y) (Classical.propDecidable _)) (out := fun _ _ => false) (l := r.drop 1) (i := 0)
      cases hr2 : res (fun i y => @decide (bad i y) (Classical.propDecidable _)) (fun _ _ => false) 0 (r.drop 1) with
      | inl u =>
        refine ⟨true, rfl, ?_⟩
        simp only [true_iff]
        refine hiff.2 fun j y hj => ?_
        have := (hres.1 hr2) j y hj
        rw [Nat.zero_add] at this
        exact @of_decide_eq_false _ (Classical.propDecidable _) this
      | inr b =>
        have hbf : b = false := by
          have key : ∀ (e : List Visit) (i : Nat) (b : Bool), res (fun i y => @decide (bad i y) (Classical.propDecidable _)) (fun _ _ => false) i e = .inr b → b = false := by
            intro e
            induction e with
            | nil => intro i b h; cases h
            | cons y e ih =>
              intro i b h
              rw [res] at h
              split at h
              · cases h; rfl
              · exact ih _ _ h
          exact key _ _ _ hr2
        subst hbf
        refine ⟨false, rfl, ?_⟩
        simp only [Bool.false_eq_true, false_iff]
        intro hw
        have := hres.2 fun j y hj => by
          rw [Nat.zero_add]
          exact @decide_eq_false _ (Classical.propDecidable _) (hiff.1 hw j y hj)
        rw [this] at hr2; cases hr2
end Go.W
end
section
set_option linter.unusedVariables false
set_option linter.unusedSimpArgs false
namespace Go.W
open Go.AM
/-- A route through a plant. -/
def RtP (l : List PlantElement) (r : List Visit) : Prop := vErr l = 0 ∧ WayP l r ∧ (elems r).Nodup
theorem pVal_ok (N : Nat) {l : List PlantElement} {r : List Visit} (hN : r.length + l.length + 200 ≤ N) (hl : l.length ≤ 1000000) (hr : r.length ≤ 1000000) (hs : l.length ≤ 96 → ∀ x ∈ l, endsP x ≠ [] ∨ pnOk x.name = false) : ∃ b, route_Valid N l r = some b ∧ (b = true ↔ RtP l r) := by
  unfold route_Valid route_Valid_0 RtP
  rw [pvalid_ok N (by omega) hs, bind_some']
  by_cases h0 : vErr l = 0
  · rw [if_pos (by simpa using h0)]
    obtain ⟨b, h1, h2⟩ := pway_ok N (l := l) (r := r) (by omega) hl hr
    obtain ⟨c, h3, h4⟩ := twice_ok N (r := r) (by omega) hr
    rw [h1, bind_some']
    cases b with
    | true =>
      rw [if_pos rfl, h3]
      simp only [bind_some', lt_def]
      refine ⟨!c, rfl, ?_⟩
      simp only [Bool.not_eq_true', h4]
      exact ⟨fun h => ⟨h0, h2.1 rfl, h⟩, fun h => h.2.2⟩
    | false =>
      rw [if_neg (by simp), bind_some']
      refine ⟨false, rfl, ?_⟩
      simp only [Bool.false_eq_true, false_iff]
      intro h
      have := h2.2 h.2.1
      cases this
  · rw [if_neg (by simpa using h0), bind_some']
    exact ⟨false, rfl, by simp [h0]⟩
theorem or_end {a : Bool} {x : Option Bool} {p q : Prop} (ha : a = false ↔ p) (hx : ∃ b, x = some b ∧ (b = false ↔ q)) : ∃ b, (if a = true then some true else x) = some b ∧ (b = false ↔ p ∧ q) := or_cond ha hx
theorem rVal_ok (N : Nat) {l : List PlantElement} {r : List Visit} (hN : r.length + l.length + 200 ≤ N) (hl : l.length ≤ 1000000) (hr : r.length ≤ 1000000) (hnm : l.length ≤ 96 → ∀ x ∈ l, x.name.length < N ∧ x.name.length ≤ 9223372036854775807) : ∃ b, r27_Valid N l r = some b ∧ (b = true ↔ RtP l r) := by
  unfold r27_Valid
  rw [lt_def]
  by_cases h0 : vErr l = 0
  case neg =>
    have h : r27_Valid_0 N l r (IntKind.wrap .i64 ((r.length : Int) - 1)) = some true := by
      unfold r27_Valid_0
      rw [rvalid_ok N (by omega) hnm, bind_some', if_pos (by simpa using h0)]
    rw [h, bind_some', if_pos rfl]
    exact ⟨false, rfl, by simp [RtP, h0]⟩
  by_cases h2 : r.length < 2
  · have h : r27_Valid_0 N l r (IntKind.wrap .i64 ((r.length : Int) - 1)) = some true := by
      unfold r27_Valid_0
      rw [rvalid_ok N (by omega) hnm, bind_some', if_neg (by simpa using h0), if_pos (dpos (by rw [w64 (by omega) (by omega)]; omega))]
    rw [h, bind_some', if_pos rfl]
    refine ⟨false, rfl, ?_⟩
    simp only [Bool.false_eq_true, false_iff]
    intro hw
    have := hw.2.1.two
    omega
  have hw : IntKind.wrap .i64 ((r.length : Int) - 1) = ((r.length - 1 : Nat) : Int) := by rw [w64 (by omega) (by omega)]; omega
  rw [hw]
  have h0' := at_lt (xs := r) (i := 0) (by omega)
  have hz := at_lt (xs := r) (i := r.length - 1) (by omega)
  generalize hv0 : r[0]'(by omega) = v at h0'
  generalize hvz : r[r.length - 1]'(by omega) = w at hz
  have g0 : getI r 0 = some v := getI_nat h0'
  have gz : getI r ((r.length - 1 : Nat) : Int) = some w := getI_nat hz
  have st' : ∀ {x}, r[0]? = some x → x = v := fun hx => by rw [h0'] at hx; cases hx; rfl
  have en' : ∀ {x}, r[r.length - 1]? = some x → x = w := fun hx => by rw [hz] at hx; cases hx; rfl
  have c0 : ∃ b, r27_Valid_0 N l r ((r.length - 1 : Nat) : Int) = some b ∧ (b = false ↔ trk l v.element ∧ trk l w.element ∧ v.in_ = -1 ∧ w.out = -1) := by
    unfold r27_Valid_0
    rw [rvalid_ok N (by omega) hnm, bind_some', if_neg (by simpa using h0), if_neg (dneg (by omega))]
    simp only [g0, gz, bind_some', rtrk_ok]
    exact or_cond notdec (or_cond notdec (or_cond bne_f ⟨_, rfl, bne_f⟩))
  obtain ⟨b0, p0, q0⟩ := c0
  rw [p0, bind_some']
  cases b0 with
  | true =>
    rw [if_pos rfl]
    refine ⟨false, rfl, ?_⟩
    simp only [Bool.false_eq_true, false_iff]
    intro hh
    have a := hh.2.1.st v h0'
    have b := hh.2.1.en w hz
    have := q0.2 ⟨a.1, b.1, a.2.1, b.2⟩
    cases this
  | false =>
    rw [if_neg (by simp)]
    have q0 := q0.1 rfl
    let nx : Nat → Visit := fun i => r.getD (i + 1) (Visit.mk 0 0 0)
    let good : Nat → Visit → Prop := fun i y => (0 ≤ y.element ∧ y.element < l.length ∧ y.element ∉ elems (r.take i)) ∧ (i + 1 < r.length → y.out ∈ eI l y.element ∧ (nx i).in_ = y.out ∧ (nx i).element = nbr l y.element y.out) ∧ (0 < i → i + 1 < r.length → y.out ∈ thr l y.element y.in_)
    have hloop := first_gen (l := r) (fun i y => @decide (¬ good i y) (Classical.propDecidable _)) (fun _ _ => false) (fun m i => r27_Valid_1 N l r ((r.length - 1 : Nat) : Int) m i) (fun m => by
      show r27_Valid_1 N l r _ (m + 1) _ = _
      rw [r27_Valid_1, if_neg (lneg (by omega))]) (fun m i y hy => by
      show r27_Valid_1 N l r _ (m + 1) _ = _
      have hlt := (List.getElem?_eq_some_iff.1 hy).1
      rw [r27_Valid_1, if_pos (lpos (by omega))]
      have hte := thr_len l y.element y.in_
      have hee := eI_len l y.element
      have d2 : ∃ b, r27_Valid_2 N l r i = some b ∧ (b = false ↔ 0 ≤ y.element ∧ y.element < l.length ∧ y.element ∉ elems (r.take i)) := by
        unfold r27_Valid_2
        simp only [getI_nat hy, bind_some']
        rw [cutI_take (by omega), bind_some', visits_ok N (by rw [List.length_take]; omega) (by rw [List.length_take]; omega), bind_some']
        refine or_cond dlt_f (or_cond (p := y.element < l.length) (by simp) ⟨_, rfl, by simp⟩)
      have d3 : ∃ b, r27_Valid_3 N l r ((r.length - 1 : Nat) : Int) i = some b ∧ (b = false ↔ (i + 1 < r.length → y.out ∈ eI l y.element ∧ (nx i).in_ = y.out ∧ (nx i).element = nbr l y.element y.out)) := by
        unfold r27_Valid_3
        by_cases hh : i + 1 < r.length
        · have hx := at_lt hh
          have hgd : nx i = r[i + 1] := by show r.getD (i + 1) (Visit.mk 0 0 0) = _; simp [List.getD, hx]
          rw [if_pos (dpos (by omega)), w64s (by omega)]
          simp only [getI_nat hy, getI_nat hx, bind_some', rEnds_ok]
          rw [rHas_ok N (by omega) (by omega), rnbr_ok N (by omega) (by omega)]
          simp only [bind_some']
          obtain ⟨b, k1, k2⟩ := or_cond (a := !(eI l y.element).contains y.out) ncont (or_cond (a := r[i + 1].in_ != y.out) bne_f (x := some (r[i + 1].element != nbr l y.element y.out)) ⟨_, rfl, bne_f⟩)
          exact ⟨b, k1, by rw [k2, hgd]; simp [hh]⟩
        · rw [if_neg (dneg (by omega))]
          exact ⟨false, rfl, by simp [hh]⟩
      have d4 : ∃ b, r27_Valid_4 N l r ((r.length - 1 : Nat) : Int) i = some b ∧ (b = false ↔ (0 < i → i + 1 < r.length → y.out ∈ thr l y.element y.in_)) := by
        unfold r27_Valid_4
        by_cases hi : 0 < i
        · rw [if_pos (dpos (by omega))]
          by_cases hh : i + 1 < r.length
          · rw [if_pos (dpos (by omega))]
            simp only [getI_nat hy, bind_some']
            rw [rthr_ok N (by omega), bind_some', rHas_ok N (by omega) (by omega), bind_some']
            exact ⟨_, rfl, by rw [ncont]; simp [hi, hh]⟩
          · rw [if_neg (dneg (by omega))]
            exact ⟨false, rfl, by simp [hh]⟩
        · rw [if_neg (dneg (by omega))]
          exact ⟨false, rfl, by simp [hi]⟩
      obtain ⟨b2, r2, s2⟩ := d2
      obtain ⟨b3, r3, s3⟩ := d3
      obtain ⟨b4, r4, s4⟩ := d4
      rw [r2, bind_some']
      cases b2 with
      | true =>
        have hb : ¬ good i y := fun hh => by have := s2.2 hh.1; cases this
        rw [if_pos rfl, @decide_eq_true _ (Classical.propDecidable _) hb, if_pos rfl]
      | false =>
        rw [if_neg (by simp), r3, bind_some']
        cases b3 with
        | true =>
          have hb : ¬ good i y := fun hh => by have := s3.2 hh.2.1; cases this
          rw [if_pos rfl, @decide_eq_true _ (Classical.propDecidable _) hb, if_pos rfl]
        | false =>
          rw [if_neg (by simp), r4, bind_some']
          cases b4 with
          | true =>
            have hb : ¬ good i y := fun hh => by have := s4.2 hh.2.2; cases this
            rw [if_pos rfl, @decide_eq_true _ (Classical.propDecidable _) hb, if_pos rfl]
          | false =>
            have hb : ¬ ¬ good i y := fun hh => hh ⟨s2.1 rfl, s3.1 rfl, s4.1 rfl⟩
            rw [if_neg (by simp), @decide_eq_false _ (Classical.propDecidable _) hb, if_neg (by simp), lt_def, w64s (by omega)]) r.length N 0 (by omega) (by omega)
    simp only [Int.natCast_zero, List.drop_zero] at hloop
    rw [hloop, bind_some']
    have hiff : RtP l r ↔ ∀ (j : Nat) (y : Visit), r[j]? = some y → good j y := by
      constructor
      · rintro ⟨_, hw, hd⟩ j y hj
        have hlt := (List.getElem?_eq_some_iff.1 hj).1
        refine ⟨?_, fun hh => ?_, fun h1 h2 => hw.mid j y h1 h2 hj⟩
        · have hin : 0 ≤ y.element ∧ y.element < l.length := by
            cases j with
            | zero =>
              obtain ⟨a, x, hx, _⟩ := (hw.st y hj).1
              have := (List.getElem?_eq_some_iff.1 hx).1
              omega
            | succ j =>
              have := eI_mem (hw.ins (by omega) hj)
              exact ⟨this.1, this.2.1⟩
          refine ⟨hin.1, hin.2, fun hm => ?_⟩
          unfold elems at hm hd
          obtain ⟨z, hz, hze⟩ := List.mem_map.1 hm
          obtain ⟨i, hi⟩ := List.getElem?_of_mem hz
          rw [List.getElem?_take] at hi
          split at hi
          · rename_i hij
            obtain ⟨hil, hi⟩ := List.getElem?_eq_some_iff.1 hi
            obtain ⟨_, hj⟩ := List.getElem?_eq_some_iff.1 hj
            have := List.pairwise_iff_getElem.1 hd i j (by simpa using hil) (by simpa using hlt) hij
            rw [List.getElem_map, List.getElem_map, hi, hj] at this
            exact this hze
          · cases hi
        · have hx := at_lt hh
          have hgd : nx j = r[j + 1] := by show r.getD (j + 1) (Visit.mk 0 0 0) = _; simp [List.getD, hx]
          rw [hgd]
          obtain ⟨a, b, c⟩ := hw.step j y _ hj hx
          exact ⟨hw.outs hh hj, a, c⟩
      · intro hh
        refine ⟨h0, ⟨by omega, fun x hx => ?_, fun x hx => ?_, fun i x y hx hy => ?_, fun i x hi hi2 hx => (hh i x hx).2.2 hi hi2⟩, ?_⟩
        · have e := st' hx
          have := (hh 0 x hx).2.1 (by omega)
          rw [e] at this ⊢
          exact ⟨q0.1, q0.2.2.1, this.1⟩
        · rw [en' hx]; exact ⟨q0.2.1, q0.2.2.2⟩
        · have hlt := (List.getElem?_eq_some_iff.1 hy).1
          have := (hh i x hx).2.1 hlt
          have hgd : nx i = y := by show r.getD (i + 1) (Visit.mk 0 0 0) = _; simp [List.getD, hy]
          rw [hgd] at this
          exact ⟨this.2.1, (hh (i + 1) y hy).1.1, this.2.2⟩
        · unfold elems
          refine List.pairwise_iff_getElem.2 fun i j hi hj hij => ?_
          rw [List.getElem_map, List.getElem_map]
          intro he
          have hjr : j < r.length := by simpa using hj
          have hir : i < r.length := by simpa using hi
          refine (hh j r[j] (at_lt hjr)).1.2.2 ?_
          rw [← he]
          unfold elems
          refine List.mem_map.2 ⟨r[i], List.mem_of_getElem? (i := i) ?_, rfl⟩
          rw [List.getElem?_take, if_pos hij, at_lt hir]
    have hres := res_none (p := fun i y => @decide (¬ good i y) (Classical.propDecidable _)) (out := fun _ _ => false) (l := r) (i := 0)
    cases hr2 : res (fun i y => @decide (¬ good i y) (Classical.propDecidable _)) (fun _ _ => false) 0 r with
    | inl u =>
      refine ⟨true, rfl, ?_⟩
      simp only [true_iff]
      refine hiff.2 fun j y hj => ?_
      have := (hres.1 hr2) j y hj
      rw [Nat.zero_add] at this
      exact Classical.not_not.1 (@of_decide_eq_false _ (Classical.propDecidable _) this)
    | inr b =>
      have hbf : b = false := by
        have key : ∀ (e : List Visit) (i : Nat) (b : Bool), res (fun i y => @decide (¬ good i y) (Classical.propDecidable _)) (fun _ _ => false) i e = .inr b → b = false := by
          intro e
          induction e with
          | nil => intro i b h; cases h
          | cons y e ih =>
            intro i b h
            rw [res] at h
            split at h
            · cases h; rfl
            · exact ih _ _ h
        exact key _ _ _ hr2
      subst hbf
      refine ⟨false, rfl, ?_⟩
      simp only [Bool.false_eq_true, false_iff]
      intro hw
      have := hres.2 fun j y hj => by
        rw [Nat.zero_add]
        exact @decide_eq_false _ (Classical.propDecidable _) (fun hh => hh (hiff.1 hw j y hj))
      rw [this] at hr2; cases hr2
end Go.W
end
section
set_option linter.unusedVariables false
set_option linter.unusedSimpArgs false
namespace Go.W
open Go.AM
/-! ### Comparisons -/
def cmpR (a b : Int) : Int := if a < b then -1 else if b < a then 1 else 0
theorem cmp_ok (N : Nat) (a b : Int) : cmp_Compare_int N a b = some (cmpR a b) := by
  unfold cmp_Compare_int cmp_isNaN_int cmpR
  simp only [lt_def, bne_self_eq_false, bind_some', Bool.false_eq_true, if_false]
  by_cases h : a < b
  · rw [if_pos (dpos h), if_pos h]
  · rw [if_neg (dneg h), if_neg h]
    by_cases h2 : b < a
    · rw [if_pos (dpos h2), if_pos h2]
    · rw [if_neg (dneg h2), if_neg h2]
theorem or3_ok (N : Nat) (hN : 4 ≤ N) (a b c : Int) : cmp_Or_int N [a, b, c] = some (if a ≠ 0 then a else if b ≠ 0 then b else c) := by
  obtain ⟨M, rfl⟩ : ∃ M, N = M + 4 := ⟨N - 4, by omega⟩
  unfold cmp_Or_int
  have hl : (([a, b, c] : List Int).length : Int) = 3 := rfl
  have g0 : getI [a, b, c] 0 = some a := rfl
  have g1 : getI [a, b, c] 1 = some b := rfl
  have g2 : getI [a, b, c] 2 = some c := rfl
  have w0 : IntKind.wrap .i64 (0 + 1) = 1 := by rw [w64] <;> omega
  have w1 : IntKind.wrap .i64 (1 + 1) = 2 := by rw [w64] <;> omega
  have w2 : IntKind.wrap .i64 (2 + 1) = 3 := by rw [w64] <;> omega
  have d0 : decide ((0 : Int) < 3) = true := rfl
  have d1 : decide ((1 : Int) < 3) = true := rfl
  have d2 : decide ((2 : Int) < 3) = true := rfl
  have d3 : decide ((3 : Int) < 3) = false := rfl
  rw [hl, cmp_Or_int_0, d0, if_pos rfl, g0, bind_some']
  by_cases ha : a = 0
  · subst ha
    rw [if_neg (by simp), w0, cmp_Or_int_0, d1, if_pos rfl, g1, bind_some']
    by_cases hb : b = 0
    · subst hb
      rw [if_neg (by simp), w1, cmp_Or_int_0, d2, if_pos rfl, g2, bind_some']
      by_cases hc : c = 0
      · subst hc
        rw [if_neg (by simp), w2, cmp_Or_int_0, d3, if_neg (by simp)]
        rfl
      · rw [if_pos (by simpa using hc)]; rfl
    · rw [if_pos (by simpa using hb)]; simp [bind_some', hb]
  · rw [if_pos (by simpa using ha)]; simp [bind_some', ha]
/-- Ahead: fewer steps, then a lesser element, then a lesser node. -/
def lexLt (v1 e1 n1 v2 e2 n2 : Int) : Prop := v1 < v2 ∨ (v1 = v2 ∧ (e1 < e2 ∨ (e1 = e2 ∧ n1 < n2)))
instance (v1 e1 n1 v2 e2 n2 : Int) : Decidable (lexLt v1 e1 n1 v2 e2 n2) := by unfold lexLt; infer_instance
theorem cmpR_lt {a b : Int} (h : a < b) : cmpR a b = -1 := if_pos h
theorem cmpR_gt {a b : Int} (h : b < a) : cmpR a b = 1 := by unfold cmpR; rw [if_neg (by omega), if_pos h]
theorem cmpR_eq (a : Int) : cmpR a a = 0 := by unfold cmpR; rw [if_neg (by omega), if_neg (by omega)]
theorem lex_cmp (v1 e1 n1 v2 e2 n2 : Int) : (if cmpR v1 v2 ≠ 0 then cmpR v1 v2 else if cmpR e1 e2 ≠ 0 then cmpR e1 e2 else cmpR n1 n2) < 0 ↔ lexLt v1 e1 n1 v2 e2 n2 := by
  unfold lexLt
  rcases Int.lt_trichotomy v1 v2 with h | h | h
  · rw [cmpR_lt h]; simp [h]
  · subst h
    rw [cmpR_eq]
    simp only [ne_eq, not_true_eq_false, if_false, Int.lt_irrefl, false_or, true_and]
    rcases Int.lt_trichotomy e1 e2 with h | h | h
    · rw [cmpR_lt h]; simp [h]
    · subst h
      rw [cmpR_eq]
      simp only [ne_eq, not_true_eq_false, if_false, Int.lt_irrefl, false_or, true_and]
      rcases Int.lt_trichotomy n1 n2 with h | h | h
      · rw [cmpR_lt h]; simp [h]
      · subst h; rw [cmpR_eq]; simp
      · rw [cmpR_gt h]; simp; omega
    · rw [cmpR_gt h]; simp; omega
  · rw [cmpR_gt h]; simp; omega
structure NxI (l : List PlantElement) (d : Dst) (e : Int) (q : List Int) (out : Int) (best : Place) (found : Bool) : Prop where
  no : found = false → ∀ m ∈ q, mpGet d (beh l e m) = none
  yes : found = true → out ∈ q ∧ best = beh l e out ∧ ∃ v, mpGet d best = some v ∧ ∀ m ∈ q, ∀ w, mpGet d (beh l e m) = some w → ¬ lexLt w (nbr l e m) m v (nbr l e out) out
theorem next_loop (N : Nat) {l : List PlantElement} (hN : l.length + 10 ≤ N) (hl : l.length ≤ 1000000) {d : Dst} {e : Int} {o : List Int} (ho : o.length ≤ 1000) : ∀ (k n i : Nat) (out : Int) (best : Place) (found : Bool), k < n → i + k = o.length → NxI l d e (o.take i) out best found →
    ∃ out' best' found', route_next_0 N l d e o o.length n out best found i = some (out', best', found') ∧ NxI l d e o out' best' found'
  | k, 0, i, out, best, found, hn, _, _ => by omega
  | 0, n + 1, i, out, best, found, hn, hi, hI => by
    obtain rfl : i = o.length := by omega
    rw [route_next_0, if_neg (dneg (by omega))]
    rw [List.take_length] at hI
    exact ⟨_, _, _, rfl, hI⟩
  | k + 1, n + 1, i, out, best, found, hn, hi, hI => by
    have hlt : i < o.length := by omega
    have ha := at_lt hlt
    rw [route_next_0, if_pos (dpos (by omega))]
    have htk : o.take (i + 1) = o.take i ++ [o[i]] := take_at ha
    have key : ∃ out' best' found', route_next_1 N l d e out best found o i = some (out', best', found') ∧ NxI l d e (o.take (i + 1)) out' best' found' := by
      unfold route_next_1
      rw [getI_nat ha, bind_some', pnbr_ok N (by omega) hl, bind_some', lt_def, lt_def]
      have hb : Place.mk (nbr l e o[i]) o[i] = beh l e o[i] := rfl
      rw [hb]
      cases hg : mpGet d (beh l e o[i]) with
      | none =>
        refine ⟨out, best, found, by simp, ⟨fun hf m hm => ?_, fun hf => ?_⟩⟩
        · rw [htk] at hm
          rcases List.mem_append.1 hm with hm | hm
          · exact hI.no hf m hm
          · simp at hm; subst hm; exact hg
        · obtain ⟨a, b, v, c, dd⟩ := hI.yes hf
          refine ⟨by rw [htk]; exact List.mem_append_left _ a, b, v, c, fun m hm w hw => ?_⟩
          rw [htk] at hm
          rcases List.mem_append.1 hm with hm | hm
          · exact dd m hm w hw
          · simp at hm; subst hm; rw [hg] at hw; cases hw
      | some w =>
        simp only [Option.isSome_some, Bool.not_true, Bool.false_eq_true, if_false, Option.getD_some]
        unfold route_next_2
        have taken : (found = true → ∀ v, mpGet d best = some v → lexLt w (nbr l e o[i]) o[i] v best.element out) → NxI l d e (o.take (i + 1)) o[i] (beh l e o[i]) true := by
          intro hlex
          refine ⟨fun hf => (by cases hf), fun _ => ⟨by rw [htk]; exact List.mem_append_right _ (List.mem_singleton.2 rfl), rfl, w, hg, fun m hm w' hw' => ?_⟩⟩
          rw [htk] at hm
          rcases List.mem_append.1 hm with hm | hm
          · cases found with
            | false => have := hI.no rfl m hm; rw [hw'] at this; cases this
            | true =>
              obtain ⟨a, b, v, c, dd⟩ := hI.yes rfl
              have h1 := hlex rfl v c
              have h2 := dd m hm w' hw'
              rw [b] at h1
              have hbe : (beh l e out).element = nbr l e out := rfl
              rw [hbe] at h1
              unfold lexLt at *
              omega
          · simp at hm; subst hm; rw [hg] at hw'; cases hw'
            unfold lexLt; omega
        cases found with
        | false =>
          simp only [Bool.not_false, if_true, bind_some']
          exact ⟨_, _, _, rfl, taken (fun h => by cases h)⟩
        | true =>
          obtain ⟨a, b, v, c, dd⟩ := hI.yes rfl
          rw [if_neg (by simp), c]
          simp only [lt_def, Option.getD_some, cmp_ok, bind_some']
          rw [or3_ok N (by omega), bind_some', bind_some']
          have hbe : (beh l e o[i]).element = nbr l e o[i] := rfl
          by_cases hlex : lexLt w (nbr l e o[i]) o[i] v best.element out
          · rw [decide_eq_true ((lex_cmp w (beh l e o[i]).element o[i] v best.element out).2 (by rw [hbe]; exact hlex)), if_pos rfl]
            exact ⟨_, _, _, rfl, taken fun _ v' hv' => by rw [c] at hv'; cases hv'; exact hlex⟩
          · rw [decide_eq_false (fun hh => hlex (by rw [← hbe]; exact (lex_cmp w (beh l e o[i]).element o[i] v best.element out).1 hh)), if_neg (by simp)]
            refine ⟨out, best, true, rfl, ⟨fun hf => (by cases hf), fun _ => ⟨by rw [htk]; exact List.mem_append_left _ a, b, v, c, fun m hm w' hw' => ?_⟩⟩⟩
            rw [htk] at hm
            rcases List.mem_append.1 hm with hm | hm
            · exact dd m hm w' hw'
            · simp at hm; subst hm; rw [hg] at hw'; cases hw'
              rw [b] at hlex
              exact hlex
    obtain ⟨out', best', found', g1, g2⟩ := key
    rw [g1, bind_some']
    simp only []
    rw [w64s (by omega)]
    exact next_loop N hN hl ho k n (i + 1) _ _ _ (by omega) (by omega) g2
theorem nextR_ok (N : Nat) {l : List PlantElement} (hN : l.length + 1010 ≤ N) (hl : l.length ≤ 1000000) (d : Dst) (e : Int) {o : List Int} (ho : o.length ≤ 1000) : ∃ out best found, route_next N l d e o = some (out, best, found) ∧ NxI l d e o out best found := by
  unfold route_next
  obtain ⟨out, best, found, h1, h2⟩ := next_loop N (l := l) (d := d) (e := e) (by omega) hl ho o.length N 0 0 (Place.mk 0 0) false (by omega) (by omega) ⟨fun _ m hm => by simp at hm, fun h => by cases h⟩
  have h1 : route_next_0 N l d e o o.length N 0 (Place.mk 0 0) false 0 = some (out, best, found) := h1
  rw [h1, bind_some']
  exact ⟨_, _, _, rfl, h2⟩
/-! ### The way so far -/
structure Pth (l : List PlantElement) (fr : Int) (r : List Visit) : Prop where
  ne : 1 ≤ r.length
  st : ∀ v, r[0]? = some v → v.element = fr ∧ v.in_ = -1
  step : ∀ (i : Nat) v w, r[i]? = some v → r[i + 1]? = some w → w.in_ = v.out ∧ 0 ≤ w.element ∧ w.element = nbr l v.element v.out ∧ v.out ∈ eI l v.element
  mid : ∀ (i : Nat) v, 0 < i → i + 1 < r.length → r[i]? = some v → v.out ∈ thr l v.element v.in_
/-- One visit more. -/
theorem Pth.add {l : List PlantElement} {fr : Int} {r : List Visit} {v : Visit} {out : Int} (h : Pth l fr r) (hv : r[r.length - 1]? = some v) (h0 : 0 ≤ nbr l v.element out) (ho : out ∈ eI l v.element) (ht : 1 < r.length → out ∈ thr l v.element v.in_) :
    Pth l fr (r.set (r.length - 1) (Visit.mk v.element v.in_ out) ++ [Visit.mk (nbr l v.element out) out (-1)]) := by
  have hne := h.ne
  have hlen : (r.set (r.length - 1) (Visit.mk v.element v.in_ out)).length = r.length := List.length_set
  have get : ∀ (i : Nat) x, (r.set (r.length - 1) (Visit.mk v.element v.in_ out) ++ [Visit.mk (nbr l v.element out) out (-1)])[i]? = some x → (i + 1 < r.length ∧ r[i]? = some x) ∨ (i + 1 = r.length ∧ x = Visit.mk v.element v.in_ out) ∨ (i = r.length ∧ x = Visit.mk (nbr l v.element out) out (-1)) := by
    intro i x hx
    by_cases hi : i < r.length
    · rw [List.getElem?_append_left (by omega), List.getElem?_set] at hx
      by_cases he : r.length - 1 = i
      · rw [if_pos he, if_pos (by omega)] at hx
        exact .inr (.inl ⟨by omega, by cases hx; rfl⟩)
      · rw [if_neg he] at hx
        exact .inl ⟨by omega, hx⟩
    · rw [List.getElem?_append_right (by omega)] at hx
      have := (List.getElem?_eq_some_iff.1 hx).1
      simp at this
      have hi2 : i = r.length := by omega
      subst hi2
      rw [hlen] at hx
      simp at hx
      exact .inr (.inr ⟨rfl, hx.symm⟩)
  refine ⟨by simp, fun x hx => ?_, fun i x y hx hy => ?_, fun i x hi hi2 hx => ?_⟩
  · rcases get 0 x hx with ⟨_, a⟩ | ⟨a, rfl⟩ | ⟨a, _⟩
    · exact h.st x a
    · have : r.length - 1 = 0 := by omega
      rw [this] at hv
      have := h.st v hv
      exact this
    · omega
  · rcases get i x hx with ⟨a, b⟩ | ⟨a, rfl⟩ | ⟨a, _⟩
    · rcases get (i + 1) y hy with ⟨c, dd⟩ | ⟨c, rfl⟩ | ⟨c, _⟩
      · exact h.step i x y b dd
      · have hv' : r[i + 1]? = some v := by rw [← hv]; congr 1; omega
        exact h.step i x v b hv'
      · omega
    · rcases get (i + 1) y hy with ⟨c, _⟩ | ⟨c, _⟩ | ⟨c, rfl⟩
      · omega
      · omega
      · exact ⟨rfl, h0, rfl, ho⟩
    · rcases get (i + 1) y hy with ⟨c, _⟩ | ⟨c, _⟩ | ⟨c, _⟩ <;> omega
  · simp only [List.length_append, List.length_set, List.length_cons, List.length_nil] at hi2
    rcases get i x hx with ⟨a, b⟩ | ⟨a, rfl⟩ | ⟨a, _⟩
    · exact h.mid i x hi (by omega) b
    · exact ht (by omega)
    · omega
theorem find_loop (N : Nat) (hN : 4000 ≤ N) {l : List PlantElement} (hP : PlOk l) {d : Dst} {fr to : Int} (hD : DI l to d) : ∀ (k n : Nat) (r : List Visit) (o : List Int) (v : Visit), k < n → Pth l fr r → r[r.length - 1]? = some v →
    ((r.length = 1 ∧ o = eI l fr ∧ d.length ≤ k) ∨ (1 < r.length ∧ o = thr l v.element v.in_ ∧ ∃ w, mpGet d (Place.mk v.element v.in_) = some w ∧ w ≠ 0 ∧ w ≤ k)) → r.length + k ≤ 2000 →
    (∃ r', route_Find_1 N l d n r o = some (.inl r') ∧ Pth l fr r' ∧ 2 ≤ r'.length ∧ (∃ z, r'[r'.length - 1]? = some z ∧ z.element = to ∧ z.out = -1) ∧ r'.length ≤ 2001 ∧ ∀ m ∈ o, ∀ w, mpGet d (beh l v.element m) = some w → (r'.length : Int) ≤ r.length + 1 + w) ∨
    (route_Find_1 N l d n r o = some (.inr 15) ∧ r.length = 1 ∧ ∀ m ∈ o, mpGet d (beh l v.element m) = none)
  | k, 0, r, o, v, hn, _, _, _, _ => by omega
  | k, n + 1, r, o, v, hn, hPt, hv, hinv, hlen => by
    have hne := hPt.ne
    have hll := hP.len
    have hdl := hD.len
    have hw : IntKind.wrap .i64 ((r.length : Int) - 1) = ((r.length - 1 : Nat) : Int) := by rw [w64 (by omega) (by omega)]; omega
    have ho3 : o.length ≤ 3 := by
      rcases hinv with ⟨_, rfl, _⟩ | ⟨_, rfl, _⟩
      · exact eI_len l fr
      · exact thr_len _ _ _
    rw [route_Find_1, hw, getI_nat hv]
    simp only [bind_some']
    obtain ⟨out, best, found, h1, h2⟩ := nextR_ok N (l := l) (by omega) (by omega) d v.element (o := o) (by omega)
    rw [h1, bind_some']
    simp only []
    cases found with
    | false =>
      simp only [Bool.not_false, if_true]
      refine .inr ⟨trivial, ?_, h2.no rfl⟩
      rcases hinv with ⟨a, _⟩ | ⟨_, rfl, w, hw1, hw2, _⟩
      · exact a
      · obtain ⟨_, m, hm1, hm2⟩ := hD.pos _ w hw1 hw2
        have := h2.no rfl m hm1
        rw [this] at hm2; cases hm2
    | true =>
      obtain ⟨q1, q2, v1, q3, q4⟩ := h2.yes rfl
      rw [if_neg (by simp), lt_def]
      have hkey := hD.key best v1 q3
      rw [q2] at hkey
      have h0 : 0 ≤ nbr l v.element out := (eI_mem hkey).1
      have hv1 := hD.nonneg q3
      have hv1l := hD.val q3
      have hout : out ∈ eI l v.element := by
        rcases hinv with ⟨a, rfl, _⟩ | ⟨_, rfl, _⟩
        · have : r.length - 1 = 0 := by omega
          rw [this] at hv
          rw [(hPt.st v hv).1]; exact q1
        · exact (thr_mem q1).2
      have hPt' := hPt.add hv h0 hout (fun hh => by
        rcases hinv with ⟨a, _⟩ | ⟨_, rfl, _⟩
        · omega
        · exact q1)
      have hset : (r.set (((r.length - 1 : Nat) : Int)).toNat (Visit.mk v.element v.in_ out)) = r.set (r.length - 1) (Visit.mk v.element v.in_ out) := by rw [Int.toNat_natCast]
      have hb1 : best.element = nbr l v.element out := by rw [q2]; rfl
      have hb2 : best.in_ = out := by rw [q2]; rfl
      rw [hset, hb1, hb2, appI_ok (by simp; omega), bind_some', lt_def, q3]
      simp only [Option.getD_some]
      have hlen' : (r.set (r.length - 1) (Visit.mk v.element v.in_ out) ++ [Visit.mk (nbr l v.element out) out (-1)]).length = r.length + 1 := by simp
      have hlast : (r.set (r.length - 1) (Visit.mk v.element v.in_ out) ++ [Visit.mk (nbr l v.element out) out (-1)])[r.length + 1 - 1]? = some (Visit.mk (nbr l v.element out) out (-1)) := by
        rw [List.getElem?_append_right (by simp)]; simp
      have hmin : ∀ m ∈ o, ∀ w, mpGet d (beh l v.element m) = some w → v1 ≤ w := by
        intro m hm w hw
        have := q4 m hm w hw
        unfold lexLt at this
        omega
      by_cases hz : v1 = 0
      · rw [if_pos (by simpa using hz)]
        refine .inl ⟨_, rfl, hPt', by omega, ⟨_, by rw [hlen']; exact hlast, ?_, rfl⟩, by omega, fun m hm w hw => ?_⟩
        · have := hD.zero best (by rw [q3, hz])
          rw [hb1] at this; exact this
        · have := hmin m hm w hw
          rw [hlen']; omega
      · rw [if_neg (by simpa using hz), pthr_ok N (by omega), bind_some']
        have hk1 : v1 + 1 ≤ k := by
          rcases hinv with ⟨_, _, a⟩ | ⟨_, rfl, w, hw1, hw2, hw3⟩
          · omega
          · obtain ⟨_, m, hm1, hm2⟩ := hD.pos _ w hw1 hw2
            have := hmin m hm1 _ hm2
            omega
        cases k with
        | zero => omega
        | succ k =>
          have hbest : best = Place.mk (nbr l v.element out) out := q2
          have ih := find_loop N hN hP hD k n (r.set (r.length - 1) (Visit.mk v.element v.in_ out) ++ [Visit.mk (nbr l v.element out) out (-1)]) (thr l (nbr l v.element out) out) (Visit.mk (nbr l v.element out) out (-1)) (by omega) hPt' (by rw [hlen']; exact hlast)
            (.inr ⟨by omega, rfl, v1, by rw [← hbest]; exact q3, hz, by omega⟩) (by omega)
          rcases ih with ⟨r', g1, g2, g3, g4, g5, g6⟩ | ⟨g1, g2, _⟩
          · refine .inl ⟨r', g1, g2, g3, g4, g5, fun m hm w hw => ?_⟩
            obtain ⟨_, m0, hm1, hm2⟩ := hD.pos best v1 q3 hz
            rw [hb1, hb2] at hm1
            rw [hb1] at hm2
            have := g6 m0 hm1 _ hm2
            have := hmin m hm w hw
            omega
          · omega
/-- What Find answers for a plant with nothing wrong, with the distances that it goes by. -/
theorem find_all (N : Nat) (hN : 4000 ≤ N) {l : List PlantElement} (hP : PlOk l) (fr to : Int) :
    (route_Find N l fr to = some ([], 2) ∧ (¬ trk l fr ∨ ¬ trk l to ∨ fr = to)) ∨ (trk l fr ∧ trk l to ∧ fr ≠ to ∧ ∃ d, DI l to d ∧ (∀ m ∈ eI l to, mpGet d (Place.mk to m) = some 0) ∧ Cl l d ∧
      ((route_Find N l fr to = some ([], 15) ∧ ∀ m ∈ eI l fr, mpGet d (beh l fr m) = none) ∨ route_Find N l fr to = some ([], 17) ∨ ∃ r, route_Find N l fr to = some (r, 0) ∧ RtP l r ∧ r.length ≤ 2001 ∧ (∀ v, r[0]? = some v → v.element = fr) ∧ (∀ v, r[r.length - 1]? = some v → v.element = to) ∧ ∀ m ∈ eI l fr, ∀ w, mpGet d (beh l fr m) = some w → (r.length : Int) ≤ 2 + w)) := by
  unfold route_Find
  rw [hP.p N (by omega), bind_some', if_neg (by simp)]
  have h0 : ∃ b, route_Find_0 N l fr to = some b ∧ (b = false ↔ trk l fr ∧ trk l to ∧ fr ≠ to) := by
    unfold route_Find_0
    simp only [ptrk_ok, bind_some']
    exact or_cond notdec (or_cond notdec ⟨_, rfl, by simp⟩)
  obtain ⟨b, h1, h2⟩ := h0
  rw [h1, bind_some']
  cases b with
  | true =>
    rw [if_pos rfl]
    refine .inl ⟨rfl, ?_⟩
    by_cases a : trk l fr
    · by_cases c : trk l to
      · right; right
        by_cases e : fr = to
        · exact e
        · have := h2.2 ⟨a, c, e⟩; cases this
      · exact .inr (.inl c)
    · exact .inl a
  | false =>
    rw [if_neg (by simp)]
    obtain ⟨t1, t2, t3⟩ := h2.1 rfl
    obtain ⟨d, g1, g2, g3, g4⟩ := dist_ok N (by omega) (to := to) hP
    rw [g1, bind_some', pEnds_ok, bind_some']
    have hdl := g2.len
    have hll := hP.len
    refine .inr ⟨t1, t2, t3, d, g2, g3, g4, ?_⟩
    have hl := find_loop N hN hP (fr := fr) g2 d.length N [Visit.mk fr (-1) 0] (eI l fr) (Visit.mk fr (-1) 0) (by omega)
      ⟨by simp, fun v hv => by simp at hv; subst hv; exact ⟨rfl, rfl⟩, fun i v w hv hw => by simp at hw, fun i v hi hi2 hv => by simp at hi2⟩ (by simp) (.inl ⟨by simp, rfl, by omega⟩) (by simp; omega)
    rcases hl with ⟨r', q1, q2, q3, ⟨z, q4, q5, q6⟩, q7, q8⟩ | ⟨q1, _, q9⟩
    · rw [q1, bind_some']
      simp only []
      obtain ⟨c, c1, c2⟩ := twice_ok N (r := r') (by omega) (by omega)
      rw [c1, bind_some']
      cases c with
      | true => right; left; rw [if_pos rfl]
      | false =>
        right; right
        rw [if_neg (by simp)]
        have hfirst := at_lt (xs := r') (i := 0) (by omega)
        have hz' : ∀ v, r'[r'.length - 1]? = some v → v = z := fun v hv => by rw [q4] at hv; cases hv; rfl
        refine ⟨r', rfl, ⟨hP.err, ⟨q3, fun v hv => ?_, fun v hv => ?_, fun i v w hv hw => ?_, q2.mid⟩, c2.1 rfl⟩, q7, fun v hv => (q2.st v hv).1, fun v hv => by rw [hz' v hv]; exact q5, fun m hm w hw => by have := q8 m hm w hw; simp at this; omega⟩
        · obtain ⟨a, b⟩ := q2.st v hv
          have := q2.step 0 v _ hv (at_lt (xs := r') (i := 1) (by omega))
          exact ⟨by rw [a]; exact t1, b, this.2.2.2⟩
        · rw [hz' v hv, q5]; exact ⟨t2, q6⟩
        · obtain ⟨a, b, c, dd⟩ := q2.step i v w hv hw
          exact ⟨a, b, c⟩
    · rw [q1, bind_some']
      exact .inl ⟨rfl, q9⟩
/-- What Find answers for a plant with nothing wrong. -/
theorem find_ok (N : Nat) (hN : 4000 ≤ N) {l : List PlantElement} (hP : PlOk l) (fr to : Int) :
    (route_Find N l fr to = some ([], 2) ∧ (¬ trk l fr ∨ ¬ trk l to ∨ fr = to)) ∨ (trk l fr ∧ trk l to ∧ fr ≠ to ∧
      (route_Find N l fr to = some ([], 15) ∨ route_Find N l fr to = some ([], 17) ∨ ∃ r, route_Find N l fr to = some (r, 0) ∧ RtP l r ∧ r.length ≤ 2001 ∧ (∀ v, r[0]? = some v → v.element = fr) ∧ ∀ v, r[r.length - 1]? = some v → v.element = to)) := by
  rcases find_all N hN hP fr to with h | ⟨a, b, c, d, _, _, _, h⟩
  · exact .inl h
  · refine .inr ⟨a, b, c, ?_⟩
    rcases h with ⟨h, _⟩ | h | ⟨r, h1, h2, h3, h4, h5, _⟩
    · exact .inl h
    · exact .inr (.inl h)
    · exact .inr (.inr ⟨r, h1, h2, h3, h4, h5⟩)
end Go.W
end
section
set_option linter.unusedVariables false
set_option linter.unusedSimpArgs false
namespace Go.W
open Go.AM
/-! ### Tracks -/
def trks (l : List PlantElement) : Nat → List PlantElement → List Int
  | _, [] => []
  | i, x :: xs => if x.kind = 1 then (i : Int) :: trks l (i + 1) xs else trks l (i + 1) xs
theorem trks_len (l : List PlantElement) : ∀ (q : List PlantElement) (i : Nat), (trks l i q).length ≤ q.length
  | [], i => by simp [trks]
  | x :: q, i => by
    rw [trks]
    have := trks_len l q (i + 1)
    split <;> simp <;> omega
theorem trks_mem {l : List PlantElement} {a : Int} : ∀ {q : List PlantElement} {i : Nat}, a ∈ trks l i q → ∃ (j : Nat) (x : PlantElement), a = ((i + j : Nat) : Int) ∧ q[j]? = some x ∧ x.kind = 1
  | [], i, h => by simp [trks] at h
  | x :: q, i, h => by
    rw [trks] at h
    split at h
    · rename_i hk
      rcases List.mem_cons.1 h with rfl | h
      · exact ⟨0, x, by simp, rfl, hk⟩
      · obtain ⟨j, y, h1, h2, h3⟩ := trks_mem h
        exact ⟨j + 1, y, by rw [h1]; omega, by simpa using h2, h3⟩
    · obtain ⟨j, y, h1, h2, h3⟩ := trks_mem h
      exact ⟨j + 1, y, by rw [h1]; omega, by simpa using h2, h3⟩
theorem tracks_loop (N : Nat) {l : List PlantElement} (hl : l.length ≤ 1000000) : ∀ (k n i : Nat) (q : List Int), k < n → i + k = l.length → q.length ≤ i → yardgen_Tracks_0 N l n q i = some (q ++ trks l i (l.drop i))
  | k, 0, i, q, hn, _, _ => by omega
  | 0, n + 1, i, q, hn, hi, hq => by
    obtain rfl : i = l.length := by omega
    rw [yardgen_Tracks_0, if_neg (dneg (by omega)), List.drop_length, trks, List.append_nil]
  | k + 1, n + 1, i, q, hn, hi, hq => by
    have hlt : i < l.length := by omega
    have ha := at_lt hlt
    rw [yardgen_Tracks_0, if_pos (dpos (by omega))]
    unfold yardgen_Tracks_1
    rw [getI_nat ha, bind_some', drop_at ha, trks]
    by_cases hk : l[i].kind = 1
    · rw [if_pos (by simpa using hk), if_pos hk, appI_ok (by simp; omega), bind_some', bind_some', lt_def, w64s (by omega), tracks_loop N hl k n (i + 1) _ (by omega) (by omega) (by simp; omega)]
      simp
    · rw [if_neg (by simpa using hk), if_neg hk, bind_some', lt_def, w64s (by omega), tracks_loop N hl k n (i + 1) _ (by omega) (by omega) (by omega)]
theorem tracks_ok (N : Nat) {l : List PlantElement} (hl : l.length ≤ 1000000) (hN : l.length < N) : yardgen_Tracks N l = some (trks l 0 l) := by
  unfold yardgen_Tracks
  have h := tracks_loop N hl l.length N 0 [] hN (by omega) (by simp)
  simp only [Int.natCast_zero, List.drop_zero, List.nil_append] at h
  rw [h, bind_some']
theorem ends_ok (N : Nat) {l : List PlantElement} (hl : l.length ≤ 1000) (hN : l.length < N) (hf : ∃ x, l[0]? = some x ∧ x.kind = 1) {c : Int} {s : Maker} (hs : Mk c s) (hc : c ≤ 1000000) : ∃ a b s', l27_ends N s l = some (a, b, s') ∧ Mk (c + 2) s' ∧ trk l a ∧ trk l b := by
  unfold l27_ends
  rw [tracks_ok N (by omega) hN, bind_some']
  have hlen := trks_len l l 0
  have hpos : 0 < (trks l 0 l).length := by
    obtain ⟨x, hx, hk⟩ := hf
    cases l with
    | nil => simp at hx
    | cons y l =>
      simp at hx; subst hx
      rw [trks, if_pos hk]; simp
  have htrk : ∀ a ∈ trks l 0 l, trk l a := by
    intro a ha
    obtain ⟨j, x, h1, h2, h3⟩ := trks_mem ha
    rw [Nat.zero_add] at h1
    subst h1
    exact ⟨by omega, x, by simpa using h2, h3⟩
  generalize trks l 0 l = t at *
  obtain ⟨r, s1, h1, h2, h3, h4⟩ := next_ok N (s := s) (c := c) (t.length : Int) (by omega) (by omega) hs (by omega)
  obtain ⟨q, rfl⟩ := Int.eq_ofNat_of_zero_le h2
  have hq : q < t.length := by omega
  rw [h1, bind_some']
  simp only []
  rw [getI_nat (at_lt hq), bind_some', bind_some']
  have hm : IntKind.wrap .i64 ((t.length : Int) - 1) = (t.length : Int) - 1 := w64 (by omega) (by omega)
  obtain ⟨y, s2, g1, g2, g3, g4⟩ := next_ok N (s := s1) (c := c + 1) (max 1 ((t.length : Int) - 1)) (by omega) (by omega) h4 (by omega)
  rw [hm, g1, bind_some']
  simp only []
  rw [w64s (by omega)]
  obtain ⟨y, rfl⟩ := Int.eq_ofNat_of_zero_le g2
  rw [w64 (by omega) (by omega)]
  have hmod : modI (((q + 1 : Nat) : Int) + (y : Int)) (t.length : Int) = some (((q + 1 + y) % t.length : Nat) : Int) := by
    unfold modI
    rw [if_neg (by omega), Int.tmod_eq_emod_of_nonneg (by omega)]
    congr 1
  have hlt2 : (q + 1 + y) % t.length < t.length := Nat.mod_lt _ hpos
  rw [hmod, bind_some', getI_nat (at_lt hlt2), bind_some', bind_some']
  exact ⟨_, _, _, rfl, g4.le (by omega), htrk _ (List.getElem_mem hq), htrk _ (List.getElem_mem hlt2)⟩
/-! ### The law -/
theorem finds_one (N : Nat) (hN : 4000 ≤ N) {l : List PlantElement} (hP : MadeP l) {c : Int} {s : Maker} (hs : Mk c s) (hc : c ≤ 1000000) : ∃ s', l27_RouteFinds_1 N s l = some (.inl s') ∧ Mk (c + 2) s' := by
  have hll := hP.ok.len
  unfold l27_RouteFinds_1
  obtain ⟨a, b, s', h1, h2, h3, h4⟩ := ends_ok N (l := l) (by omega) (by omega) hP.fst hs hc
  rw [h1, bind_some']
  simp only []
  rcases find_ok N hN hP.ok a b with ⟨g1, g2⟩ | ⟨t1, t2, t3, g⟩
  · have hab : a = b := by
      rcases g2 with g2 | g2 | g2
      · exact absurd h3 g2
      · exact absurd h4 g2
      · exact g2
    rw [g1, bind_some', if_pos (by simpa using hab), if_neg (by simp)]
    exact ⟨s', rfl, h2⟩
  · have hne : ¬ (a == b) = true := by simpa using t3
    rcases g with g | g | ⟨r, g1, g2, g3, g4, g5⟩
    · rw [g, bind_some', if_neg hne, if_pos (by simp)]
      exact ⟨s', rfl, h2⟩
    · rw [g, bind_some', if_neg hne, if_pos (by simp)]
      exact ⟨s', rfl, h2⟩
    · rw [g1, bind_some', if_neg hne, if_neg (by simp)]
      have htwo := g2.2.1.two
      have h0 := at_lt (xs := r) (i := 0) (by omega)
      have hz := at_lt (xs := r) (i := r.length - 1) (by omega)
      have e0 := g4 _ h0
      have ez := g5 _ hz
      have hw : IntKind.wrap .i64 ((r.length : Int) - 1) = ((r.length - 1 : Nat) : Int) := by rw [w64 (by omega) (by omega)]; omega
      obtain ⟨b1, p1, p2⟩ := pVal_ok N (l := l) (r := r) (by omega) (by omega) (by omega) fun _ x hx => .inl (soundP_ends (hP.ok.snd x hx)).2.2.1
      obtain ⟨b2, r1, r2⟩ := rVal_ok N (l := l) (r := r) (by omega) (by omega) (by omega) fun _ x hx => by
        have h1 := (soundP_ends (hP.ok.snd x hx)).2.2.2
        unfold pnOk at h1
        simp only [Bool.and_eq_true, decide_eq_true_eq] at h1
        omega
      have hb1 := p2.2 g2
      have hb2 := r2.2 g2
      have h3 : l27_RouteFinds_3 N l a b r = some false := by
        unfold l27_RouteFinds_3
        have hg0 : getI r 0 = some (r[0]'(by omega)) := getI_nat h0
        rw [if_neg (dneg (by omega)), hg0, bind_some', bind_some', if_neg (by rw [e0]; simp), hw, getI_nat hz, bind_some', bind_some', if_neg (by rw [ez]; simp), p1, bind_some', hb1, if_neg (by simp), r1, bind_some', hb2]
        rfl
      rw [h3, bind_some', if_neg (by simp)]
      exact ⟨s', rfl, h2⟩
theorem finds_loop (N : Nat) (hN : 4000 ≤ N) {l : List PlantElement} (hP : MadeP l) : ∀ (k n i : Nat) (c : Int) (s : Maker), k < n → i + k = 4 → Mk c s → c + 2 * k ≤ 1000000 → l27_RouteFinds_0 N l n s i = some (.inl ())
  | k, 0, i, c, s, hn, _, _, _ => by omega
  | 0, n + 1, i, c, s, hn, hi, hs, hc => by
    obtain rfl : i = 4 := by omega
    rw [l27_RouteFinds_0, if_neg (dneg (by omega))]
  | k + 1, n + 1, i, c, s, hn, hi, hs, hc => by
    obtain ⟨s', h1, h2⟩ := finds_one N hN hP hs (by omega)
    rw [l27_RouteFinds_0, if_pos (dpos (by omega)), h1, bind_some']
    simp only [lt_def]
    rw [w64s (by omega)]
    exact finds_loop N hN hP k n (i + 1) (c + 2) s' (by omega) (by omega) h2 (by omega)
/-- What Find returns is a route. -/
theorem rfindsT (t : List Int) : ∃ N, l27_RouteFinds N t = some true := by
  refine ⟨4000, ?_⟩
  unfold l27_RouteFinds gen_New
  rw [bind_some']
  obtain ⟨l, s, h1, h2, h3⟩ := plant_ok 4000 (by omega) (mk0 t) (k := 18) (by omega)
  rw [h1, bind_some']
  simp only []
  have := finds_loop 4000 (by omega) h3 4 4000 0 30000 s (by omega) (by omega) h2 (by omega)
  have this : l27_RouteFinds_0 4000 l 4000 s 0 = some (.inl ()) := this
  rw [this, bind_some']
  simp only []
  rw [sane27' (by omega), bind_some']
end Go.W
end
section
set_option linter.unusedVariables false
set_option linter.unusedSimpArgs false
namespace Go.W
open Go.AM
/-! ### Walks and distances -/
theorem walk_dist {l : List PlantElement} (hP : PlOk l) {to : Int} {d : Dst} (hz : ∀ m ∈ eI l to, mpGet d (Place.mk to m) = some 0) (hC : Cl l d) {w : List Visit} (hW : WayP l w) (he : ∀ v, w[w.length - 1]? = some v → v.element = to) :
    ∀ (k i : Nat) (v : Visit), i + k = w.length - 1 → 1 ≤ i → w[i]? = some v → ∃ x, mpGet d (Place.mk v.element v.in_) = some x ∧ x ≤ k
  | 0, i, v, hi, h1, hv => by
    have hi' : i = w.length - 1 := by omega
    have hel := he v (by rw [← hi']; exact hv)
    have hin := hW.ins (by omega) hv
    rw [hel] at hin
    exact ⟨0, by rw [hel]; exact hz _ hin, by omega⟩
  | k + 1, i, v, hi, h1, hv => by
    have htwo := hW.two
    have hu := at_lt (xs := w) (i := i + 1) (by omega)
    obtain ⟨x, hx, hx2⟩ := walk_dist hP hz hC hW he k (i + 1) _ (by omega) (by omega) hu
    obtain ⟨a, b, c⟩ := hW.step i v _ hv hu
    have hout := hW.outs (by omega) hv
    have hsym := hP.nbr_sym hout (by rw [← c]; exact b)
    have hmid := hP.thr_sym (hW.mid i v (by omega) (by omega) hv)
    obtain ⟨y, hy, hy2⟩ := hC _ x hx v.in_ (by simp only [c, a, hsym]; exact hmid.1)
    simp only [c, a, hsym] at hy
    exact ⟨y, hy, by omega⟩
/-- Find finds a route no longer than a walk, or meets a track twice. -/
theorem find_short (N : Nat) (hN : 4000 ≤ N) {l : List PlantElement} (hP : PlOk l) {fr to : Int} {w : List Visit} (hW : WayP l w) (hf : ∀ v, w[0]? = some v → v.element = fr) (he : ∀ v, w[w.length - 1]? = some v → v.element = to) (hne : fr ≠ to) :
    route_Find N l fr to = some ([], 17) ∨ ∃ r, route_Find N l fr to = some (r, 0) ∧ RtP l r ∧ r.length ≤ w.length ∧ (∀ v, r[0]? = some v → v.element = fr) ∧ ∀ v, r[r.length - 1]? = some v → v.element = to := by
  have htwo := hW.two
  have h0 := at_lt (xs := w) (i := 0) (by omega)
  have h1 := at_lt (xs := w) (i := 1) (by omega)
  have hz := at_lt (xs := w) (i := w.length - 1) (by omega)
  obtain ⟨s1, s2, s3⟩ := hW.st _ h0
  have e1 := (hW.en _ hz).1
  rw [hf _ h0] at s1 s3
  rw [he _ hz] at e1
  rcases find_all N hN hP fr to with ⟨_, h⟩ | ⟨a, b, c, d, g1, g2, g3, g⟩
  · rcases h with h | h | h
    · exact absurd s1 h
    · exact absurd e1 h
    · exact absurd h hne
  · obtain ⟨x, hx, hx2⟩ := walk_dist hP g2 g3 hW he (w.length - 2) 1 _ (by omega) (by omega) h1
    obtain ⟨p, q, r⟩ := hW.step 0 _ _ h0 h1
    have hb : Place.mk (w[1]'(by omega)).element (w[1]'(by omega)).in_ = beh l fr (w[0]'(by omega)).out := by
      unfold beh
      rw [r, p, hf _ h0]
    rw [hb] at hx
    rcases g with ⟨_, g⟩ | g | ⟨t, t1, t2, t3, t4, t5, t6⟩
    · rw [g _ s3] at hx; cases hx
    · exact .inl g
    · exact .inr ⟨t, t1, t2, by have := t6 _ s3 x hx; omega, t4, t5⟩
/-! ### The walk that the law takes -/
theorem endsP_two {x : PlantElement} (h : endsP x ≠ []) : 2 ≤ (endsP x).length := by
  unfold endsP at *
  split
  · simp
  · split
    · simp
    · rename_i h1 h2
      rw [if_neg h1, if_neg h2] at h; exact absurd rfl h
theorem thr_pos {l : List PlantElement} (hP : PlOk l) {i n : Int} (h : n ∈ eI l i) : 0 < (thr l i n).length := by
  obtain ⟨h0, h1, x, hx, hn⟩ := eI_mem h
  obtain ⟨j, rfl⟩ := Int.eq_ofNat_of_zero_le h0
  rw [Int.toNat_natCast] at hx
  have h2 := endsP_two (soundP_ends (hP.snd x (List.mem_of_getElem? hx))).2.2.1
  unfold thr thrE
  rw [eI_nat hx, if_pos (by simpa using hn)]
  split
  · rw [List.length_tail]; omega
  · rw [List.length_take]; omega
structure WkI (l : List PlantElement) (w : List Visit) (v : Visit) : Prop where
  ne : 1 ≤ w.length
  last : w[w.length - 1]? = some v
  st : ∀ v, w[0]? = some v → trk l v.element ∧ v.in_ = -1 ∧ v.out ∈ eI l v.element
  out : v.out ∈ eI l v.element
  step : ∀ (i : Nat) v w', w[i]? = some v → w[i + 1]? = some w' → w'.in_ = v.out ∧ 0 ≤ w'.element ∧ w'.element = nbr l v.element v.out
  mid : ∀ (i : Nat) v, 0 < i → w[i]? = some v → v.out ∈ thr l v.element v.in_
theorem app_at {α : Type} {w : List α} {y : α} {i : Nat} {x : α} (h : (w ++ [y])[i]? = some x) : (i < w.length ∧ w[i]? = some x) ∨ (i = w.length ∧ x = y) := by
  by_cases hi : i < w.length
  · rw [List.getElem?_append_left hi] at h; exact .inl ⟨hi, h⟩
  · have := (List.getElem?_eq_some_iff.1 h).1
    simp at this
    have : i = w.length := by omega
    subst this
    simp at h
    exact .inr ⟨rfl, h.symm⟩
theorem WkI.step' {l : List PlantElement} {w : List Visit} {v y : Visit} (h : WkI l w v) (h1 : y.in_ = v.out) (h0 : 0 ≤ nbr l v.element v.out) (h2 : y.element = nbr l v.element v.out) : ∀ (i : Nat) a b, (w ++ [y])[i]? = some a → (w ++ [y])[i + 1]? = some b → b.in_ = a.out ∧ 0 ≤ b.element ∧ b.element = nbr l a.element a.out := by
  intro i a b ha hb
  rcases app_at hb with ⟨p, q⟩ | ⟨p, rfl⟩
  · rcases app_at ha with ⟨r, s⟩ | ⟨r, _⟩
    · exact h.step i a b s q
    · omega
  · rcases app_at ha with ⟨r, s⟩ | ⟨r, _⟩
    · have := h.last
      rw [show w.length - 1 = i by omega, s] at this
      cases this
      exact ⟨h1, by rw [h2]; exact h0, h2⟩
    · omega
theorem WkI.st' {l : List PlantElement} {w : List Visit} {v y : Visit} (h : WkI l w v) : ∀ a, (w ++ [y])[0]? = some a → trk l a.element ∧ a.in_ = -1 ∧ a.out ∈ eI l a.element := by
  intro a ha
  rcases app_at ha with ⟨_, q⟩ | ⟨p, _⟩
  · exact h.st a q
  · have := h.ne; omega
theorem WkI.add {l : List PlantElement} {w : List Visit} {v : Visit} {o : Int} (h : WkI l w v) (h0 : 0 ≤ nbr l v.element v.out) (ho : o ∈ thr l (nbr l v.element v.out) v.out) : WkI l (w ++ [Visit.mk (nbr l v.element v.out) v.out o]) (Visit.mk (nbr l v.element v.out) v.out o) where
  ne := by simp
  last := by simp
  st := h.st'
  out := (thr_mem ho).2
  step := h.step' rfl h0 rfl
  mid := fun i a hi ha => by
    rcases app_at ha with ⟨_, q⟩ | ⟨_, rfl⟩
    · exact h.mid i a hi q
    · exact ho
theorem WkI.fin {l : List PlantElement} {w : List Visit} {v : Visit} (h : WkI l w v) (h0 : 0 ≤ nbr l v.element v.out) (ht : trk l (nbr l v.element v.out)) : WayP l (w ++ [Visit.mk (nbr l v.element v.out) v.out (-1)]) where
  two := by have := h.ne; simp; omega
  st := h.st'
  en := fun a ha => by simp at ha; subst ha; exact ⟨ht, rfl⟩
  step := h.step' rfl h0 rfl
  mid := fun i a hi hi2 ha => by
    rcases app_at ha with ⟨_, q⟩ | ⟨p, _⟩
    · exact h.mid i a hi q
    · simp at hi2; omega
theorem trk_lt {l : List PlantElement} {i n : Int} (h : 0 ≤ nbr l i n) : nbr l i n < l.length := by
  rcases nbr_spec l i n with ⟨a, _⟩ | ⟨j, x, a, b, _⟩
  · omega
  · have := (List.getElem?_eq_some_iff.1 b).1
    omega
theorem walk1 (N : Nat) (hN : 4000 ≤ N) {l : List PlantElement} (hP : PlOk l) {c : Int} {s : Maker} (hs : Mk c s) (hc : c ≤ 1000000) {e n : Int} (h0 : 0 ≤ e) (h1 : e < l.length) {o : List Int} (ho : 0 < o.length) : ∃ b s', yardgen_Walk_1 N s l e o = some (s', b) ∧ Mk (c + 1) s' ∧ (b = true → trk l e) := by
  have hll := hP.len
  obtain ⟨j, rfl⟩ := Int.eq_ofNat_of_zero_le h0
  have hj := at_lt (xs := l) (i := j) (by omega)
  have g0 : getI o 0 = some o[0] := getI_nat (at_lt (xs := o) (i := 0) ho)
  unfold yardgen_Walk_1
  rw [getI_nat hj, bind_some']
  by_cases hk : l[j].kind = 1
  · have ht : trk l (j : Int) := ⟨by omega, _, hj, hk⟩
    rw [if_pos (by simpa using hk)]
    obtain ⟨r, s', p1, p2, p3, p4⟩ := next_ok N (s := s) (c := c) 2 (by omega) (by omega) hs (by omega)
    rw [p1, bind_some']
    by_cases hr : r = 0
    · rw [if_pos (by simpa using hr)]; exact ⟨_, _, rfl, p4, fun _ => ht⟩
    · rw [if_neg (by simpa using hr), g0, bind_some', bind_some', rnbr_ok N (by omega) (by omega), bind_some']
      exact ⟨_, _, rfl, p4, fun _ => ht⟩
  · rw [if_neg (by simpa using hk)]
    exact ⟨_, _, rfl, hs.le (by omega), fun h => by cases h⟩
theorem walk_loop (N : Nat) (hN : 4000 ≤ N) {l : List PlantElement} (hP : PlOk l) : ∀ (k n i : Nat) (c : Int) (s : Maker) (v : Visit) (w : List Visit), k < n → i + k = 12 → Mk c s → c + 2 * k ≤ 1000000 → WkI l w v → w.length = i + 1 →
    ∃ s' w', (yardgen_Walk_0 N l n s v w i = some (.inl (s', w')) ∨ yardgen_Walk_0 N l n s v w i = some (.inr (s', w'))) ∧ Mk (c + 2 * k) s' ∧ 1 ≤ w'.length ∧ w'.length ≤ 13 ∧ (WayP l w' ∨ ∀ v, w'[w'.length - 1]? = some v → v.out ≠ -1)
  | k, 0, i, c, s, v, w, hn, _, _, _, _, _ => by omega
  | k, n + 1, i, c, s, v, w, hn, hi, hs, hc, hI, hl => by
    have hll := hP.len
    have stop : ∀ v', w[w.length - 1]? = some v' → v'.out ≠ -1 := fun v' hv' => by
      rw [hI.last] at hv'; cases hv'
      obtain ⟨_, _, x, hx, hn⟩ := eI_mem hI.out
      have := (soundP_ends (hP.snd x (List.mem_of_getElem? hx))).2.1 _ hn
      omega
    cases k with
    | zero =>
      rw [yardgen_Walk_0, if_neg (dneg (by omega))]
      exact ⟨s, w, .inl rfl, hs.le (by omega), by omega, by omega, .inr stop⟩
    | succ k =>
      rw [yardgen_Walk_0, if_pos (dpos (by omega)), rnbr_ok N (by omega) (by omega), bind_some']
      by_cases h0 : nbr l v.element v.out < 0
      · rw [if_pos (dpos h0)]
        exact ⟨s, w, .inl rfl, hs.le (by omega), by omega, by omega, .inr stop⟩
      · rw [if_neg (dneg h0), rthr_ok N (by omega), bind_some']
        have h0' : 0 ≤ nbr l v.element v.out := by omega
        have hpos := thr_pos hP (nbr_mem h0').1
        have h3 := thr_len l (nbr l v.element v.out) v.out
        obtain ⟨b, s1, q1, q2, q3⟩ := walk1 N hN hP hs (by omega) h0' (trk_lt h0') (n := v.out) hpos
        rw [q1, bind_some']
        simp only []
        cases b with
        | true =>
          rw [if_pos rfl, appI_ok (by simp; omega), bind_some']
          exact ⟨_, _, .inr rfl, q2.le (by omega), by simp, by simp; omega, .inl (hI.fin h0' (q3 rfl))⟩
        | false =>
          rw [if_neg (by simp)]
          obtain ⟨r, s2, p1, p2, p3, p4⟩ := next_ok N (s := s1) (c := c + 1) ((thr l (nbr l v.element v.out) v.out).length : Int) (by omega) (by omega) q2 (by omega)
          obtain ⟨r, rfl⟩ := Int.eq_ofNat_of_zero_le p2
          have hr := at_lt (xs := thr l (nbr l v.element v.out) v.out) (i := r) (by omega)
          rw [p1, bind_some']
          simp only []
          rw [getI_nat hr, bind_some', bind_some', appI_ok (by simp; omega), bind_some', lt_def, w64s (by omega)]
          have hI' := hI.add h0' (List.mem_of_getElem? hr)
          obtain ⟨s', w', g1, g2, g3, g4, g5⟩ := walk_loop N hN hP k n (i + 1) (c + 1 + 1) s2 _ _ (by omega) (by omega) p4 (by omega) hI' (by simp; omega)
          exact ⟨s', w', g1, g2.le (by omega), g3, g4, g5⟩
theorem walk_ok (N : Nat) (hN : 4000 ≤ N) {l : List PlantElement} (hP : MadeP l) {c : Int} {s : Maker} (hs : Mk c s) (hc : c ≤ 900000) :
    ∃ w s', yardgen_Walk N s l = some (w, s') ∧ Mk (c + 30) s' ∧ 1 ≤ w.length ∧ w.length ≤ 13 ∧ (WayP l w ∨ ∀ v, w[w.length - 1]? = some v → v.out ≠ -1) := by
  have hll := hP.ok.len
  unfold yardgen_Walk
  rw [tracks_ok N (by omega) (by omega), bind_some']
  have hlen := trks_len l l 0
  have hpos : 0 < (trks l 0 l).length := by
    obtain ⟨x, hx, hk⟩ := hP.fst
    cases l with
    | nil => simp at hx
    | cons y l =>
      simp at hx; subst hx
      rw [trks, if_pos hk]; simp
  have htrk : ∀ a ∈ trks l 0 l, trk l a := by
    intro a ha
    obtain ⟨j, x, h1, h2, h3⟩ := trks_mem ha
    rw [Nat.zero_add] at h1
    subst h1
    exact ⟨by omega, x, by simpa using h2, h3⟩
  obtain ⟨r, s1, p1, p2, p3, p4⟩ := next_ok N (s := s) (c := c) ((trks l 0 l).length : Int) (by omega) (by omega) hs (by omega)
  obtain ⟨r, rfl⟩ := Int.eq_ofNat_of_zero_le p2
  have hr := at_lt (xs := trks l 0 l) (i := r) (by omega)
  have ht := htrk _ (List.mem_of_getElem? hr)
  rw [p1, bind_some']
  simp only []
  rw [getI_nat hr, bind_some', bind_some', rEnds_ok, bind_some']
  generalize (trks l 0 l)[r]'(by omega) = e at *
  have hpos2 : 0 < (eI l e).length := by
    obtain ⟨a, x, b, cc⟩ := ht
    unfold eI
    rw [if_pos a, b]
    simp [endsP, cc]
  have h3 := eI_len l e
  obtain ⟨q, s2, q1, q2, q3, q4⟩ := next_ok N (s := s1) (c := c + 1) ((eI l e).length : Int) (by omega) (by omega) p4 (by omega)
  obtain ⟨q, rfl⟩ := Int.eq_ofNat_of_zero_le q2
  have hq := at_lt (xs := eI l e) (i := q) (by omega)
  rw [q1, bind_some']
  simp only []
  rw [getI_nat hq, bind_some', bind_some']
  have hmem := List.mem_of_getElem? hq
  generalize (eI l e)[q]'(by omega) = o at *
  have hI : WkI l [Visit.mk e (-1) o] (Visit.mk e (-1) o) := ⟨by simp, by simp, fun v hv => by simp at hv; subst hv; exact ⟨ht, rfl, hmem⟩, hmem, fun i v w hv hw => by simp at hw, fun i v hi hv => by
    have := (List.getElem?_eq_some_iff.1 hv).1
    simp at this; omega⟩
  obtain ⟨s', w', g1, g2, g3, g4, g5⟩ := walk_loop N hN hP.ok 12 N 0 (c + 1 + 1) s2 _ _ (by omega) (by omega) q4 (by omega) hI rfl
  refine ⟨w', s', ?_, g2.le (by omega), g3, g4, g5⟩
  rcases g1 with g1 | g1
  · have g1 : yardgen_Walk_0 N l N s2 (Visit.mk e (-1) o) [Visit.mk e (-1) o] 0 = some (.inl (s', w')) := g1
    rw [g1]; rfl
  · have g1 : yardgen_Walk_0 N l N s2 (Visit.mk e (-1) o) [Visit.mk e (-1) o] 0 = some (.inr (s', w')) := g1
    rw [g1]; rfl
/-! ### The law -/
theorem vals_eq (N : Nat) (hN : 4000 ≤ N) {l : List PlantElement} (hP : PlOk l) {w : List Visit} (hw : w.length ≤ 3000) : ∃ b, route_Valid N l w = some b ∧ r27_Valid N l w = some b ∧ (b = true ↔ RtP l w) := by
  have hll := hP.len
  obtain ⟨b1, p1, p2⟩ := pVal_ok N (l := l) (r := w) (by omega) (by omega) (by omega) fun _ x hx => .inl (soundP_ends (hP.snd x hx)).2.2.1
  obtain ⟨b2, r1, r2⟩ := rVal_ok N (l := l) (r := w) (by omega) (by omega) (by omega) fun _ x hx => by
    have h1 := (soundP_ends (hP.snd x hx)).2.2.2
    unfold pnOk at h1
    simp only [Bool.and_eq_true, decide_eq_true_eq] at h1
    omega
  have : b1 = b2 := Bool.eq_iff_iff.2 (p2.trans r2.symm)
  exact ⟨b1, p1, by rw [this]; exact r1, p2⟩
theorem short_one (N : Nat) (hN : 4000 ≤ N) {l : List PlantElement} (hP : MadeP l) {c : Int} {s : Maker} (hs : Mk c s) (hc : c ≤ 900000) : ∃ s', l27_RouteShortest_1 N s l = some (.inl s') ∧ Mk (c + 30) s' := by
  have hll := hP.ok.len
  unfold l27_RouteShortest_1
  obtain ⟨w, s', h1, h2, h3, h4, h5⟩ := walk_ok N hN hP hs hc
  rw [h1, bind_some']
  simp only [lt_def]
  by_cases hn : w.length < 2
  · have : l27_RouteShortest_2 N l w w.length = some true := by
      unfold l27_RouteShortest_2
      rw [if_pos (dpos (by omega))]
    rw [this, bind_some', if_pos rfl]
    exact ⟨s', rfl, h2⟩
  have h0 := at_lt (xs := w) (i := 0) (by omega)
  have hz := at_lt (xs := w) (i := w.length - 1) (by omega)
  have hw1 : IntKind.wrap .i64 ((w.length : Int) - 1) = ((w.length - 1 : Nat) : Int) := by rw [w64 (by omega) (by omega)]; omega
  generalize hv0 : w[0]'(by omega) = v at h0
  generalize hvz : w[w.length - 1]'(by omega) = z at hz
  have g0 : getI w 0 = some v := getI_nat h0
  have gz : getI w ((w.length - 1 : Nat) : Int) = some z := getI_nat hz
  rw [hw1, g0, gz]
  rcases h5 with h5 | h5
  · obtain ⟨e1, e2⟩ := h5.en z hz
    obtain ⟨e3, x, e4, e5⟩ := e1
    obtain ⟨j, hj⟩ := Int.eq_ofNat_of_zero_le e3
    have gx : getI l z.element = some x := by rw [hj] at e4 ⊢; rw [Int.toNat_natCast] at e4; exact getI_nat e4
    have h2' : l27_RouteShortest_2 N l w w.length = some (v.element == z.element) := by
      unfold l27_RouteShortest_2
      rw [if_neg (dneg (by omega)), hw1]
      simp only [g0, gz, bind_some', e2, gx, e5]
      rfl
    rw [h2', bind_some']
    by_cases he : v.element = z.element
    · rw [if_pos (by simpa using he)]
      exact ⟨s', rfl, h2⟩
    · rw [if_neg (by simpa using he)]
      simp only [bind_some']
      obtain ⟨b, b1, b2, b3⟩ := vals_eq N hN hP.ok (w := w) (by omega)
      have fin : ∀ (r : List Visit) (e : Int), (e = 0 ∨ e = 17) → r.length ≤ w.length → l27_RouteShortest_3 N l w w.length r e = some false := by
        intro r e he hr
        unfold l27_RouteShortest_3
        have : ¬ decide ((w.length : Int) < (r.length : Int)) = true := dneg (by omega)
        rcases he with rfl | rfl
        · rw [if_neg (by simp), if_neg this, b2, b1]
          cases b <;> rfl
        · rw [if_pos (by simp), if_neg (by simp), if_neg this, b2, b1]
          cases b <;> rfl
      rcases find_short N hN hP.ok h5 (fr := v.element) (to := z.element) (fun a ha => by rw [h0] at ha; cases ha; rfl) (fun a ha => by rw [hz] at ha; cases ha; rfl) he with g | ⟨r, g, _, g2, _⟩
      · rw [g, bind_some', fin _ _ (.inr rfl) (by simp), bind_some', if_neg (by simp)]
        exact ⟨s', rfl, h2⟩
      · rw [g, bind_some', fin _ _ (.inl rfl) g2, bind_some', if_neg (by simp)]
        exact ⟨s', rfl, h2⟩
  · have hne := h5 z hz
    have h2' : l27_RouteShortest_2 N l w w.length = some true := by
      unfold l27_RouteShortest_2
      rw [if_neg (dneg (by omega)), hw1]
      simp only [gz, bind_some']
      rw [if_pos (by simpa using hne)]
    rw [h2', bind_some', if_pos rfl]
    exact ⟨s', rfl, h2⟩
theorem short_loop (N : Nat) (hN : 4000 ≤ N) {l : List PlantElement} (hP : MadeP l) : ∀ (k n i : Nat) (c : Int) (s : Maker), k < n → i + k = 6 → Mk c s → c + 30 * k ≤ 900000 → l27_RouteShortest_0 N l n s i = some (.inl ())
  | k, 0, i, c, s, hn, _, _, _ => by omega
  | 0, n + 1, i, c, s, hn, hi, hs, hc => by
    obtain rfl : i = 6 := by omega
    rw [l27_RouteShortest_0, if_neg (dneg (by omega))]
  | k + 1, n + 1, i, c, s, hn, hi, hs, hc => by
    obtain ⟨s', h1, h2⟩ := short_one N hN hP hs (by omega)
    rw [l27_RouteShortest_0, if_pos (dpos (by omega)), h1, bind_some']
    simp only [lt_def]
    rw [w64s (by omega)]
    exact short_loop N hN hP k n (i + 1) (c + 30) s' (by omega) (by omega) h2 (by omega)
/-- No walk between two tracks is shorter than what Find returns. -/
theorem rshortT (t : List Int) : ∃ N, l27_RouteShortest N t = some true := by
  refine ⟨4000, ?_⟩
  unfold l27_RouteShortest gen_New
  rw [bind_some']
  obtain ⟨l, s, h1, h2, h3⟩ := plant_ok 4000 (by omega) (mk0 t) (k := 18) (by omega)
  rw [h1, bind_some']
  simp only []
  have := short_loop 4000 (by omega) h3 6 4000 0 30000 s (by omega) (by omega) h2 (by omega)
  have this : l27_RouteShortest_0 4000 l 4000 s 0 = some (.inl ()) := this
  rw [this, bind_some']
  simp only []
  rw [sane27' (by omega), bind_some']
end Go.W
end
section
set_option linter.unusedVariables false
set_option linter.unusedSimpArgs false
namespace Go.W
open Go.AM
abbrev SDst := List (Step × Int)
def gS (d : SDst) (i n : Int) : Option Int := mpGet d (Step.mk i n)
theorem gS_set (d : SDst) (i n v i' n' : Int) : gS (mpSet d (Step.mk i n) v) i' n' = if i = i' ∧ n = n' then some v else gS d i' n' := by
  unfold gS
  rw [mpGet_set]
  by_cases h : i = i' ∧ n = n'
  · obtain ⟨rfl, rfl⟩ := h; simp
  · rw [if_neg h, if_neg (fun hh => h (by cases hh; exact ⟨rfl, rfl⟩))]
theorem mpSet_old {α β : Type} [DecidableEq α] : ∀ {m : List (α × β)} {k : α} {v w : β}, mpGet m k = some w → (mpSet m k v).map Prod.fst = m.map Prod.fst
  | [], k, v, w, h => by simp [mpGet] at h
  | p :: m, k, v, w, h => by
    simp only [mpGet] at h
    split at h
    · rename_i hk
      rw [mpSet, if_pos hk]; simp
    · rename_i hk
      rw [mpSet, if_neg hk]; simp [mpSet_old h]
structure RI (l : List PlantElement) (to : Int) (d : SDst) : Prop where
  key : ∀ i n v, gS d i n = some v → n ∈ eI l i
  toz : ∀ n v, gS d to n = some v → v = 0
  pos : ∀ i n v, i ≠ to → gS d i n = some v → 0 < v ∧ ∃ m ∈ thr l i n, ∃ w, gS d (nbr l i m) m = some w ∧ w < v
  val : ∀ i n v, gS d i n = some v → v < d.length
  keys : (d.map Prod.fst).Nodup
theorem RI.nonneg {l : List PlantElement} {to : Int} {d : SDst} (h : RI l to d) {i n v : Int} (hg : gS d i n = some v) : 0 ≤ v := by
  by_cases hi : i = to
  · subst hi; have := h.toz n v hg; omega
  · have := (h.pos i n v hi hg).1; omega
theorem RI.len {l : List PlantElement} {to : Int} {d : SDst} (h : RI l to d) : d.length ≤ 3 * l.length := by
  have hm : ((d.map Prod.fst).map fun s => Place.mk s.element s.in_).Nodup := by
    have hk := h.keys
    generalize d.map Prod.fst = q at hk
    rw [List.nodup_iff_pairwise_ne, List.pairwise_map]
    exact (List.nodup_iff_pairwise_ne.1 hk).imp fun {a b} hab hh => hab (by
      cases a; cases b
      simp at hh ⊢
      exact hh)
  have h1 := nodup_le (b := allP l) hm fun p hp => by
    obtain ⟨s, hs, rfl⟩ := List.mem_map.1 hp
    obtain ⟨v, hv⟩ := mpGet_mem.2 hs
    exact allP_mem (h.key s.element s.in_ v hv)
  have := allP_len l
  rw [List.length_map, List.length_map] at h1
  omega
/-! ### The least distance behind a place -/
structure NxR (l : List PlantElement) (d : SDst) (e : Int) (q : List Int) (best : Int) (ok : Bool) : Prop where
  no : ok = false → ∀ m ∈ q, gS d (nbr l e m) m = none
  yes : ok = true → (∃ m ∈ q, gS d (nbr l e m) m = some best) ∧ ∀ m ∈ q, ∀ w, gS d (nbr l e m) m = some w → best ≤ w
theorem rnext_loop (N : Nat) {l : List PlantElement} (hN : l.length + 10 ≤ N) (hl : l.length ≤ 1000000) {d : SDst} {v : Visit} {o : List Int} (ho : o.length ≤ 1000) : ∀ (k n i : Nat) (best : Int) (ok : Bool), k < n → i + k = o.length → NxR l d v.element (o.take i) best ok →
    ∃ best' ok', r27_next_0 N l d v o n best ok i = some (best', ok') ∧ NxR l d v.element o best' ok'
  | k, 0, i, best, ok, hn, _, _ => by omega
  | 0, n + 1, i, best, ok, hn, hi, hI => by
    obtain rfl : i = o.length := by omega
    rw [r27_next_0, if_neg (dneg (by omega))]
    rw [List.take_length] at hI
    exact ⟨_, _, rfl, hI⟩
  | k + 1, n + 1, i, best, ok, hn, hi, hI => by
    have hlt : i < o.length := by omega
    have ha := at_lt hlt
    have htk := take_at ha
    rw [r27_next_0, if_pos (dpos (by omega))]
    have key : ∃ best' ok', r27_next_1 N l d v best ok o i = some (best', ok') ∧ NxR l d v.element (o.take (i + 1)) best' ok' := by
      unfold r27_next_1
      simp only [getI_nat ha, bind_some']
      rw [rnbr_ok N (by omega) hl, bind_some', lt_def, lt_def]
      have hgd : mpGet d (Step.mk (nbr l v.element o[i]) o[i]) = gS d (nbr l v.element o[i]) o[i] := rfl
      rw [hgd]
      cases hg : gS d (nbr l v.element o[i]) o[i] with
      | none =>
        have h2 : r27_next_2 N best ok ((none : Option Int).getD 0) (none : Option Int).isSome = some false := rfl
        rw [h2, bind_some', if_neg (by simp)]
        refine ⟨best, ok, rfl, ⟨fun hf m hm => ?_, fun hf => ⟨?_, fun m hm w hw => ?_⟩⟩⟩
        · rw [htk] at hm
          rcases List.mem_append.1 hm with hm | hm
          · exact hI.no hf m hm
          · simp at hm; subst hm; exact hg
        · obtain ⟨⟨m, a, b⟩, _⟩ := hI.yes hf
          exact ⟨m, by rw [htk]; exact List.mem_append_left _ a, b⟩
        · rw [htk] at hm
          rcases List.mem_append.1 hm with hm | hm
          · exact (hI.yes hf).2 m hm w hw
          · simp at hm; subst hm; rw [hg] at hw; cases hw
      | some w =>
        have h2 : r27_next_2 N best ok ((some w : Option Int).getD 0) (some w : Option Int).isSome = some (!ok || decide (w < best)) := by
          unfold r27_next_2
          cases ok <;> simp
        rw [h2, bind_some']
        by_cases hc : (!ok || decide (w < best)) = true
        · rw [if_pos hc]
          refine ⟨w, true, rfl, ⟨fun hf => (by cases hf), fun _ => ⟨⟨o[i], by rw [htk]; exact List.mem_append_right _ (by simp), hg⟩, fun m hm w' hw' => ?_⟩⟩⟩
          rw [htk] at hm
          rcases List.mem_append.1 hm with hm | hm
          · cases ok with
            | false => have := hI.no rfl m hm; rw [hw'] at this; cases this
            | true =>
              have := (hI.yes rfl).2 m hm w' hw'
              simp at hc; omega
          · simp at hm; subst hm; rw [hg] at hw'; cases hw'; omega
        · rw [if_neg hc]
          cases ok with
          | false => simp at hc
          | true =>
            simp at hc
            obtain ⟨⟨m, a, b⟩, h3⟩ := hI.yes rfl
            refine ⟨best, true, rfl, ⟨fun hf => (by cases hf), fun _ => ⟨⟨m, by rw [htk]; exact List.mem_append_left _ a, b⟩, fun m hm w' hw' => ?_⟩⟩⟩
            rw [htk] at hm
            rcases List.mem_append.1 hm with hm | hm
            · exact h3 m hm w' hw'
            · simp at hm; subst hm; rw [hg] at hw'; cases hw'; omega
    obtain ⟨best', ok', g1, g2⟩ := key
    rw [g1, bind_some', lt_def, w64s (by omega)]
    exact rnext_loop N hN hl ho k n (i + 1) _ _ (by omega) (by omega) g2
/-- The nodes by which a visit can go on. -/
def outsP (l : List PlantElement) (e n : Int) : List Int := if n < 0 then eI l e else thr l e n
theorem routs_ok (N : Nat) (hN : 4 ≤ N) (l : List PlantElement) (v : Visit) : r27_outs N l v = some (outsP l v.element v.in_) := by
  unfold r27_outs outsP
  by_cases h : v.in_ < 0
  · rw [if_pos (dpos h), if_pos h, rEnds_ok, bind_some']
  · rw [if_neg (dneg h), if_neg h, rthr_ok N hN, bind_some']
theorem outsP_len (l : List PlantElement) (e n : Int) : (outsP l e n).length ≤ 3 := by
  unfold outsP
  split
  · exact eI_len l e
  · exact thr_len l e n
theorem rnext_ok (N : Nat) {l : List PlantElement} (hN : l.length + 10 ≤ N) (hl : l.length ≤ 1000000) (d : SDst) (v : Visit) : ∃ best ok, r27_next N l d v = some (best, ok) ∧ NxR l d v.element (outsP l v.element v.in_) best ok := by
  unfold r27_next
  have h3 := outsP_len l v.element v.in_
  rw [routs_ok N (by omega), bind_some']
  obtain ⟨best, ok, h1, h2⟩ := rnext_loop N (l := l) (d := d) (v := v) hN hl (o := outsP l v.element v.in_) (by omega) (outsP l v.element v.in_).length N 0 0 false (by omega) (by omega) ⟨fun _ m hm => by simp at hm, fun h => by cases h⟩
  have h1 : r27_next_0 N l d v (outsP l v.element v.in_) N 0 false 0 = some (best, ok) := h1
  rw [h1, bind_some']
  exact ⟨_, _, rfl, h2⟩
/-! ### How much can still change -/
def mS (l : List PlantElement) (d : SDst) : Nat := ((allP l).map fun p => ((gS d p.element p.in_).getD 300).toNat).sum
theorem sum_lt {α : Type} {f g : α → Nat} : ∀ {q : List α}, (∀ x ∈ q, g x ≤ f x) → (∃ x ∈ q, g x < f x) → (q.map g).sum < (q.map f).sum
  | [], _, h => by obtain ⟨x, hx, _⟩ := h; cases hx
  | y :: q, h1, h2 => by
    simp only [List.map_cons, List.sum_cons]
    have hy := h1 y List.mem_cons_self
    have hq : ∀ (q : List α), (∀ x ∈ q, g x ≤ f x) → (q.map g).sum ≤ (q.map f).sum := by
      intro q
      induction q with
      | nil => intro _; simp
      | cons z q ih =>
        intro h
        simp only [List.map_cons, List.sum_cons]
        have := h z List.mem_cons_self
        have := ih fun x hx => h x (List.mem_cons_of_mem _ hx)
        omega
    obtain ⟨x, hx, hlt⟩ := h2
    rcases List.mem_cons.1 hx with rfl | hx
    · have := hq q fun x hx => h1 x (List.mem_cons_of_mem _ hx); omega
    · have := sum_lt (q := q) (fun x hx => h1 x (List.mem_cons_of_mem _ hx)) ⟨x, hx, hlt⟩; omega
theorem mS_le {l : List PlantElement} {to : Int} {d : SDst} (h : RI l to d) (hl : l.length ≤ 96) : mS l d ≤ 90000 := by
  have key : ∀ (q : List Place), (q.map fun p => ((gS d p.element p.in_).getD 300).toNat).sum ≤ 300 * q.length := by
    intro q
    induction q with
    | nil => simp
    | cons p q ih =>
      simp only [List.map_cons, List.sum_cons, List.length_cons]
      have : ((gS d p.element p.in_).getD 300).toNat ≤ 300 := by
        cases hg : gS d p.element p.in_ with
        | none => decide
        | some v =>
          have := h.val _ _ _ hg
          have := h.len
          simp; omega
      omega
  have h1 := key (allP l)
  have h2 := allP_len l
  unfold mS
  omega
/-- One more place, or a lesser distance. -/
theorem RI.set {l : List PlantElement} {to : Int} {d : SDst} (h : RI l to d) (hl : l.length ≤ 96) {i n b : Int} (hi : i ≠ to) (hn : n ∈ eI l i) (hb : ∃ m ∈ thr l i n, gS d (nbr l i m) m = some b) (hc : ∀ v, gS d i n = some v → b + 1 < v) :
    RI l to (mpSet d (Step.mk i n) (b + 1)) ∧ mS l (mpSet d (Step.mk i n) (b + 1)) < mS l d := by
  obtain ⟨m, hm, hmb⟩ := hb
  have hb0 := h.nonneg hmb
  have hbv := h.val _ _ _ hmb
  have hdl := h.len
  have hne : nbr l i m ≠ i := (nbr_mem (l := l) (i := i) (n := m) (by
    have := h.key _ _ _ hmb
    exact (eI_mem this).1)).2
  have hlen : b + 1 < ((mpSet d (Step.mk i n) (b + 1)).length : Int) ∧ (d.length : Int) ≤ ((mpSet d (Step.mk i n) (b + 1)).length : Int) ∧ ((mpSet d (Step.mk i n) (b + 1)).map Prod.fst).Nodup := by
    cases hg : mpGet d (Step.mk i n) with
    | none =>
      rw [mpSet_new hg, List.map_append, List.nodup_append]
      refine ⟨by simp; omega, by simp; omega, h.keys, by simp, fun x hx y hy => ?_⟩
      simp at hy; subst hy
      rintro rfl
      obtain ⟨w, hw⟩ := mpGet_mem.2 hx
      rw [hw] at hg; cases hg
    | some w =>
      have e := mpSet_old (v := b + 1) hg
      have e2 : (mpSet d (Step.mk i n) (b + 1)).length = d.length := by have := congrArg List.length e; simpa using this
      have := h.val i n w hg
      have := hc w hg
      exact ⟨by rw [e2]; omega, by rw [e2]; omega, by rw [e]; exact h.keys⟩
  have hkeep : ∀ i' m' w v, gS d i' m' = some w → w < v → ∃ w', gS (mpSet d (Step.mk i n) (b + 1)) i' m' = some w' ∧ w' < v := by
    intro i' m' w v hw hv
    rw [gS_set]
    by_cases hh : i = i' ∧ n = m'
    · rw [if_pos hh]
      obtain ⟨rfl, rfl⟩ := hh
      have := hc w hw
      exact ⟨_, rfl, by omega⟩
    · rw [if_neg hh]; exact ⟨w, hw, hv⟩
  refine ⟨⟨fun i' n' v hg => ?_, fun n' v hg => ?_, fun i' n' v hi' hg => ?_, fun i' n' v hg => ?_, hlen.2.2⟩, ?_⟩
  · rw [gS_set] at hg
    split at hg
    · rename_i hh; obtain ⟨rfl, rfl⟩ := hh; exact hn
    · exact h.key _ _ _ hg
  · rw [gS_set] at hg
    split at hg
    · rename_i hh; exact absurd hh.1 hi
    · exact h.toz _ _ hg
  · rw [gS_set] at hg
    split at hg
    · rename_i hh; obtain ⟨rfl, rfl⟩ := hh
      cases hg
      obtain ⟨w', q1, q2⟩ := hkeep _ _ b (b + 1) hmb (by omega)
      exact ⟨by omega, m, hm, w', q1, q2⟩
    · obtain ⟨a, m', b', w, c, e⟩ := h.pos i' n' v hi' hg
      obtain ⟨w', q1, q2⟩ := hkeep _ _ w v c e
      exact ⟨a, m', b', w', q1, q2⟩
  · rw [gS_set] at hg
    split at hg
    · cases hg; exact hlen.1
    · have := h.val _ _ _ hg; omega
  · unfold mS
    refine sum_lt (fun p _ => ?_) ⟨Place.mk i n, allP_mem hn, ?_⟩
    · rw [gS_set]
      split
      · rename_i hh
        obtain ⟨rfl, rfl⟩ := hh
        cases hg : gS d p.element p.in_ with
        | none => simp; omega
        | some v => have := hc v hg; simp; omega
      · exact Nat.le_refl _
    · rw [gS_set, if_pos ⟨rfl, rfl⟩]
      show (b + 1).toNat < ((gS d i n).getD 300).toNat
      cases hg : gS d i n with
      | none => simp; omega
      | some v => have := hc v hg; simp; omega
/-- Nothing is to be changed at a place. -/
def St1 (l : List PlantElement) (to : Int) (d : SDst) (i n : Int) : Prop := i ≠ to → ∀ m ∈ thr l i n, ∀ w, gS d (nbr l i m) m = some w → ∃ x, gS d i n = some x ∧ x ≤ w + 1
/-- What a part of a pass does. -/
def PassR (l : List PlantElement) (to : Int) (d : SDst) (c : Bool) (S : SDst → Prop) (d' : SDst) (c' : Bool) : Prop :=
  RI l to d' ∧ (∀ n, gS d' to n = gS d to n) ∧ ((d' = d ∧ c' = c ∧ S d) ∨ (c' = true ∧ mS l d' < mS l d))
theorem PassR.trans {l : List PlantElement} {to : Int} {d d1 d2 : SDst} {c c1 c2 : Bool} {S S2 : SDst → Prop} (h : PassR l to d c S d1 c1) (k : PassR l to d1 c1 S2 d2 c2) : PassR l to d c (fun d => S d ∧ S2 d) d2 c2 := by
  obtain ⟨a, z, b⟩ := h
  obtain ⟨e, y, f⟩ := k
  refine ⟨e, fun n => (y n).trans (z n), ?_⟩
  rcases b with ⟨rfl, rfl, b⟩ | ⟨rfl, b⟩
  · rcases f with ⟨rfl, rfl, f⟩ | ⟨rfl, f⟩
    · exact .inl ⟨rfl, rfl, b, f⟩
    · exact .inr ⟨rfl, f⟩
  · rcases f with ⟨rfl, rfl, f⟩ | ⟨rfl, f⟩
    · exact .inr ⟨rfl, b⟩
    · exact .inr ⟨rfl, by omega⟩
theorem PassR.imp {l : List PlantElement} {to : Int} {d d1 : SDst} {c c1 : Bool} {S S2 : SDst → Prop} (h : PassR l to d c S d1 c1) (k : S d → S2 d) : PassR l to d c S2 d1 c1 := by
  obtain ⟨a, z, b⟩ := h
  refine ⟨a, z, ?_⟩
  rcases b with ⟨p, q, b⟩ | b
  · exact .inl ⟨p, q, k b⟩
  · exact .inr b
theorem rdist4 (N : Nat) (hN : 4000 ≤ N) {l : List PlantElement} (hl : l.length ≤ 96) {to : Int} {d : SDst} (h : RI l to d) (c : Bool) (i : Nat) {e : List Int} (he : e = eI l (i : Int)) (hs : ∀ n ∈ e, 0 ≤ n) {k : Nat} (hk : k < e.length) :
    ∃ d' c', r27_distances_4 N l to d c i e k = some (d', c') ∧ PassR l to d c (fun d => St1 l to d i (e[k]'hk)) d' c' := by
  unfold r27_distances_4
  by_cases hi : (i : Int) = to
  · rw [if_pos (by simpa using hi)]
    exact ⟨d, c, rfl, h, fun _ => rfl, .inl ⟨rfl, rfl, fun hh => absurd hi hh⟩⟩
  · rw [if_neg (by simpa using hi)]
    have ha := at_lt hk
    simp only [getI_nat ha, bind_some']
    obtain ⟨b, ok, h1, h2⟩ := rnext_ok N (l := l) (by omega) (by omega) d (Visit.mk i e[k] 0)
    rw [h1, bind_some', lt_def, lt_def]
    simp only [] at h2 ⊢
    have hmem := List.mem_of_getElem? ha
    have ho : outsP l i e[k] = thr l i e[k] := by
      unfold outsP
      rw [if_neg (by have := hs _ hmem; omega)]
    rw [ho] at h2
    have hgd : mpGet d (Step.mk (i : Int) e[k]) = gS d i e[k] := rfl
    rw [hgd]
    cases ok with
    | false =>
      have h5 : r27_distances_5 N b false ((gS d i e[k]).getD 0) (gS d i e[k]).isSome = some false := rfl
      rw [h5, bind_some', if_neg (by simp)]
      exact ⟨d, c, rfl, h, fun _ => rfl, .inl ⟨rfl, rfl, fun _ m hm w hw => by rw [h2.no rfl m hm] at hw; cases hw⟩⟩
    | true =>
      obtain ⟨hb, hmin⟩ := h2.yes rfl
      have hbv : 0 ≤ b ∧ b < 300 := by
        obtain ⟨m, _, hm⟩ := hb
        have := h.nonneg hm
        have := h.val _ _ _ hm
        have := h.len
        omega
      have hw : IntKind.wrap .i64 (b + 1) = b + 1 := w64 (by omega) (by omega)
      have h5 : r27_distances_5 N b true ((gS d i e[k]).getD 0) (gS d i e[k]).isSome = some (!(gS d i e[k]).isSome || decide (b + 1 < (gS d i e[k]).getD 0)) := by
        unfold r27_distances_5
        rw [hw]
        cases (gS d i e[k]).isSome <;> simp
      rw [h5, bind_some', hw, lt_def]
      by_cases hc : (!(gS d i e[k]).isSome || decide (b + 1 < (gS d i e[k]).getD 0)) = true
      · rw [if_pos hc]
        obtain ⟨g1, g2⟩ := h.set hl hi (by rw [← he]; exact hmem) hb (fun v hv => by rw [hv] at hc; simpa using hc)
        exact ⟨_, _, rfl, g1, fun n => by rw [gS_set, if_neg (fun hh => hi hh.1)], .inr ⟨rfl, g2⟩⟩
      · rw [if_neg hc]
        refine ⟨d, c, rfl, h, fun _ => rfl, .inl ⟨rfl, rfl, fun _ m hm w hw => ?_⟩⟩
        cases hg : gS d i e[k] with
        | none => rw [hg] at hc; simp at hc
        | some x =>
          rw [hg] at hc
          simp at hc
          have := hmin m hm w hw
          exact ⟨x, rfl, by omega⟩
theorem rdist3 (N : Nat) (hN : 4000 ≤ N) {l : List PlantElement} (hl : l.length ≤ 96) {to : Int} (i : Nat) {e : List Int} (he : e = eI l (i : Int)) (hs : ∀ n ∈ e, 0 ≤ n) : ∀ (k n j : Nat) (d : SDst) (c : Bool), k < n → j + k = e.length → RI l to d →
    ∃ d' c', r27_distances_3 N l to i e n d c j = some (d', c') ∧ PassR l to d c (fun d => ∀ m ∈ e.drop j, St1 l to d i m) d' c'
  | k, 0, j, d, c, hn, _, _ => by omega
  | 0, n + 1, j, d, c, hn, hj, h => by
    obtain rfl : j = e.length := by omega
    rw [r27_distances_3, if_neg (dneg (by omega)), List.drop_length]
    exact ⟨d, c, rfl, h, fun _ => rfl, .inl ⟨rfl, rfl, by simp⟩⟩
  | k + 1, n + 1, j, d, c, hn, hj, h => by
    have hlt : j < e.length := by omega
    have h3 : e.length ≤ 3 := by rw [he]; exact eI_len l i
    rw [r27_distances_3, if_pos (dpos (by omega))]
    obtain ⟨d1, c1, g1, g2⟩ := rdist4 N hN hl h c i he hs hlt
    rw [g1, bind_some', lt_def, w64s (by omega)]
    obtain ⟨d2, c2, g3, g4⟩ := rdist3 N hN hl i he hs k n (j + 1) d1 c1 (by omega) (by omega) g2.1
    refine ⟨d2, c2, g3, (g2.trans g4).imp fun hh m hm => ?_⟩
    rw [drop_at (at_lt hlt)] at hm
    rcases List.mem_cons.1 hm with rfl | hm
    · exact hh.1
    · exact hh.2 m hm
theorem rdist2 (N : Nat) (hN : 4000 ≤ N) {l : List PlantElement} (hP : PlOk l) {to : Int} : ∀ (k n i : Nat) (d : SDst) (c : Bool), k < n → i + k = l.length → RI l to d →
    ∃ d' c', r27_distances_2 N l to n d c i = some (d', c') ∧ PassR l to d c (fun d => ∀ j : Nat, i ≤ j → ∀ m ∈ eI l (j : Int), St1 l to d j m) d' c'
  | k, 0, i, d, c, hn, _, _ => by omega
  | 0, n + 1, i, d, c, hn, hi, h => by
    obtain rfl : i = l.length := by omega
    rw [r27_distances_2, if_neg (dneg (by omega))]
    exact ⟨d, c, rfl, h, fun _ => rfl, .inl ⟨rfl, rfl, fun j hj m hm => by have := (eI_mem hm).2.1; omega⟩⟩
  | k + 1, n + 1, i, d, c, hn, hi, h => by
    have hll := hP.len
    rw [r27_distances_2, if_pos (dpos (by omega)), rEnds_ok, bind_some']
    have h3 := eI_len l (i : Int)
    obtain ⟨d1, c1, g1, g2⟩ := rdist3 N hN hll (to := to) i rfl (fun n hn => by
      obtain ⟨_, _, x, hx, hm⟩ := eI_mem hn
      exact ((soundP_ends (hP.snd x (List.mem_of_getElem? hx))).2.1 _ hm).1) (eI l (i : Int)).length N 0 d c (by omega) (by omega) h
    have g1 : r27_distances_3 N l to i (eI l (i : Int)) N d c 0 = some (d1, c1) := g1
    rw [g1, bind_some', lt_def, w64s (by omega)]
    obtain ⟨d2, c2, g3, g4⟩ := rdist2 N hN hP k n (i + 1) d1 c1 (by omega) (by omega) g2.1
    refine ⟨d2, c2, g3, (g2.trans g4).imp fun hh j hj m hm => ?_⟩
    by_cases hji : j = i
    · subst hji; exact hh.1 m (by simpa using hm)
    · exact hh.2 j (by omega) m hm
theorem rdist1 (N : Nat) (hN : 4000 ≤ N) {l : List PlantElement} (hP : PlOk l) {to : Int} : ∀ (k n : Nat) (d : SDst), k + 1 < n → mS l d ≤ k → RI l to d →
    ∃ d', r27_distances_1 N l to n d true = some d' ∧ RI l to d' ∧ (∀ n, gS d' to n = gS d to n) ∧ ∀ i m, m ∈ eI l i → St1 l to d' i m
  | k, 0, d, hn, _, _ => by omega
  | k, n + 1, d, hn, hk, h => by
    have hll := hP.len
    rw [r27_distances_1, if_pos rfl]
    obtain ⟨d1, c1, g1, g2, g3, g4⟩ := rdist2 N hN hP (to := to) l.length N 0 d false (by omega) (by omega) h
    have g1 : r27_distances_2 N l to N d false 0 = some (d1, c1) := g1
    rw [g1, bind_some']
    simp only []
    rcases g4 with ⟨rfl, rfl, g4⟩ | ⟨rfl, g4⟩
    · obtain ⟨n, rfl⟩ : ∃ n', n = n' + 1 := ⟨n - 1, by omega⟩
      rw [r27_distances_1, if_neg (by simp)]
      refine ⟨d1, rfl, h, fun _ => rfl, fun i m hm => ?_⟩
      obtain ⟨j, rfl⟩ := Int.eq_ofNat_of_zero_le (eI_mem hm).1
      exact g4 j (by omega) m hm
    · cases k with
      | zero => omega
      | succ k =>
        obtain ⟨d2, q1, q2, q3, q4⟩ := rdist1 N hN hP k n d1 (by omega) (by omega) g2
        exact ⟨d2, q1, q2, fun n => (q3 n).trans (g3 n), q4⟩
theorem rdist0 (N : Nat) {l : List PlantElement} {to : Int} {e : List Int} (he : e = eI l to) : ∀ (k n i : Nat) (d : SDst), k < n → i + k = e.length → RI l to d → (∀ i n v, gS d i n = some v → v = 0 ∧ i = to) → (∀ m ∈ e.take i, gS d to m = some 0) →
    ∃ d', r27_distances_0 N to e n d i = some d' ∧ RI l to d' ∧ ∀ m ∈ e, gS d' to m = some 0
  | k, 0, i, d, hn, _, _, _, _ => by omega
  | 0, n + 1, i, d, hn, hi, h, hz, ht => by
    obtain rfl : i = e.length := by omega
    rw [r27_distances_0, if_neg (dneg (by omega))]
    rw [List.take_length] at ht
    exact ⟨d, rfl, h, ht⟩
  | k + 1, n + 1, i, d, hn, hi, h, hz, ht => by
    have hlt : i < e.length := by omega
    have ha := at_lt hlt
    have h3 : e.length ≤ 3 := by rw [he]; exact eI_len l to
    rw [r27_distances_0, if_pos (dpos (by omega))]
    simp only [getI_nat ha, bind_some', lt_def]
    rw [w64s (by omega)]
    have hmem : e[i] ∈ eI l to := by rw [← he]; exact List.mem_of_getElem? ha
    have hz' : ∀ i' n' v, gS (mpSet d (Step.mk to e[i]) 0) i' n' = some v → v = 0 ∧ i' = to := fun i' n' v hg => by
      rw [gS_set] at hg
      split at hg
      · rename_i hh; cases hg; exact ⟨rfl, hh.1.symm⟩
      · exact hz _ _ _ hg
    have hlen : 0 < (mpSet d (Step.mk to e[i]) 0).length ∧ ((mpSet d (Step.mk to e[i]) 0).map Prod.fst).Nodup := by
      cases hg : mpGet d (Step.mk to e[i]) with
      | none =>
        rw [mpSet_new hg, List.map_append, List.nodup_append]
        refine ⟨by simp, h.keys, by simp, fun x hx y hy => ?_⟩
        simp at hy; subst hy
        rintro rfl
        obtain ⟨w, hw⟩ := mpGet_mem.2 hx
        rw [hw] at hg; cases hg
      | some w =>
        have e1 := mpSet_old (v := 0) hg
        have e2 : (mpSet d (Step.mk to e[i]) 0).length = d.length := by have := congrArg List.length e1; simpa using this
        have := h.val to _ w hg
        have := (hz _ _ _ hg).1
        exact ⟨by omega, by rw [e1]; exact h.keys⟩
    refine rdist0 N he k n (i + 1) _ (by omega) (by omega) ⟨fun i' n' v hg => ?_, fun n' v hg => (hz' _ _ _ hg).1, fun i' n' v hi' hg => absurd (hz' _ _ _ hg).2 hi', fun i' n' v hg => by have := (hz' _ _ _ hg).1; omega, hlen.2⟩ hz' fun m hm => ?_
    · rw [gS_set] at hg
      split at hg
      · rename_i hh; obtain ⟨rfl, rfl⟩ := hh; exact hmem
      · exact h.key _ _ _ hg
    · rw [take_at ha] at hm
      rw [gS_set]
      split
      · rfl
      · rcases List.mem_append.1 hm with hm | hm
        · exact ht m hm
        · simp at hm; subst hm
          rename_i hh
          exact absurd ⟨rfl, rfl⟩ hh
/-- The reference's distances. -/
structure RD (l : List PlantElement) (to : Int) (d : SDst) : Prop where
  ri : RI l to d
  zero : ∀ m ∈ eI l to, gS d to m = some 0
  st : ∀ i m, m ∈ eI l i → St1 l to d i m
theorem rdist_ok (N : Nat) (hN : 100000 ≤ N) {l : List PlantElement} (hP : PlOk l) (to : Int) : ∃ d, r27_distances N l to = some d ∧ RD l to d := by
  unfold r27_distances
  rw [rEnds_ok, bind_some']
  have h3 := eI_len l to
  obtain ⟨d, h1, h2, h4⟩ := rdist0 N (l := l) (to := to) rfl (eI l to).length N 0 [] (by omega) (by omega) ⟨by simp [gS, mpGet], by simp [gS, mpGet], by simp [gS, mpGet], by simp [gS, mpGet], by simp⟩ (by simp [gS, mpGet]) (by simp)
  have h1 : r27_distances_0 N to (eI l to) N [] 0 = some d := h1
  rw [h1, bind_some']
  have hm := mS_le h2 hP.len
  obtain ⟨d', g1, g2, g3, g4⟩ := rdist1 N (by omega) hP 90000 N d (by omega) hm h2
  rw [g1, bind_some']
  exact ⟨d', rfl, g2, fun m hm => by rw [g3]; exact h4 m hm, g4⟩
/-- Behind each place but the last there is one that is nearer by one. -/
theorem RD.next {l : List PlantElement} {to : Int} {d : SDst} (h : RD l to d) {i n v : Int} (hi : i ≠ to) (hg : gS d i n = some v) : ∃ m ∈ thr l i n, gS d (nbr l i m) m = some (v - 1) := by
  obtain ⟨a, m, hm, w, hw, hlt⟩ := h.ri.pos i n v hi hg
  obtain ⟨x, hx, hx2⟩ := h.st i n (h.ri.key _ _ _ hg) hi m hm w hw
  rw [hg] at hx; cases hx
  exact ⟨m, hm, by rw [hw]; congr 1; omega⟩
end Go.W
end
section
set_option linter.unusedVariables false
set_option linter.unusedSimpArgs false
namespace Go.W
open Go.AM
/-! ### The best way on -/
/-- 'e' and 'out' are the best so far: the least element, then the least node, of those at distance 'b'. -/
structure PkI (l : List PlantElement) (d : SDst) (v : Int) (b : Int) (q : List Int) (out e : Int) : Prop where
  no : e < 0 → ∀ m ∈ q, gS d (nbr l v m) m ≠ some b
  yes : 0 ≤ e → out ∈ q ∧ e = nbr l v out ∧ gS d e out = some b ∧ ∀ m ∈ q, gS d (nbr l v m) m = some b → e < nbr l v m ∨ (e = nbr l v m ∧ out ≤ m)
theorem rpick_loop (N : Nat) {l : List PlantElement} (hN : l.length + 10 ≤ N) (hl : l.length ≤ 1000000) {to : Int} {d : SDst} (hd : RI l to d) {b : Int} {o : List Int} (ho : o.length ≤ 1000) {ve vi : Int} : ∀ (k n i : Nat) (out e : Int), k < n → i + k = o.length → PkI l d ve b (o.take i) out e →
    ∃ out' e', r27_Find_2 N l d b o n (Visit.mk ve vi out) e i = some (Visit.mk ve vi out', e') ∧ PkI l d ve b o out' e'
  | k, 0, i, out, e, hn, _, _ => by omega
  | 0, n + 1, i, out, e, hn, hi, hI => by
    obtain rfl : i = o.length := by omega
    rw [r27_Find_2, if_neg (dneg (by omega))]
    rw [List.take_length] at hI
    exact ⟨_, _, rfl, hI⟩
  | k + 1, n + 1, i, out, e, hn, hi, hI => by
    have hlt : i < o.length := by omega
    have ha := at_lt hlt
    have htk := take_at ha
    rw [r27_Find_2, if_pos (dpos (by omega))]
    have key : ∃ out' e', r27_Find_3 N l d (Visit.mk ve vi out) b o e i = some (Visit.mk ve vi out', e') ∧ PkI l d ve b (o.take (i + 1)) out' e' := by
      unfold r27_Find_3
      simp only [getI_nat ha, bind_some']
      rw [rnbr_ok N (by omega) hl, bind_some', lt_def, lt_def]
      have hgd : mpGet d (Step.mk (nbr l ve o[i]) o[i]) = gS d (nbr l ve o[i]) o[i] := rfl
      rw [hgd]
      have keep : (gS d (nbr l ve o[i]) o[i] = some b → 0 ≤ e ∧ (e < nbr l ve o[i] ∨ (e = nbr l ve o[i] ∧ out ≤ o[i]))) → PkI l d ve b (o.take (i + 1)) out e := by
        intro hk
        refine ⟨fun he m hm => ?_, fun he => ?_⟩
        · rw [htk] at hm
          rcases List.mem_append.1 hm with hm | hm
          · exact hI.no he m hm
          · simp at hm; subst hm
            intro hh
            have := (hk hh).1; omega
        · obtain ⟨p, q, r, s⟩ := hI.yes he
          refine ⟨by rw [htk]; exact List.mem_append_left _ p, q, r, fun m hm hmb => ?_⟩
          rw [htk] at hm
          rcases List.mem_append.1 hm with hm | hm
          · exact s m hm hmb
          · simp at hm; subst hm; exact (hk hmb).2
      have take' : gS d (nbr l ve o[i]) o[i] = some b → (0 ≤ e → nbr l ve o[i] < e ∨ (nbr l ve o[i] = e ∧ o[i] < out)) → PkI l d ve b (o.take (i + 1)) o[i] (nbr l ve o[i]) := by
        intro hg hk
        have h0 := (eI_mem (hd.key _ _ _ hg)).1
        refine ⟨fun he => by omega, fun _ => ⟨by rw [htk]; exact List.mem_append_right _ (by simp), rfl, hg, fun m hm hmb => ?_⟩⟩
        rw [htk] at hm
        rcases List.mem_append.1 hm with hm | hm
        · by_cases he : e < 0
          · exact absurd hmb (hI.no he m hm)
          · have := hk (by omega)
            obtain ⟨p, q, r, s⟩ := hI.yes (by omega)
            have := s m hm hmb
            omega
        · simp at hm; subst hm; omega
      cases hg : gS d (nbr l ve o[i]) o[i] with
      | none =>
        have h4 : r27_Find_4 N (Visit.mk ve vi out) b o e i (nbr l ve o[i]) ((none : Option Int).getD 0) (none : Option Int).isSome = some false := rfl
        rw [h4, bind_some', if_neg (by simp)]
        exact ⟨out, e, rfl, keep fun hh => by rw [hg] at hh; cases hh⟩
      | some w =>
        unfold r27_Find_4
        simp only [Option.isSome_some, Option.getD_some, if_true, getI_nat ha, bind_some']
        by_cases hw : w = b
        · subst hw
          rw [if_pos (by simp)]
          by_cases he : e < 0
          · rw [if_pos (dpos he), bind_some', if_pos rfl]
            exact ⟨_, _, rfl, take' hg fun hh => by omega⟩
          · rw [if_neg (dneg he)]
            by_cases h1 : nbr l ve o[i] < e
            · rw [if_pos (dpos h1), bind_some', if_pos rfl]
              exact ⟨_, _, rfl, take' hg fun hh => .inl h1⟩
            · rw [if_neg (dneg h1)]
              by_cases h2 : nbr l ve o[i] = e
              · rw [if_pos (by simpa using h2), bind_some']
                by_cases h3 : o[i] < out
                · rw [if_pos (dpos h3)]
                  exact ⟨_, _, rfl, take' hg fun hh => .inr ⟨h2, h3⟩⟩
                · rw [if_neg (dneg h3)]
                  exact ⟨_, _, rfl, keep fun hh => ⟨by omega, .inr ⟨h2.symm, by omega⟩⟩⟩
              · rw [if_neg (by simpa using h2), bind_some', if_neg (by simp)]
                exact ⟨_, _, rfl, keep fun hh => ⟨by omega, .inl (by omega)⟩⟩
        · rw [if_neg (by simpa using hw), bind_some', if_neg (by simp)]
          exact ⟨_, _, rfl, keep fun hh => by rw [hg] at hh; cases hh; exact absurd rfl hw⟩
    obtain ⟨out', e', g1, g2⟩ := key
    rw [g1, bind_some', lt_def, w64s (by omega)]
    exact rpick_loop N hN hl hd ho k n (i + 1) _ _ (by omega) (by omega) g2
theorem set_last {α : Type} (r : List α) (a b : α) : (r ++ [a]).set r.length b = r ++ [b] := by
  induction r with
  | nil => rfl
  | cons x r ih => simp [ih]
/-! ### The way -/
theorem rfind_loop (N : Nat) (hN : 100000 ≤ N) {l : List PlantElement} (hP : PlOk l) {d : SDst} {fr to : Int} (hD : RD l to d) : ∀ (k n : Nat) (r : List Visit) (v : Visit), k < n →
    Pth l fr (r ++ [Visit.mk v.element v.in_ (-1)]) → (elems r).Nodup → r.length + k ≤ 1000 → (outsP l v.element v.in_ = eI l v.element ∨ outsP l v.element v.in_ = thr l v.element v.in_ ∧ r ≠ []) → (r = [] → outsP l v.element v.in_ = eI l v.element) →
    ((∃ m ∈ outsP l v.element v.in_, gS d (nbr l v.element m) m = some ((k : Int) - 1)) ∨ (k = 0 ∧ v.element = to)) →
    r27_Find_1 N l d n v ((k : Int) - 1) r = some (.inr 17) ∨ ∃ r' v', r27_Find_1 N l d n v ((k : Int) - 1) r = some (.inl (v', r')) ∧ Pth l fr (r' ++ [Visit.mk v'.element v'.in_ (-1)]) ∧ (elems r').Nodup ∧ r'.length = r.length + k ∧ v'.element = to
  | k, 0, r, v, hn, _, _, _, _, _, _ => by omega
  | 0, n + 1, r, v, hn, hp, hd, hl, ho, ho2, hg => by
    rw [r27_Find_1, if_neg (lneg (by omega))]
    refine .inr ⟨r, v, rfl, hp, hd, rfl, ?_⟩
    rcases hg with ⟨m, hm, hg⟩ | ⟨_, hg⟩
    · have := hD.ri.nonneg hg; omega
    · exact hg
  | k + 1, n + 1, r, v, hn, hp, hd, hl, ho, ho2, hg => by
    have hll := hP.len
    have h3 := outsP_len l v.element v.in_
    rw [r27_Find_1, if_pos (lpos (by omega)), routs_ok N (by omega), bind_some']
    obtain ⟨out, e, g1, g2⟩ := rpick_loop N (l := l) (by omega) (by omega) hD.ri (b := ((k + 1 : Nat) : Int) - 1) (o := outsP l v.element v.in_) (by omega) (ve := v.element) (vi := v.in_) (outsP l v.element v.in_).length N 0 (-1) (-1) (by omega) (by omega) ⟨fun _ m hm => by simp at hm, fun h => by omega⟩
    have g1 : r27_Find_2 N l d (((k + 1 : Nat) : Int) - 1) (outsP l v.element v.in_) N (Visit.mk v.element v.in_ (-1)) (-1) 0 = some (Visit.mk v.element v.in_ out, e) := g1
    simp only []
    rw [g1, bind_some']
    simp only []
    rw [visits_ok N (by omega) (by omega), bind_some']
    by_cases hc : (elems r).contains v.element = true
    · rw [if_pos hc]; exact .inl rfl
    · rw [if_neg hc, appI_ok (by simp; omega), bind_some', lt_def, w64 (by omega) (by omega)]
      have hg : ∃ m ∈ outsP l v.element v.in_, gS d (nbr l v.element m) m = some (((k + 1 : Nat) : Int) - 1) := by
        rcases hg with hg | ⟨hg, _⟩
        · exact hg
        · omega
      have he0 : 0 ≤ e := by
        by_cases h : e < 0
        · obtain ⟨m, hm, hm2⟩ := hg
          exact absurd hm2 (g2.no h m hm)
        · omega
      obtain ⟨q1, q2, q3, _⟩ := g2.yes he0
      have hin := hD.ri.key _ _ _ q3
      have hout : out ∈ eI l v.element := by
        rcases ho with h | ⟨h, _⟩
        · rw [h] at q1; exact q1
        · rw [h] at q1; exact (thr_mem q1).2
      have hlast : (r ++ [Visit.mk v.element v.in_ (-1)])[(r ++ [Visit.mk v.element v.in_ (-1)]).length - 1]? = some (Visit.mk v.element v.in_ (-1)) := by simp
      have hp' := hp.add hlast (out := out) (by rw [q2] at he0; exact he0) hout (fun hh => by
        have hne : r ≠ [] := by rintro rfl; simp at hh
        rcases ho with h | ⟨h, _⟩
        · by_cases hi : v.in_ < 0
          · exfalso
            obtain ⟨j, hj⟩ : ∃ j, r.length = j + 1 := ⟨r.length - 1, by have := List.length_pos_iff.2 hne; omega⟩
            have a1 : (r ++ [Visit.mk v.element v.in_ (-1)])[j + 1]? = some (Visit.mk v.element v.in_ (-1)) := by rw [List.getElem?_append_right (by omega)]; simp [hj]
            have a0 := at_lt (xs := r ++ [Visit.mk v.element v.in_ (-1)]) (i := j) (by simp; omega)
            obtain ⟨b1, b2, b3, b4⟩ := hp.step j _ _ a0 a1
            obtain ⟨_, _, x, hx, hm⟩ := eI_mem b4
            have := ((soundP_ends (hP.snd x (List.mem_of_getElem? hx))).2.1 _ hm).1
            simp only at b1
            omega
          · unfold outsP at q1
            rw [if_neg hi] at q1; exact q1
        · rw [h] at q1; exact q1)
      have hlen1 : (r ++ [Visit.mk v.element v.in_ (-1)]).length - 1 = r.length := by simp
      rw [hlen1, set_last] at hp'
      simp only at hp'
      rw [← q2] at hp'
      have hin0 : ¬ out < 0 := by
        obtain ⟨_, _, x, hx, hm⟩ := eI_mem hin
        have := ((soundP_ends (hP.snd x (List.mem_of_getElem? hx))).2.1 _ hm).1
        omega
      have ho' : outsP l e out = thr l e out := by unfold outsP; rw [if_neg hin0]
      have hk1 : (((k + 1 : Nat) : Int) - 1 - 1) = (k : Int) - 1 := by omega
      rw [hk1]
      have ih := rfind_loop N hN hP hD k n (r ++ [Visit.mk v.element v.in_ out]) (Visit.mk e out 0) (by omega) hp' (by
        unfold elems at hd hc ⊢
        rw [List.map_append, List.nodup_append]
        refine ⟨hd, by simp, fun x hx y hy => ?_⟩
        simp at hy; subst hy
        rintro rfl
        exact hc (by simpa using hx)) (by simp; omega) (.inr ⟨ho', by simp⟩) (fun hh => by simp at hh) (by
        by_cases he : e = to
        · right
          subst he
          have := hD.ri.toz _ _ q3
          exact ⟨by omega, rfl⟩
        · left
          obtain ⟨m, hm, hm2⟩ := hD.next he q3
          refine ⟨m, by rw [ho']; exact hm, ?_⟩
          rw [hm2]; exact congrArg some (by omega))
      rcases ih with ih | ⟨r', v', i1, i2, i3, i4, i5⟩
      · exact .inl ih
      · exact .inr ⟨r', v', i1, i2, i3, by rw [i4]; simp; omega, i5⟩
/-- A walk is as long as the distances say, at least. -/
theorem rwalk_dist {l : List PlantElement} {to : Int} {d : SDst} (hD : RD l to d) {w : List Visit} (hW : WayP l w) (he : ∀ v, w[w.length - 1]? = some v → v.element = to) :
    ∀ (k i : Nat) (v : Visit), i + k = w.length - 1 → 1 ≤ i → w[i]? = some v → ∃ x, gS d v.element v.in_ = some x ∧ x ≤ k
  | 0, i, v, hi, h1, hv => by
    have hi' : i = w.length - 1 := by omega
    have hel := he v (by rw [← hi']; exact hv)
    have hin := hW.ins (by omega) hv
    rw [hel] at hin
    exact ⟨0, by rw [hel]; exact hD.zero _ hin, by omega⟩
  | k + 1, i, v, hi, h1, hv => by
    have htwo := hW.two
    have hin := hW.ins (by omega) hv
    by_cases hel : v.element = to
    · rw [hel] at hin
      exact ⟨0, by rw [hel]; exact hD.zero _ hin, by omega⟩
    · have hu := at_lt (xs := w) (i := i + 1) (by omega)
      obtain ⟨x, hx, hx2⟩ := rwalk_dist hD hW he k (i + 1) _ (by omega) (by omega) hu
      obtain ⟨a, b, c⟩ := hW.step i v _ hv hu
      rw [c, a] at hx
      obtain ⟨y, hy, hy2⟩ := hD.st v.element v.in_ hin hel v.out (hW.mid i v (by omega) (by omega) hv) x hx
      exact ⟨y, hy, by omega⟩
/-- What the reference's Find answers for a plant with nothing wrong. -/
theorem rfind_ok (N : Nat) (hN : 100000 ≤ N) {l : List PlantElement} (hP : PlOk l) (fr to : Int) :
    (r27_Find N l fr to = some ([], 2) ∧ (¬ trk l fr ∨ ¬ trk l to ∨ fr = to)) ∨ (trk l fr ∧ trk l to ∧ fr ≠ to ∧
      (r27_Find N l fr to = some ([], 15) ∨ r27_Find N l fr to = some ([], 17) ∨ ∃ r, r27_Find N l fr to = some (r, 0) ∧ RtP l r ∧ r.length ≤ 2000 ∧ (∀ v, r[0]? = some v → v.element = fr) ∧ (∀ v, r[r.length - 1]? = some v → v.element = to) ∧
        ∀ w, WayP l w → (∀ v, w[0]? = some v → v.element = fr) → (∀ v, w[w.length - 1]? = some v → v.element = to) → r.length ≤ w.length)) := by
  unfold r27_Find
  rw [hP.r N (by omega), bind_some', if_neg (by simp)]
  have h0 : ∃ b, r27_Find_0 N l fr to = some b ∧ (b = false ↔ trk l fr ∧ trk l to ∧ fr ≠ to) := by
    unfold r27_Find_0
    simp only [rtrk_ok, bind_some']
    exact or_cond notdec (or_cond notdec ⟨_, rfl, by simp⟩)
  obtain ⟨b, h1, h2⟩ := h0
  rw [h1, bind_some']
  cases b with
  | true =>
    rw [if_pos rfl]
    refine .inl ⟨rfl, ?_⟩
    by_cases a : trk l fr
    · by_cases c : trk l to
      · right; right
        by_cases e : fr = to
        · exact e
        · have := h2.2 ⟨a, c, e⟩; cases this
      · exact .inr (.inl c)
    · exact .inl a
  | false =>
    rw [if_neg (by simp)]
    obtain ⟨t1, t2, t3⟩ := h2.1 rfl
    obtain ⟨d, g1, g2⟩ := rdist_ok N hN hP to
    have hll := hP.len
    have hdl := g2.ri.len
    obtain ⟨b, ok, q1, q2⟩ := rnext_ok N (l := l) (by omega) (by omega) d (Visit.mk fr (-1) 0)
    rw [g1, bind_some', q1, bind_some']
    simp only [] at q2 ⊢
    refine .inr ⟨t1, t2, t3, ?_⟩
    cases ok with
    | false => left; rw [if_pos (by simp)]
    | true =>
      right
      rw [if_neg (by simp)]
      obtain ⟨hb, hmin⟩ := q2.yes rfl
      have ho : outsP l fr (-1) = eI l fr := by unfold outsP; rw [if_pos (by omega)]
      have hb0 : 0 ≤ b ∧ b < 300 := by
        obtain ⟨m, _, hm⟩ := hb
        have := g2.ri.nonneg hm
        have := g2.ri.val _ _ _ hm
        omega
      obtain ⟨k, hk⟩ := Int.eq_ofNat_of_zero_le (show 0 ≤ b + 1 by omega)
      have hbk : b = (k : Int) - 1 := by omega
      have hl := rfind_loop N hN hP g2 (fr := fr) k N [] (Visit.mk fr (-1) 0) (by omega)
        ⟨by simp, fun v hv => by simp at hv; subst hv; exact ⟨rfl, rfl⟩, fun i v w hv hw => by simp at hw, fun i v hi hi2 hv => by simp at hi2⟩ (by simp [elems]) (by simp; omega) (.inl ho) (fun _ => ho) (.inl (by rw [← hbk]; exact hb))
      rw [hbk]
      rcases hl with hl | ⟨r', v', i1, i2, i3, i4, i5⟩
      · rw [hl, bind_some']; exact .inl rfl
      · rw [i1, bind_some']
        simp only []
        have hlen : r'.length = k := by rw [i4]; simp
        rw [visits_ok N (by omega) (by omega), bind_some']
        by_cases hc : (elems r').contains to = true
        · rw [if_pos hc]; exact .inl rfl
        · rw [if_neg hc, appI_ok (by simp; omega), bind_some']
          right
          have he : Visit.mk v'.element v'.in_ (-1) = Visit.mk to v'.in_ (-1) := by rw [i5]
          rw [he] at i2
          have hk1 : 1 ≤ k := by omega
          have hz : ∀ v, (r' ++ [Visit.mk to v'.in_ (-1)])[(r' ++ [Visit.mk to v'.in_ (-1)]).length - 1]? = some v → v = Visit.mk to v'.in_ (-1) := fun v hv => by simp at hv; exact hv.symm
          refine ⟨_, rfl, ⟨hP.err, ⟨by simp; omega, fun v hv => ?_, fun v hv => ?_, fun i v w hv hw => ?_, i2.mid⟩, ?_⟩, by simp; omega, fun v hv => (i2.st v hv).1, fun v hv => by rw [hz v hv], fun w hW hf he => ?_⟩
          · obtain ⟨a, bb⟩ := i2.st v hv
            have := i2.step 0 v _ hv (at_lt (xs := r' ++ [Visit.mk to v'.in_ (-1)]) (i := 1) (by simp; omega))
            exact ⟨by rw [a]; exact t1, bb, this.2.2.2⟩
          · rw [hz v hv]; exact ⟨t2, rfl⟩
          · obtain ⟨a, bb, c, dd⟩ := i2.step i v w hv hw
            exact ⟨a, bb, c⟩
          · unfold elems at i3 hc ⊢
            rw [List.map_append, List.nodup_append]
            refine ⟨i3, by simp, fun x hx y hy => ?_⟩
            simp at hy; subst hy
            rintro rfl
            exact hc (by simpa using hx)
          · have htwo := hW.two
            have w0 := at_lt (xs := w) (i := 0) (by omega)
            have w1 := at_lt (xs := w) (i := 1) (by omega)
            obtain ⟨x, hx, hx2⟩ := rwalk_dist g2 hW he (w.length - 2) 1 _ (by omega) (by omega) w1
            obtain ⟨p, q, rr⟩ := hW.step 0 _ _ w0 w1
            have s3 := (hW.st _ w0).2.2
            rw [hf _ w0] at s3
            rw [rr, p, hf _ w0] at hx
            have := hmin _ (by rw [ho]; exact s3) x hx
            simp; omega
end Go.W
end
section
set_option linter.unusedVariables false
set_option linter.unusedSimpArgs false
namespace Go.W
open Go.AM
/-! ### Settings -/
def setE (x : PlantElement) (v : Visit) : List Setting :=
  if x.kind = 3 then [Setting.mk v.element 3] else if x.kind = 2 then (if v.in_ = x.b ∨ v.out = x.b then [Setting.mk v.element 1] else [Setting.mk v.element 2]) else []
def setV (l : List PlantElement) (v : Visit) : List Setting := match l[v.element.toNat]? with | some x => setE x v | none => []
def setsOf (l : List PlantElement) (r : List Visit) : List Setting := r.flatMap (setV l)
theorem setE_len (x : PlantElement) (v : Visit) : (setE x v).length ≤ 1 := by
  unfold setE
  split
  · simp
  · split
    · split <;> simp
    · simp
theorem setV_el {l : List PlantElement} {v : Visit} {s : Setting} (h : s ∈ setV l v) : s.element = v.element := by
  unfold setV at h
  split at h
  · unfold setE at h
    split at h
    · simp at h; subst h; rfl
    · split at h
      · split at h <;> (simp at h; subst h; rfl)
      · simp at h
  · simp at h
theorem setV_len (l : List PlantElement) (v : Visit) : (setV l v).length ≤ 1 := by
  unfold setV
  split
  · exact setE_len _ _
  · simp
theorem setsOf_len (l : List PlantElement) : ∀ (r : List Visit), (setsOf l r).length ≤ r.length
  | [] => by simp [setsOf]
  | v :: r => by
    have := setsOf_len l r
    have h1 := setV_len l v
    unfold setsOf at *
    rw [List.flatMap_cons, List.length_append, List.length_cons]
    omega
theorem sets1 (N : Nat) {l : List PlantElement} {r : List Visit} {i : Nat} {v : Visit} (hv : r[i]? = some v) (h0 : 0 ≤ v.element) (h1 : v.element < l.length) {acc : List Setting} (ha : acc.length ≤ 1000000) : route_Settings_1 N l acc r i = some (acc ++ setV l v) := by
  obtain ⟨j, hj⟩ := Int.eq_ofNat_of_zero_le h0
  have hjl := at_lt (xs := l) (i := j) (by omega)
  unfold route_Settings_1 setV
  have hg : getI l v.element = some (l[j]'(by omega)) := by rw [hj]; exact getI_nat hjl
  have hg2 : l[v.element.toNat]? = some (l[j]'(by omega)) := by rw [hj, Int.toNat_natCast]; exact hjl
  rw [getI_nat hv, bind_some', hg, bind_some', lt_def, hg2]
  generalize l[j]'(by omega) = x at *
  simp only []
  unfold setE
  by_cases h3 : x.kind = 3
  · rw [if_pos (by simpa using h3), if_pos h3, appI_ok (by simp; omega), bind_some']
  · rw [if_neg (by simpa using h3), if_neg h3]
    by_cases h2 : x.kind = 2
    · have hs2 : route_Settings_2 N v x = some (decide (v.in_ = x.b ∨ v.out = x.b)) := by
        unfold route_Settings_2
        rw [if_pos (by simpa using h2)]
        by_cases a : v.in_ = x.b
        · rw [if_pos (by simpa using a)]; simp [a]
        · rw [if_neg (by simpa using a), lt_def]
          congr 1
          exact Bool.eq_iff_iff.2 (by simp [a])
      rw [hs2, bind_some', if_pos h2]
      by_cases hb : v.in_ = x.b ∨ v.out = x.b
      · rw [if_pos (by simpa using hb), if_pos hb, appI_ok (by simp; omega), bind_some']
      · rw [if_neg (by simpa using hb), if_neg hb, lt_def, if_pos (by simpa using h2), appI_ok (by simp; omega), bind_some']
    · have hs2 : route_Settings_2 N v x = some false := by
        unfold route_Settings_2
        rw [if_neg (by simpa using h2)]
      rw [hs2, bind_some', if_neg (by simp), lt_def, if_neg (by simpa using h2), if_neg h2, List.append_nil]
theorem sets_loop (N : Nat) {l : List PlantElement} {r : List Visit} (hr : ∀ v ∈ r, 0 ≤ v.element ∧ v.element < l.length) (hl : r.length ≤ 100000) : ∀ (k n i : Nat) (acc : List Setting), k < n → i + k = r.length → acc.length ≤ i → route_Settings_0 N l r r.length n acc i = some (acc ++ setsOf l (r.drop i))
  | k, 0, i, acc, hn, _, _ => by omega
  | 0, n + 1, i, acc, hn, hi, ha => by
    obtain rfl : i = r.length := by omega
    rw [route_Settings_0, if_neg (dneg (by omega)), List.drop_length]
    simp [setsOf]
  | k + 1, n + 1, i, acc, hn, hi, ha => by
    have hlt : i < r.length := by omega
    have hv := at_lt hlt
    obtain ⟨h0, h1⟩ := hr _ (List.mem_of_getElem? hv)
    have h2 := setV_len l r[i]
    rw [route_Settings_0, if_pos (dpos (by omega)), sets1 N hv h0 h1 (by omega), bind_some', w64s (by omega), sets_loop N hr hl k n (i + 1) _ (by omega) (by omega) (by simp; omega), drop_at hv]
    unfold setsOf
    rw [List.flatMap_cons, List.append_assoc]
theorem WayP.ok {l : List PlantElement} {r : List Visit} (h : WayP l r) : ∀ v ∈ r, 0 ≤ v.element ∧ v.element < l.length := by
  intro v hv
  obtain ⟨i, hi⟩ := List.getElem?_of_mem hv
  have hlt := (List.getElem?_eq_some_iff.1 hi).1
  have two := h.two
  by_cases h0 : i + 1 < r.length
  · have := eI_mem (h.outs h0 hi); exact ⟨this.1, this.2.1⟩
  · have := eI_mem (h.ins (by omega) hi); exact ⟨this.1, this.2.1⟩
instance instSet : Inhabited Setting := ⟨Setting.mk 0 0⟩
noncomputable def sorted (q : List Setting) : List Setting := @srtL Setting instSet (fun (a b : Setting) => cmpI a.element b.element) q
theorem settings_ok (N : Nat) (hN : 4000 ≤ N) {l : List PlantElement} (hP : PlOk l) {r : List Visit} (hr : RtP l r) (hl : r.length ≤ 3000) : route_Settings N l r = some (sorted (setsOf l r), 0) := by
  obtain ⟨b, h1, _, h3⟩ := vals_eq N hN hP (w := r) hl
  unfold route_Settings
  rw [h1, bind_some', h3.2 hr, if_neg (by simp)]
  have h := sets_loop N (l := l) (r := r) hr.2.1.ok (by omega) r.length N 0 [] (by omega) (by omega) (by simp)
  have h : route_Settings_0 N l r r.length N [] 0 = some (setsOf l r) := h
  have := setsOf_len l r
  rw [h, bind_some']
  unfold srtI
  rw [if_pos (by omega), bind_some']
  rfl
theorem sorted_mem {q : List Setting} {x : Setting} : x ∈ sorted q ↔ x ∈ q := (@srtL_perm Setting instSet (fun (a b : Setting) => cmpI a.element b.element) (swo_key Setting.element) q).mem_iff
theorem sorted_len (q : List Setting) : (sorted q).length = q.length := (@srtL_perm Setting instSet (fun (a b : Setting) => cmpI a.element b.element) (swo_key Setting.element) q).length_eq
theorem sorted_lt {q : List Setting} (h : (q.map Setting.element).Nodup) : (sorted q).Pairwise fun a b => a.element < b.element := by
  have h1 : (sorted q).Pairwise fun a b => a.element ≤ b.element := @srtL_sorted Setting instSet Setting.element q
  have hp : (sorted q).Perm q := @srtL_perm Setting instSet (fun (a b : Setting) => cmpI a.element b.element) (swo_key Setting.element) q
  have h2 : ((sorted q).map Setting.element).Nodup := (hp.map Setting.element).nodup_iff.2 h
  rw [List.nodup_iff_pairwise_ne, List.pairwise_map] at h2
  exact (h1.and h2).imp fun ⟨a, b⟩ => by omega
theorem same_lists : ∀ {a b : List Setting}, a.Pairwise (fun x y => x.element < y.element) → b.Pairwise (fun x y => x.element < y.element) → (∀ x, x ∈ a ↔ x ∈ b) → a = b
  | [], [], _, _, _ => rfl
  | [], y :: b, _, _, h => by have := (h y).2 List.mem_cons_self; cases this
  | x :: a, [], _, _, h => by have := (h x).1 List.mem_cons_self; cases this
  | x :: a, y :: b, h1, h2, h => by
    rw [List.pairwise_cons] at h1 h2
    have hxy : x = y := by
      rcases List.mem_cons.1 ((h x).1 List.mem_cons_self) with e | e
      · exact e
      · rcases List.mem_cons.1 ((h y).2 List.mem_cons_self) with f | f
        · exact f.symm
        · have := h2.1 _ e; have := h1.1 _ f; omega
    subst hxy
    congr 1
    refine same_lists h1.2 h2.2 fun z => ⟨fun hz => ?_, fun hz => ?_⟩
    · rcases List.mem_cons.1 ((h z).1 (List.mem_cons_of_mem _ hz)) with e | e
      · have := h1.1 _ hz; rw [e] at this; omega
      · exact e
    · rcases List.mem_cons.1 ((h z).2 (List.mem_cons_of_mem _ hz)) with e | e
      · have := h2.1 _ hz; rw [e] at this; omega
      · exact e
theorem setsOf_keys (l : List PlantElement) : ∀ (r : List Visit), ((setsOf l r).map Setting.element).Sublist (elems r)
  | [] => by simp [setsOf, elems]
  | v :: r => by
    have ih := setsOf_keys l r
    have h1 := setV_len l v
    have h2 := fun s => setV_el (l := l) (v := v) (s := s)
    unfold setsOf elems at *
    rw [List.flatMap_cons, List.map_append, List.map_cons]
    generalize setV l v = q at *
    match q, h1 with
    | [], _ => exact (List.Sublist.cons _ ih)
    | [s], _ =>
      have := h2 s (by simp)
      simp only [List.map_cons, List.map_nil, List.cons_append, List.nil_append]
      rw [this]
      exact List.Sublist.cons_cons _ ih
/-! ### The way back -/
def swV (v : Visit) : Visit := Visit.mk v.element v.out v.in_
def rv (r : List Visit) : List Visit := (r.map swV).reverse
theorem rv_len (r : List Visit) : (rv r).length = r.length := by simp [rv]
theorem rv_at {r : List Visit} {i : Nat} (hi : i < r.length) : (rv r)[i]? = (r[r.length - 1 - i]?).map swV := by
  unfold rv
  rw [List.getElem?_reverse (by simpa using hi), List.getElem?_map, List.length_map]
theorem rv_get {r : List Visit} {i : Nat} {v : Visit} (h : (rv r)[i]? = some v) : i < r.length ∧ ∃ u, r[r.length - 1 - i]? = some u ∧ v = swV u := by
  have hlt := (List.getElem?_eq_some_iff.1 h).1
  rw [rv_len] at hlt
  rw [rv_at hlt] at h
  obtain ⟨u, hu, hv⟩ := Option.map_eq_some_iff.1 h
  exact ⟨hlt, u, hu, hv.symm⟩
theorem rv_way {l : List PlantElement} (hP : PlOk l) {r : List Visit} (h : WayP l r) : WayP l (rv r) := by
  have two := h.two
  refine ⟨by rw [rv_len]; exact two, fun v hv => ?_, fun v hv => ?_, fun i v w hv hw => ?_, fun i v hi hi2 hv => ?_⟩
  · obtain ⟨_, u, hu, rfl⟩ := rv_get hv
    rw [Nat.sub_zero] at hu
    have := h.en u hu
    exact ⟨this.1, this.2, h.ins (by omega) hu⟩
  · rw [rv_len] at hv
    obtain ⟨_, u, hu, rfl⟩ := rv_get hv
    have e : r.length - 1 - (r.length - 1) = 0 := by omega
    rw [e] at hu
    have := h.st u hu
    exact ⟨this.1, this.2.1⟩
  · obtain ⟨a1, b, hb, rfl⟩ := rv_get hv
    obtain ⟨a2, a, ha, rfl⟩ := rv_get hw
    have e : r.length - 1 - i = r.length - 1 - (i + 1) + 1 := by omega
    rw [e] at hb
    obtain ⟨p, q, s⟩ := h.step _ a b ha hb
    have ho := h.outs (by omega) ha
    refine ⟨p.symm, (eI_mem ho).1, ?_⟩
    show a.element = nbr l b.element b.in_
    rw [p, s]
    exact (hP.nbr_sym ho (by rw [← s]; exact q)).symm
  · obtain ⟨a1, b, hb, rfl⟩ := rv_get hv
    rw [rv_len] at hi2
    have := h.mid (r.length - 1 - i) b (by omega) (by omega) hb
    exact (hP.thr_sym this).1
theorem nodup_rev {q : List Int} (h : q.Nodup) : q.reverse.Nodup := (List.reverse_perm q).nodup_iff.2 h
theorem rv_elems (r : List Visit) : elems (rv r) = (elems r).reverse := by
  unfold elems rv
  rw [List.map_reverse, List.map_map]
  rfl
theorem rv_rt {l : List PlantElement} (hP : PlOk l) {r : List Visit} (h : RtP l r) : RtP l (rv r) := ⟨h.1, rv_way hP h.2.1, by rw [rv_elems]; exact nodup_rev h.2.2⟩
theorem setV_sw (l : List PlantElement) (v : Visit) : setV l (swV v) = setV l v := by
  unfold setV
  show (match l[v.element.toNat]? with | some x => setE x (swV v) | none => []) = _
  cases l[v.element.toNat]? with
  | none => rfl
  | some x =>
    show setE x (swV v) = setE x v
    unfold setE swV
    simp only [Or.comm]
theorem setsOf_rv {l : List PlantElement} {r : List Visit} {s : Setting} : s ∈ setsOf l (rv r) ↔ s ∈ setsOf l r := by
  unfold setsOf rv
  simp only [List.mem_flatMap, List.mem_reverse, List.mem_map]
  constructor
  · rintro ⟨_, ⟨v, hv, rfl⟩, hs⟩
    rw [setV_sw] at hs
    exact ⟨v, hv, hs⟩
  · rintro ⟨v, hv, hs⟩
    exact ⟨_, ⟨v, hv, rfl⟩, by rw [setV_sw]; exact hs⟩
theorem sets_same {l : List PlantElement} {r : List Visit} (h : (elems r).Nodup) : sorted (setsOf l r) = sorted (setsOf l (rv r)) := by
  have k1 : ((setsOf l r).map Setting.element).Nodup := h.sublist (setsOf_keys l r)
  have k2 : ((setsOf l (rv r)).map Setting.element).Nodup := (show (elems (rv r)).Nodup by rw [rv_elems]; exact nodup_rev h).sublist (setsOf_keys l (rv r))
  refine same_lists (sorted_lt k1) (sorted_lt k2) fun x => ?_
  rw [sorted_mem, sorted_mem, setsOf_rv]
/-! ### RouteReverses -/
theorem back_loop (N : Nat) {r : List Visit} (hl : r.length ≤ 100000) : ∀ (k n : Nat) (acc : List Visit), k < n → k ≤ r.length → acc.length + k ≤ 100000 → l27_RouteReverses_2 N r n acc ((k : Int) - 1) = some (acc ++ rv (r.take k))
  | k, 0, acc, hn, _, _ => by omega
  | 0, n + 1, acc, hn, hk, ha => by
    rw [l27_RouteReverses_2, if_neg (lneg (by omega))]
    simp [rv]
  | k + 1, n + 1, acc, hn, hk, ha => by
    have hv := at_lt (xs := r) (i := k) (by omega)
    have e : ((k + 1 : Nat) : Int) - 1 = (k : Int) := by omega
    rw [l27_RouteReverses_2, e, if_pos (lpos (by omega))]
    simp only [getI_nat hv, bind_some']
    rw [appI_ok (by simp; omega), bind_some', lt_def, w64 (by omega) (by omega), back_loop N hl k n _ (by omega) (by omega) (by simp; omega), take_at hv]
    unfold rv
    rw [List.map_append, List.reverse_append, List.append_assoc]
    rfl
theorem ssame_ok (N : Nat) {a : List Setting} (hN : a.length < N) (hl : a.length ≤ 1000000) : yardgen_SameSettings N a a = some true := by
  have key : ∀ (k n i : Nat), k < n → i + k = a.length → r29_SameSettings_0 N a a n i = some (.inl ()) := by
    intro k
    induction k with
    | zero =>
      intro n i hn hi
      obtain ⟨n, rfl⟩ : ∃ m, n = m + 1 := ⟨n - 1, by omega⟩
      rw [r29_SameSettings_0, if_neg (dneg (by omega))]
    | succ k ih =>
      intro n i hn hi
      obtain ⟨n, rfl⟩ : ∃ m, n = m + 1 := ⟨n - 1, by omega⟩
      have hv := at_lt (xs := a) (i := i) (by omega)
      rw [r29_SameSettings_0, if_pos (dpos (by omega)), getI_nat hv, bind_some', bind_some', if_neg (by simp), lt_def, w64s (by omega)]
      exact ih n (i + 1) (by omega) (by omega)
  have h := key a.length N 0 hN (by omega)
  have h : r29_SameSettings_0 N a a N 0 = some (.inl ()) := h
  unfold yardgen_SameSettings r29_SameSettings
  rw [if_neg (by simp), h]
  rfl
theorem rev_one (N : Nat) (hN : 100000 ≤ N) {l : List PlantElement} (hP : MadeP l) {c : Int} {s : Maker} (hs : Mk c s) (hc : c ≤ 1000000) : ∃ s', l27_RouteReverses_1 N s l = some (.inl s') ∧ Mk (c + 2) s' := by
  have hll := hP.ok.len
  unfold l27_RouteReverses_1
  obtain ⟨a, b, s', h1, h2, h3, h4⟩ := ends_ok N (l := l) (by omega) (by omega) hP.fst hs hc
  rw [h1, bind_some']
  simp only []
  rcases rfind_ok N hN hP.ok a b with ⟨g1, _⟩ | ⟨t1, t2, t3, g⟩
  · rw [g1, bind_some', if_pos (by simp)]
    exact ⟨s', rfl, h2⟩
  · rcases g with g | g | ⟨r, g1, g2, g3, g4, g5, g6⟩
    · rw [g, bind_some', if_pos (by simp)]
      exact ⟨s', rfl, h2⟩
    · rw [g, bind_some', if_pos (by simp)]
      exact ⟨s', rfl, h2⟩
    · rw [g1, bind_some', if_neg (by simp), lt_def]
      have two := g2.2.1.two
      have hb := back_loop N (r := r) (by omega) r.length N [] (by omega) (by omega) (by simp; omega)
      rw [List.take_length, List.nil_append] at hb
      have hrv := rv_rt hP.ok g2
      simp only []
      rw [w64 (by omega) (by omega), hb, bind_some', settings_ok N (by omega) hP.ok g2 (by omega), bind_some', settings_ok N (by omega) hP.ok hrv (by rw [rv_len]; omega), bind_some']
      simp only []
      have f0 : ∀ v, (rv r)[0]? = some v → v.element = b := fun v hv => by
        obtain ⟨_, u, hu, rfl⟩ := rv_get hv
        rw [Nat.sub_zero] at hu
        exact g5 u hu
      have fz : ∀ v, (rv r)[(rv r).length - 1]? = some v → v.element = a := fun v hv => by
        rw [rv_len] at hv
        obtain ⟨_, u, hu, rfl⟩ := rv_get hv
        have e : r.length - 1 - (r.length - 1) = 0 := by omega
        rw [e] at hu
        exact g4 u hu
      obtain ⟨vb, v1, _, v3⟩ := vals_eq N (by omega) hP.ok (w := rv r) (by rw [rv_len]; omega)
      have v1 : route_Valid N l (rv r) = some true := by rw [v1, v3.2 hrv]
      have hsl := setsOf_len l r
      have hss : yardgen_SameSettings N (sorted (setsOf l r)) (sorted (setsOf l (rv r))) = some true := by
        rw [← sets_same g2.2.2]
        exact ssame_ok N (by rw [sorted_len]; omega) (by rw [sorted_len]; omega)
      rcases find_short N (by omega) hP.ok hrv.2.1 f0 fz (fun hh => t3 hh.symm) with q | ⟨w, q, q2, q3, q4, q5⟩
      · rw [q, bind_some']
        have : l27_RouteReverses_3 N l r (rv r) (sorted (setsOf l r)) 0 (sorted (setsOf l (rv r))) 0 [] 17 = some false := by
          unfold l27_RouteReverses_3
          rw [v1, bind_some', if_neg (by simp), if_neg (by simp), if_neg (by simp), hss, bind_some', if_neg (by simp), if_neg (by simp), if_pos (by simp)]
          rfl
        simp only []
        rw [this, bind_some', if_neg (by simp)]
        exact ⟨s', rfl, h2⟩
      · have hlen : w.length = r.length := by
          rw [rv_len] at q3
          have hw := rv_rt hP.ok q2
          have := g6 (rv w) hw.2.1 (fun v hv => by
            obtain ⟨_, u, hu, rfl⟩ := rv_get hv
            rw [Nat.sub_zero] at hu
            exact q5 u hu) (fun v hv => by
            rw [rv_len] at hv
            obtain ⟨_, u, hu, rfl⟩ := rv_get hv
            have e : w.length - 1 - (w.length - 1) = 0 := by omega
            rw [e] at hu
            exact q4 u hu)
          rw [rv_len] at this
          omega
        rw [q, bind_some']
        have : l27_RouteReverses_3 N l r (rv r) (sorted (setsOf l r)) 0 (sorted (setsOf l (rv r))) 0 w 0 = some false := by
          unfold l27_RouteReverses_3
          rw [v1, bind_some', if_neg (by simp), if_neg (by simp), if_neg (by simp), hss, bind_some', if_neg (by simp), if_pos (by simp), if_neg (by rw [hlen]; simp), if_neg (by simp)]
        simp only []
        rw [this, bind_some', if_neg (by simp)]
        exact ⟨s', rfl, h2⟩
theorem rev_loop (N : Nat) (hN : 100000 ≤ N) {l : List PlantElement} (hP : MadeP l) : ∀ (k n i : Nat) (c : Int) (s : Maker), k < n → i + k = 4 → Mk c s → c + 2 * k ≤ 1000000 → l27_RouteReverses_0 N l n s i = some (.inl ())
  | k, 0, i, c, s, hn, _, _, _ => by omega
  | 0, n + 1, i, c, s, hn, hi, hs, hc => by
    obtain rfl : i = 4 := by omega
    rw [l27_RouteReverses_0, if_neg (dneg (by omega))]
  | k + 1, n + 1, i, c, s, hn, hi, hs, hc => by
    obtain ⟨s', h1, h2⟩ := rev_one N hN hP hs (by omega)
    rw [l27_RouteReverses_0, if_pos (dpos (by omega)), h1, bind_some']
    simp only [lt_def]
    rw [w64s (by omega)]
    exact rev_loop N hN hP k n (i + 1) (c + 2) s' (by omega) (by omega) h2 (by omega)
/-- The reverse of a route is a route with the same settings. -/
theorem rrevT (t : List Int) : ∃ N, l27_RouteReverses N t = some true := by
  refine ⟨100000, ?_⟩
  unfold l27_RouteReverses gen_New
  rw [bind_some']
  obtain ⟨l, s, h1, h2, h3⟩ := plant_ok 100000 (by omega) (mk0 t) (k := 18) (by omega)
  rw [h1, bind_some']
  simp only []
  have := rev_loop 100000 (by omega) h3 4 100000 0 30000 s (by omega) (by omega) h2 (by omega)
  have this : l27_RouteReverses_0 100000 l 100000 s 0 = some (.inl ()) := this
  rw [this, bind_some']
  simp only []
  rw [sane27' (by omega), bind_some']
end Go.W
end
section
set_option linter.unusedVariables false
set_option linter.unusedSimpArgs false
namespace Go.W
open Go.AM
theorem WayP.inner {l : List PlantElement} {r : List Visit} (h : WayP l r) {i : Nat} {v : Visit} {x : PlantElement} (hv : r[i]? = some v) (hx : l[v.element.toNat]? = some x) (hk : x.kind ≠ 1) : v.out ∈ thrE (endsP x) v.in_ := by
  have hlt := (List.getElem?_eq_some_iff.1 hv).1
  have two := h.two
  by_cases h0 : i = 0
  · subst h0
    obtain ⟨_, y, hy, hk'⟩ := (h.st v hv).1
    rw [hx] at hy; cases hy; exact absurd hk' hk
  · by_cases h1 : i + 1 < r.length
    · have hm := h.mid i v (by omega) h1 hv
      unfold thr at hm
      have he := (h.ok v (List.mem_of_getElem? hv)).1
      obtain ⟨j, hj⟩ := Int.eq_ofNat_of_zero_le he
      rw [hj] at hx hm
      rw [Int.toNat_natCast] at hx
      rw [eI_nat hx] at hm
      exact hm
    · have e : i = r.length - 1 := by omega
      rw [e] at hv
      obtain ⟨_, y, hy, hk'⟩ := (h.en v hv).1
      rw [hx] at hy; cases hy; exact absurd hk' hk
theorem sx4 (N : Nat) {s : List Setting} {j : Nat} {y : Setting} (hy : s[j]? = some y) (x : PlantElement) (h : x.kind = 3 → y.position = 3) : l27_RouteSets_4 N s x j = some false := by
  unfold l27_RouteSets_4
  by_cases hk : x.kind = 3
  · rw [if_pos (by simpa using hk), getI_nat hy, bind_some', bind_some', lt_def, h hk]
    rfl
  · rw [if_neg (by simpa using hk)]
theorem switch_cases {x : PlantElement} (hx : soundP x = true) (hk : x.kind = 2) {n m : Int} (h : m ∈ thrE (endsP x) n) : x.a ≠ x.b ∧ x.a ≠ x.c ∧ x.b ≠ x.c ∧ ((n = x.a ∧ thrE (endsP x) n = [x.b, x.c] ∧ (m = x.b ∨ m = x.c)) ∨ (n = x.b ∧ m = x.a) ∨ (n = x.c ∧ m = x.a)) := by
  have hd := (soundP_ends hx).1
  have he : endsP x = [x.a, x.b, x.c] := by unfold endsP; rw [if_neg (by omega), if_pos hk]
  rw [he] at h hd ⊢
  simp at hd
  refine ⟨hd.1.1, hd.1.2, hd.2, ?_⟩
  obtain ⟨h1, h2⟩ := thrE_mem h
  unfold thrE at h ⊢
  rw [if_pos (by simpa using h1)] at h
  rw [if_pos (by simpa using h1)]
  simp only [List.head?_cons, Option.some.injEq, List.tail_cons, List.take_succ_cons, List.take_zero] at h ⊢
  by_cases ha : x.a = n
  · rw [if_pos ha] at h ⊢
    simp at h
    exact .inl ⟨ha.symm, rfl, h⟩
  · rw [if_neg ha] at h
    simp at h h1
    rcases h1 with h1 | h1 | h1
    · exact absurd h1.symm ha
    · exact .inr (.inl ⟨h1, h⟩)
    · exact .inr (.inr ⟨h1, h⟩)
theorem sx3 (N : Nat) (hN : 4000 ≤ N) {l : List PlantElement} (hP : PlOk l) {r : List Visit} (hr : RtP l r) {s : List Setting} (hs : ∀ y ∈ s, ∃ v ∈ r, y ∈ setV l v) {i j : Nat} {v : Visit} {x : PlantElement} {y : Setting} (hv : r[i]? = some v) (hx : l[v.element.toNat]? = some x) (hy : s[j]? = some y) :
    l27_RouteSets_3 N l r s i x j = some (.inl ()) := by
  unfold l27_RouteSets_3
  simp only [getI_nat hv, getI_nat hy, bind_some']
  by_cases he : y.element = v.element
  · rw [if_neg (by simpa using he), rthr_ok N (by omega), bind_some']
    have hyv : y ∈ setV l v := by
      obtain ⟨u, hu, hyu⟩ := hs y (List.mem_of_getElem? hy)
      have e := setV_el hyu
      have huv : u = v := by
        obtain ⟨k, hk⟩ := List.getElem?_of_mem hu
        have hki : k = i := by
          have hnd := hr.2.2
          have hk1 := (List.getElem?_eq_some_iff.1 hk).1
          have hi1 := (List.getElem?_eq_some_iff.1 hv).1
          rw [List.nodup_iff_pairwise_ne] at hnd
          have hpw := List.pairwise_iff_getElem.1 hnd
          have gk : (elems r)[k]'(by simpa [elems] using hk1) = u.element := by
            have := (List.getElem?_eq_some_iff.1 hk).2
            simp [elems, this]
          have gi : (elems r)[i]'(by simpa [elems] using hi1) = v.element := by
            have := (List.getElem?_eq_some_iff.1 hv).2
            simp [elems, this]
          rcases Nat.lt_trichotomy k i with h | h | h
          · have := hpw k i (by simpa [elems] using hk1) (by simpa [elems] using hi1) h
            rw [gk, gi] at this; omega
          · exact h
          · have := hpw i k (by simpa [elems] using hi1) (by simpa [elems] using hk1) h
            rw [gk, gi] at this; omega
        subst hki
        rw [hv] at hk; cases hk; rfl
      subst huv
      exact hyu
    have hset : setV l v = setE x v := by unfold setV; rw [hx]
    rw [hset] at hyv
    have hsound := hP.snd x (List.mem_of_getElem? hx)
    have h0 := (hr.2.1.ok v (List.mem_of_getElem? hv)).1
    have hthr : thr l v.element v.in_ = thrE (endsP x) v.in_ := by
      obtain ⟨q, hq⟩ := Int.eq_ofNat_of_zero_le h0
      rw [hq] at hx ⊢
      rw [Int.toNat_natCast] at hx
      unfold thr
      rw [eI_nat hx]
    rw [sx4 N hy x (fun hk => by
      unfold setE at hyv
      rw [if_pos hk] at hyv
      simp at hyv; subst hyv; rfl), bind_some', if_neg (by simp)]
    by_cases hk : x.kind = 2
    · have hout := hr.2.1.inner hv hx (by omega)
      obtain ⟨d1, d2, d3, hc⟩ := switch_cases hsound hk hout
      have hpos : y.position = if v.in_ = x.b ∨ v.out = x.b then 1 else 2 := by
        unfold setE at hyv
        rw [if_neg (by omega), if_pos hk] at hyv
        split at hyv
        · rename_i hh; rw [if_pos hh]; simp at hyv; subst hyv; rfl
        · rename_i hh; rw [if_neg hh]; simp at hyv; subst hyv; rfl
      have h5 : l27_RouteSets_5 N r s i x j (thr l y.element v.in_) = some false := by
        unfold l27_RouteSets_5
        rw [if_pos (by simpa using hk)]
        simp only [getI_nat hv, getI_nat hy, bind_some']
        rcases hc with ⟨c1, c2, c3⟩ | ⟨c1, c2⟩ | ⟨c1, c2⟩
        · rw [if_pos (by simpa using c1), he, hthr, c2]
          rcases c3 with c3 | c3
          · rw [if_pos (.inr c3)] at hpos
            rw [hpos]
            have w0 : IntKind.wrap .i64 ((1 : Int) - 1) = 0 := by rw [w64] <;> omega
            have g0 : getI [x.b, x.c] 0 = some x.b := rfl
            rw [if_neg (by simp), if_neg (by simp), w0, g0]
            simp only [bind_some', lt_def, c3]
            simp
          · rw [if_neg (by rintro (hh | hh) <;> omega)] at hpos
            rw [hpos]
            have w0 : IntKind.wrap .i64 ((2 : Int) - 1) = 1 := by rw [w64] <;> omega
            have g0 : getI [x.b, x.c] 1 = some x.c := rfl
            rw [if_neg (by simp), if_neg (by simp), w0, g0]
            simp only [bind_some', lt_def, c3]
            simp
        · rw [if_neg (by rw [c1]; simpa using fun hh => d1 hh.symm)]
        · rw [if_neg (by rw [c1]; simpa using fun hh => d2 hh.symm)]
      rw [h5, bind_some', if_neg (by simp)]
      have h6 : l27_RouteSets_6 N r s i x j = some false := by
        unfold l27_RouteSets_6
        rw [if_pos (by simpa using hk)]
        simp only [getI_nat hv, getI_nat hy, bind_some']
        rcases hc with ⟨c1, c2, c3⟩ | ⟨c1, c2⟩ | ⟨c1, c2⟩
        · rw [if_neg (by simpa using c1)]
        · rw [if_pos (by rw [c1]; simpa using fun hh => d1 hh.symm), lt_def, hpos, if_pos (.inl c1), c1]
          simp
        · have hb : ¬ (v.in_ = x.b ∨ v.out = x.b) := by rintro (hh | hh) <;> omega
          rw [if_pos (by rw [c1]; simpa using fun hh => d2 hh.symm), lt_def, hpos, if_neg hb, c1]
          have : (x.c == x.b) = false := by simpa using fun hh => d3 hh.symm
          rw [this]; rfl
      rw [h6, bind_some', if_neg (by simp)]
    · have h5 : l27_RouteSets_5 N r s i x j (thr l y.element v.in_) = some false := by
        unfold l27_RouteSets_5
        rw [if_neg (by simpa using hk)]
      have h6 : l27_RouteSets_6 N r s i x j = some false := by
        unfold l27_RouteSets_6
        rw [if_neg (by simpa using hk)]
      rw [h5, bind_some', if_neg (by simp), h6, bind_some', if_neg (by simp)]
  · rw [if_pos (by simpa using he)]
theorem sx2 (N : Nat) (hN : 4000 ≤ N) {l : List PlantElement} (hP : PlOk l) {r : List Visit} (hr : RtP l r) {s : List Setting} (hsl : s.length ≤ 100000) (hs : ∀ y ∈ s, ∃ v ∈ r, y ∈ setV l v) {i : Nat} {v : Visit} {x : PlantElement} (hv : r[i]? = some v) (hx : l[v.element.toNat]? = some x) :
    ∀ (k n j : Nat), k < n → j + k = s.length → l27_RouteSets_2 N l r s i x n j = some (.inl ())
  | k, 0, j, hn, _ => by omega
  | 0, n + 1, j, hn, hj => by
    rw [l27_RouteSets_2, if_neg (dneg (by omega))]
  | k + 1, n + 1, j, hn, hj => by
    have hy := at_lt (xs := s) (i := j) (by omega)
    rw [l27_RouteSets_2, if_pos (dpos (by omega)), sx3 N hN hP hr hs hv hx hy, bind_some']
    simp only [lt_def]
    rw [w64s (by omega)]
    exact sx2 N hN hP hr hsl hs hv hx k n (j + 1) (by omega) (by omega)
theorem sx0 (N : Nat) (hN : 200000 ≤ N) {l : List PlantElement} (hP : PlOk l) {r : List Visit} (hr : RtP l r) (hrl : r.length ≤ 3000) {s : List Setting} (hsl : s.length ≤ 100000) (hs : ∀ y ∈ s, ∃ v ∈ r, y ∈ setV l v) :
    ∀ (k n i : Nat), k < n → i + k = r.length → l27_RouteSets_0 N l r s n ((setsOf l (r.take i)).length : Int) i = some (.inl ((setsOf l r).length : Int))
  | k, 0, i, hn, _ => by omega
  | 0, n + 1, i, hn, hi => by
    obtain rfl : i = r.length := by omega
    rw [l27_RouteSets_0, if_neg (dneg (by omega)), List.take_length]
  | k + 1, n + 1, i, hn, hi => by
    have hlt : i < r.length := by omega
    have hv := at_lt hlt
    obtain ⟨h0, h1⟩ := hr.2.1.ok _ (List.mem_of_getElem? hv)
    obtain ⟨q, hq⟩ := Int.eq_ofNat_of_zero_le h0
    have hx := at_lt (xs := l) (i := q) (by omega)
    have hx2 : l[(r[i]).element.toNat]? = some (l[q]'(by omega)) := by rw [hq, Int.toNat_natCast]; exact hx
    have hg : getI l (r[i]).element = some (l[q]'(by omega)) := by rw [hq]; exact getI_nat hx
    have hlen := setsOf_len l (r.take i)
    rw [List.length_take] at hlen
    have htk : (setsOf l (r.take (i + 1))).length = (setsOf l (r.take i)).length + (setV l r[i]).length := by
      rw [take_at hv]
      unfold setsOf
      rw [List.flatMap_append, List.length_append, List.flatMap_cons, List.flatMap_nil, List.append_nil]
    have hsound := hP.snd _ (List.mem_of_getElem? hx)
    have hk1 : l27_RouteSets_1 N ((setsOf l (r.take i)).length : Int) ((l[q]'(by omega)).kind != 1) = some ((setsOf l (r.take (i + 1))).length : Int) := by
      rw [htk]
      have hset : setV l r[i] = setE (l[q]'(by omega)) r[i] := by unfold setV; rw [hx2]
      rw [hset]
      generalize l[q]'(by omega) = x at hsound ⊢
      have hne := (soundP_ends hsound).2.2.1
      unfold l27_RouteSets_1
      by_cases k1 : x.kind = 1
      · rw [if_neg (by simpa using k1)]
        have : setE x r[i] = [] := by unfold setE; rw [if_neg (by omega), if_neg (by omega)]
        rw [this]; simp
      · rw [if_pos (by simpa using k1), lt_def, w64s (by omega)]
        have : (setE x r[i]).length = 1 := by
          unfold endsP at hne
          unfold setE
          by_cases k3 : x.kind = 3
          · rw [if_pos k3]; rfl
          · by_cases k2 : x.kind = 2
            · rw [if_neg k3, if_pos k2]; split <;> rfl
            · rw [if_neg (by omega), if_neg k2] at hne; exact absurd rfl hne
        rw [this]
    have h2 := sx2 N (by omega) hP hr hsl hs hv hx2 s.length N 0 (by omega) (by omega)
    have h2 : l27_RouteSets_2 N l r s i (l[q]'(by omega)) N 0 = some (.inl ()) := h2
    rw [l27_RouteSets_0, if_pos (dpos (by omega)), getI_nat hv, bind_some', hg, bind_some', hk1, bind_some', h2, bind_some']
    simp only [lt_def]
    rw [w64s (by omega)]
    exact sx0 N hN hP hr hrl hsl hs k n (i + 1) (by omega) (by omega)
theorem sx7 (N : Nat) {s : List Setting} (hsl : s.length ≤ 100000) (hlt : s.Pairwise fun a b => a.element < b.element) : ∀ (k n i : Nat), k < n → (i + 1) + k = max s.length (i + 1) → l27_RouteSets_7 N s n ((i + 1 : Nat) : Int) = some (.inl ())
  | k, 0, i, hn, _ => by omega
  | 0, n + 1, i, hn, hi => by
    rw [l27_RouteSets_7, if_neg (dneg (by omega))]
  | k + 1, n + 1, i, hn, hi => by
    have h1 := at_lt (xs := s) (i := i + 1) (by omega)
    have h0 := at_lt (xs := s) (i := i) (by omega)
    have := List.pairwise_iff_getElem.1 hlt i (i + 1) (by omega) (by omega) (by omega)
    rw [l27_RouteSets_7, if_pos (dpos (by omega))]
    simp only [getI_nat h1, bind_some', w64p (show i < 9223372036854775807 by omega), getI_nat h0]
    rw [if_neg (lneg (by omega)), lt_def, w64s (by omega)]
    exact sx7 N hsl hlt k n (i + 1) (by omega) (by omega)
/-- Settings. -/
theorem rsetsT (t : List Int) : ∃ N, l27_RouteSets N t = some true := by
  refine ⟨200000, ?_⟩
  unfold l27_RouteSets gen_New
  rw [bind_some']
  obtain ⟨l, s, h1, h2, hP⟩ := plant_ok 200000 (by omega) (mk0 t) (k := 18) (by omega)
  have hll := hP.ok.len
  rw [h1, bind_some']
  simp only []
  obtain ⟨a, b, s', e1, e2, e3, e4⟩ := ends_ok 200000 (l := l) (by omega) (by omega) hP.fst h2 (by omega)
  rw [e1, bind_some']
  simp only []
  rcases rfind_ok 200000 (by omega) hP.ok a b with ⟨g1, _⟩ | ⟨t1, t2, t3, g⟩
  · rw [g1, bind_some', if_pos (by simp), sane27' (by omega), bind_some']
  · rcases g with g | g | ⟨r, g1, g2, g3, g4, g5, g6⟩
    · rw [g, bind_some', if_pos (by simp), sane27' (by omega), bind_some']
    · rw [g, bind_some', if_pos (by simp), sane27' (by omega), bind_some']
    · rw [g1, bind_some', if_neg (by simp)]
      simp only []
      rw [settings_ok 200000 (by omega) hP.ok g2 (by omega), bind_some', if_neg (by simp)]
      have hsl := setsOf_len l r
      have hsl2 := sorted_len (setsOf l r)
      have hlt := sorted_lt (g2.2.2.sublist (setsOf_keys l r))
      simp only []
      have h0 := sx0 200000 (by omega) hP.ok g2 (by omega) (s := sorted (setsOf l r)) (by omega) (fun y hy => by
        rw [sorted_mem] at hy
        unfold setsOf at hy
        exact List.mem_flatMap.1 hy) r.length 200000 0 (by omega) (by omega)
      have h0 : l27_RouteSets_0 200000 l r (sorted (setsOf l r)) 200000 0 0 = some (.inl ((setsOf l r).length : Int)) := h0
      have h7 := sx7 200000 (s := sorted (setsOf l r)) (by omega) hlt ((sorted (setsOf l r)).length - 1) 200000 0 (by omega) (by omega)
      have h7 : l27_RouteSets_7 200000 (sorted (setsOf l r)) 200000 1 = some (.inl ()) := h7
      rw [h0, bind_some']
      simp only []
      rw [h7, bind_some']
      simp only []
      have h8 : l27_RouteSets_8 200000 (sorted (setsOf l r)) ((setsOf l r).length : Int) = some true := by
        unfold l27_RouteSets_8
        rw [hsl2, if_pos (by simp), sane27' (by omega), bind_some']
      rw [h8, bind_some']
end Go.W
end
