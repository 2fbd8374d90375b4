/- LRtW LRtF LRtE LRtG -/
import Derived.Test.YtkbomolgmgeogaaMe
section
set_option linter.unusedVariables false
set_option linter.unusedSimpArgs false
namespace Go.W
open Go.AM
/-- A route through a plant. -/
def RtP (l : List PlantElement) (r : List Visit) : Prop := vErr l = 0 ∧ WayP l r ∧ (elems r).Nodup
theorem pVal_ok (N : Nat) {l : List PlantElement} {r : List Visit} (hN : r.length + l.length + 200 ≤ N) (hl : l.length ≤ 1000000) (hr : r.length ≤ 1000000) (hs : l.length ≤ 96 → ∀ x ∈ l, endsP x ≠ [] ∨ pnOk x.name = false) : ∃ b, route_Valid N l r = some b ∧ (b = true ↔ RtP l r) := by
  unfold route_Valid route_Valid_0 RtP
  rw [pvalid_ok N (by omega) hs, bind_some']
  by_cases h0 : vErr l = 0
  · rw [if_pos (by simpa using h0)]
    obtain ⟨b, h1, h2⟩ := pway_ok N (l := l) (r := r) (by omega) hl hr
    obtain ⟨c, h3, h4⟩ := twice_ok N (r := r) (by omega) hr
    rw [h1, bind_some']
    cases b with
    | true =>
      rw [if_pos rfl, h3]
      simp only [bind_some', lt_def]
      refine ⟨!c, rfl, ?_⟩
      simp only [Bool.not_eq_true', h4]
      exact ⟨fun h => ⟨h0, h2.1 rfl, h⟩, fun h => h.2.2⟩
    | false =>
      rw [if_neg (by simp), bind_some']
      refine ⟨false, rfl, ?_⟩
      simp only [Bool.false_eq_true, false_iff]
      intro h
      have := h2.2 h.2.1
      cases this
  · rw [if_neg (by simpa using h0), bind_some']
    exact ⟨false, rfl, by simp [h0]⟩
theorem or_end {a : Bool} {x : Option Bool} {p q : Prop} (ha : a = false ↔ p) (hx : ∃ b, x = some b ∧ (b = false ↔ q)) : ∃ b, (if a = true then some true else x) = some b ∧ (b = false ↔ p ∧ q) := or_cond ha hx
theorem rVal_ok (N : Nat) {l : List PlantElement} {r : List Visit} (hN : r.length + l.length + 200 ≤ N) (hl : l.length ≤ 1000000) (hr : r.length ≤ 1000000) (hnm : l.length ≤ 96 → ∀ x ∈ l, x.name.length < N ∧ x.name.length ≤ 9223372036854775807) : ∃ b, r27_Valid N l r = some b ∧ (b = true ↔ RtP l r) := by
  unfold r27_Valid
  rw [lt_def]
  by_cases h0 : vErr l = 0
  case neg =>
    have h : r27_Valid_0 N l r (IntKind.wrap .i64 ((r.length : Int) - 1)) = some true := by
      unfold r27_Valid_0
      rw [rvalid_ok N (by omega) hnm, bind_some', if_pos (by simpa using h0)]
    rw [h, bind_some', if_pos rfl]
    exact ⟨false, rfl, by simp [RtP, h0]⟩
  by_cases h2 : r.length < 2
  · have h : r27_Valid_0 N l r (IntKind.wrap .i64 ((r.length : Int) - 1)) = some true := by
      unfold r27_Valid_0
      rw [rvalid_ok N (by omega) hnm, bind_some', if_neg (by simpa using h0), if_pos (dpos (by rw [w64 (by omega) (by omega)]; omega))]
    rw [h, bind_some', if_pos rfl]
    refine ⟨false, rfl, ?_⟩
    simp only [Bool.false_eq_true, false_iff]
    intro hw
    have := hw.2.1.two
    omega
  have hw : IntKind.wrap .i64 ((r.length : Int) - 1) = ((r.length - 1 : Nat) : Int) := by rw [w64 (by omega) (by omega)]; omega
  rw [hw]
  have h0' := at_lt (xs := r) (i := 0) (by omega)
  have hz := at_lt (xs := r) (i := r.length - 1) (by omega)
  generalize hv0 : r[0]'(by omega) = v at h0'
  generalize hvz : r[r.length - 1]'(by omega) = w at hz
  have g0 : getI r 0 = some v := getI_nat h0'
  have gz : getI r ((r.length - 1 : Nat) : Int) = some w := getI_nat hz
  have st' : ∀ {x}, r[0]? = some x → x = v := fun hx => by rw [h0'] at hx; cases hx; rfl
  have en' : ∀ {x}, r[r.length - 1]? = some x → x = w := fun hx => by rw [hz] at hx; cases hx; rfl
  have c0 : ∃ b, r27_Valid_0 N l r ((r.length - 1 : Nat) : Int) = some b ∧ (b = false ↔ trk l v.element ∧ trk l w.element ∧ v.in_ = -1 ∧ w.out = -1) := by
    unfold r27_Valid_0
    rw [rvalid_ok N (by omega) hnm, bind_some', if_neg (by simpa using h0), if_neg (dneg (by omega))]
    simp only [g0, gz, bind_some', rtrk_ok]
    exact or_cond notdec (or_cond notdec (or_cond bne_f ⟨_, rfl, bne_f⟩))
  obtain ⟨b0, p0, q0⟩ := c0
  rw [p0, bind_some']
  cases b0 with
  | true =>
    rw [if_pos rfl]
    refine ⟨false, rfl, ?_⟩
    simp only [Bool.false_eq_true, false_iff]
    intro hh
    have a := hh.2.1.st v h0'
    have b := hh.2.1.en w hz
    have := q0.2 ⟨a.1, b.1, a.2.1, b.2⟩
    cases this
  | false =>
    rw [if_neg (by simp)]
    have q0 := q0.1 rfl
    let nx : Nat → Visit := fun i => r.getD (i + 1) (Visit.mk 0 0 0)
    let good : Nat → Visit → Prop := fun i y => (0 ≤ y.element ∧ y.element < l.length ∧ y.element ∉ elems (r.take i)) ∧ (i + 1 < r.length → y.out ∈ eI l y.element ∧ (nx i).in_ = y.out ∧ (nx i).element = nbr l y.element y.out) ∧ (0 < i → i + 1 < r.length → y.out ∈ thr l y.element y.in_)
    have hloop := first_gen (l := r) (fun i y => @decide (¬ good i y) (Classical.propDecidable _)) (fun _ _ => false) (fun m i => r27_Valid_1 N l r ((r.length - 1 : Nat) : Int) m i) (fun m => by
      show r27_Valid_1 N l r _ (m + 1) _ = _
      rw [r27_Valid_1, if_neg (lneg (by omega))]) (fun m i y hy => by
      show r27_Valid_1 N l r _ (m + 1) _ = _
      have hlt := (List.getElem?_eq_some_iff.1 hy).1
      rw [r27_Valid_1, if_pos (lpos (by omega))]
      have hte := thr_len l y.element y.in_
      have hee := eI_len l y.element
      have d2 : ∃ b, r27_Valid_2 N l r i = some b ∧ (b = false ↔ 0 ≤ y.element ∧ y.element < l.length ∧ y.element ∉ elems (r.take i)) := by
        unfold r27_Valid_2
        simp only [getI_nat hy, bind_some']
        rw [cutI_take (by omega), bind_some', visits_ok N (by rw [List.length_take]; omega) (by rw [List.length_take]; omega), bind_some']
        refine or_cond dlt_f (or_cond (p := y.element < l.length) (by simp) ⟨_, rfl, by simp⟩)
      have d3 : ∃ b, r27_Valid_3 N l r ((r.length - 1 : Nat) : Int) i = some b ∧ (b = false ↔ (i + 1 < r.length → y.out ∈ eI l y.element ∧ (nx i).in_ = y.out ∧ (nx i).element = nbr l y.element y.out)) := by
        unfold r27_Valid_3
        by_cases hh : i + 1 < r.length
        · have hx := at_lt hh
          have hgd : nx i = r[i + 1] := by show r.getD (i + 1) (Visit.mk 0 0 0) = _; simp [List.getD, hx]
          rw [if_pos (dpos (by omega)), w64s (by omega)]
          simp only [getI_nat hy, getI_nat hx, bind_some', rEnds_ok]
          rw [rHas_ok N (by omega) (by omega), rnbr_ok N (by omega) (by omega)]
          simp only [bind_some']
          obtain ⟨b, k1, k2⟩ := or_cond (a := !(eI l y.element).contains y.out) ncont (or_cond (a := r[i + 1].in_ != y.out) bne_f (x := some (r[i + 1].element != nbr l y.element y.out)) ⟨_, rfl, bne_f⟩)
          exact ⟨b, k1, by rw [k2, hgd]; simp [hh]⟩
        · rw [if_neg (dneg (by omega))]
          exact ⟨false, rfl, by simp [hh]⟩
      have d4 : ∃ b, r27_Valid_4 N l r ((r.length - 1 : Nat) : Int) i = some b ∧ (b = false ↔ (0 < i → i + 1 < r.length → y.out ∈ thr l y.element y.in_)) := by
        unfold r27_Valid_4
        by_cases hi : 0 < i
        · rw [if_pos (dpos (by omega))]
          by_cases hh : i + 1 < r.length
          · rw [if_pos (dpos (by omega))]
            simp only [getI_nat hy, bind_some']
            rw [rthr_ok N (by omega), bind_some', rHas_ok N (by omega) (by omega), bind_some']
            exact ⟨_, rfl, by rw [ncont]; simp [hi, hh]⟩
          · rw [if_neg (dneg (by omega))]
            exact ⟨false, rfl, by simp [hh]⟩
        · rw [if_neg (dneg (by omega))]
          exact ⟨false, rfl, by simp [hi]⟩
      obtain ⟨b2, r2, s2⟩ := d2
      obtain ⟨b3, r3, s3⟩ := d3
      obtain ⟨b4, r4, s4⟩ := d4
      rw [r2, bind_some']
      cases b2 with
      | true =>
        have hb : ¬ good i y := fun hh => by have := s2.2 hh.1; cases this
        rw [if_pos rfl, @decide_eq_true _ (Classical.propDecidable _) hb, if_pos rfl]
      | false =>
        rw [if_neg (by simp), r3, bind_some']
        cases b3 with
        | true =>
          have hb : ¬ good i y := fun hh => by have := s3.2 hh.2.1; cases this
          rw [if_pos rfl, @decide_eq_true _ (Classical.propDecidable _) hb, if_pos rfl]
        | false =>
          rw [if_neg (by simp), r4, bind_some']
          cases b4 with
          | true =>
            have hb : ¬ good i y := fun hh => by have := s4.2 hh.2.2; cases this
            rw [if_pos rfl, @decide_eq_true _ (Classical.propDecidable _) hb, if_pos rfl]
          | false =>
            have hb : ¬ ¬ good i y := fun hh => hh ⟨s2.1 rfl, s3.1 rfl, s4.1 rfl⟩
            rw [if_neg (by simp), @decide_eq_false _ (Classical.propDecidable _) hb, if_neg (by simp), lt_def, w64s (by omega)]) r.length N 0 (by omega) (by omega)
    simp only [Int.natCast_zero, List.drop_zero] at hloop
    rw [hloop, bind_some']
    have hiff : RtP l r ↔ ∀ (j : Nat) (y : Visit), r[j]? = some y → good j y := by
      constructor
      · rintro ⟨_, hw, hd⟩ j y hj
        have hlt := (List.getElem?_eq_some_iff.1 hj).1
        refine ⟨?_, fun hh => ?_, fun h1 h2 => hw.mid j y h1 h2 hj⟩
        · have hin : 0 ≤ y.element ∧ y.element < l.length := by
            cases j with
            | zero =>
              obtain ⟨a, x, hx, _⟩ := (hw.st y hj).1
              have := (List.getElem?_eq_some_iff.1 hx).1
              omega
            | succ j =>
              have := eI_mem (hw.ins (by omega) hj)
              exact ⟨this.1, this.2.1⟩
          refine ⟨hin.1, hin.2, fun hm => ?_⟩
          unfold elems at hm hd
          obtain ⟨z, hz, hze⟩ := List.mem_map.1 hm
          obtain ⟨i, hi⟩ := List.getElem?_of_mem hz
          rw [List.getElem?_take] at hi
          split at hi
          · rename_i hij
            obtain ⟨hil, hi⟩ := List.getElem?_eq_some_iff.1 hi
            obtain ⟨_, hj⟩ := List.getElem?_eq_some_iff.1 hj
            have := List.pairwise_iff_getElem.1 hd i j (by simpa using hil) (by simpa using hlt) hij
            rw [List.getElem_map, List.getElem_map, hi, hj] at this
            exact this hze
          · cases hi
        · have hx := at_lt hh
          have hgd : nx j = r[j + 1] := by show r.getD (j + 1) (Visit.mk 0 0 0) = _; simp [List.getD, hx]
          rw [hgd]
          obtain ⟨a, b, c⟩ := hw.step j y _ hj hx
          exact ⟨hw.outs hh hj, a, c⟩
      · intro hh
        refine ⟨h0, ⟨by omega, fun x hx => ?_, fun x hx => ?_, fun i x y hx hy => ?_, fun i x hi hi2 hx => (hh i x hx).2.2 hi hi2⟩, ?_⟩
        · have e := st' hx
          have := (hh 0 x hx).2.1 (by omega)
          rw [e] at this ⊢
          exact ⟨q0.1, q0.2.2.1, this.1⟩
        · rw [en' hx]; exact ⟨q0.2.1, q0.2.2.2⟩
        · have hlt := (List.getElem?_eq_some_iff.1 hy).1
          have := (hh i x hx).2.1 hlt
          have hgd : nx i = y := by show r.getD (i + 1) (Visit.mk 0 0 0) = _; simp [List.getD, hy]
          rw [hgd] at this
          exact ⟨this.2.1, (hh (i + 1) y hy).1.1, this.2.2⟩
        · unfold elems
          refine List.pairwise_iff_getElem.2 fun i j hi hj hij => ?_
          rw [List.getElem_map, List.getElem_map]
          intro he
          have hjr : j < r.length := by simpa using hj
          have hir : i < r.length := by simpa using hi
          refine (hh j r[j] (at_lt hjr)).1.2.2 ?_
          rw [← he]
          unfold elems
          refine List.mem_map.2 ⟨r[i], List.mem_of_getElem? (i := i) ?_, rfl⟩
          rw [List.getElem?_take, if_pos hij, at_lt hir]
    have hres := res_none (p := fun i y => @decide (¬ good i y) (Classical.propDecidable _)) (out := fun _ _ => false) (l := r) (i := 0)
    cases hr2 : res (fun i y => @decide (¬ good i y) (Classical.propDecidable _)) (fun _ _ => false) 0 r with
    | inl u =>
      refine ⟨true, rfl, ?_⟩
      simp only [true_iff]
      refine hiff.2 fun j y hj => ?_
      have := (hres.1 hr2) j y hj
      rw [Nat.zero_add] at this
      exact Classical.not_not.1 (@of_decide_eq_false _ (Classical.propDecidable _) this)
    | inr b =>
      have hbf : b = false := by
        have key : ∀ (e : List Visit) (i : Nat) (b : Bool), res (fun i y => @decide (¬ good i y) (Classical.propDecidable _)) (fun _ _ => false) i e = .inr b → b = false := by
          intro e
          induction e with
          | nil => intro i b h; cases h
          | cons y e ih =>
            intro i b h
            rw [res] at h
            split at h
            · cases h; rfl
            · exact ih _ _ h
        exact key _ _ _ hr2
      subst hbf
      refine ⟨false, rfl, ?_⟩
      simp only [Bool.false_eq_true, false_iff]
      intro hw
      have := hres.2 fun j y hj => by
        rw [Nat.zero_add]
        exact @decide_eq_false _ (Classical.propDecidable _) (fun hh => hh (hiff.1 hw j y hj))
      rw [this] at hr2; cases hr2
end Go.W
end
section
set_option linter.unusedVariables false
set_option linter.unusedSimpArgs false
namespace Go.W
open Go.AM
/-! ### Comparisons -/
def cmpR (a b : Int) : Int := if a < b then -1 else if b < a then 1 else 0
theorem cmp_ok (N : Nat) (a b : Int) : cmp_Compare_int N a b = some (cmpR a b) := by
  unfold cmp_Compare_int cmp_isNaN_int cmpR
  simp only [lt_def, bne_self_eq_false, bind_some', Bool.false_eq_true, if_false]
  by_cases h : a < b
  · rw [if_pos (dpos h), if_pos h]
  · rw [if_neg (dneg h), if_neg h]
    by_cases h2 : b < a
    · rw [if_pos (dpos h2), if_pos h2]
    · rw [if_neg (dneg h2), if_neg h2]
theorem or3_ok (N : Nat) (hN : 4 ≤ N) (a b c : Int) : cmp_Or_int N [a, b, c] = some (if a ≠ 0 then a else if b ≠ 0 then b else c) := by
  obtain ⟨M, rfl⟩ : ∃ M, N = M + 4 := ⟨N - 4, by omega⟩
  unfold cmp_Or_int
  have hl : (([a, b, c] : List Int).length : Int) = 3 := rfl
  have g0 : getI [a, b, c] 0 = some a := rfl
  have g1 : getI [a, b, c] 1 = some b := rfl
  have g2 : getI [a, b, c] 2 = some c := rfl
  have w0 : IntKind.wrap .i64 (0 + 1) = 1 := by rw [w64] <;> omega
  have w1 : IntKind.wrap .i64 (1 + 1) = 2 := by rw [w64] <;> omega
  have w2 : IntKind.wrap .i64 (2 + 1) = 3 := by rw [w64] <;> omega
  have d0 : decide ((0 : Int) < 3) = true := rfl
  have d1 : decide ((1 : Int) < 3) = true := rfl
  have d2 : decide ((2 : Int) < 3) = true := rfl
  have d3 : decide ((3 : Int) < 3) = false := rfl
  rw [hl, cmp_Or_int_0, d0, if_pos rfl, g0, bind_some']
  by_cases ha : a = 0
  · subst ha
    rw [if_neg (by simp), w0, cmp_Or_int_0, d1, if_pos rfl, g1, bind_some']
    by_cases hb : b = 0
    · subst hb
      rw [if_neg (by simp), w1, cmp_Or_int_0, d2, if_pos rfl, g2, bind_some']
      by_cases hc : c = 0
      · subst hc
        rw [if_neg (by simp), w2, cmp_Or_int_0, d3, if_neg (by simp)]
        rfl
      · rw [if_pos (by simpa using hc)]; rfl
    · rw [if_pos (by simpa using hb)]; simp [bind_some', hb]
  · rw [if_pos (by simpa using ha)]; simp [bind_some', ha]
/-- Ahead: fewer steps, then a lesser element, then a lesser node. -/
def lexLt (v1 e1 n1 v2 e2 n2 : Int) : Prop := v1 < v2 ∨ (v1 = v2 ∧ (e1 < e2 ∨ (e1 = e2 ∧ n1 < n2)))
instance (v1 e1 n1 v2 e2 n2 : Int) : Decidable (lexLt v1 e1 n1 v2 e2 n2) := by unfold lexLt; infer_instance
theorem cmpR_lt {a b : Int} (h : a < b) : cmpR a b = -1 := if_pos h
theorem cmpR_gt {a b : Int} (h : b < a) : cmpR a b = 1 := by unfold cmpR; rw [if_neg (by omega), if_pos h]
theorem cmpR_eq (a : Int) : cmpR a a = 0 := by unfold cmpR; rw [if_neg (by omega), if_neg (by omega)]
theorem lex_cmp (v1 e1 n1 v2 e2 n2 : Int) : (if cmpR v1 v2 ≠ 0 then cmpR v1 v2 else if cmpR e1 e2 ≠ 0 then cmpR e1 e2 else cmpR n1 n2) < 0 ↔ lexLt v1 e1 n1 v2 e2 n2 := by
  unfold lexLt
  rcases Int.lt_trichotomy v1 v2 with h | h | h
  · rw [cmpR_lt h]; simp [h]
  · subst h
    rw [cmpR_eq]
    simp only [ne_eq, not_true_eq_false, if_false, Int.lt_irrefl, false_or, true_and]
    rcases Int.lt_trichotomy e1 e2 with h | h | h
    · rw [cmpR_lt h]; simp [h]
    · subst h
      rw [cmpR_eq]
      simp only [ne_eq, not_true_eq_false, if_false, Int.lt_irrefl, false_or, true_and]
      rcases Int.lt_trichotomy n1 n2 with h | h | h
      · rw [cmpR_lt h]; simp [h]
      · subst h; rw [cmpR_eq]; simp
      · rw [cmpR_gt h]; simp; omega
    · rw [cmpR_gt h]; simp; omega
  · rw [cmpR_gt h]; simp; omega
structure NxI (l : List PlantElement) (d : Dst) (e : Int) (q : List Int) (out : Int) (best : Place) (found : Bool) : Prop where
  no : found = false → ∀ m ∈ q, mpGet d (beh l e m) = none
  yes : found = true → out ∈ q ∧ best = beh l e out ∧ ∃ v, mpGet d best = some v ∧ ∀ m ∈ q, ∀ w, mpGet d (beh l e m) = some w → ¬ lexLt w (nbr l e m) m v (nbr l e out) out
theorem next_loop (N : Nat) {l : List PlantElement} (hN : l.length + 10 ≤ N) (hl : l.length ≤ 1000000) {d : Dst} {e : Int} {o : List Int} (ho : o.length ≤ 1000) : ∀ (k n i : Nat) (out : Int) (best : Place) (found : Bool), k < n → i + k = o.length → NxI l d e (o.take i) out best found →
    ∃ out' best' found', route_next_0 N l d e o o.length n out best found i = some (out', best', found') ∧ NxI l d e o out' best' found'
  | k, 0, i, out, best, found, hn, _, _ => by omega
  | 0, n + 1, i, out, best, found, hn, hi, hI => by
    obtain rfl : i = o.length := by omega
    rw [route_next_0, if_neg (dneg (by omega))]
    rw [List.take_length] at hI
    exact ⟨_, _, _, rfl, hI⟩
  | k + 1, n + 1, i, out, best, found, hn, hi, hI => by
    have hlt : i < o.length := by omega
    have ha := at_lt hlt
    rw [route_next_0, if_pos (dpos (by omega))]
    have htk : o.take (i + 1) = o.take i ++ [o[i]] := take_at ha
    have key : ∃ out' best' found', route_next_1 N l d e out best found o i = some (out', best', found') ∧ NxI l d e (o.take (i + 1)) out' best' found' := by
      unfold route_next_1
      rw [getI_nat ha, bind_some', pnbr_ok N (by omega) hl, bind_some', lt_def, lt_def]
      have hb : Place.mk (nbr l e o[i]) o[i] = beh l e o[i] := rfl
      rw [hb]
      cases hg : mpGet d (beh l e o[i]) with
      | none =>
        refine ⟨out, best, found, by simp, ⟨fun hf m hm => ?_, fun hf => ?_⟩⟩
        · rw [htk] at hm
          rcases List.mem_append.1 hm with hm | hm
          · exact hI.no hf m hm
          · simp at hm; subst hm; exact hg
        · obtain ⟨a, b, v, c, dd⟩ := hI.yes hf
          refine ⟨by rw [htk]; exact List.mem_append_left _ a, b, v, c, fun m hm w hw => ?_⟩
          rw [htk] at hm
          rcases List.mem_append.1 hm with hm | hm
          · exact dd m hm w hw
          · simp at hm; subst hm; rw [hg] at hw; cases hw
      | some w =>
        simp only [Option.isSome_some, Bool.not_true, Bool.false_eq_true, if_false, Option.getD_some]
        unfold route_next_2
        have taken : (found = true → ∀ v, mpGet d best = some v → lexLt w (nbr l e o[i]) o[i] v best.element out) → NxI l d e (o.take (i + 1)) o[i] (beh l e o[i]) true := by
          intro hlex
          refine ⟨fun hf => (by cases hf), fun _ => ⟨by rw [htk]; exact List.mem_append_right _ (List.mem_singleton.2 rfl), rfl, w, hg, fun m hm w' hw' => ?_⟩⟩
          rw [htk] at hm
          rcases List.mem_append.1 hm with hm | hm
          · cases found with
            | false => have := hI.no rfl m hm; rw [hw'] at this; cases this
            | true =>
              obtain ⟨a, b, v, c, dd⟩ := hI.yes rfl
              have h1 := hlex rfl v c
              have h2 := dd m hm w' hw'
              rw [b] at h1
              have hbe : (beh l e out).element = nbr l e out := rfl
              rw [hbe] at h1
              unfold lexLt at *
              omega
          · simp at hm; subst hm; rw [hg] at hw'; cases hw'
            unfold lexLt; omega
        cases found with
        | false =>
          simp only [Bool.not_false, if_true, bind_some']
          exact ⟨_, _, _, rfl, taken (fun h => by cases h)⟩
        | true =>
          obtain ⟨a, b, v, c, dd⟩ := hI.yes rfl
          rw [if_neg (by simp), c]
          simp only [lt_def, Option.getD_some, cmp_ok, bind_some']
          rw [or3_ok N (by omega), bind_some', bind_some']
          have hbe : (beh l e o[i]).element = nbr l e o[i] := rfl
          by_cases hlex : lexLt w (nbr l e o[i]) o[i] v best.element out
          · rw [decide_eq_true ((lex_cmp w (beh l e o[i]).element o[i] v best.element out).2 (by rw [hbe]; exact hlex)), if_pos rfl]
            exact ⟨_, _, _, rfl, taken fun _ v' hv' => by rw [c] at hv'; cases hv'; exact hlex⟩
          · rw [decide_eq_false (fun hh => hlex (by rw [← hbe]; exact (lex_cmp w (beh l e o[i]).element o[i] v best.element out).1 hh)), if_neg (by simp)]
            refine ⟨out, best, true, rfl, ⟨fun hf => (by cases hf), fun _ => ⟨by rw [htk]; exact List.mem_append_left _ a, b, v, c, fun m hm w' hw' => ?_⟩⟩⟩
            rw [htk] at hm
            rcases List.mem_append.1 hm with hm | hm
            · exact dd m hm w' hw'
            · simp at hm; subst hm; rw [hg] at hw'; cases hw'
              rw [b] at hlex
              exact hlex
    obtain ⟨out', best', found', g1, g2⟩ := key
    rw [g1, bind_some']
    simp only []
    rw [w64s (by omega)]
    exact next_loop N hN hl ho k n (i + 1) _ _ _ (by omega) (by omega) g2
theorem nextR_ok (N : Nat) {l : List PlantElement} (hN : l.length + 1010 ≤ N) (hl : l.length ≤ 1000000) (d : Dst) (e : Int) {o : List Int} (ho : o.length ≤ 1000) : ∃ out best found, route_next N l d e o = some (out, best, found) ∧ NxI l d e o out best found := by
  unfold route_next
  obtain ⟨out, best, found, h1, h2⟩ := next_loop N (l := l) (d := d) (e := e) (by omega) hl ho o.length N 0 0 (Place.mk 0 0) false (by omega) (by omega) ⟨fun _ m hm => by simp at hm, fun h => by cases h⟩
  have h1 : route_next_0 N l d e o o.length N 0 (Place.mk 0 0) false 0 = some (out, best, found) := h1
  rw [h1, bind_some']
  exact ⟨_, _, _, rfl, h2⟩
/-! ### The way so far -/
structure Pth (l : List PlantElement) (fr : Int) (r : List Visit) : Prop where
  ne : 1 ≤ r.length
  st : ∀ v, r[0]? = some v → v.element = fr ∧ v.in_ = -1
  step : ∀ (i : Nat) v w, r[i]? = some v → r[i + 1]? = some w → w.in_ = v.out ∧ 0 ≤ w.element ∧ w.element = nbr l v.element v.out ∧ v.out ∈ eI l v.element
  mid : ∀ (i : Nat) v, 0 < i → i + 1 < r.length → r[i]? = some v → v.out ∈ thr l v.element v.in_
/-- One visit more. -/
theorem Pth.add {l : List PlantElement} {fr : Int} {r : List Visit} {v : Visit} {out : Int} (h : Pth l fr r) (hv : r[r.length - 1]? = some v) (h0 : 0 ≤ nbr l v.element out) (ho : out ∈ eI l v.element) (ht : 1 < r.length → out ∈ thr l v.element v.in_) :
    Pth l fr (r.set (r.length - 1) (Visit.mk v.element v.in_ out) ++ [Visit.mk (nbr l v.element out) out (-1)]) := by
  have hne := h.ne
  have hlen : (r.set (r.length - 1) (Visit.mk v.element v.in_ out)).length = r.length := List.length_set
  have get : ∀ (i : Nat) x, (r.set (r.length - 1) (Visit.mk v.element v.in_ out) ++ [Visit.mk (nbr l v.element out) out (-1)])[i]? = some x → (i + 1 < r.length ∧ r[i]? = some x) ∨ (i + 1 = r.length ∧ x = Visit.mk v.element v.in_ out) ∨ (i = r.length ∧ x = Visit.mk (nbr l v.element out) out (-1)) := by
    intro i x hx
    by_cases hi : i < r.length
    · rw [List.getElem?_append_left (by omega), List.getElem?_set] at hx
      by_cases he : r.length - 1 = i
      · rw [if_pos he, if_pos (by omega)] at hx
        exact .inr (.inl ⟨by omega, by cases hx; rfl⟩)
      · rw [if_neg he] at hx
        exact .inl ⟨by omega, hx⟩
    · rw [List.getElem?_append_right (by omega)] at hx
      have := (List.getElem?_eq_some_iff.1 hx).1
      simp at this
      have hi2 : i = r.length := by omega
      subst hi2
      rw [hlen] at hx
      simp at hx
      exact .inr (.inr ⟨rfl, hx.symm⟩)
  refine ⟨by simp, fun x hx => ?_, fun i x y hx hy => ?_, fun i x hi hi2 hx => ?_⟩
  · rcases get 0 x hx with ⟨_, a⟩ | ⟨a, rfl⟩ | ⟨a, _⟩
    · exact h.st x a
    · have : r.length - 1 = 0 := by omega
      rw [this] at hv
      have := h.st v hv
      exact this
    · omega
  · rcases get i x hx with ⟨a, b⟩ | ⟨a, rfl⟩ | ⟨a, _⟩
    · rcases get (i + 1) y hy with ⟨c, dd⟩ | ⟨c, rfl⟩ | ⟨c, _⟩
      · exact h.step i x y b dd
      · have hv' : r[i + 1]? = some v := by rw [← hv]; congr 1; omega
        exact h.step i x v b hv'
      · omega
    · rcases get (i + 1) y hy with ⟨c, _⟩ | ⟨c, _⟩ | ⟨c, rfl⟩
      · omega
      · omega
      · exact ⟨rfl, h0, rfl, ho⟩
    · rcases get (i + 1) y hy with ⟨c, _⟩ | ⟨c, _⟩ | ⟨c, _⟩ <;> omega
  · simp only [List.length_append, List.length_set, List.length_cons, List.length_nil] at hi2
    rcases get i x hx with ⟨a, b⟩ | ⟨a, rfl⟩ | ⟨a, _⟩
    · exact h.mid i x hi (by omega) b
    · exact ht (by omega)
    · omega
theorem find_loop (N : Nat) (hN : 4000 ≤ N) {l : List PlantElement} (hP : PlOk l) {d : Dst} {fr to : Int} (hD : DI l to d) : ∀ (k n : Nat) (r : List Visit) (o : List Int) (v : Visit), k < n → Pth l fr r → r[r.length - 1]? = some v →
    ((r.length = 1 ∧ o = eI l fr ∧ d.length ≤ k) ∨ (1 < r.length ∧ o = thr l v.element v.in_ ∧ ∃ w, mpGet d (Place.mk v.element v.in_) = some w ∧ w ≠ 0 ∧ w ≤ k)) → r.length + k ≤ 2000 →
    (∃ r', route_Find_1 N l d n r o = some (.inl r') ∧ Pth l fr r' ∧ 2 ≤ r'.length ∧ (∃ z, r'[r'.length - 1]? = some z ∧ z.element = to ∧ z.out = -1) ∧ r'.length ≤ 2001 ∧ ∀ m ∈ o, ∀ w, mpGet d (beh l v.element m) = some w → (r'.length : Int) ≤ r.length + 1 + w) ∨
    (route_Find_1 N l d n r o = some (.inr 15) ∧ r.length = 1 ∧ ∀ m ∈ o, mpGet d (beh l v.element m) = none)
  | k, 0, r, o, v, hn, _, _, _, _ => by omega
  | k, n + 1, r, o, v, hn, hPt, hv, hinv, hlen => by
    have hne := hPt.ne
    have hll := hP.len
    have hdl := hD.len
    have hw : IntKind.wrap .i64 ((r.length : Int) - 1) = ((r.length - 1 : Nat) : Int) := by rw [w64 (by omega) (by omega)]; omega
    have ho3 : o.length ≤ 3 := by
      rcases hinv with ⟨_, rfl, _⟩ | ⟨_, rfl, _⟩
      · exact eI_len l fr
      · exact thr_len _ _ _
    rw [route_Find_1, hw, getI_nat hv]
    simp only [bind_some']
    obtain ⟨out, best, found, h1, h2⟩ := nextR_ok N (l := l) (by omega) (by omega) d v.element (o := o) (by omega)
    rw [h1, bind_some']
    simp only []
    cases found with
    | false =>
      simp only [Bool.not_false, if_true]
      refine .inr ⟨trivial, ?_, h2.no rfl⟩
      rcases hinv with ⟨a, _⟩ | ⟨_, rfl, w, hw1, hw2, _⟩
      · exact a
      · obtain ⟨_, m, hm1, hm2⟩ := hD.pos _ w hw1 hw2
        have := h2.no rfl m hm1
        rw [this] at hm2; cases hm2
    | true =>
      obtain ⟨q1, q2, v1, q3, q4⟩ := h2.yes rfl
      rw [if_neg (by simp), lt_def]
      have hkey := hD.key best v1 q3
      rw [q2] at hkey
      have h0 : 0 ≤ nbr l v.element out := (eI_mem hkey).1
      have hv1 := hD.nonneg q3
      have hv1l := hD.val q3
      have hout : out ∈ eI l v.element := by
        rcases hinv with ⟨a, rfl, _⟩ | ⟨_, rfl, _⟩
        · have : r.length - 1 = 0 := by omega
          rw [this] at hv
          rw [(hPt.st v hv).1]; exact q1
        · exact (thr_mem q1).2
      have hPt' := hPt.add hv h0 hout (fun hh => by
        rcases hinv with ⟨a, _⟩ | ⟨_, rfl, _⟩
        · omega
        · exact q1)
      have hset : (r.set (((r.length - 1 : Nat) : Int)).toNat (Visit.mk v.element v.in_ out)) = r.set (r.length - 1) (Visit.mk v.element v.in_ out) := by rw [Int.toNat_natCast]
      have hb1 : best.element = nbr l v.element out := by rw [q2]; rfl
      have hb2 : best.in_ = out := by rw [q2]; rfl
      rw [hset, hb1, hb2, appI_ok (by simp; omega), bind_some', lt_def, q3]
      simp only [Option.getD_some]
      have hlen' : (r.set (r.length - 1) (Visit.mk v.element v.in_ out) ++ [Visit.mk (nbr l v.element out) out (-1)]).length = r.length + 1 := by simp
      have hlast : (r.set (r.length - 1) (Visit.mk v.element v.in_ out) ++ [Visit.mk (nbr l v.element out) out (-1)])[r.length + 1 - 1]? = some (Visit.mk (nbr l v.element out) out (-1)) := by
        rw [List.getElem?_append_right (by simp)]; simp
      have hmin : ∀ m ∈ o, ∀ w, mpGet d (beh l v.element m) = some w → v1 ≤ w := by
        intro m hm w hw
        have := q4 m hm w hw
        unfold lexLt at this
        omega
      by_cases hz : v1 = 0
      · rw [if_pos (by simpa using hz)]
        refine .inl ⟨_, rfl, hPt', by omega, ⟨_, by rw [hlen']; exact hlast, ?_, rfl⟩, by omega, fun m hm w hw => ?_⟩
        · have := hD.zero best (by rw [q3, hz])
          rw [hb1] at this; exact this
        · have := hmin m hm w hw
          rw [hlen']; omega
      · rw [if_neg (by simpa using hz), pthr_ok N (by omega), bind_some']
        have hk1 : v1 + 1 ≤ k := by
          rcases hinv with ⟨_, _, a⟩ | ⟨_, rfl, w, hw1, hw2, hw3⟩
          · omega
          · obtain ⟨_, m, hm1, hm2⟩ := hD.pos _ w hw1 hw2
            have := hmin m hm1 _ hm2
            omega
        cases k with
        | zero => omega
        | succ k =>
          have hbest : best = Place.mk (nbr l v.element out) out := q2
          have ih := find_loop N hN hP hD k n (r.set (r.length - 1) (Visit.mk v.element v.in_ out) ++ [Visit.mk (nbr l v.element out) out (-1)]) (thr l (nbr l v.element out) out) (Visit.mk (nbr l v.element out) out (-1)) (by omega) hPt' (by rw [hlen']; exact hlast)
            (.inr ⟨by omega, rfl, v1, by rw [← hbest]; exact q3, hz, by omega⟩) (by omega)
          rcases ih with ⟨r', g1, g2, g3, g4, g5, g6⟩ | ⟨g1, g2, _⟩
          · refine .inl ⟨r', g1, g2, g3, g4, g5, fun m hm w hw => ?_⟩
            obtain ⟨_, m0, hm1, hm2⟩ := hD.pos best v1 q3 hz
            rw [hb1, hb2] at hm1
            rw [hb1] at hm2
            have := g6 m0 hm1 _ hm2
            have := hmin m hm w hw
            omega
          · omega
/-- What Find answers for a plant with nothing wrong, with the distances that it goes by. -/
theorem find_all (N : Nat) (hN : 4000 ≤ N) {l : List PlantElement} (hP : PlOk l) (fr to : Int) :
    (route_Find N l fr to = some ([], 2) ∧ (¬ trk l fr ∨ ¬ trk l to ∨ fr = to)) ∨ (trk l fr ∧ trk l to ∧ fr ≠ to ∧ ∃ d, DI l to d ∧ (∀ m ∈ eI l to, mpGet d (Place.mk to m) = some 0) ∧ Cl l d ∧
      ((route_Find N l fr to = some ([], 15) ∧ ∀ m ∈ eI l fr, mpGet d (beh l fr m) = none) ∨ route_Find N l fr to = some ([], 17) ∨ ∃ r, route_Find N l fr to = some (r, 0) ∧ RtP l r ∧ r.length ≤ 2001 ∧ (∀ v, r[0]? = some v → v.element = fr) ∧ (∀ v, r[r.length - 1]? = some v → v.element = to) ∧ ∀ m ∈ eI l fr, ∀ w, mpGet d (beh l fr m) = some w → (r.length : Int) ≤ 2 + w)) := by
  unfold route_Find
  rw [hP.p N (by omega), bind_some', if_neg (by simp)]
  have h0 : ∃ b, route_Find_0 N l fr to = some b ∧ (b = false ↔ trk l fr ∧ trk l to ∧ fr ≠ to) := by
    unfold route_Find_0
    simp only [ptrk_ok, bind_some']
    exact or_cond notdec (or_cond notdec ⟨_, rfl, by simp⟩)
  obtain ⟨b, h1, h2⟩ := h0
  rw [h1, bind_some']
  cases b with
  | true =>
    rw [if_pos rfl]
    refine .inl ⟨rfl, ?_⟩
    by_cases a : trk l fr
    · by_cases c : trk l to
      · right; right
        by_cases e : fr = to
        · exact e
        · have := h2.2 ⟨a, c, e⟩; cases this
      · exact .inr (.inl c)
    · exact .inl a
  | false =>
    rw [if_neg (by simp)]
    obtain ⟨t1, t2, t3⟩ := h2.1 rfl
    obtain ⟨d, g1, g2, g3, g4⟩ := dist_ok N (by omega) (to := to) hP
    rw [g1, bind_some', pEnds_ok, bind_some']
    have hdl := g2.len
    have hll := hP.len
    refine .inr ⟨t1, t2, t3, d, g2, g3, g4, ?_⟩
    have hl := find_loop N hN hP (fr := fr) g2 d.length N [Visit.mk fr (-1) 0] (eI l fr) (Visit.mk fr (-1) 0) (by omega)
      ⟨by simp, fun v hv => by simp at hv; subst hv; exact ⟨rfl, rfl⟩, fun i v w hv hw => by simp at hw, fun i v hi hi2 hv => by simp at hi2⟩ (by simp) (.inl ⟨by simp, rfl, by omega⟩) (by simp; omega)
    rcases hl with ⟨r', q1, q2, q3, ⟨z, q4, q5, q6⟩, q7, q8⟩ | ⟨q1, _, q9⟩
    · rw [q1, bind_some']
      simp only []
      obtain ⟨c, c1, c2⟩ := twice_ok N (r := r') (by omega) (by omega)
      rw [c1, bind_some']
      cases c with
      | true => right; left; rw [if_pos rfl]
      | false =>
        right; right
        rw [if_neg (by simp)]
        have hfirst := at_lt (xs := r') (i := 0) (by omega)
        have hz' : ∀ v, r'[r'.length - 1]? = some v → v = z := fun v hv => by rw [q4] at hv; cases hv; rfl
        refine ⟨r', rfl, ⟨hP.err, ⟨q3, fun v hv => ?_, fun v hv => ?_, fun i v w hv hw => ?_, q2.mid⟩, c2.1 rfl⟩, q7, fun v hv => (q2.st v hv).1, fun v hv => by rw [hz' v hv]; exact q5, fun m hm w hw => by have := q8 m hm w hw; simp at this; omega⟩
        · obtain ⟨a, b⟩ := q2.st v hv
          have := q2.step 0 v _ hv (at_lt (xs := r') (i := 1) (by omega))
          exact ⟨by rw [a]; exact t1, b, this.2.2.2⟩
        · rw [hz' v hv, q5]; exact ⟨t2, q6⟩
        · obtain ⟨a, b, c, dd⟩ := q2.step i v w hv hw
          exact ⟨a, b, c⟩
    · rw [q1, bind_some']
      exact .inl ⟨rfl, q9⟩
/-- What Find answers for a plant with nothing wrong. -/
theorem find_ok (N : Nat) (hN : 4000 ≤ N) {l : List PlantElement} (hP : PlOk l) (fr to : Int) :
    (route_Find N l fr to = some ([], 2) ∧ (¬ trk l fr ∨ ¬ trk l to ∨ fr = to)) ∨ (trk l fr ∧ trk l to ∧ fr ≠ to ∧
      (route_Find N l fr to = some ([], 15) ∨ route_Find N l fr to = some ([], 17) ∨ ∃ r, route_Find N l fr to = some (r, 0) ∧ RtP l r ∧ r.length ≤ 2001 ∧ (∀ v, r[0]? = some v → v.element = fr) ∧ ∀ v, r[r.length - 1]? = some v → v.element = to)) := by
  rcases find_all N hN hP fr to with h | ⟨a, b, c, d, _, _, _, h⟩
  · exact .inl h
  · refine .inr ⟨a, b, c, ?_⟩
    rcases h with ⟨h, _⟩ | h | ⟨r, h1, h2, h3, h4, h5, _⟩
    · exact .inl h
    · exact .inr (.inl h)
    · exact .inr (.inr ⟨r, h1, h2, h3, h4, h5⟩)
end Go.W
end
section
set_option linter.unusedVariables false
set_option linter.unusedSimpArgs false
namespace Go.W
open Go.AM
/-! ### Tracks -/
def trks (l : List PlantElement) : Nat → List PlantElement → List Int
  | _, [] => []
  | i, x :: xs => if x.kind = 1 then (i : Int) :: trks l (i + 1) xs else trks l (i + 1) xs
theorem trks_len (l : List PlantElement) : ∀ (q : List PlantElement) (i : Nat), (trks l i q).length ≤ q.length
  | [], i => by simp [trks]
  | x :: q, i => by
    rw [trks]
    have := trks_len l q (i + 1)
    split <;> simp <;> omega
theorem trks_mem {l : List PlantElement} {a : Int} : ∀ {q : List PlantElement} {i : Nat}, a ∈ trks l i q → ∃ (j : Nat) (x : PlantElement), a = ((i + j : Nat) : Int) ∧ q[j]? = some x ∧ x.kind = 1
  | [], i, h => by simp [trks] at h
  | x :: q, i, h => by
    rw [trks] at h
    split at h
    · rename_i hk
      rcases List.mem_cons.1 h with rfl | h
      · exact ⟨0, x, by simp, rfl, hk⟩
      · obtain ⟨j, y, h1, h2, h3⟩ := trks_mem h
        exact ⟨j + 1, y, by rw [h1]; omega, by simpa using h2, h3⟩
    · obtain ⟨j, y, h1, h2, h3⟩ := trks_mem h
      exact ⟨j + 1, y, by rw [h1]; omega, by simpa using h2, h3⟩
theorem tracks_loop (N : Nat) {l : List PlantElement} (hl : l.length ≤ 1000000) : ∀ (k n i : Nat) (q : List Int), k < n → i + k = l.length → q.length ≤ i → yardgen_Tracks_0 N l n q i = some (q ++ trks l i (l.drop i))
  | k, 0, i, q, hn, _, _ => by omega
  | 0, n + 1, i, q, hn, hi, hq => by
    obtain rfl : i = l.length := by omega
    rw [yardgen_Tracks_0, if_neg (dneg (by omega)), List.drop_length, trks, List.append_nil]
  | k + 1, n + 1, i, q, hn, hi, hq => by
    have hlt : i < l.length := by omega
    have ha := at_lt hlt
    rw [yardgen_Tracks_0, if_pos (dpos (by omega))]
    unfold yardgen_Tracks_1
    rw [getI_nat ha, bind_some', drop_at ha, trks]
    by_cases hk : l[i].kind = 1
    · rw [if_pos (by simpa using hk), if_pos hk, appI_ok (by simp; omega), bind_some', bind_some', lt_def, w64s (by omega), tracks_loop N hl k n (i + 1) _ (by omega) (by omega) (by simp; omega)]
      simp
    · rw [if_neg (by simpa using hk), if_neg hk, bind_some', lt_def, w64s (by omega), tracks_loop N hl k n (i + 1) _ (by omega) (by omega) (by omega)]
theorem tracks_ok (N : Nat) {l : List PlantElement} (hl : l.length ≤ 1000000) (hN : l.length < N) : yardgen_Tracks N l = some (trks l 0 l) := by
  unfold yardgen_Tracks
  have h := tracks_loop N hl l.length N 0 [] hN (by omega) (by simp)
  simp only [Int.natCast_zero, List.drop_zero, List.nil_append] at h
  rw [h, bind_some']
theorem ends_ok (N : Nat) {l : List PlantElement} (hl : l.length ≤ 1000) (hN : l.length < N) (hf : ∃ x, l[0]? = some x ∧ x.kind = 1) {c : Int} {s : Maker} (hs : Mk c s) (hc : c ≤ 1000000) : ∃ a b s', l27_ends N s l = some (a, b, s') ∧ Mk (c + 2) s' ∧ trk l a ∧ trk l b := by
  unfold l27_ends
  rw [tracks_ok N (by omega) hN, bind_some']
  have hlen := trks_len l l 0
  have hpos : 0 < (trks l 0 l).length := by
    obtain ⟨x, hx, hk⟩ := hf
    cases l with
    | nil => simp at hx
    | cons y l =>
      simp at hx; subst hx
      rw [trks, if_pos hk]; simp
  have htrk : ∀ a ∈ trks l 0 l, trk l a := by
    intro a ha
    obtain ⟨j, x, h1, h2, h3⟩ := trks_mem ha
    rw [Nat.zero_add] at h1
    subst h1
    exact ⟨by omega, x, by simpa using h2, h3⟩
  generalize trks l 0 l = t at *
  obtain ⟨r, s1, h1, h2, h3, h4⟩ := next_ok N (s := s) (c := c) (t.length : Int) (by omega) (by omega) hs (by omega)
  obtain ⟨q, rfl⟩ := Int.eq_ofNat_of_zero_le h2
  have hq : q < t.length := by omega
  rw [h1, bind_some']
  simp only []
  rw [getI_nat (at_lt hq), bind_some', bind_some']
  have hm : IntKind.wrap .i64 ((t.length : Int) - 1) = (t.length : Int) - 1 := w64 (by omega) (by omega)
  obtain ⟨y, s2, g1, g2, g3, g4⟩ := next_ok N (s := s1) (c := c + 1) (max 1 ((t.length : Int) - 1)) (by omega) (by omega) h4 (by omega)
  rw [hm, g1, bind_some']
  simp only []
  rw [w64s (by omega)]
  obtain ⟨y, rfl⟩ := Int.eq_ofNat_of_zero_le g2
  rw [w64 (by omega) (by omega)]
  have hmod : modI (((q + 1 : Nat) : Int) + (y : Int)) (t.length : Int) = some (((q + 1 + y) % t.length : Nat) : Int) := by
    unfold modI
    rw [if_neg (by omega), Int.tmod_eq_emod_of_nonneg (by omega)]
    congr 1
  have hlt2 : (q + 1 + y) % t.length < t.length := Nat.mod_lt _ hpos
  rw [hmod, bind_some', getI_nat (at_lt hlt2), bind_some', bind_some']
  exact ⟨_, _, _, rfl, g4.le (by omega), htrk _ (List.getElem_mem hq), htrk _ (List.getElem_mem hlt2)⟩
/-! ### The law -/
theorem finds_one (N : Nat) (hN : 4000 ≤ N) {l : List PlantElement} (hP : MadeP l) {c : Int} {s : Maker} (hs : Mk c s) (hc : c ≤ 1000000) : ∃ s', l27_RouteFinds_1 N s l = some (.inl s') ∧ Mk (c + 2) s' := by
  have hll := hP.ok.len
  unfold l27_RouteFinds_1
  obtain ⟨a, b, s', h1, h2, h3, h4⟩ := ends_ok N (l := l) (by omega) (by omega) hP.fst hs hc
  rw [h1, bind_some']
  simp only []
  rcases find_ok N hN hP.ok a b with ⟨g1, g2⟩ | ⟨t1, t2, t3, g⟩
  · have hab : a = b := by
      rcases g2 with g2 | g2 | g2
      · exact absurd h3 g2
      · exact absurd h4 g2
      · exact g2
    rw [g1, bind_some', if_pos (by simpa using hab), if_neg (by simp)]
    exact ⟨s', rfl, h2⟩
  · have hne : ¬ (a == b) = true := by simpa using t3
    rcases g with g | g | ⟨r, g1, g2, g3, g4, g5⟩
    · rw [g, bind_some', if_neg hne, if_pos (by simp)]
      exact ⟨s', rfl, h2⟩
    · rw [g, bind_some', if_neg hne, if_pos (by simp)]
      exact ⟨s', rfl, h2⟩
    · rw [g1, bind_some', if_neg hne, if_neg (by simp)]
      have htwo := g2.2.1.two
      have h0 := at_lt (xs := r) (i := 0) (by omega)
      have hz := at_lt (xs := r) (i := r.length - 1) (by omega)
      have e0 := g4 _ h0
      have ez := g5 _ hz
      have hw : IntKind.wrap .i64 ((r.length : Int) - 1) = ((r.length - 1 : Nat) : Int) := by rw [w64 (by omega) (by omega)]; omega
      obtain ⟨b1, p1, p2⟩ := pVal_ok N (l := l) (r := r) (by omega) (by omega) (by omega) fun _ x hx => .inl (soundP_ends (hP.ok.snd x hx)).2.2.1
      obtain ⟨b2, r1, r2⟩ := rVal_ok N (l := l) (r := r) (by omega) (by omega) (by omega) fun _ x hx => by
        have h1 := (soundP_ends (hP.ok.snd x hx)).2.2.2
        unfold pnOk at h1
        simp only [Bool.and_eq_true, decide_eq_true_eq] at h1
        omega
      have hb1 := p2.2 g2
      have hb2 := r2.2 g2
      have h3 : l27_RouteFinds_3 N l a b r = some false := by
        unfold l27_RouteFinds_3
        have hg0 : getI r 0 = some (r[0]'(by omega)) := getI_nat h0
        rw [if_neg (dneg (by omega)), hg0, bind_some', bind_some', if_neg (by rw [e0]; simp), hw, getI_nat hz, bind_some', bind_some', if_neg (by rw [ez]; simp), p1, bind_some', hb1, if_neg (by simp), r1, bind_some', hb2]
        rfl
      rw [h3, bind_some', if_neg (by simp)]
      exact ⟨s', rfl, h2⟩
theorem finds_loop (N : Nat) (hN : 4000 ≤ N) {l : List PlantElement} (hP : MadeP l) : ∀ (k n i : Nat) (c : Int) (s : Maker), k < n → i + k = 4 → Mk c s → c + 2 * k ≤ 1000000 → l27_RouteFinds_0 N l n s i = some (.inl ())
  | k, 0, i, c, s, hn, _, _, _ => by omega
  | 0, n + 1, i, c, s, hn, hi, hs, hc => by
    obtain rfl : i = 4 := by omega
    rw [l27_RouteFinds_0, if_neg (dneg (by omega))]
  | k + 1, n + 1, i, c, s, hn, hi, hs, hc => by
    obtain ⟨s', h1, h2⟩ := finds_one N hN hP hs (by omega)
    rw [l27_RouteFinds_0, if_pos (dpos (by omega)), h1, bind_some']
    simp only [lt_def]
    rw [w64s (by omega)]
    exact finds_loop N hN hP k n (i + 1) (c + 2) s' (by omega) (by omega) h2 (by omega)
/-- What Find returns is a route. -/
theorem rfindsT (t : List Int) : ∃ N, l27_RouteFinds N t = some true := by
  refine ⟨4000, ?_⟩
  unfold l27_RouteFinds gen_New
  rw [bind_some']
  obtain ⟨l, s, h1, h2, h3⟩ := plant_ok 4000 (by omega) (mk0 t) (k := 18) (by omega)
  rw [h1, bind_some']
  simp only []
  have := finds_loop 4000 (by omega) h3 4 4000 0 30000 s (by omega) (by omega) h2 (by omega)
  have this : l27_RouteFinds_0 4000 l 4000 s 0 = some (.inl ()) := this
  rw [this, bind_some']
  simp only []
  rw [sane27' (by omega), bind_some']
end Go.W
end
section
set_option linter.unusedVariables false
set_option linter.unusedSimpArgs false
namespace Go.W
open Go.AM
/-! ### Walks and distances -/
theorem walk_dist {l : List PlantElement} (hP : PlOk l) {to : Int} {d : Dst} (hz : ∀ m ∈ eI l to, mpGet d (Place.mk to m) = some 0) (hC : Cl l d) {w : List Visit} (hW : WayP l w) (he : ∀ v, w[w.length - 1]? = some v → v.element = to) :
    ∀ (k i : Nat) (v : Visit), i + k = w.length - 1 → 1 ≤ i → w[i]? = some v → ∃ x, mpGet d (Place.mk v.element v.in_) = some x ∧ x ≤ k
  | 0, i, v, hi, h1, hv => by
    have hi' : i = w.length - 1 := by omega
    have hel := he v (by rw [← hi']; exact hv)
    have hin := hW.ins (by omega) hv
    rw [hel] at hin
    exact ⟨0, by rw [hel]; exact hz _ hin, by omega⟩
  | k + 1, i, v, hi, h1, hv => by
    have htwo := hW.two
    have hu := at_lt (xs := w) (i := i + 1) (by omega)
    obtain ⟨x, hx, hx2⟩ := walk_dist hP hz hC hW he k (i + 1) _ (by omega) (by omega) hu
    obtain ⟨a, b, c⟩ := hW.step i v _ hv hu
    have hout := hW.outs (by omega) hv
    have hsym := hP.nbr_sym hout (by rw [← c]; exact b)
    have hmid := hP.thr_sym (hW.mid i v (by omega) (by omega) hv)
    obtain ⟨y, hy, hy2⟩ := hC _ x hx v.in_ (by simp only [c, a, hsym]; exact hmid.1)
    simp only [c, a, hsym] at hy
    exact ⟨y, hy, by omega⟩
/-- Find finds a route no longer than a walk, or meets a track twice. -/
theorem find_short (N : Nat) (hN : 4000 ≤ N) {l : List PlantElement} (hP : PlOk l) {fr to : Int} {w : List Visit} (hW : WayP l w) (hf : ∀ v, w[0]? = some v → v.element = fr) (he : ∀ v, w[w.length - 1]? = some v → v.element = to) (hne : fr ≠ to) :
    route_Find N l fr to = some ([], 17) ∨ ∃ r, route_Find N l fr to = some (r, 0) ∧ RtP l r ∧ r.length ≤ w.length ∧ (∀ v, r[0]? = some v → v.element = fr) ∧ ∀ v, r[r.length - 1]? = some v → v.element = to := by
  have htwo := hW.two
  have h0 := at_lt (xs := w) (i := 0) (by omega)
  have h1 := at_lt (xs := w) (i := 1) (by omega)
  have hz := at_lt (xs := w) (i := w.length - 1) (by omega)
  obtain ⟨s1, s2, s3⟩ := hW.st _ h0
  have e1 := (hW.en _ hz).1
  rw [hf _ h0] at s1 s3
  rw [he _ hz] at e1
  rcases find_all N hN hP fr to with ⟨_, h⟩ | ⟨a, b, c, d, g1, g2, g3, g⟩
  · rcases h with h | h | h
    · exact absurd s1 h
    · exact absurd e1 h
    · exact absurd h hne
  · obtain ⟨x, hx, hx2⟩ := walk_dist hP g2 g3 hW he (w.length - 2) 1 _ (by omega) (by omega) h1
    obtain ⟨p, q, r⟩ := hW.step 0 _ _ h0 h1
    have hb : Place.mk (w[1]'(by omega)).element (w[1]'(by omega)).in_ = beh l fr (w[0]'(by omega)).out := by
      unfold beh
      rw [r, p, hf _ h0]
    rw [hb] at hx
    rcases g with ⟨_, g⟩ | g | ⟨t, t1, t2, t3, t4, t5, t6⟩
    · rw [g _ s3] at hx; cases hx
    · exact .inl g
    · exact .inr ⟨t, t1, t2, by have := t6 _ s3 x hx; omega, t4, t5⟩
/-! ### The walk that the law takes -/
theorem endsP_two {x : PlantElement} (h : endsP x ≠ []) : 2 ≤ (endsP x).length := by
  unfold endsP at *
  split
  · simp
  · split
    · simp
    · rename_i h1 h2
      rw [if_neg h1, if_neg h2] at h; exact absurd rfl h
theorem thr_pos {l : List PlantElement} (hP : PlOk l) {i n : Int} (h : n ∈ eI l i) : 0 < (thr l i n).length := by
  obtain ⟨h0, h1, x, hx, hn⟩ := eI_mem h
  obtain ⟨j, rfl⟩ := Int.eq_ofNat_of_zero_le h0
  rw [Int.toNat_natCast] at hx
  have h2 := endsP_two (soundP_ends (hP.snd x (List.mem_of_getElem? hx))).2.2.1
  unfold thr thrE
  rw [eI_nat hx, if_pos (by simpa using hn)]
  split
  · rw [List.length_tail]; omega
  · rw [List.length_take]; omega
structure WkI (l : List PlantElement) (w : List Visit) (v : Visit) : Prop where
  ne : 1 ≤ w.length
  last : w[w.length - 1]? = some v
  st : ∀ v, w[0]? = some v → trk l v.element ∧ v.in_ = -1 ∧ v.out ∈ eI l v.element
  out : v.out ∈ eI l v.element
  step : ∀ (i : Nat) v w', w[i]? = some v → w[i + 1]? = some w' → w'.in_ = v.out ∧ 0 ≤ w'.element ∧ w'.element = nbr l v.element v.out
  mid : ∀ (i : Nat) v, 0 < i → w[i]? = some v → v.out ∈ thr l v.element v.in_
theorem app_at {α : Type} {w : List α} {y : α} {i : Nat} {x : α} (h : (w ++ [y])[i]? = some x) : (i < w.length ∧ w[i]? = some x) ∨ (i = w.length ∧ x = y) := by
  by_cases hi : i < w.length
  · rw [List.getElem?_append_left hi] at h; exact .inl ⟨hi, h⟩
  · have := (List.getElem?_eq_some_iff.1 h).1
    simp at this
    have : i = w.length := by omega
    subst this
    simp at h
    exact .inr ⟨rfl, h.symm⟩
theorem WkI.step' {l : List PlantElement} {w : List Visit} {v y : Visit} (h : WkI l w v) (h1 : y.in_ = v.out) (h0 : 0 ≤ nbr l v.element v.out) (h2 : y.element = nbr l v.element v.out) : ∀ (i : Nat) a b, (w ++ [y])[i]? = some a → (w ++ [y])[i + 1]? = some b → b.in_ = a.out ∧ 0 ≤ b.element ∧ b.element = nbr l a.element a.out := by
  intro i a b ha hb
  rcases app_at hb with ⟨p, q⟩ | ⟨p, rfl⟩
  · rcases app_at ha with ⟨r, s⟩ | ⟨r, _⟩
    · exact h.step i a b s q
    · omega
  · rcases app_at ha with ⟨r, s⟩ | ⟨r, _⟩
    · have := h.last
      rw [show w.length - 1 = i by omega, s] at this
      cases this
      exact ⟨h1, by rw [h2]; exact h0, h2⟩
    · omega
theorem WkI.st' {l : List PlantElement} {w : List Visit} {v y : Visit} (h : WkI l w v) : ∀ a, (w ++ [y])[0]? = some a → trk l a.element ∧ a.in_ = -1 ∧ a.out ∈ eI l a.element := by
  intro a ha
  rcases app_at ha with ⟨_, q⟩ | ⟨p, _⟩
  · exact h.st a q
  · have := h.ne; omega
theorem WkI.add {l : List PlantElement} {w : List Visit} {v : Visit} {o : Int} (h : WkI l w v) (h0 : 0 ≤ nbr l v.element v.out) (ho : o ∈ thr l (nbr l v.element v.out) v.out) : WkI l (w ++ [Visit.mk (nbr l v.element v.out) v.out o]) (Visit.mk (nbr l v.element v.out) v.out o) where
  ne := by simp
  last := by simp
  st := h.st'
  out := (thr_mem ho).2
  step := h.step' rfl h0 rfl
  mid := fun i a hi ha => by
    rcases app_at ha with ⟨_, q⟩ | ⟨_, rfl⟩
    · exact h.mid i a hi q
    · exact ho
theorem WkI.fin {l : List PlantElement} {w : List Visit} {v : Visit} (h : WkI l w v) (h0 : 0 ≤ nbr l v.element v.out) (ht : trk l (nbr l v.element v.out)) : WayP l (w ++ [Visit.mk (nbr l v.element v.out) v.out (-1)]) where
  two := by have := h.ne; simp; omega
  st := h.st'
  en := fun a ha => by simp at ha; subst ha; exact ⟨ht, rfl⟩
  step := h.step' rfl h0 rfl
  mid := fun i a hi hi2 ha => by
    rcases app_at ha with ⟨_, q⟩ | ⟨p, _⟩
    · exact h.mid i a hi q
    · simp at hi2; omega
theorem trk_lt {l : List PlantElement} {i n : Int} (h : 0 ≤ nbr l i n) : nbr l i n < l.length := by
  rcases nbr_spec l i n with ⟨a, _⟩ | ⟨j, x, a, b, _⟩
  · omega
  · have := (List.getElem?_eq_some_iff.1 b).1
    omega
theorem walk1 (N : Nat) (hN : 4000 ≤ N) {l : List PlantElement} (hP : PlOk l) {c : Int} {s : Maker} (hs : Mk c s) (hc : c ≤ 1000000) {e n : Int} (h0 : 0 ≤ e) (h1 : e < l.length) {o : List Int} (ho : 0 < o.length) : ∃ b s', yardgen_Walk_1 N s l e o = some (s', b) ∧ Mk (c + 1) s' ∧ (b = true → trk l e) := by
  have hll := hP.len
  obtain ⟨j, rfl⟩ := Int.eq_ofNat_of_zero_le h0
  have hj := at_lt (xs := l) (i := j) (by omega)
  have g0 : getI o 0 = some o[0] := getI_nat (at_lt (xs := o) (i := 0) ho)
  unfold yardgen_Walk_1
  rw [getI_nat hj, bind_some']
  by_cases hk : l[j].kind = 1
  · have ht : trk l (j : Int) := ⟨by omega, _, hj, hk⟩
    rw [if_pos (by simpa using hk)]
    obtain ⟨r, s', p1, p2, p3, p4⟩ := next_ok N (s := s) (c := c) 2 (by omega) (by omega) hs (by omega)
    rw [p1, bind_some']
    by_cases hr : r = 0
    · rw [if_pos (by simpa using hr)]; exact ⟨_, _, rfl, p4, fun _ => ht⟩
    · rw [if_neg (by simpa using hr), g0, bind_some', bind_some', rnbr_ok N (by omega) (by omega), bind_some']
      exact ⟨_, _, rfl, p4, fun _ => ht⟩
  · rw [if_neg (by simpa using hk)]
    exact ⟨_, _, rfl, hs.le (by omega), fun h => by cases h⟩
theorem walk_loop (N : Nat) (hN : 4000 ≤ N) {l : List PlantElement} (hP : PlOk l) : ∀ (k n i : Nat) (c : Int) (s : Maker) (v : Visit) (w : List Visit), k < n → i + k = 12 → Mk c s → c + 2 * k ≤ 1000000 → WkI l w v → w.length = i + 1 →
    ∃ s' w', (yardgen_Walk_0 N l n s v w i = some (.inl (s', w')) ∨ yardgen_Walk_0 N l n s v w i = some (.inr (s', w'))) ∧ Mk (c + 2 * k) s' ∧ 1 ≤ w'.length ∧ w'.length ≤ 13 ∧ (WayP l w' ∨ ∀ v, w'[w'.length - 1]? = some v → v.out ≠ -1)
  | k, 0, i, c, s, v, w, hn, _, _, _, _, _ => by omega
  | k, n + 1, i, c, s, v, w, hn, hi, hs, hc, hI, hl => by
    have hll := hP.len
    have stop : ∀ v', w[w.length - 1]? = some v' → v'.out ≠ -1 := fun v' hv' => by
      rw [hI.last] at hv'; cases hv'
      obtain ⟨_, _, x, hx, hn⟩ := eI_mem hI.out
      have := (soundP_ends (hP.snd x (List.mem_of_getElem? hx))).2.1 _ hn
      omega
    cases k with
    | zero =>
      rw [yardgen_Walk_0, if_neg (dneg (by omega))]
      exact ⟨s, w, .inl rfl, hs.le (by omega), by omega, by omega, .inr stop⟩
    | succ k =>
      rw [yardgen_Walk_0, if_pos (dpos (by omega)), rnbr_ok N (by omega) (by omega), bind_some']
      by_cases h0 : nbr l v.element v.out < 0
      · rw [if_pos (dpos h0)]
        exact ⟨s, w, .inl rfl, hs.le (by omega), by omega, by omega, .inr stop⟩
      · rw [if_neg (dneg h0), rthr_ok N (by omega), bind_some']
        have h0' : 0 ≤ nbr l v.element v.out := by omega
        have hpos := thr_pos hP (nbr_mem h0').1
        have h3 := thr_len l (nbr l v.element v.out) v.out
        obtain ⟨b, s1, q1, q2, q3⟩ := walk1 N hN hP hs (by omega) h0' (trk_lt h0') (n := v.out) hpos
        rw [q1, bind_some']
        simp only []
        cases b with
        | true =>
          rw [if_pos rfl, appI_ok (by simp; omega), bind_some']
          exact ⟨_, _, .inr rfl, q2.le (by omega), by simp, by simp; omega, .inl (hI.fin h0' (q3 rfl))⟩
        | false =>
          rw [if_neg (by simp)]
          obtain ⟨r, s2, p1, p2, p3, p4⟩ := next_ok N (s := s1) (c := c + 1) ((thr l (nbr l v.element v.out) v.out).length : Int) (by omega) (by omega) q2 (by omega)
          obtain ⟨r, rfl⟩ := Int.eq_ofNat_of_zero_le p2
          have hr := at_lt (xs := thr l (nbr l v.element v.out) v.out) (i := r) (by omega)
          rw [p1, bind_some']
          simp only []
          rw [getI_nat hr, bind_some', bind_some', appI_ok (by simp; omega), bind_some', lt_def, w64s (by omega)]
          have hI' := hI.add h0' (List.mem_of_getElem? hr)
          obtain ⟨s', w', g1, g2, g3, g4, g5⟩ := walk_loop N hN hP k n (i + 1) (c + 1 + 1) s2 _ _ (by omega) (by omega) p4 (by omega) hI' (by simp; omega)
          exact ⟨s', w', g1, g2.le (by omega), g3, g4, g5⟩
theorem walk_ok (N : Nat) (hN : 4000 ≤ N) {l : List PlantElement} (hP : MadeP l) {c : Int} {s : Maker} (hs : Mk c s) (hc : c ≤ 900000) :
    ∃ w s', yardgen_Walk N s l = some (w, s') ∧ Mk (c + 30) s' ∧ 1 ≤ w.length ∧ w.length ≤ 13 ∧ (WayP l w ∨ ∀ v, w[w.length - 1]? = some v → v.out ≠ -1) := by
  have hll := hP.ok.len
  unfold yardgen_Walk
  rw [tracks_ok N (by omega) (by omega), bind_some']
  have hlen := trks_len l l 0
  have hpos : 0 < (trks l 0 l).length := by
    obtain ⟨x, hx, hk⟩ := hP.fst
    cases l with
    | nil => simp at hx
    | cons y l =>
      simp at hx; subst hx
      rw [trks, if_pos hk]; simp
  have htrk : ∀ a ∈ trks l 0 l, trk l a := by
    intro a ha
    obtain ⟨j, x, h1, h2, h3⟩ := trks_mem ha
    rw [Nat.zero_add] at h1
    subst h1
    exact ⟨by omega, x, by simpa using h2, h3⟩
  obtain ⟨r, s1, p1, p2, p3, p4⟩ := next_ok N (s := s) (c := c) ((trks l 0 l).length : Int) (by omega) (by omega) hs (by omega)
  obtain ⟨r, rfl⟩ := Int.eq_ofNat_of_zero_le p2
  have hr := at_lt (xs := trks l 0 l) (i := r) (by omega)
  have ht := htrk _ (List.mem_of_getElem? hr)
  rw [p1, bind_some']
  simp only []
  rw [getI_nat hr, bind_some', bind_some', rEnds_ok, bind_some']
  generalize (trks l 0 l)[r]'(by omega) = e at *
  have hpos2 : 0 < (eI l e).length := by
    obtain ⟨a, x, b, cc⟩ := ht
    unfold eI
    rw [if_pos a, b]
    simp [endsP, cc]
  have h3 := eI_len l e
  obtain ⟨q, s2, q1, q2, q3, q4⟩ := next_ok N (s := s1) (c := c + 1) ((eI l e).length : Int) (by omega) (by omega) p4 (by omega)
  obtain ⟨q, rfl⟩ := Int.eq_ofNat_of_zero_le q2
  have hq := at_lt (xs := eI l e) (i := q) (by omega)
  rw [q1, bind_some']
  simp only []
  rw [getI_nat hq, bind_some', bind_some']
  have hmem := List.mem_of_getElem? hq
  generalize (eI l e)[q]'(by omega) = o at *
  have hI : WkI l [Visit.mk e (-1) o] (Visit.mk e (-1) o) := ⟨by simp, by simp, fun v hv => by simp at hv; subst hv; exact ⟨ht, rfl, hmem⟩, hmem, fun i v w hv hw => by simp at hw, fun i v hi hv => by
    have := (List.getElem?_eq_some_iff.1 hv).1
    simp at this; omega⟩
  obtain ⟨s', w', g1, g2, g3, g4, g5⟩ := walk_loop N hN hP.ok 12 N 0 (c + 1 + 1) s2 _ _ (by omega) (by omega) q4 (by omega) hI rfl
  refine ⟨w', s', ?_, g2.le (by omega), g3, g4, g5⟩
  rcases g1 with g1 | g1
  · have g1 : yardgen_Walk_0 N l N s2 (Visit.mk e (-1) o) [Visit.mk e (-1) o] 0 = some (.inl (s', w')) := g1
    rw [g1]; rfl
  · have g1 : yardgen_Walk_0 N l N s2 (Visit.mk e (-1) o) [Visit.mk e (-1) o] 0 = some (.inr (s', w')) := g1
    rw [g1]; rfl
/-! ### The law -/
theorem vals_eq (N : Nat) (hN : 4000 ≤ N) {l : List PlantElement} (hP : PlOk l) {w : List Visit} (hw : w.length ≤ 3000) : ∃ b, route_Valid N l w = some b ∧ r27_Valid N l w = some b ∧ (b = true ↔ RtP l w) := by
  have hll := hP.len
  obtain ⟨b1, p1, p2⟩ := pVal_ok N (l := l) (r := w) (by omega) (by omega) (by omega) fun _ x hx => .inl (soundP_ends (hP.snd x hx)).2.2.1
  obtain ⟨b2, r1, r2⟩ := rVal_ok N (l := l) (r := w) (by omega) (by omega) (by omega) fun _ x hx => by
    have h1 := (soundP_ends (hP.snd x hx)).2.2.2
    unfold pnOk at h1
    simp only [Bool.and_eq_true, decide_eq_true_eq] at h1
    omega
  have : b1 = b2 := Bool.eq_iff_iff.2 (p2.trans r2.symm)
  exact ⟨b1, p1, by rw [this]; exact r1, p2⟩
theorem short_one (N : Nat) (hN : 4000 ≤ N) {l : List PlantElement} (hP : MadeP l) {c : Int} {s : Maker} (hs : Mk c s) (hc : c ≤ 900000) : ∃ s', l27_RouteShortest_1 N s l = some (.inl s') ∧ Mk (c + 30) s' := by
  have hll := hP.ok.len
  unfold l27_RouteShortest_1
  obtain ⟨w, s', h1, h2, h3, h4, h5⟩ := walk_ok N hN hP hs hc
  rw [h1, bind_some']
  simp only [lt_def]
  by_cases hn : w.length < 2
  · have : l27_RouteShortest_2 N l w w.length = some true := by
      unfold l27_RouteShortest_2
      rw [if_pos (dpos (by omega))]
    rw [this, bind_some', if_pos rfl]
    exact ⟨s', rfl, h2⟩
  have h0 := at_lt (xs := w) (i := 0) (by omega)
  have hz := at_lt (xs := w) (i := w.length - 1) (by omega)
  have hw1 : IntKind.wrap .i64 ((w.length : Int) - 1) = ((w.length - 1 : Nat) : Int) := by rw [w64 (by omega) (by omega)]; omega
  generalize hv0 : w[0]'(by omega) = v at h0
  generalize hvz : w[w.length - 1]'(by omega) = z at hz
  have g0 : getI w 0 = some v := getI_nat h0
  have gz : getI w ((w.length - 1 : Nat) : Int) = some z := getI_nat hz
  rw [hw1, g0, gz]
  rcases h5 with h5 | h5
  · obtain ⟨e1, e2⟩ := h5.en z hz
    obtain ⟨e3, x, e4, e5⟩ := e1
    obtain ⟨j, hj⟩ := Int.eq_ofNat_of_zero_le e3
    have gx : getI l z.element = some x := by rw [hj] at e4 ⊢; rw [Int.toNat_natCast] at e4; exact getI_nat e4
    have h2' : l27_RouteShortest_2 N l w w.length = some (v.element == z.element) := by
      unfold l27_RouteShortest_2
      rw [if_neg (dneg (by omega)), hw1]
      simp only [g0, gz, bind_some', e2, gx, e5]
      rfl
    rw [h2', bind_some']
    by_cases he : v.element = z.element
    · rw [if_pos (by simpa using he)]
      exact ⟨s', rfl, h2⟩
    · rw [if_neg (by simpa using he)]
      simp only [bind_some']
      obtain ⟨b, b1, b2, b3⟩ := vals_eq N hN hP.ok (w := w) (by omega)
      have fin : ∀ (r : List Visit) (e : Int), (e = 0 ∨ e = 17) → r.length ≤ w.length → l27_RouteShortest_3 N l w w.length r e = some false := by
        intro r e he hr
        unfold l27_RouteShortest_3
        have : ¬ decide ((w.length : Int) < (r.length : Int)) = true := dneg (by omega)
        rcases he with rfl | rfl
        · rw [if_neg (by simp), if_neg this, b2, b1]
          cases b <;> rfl
        · rw [if_pos (by simp), if_neg (by simp), if_neg this, b2, b1]
          cases b <;> rfl
      rcases find_short N hN hP.ok h5 (fr := v.element) (to := z.element) (fun a ha => by rw [h0] at ha; cases ha; rfl) (fun a ha => by rw [hz] at ha; cases ha; rfl) he with g | ⟨r, g, _, g2, _⟩
      · rw [g, bind_some', fin _ _ (.inr rfl) (by simp), bind_some', if_neg (by simp)]
        exact ⟨s', rfl, h2⟩
      · rw [g, bind_some', fin _ _ (.inl rfl) g2, bind_some', if_neg (by simp)]
        exact ⟨s', rfl, h2⟩
  · have hne := h5 z hz
    have h2' : l27_RouteShortest_2 N l w w.length = some true := by
      unfold l27_RouteShortest_2
      rw [if_neg (dneg (by omega)), hw1]
      simp only [gz, bind_some']
      rw [if_pos (by simpa using hne)]
    rw [h2', bind_some', if_pos rfl]
    exact ⟨s', rfl, h2⟩
theorem short_loop (N : Nat) (hN : 4000 ≤ N) {l : List PlantElement} (hP : MadeP l) : ∀ (k n i : Nat) (c : Int) (s : Maker), k < n → i + k = 6 → Mk c s → c + 30 * k ≤ 900000 → l27_RouteShortest_0 N l n s i = some (.inl ())
  | k, 0, i, c, s, hn, _, _, _ => by omega
  | 0, n + 1, i, c, s, hn, hi, hs, hc => by
    obtain rfl : i = 6 := by omega
    rw [l27_RouteShortest_0, if_neg (dneg (by omega))]
  | k + 1, n + 1, i, c, s, hn, hi, hs, hc => by
    obtain ⟨s', h1, h2⟩ := short_one N hN hP hs (by omega)
    rw [l27_RouteShortest_0, if_pos (dpos (by omega)), h1, bind_some']
    simp only [lt_def]
    rw [w64s (by omega)]
    exact short_loop N hN hP k n (i + 1) (c + 30) s' (by omega) (by omega) h2 (by omega)
/-- No walk between two tracks is shorter than what Find returns. -/
theorem rshortT (t : List Int) : ∃ N, l27_RouteShortest N t = some true := by
  refine ⟨4000, ?_⟩
  unfold l27_RouteShortest gen_New
  rw [bind_some']
  obtain ⟨l, s, h1, h2, h3⟩ := plant_ok 4000 (by omega) (mk0 t) (k := 18) (by omega)
  rw [h1, bind_some']
  simp only []
  have := short_loop 4000 (by omega) h3 6 4000 0 30000 s (by omega) (by omega) h2 (by omega)
  have this : l27_RouteShortest_0 4000 l 4000 s 0 = some (.inl ()) := this
  rw [this, bind_some']
  simp only []
  rw [sane27' (by omega), bind_some']
end Go.W
end
