/- Rules: the place at which a train breaks one, of all kinds; the first rule that is broken. -/
import Derived.Test.YtaoioacomnnhdaaLRul2
set_option linter.unusedVariables false
set_option linter.unusedSimpArgs false
set_option maxRecDepth 100000
namespace Go.W
open Go.AM

def pEng (r : Rule) (i : Nat) (w : Wagon) : Bool := (w.goods == r.a) && decide ((i : Int) < r.b)
def pLoad (r : Rule) (_ : Nat) (w : Wagon) : Bool := decide (r.a * w.axles < w.mass)
def pLight (r : Rule) (l : List Wagon) (i : Nat) (w : Wagon) : Bool := decide (w.mass ≤ r.a) && decide (r.b < sumL (·.mass) (l.drop (i + 1)))

theorem firstM {l : List Wagon} {p : Nat → Wagon → Bool} {x : Option (Sum Unit Int)} (h : x = some (res p (fun i _ => (i : Int)) 0 l)) : (Option.bind x fun y => match y with | .inl _ => some (-1) | .inr y => some y) = some (firstI p 0 l) := by
  rw [h, bind_some']
  rcases res_first p l 0 with ⟨h1, h2⟩ | ⟨h1, h2⟩
  · rw [h1, h2]
  · rw [h1]

theorem first4 (N : Nat) (hN : 1001 ≤ N) {t : Train} (hl : t.l.length ≤ 1000) (r : Rule) : train_first__rulebook_train_place_4 N t (t, r) = some (firstI (pApart r t.l) 0 t.l) := by
  unfold train_first__rulebook_train_place_4
  refine firstM ?_
  have h := first_gen (l := t.l) (pApart r t.l) (fun i _ => (i : Int)) (fun n i => train_first__rulebook_train_place_4_0 N (t, r) t.l t.l.length n i) (fun n => by
    show train_first__rulebook_train_place_4_0 N (t, r) t.l t.l.length (n + 1) _ = _
    rw [train_first__rulebook_train_place_4_0, if_neg (dneg (by omega))]) (fun n i x hx => by
    show train_first__rulebook_train_place_4_0 N (t, r) t.l t.l.length (n + 1) _ = _
    have hlt := (List.getElem?_eq_some_iff.1 hx).1
    rw [train_first__rulebook_train_place_4_0, if_pos (dpos (by omega)), getI_nat hx, bind_some', rulebook_train_place_4, apart_ok N hN hl hx, bind_some', bind_some', w64s (by omega)]) t.l.length N 0 (by omega) (by omega)
  simpa using h
theorem first5 (N : Nat) (hN : 1001 ≤ N) {t : Train} (hl : t.l.length ≤ 1000) (r : Rule) : train_first__rulebook_train_place_5 N t r = some (firstI (pEng r) 0 t.l) := by
  unfold train_first__rulebook_train_place_5
  refine firstM ?_
  have h := first_gen (l := t.l) (pEng r) (fun i _ => (i : Int)) (fun n i => train_first__rulebook_train_place_5_0 N r t.l t.l.length n i) (fun n => by
    show train_first__rulebook_train_place_5_0 N r t.l t.l.length (n + 1) _ = _
    rw [train_first__rulebook_train_place_5_0, if_neg (dneg (by omega))]) (fun n i x hx => by
    show train_first__rulebook_train_place_5_0 N r t.l t.l.length (n + 1) _ = _
    have hlt := (List.getElem?_eq_some_iff.1 hx).1
    have e : rulebook_train_place_5_0 N i r x = some (pEng r i x) := by
      unfold rulebook_train_place_5_0 pEng
      split <;> simp_all [lt_def]
    rw [train_first__rulebook_train_place_5_0, if_pos (dpos (by omega)), getI_nat hx, bind_some', rulebook_train_place_5, e, bind_some', bind_some', w64s (by omega)]) t.l.length N 0 (by omega) (by omega)
  simpa using h
theorem load_w {r : Rule} (hr : rvalid r = true) {l : List Wagon} (h : Vd l) {i : Nat} {x : Wagon} (hx : l[i]? = some x) : IntKind.wrap .i64 (r.a * x.axles) = r.a * x.axles := by
  have hr := rvalid_iff.1 hr
  have hx := h.at hx
  have h1 : 0 ≤ r.a * x.axles := Int.mul_nonneg (by omega) (by omega)
  have h2 : r.a * x.axles ≤ 1000000 * 6 := Int.mul_le_mul (by omega) (by omega) (by omega) (by omega)
  exact w64 (by omega) (by omega)
theorem first6 (N : Nat) (hN : 1001 ≤ N) {t : Train} (h : Vd t.l) {r : Rule} (hr : rvalid r = true) : train_first__rulebook_train_place_6 N t r = some (firstI (pLoad r) 0 t.l) := by
  have hl := h.ln
  unfold train_first__rulebook_train_place_6
  refine firstM ?_
  have h := first_gen (l := t.l) (pLoad r) (fun i _ => (i : Int)) (fun n i => train_first__rulebook_train_place_6_0 N r t.l t.l.length n i) (fun n => by
    show train_first__rulebook_train_place_6_0 N r t.l t.l.length (n + 1) _ = _
    rw [train_first__rulebook_train_place_6_0, if_neg (dneg (by omega))]) (fun n i x hx => by
    show train_first__rulebook_train_place_6_0 N r t.l t.l.length (n + 1) _ = _
    have hlt := (List.getElem?_eq_some_iff.1 hx).1
    rw [train_first__rulebook_train_place_6_0, if_pos (dpos (by omega)), getI_nat hx, bind_some', rulebook_train_place_6, lt_def, bind_some', load_w hr h hx, w64s (by omega)]
    rfl) t.l.length N 0 (by omega) (by omega)
  simpa using h

theorem mass_rg {l : List Wagon} (h : Vd l) : ∀ w ∈ l, 0 ≤ w.mass ∧ w.mass ≤ 2000 := fun w hw => by have := h.rg w hw; omega
theorem behind_loop (N : Nat) {l : List Wagon} (hl : l.length ≤ 96) (h : ∀ w ∈ l, 0 ≤ w.mass ∧ w.mass ≤ 2000) (hN : 1001 ≤ N) : train_behind_0 N l l.length N 0 0 = some (sumL (·.mass) l) := by
  have hb := fold_gen (l := l) (fun i (x : Wagon) (s : Int) => s + x.mass) (fun s => s) (fun i s => s = sumL (·.mass) (l.take i)) (fun n s i => train_behind_0 N l l.length n s i) (fun n s _ => by
    show train_behind_0 N l l.length (n + 1) s _ = _
    rw [train_behind_0, if_neg (dneg (by omega))]) (fun n i x s hx hs => by
    show train_behind_0 N l l.length (n + 1) s _ = train_behind_0 N l l.length n _ _ ∧ _
    have hlt := (List.getElem?_eq_some_iff.1 hx).1
    have tb := take_bound (f := (·.mass)) h hl (i + 1)
    have ts := take_sum (f := (·.mass)) hx
    rw [train_behind_0, if_pos (dpos (by omega)), getI_nat hx, bind_some', lt_def, hs, ← ts, w64 (by omega) (by omega), w64s (by omega)]
    exact ⟨rfl, rfl⟩) l.length N 0 0 (by omega) (by omega) rfl
  simp only [Int.natCast_zero, List.drop_zero] at hb
  rw [hb.1, hb.2, List.take_length]
theorem behind_ok (N : Nat) (hN : 1001 ≤ N) {t : Train} (h : Vd t.l) {i : Nat} (hi : i < t.l.length) : train_behind N t i = some (sumL (·.mass) (t.l.drop (i + 1))) := by
  have hl := h.ln
  unfold train_behind
  rw [w64s (by omega), cutI_drop (by omega), bind_some', behind_loop N (by simp; omega) (fun w hw => mass_rg h w (List.mem_of_mem_drop hw)) hN]
  rfl
theorem first7 (N : Nat) (hN : 1001 ≤ N) {t : Train} (h : Vd t.l) (r : Rule) : train_first__rulebook_train_place_7 N t (r, t) = some (firstI (pLight r t.l) 0 t.l) := by
  have hl := h.ln
  unfold train_first__rulebook_train_place_7
  refine firstM ?_
  have h := first_gen (l := t.l) (pLight r t.l) (fun i _ => (i : Int)) (fun n i => train_first__rulebook_train_place_7_0 N (r, t) t.l t.l.length n i) (fun n => by
    show train_first__rulebook_train_place_7_0 N (r, t) t.l t.l.length (n + 1) _ = _
    rw [train_first__rulebook_train_place_7_0, if_neg (dneg (by omega))]) (fun n i x hx => by
    show train_first__rulebook_train_place_7_0 N (r, t) t.l t.l.length (n + 1) _ = _
    have hlt := (List.getElem?_eq_some_iff.1 hx).1
    have e : rulebook_train_place_7_0 N i r t x = some (pLight r t.l i x) := by
      unfold rulebook_train_place_7_0 pLight
      rw [behind_ok N hN h hlt]
      by_cases hm : x.mass ≤ r.a
      · rw [if_pos (lpos hm), lpos hm]; rfl
      · rw [if_neg (lneg hm), decide_eq_false hm]; rfl
    rw [train_first__rulebook_train_place_7_0, if_pos (dpos (by omega)), getI_nat hx, bind_some', rulebook_train_place_7, e, bind_some', bind_some', w64s (by omega)]) t.l.length N 0 (by omega) (by omega)
  simpa using h

theorem rlight_loop (N : Nat) {l : List Wagon} (h : Vd l) {j : Nat} (hj : j ≤ l.length) : ∀ (q n i : Nat), q < n → i + q = l.length → j ≤ i →
    r36_breaks_6 N l n (sumL (·.mass) (l.take i) - sumL (·.mass) (l.take j)) i = some (sumL (·.mass) (l.drop j))
  | q, 0, i, hn, _, _ => by omega
  | 0, n + 1, i, hn, hi, _ => by
    obtain rfl : i = l.length := by omega
    rw [r36_breaks_6, if_neg (dneg (by omega)), List.take_length]
    have := sumL_append (·.mass) (l.take j) (l.drop j)
    rw [List.take_append_drop] at this
    congr 1; omega
  | q + 1, n + 1, i, hn, hi, hij => by
    have hlt : i < l.length := by omega
    have hl := h.ln
    have tb := take_bound (f := (·.mass)) (mass_rg h) h.ln (i + 1)
    have tb2 := take_bound (f := (·.mass)) (mass_rg h) h.ln j
    have ts := take_sum (f := (·.mass)) (at_lt hlt)
    have hw := mass_rg h _ (List.getElem_mem hlt)
    rw [r36_breaks_6, if_pos (dpos (by omega)), getI_nat (at_lt hlt), bind_some', lt_def, lt_def, show sumL (·.mass) (l.take i) - sumL (·.mass) (l.take j) + l[i].mass = sumL (·.mass) (l.take (i + 1)) - sumL (·.mass) (l.take j) by omega, w64 (by omega) (by omega), w64s (by omega)]
    exact rlight_loop N h hj q n (i + 1) (by omega) (by omega) (by omega)

/-- The condition of a rule of places. -/
def pOf (r : Rule) (l : List Wagon) : Nat → Wagon → Bool :=
  if r.kind = 1 ∨ r.kind = 2 ∨ r.kind = 3 then pSum r.kind r.a l else if r.kind = 5 then pApart r l else if r.kind = 6 then pEng r else if r.kind = 8 then pLoad r else pLight r l

theorem breaks_ok (N : Nat) (hN : 1001 ≤ N) {r : Rule} (hr : rvalid r = true) (h4 : r.kind ≠ 4) (h7 : r.kind ≠ 7) {l : List Wagon} (h : Vd l) {i : Nat} {w : Wagon} (hw : l[i]? = some w) : r36_breaks N r l i = some (pOf r l i w) := by
  have hlt := (List.getElem?_eq_some_iff.1 hw).1
  have hl := h.ln
  have hv := rvalid_iff.1 hr
  unfold r36_breaks r36_breaks_0 pOf
  rw [lt_def, show r36_breaks_1 N r.kind (r.kind == 1) = some (decide (r.kind = 1 ∨ r.kind = 2 ∨ r.kind = 3)) from by
    unfold r36_breaks_1
    by_cases a : r.kind = 1 <;> by_cases b : r.kind = 2 <;> by_cases c : r.kind = 3 <;> simp [a, b, c, lt_def], bind_some']
  by_cases a : r.kind = 1 ∨ r.kind = 2 ∨ r.kind = 3
  · have hs := rsum_loop N h r hlt (i + 1) N 0 (by omega) (by omega)
    simp only [Int.natCast_zero, List.take_zero, sumL_nil] at hs
    rw [if_pos (by simpa using a), if_pos a, hs]
    rfl
  · rw [if_neg (by simpa using a), if_neg a, lt_def]
    by_cases b : r.kind = 5
    · rw [if_pos (by simpa using b), if_pos b, rapart_ok N hN (by omega) hw, bind_some', ← near_res]
      cases res (pNear r i w) (fun _ _ => true) 0 (l.take i) <;> rfl
    · rw [if_neg (by simpa using b), if_neg b, lt_def]
      by_cases c : r.kind = 6
      · rw [if_pos (by simpa using c), if_pos c, show r36_breaks_5 N l i r = some (pEng r i w) from by
          unfold r36_breaks_5 pEng
          rw [getI_nat hw, bind_some']
          split <;> simp_all [lt_def]]
        rfl
      · rw [if_neg (by simpa using c), if_neg c, lt_def]
        by_cases d : r.kind = 8
        · rw [if_pos (by simpa using d), if_pos d, getI_nat hw, bind_some', bind_some', lt_def, load_w hr h hw]
          rfl
        · rw [if_neg (by simpa using d), if_neg d, lt_def, if_pos (by simp; omega), lt_def, w64s (by omega)]
          have hs := rlight_loop N h (j := i + 1) (by omega) (l.length - (i + 1)) N (i + 1) (by omega) (by omega) (by omega)
          rw [Int.sub_self] at hs
          rw [hs, bind_some', show r36_breaks_7 N l i r (sumL (·.mass) (l.drop (i + 1))) = some (pLight r l i w) from by
            unfold r36_breaks_7 pLight
            rw [getI_nat hw, bind_some']
            by_cases hm : w.mass ≤ r.a
            · rw [if_pos (lpos hm), lpos hm]; rfl
            · rw [if_neg (lneg hm), decide_eq_false hm]; rfl]
          rfl

/-! ### The last wagons -/
/-- How many wagons are braked. -/
def cnt (off : List Int) : Nat → List Wagon → Int
  | _, [] => 0
  | i, w :: l => (if 0 < w.brake ∧ (i : Int) ∉ off then 1 else 0) + cnt off (i + 1) l
theorem cnt_bound (off : List Int) : ∀ (l : List Wagon) (i : Nat), 0 ≤ cnt off i l ∧ cnt off i l ≤ l.length
  | [], i => by simp [cnt]
  | w :: l, i => by
    have := cnt_bound off l (i + 1)
    rw [cnt, List.length_cons]
    split <;> omega
theorem has_ok (N : Nat) (hN : 1001 ≤ N) {l : List Int} (hl : l.length ≤ 1000) (x : Int) : slices_Contains_int_int N l x = some (decide (x ∈ l)) := by
  have h := first_gen (l := l) (fun _ y => x == y) (fun i _ => (i : Int)) (fun n i => slices_Index_int_int_0 N l x l.length n i) (fun n => by
    show slices_Index_int_int_0 N l x l.length (n + 1) _ = _
    rw [slices_Index_int_int_0, if_neg (dneg (by omega))]) (fun n i y hy => by
    show slices_Index_int_int_0 N l x l.length (n + 1) _ = _
    have hlt := (List.getElem?_eq_some_iff.1 hy).1
    rw [slices_Index_int_int_0, if_pos (dpos (by omega)), getI_nat hy, bind_some', w64s (by omega)]) l.length N 0 (by omega) (by omega)
  simp only [Int.natCast_zero, List.drop_zero] at h
  unfold slices_Contains_int_int slices_Index_int_int
  rw [h, bind_some']
  rcases res_first (fun _ (y : Int) => x == y) l 0 with ⟨h1, h2⟩ | ⟨h1, h2⟩
  · rw [h1]
    rcases firstI_spec (fun _ (y : Int) => x == y) l 0 with ⟨_, h4⟩ | ⟨j, y, h4, _⟩
    · rw [decide_eq_false]
      · rfl
      · intro hm
        obtain ⟨j, hj⟩ := List.getElem?_of_mem hm
        have := h4 j x hj
        simp at this
    · rw [h2] at h4; omega
  · rw [h1]
    rcases firstI_spec (fun _ (y : Int) => x == y) l 0 with ⟨h3, _⟩ | ⟨j, y, h4, h5, h6, _⟩
    · omega
    · have : x ∈ l := by rw [show x = y by simpa using h6]; exact List.mem_of_getElem? h5
      rw [decide_eq_true this]
      simp only [bind_some', lt_def, lpos h2]

theorem tail_loop (N : Nat) (hN : 1001 ≤ N) {t : Train} (hl : t.l.length ≤ 1000) (ho : t.off.length ≤ 1000) : ∀ (q n i : Nat) (s : Int), q < n → i + q = t.l.length → 0 ≤ s → s ≤ i →
    train_tail_0 N t n s i = some (s + cnt t.off i (t.l.drop i)) ∧ r36_place_1 N t.l t.off t.l.length n s i = some (s + cnt t.off i (t.l.drop i))
  | q, 0, i, s, hn, _, _, _ => by omega
  | 0, n + 1, i, s, hn, hi, _, _ => by
    obtain rfl : i = t.l.length := by omega
    rw [train_tail_0, r36_place_1, if_neg (dneg (by omega)), if_neg (dneg (by omega)), List.drop_length, cnt, Int.add_zero]
    exact ⟨rfl, rfl⟩
  | q + 1, n + 1, i, s, hn, hi, h0, h1 => by
    have hlt : i < t.l.length := by omega
    have e : train_tail_2 N t i = some (decide (0 < t.l[i].brake ∧ (i : Int) ∉ t.off)) ∧ r36_place_3 N t.l t.off i = some (decide (0 < t.l[i].brake ∧ (i : Int) ∉ t.off)) := by
      unfold train_tail_2 r36_place_3
      rw [getI_nat (at_lt hlt), bind_some', bind_some', has_ok N hN ho, off_ok N ho hN, bind_some']
      by_cases hb : 0 < t.l[i].brake
      · rw [if_pos (dpos hb)]; simp [hb]
      · rw [if_neg (dneg hb)]; simp [hb]
    rw [train_tail_0, r36_place_1, if_pos (dpos (by omega)), if_pos (dpos (by omega)), train_tail_1, r36_place_2, e.1, e.2, drop_at (at_lt hlt), cnt]
    simp only [bind_some', lt_def, w64s (show i < 9223372036854775807 by omega)]
    by_cases hc : 0 < t.l[i].brake ∧ (i : Int) ∉ t.off
    · rw [if_pos (by simpa using hc), if_pos hc, w64 (n := s + 1) (by omega) (by omega), ← Int.add_assoc]
      simp only [bind_some']
      exact tail_loop N hN hl ho q n (i + 1) (s + 1) (by omega) (by omega) (by omega) (by omega)
    · rw [if_neg (by simpa using hc), if_neg hc, Int.zero_add]
      simp only [bind_some']
      exact tail_loop N hN hl ho q n (i + 1) s (by omega) (by omega) (by omega) (by omega)

/-- How many wagons at the end a rule looks at. -/
def lastN (r : Rule) (l : List Wagon) : Nat := (min r.a (l.length : Int)).toNat
def tailB (r : Rule) (l : List Wagon) (off : List Int) : Bool := decide (cnt off (l.length - lastN r l) (l.drop (l.length - lastN r l)) < min r.b (lastN r l))
theorem lastN_eq {r : Rule} (hr : rvalid r = true) (l : List Wagon) : min r.a (l.length : Int) = (lastN r l : Int) ∧ lastN r l ≤ l.length := by
  have := rvalid_iff.1 hr
  unfold lastN
  omega
theorem tail_ok (N : Nat) (hN : 1001 ≤ N) {t : Train} (hl : t.l.length ≤ 96) (ho : t.off.length ≤ 1000) {r : Rule} (hr : rvalid r = true) : train_tail N t r = some (tailB r t.l t.off) := by
  obtain ⟨e, hle⟩ := lastN_eq hr t.l
  unfold train_tail tailB
  simp only [lt_def, e]
  rw [show (t.l.length : Int) - (lastN r t.l : Int) = ((t.l.length - lastN r t.l : Nat) : Int) by omega, w64 (by omega) (by omega),
    (tail_loop N hN (by omega) ho (lastN r t.l) N (t.l.length - lastN r t.l) 0 (by omega) (by omega) (by omega) (by omega)).1, bind_some', Int.zero_add]

/-- The place at which a train breaks a rule, or -1. -/
def plc (r : Rule) (l : List Wagon) (off : List Int) (pc : Int) : Int :=
  if r.kind = 4 then (if 0 < l.length ∧ pc < r.a then (l.length : Int) else -1) else if r.kind = 7 then (if tailB r l off = true then (l.length : Int) else -1) else firstI (pOf r l) 0 l

theorem place_ok' (N : Nat) (hN : 1001 ≤ N) {t : Train} (h : Vd t.l) (ho : t.off.length ≤ 1000) {r : Rule} (hr : rvalid r = true) : train_place N t r = some (plc r t.l t.off t.total.percent) := by
  have hl := h.ln
  have hv := rvalid_iff.1 hr
  unfold train_place plc
  simp only [lt_def, beq_iff_eq]
  by_cases k1 : r.kind = 1
  · rw [if_pos k1, if_neg (by omega), if_neg (by omega), beyond1 N hN h, bind_some', show pOf r t.l = pSum 1 r.a t.l from by rw [pOf, if_pos (.inl k1), k1]]
  rw [if_neg k1]
  by_cases k2 : r.kind = 2
  · rw [if_pos k2, if_neg (by omega), if_neg (by omega), beyond2 N hN h, bind_some', show pOf r t.l = pSum 2 r.a t.l from by rw [pOf, if_pos (.inr (.inl k2)), k2]]
  rw [if_neg k2]
  by_cases k3 : r.kind = 3
  · rw [if_pos k3, if_neg (by omega), if_neg (by omega), beyond3 N hN h, bind_some', show pOf r t.l = pSum 3 r.a t.l from by rw [pOf, if_pos (.inr (.inr k3)), k3]]
  rw [if_neg k3]
  have kk : ¬ (r.kind = 1 ∨ r.kind = 2 ∨ r.kind = 3) := by omega
  by_cases k4 : r.kind = 4
  · rw [if_pos k4, if_pos k4]
    unfold train_place_0 train_end
    by_cases hz : 0 < t.l.length
    · rw [if_pos (dpos (by omega))]
      by_cases hp : t.total.percent < r.a
      · rw [if_pos (dpos hp), if_pos ⟨hz, hp⟩]; rfl
      · rw [if_neg (dneg hp), if_neg (fun hh => hp hh.2)]; rfl
    · rw [if_neg (dneg (by omega)), if_neg (by simp), if_neg (fun hh => hz hh.1)]; rfl
  rw [if_neg k4, if_neg k4]
  by_cases k5 : r.kind = 5
  · rw [if_pos k5, if_neg (by omega), first4 N hN (by omega), bind_some', show pOf r t.l = pApart r t.l from by rw [pOf, if_neg kk, if_pos k5]]
  rw [if_neg k5]
  by_cases k6 : r.kind = 6
  · rw [if_pos k6, if_neg (by omega), first5 N hN (by omega), bind_some', show pOf r t.l = pEng r from by rw [pOf, if_neg kk, if_neg k5, if_pos k6]]
  rw [if_neg k6]
  by_cases k7 : r.kind = 7
  · rw [if_pos k7, if_pos k7, tail_ok N hN hl ho hr, bind_some']
    unfold train_end
    cases tailB r t.l t.off <;> rfl
  rw [if_neg k7, if_neg k7]
  by_cases k8 : r.kind = 8
  · rw [if_pos k8, first6 N hN h hr, bind_some', show pOf r t.l = pLoad r from by rw [pOf, if_neg kk, if_neg k5, if_neg k6, if_pos k8]]
  rw [if_neg k8, first7 N hN h, bind_some', show pOf r t.l = pLight r t.l from by rw [pOf, if_neg kk, if_neg k5, if_neg k6, if_neg k8]]

theorem rplace_ok (N : Nat) (hN : 1001 ≤ N) {l : List Wagon} (hF : l.length ≤ 96 → ∀ w ∈ l, Fu N w) (h : Vd l) {off : List Int} (ho : off.length ≤ 1000) {r : Rule} (hr : rvalid r = true) : r36_place N r l off = some (plc r l off (tot l off).1.percent) := by
  have hl := h.ln
  have hv := rvalid_iff.1 hr
  unfold r36_place plc
  simp only [lt_def, beq_iff_eq]
  by_cases k4 : r.kind = 4
  · rw [if_pos k4, if_pos k4, (tot_ok N hN hF ho).2, bind_some']
    unfold r36_place_0
    by_cases hz : 0 < l.length
    · rw [if_pos (dpos (by omega)), bind_some']
      by_cases hp : (tot l off).1.percent < r.a
      · rw [if_pos (dpos hp), if_pos ⟨hz, hp⟩]
      · rw [if_neg (dneg hp), if_neg (fun hh => hp hh.2)]
    · rw [if_neg (dneg (by omega)), bind_some', if_neg (by simp), if_neg (fun hh => hz hh.1)]
  rw [if_neg k4, if_neg k4]
  by_cases k7 : r.kind = 7
  · rw [if_pos k7, if_pos k7]
    obtain ⟨e, hle⟩ := lastN_eq hr l
    unfold tailB
    simp only [e]
    have := (tail_loop N hN (t := Train.mk l off (tot l off).1) (by dsimp only; omega) ho (lastN r l) N (l.length - lastN r l) 0 (by omega) (by dsimp only; omega) (by omega) (by omega)).2
    dsimp only at this
    rw [show (l.length : Int) - (lastN r l : Int) = ((l.length - lastN r l : Nat) : Int) by omega, w64 (by omega) (by omega), this, bind_some', Int.zero_add]
    by_cases hc : cnt off (l.length - lastN r l) (l.drop (l.length - lastN r l)) < min r.b (lastN r l)
    · rw [if_pos (dpos hc), if_pos (dpos hc)]
    · rw [if_neg (dneg hc), if_neg (dneg hc)]
  rw [if_neg k7, if_neg k7]
  refine firstM ?_
  have h := first_gen (l := l) (pOf r l) (fun i _ => (i : Int)) (fun n i => r36_place_4 N l r l.length n i) (fun n => by
    show r36_place_4 N l r l.length (n + 1) _ = _
    rw [r36_place_4, if_neg (dneg (by omega))]) (fun n i x hx => by
    show r36_place_4 N l r l.length (n + 1) _ = _
    have hlt := (List.getElem?_eq_some_iff.1 hx).1
    rw [r36_place_4, if_pos (dpos (by omega)), breaks_ok N hN hr k4 k7 h hx, bind_some', lt_def, w64s (by omega)]) l.length N 0 (by omega) (by omega)
  simpa using h

/-- What 'Place' answers. -/
def placeR (r : Rule) (l : List Wagon) (off : List Int) : Int × Int :=
  if rvalid r = true then (if (tot l off).2 = 0 then (plc r l off (tot l off).1.percent, 0) else (0, (tot l off).2)) else (0, 1)
theorem placeR_ok (N : Nat) (hN : 1001 ≤ N) {l : List Wagon} (hF : l.length ≤ 96 → ∀ w ∈ l, Fu N w) {off : List Int} (ho : off.length ≤ 1000) (r : Rule) : rulebook_Place N r l off = some (placeR r l off) ∧ r36_Place N r l off = some (placeR r l off) := by
  obtain ⟨t1, t2⟩ := tot_ok N hN hF ho
  unfold rulebook_Place r36_Place placeR
  by_cases hr : rvalid r = true
  · by_cases he : (tot l off).2 = 0
    · have hv := Vd.of (tot_bound he).1
      have e0 : ((tot l off).2 != 0) = false := by simp [he]
      simp only [prule N (show 5 ≤ N by omega), rrule, bind_some', hr, Bool.not_true, Bool.false_eq_true, if_false, if_true, t1, t2, e0, bne00, he, place_ok' N hN (t := Train.mk l off (Brakes.mk (tot l off).1.length (tot l off).1.axles (tot l off).1.mass (tot l off).1.braked (tot l off).1.percent (tot l off).1.required (tot l off).1.missing)) hv ho hr, rplace_ok N hN hF hv ho hr, and_self]
    · have e0 : ((tot l off).2 != 0) = true := by simpa using he
      simp only [prule N (show 5 ≤ N by omega), rrule, bind_some', hr, Bool.not_true, Bool.false_eq_true, if_false, if_true, t1, t2, e0, he, and_self]
  · have hr' : rvalid r = false := by simpa using hr
    simp only [prule N (show 5 ≤ N by omega), rrule, bind_some', hr', Bool.not_false, Bool.false_eq_true, if_false, if_true, and_self]

/-- What 'Check' answers. -/
def checkF (l : List Wagon) (off : List Int) (pc : Int) : List Rule → Int × Int × Int
  | [] => (0, -1, 0)
  | r :: rs => if 0 ≤ plc r l off pc then (r.number, plc r l off pc, 0) else checkF l off pc rs
def checkR (rs : List Rule) (l : List Wagon) (off : List Int) : Int × Int × Int :=
  if rErr rs = 0 then (if (tot l off).2 = 0 then checkF l off (tot l off).1.percent rs else (0, 0, (tot l off).2)) else (0, 0, rErr rs)
theorem check_res (l : List Wagon) (off : List Int) (pc : Int) : ∀ (rs : List Rule) (i : Nat), (match res (fun _ r => decide (0 ≤ plc r l off pc)) (fun _ r => (r.number, plc r l off pc, (0 : Int))) i rs with | .inl _ => some ((0 : Int), (-1 : Int), (0 : Int)) | .inr y => some y) = some (checkF l off pc rs)
  | [], i => rfl
  | r :: rs, i => by
    rw [res, checkF]
    by_cases h : 0 ≤ plc r l off pc
    · rw [if_pos (lpos h), if_pos h]
    · rw [if_neg (lneg h), if_neg h]; exact check_res l off pc rs (i + 1)
theorem check_ok (N : Nat) (hN : 1001 ≤ N) {rs : List Rule} (hrs : rs.length ≤ 1000) {l : List Wagon} (hF : l.length ≤ 96 → ∀ w ∈ l, Fu N w) {off : List Int} (ho : off.length ≤ 1000) : rulebook_Check N rs l off = some (checkR rs l off) ∧ r36_Check N rs l off = some (checkR rs l off) := by
  obtain ⟨t1, t2⟩ := tot_ok N hN hF ho
  obtain ⟨v1, v2⟩ := rules_ok N hN hrs
  unfold rulebook_Check r36_Check checkR
  by_cases hr : rErr rs = 0
  · by_cases he : (tot l off).2 = 0
    · have hv := Vd.of (tot_bound he).1
      have hz := rErr_zero hr
      have h1 := first_gen (l := rs) (fun _ r => decide (0 ≤ plc r l off (tot l off).1.percent)) (fun _ r => (r.number, plc r l off (tot l off).1.percent, (0 : Int))) (fun n i => rulebook_Check_0 N (Train.mk l off (tot l off).1) rs rs.length n i) (fun n => by
        show rulebook_Check_0 N (Train.mk l off (tot l off).1) rs rs.length (n + 1) _ = _
        rw [rulebook_Check_0, if_neg (dneg (by omega))]) (fun n i x hx => by
        show rulebook_Check_0 N (Train.mk l off (tot l off).1) rs rs.length (n + 1) _ = _
        have hlt := (List.getElem?_eq_some_iff.1 hx).1
        rw [rulebook_Check_0, if_pos (dpos (by omega)), getI_nat hx, bind_some', place_ok' N hN hv ho (hz.2 x (List.mem_of_getElem? hx)), bind_some', w64s (by omega)]) rs.length N 0 (by omega) (by omega)
      have h2 := first_gen (l := rs) (fun _ r => decide (0 ≤ plc r l off (tot l off).1.percent)) (fun _ r => (r.number, plc r l off (tot l off).1.percent, (0 : Int))) (fun n i => r36_Check_0 N rs l off n i) (fun n => by
        show r36_Check_0 N rs l off (n + 1) _ = _
        rw [r36_Check_0, if_neg (dneg (by omega))]) (fun n i x hx => by
        show r36_Check_0 N rs l off (n + 1) _ = _
        have hlt := (List.getElem?_eq_some_iff.1 hx).1
        rw [r36_Check_0, if_pos (dpos (by omega)), getI_nat hx, bind_some', rplace_ok N hN hF hv ho (hz.2 x (List.mem_of_getElem? hx)), bind_some', lt_def, w64s (by omega)]
        rfl) rs.length N 0 (by omega) (by omega)
      simp only [Int.natCast_zero, List.drop_zero] at h1 h2
      have e0 : ((tot l off).2 != 0) = false := by simp [he]
      have hc := check_res l off (tot l off).1.percent rs 0
      simp only [v1, v2, bind_some', hr, bne00, Bool.false_eq_true, if_false, if_true, t1, t2, e0, he]
      rw [show (Train.mk l off (Brakes.mk (tot l off).1.length (tot l off).1.axles (tot l off).1.mass (tot l off).1.braked (tot l off).1.percent (tot l off).1.required (tot l off).1.missing)) = Train.mk l off (tot l off).1 from rfl, h1, h2]
      exact ⟨hc, hc⟩
    · have e0 : ((tot l off).2 != 0) = true := by simpa using he
      simp only [v1, v2, bind_some', hr, bne00, Bool.false_eq_true, if_false, if_true, t1, t2, e0, he, and_self]
  · have e0 : (rErr rs != 0) = true := by simpa using hr
    simp only [v1, v2, bind_some', hr, e0, if_false, if_true, and_self]
end Go.W
