/- Lists of wagons: what the program's checks and the reference's say. -/
import Derived.Test.YtaoioacomnnhdaaLWag
set_option linter.unusedVariables false
set_option linter.unusedSimpArgs false
namespace Go.W
open Go.AM

/-! ### Lists of wagons -/
/-- The first error, 'seen' having come ahead. -/
def chkL : List (List UInt8) → List Wagon → Int
  | _, [] => 0
  | seen, w :: l => if wagErr w ≠ 0 then wagErr w else if w.number ∈ seen then 8 else chkL (seen ++ [w.number]) l
def listErr (l : List Wagon) : Int := if 96 < l.length then 3 else chkL [] l

/-- A map that has just these keys, all true. -/
def SeenM (m : List (List UInt8 × Bool)) (seen : List (List UInt8)) : Prop := ∀ k, (mpGet m k).getD false = decide (k ∈ seen)

theorem mpGet_set {α β : Type} [DecidableEq α] (m : List (α × β)) (a k : α) (b : β) : mpGet (mpSet m a b) k = if a = k then some b else mpGet m k := by
  induction m with
  | nil => simp [mpSet, mpGet]
  | cons p m ih =>
    simp only [mpSet]
    by_cases h : p.1 = a
    · rw [if_pos h]
      simp only [mpGet]
      by_cases h2 : a = k
      · simp [h, h2]
      · simp [h, h2]
    · rw [if_neg h]
      simp only [mpGet, ih]
      by_cases h2 : p.1 = k
      · have : ¬ a = k := fun h3 => h (h2.trans h3.symm)
        simp [h2, this]
      · simp [h2]
theorem seen_nil : SeenM [] [] := fun k => by simp [mpGet]
theorem seen_set {m : List (List UInt8 × Bool)} {seen : List (List UInt8)} (h : SeenM m seen) (a : List UInt8) : SeenM (mpSet m a true) (seen ++ [a]) := by
  intro k
  rw [mpGet_set]
  by_cases hk : a = k
  · simp [hk]
  · rw [if_neg hk, h k, decide_eq_decide]
    simp
    intro e; exact absurd e.symm hk

theorem pchk_loop (N : Nat) (h20 : 20 ≤ N) {l : List Wagon} (hl : l.length ≤ 100) (hF : ∀ w ∈ l, Fu N w) : ∀ (k n i : Nat) (m : List (List UInt8 × Bool)) (seen : List (List UInt8)), k < n → i + k = l.length → SeenM m seen →
    consist_check_0 N l l.length n m i = some (if chkL seen (l.drop i) = 0 then .inl () else .inr (chkL seen (l.drop i)))
  | k, 0, i, m, seen, hn, _, _ => by omega
  | 0, n + 1, i, m, seen, hn, hi, _ => by rw [consist_check_0, if_neg (dneg (by omega)), List.drop_eq_nil_of_le (by omega)]; rfl
  | k + 1, n + 1, i, m, seen, hn, hi, hs => by
    have hlt : i < l.length := by omega
    have hw := (wag_ok N h20 (hF _ (List.getElem_mem hlt))).1
    rw [consist_check_0, if_pos (dpos (by omega)), getI_nat (at_lt hlt), bind_some', hw, bind_some', drop_at (at_lt hlt)]
    simp only [chkL, lt_def]
    by_cases he : wagErr l[i] = 0
    · have e0 : (wagErr l[i] != 0) = false := by simpa using he
      simp only [e0, bne00, Bool.false_eq_true, if_false, he, ne_eq, not_true_eq_false]
      rw [hs l[i].number]
      by_cases hm : l[i].number ∈ seen
      · simp [hm]
      · simp only [hm, decide_false, Bool.false_eq_true, if_false]
        rw [w64s (by omega)]
        exact pchk_loop N h20 hl hF k n (i + 1) _ _ (by omega) (by omega) (seen_set hs _)
    · have e0 : (wagErr l[i] != 0) = true := by simpa using he
      simp only [e0, if_true, he, ne_eq, not_false_eq_true, if_false]

theorem rdup_loop (N : Nat) {l : List Wagon} (hl : l.length ≤ 100) {j : Nat} (hj : j < l.length) : ∀ (k n i : Nat), k < n → i + k = j →
    r06_ValidList_1 N l j n i = some (if l[j].number ∈ ((l.take j).drop i).map (·.number) then .inr 8 else .inl ())
  | k, 0, i, hn, _ => by omega
  | 0, n + 1, i, hn, hi => by rw [r06_ValidList_1, if_neg (dneg (by omega)), List.drop_eq_nil_of_le (by rw [List.length_take]; omega)]; rfl
  | k + 1, n + 1, i, hn, hi => by
    have hlt : i < l.length := by omega
    have hg : (l.take j)[i]? = some l[i] := by rw [List.getElem?_take, if_pos (by omega)]; exact at_lt hlt
    rw [r06_ValidList_1, if_pos (dpos (by omega)), getI_nat (at_lt hlt), bind_some', getI_nat (at_lt hj), bind_some', drop_at hg]
    by_cases he : l[i].number = l[j].number
    · rw [if_pos (by simpa using he), if_pos (by simp [he])]
    · rw [if_neg (by simpa using he), lt_def, w64s (by omega), rdup_loop N hl hj k n (i + 1) (by omega) (by omega)]
      have : ¬ l[j].number = l[i].number := fun h => he h.symm
      simp only [List.map_cons, List.mem_cons, this, false_or]

theorem rchk_loop (N : Nat) (h20 : 200 ≤ N) {l : List Wagon} (hl : l.length ≤ 100) (hF : ∀ w ∈ l, Fu N w) : ∀ (k n i : Nat), k < n → i + k = l.length →
    r06_ValidList_0 N l n i = some (if chkL ((l.take i).map (·.number)) (l.drop i) = 0 then .inl () else .inr (chkL ((l.take i).map (·.number)) (l.drop i)))
  | k, 0, i, hn, _ => by omega
  | 0, n + 1, i, hn, hi => by rw [r06_ValidList_0, if_neg (dneg (by omega)), List.drop_eq_nil_of_le (by omega)]; rfl
  | k + 1, n + 1, i, hn, hi => by
    have hlt : i < l.length := by omega
    have hw := (wag_ok N (by omega) (hF _ (List.getElem_mem hlt))).2
    have hd := rdup_loop N hl hlt i N 0 (by omega) (by omega)
    simp only [Int.natCast_zero, List.drop_zero] at hd
    rw [r06_ValidList_0, if_pos (dpos (by omega)), getI_nat (at_lt hlt), bind_some', hw, bind_some', drop_at (at_lt hlt)]
    simp only [chkL]
    by_cases he : wagErr l[i] = 0
    · have e0 : (wagErr l[i] != 0) = false := by simpa using he
      simp only [e0, bne00, Bool.false_eq_true, if_false, he, ne_eq, not_true_eq_false, hd, bind_some']
      by_cases hm : l[i].number ∈ (l.take i).map (·.number)
      · simp only [hm, if_true]; rfl
      · simp only [hm, if_false, lt_def]
        rw [w64s (by omega), rchk_loop N h20 hl hF k n (i + 1) (by omega) (by omega)]
        have : (l.take (i + 1)).map (·.number) = (l.take i).map (·.number) ++ [l[i].number] := by
          rw [List.take_succ_eq_append_getElem hlt, List.map_append]; rfl
        rw [this]
    · have e0 : (wagErr l[i] != 0) = true := by simpa using he
      simp only [e0, if_true, he, ne_eq, not_false_eq_true, if_false]

theorem list_ok (N : Nat) (h20 : 200 ≤ N) {l : List Wagon} (hF : l.length ≤ 96 → ∀ w ∈ l, Fu N w) : consist_check N l = some (listErr l) ∧ r06_ValidList N l = some (listErr l) := by
  unfold consist_check r06_ValidList listErr
  by_cases h : 96 < l.length
  · rw [if_pos (dpos (by omega)), if_pos (dpos (by omega)), if_pos h]; exact ⟨rfl, rfl⟩
  · have h1 := pchk_loop N (by omega) (l := l) (by omega) (hF (by omega)) l.length N 0 [] [] (by omega) (by omega) seen_nil
    have h2 := rchk_loop N (by omega) (l := l) (by omega) (hF (by omega)) l.length N 0 (by omega) (by omega)
    simp only [Int.natCast_zero, List.drop_zero, List.take_zero, List.map_nil] at h1 h2
    rw [if_neg (dneg (by omega)), if_neg (dneg (by omega)), if_neg h, h1, h2]
    simp only [bind_some']
    by_cases he : chkL [] l = 0
    · rw [he]; exact ⟨rfl, rfl⟩
    · rw [if_neg he]; exact ⟨rfl, rfl⟩

theorem chkL_valid : ∀ {l : List Wagon} {seen : List (List UInt8)}, chkL seen l = 0 → (∀ w ∈ l, wagErr w = 0) ∧ (l.map (·.number)).Nodup ∧ ∀ w ∈ l, w.number ∉ seen
  | [], seen, _ => by simp
  | w :: l, seen, h => by
    simp only [chkL] at h
    split at h
    · rename_i h1; exact absurd h h1
    · rename_i h1
      split at h
      · cases h
      · rename_i h2
        obtain ⟨g1, g2, g3⟩ := chkL_valid h
        refine ⟨fun x hx => ?_, ?_, fun x hx => ?_⟩
        · rcases List.mem_cons.1 hx with rfl | hx
          · simpa using h1
          · exact g1 x hx
        · rw [List.map_cons, List.nodup_cons]
          refine ⟨fun hm => ?_, g2⟩
          obtain ⟨y, hy, he⟩ := List.mem_map.1 hm
          have := g3 y hy
          simp [he] at this
        · rcases List.mem_cons.1 hx with rfl | hx
          · exact h2
          · have := g3 x hx
            simp at this
            exact this.1
theorem chkL_zero : ∀ {l : List Wagon} {seen : List (List UInt8)}, (∀ w ∈ l, wagErr w = 0) → (l.map (·.number)).Nodup → (∀ w ∈ l, w.number ∉ seen) → chkL seen l = 0
  | [], seen, _, _, _ => rfl
  | w :: l, seen, h1, h2, h3 => by
    simp only [chkL]
    rw [if_neg (by simp [h1 w (by simp)]), if_neg (h3 w (by simp))]
    rw [List.map_cons, List.nodup_cons] at h2
    refine chkL_zero (fun x hx => h1 x (by simp [hx])) h2.2 fun x hx => ?_
    simp only [List.mem_append, List.mem_singleton, not_or]
    refine ⟨h3 x (by simp [hx]), fun he => h2.1 ?_⟩
    rw [← he]
    exact List.mem_map.2 ⟨x, hx, rfl⟩
theorem listErr_zero {l : List Wagon} : listErr l = 0 ↔ l.length ≤ 96 ∧ (∀ w ∈ l, wagErr w = 0) ∧ (l.map (·.number)).Nodup := by
  unfold listErr
  by_cases h : 96 < l.length
  · rw [if_pos h]; simp; omega
  · rw [if_neg h]
    constructor
    · intro h1
      obtain ⟨g1, g2, _⟩ := chkL_valid h1
      exact ⟨by omega, g1, g2⟩
    · rintro ⟨_, g1, g2⟩
      exact chkL_zero g1 g2 fun w _ => by simp

/-! ### Sums -/
def sumL (f : Wagon → Int) (l : List Wagon) : Int := l.foldr (fun w s => f w + s) 0
theorem sumL_nil (f : Wagon → Int) : sumL f [] = 0 := rfl
theorem sumL_cons (f : Wagon → Int) (w : Wagon) (l : List Wagon) : sumL f (w :: l) = f w + sumL f l := rfl
theorem sumL_append (f : Wagon → Int) : ∀ (a b : List Wagon), sumL f (a ++ b) = sumL f a + sumL f b
  | [], b => by simp [sumL]
  | w :: a, b => by simp [sumL_cons, sumL_append f a b]; omega
theorem sumL_bound {f : Wagon → Int} {lo hi : Int} : ∀ {l : List Wagon}, (∀ w ∈ l, lo ≤ f w ∧ f w ≤ hi) → lo * l.length ≤ sumL f l ∧ sumL f l ≤ hi * l.length
  | [], _ => by simp [sumL]
  | w :: l, h => by
    have h1 := h w (by simp)
    have h2 := sumL_bound (l := l) fun x hx => h x (by simp [hx])
    rw [sumL_cons]
    simp only [List.length_cons, Int.natCast_add, Int.natCast_one, Int.mul_add, Int.mul_one]
    omega

theorem total_loop (N : Nat) {l : List Wagon} (hl : l.length ≤ 100) (hv : ∀ w ∈ l, wagErr w = 0) : ∀ (k n i : Nat) (a b c : Int), k < n → i + k = l.length → 0 ≤ a → a ≤ 2000 * i → 0 ≤ b → b ≤ 2000 * i → 0 ≤ c → c ≤ 2000 * i →
    consist_Total_0 N l l.length n a b c i = some (a + sumL (·.length) (l.drop i), b + sumL (·.mass) (l.drop i), c + sumL (·.axles) (l.drop i)) ∧
    r06_Total_0 N l n a b c i = some (a + sumL (·.length) (l.drop i), b + sumL (·.mass) (l.drop i), c + sumL (·.axles) (l.drop i))
  | k, 0, i, a, b, c, hn, _, _, _, _, _, _, _ => by omega
  | 0, n + 1, i, a, b, c, hn, hi, _, _, _, _, _, _ => by
    rw [consist_Total_0, r06_Total_0, if_neg (dneg (by omega)), if_neg (dneg (by omega)), List.drop_eq_nil_of_le (by omega)]
    simp [sumL]
  | k + 1, n + 1, i, a, b, c, hn, hi, _, _, _, _, _, _ => by
    have hlt : i < l.length := by omega
    have hr := wag_ranges (hv _ (List.getElem_mem hlt))
    obtain ⟨h1, h2⟩ := total_loop N hl hv k n (i + 1) (a + l[i].length) (b + l[i].mass) (c + l[i].axles) (by omega) (by omega) (by omega) (by omega) (by omega) (by omega) (by omega) (by omega)
    rw [consist_Total_0, r06_Total_0, if_pos (dpos (by omega)), if_pos (dpos (by omega)), getI_nat (at_lt hlt)]
    simp only [bind_some', lt_def]
    rw [w64 (n := a + l[i].length) (by omega) (by omega), w64 (n := b + l[i].mass) (by omega) (by omega), w64 (n := c + l[i].axles) (by omega) (by omega), w64s (by omega), h1, h2, drop_at (at_lt hlt)]
    simp only [sumL_cons, Int.add_assoc, and_self]

/-- The sums of a list, or its error. -/
def totals (l : List Wagon) : Int × Int × Int × Int := if listErr l = 0 then (sumL (·.length) l, sumL (·.mass) l, sumL (·.axles) l, 0) else (0, 0, 0, listErr l)

theorem total_ok (N : Nat) (h20 : 200 ≤ N) {l : List Wagon} (hF : l.length ≤ 96 → ∀ w ∈ l, Fu N w) : consist_Total N l = some (totals l) ∧ r06_Total N l = some (totals l) := by
  obtain ⟨h1, h2⟩ := list_ok N h20 hF
  unfold consist_Total r06_Total totals
  rw [h1, h2, bind_some', bind_some']
  by_cases he : listErr l = 0
  · have hz := listErr_zero.1 he
    have e0 : (listErr l != 0) = false := by simpa using he
    obtain ⟨t1, t2⟩ := total_loop N (l := l) (by omega) hz.2.1 l.length N 0 0 0 0 (by omega) (by omega) (by omega) (by omega) (by omega) (by omega) (by omega) (by omega)
    simp only [Int.natCast_zero, List.drop_zero, Int.zero_add] at t1 t2
    simp only [e0, bne00, Bool.false_eq_true, if_false, he, if_true, t1, t2, bind_some', and_self]
  · have e0 : (listErr l != 0) = true := by simpa using he
    simp only [e0, if_true, he, if_false, and_self]
end Go.W
