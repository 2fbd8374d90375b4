/- Made rules; facts about the places at which rules are broken. -/
import Derived.Test.YtaoioacomnnhdaaLRul3
import Derived.Test.YtaoioacomnnhdaaLTotG
set_option linter.unusedVariables false
set_option linter.unusedSimpArgs false
set_option maxRecDepth 100000
namespace Go.W
open Go.AM

theorem rule_gen (N : Nat) {c : Int} {s : Maker} (hs : Mk c s) (hc : c ≤ 800000000) {num : Int} (h1 : 1 ≤ num) (h2 : num ≤ 9999) :
    ∃ r s', yardgen_Rule N s num = some (r, s') ∧ Mk (c + 10) s' ∧ r.number = num ∧ rvalid r = true := by
  obtain ⟨k, s1, e1, k0, k1, m1⟩ := next_ok N 9 (by omega) (by omega) hs (by omega)
  unfold yardgen_Rule
  rw [e1, bind_some']
  simp only [w64 (show -9223372036854775808 ≤ 1 + k by omega) (by omega)]
  have fin : ∀ {a b cc : Int} {s' : Maker}, 0 ≤ a → a ≤ 1000000 → 0 ≤ b → b ≤ 1000000 → 0 ≤ cc → cc ≤ 1000000 → rvalid (Rule.mk num (1 + k) a b cc) = true := by
    intro a b cc s' _ _ _ _ _ _
    rw [rvalid_iff]; dsimp only; omega
  have key : ∃ r s', yardgen_Rule_0 N s1 (Rule.mk num (1 + k) 0 0 0) (1 + k) = some (s', r) ∧ Mk (c + 10) s' ∧ r.number = num ∧ rvalid r = true := by
    unfold yardgen_Rule_0
    simp only [lt_def, beq_iff_eq]
    split
    · obtain ⟨a, s2, e2, ha, m2⟩ := pick_ok N [0, 262, 700, 1500, 10000] (by simp) (by simp) m1 (by omega)
      rw [e2, bind_some']
      simp only [List.mem_cons, List.not_mem_nil, or_false] at ha
      exact ⟨_, _, rfl, m2.le (by omega), rfl, fin (s' := s2) (by omega) (by omega) (by omega) (by omega) (by omega) (by omega)⟩
    split
    · obtain ⟨a, s2, e2, ha, m2⟩ := pick_ok N [3, 8, 16, 40] (by simp) (by simp) m1 (by omega)
      rw [e2, bind_some']
      simp only [List.mem_cons, List.not_mem_nil, or_false] at ha
      exact ⟨_, _, rfl, m2.le (by omega), rfl, fin (s' := s2) (by omega) (by omega) (by omega) (by omega) (by omega) (by omega)⟩
    split
    · obtain ⟨a, s2, e2, ha, m2⟩ := pick_ok N [400, 1600, 4000, 20000] (by simp) (by simp) m1 (by omega)
      rw [e2, bind_some']
      simp only [List.mem_cons, List.not_mem_nil, or_false] at ha
      exact ⟨_, _, rfl, m2.le (by omega), rfl, fin (s' := s2) (by omega) (by omega) (by omega) (by omega) (by omega) (by omega)⟩
    split
    · obtain ⟨a, s2, e2, ha, m2⟩ := pick_ok N [0, 30, 50, 80] (by simp) (by simp) m1 (by omega)
      rw [e2, bind_some']
      simp only [List.mem_cons, List.not_mem_nil, or_false] at ha
      exact ⟨_, _, rfl, m2.le (by omega), rfl, fin (s' := s2) (by omega) (by omega) (by omega) (by omega) (by omega) (by omega)⟩
    split
    · obtain ⟨a, s2, e2, ha, m2⟩ := pick_ok N [1, 3, 9] (by simp) (by simp) m1 (by omega)
      obtain ⟨b, s3, e3, hb, m3⟩ := pick_ok N [0, 1, 3] (by simp) (by simp) m2 (by omega)
      obtain ⟨d, s4, e4, d0, d1, m4⟩ := next_ok N 4 (by omega) (by omega) m3 (by omega)
      rw [e2, bind_some', e3, bind_some', e4, bind_some']
      simp only [List.mem_cons, List.not_mem_nil, or_false] at ha hb
      exact ⟨_, _, rfl, m4.le (by omega), rfl, fin (s' := s2) (by omega) (by omega) (by omega) (by omega) (by omega) (by omega)⟩
    split
    · obtain ⟨a, s2, e2, ha, m2⟩ := pick_ok N [0, 1, 3] (by simp) (by simp) m1 (by omega)
      obtain ⟨d, s4, e4, d0, d1, m4⟩ := next_ok N 4 (by omega) (by omega) m2 (by omega)
      rw [e2, bind_some', e4, bind_some']
      simp only [List.mem_cons, List.not_mem_nil, or_false] at ha
      exact ⟨_, _, rfl, m4.le (by omega), rfl, fin (s' := s2) (by omega) (by omega) (by omega) (by omega) (by omega) (by omega)⟩
    split
    · obtain ⟨a, s2, e2, a0, a1, m2⟩ := next_ok N 5 (by omega) (by omega) m1 (by omega)
      obtain ⟨d, s4, e4, d0, d1, m4⟩ := next_ok N 4 (by omega) (by omega) m2 (by omega)
      rw [e2, bind_some', e4, bind_some']
      exact ⟨_, _, rfl, m4.le (by omega), rfl, fin (s' := s2) (by omega) (by omega) (by omega) (by omega) (by omega) (by omega)⟩
    split
    · obtain ⟨a, s2, e2, ha, m2⟩ := pick_ok N [50, 200, 500] (by simp) (by simp) m1 (by omega)
      rw [e2, bind_some']
      simp only [List.mem_cons, List.not_mem_nil, or_false] at ha
      exact ⟨_, _, rfl, m2.le (by omega), rfl, fin (s' := s2) (by omega) (by omega) (by omega) (by omega) (by omega) (by omega)⟩
    · obtain ⟨a, s2, e2, ha, m2⟩ := pick_ok N [100, 400] (by simp) (by simp) m1 (by omega)
      obtain ⟨b, s3, e3, hb, m3⟩ := pick_ok N [0, 800, 3000] (by simp) (by simp) m2 (by omega)
      rw [e2, bind_some', e3, bind_some']
      simp only [List.mem_cons, List.not_mem_nil, or_false] at ha hb
      exact ⟨_, _, rfl, m3.le (by omega), rfl, fin (s' := s2) (by omega) (by omega) (by omega) (by omega) (by omega) (by omega)⟩
  obtain ⟨r, s', g1, g2, g3, g4⟩ := key
  rw [g1, bind_some']
  exact ⟨r, s', rfl, g2, g3, g4⟩

/-- Made rules: valid, with ascending numbers. -/
def MadeR (l : List Rule) : Prop := ∀ (i : Nat) (r : Rule), l[i]? = some r → rvalid r = true ∧ 10 * (i : Int) + 1 ≤ r.number ∧ r.number ≤ 10 * (i : Int) + 9
theorem MadeR.nil : MadeR [] := fun i r h => by simp at h
theorem MadeR.snoc {l : List Rule} (h : MadeR l) {r : Rule} (hr : rvalid r = true) (h1 : 10 * (l.length : Int) + 1 ≤ r.number) (h2 : r.number ≤ 10 * (l.length : Int) + 9) : MadeR (l ++ [r]) := by
  intro i x hx
  by_cases hi : i < l.length
  · rw [List.getElem?_append_left hi] at hx; exact h i x hx
  · rw [List.getElem?_append_right (by omega)] at hx
    have hlt := (List.getElem?_eq_some_iff.1 hx).1
    simp at hlt
    have : i = l.length := by omega
    subst this
    simp at hx; subst hx; exact ⟨hr, h1, h2⟩
theorem res_none {α β : Type} {p : Nat → α → Bool} {out : Nat → α → β} : ∀ {l : List α} {i : Nat}, (∀ (j : Nat) (x : α), l[j]? = some x → p (i + j) x = false) → res p out i l = .inl ()
  | [], i, _ => rfl
  | x :: xs, i, h => by
    have h0 := h 0 x (by simp)
    rw [Nat.add_zero] at h0
    rw [res, if_neg (by rw [h0]; simp)]
    refine res_none fun j y hj => ?_
    have := h (j + 1) y (by simpa using hj)
    rwa [show i + 1 + j = i + (j + 1) by omega]
theorem MadeR.err {l : List Rule} (h : MadeR l) (hl : l.length ≤ 32) : rErr l = 0 := by
  unfold rErr
  rw [if_neg (by omega), res_none]
  intro j x hx
  obtain ⟨h1, h2, h3⟩ := h j x hx
  rw [Nat.zero_add, rp, h1]
  simp only [Bool.not_true, Bool.false_or, decide_eq_false_iff_not]
  intro hm
  obtain ⟨y, hy, he⟩ := List.mem_map.1 hm
  obtain ⟨k, hk⟩ := List.getElem?_of_mem hy
  have hk' : l[k]? = some y ∧ k < j := by
    rw [List.getElem?_take] at hk
    split at hk
    · exact ⟨hk, by assumption⟩
    · cases hk
  obtain ⟨g1, g2, g3⟩ := h k y hk'.1
  omega

theorem rules_loop (N : Nat) : ∀ (k n : Nat) (s : Maker) (out : List Rule) (c : Int), k < n → Mk c s → c + 11 * k ≤ 700000000 → out.length + k ≤ 32 → MadeR out →
    ∃ s' out', yardgen_Rules_0 N n s out k = some (s', out') ∧ Mk (c + 11 * k) s' ∧ out'.length = out.length + k ∧ MadeR out'
  | k, 0, s, out, c, hn, _, _, _, _ => by omega
  | 0, n + 1, s, out, c, hn, hs, _, hl, ho => by
    rw [yardgen_Rules_0, if_neg (dneg (by omega))]
    exact ⟨s, out, rfl, by simpa using hs, rfl, ho⟩
  | k + 1, n + 1, s, out, c, hn, hs, hc, hl, ho => by
    obtain ⟨a, s1, e1, a0, a1, m1⟩ := next_ok N 9 (by omega) (by omega) hs (by omega)
    obtain ⟨r, s2, e2, m2, n2, v2⟩ := rule_gen N m1 (by omega) (num := 10 * (out.length : Int) + 1 + a) (by omega) (by omega)
    rw [yardgen_Rules_0, if_pos (dpos (by omega)), e1, bind_some']
    simp only [w64 (n := 10 * (out.length : Int)) (by omega) (by omega), w64 (n := 10 * (out.length : Int) + 1) (by omega) (by omega), w64 (n := 10 * (out.length : Int) + 1 + a) (by omega) (by omega), e2, bind_some']
    rw [appI_ok (by simp; omega), bind_some', lt_def, w64p (by omega)]
    obtain ⟨s', out', g1, g2, g3, g4⟩ := rules_loop N k n s2 (out ++ [r]) (c + 1 + 10) (by omega) m2 (by omega) (by simp; omega) (ho.snoc v2 (by omega) (by omega))
    exact ⟨s', out', g1, g2.le (by omega), by simp at g3; omega, g4⟩
theorem rules_gen (N : Nat) (hN : 1001 ≤ N) {c : Int} {s : Maker} (hs : Mk c s) (hc : c ≤ 600000000) (m : Nat) (hm : m ≤ 20) :
    ∃ l s', yardgen_Rules N s m = some (l, s') ∧ Mk (c + 1000) s' ∧ l.length ≤ m ∧ MadeR l := by
  unfold yardgen_Rules
  rw [w64s (by omega)]
  obtain ⟨k, s1, e1, k0, k1, m1⟩ := next_ok N ((m + 1 : Nat) : Int) (by omega) (by omega) hs (by omega)
  obtain ⟨k, rfl⟩ := Int.eq_ofNat_of_zero_le k0
  obtain ⟨s2, l, e2, m2, hl, ho⟩ := rules_loop N k N s1 [] (c + 1) (by omega) m1 (by omega) (by simp; omega) MadeR.nil
  rw [e1, bind_some']
  simp only []
  rw [e2, bind_some']
  exact ⟨l, s2, rfl, m2.le (by omega), by simp at hl; omega, ho⟩

/-! ### Places -/
theorem firstI_rg {α : Type} (p : Nat → α → Bool) (l : List α) : firstI p 0 l = -1 ∨ (0 ≤ firstI p 0 l ∧ firstI p 0 l < l.length) := by
  rcases firstI_spec p l 0 with ⟨h, _⟩ | ⟨j, x, h, hj, _⟩
  · exact .inl h
  · have := (List.getElem?_eq_some_iff.1 hj).1
    right; omega
theorem plc_rg (r : Rule) (l : List Wagon) (off : List Int) (pc : Int) : plc r l off pc = -1 ∨ (0 ≤ plc r l off pc ∧ plc r l off pc ≤ l.length) := by
  unfold plc
  split
  · split
    · right; omega
    · exact .inl rfl
  · split
    · split
      · right; omega
      · exact .inl rfl
    · rcases firstI_rg (pOf r l) l with h | h
      · exact .inl h
      · right; omega

theorem sane36 (M : Nat) : l36_sane (M + 60) = some true := by rfl
theorem sane36' {N : Nat} (h : 60 ≤ N) : l36_sane N = some true := by
  obtain ⟨M, rfl⟩ : ∃ M, N = M + 60 := ⟨N - 60, by omega⟩
  exact sane36 M

/-- The error of a part of a made list. -/
theorem sub_err {l l' : List Wagon} (h : listErr l = 0) (hs : List.Sublist l' l) : listErr l' = 0 := by
  obtain ⟨h1, h2, h3⟩ := listErr_zero.1 h
  refine listErr_zero.2 ⟨Nat.le_trans hs.length_le h1, fun w hw => h2 w (hs.subset hw), ?_⟩
  exact List.Nodup.sublist (hs.map _) h3
theorem err_fu {N : Nat} (hN : 20 ≤ N) {l : List Wagon} (h : listErr l = 0) : l.length ≤ 96 → ∀ w ∈ l, Fu N w := fun _ w hw => wagErr_fu ((listErr_zero.1 h).2.1 w hw) hN
theorem off_nil (n : Nat) : offErr n [] = 0 := rfl
theorem placeR_nil {r : Rule} (hr : rvalid r = true) {l : List Wagon} (h : listErr l = 0) : placeR r l [] = (plc r l [] (total1 l []).percent, 0) := by
  unfold placeR
  rw [if_pos hr, tot_eq h (off_nil _), if_pos rfl]
theorem placeR_eq {r : Rule} (hr : rvalid r = true) {l : List Wagon} {off : List Int} (h : listErr l = 0) (ho : offErr l.length off = 0) : placeR r l off = (plc r l off (total1 l off).percent, 0) := by
  unfold placeR
  rw [if_pos hr, tot_eq h ho, if_pos rfl]
end Go.W
