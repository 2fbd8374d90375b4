/- Plain facts for the laws: ints in range, the maker of random data. -/
import Derived.Test.YtaoioacomnnhdaaWM
import Derived.IntWalk
set_option linter.unusedVariables false
set_option linter.unusedSimpArgs false
namespace Go.W
open Go.AM

theorem w64 {n : Int} (h : -9223372036854775808 ≤ n) (h' : n ≤ 9223372036854775807) : IntKind.wrap .i64 n = n := by rw [IntKind.wrap_i64]; omega
theorem w8 {n : Int} (h : 0 ≤ n) (h' : n ≤ 255) : IntKind.wrap .u8 n = n := by rw [IntKind.wrap_u8]; omega
theorem wrap64_lo (n : Int) : -9223372036854775808 ≤ IntKind.wrap .i64 n ∧ IntKind.wrap .i64 n ≤ 9223372036854775807 := by rw [IntKind.wrap_i64]; omega
theorem lt_def {α β : Type} (x : α) (f : α → Option β) : AM.lt x f = f x := rfl
theorem bind_some' {α β : Type} (x : α) (f : α → Option β) : Option.bind (some x) f = f x := rfl

theorem getI_ok {α : Type} {xs : List α} {i : Int} (h0 : 0 ≤ i) (h1 : i < xs.length) : ∃ x, getI xs i = some x ∧ x ∈ xs ∧ xs[i.toNat]? = some x := by
  have hlt : i.toNat < xs.length := by omega
  exact ⟨xs[i.toNat], by simp [getI, h0, hlt], by simp, by simp [hlt]⟩

/-- The maker's counter is in range. -/
def Mk (c : Int) (s : Maker) : Prop := 0 ≤ s.n ∧ s.n ≤ c

theorem next_ok (N : Nat) {c : Int} {s : Maker} (k : Int) (hk : 1 ≤ k) (hk2 : k ≤ 1000000) (hs : Mk c s) (hc : c ≤ 1000000000000) : ∃ r s', Maker_Next N s k = some (r, s') ∧ 0 ≤ r ∧ r < k ∧ Mk (c + 1) s' := by
  obtain ⟨h0, h1⟩ := hs
  have h15 : ∃ y, Maker_Next_0 N s 0 (decide (0 < (s.l.length : Int))) = some y := by
    unfold Maker_Next_0
    by_cases hl : 0 < (s.l.length : Int)
    · rw [if_pos (by simpa using hl)]
      have hne : (s.l.length : Int) ≠ 0 := by omega
      have hm : modI s.n s.l.length = some (s.n.tmod s.l.length) := by unfold modI; rw [if_neg hne]
      have hd : divI s.n s.l.length = some (s.n.tdiv s.l.length) := by unfold divI; rw [if_neg hne]
      have hr0 : 0 ≤ s.n.tmod s.l.length := Int.tmod_nonneg _ h0
      have hr1 : s.n.tmod s.l.length < s.l.length := Int.tmod_lt_of_pos _ hl
      obtain ⟨x, hx, _, _⟩ := getI_ok hr0 hr1
      rw [hm, bind_some', hx, bind_some', hd, bind_some', lt_def]
      exact ⟨_, rfl⟩
    · rw [if_neg (by simpa using hl)]
      exact ⟨_, rfl⟩
  obtain ⟨y, hy⟩ := h15
  unfold Maker_Next
  rw [hy, bind_some']
  have hm : modI y k = some (y.tmod k) := by simp [modI]; omega
  have hlt : y.tmod k < k := Int.tmod_lt_of_pos _ (by omega)
  have hgt : -k < y.tmod k := by
    have := Int.lt_tmod_of_pos y (by omega : 0 < k)
    omega
  have hn : IntKind.wrap .i64 (s.n + 1) = s.n + 1 := w64 (by omega) (by omega)
  simp only [hm, bind_some', hn]
  unfold Maker_Next_1
  by_cases hneg : y.tmod k < 0
  · rw [if_pos (by simpa using hneg), lt_def, bind_some', w64 (by omega) (by omega)]
    exact ⟨_, _, rfl, by omega, by omega, by constructor <;> simp <;> omega⟩
  · rw [if_neg (by simpa using hneg), bind_some']
    exact ⟨_, _, rfl, by omega, by omega, by constructor <;> simp <;> omega⟩

theorem pick_ok (N : Nat) {c : Int} {s : Maker} (l : List Int) (hl : 1 ≤ l.length) (hl2 : l.length ≤ 1000) (hs : Mk c s) (hc : c ≤ 1000000000000) : ∃ x s', Maker_Pick N s l = some (x, s') ∧ x ∈ l ∧ Mk (c + 1) s' := by
  obtain ⟨r, s', h1, h2, h3, h4⟩ := next_ok N (s := s) (c := c) (l.length : Int) (by omega) (by omega) hs hc
  obtain ⟨x, hx, hm, _⟩ := getI_ok h2 h3
  unfold Maker_Pick
  rw [h1, bind_some']
  simp only [hx, bind_some']
  exact ⟨x, s', rfl, hm, h4⟩
end Go.W
