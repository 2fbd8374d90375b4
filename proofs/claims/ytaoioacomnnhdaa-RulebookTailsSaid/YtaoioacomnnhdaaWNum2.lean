/- Wagon numbers that the maker makes are valid. -/
import Derived.Test.YtaoioacomnnhdaaWNum
set_option linter.unusedVariables false
set_option linter.unusedSimpArgs false
namespace Go.W
open Go.AM

theorem m49_loop (N : Nat) {l : List UInt8} (hl : l.length = 11) (hd : ∀ u ∈ l, Dig u) : ∀ (d n : Nat) (i : Int), d + 1 ≤ n → i = 11 - (d : Int) → 0 ≤ i → r02_digits_0 N l 11 n i = some (.inl ())
  | d, 0, i, hn, _, _ => by omega
  | 0, n + 1, i, hn, hi, hi0 => by rw [r02_digits_0, if_neg (by simp; omega)]
  | d + 1, n + 1, i, hn, hi, hi0 => by
    rw [r02_digits_0, if_pos (by simp; omega)]
    obtain ⟨x, hx, hm, _⟩ := getI_ok (xs := l) (i := i) hi0 (by omega)
    have hdx := hd x hm
    unfold Dig at hdx
    have h1 : r02_digits_1 N l i = some false := by
      unfold r02_digits_1
      rw [hx, bind_some', if_neg (by simp; omega), bind_some']
      congr 1; simp; omega
    rw [h1, bind_some', if_neg (by simp), lt_def, w64 (by omega) (by omega)]
    exact m49_loop N hl hd d n (i + 1) (by omega) (by omega) (by omega)

theorem m52_loop (N : Nat) {l : List UInt8} (hl : l.length ≤ 1000) (hd : ∀ u ∈ l, Dig u) : ∀ (d n : Nat) (i : Int), d + 1 ≤ n → i = l.length - (d : Int) → 0 ≤ i → wagonnumber_digits_0 N l n i = some (.inl ())
  | d, 0, i, hn, _, _ => by omega
  | 0, n + 1, i, hn, hi, hi0 => by rw [wagonnumber_digits_0, if_neg (by simp; omega)]
  | d + 1, n + 1, i, hn, hi, hi0 => by
    rw [wagonnumber_digits_0, if_pos (by simp; omega)]
    obtain ⟨x, hx, hm, _⟩ := getI_ok (xs := l) (i := i) hi0 (by omega)
    have hdx := hd x hm
    unfold Dig at hdx
    have h1 : wagonnumber_digits_1 N l i = some false := by
      unfold wagonnumber_digits_1
      rw [hx, bind_some', if_neg (by simp; omega), bind_some']
      congr 1; simp; omega
    rw [h1, bind_some', if_neg (by simp), lt_def, w64 (by omega) (by omega)]
    exact m52_loop N hl hd d n (i + 1) (by omega) (by omega) (by omega)

theorem sum_loop (N : Nat) {l : List UInt8} (hl : l.length = 11) : ∀ (d n : Nat) (s i : Int), d + 1 ≤ n → i = 11 - (d : Int) → 0 ≤ i → ∃ S, r02_sum_0 N l 11 n s i = some S ∧ wagonnumber_sum_0 N l n s i = some S
  | d, 0, s, i, hn, _, _ => by omega
  | 0, n + 1, s, i, hn, hi, hi0 => by
    rw [r02_sum_0, wagonnumber_sum_0, if_neg (by simp; omega), if_neg (by simp; omega)]
    exact ⟨s, rfl, rfl⟩
  | d + 1, n + 1, s, i, hn, hi, hi0 => by
    rw [r02_sum_0, wagonnumber_sum_0, if_pos (by simp; omega), if_pos (by simp; omega)]
    obtain ⟨x, hx, hm, _⟩ := getI_ok (xs := l) (i := i) hi0 (by omega)
    rw [hx, bind_some', bind_some', lt_def, lt_def]
    have hq : ∀ a b, ∃ q, r02_sum_1 N a b = some q ∧ wagonnumber_sum_1 N a b = some q := by
      intro a b
      unfold r02_sum_1 wagonnumber_sum_1
      cases b with
      | false => exact ⟨a, rfl, rfl⟩
      | true =>
        simp only [if_true, lt_def]
        by_cases h9 : decide (9 < IntKind.wrap .i64 (a * 2)) = true
        · rw [if_pos h9]; exact ⟨_, rfl, rfl⟩
        · rw [if_neg h9]; exact ⟨_, rfl, rfl⟩
    obtain ⟨q, hq1, hq2⟩ := hq (IntKind.wrap .i64 (IntKind.wrap .u8 ((UInt8.toNat x : Int) - 48))) ((Int.tmod i 2) == 0)
    rw [hq1, hq2, bind_some', bind_some', lt_def, lt_def, lt_def, lt_def, w64 (n := i + 1) (by omega) (by omega)]
    exact sum_loop N hl d n _ (i + 1) (by omega) (by omega) (by omega)

theorem chkD {S : Int} : 0 ≤ Int.tmod (IntKind.wrap .i64 (10 - (Int.tmod S 10))) 10 ∧ Int.tmod (IntKind.wrap .i64 (10 - (Int.tmod S 10))) 10 < 10 := by
  have h1 : Int.tmod S 10 < 10 := Int.tmod_lt_of_pos _ (by omega)
  have h2 := Int.lt_tmod_of_pos S (by omega : (0 : Int) < 10)
  rw [w64 (by omega) (by omega)]
  exact ⟨Int.tmod_nonneg _ (by omega), Int.tmod_lt_of_pos _ (by omega)⟩

/-- Eleven digits and their check digit. -/
theorem valid_ok (M : Nat) {l : List UInt8} (hl : l.length = 11) (hd : ∀ u ∈ l, Dig u) : ∃ y u, r02_Digit (M + 60) l = some (y, 0) ∧ toU8 (IntKind.wrap .u8 (IntKind.wrap .i64 (48 + y))) = some u ∧ Dig u ∧ appI l [u] = some (l ++ [u]) ∧ wagonnumber_Valid (M + 60) (l ++ [u]) = some 0 := by
  obtain ⟨S, h1, h2⟩ := sum_loop (M + 60) hl 11 (M + 60) 0 0 (by omega) (by omega) (by omega)
  obtain ⟨c0, c1⟩ := chkD (S := S)
  obtain ⟨u, hu, hdu, hval⟩ := dig_u8 c0 c1
  refine ⟨_, u, ?_, hu, hdu, by simp [appI, LIM, hl], ?_⟩
  · unfold r02_Digit r02_digits
    rw [if_neg (by simp [hl]), m49_loop (M + 60) hl hd 11 (M + 60) 0 (by omega) (by omega) (by omega), bind_some']
    simp only [bind_some']
    rw [if_neg (by simp)]
    unfold r02_sum
    rw [h1, bind_some', bind_some', lt_def]
  · have hd12 : ∀ w ∈ l ++ [u], Dig w := by
      intro w hw
      rcases List.mem_append.1 hw with hw | hw
      · exact hd w hw
      · simp only [List.mem_singleton] at hw; subst hw; exact hdu
    have hg : getI (l ++ [u]) 11 = some u := by
      have : (l ++ [u])[11]? = some u := by rw [List.getElem?_append_right (by omega)]; simp [hl]
      simpa [getI] using this
    have hcut : cutI (l ++ [u]) 0 11 = some l := by
      unfold cutI
      rw [if_pos (by simp [hl])]
      simp [← hl]
    unfold wagonnumber_Valid wagonnumber_digits
    rw [m52_loop (M + 60) (by simp [hl]) hd12 12 (M + 60) 0 (by omega) (by simp [hl]) (by omega), bind_some']
    simp only [lt_def, bind_some']
    rw [if_neg (by simp [hl]), hg, bind_some', hcut, bind_some']
    unfold wagonnumber_check wagonnumber_sum
    rw [h2, bind_some', bind_some', lt_def, bind_some', if_neg]
    unfold Dig at hdu
    rw [hval, w8 (by omega) (by omega), w64 (n := 48 + _ - 48) (by omega) (by omega)]
    simp; omega
end Go.W
