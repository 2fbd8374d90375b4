/- WheelRecognizes: the law about the models. -/
import Derived.Test.YthlaohffhjlkbaaWPath
import Derived.Test.YthlaohffhjlkbaaWSane
set_option linter.unusedVariables false
set_option linter.unusedSimpArgs false
set_option maxRecDepth 100000
namespace Go.W
open Go.AM

theorem dpos {a b : Int} (h : a < b) : decide (a < b) = true := decide_eq_true h
theorem Mk.le {c c' : Int} {s : Maker} (h : Mk c s) (hc : c ≤ c') : Mk c' s := ⟨h.1, Int.le_trans h.2 hc⟩
theorem appI_ok {α : Type} {xs ys : List α} (h : xs.length + ys.length ≤ 4294967296) : appI xs ys = some (xs ++ ys) := if_pos h
theorem w64p {i : Nat} (h : i ≤ 4294967296) : IntKind.wrap .i64 (((i + 1 : Nat) : Int) - 1) = (i : Int) := by rw [w64 (by omega) (by omega)]; omega

theorem xs_loop (N : Nat) : ∀ (k n : Nat) (s : Maker) (out : List Int) (c : Int), k < n → Mk c s → c + 2 * k ≤ 1000000 → out.length + k ≤ 1000 → k ≤ 1000 →
    ∃ s' out', l07_WheelRecognizes_1 N n s out k = some (s', out') ∧ Mk (c + 2 * k) s'
  | k, 0, s, out, c, hn, _, _, _, _ => by omega
  | 0, n + 1, s, out, c, hn, hs, _, _, _ => by
    rw [l07_WheelRecognizes_1, if_neg (by simp)]
    exact ⟨s, out, rfl, by simpa using hs⟩
  | k + 1, n + 1, s, out, c, hn, hs, hc, ho, hk => by
    rw [l07_WheelRecognizes_1, if_pos (dpos (by omega))]
    obtain ⟨x, s1, h1, _, m1⟩ := pick_ok N ([1, 2, 3, 3, 4, 5, 10000, 0] : List Int) (by simp) (by simp) hs (by omega)
    obtain ⟨y, s2, h2, _, m2⟩ := pick_ok N ([1, 1, 1, 2] : List Int) (by simp) (by simp) m1 (by omega)
    simp only [h1, h2, bind_some', appI_ok (xs := out) (ys := [IntKind.wrap .i64 (x * y)]) (by simp; omega), lt_def, w64p (i := k) (by omega)]
    obtain ⟨s', out', h3, m3⟩ := xs_loop N k n s2 (out ++ [IntKind.wrap .i64 (x * y)]) (c + 1 + 1) (by omega) m2 (by omega) (by simp; omega) (by omega)
    exact ⟨s', out', h3, m3.le (by omega)⟩

theorem q_loop (N : Nat) : ∀ (k n : Nat) (s : Maker) (out : List Int) (c : Int), k < n → Mk c s → c + k ≤ 1000000 → out.length + k ≤ 1000 → k ≤ 1000 →
    ∃ s' out', l07_WheelRecognizes_3 N n s out k = some (s', out') ∧ Mk (c + k) s'
  | k, 0, s, out, c, hn, _, _, _, _ => by omega
  | 0, n + 1, s, out, c, hn, hs, _, _, _ => by
    rw [l07_WheelRecognizes_3, if_neg (by simp)]
    exact ⟨s, out, rfl, by simpa using hs⟩
  | k + 1, n + 1, s, out, c, hn, hs, hc, ho, hk => by
    rw [l07_WheelRecognizes_3, if_pos (dpos (by omega))]
    obtain ⟨x, s1, h1, _, m1⟩ := pick_ok N ([1, 2, 3, 4, 5] : List Int) (by simp) (by simp) hs (by omega)
    simp only [h1, bind_some', appI_ok (xs := out) (ys := [x]) (by simp; omega), lt_def, w64p (i := k) (by omega)]
    obtain ⟨s', out', h3, m3⟩ := q_loop N k n s1 (out ++ [x]) (c + 1) (by omega) m1 (by omega) (by simp; omega) (by omega)
    exact ⟨s', out', h3, m3.le (by omega)⟩

theorem ys_loop (N : Nat) (hN : 10 ≤ N) : ∀ (k n : Nat) (s : Maker) (out : List (List Int)) (c : Int), k < n → Mk c s → c + 4 * k ≤ 1000000 → out.length + k ≤ 1000 → k ≤ 1000 →
    ∃ s' out', l07_WheelRecognizes_2 N n s out k = some (s', out') ∧ Mk (c + 4 * k) s'
  | k, 0, s, out, c, hn, _, _, _, _ => by omega
  | 0, n + 1, s, out, c, hn, hs, _, _, _ => by
    rw [l07_WheelRecognizes_2, if_neg (by simp)]
    exact ⟨s, out, rfl, by simpa using hs⟩
  | k + 1, n + 1, s, out, c, hn, hs, hc, ho, hk => by
    rw [l07_WheelRecognizes_2, if_pos (dpos (by omega))]
    obtain ⟨r, s1, h1, r0, r1, m1⟩ := next_ok N 4 (by omega) (by omega) hs (by omega)
    obtain ⟨r, rfl⟩ := Int.eq_ofNat_of_zero_le r0
    obtain ⟨s2, q, h2, m2⟩ := q_loop N r N s1 [] (c + 1) (by omega) m1 (by omega) (by simp; omega) (by omega)
    simp only [h1, h2, bind_some', appI_ok (xs := out) (ys := [q]) (by simp; omega), lt_def, w64p (i := k) (by omega)]
    obtain ⟨s', out', h3, m3⟩ := ys_loop N hN k n s2 (out ++ [q]) (c + 1 + r) (by omega) m2 (by omega) (by simp; omega) (by omega)
    exact ⟨s', out', h3, m3.le (by omega)⟩

theorem five_loop (N : Nat) (hN : 801 ≤ N) : ∀ (k n i : Nat) (s : Maker) (c : Int), k < n → i + k = 5 → Mk c s → c ≤ 1000 * i → l07_WheelRecognizes_0 N n s i = some (.inl ())
  | k, 0, i, s, c, hn, _, _, _ => by omega
  | 0, n + 1, i, s, c, hn, hi, hs, _ => by rw [l07_WheelRecognizes_0, if_neg (by simp; omega)]
  | k + 1, n + 1, i, s, c, hn, hi, hs, hc => by
    rw [l07_WheelRecognizes_0, if_pos (by simp; omega)]
    obtain ⟨r, s1, h1, r0, r1, m1⟩ := next_ok N 9 (by omega) (by omega) hs (by omega)
    obtain ⟨r, rfl⟩ := Int.eq_ofNat_of_zero_le r0
    obtain ⟨s2, x, h2, m2⟩ := xs_loop N r N s1 [] (c + 1) (by omega) m1 (by omega) (by simp; omega) (by omega)
    obtain ⟨t, s3, h3, t0, t1, m3⟩ := next_ok N 5 (by omega) (by omega) m2 (by omega)
    obtain ⟨t, rfl⟩ := Int.eq_ofNat_of_zero_le t0
    obtain ⟨s4, y, h4, m4⟩ := ys_loop N (by omega) t N s3 [] _ (by omega) m3 (by omega) (by simp; omega) (by omega)
    obtain ⟨u, s5, h5, _, m5⟩ := pick_ok N ([0, 1, 2, 4, 10000, 10001, -1] : List Int) (by simp) (by simp) m4 (by omega)
    simp only [h1, h2, h3, h4, h5, bind_some', recognizes_ok N hN, Bool.not_true, Bool.false_eq_true, if_false, lt_def, w64s (i := i) (by omega)]
    exact five_loop N hN k n (i + 1) s5 _ (by omega) (by omega) m5 (by omega)

theorem law_recognizes (t d : List Int) (p : List (List Int)) (tol : Int) : ∃ N, l07_WheelRecognizes N t d p tol = some true := by
  refine ⟨900, ?_⟩
  unfold l07_WheelRecognizes gen_New
  have h5 := five_loop 900 (by omega) 5 900 0 (Maker.mk t 0) 0 (by omega) (by omega) ⟨by simp, by simp⟩ (by simp)
  rw [show ((0 : Nat) : Int) = 0 from rfl] at h5
  have hs : l07_sane 900 = some true := sane 840
  rw [bind_some', h5, bind_some']
  have h4 : ∃ b, l07_WheelRecognizes_4 900 d p = some b := by
    unfold l07_WheelRecognizes_4
    split
    · exact ⟨_, rfl⟩
    · exact ⟨_, rfl⟩
  obtain ⟨b, h4⟩ := h4
  simp only [h4, bind_some']
  cases b with
  | true => rw [if_pos rfl, hs]; rfl
  | false =>
    rw [if_neg (by simp)]
    unfold l07_WheelRecognizes_5
    rw [recognizes_ok 900 (by omega), bind_some', if_pos rfl, recognizes_ok 900 (by omega), bind_some', if_pos rfl, hs]
    rfl
end Go.W
