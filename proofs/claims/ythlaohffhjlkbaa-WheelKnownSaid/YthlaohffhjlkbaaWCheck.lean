/- What Recognize permits: the checks of the program and of the reference. -/
import Derived.Test.YthlaohffhjlkbaaWDp
set_option linter.unusedVariables false
set_option linter.unusedSimpArgs false
namespace Go.W
open Go.AM

theorem wgetI_nat {α : Type} {xs : List α} {i : Nat} {x : α} (h : xs[i]? = some x) : getI xs (i : Int) = some x := by simp [getI, h]
theorem wat_lt {α : Type} {xs : List α} {i : Nat} (h : i < xs.length) : xs[i]? = some xs[i] := by simp [h]
theorem ww64s {i : Nat} (h : i ≤ 4294967296) : IntKind.wrap .i64 ((i : Int) + 1) = ((i + 1 : Nat) : Int) := by rw [w64 (by omega) (by omega)]; omega

def inR (x : Int) : Bool := decide (1 ≤ x) && decide (x ≤ 10000)
theorem inR_iff {x : Int} : inR x = true ↔ InR x := by simp [inR, InR]

/-- The error of the arguments. -/
def chk (d : List Int) (p : List (List Int)) (tol : Int) : Int :=
  if 768 < d.length ∨ 16 < p.length then 3 else if p.any (fun q => decide (5 < q.length)) = true then 3
  else if (decide (0 ≤ tol) && decide (tol ≤ 10000)) && d.all inR && p.all (fun q => q.all inR) then 0 else 2

theorem distance_ok (N : Nat) (x : Int) : wheel_distance N x = some (inR x) := by
  unfold wheel_distance wheel_distance_0 inR
  by_cases h : 1 ≤ x <;> simp [h, lt_def, bind_some']

theorem len_loop (N : Nat) {p : List (List Int)} (hp : p.length ≤ 16) : ∀ (k n i : Nat), k < n → i + k = p.length →
    wheel_check_1 N p p.length n i = some (if (p.drop i).any (fun q => decide (5 < q.length)) = true then .inr 3 else .inl ())
  | k, 0, i, hn, _ => by omega
  | 0, n + 1, i, hn, hi => by rw [wheel_check_1, if_neg (by simp; omega), List.drop_eq_nil_of_le (by omega)]; rfl
  | k + 1, n + 1, i, hn, hi => by
    have hl : i < p.length := by omega
    rw [wheel_check_1, if_pos (by simp; omega), wgetI_nat (wat_lt hl), bind_some', wdrop_at (wat_lt hl), ww64s (by omega), len_loop N hp k n (i + 1) (by omega) (by omega)]
    generalize p[i] = q, p.drop (i + 1) = r
    by_cases h : 5 < q.length
    · rw [if_pos (by simp; omega)]; simp [h]
    · rw [if_neg (by simp; omega)]; simp [h]

theorem rlen_loop (N : Nat) {p : List (List Int)} (hp : p.length ≤ 16) : ∀ (k n i : Nat), k < n → i + k = p.length →
    r07_Recognize_1 N p n i = some (if (p.drop i).any (fun q => decide (5 < q.length)) = true then .inr (0, 3) else .inl ())
  | k, 0, i, hn, _ => by omega
  | 0, n + 1, i, hn, hi => by rw [r07_Recognize_1, if_neg (by simp; omega), List.drop_eq_nil_of_le (by omega)]; rfl
  | k + 1, n + 1, i, hn, hi => by
    have hl : i < p.length := by omega
    rw [r07_Recognize_1, if_pos (by simp; omega), wgetI_nat (wat_lt hl), bind_some', wdrop_at (wat_lt hl), lt_def, ww64s (by omega), rlen_loop N hp k n (i + 1) (by omega) (by omega)]
    generalize p[i] = q, p.drop (i + 1) = r
    by_cases h : 5 < q.length
    · rw [if_pos (by simp; omega)]; simp [h]
    · rw [if_neg (by simp; omega)]; simp [h]

theorem all_loop (N : Nat) {d : List Int} (hd : d.length ≤ 768) : ∀ (k n i : Nat) (b : Bool), k < n → i + k = d.length →
    wheel_check_3 N d d.length n b i = some (b && (d.drop i).all inR) ∧ wheel_check_6 N d d.length n b i = some (b && (d.drop i).all inR)
  | k, 0, i, b, hn, _ => by omega
  | 0, n + 1, i, b, hn, hi => by
    rw [wheel_check_3, wheel_check_6, if_neg (by simp; omega), if_neg (by simp; omega), List.drop_eq_nil_of_le (by omega)]; simp
  | k + 1, n + 1, i, b, hn, hi => by
    have hl : i < d.length := by omega
    have h4 : wheel_check_4 N b d[i] = some (b && inR d[i]) := by unfold wheel_check_4; cases b <;> simp [distance_ok, bind_some']
    have h7 : wheel_check_7 N b d[i] = some (b && inR d[i]) := by unfold wheel_check_7; cases b <;> simp [distance_ok, bind_some']
    obtain ⟨g1, g2⟩ := all_loop N hd k n (i + 1) (b && inR d[i]) (by omega) (by omega)
    rw [wheel_check_3, wheel_check_6, if_pos (by simp; omega), if_pos (by simp; omega), wgetI_nat (wat_lt hl), bind_some', bind_some', h4, h7, bind_some', bind_some', ww64s (by omega), g1, g2, wdrop_at (wat_lt hl), List.all_cons, Bool.and_assoc]
    exact ⟨rfl, rfl⟩

theorem alls_loop (N : Nat) (hN : 10 ≤ N) {p : List (List Int)} (hp : p.length ≤ 16) (hp5 : ∀ q ∈ p, q.length ≤ 5) : ∀ (k n i : Nat) (b : Bool), k < n → i + k = p.length →
    wheel_check_5 N p p.length n b i = some (b && (p.drop i).all fun q => q.all inR)
  | k, 0, i, b, hn, _ => by omega
  | 0, n + 1, i, b, hn, hi => by rw [wheel_check_5, if_neg (by simp; omega), List.drop_eq_nil_of_le (by omega)]; simp
  | k + 1, n + 1, i, b, hn, hi => by
    have hl : i < p.length := by omega
    have h5 := hp5 p[i] (List.getElem_mem hl)
    have h1 := (all_loop N (d := p[i]) (by omega) p[i].length N 0 b (by omega) (by omega)).2
    simp only [List.drop_zero, Int.natCast_zero] at h1
    rw [wheel_check_5, if_pos (by simp; omega), wgetI_nat (wat_lt hl), bind_some', h1, bind_some', ww64s (by omega), alls_loop N hN hp hp5 k n (i + 1) _ (by omega) (by omega), wdrop_at (wat_lt hl), List.all_cons, Bool.and_assoc]

theorem any_false {p : List (List Int)} (h : ¬ p.any (fun q => decide (5 < q.length)) = true) : ∀ q ∈ p, q.length ≤ 5 := by
  intro q hq
  simp only [List.any_eq_true, decide_eq_true_eq, not_exists, not_and] at h
  have := h q hq
  omega

theorem check_ok (N : Nat) (hN : 800 ≤ N) (d : List Int) (p : List (List Int)) (tol : Int) : wheel_check N d p tol = some (chk d p tol) := by
  unfold wheel_check
  have h0 : wheel_check_0 N d p = some (decide (768 < d.length ∨ 16 < p.length)) := by
    unfold wheel_check_0
    by_cases h1 : 768 < d.length
    · rw [if_pos (by simp; omega)]; simp [h1]
    · rw [if_neg (by simp; omega)]; simp only [h1, false_or]; congr 1; simp only [decide_eq_decide]; omega
  rw [h0, bind_some']
  unfold chk
  by_cases h1 : 768 < d.length ∨ 16 < p.length
  · rw [if_pos (by simpa using h1), if_pos h1]
  · rw [if_neg (by simpa using h1), if_neg h1]
    have hl := len_loop N (p := p) (by omega) p.length N 0 (by omega) (by omega)
    rw [show ((0 : Nat) : Int) = 0 from rfl] at hl
    rw [hl, bind_some', List.drop_zero]
    by_cases h2 : p.any (fun q => decide (5 < q.length)) = true
    · rw [if_pos h2, if_pos h2]
    · rw [if_neg h2, if_neg h2]
      have h3 : wheel_check_2 N tol = some (decide (0 ≤ tol) && decide (tol ≤ 10000)) := by
        unfold wheel_check_2
        by_cases h : 0 ≤ tol <;> simp [h, lt_def]
      have h4 := (all_loop N (d := d) (by omega) d.length N 0 (decide (0 ≤ tol) && decide (tol ≤ 10000)) (by omega) (by omega)).1
      have h5 := alls_loop N (by omega) (p := p) (by omega) (any_false h2) p.length N 0 ((decide (0 ≤ tol) && decide (tol ≤ 10000)) && d.all inR) (by omega) (by omega)
      rw [show ((0 : Nat) : Int) = 0 from rfl, List.drop_zero] at h4 h5
      simp only [h3, bind_some', h4, h5]
      cases (decide (0 ≤ tol) && decide (tol ≤ 10000) && d.all inR && p.all fun q => q.all inR) <;> rfl

theorem r6_ok (N : Nat) {l : List Int} {i : Nat} {x : Int} (h : l[i]? = some x) : r07_Recognize_6 N l i = some (!inR x) := by
  unfold r07_Recognize_6 inR
  rw [wgetI_nat h, bind_some']
  by_cases h1 : x < 1
  · simp [h1, show ¬ 1 ≤ x by omega]
  · have h2 : 1 ≤ x := by omega
    simp [h1, h2, bind_some']
    by_cases h3 : x ≤ 10000
    · simp [h3, show ¬ 10000 < x by omega]
    · simp [h3, show 10000 < x by omega]

theorem r5_loop (N : Nat) {l : List Int} (hl : l.length ≤ 768) : ∀ (k n i : Nat), k < n → i + k = l.length →
    r07_Recognize_5 N l n i = some (if (l.drop i).all inR = true then .inl () else .inr (0, 2))
  | k, 0, i, hn, _ => by omega
  | 0, n + 1, i, hn, hi => by rw [r07_Recognize_5, if_neg (by simp; omega), List.drop_eq_nil_of_le (by omega)]; rfl
  | k + 1, n + 1, i, hn, hi => by
    have hlt : i < l.length := by omega
    rw [r07_Recognize_5, if_pos (by simp; omega), r6_ok N (wat_lt hlt), bind_some', wdrop_at (wat_lt hlt), lt_def, ww64s (by omega), r5_loop N hl k n (i + 1) (by omega) (by omega)]
    generalize l[i] = q, l.drop (i + 1) = r
    simp only [List.all_cons]
    by_cases hq : inR q = true
    · simp only [hq, Bool.not_true, Bool.true_and, Bool.false_eq_true, if_false]
    · simp only [Bool.not_eq_true] at hq
      simp only [hq, Bool.not_false, Bool.false_and, Bool.false_eq_true, if_false, if_true]

theorem r5_ok (N : Nat) (hN : 800 ≤ N) {l : List Int} (hl : l.length ≤ 768) : r07_Recognize_5 N l N 0 = some (if l.all inR = true then .inl () else .inr (0, 2)) := by
  have := r5_loop N hl l.length N 0 (by omega) (by omega)
  simpa using this

theorem r3_loop (N : Nat) (hN : 800 ≤ N) {d : List Int} {p : List (List Int)} (hd : d.length ≤ 768) (hp : p.length ≤ 16) (hp5 : ∀ q ∈ p, q.length ≤ 5) : ∀ (k n i : Nat), k < n → i + k = p.length →
    r07_Recognize_3 N d p n i = some (if ((p.drop i).all fun q => q.all inR) = true then .inl () else .inr (0, 2))
  | k, 0, i, hn, _ => by omega
  | 0, n + 1, i, hn, hi => by rw [r07_Recognize_3, if_neg (by simp; omega), List.drop_eq_nil_of_le (by omega)]; rfl
  | k + 1, n + 1, i, hn, hi => by
    have hlt : i < p.length := by omega
    have h5 := hp5 p[i] (List.getElem_mem hlt)
    have h4 : r07_Recognize_4 N p i d (decide (0 ≤ (i : Int))) = some p[i] := by
      unfold r07_Recognize_4
      rw [if_pos (by simp), wgetI_nat (wat_lt hlt), bind_some']
    rw [r07_Recognize_3, if_pos (by simp; omega), h4, bind_some', r5_ok N hN (by omega), bind_some', wdrop_at (wat_lt hlt), lt_def, ww64s (by omega), r3_loop N hN hd hp hp5 k n (i + 1) (by omega) (by omega)]
    by_cases h : p[i].all inR = true
    · simp only [h, if_true, List.all_cons, Bool.true_and]
    · rw [if_neg h]
      simp only [List.all_cons, h, Bool.false_and, if_false, Bool.false_eq_true]

theorem r3_ok (N : Nat) (hN : 800 ≤ N) {d : List Int} {p : List (List Int)} (hd : d.length ≤ 768) (hp : p.length ≤ 16) (hp5 : ∀ q ∈ p, q.length ≤ 5) :
    r07_Recognize_3 N d p N (-1) = some (if (d.all inR && p.all fun q => q.all inR) = true then .inl () else .inr (0, 2)) := by
  obtain ⟨M, rfl⟩ : ∃ M, N = M + 1 := ⟨N - 1, by omega⟩
  have h4 : r07_Recognize_4 (M + 1) p (-1) d (decide (0 ≤ (-1 : Int))) = some d := by
    unfold r07_Recognize_4
    rw [if_neg (by simp)]
  have h3 := r3_loop (M + 1) hN hd hp hp5 p.length M 0 (by omega) (by omega)
  rw [r07_Recognize_3, if_pos (by simp; omega), h4, bind_some', r5_ok (M + 1) hN hd, bind_some', lt_def]
  by_cases h : d.all inR = true
  · rw [if_pos h]
    simp only [h, Bool.true_and]
    have e : IntKind.wrap .i64 (-1 + 1) = ((0 : Nat) : Int) := by decide
    rw [e, h3, List.drop_zero]
  · rw [if_neg h]
    simp only [h, Bool.false_and, if_false, Bool.false_eq_true]
end Go.W
