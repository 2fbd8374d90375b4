/- Patterns that fit: the matching functions of the program and of the reference. -/
import Derived.Test.YthlaohffhjlkbaaWLib
set_option linter.unusedVariables false
set_option linter.unusedSimpArgs false
namespace Go.W
open Go.AM

/-- Distances in range. -/
def InR (x : Int) : Prop := 1 ≤ x ∧ x ≤ 10000
/-- What a pattern costs on the distances ahead, if it fits. -/
def fit (tol : Int) : List Int → List Int → Option Int
  | [], _ => some 0
  | _ :: _, [] => none
  | a :: q, b :: ds => if tol < max (b - a) (a - b) then none else (fit tol q ds).map (· + max (b - a) (a - b))

theorem fit_len {tol : Int} : ∀ {q ds : List Int} {c : Int}, fit tol q ds = some c → q.length ≤ ds.length
  | [], _, _, _ => by simp
  | _ :: _, [], _, h => by simp [fit] at h
  | a :: q, b :: ds, c, h => by
    simp only [fit] at h
    split at h
    · cases h
    · cases hq : fit tol q ds with
      | none => simp [hq] at h
      | some c' => have := fit_len hq; simp; exact this
theorem fit_bound {tol : Int} : ∀ {q ds : List Int} {c : Int}, (∀ x ∈ q, InR x) → (∀ x ∈ ds, InR x) → fit tol q ds = some c → 0 ≤ c ∧ c ≤ 10000 * q.length
  | [], _, c, _, _, h => by simp [fit] at h; subst h; simp
  | _ :: _, [], _, _, _, h => by simp [fit] at h
  | a :: q, b :: ds, c, hq, hd, h => by
    simp only [fit] at h
    split at h
    · cases h
    · cases hf : fit tol q ds with
      | none => simp [hf] at h
      | some c' =>
        simp [hf] at h
        have ih := fit_bound (fun x hx => hq x (by simp [hx])) (fun x hx => hd x (by simp [hx])) hf
        have h1 := hq a (by simp)
        have h2 := hd b (by simp)
        unfold InR at h1 h2
        simp only [List.length_cons]
        omega

theorem fit_short {tol : Int} : ∀ {q ds : List Int}, ds.length < q.length → fit tol q ds = none
  | [], _, h => by simp at h
  | _ :: _, [], _ => rfl
  | a :: q, b :: ds, h => by
    simp only [fit]
    split
    · rfl
    · rw [fit_short (by simpa using h)]; rfl

theorem wdrop_at {α : Type} {xs : List α} {i : Nat} {x : α} (h : xs[i]? = some x) : xs.drop i = x :: xs.drop (i + 1) := by
  obtain ⟨hlt, rfl⟩ := List.getElem?_eq_some_iff.1 h
  exact List.drop_eq_getElem_cons hlt

theorem match_loop (N : Nat) {ds q : List Int} {tol : Int} (hq : ∀ x ∈ q, InR x) (hd : ∀ x ∈ ds, InR x) (hl : q.length ≤ ds.length) (hl2 : q.length ≤ 1000) : ∀ (k n : Nat) (c : Int) (i : Nat), k + 1 ≤ n → i + k = q.length → 0 ≤ c → c ≤ 10000 * i →
    wheel_match_0 N ds tol q q.length n c i = some (match fit tol (q.drop i) (ds.drop i) with | some f => .inl (c + f) | none => .inr (0, false))
  | k, 0, c, i, hn, _, _, _ => by omega
  | 0, n + 1, c, i, hn, hi, hc0, hc1 => by
    rw [wheel_match_0, if_neg (by simp; omega)]
    have : q.drop i = [] := List.drop_eq_nil_of_le (by omega)
    rw [this]; simp [fit]
  | k + 1, n + 1, c, i, hn, hi, hc0, hc1 => by
    rw [wheel_match_0, if_pos (by simp; omega)]
    obtain ⟨a, ha, hma, ha2⟩ := getI_ok (xs := q) (i := i) (by omega) (by omega)
    obtain ⟨b, hb, hmb, hb2⟩ := getI_ok (xs := ds) (i := i) (by omega) (by omega)
    have h1 := hq a hma
    have h2 := hd b hmb
    unfold InR at h1 h2
    simp only [ha, hb, bind_some', lt_def]
    rw [w64 (n := b - a) (by omega) (by omega), w64 (n := a - b) (by omega) (by omega)]
    simp only [Int.toNat_natCast] at ha2 hb2
    rw [wdrop_at ha2, wdrop_at hb2]
    simp only [fit]
    by_cases ht : tol < max (b - a) (a - b)
    · rw [if_pos (by simpa using ht), if_pos ht]
    · rw [if_neg (by simpa using ht), if_neg ht, w64 (n := c + max (b - a) (a - b)) (by omega) (by omega), w64 (n := (i : Int) + 1) (by omega) (by omega)]
      have ih := match_loop N (tol := tol) hq hd hl hl2 k n (c + max (b - a) (a - b)) (i + 1) (by omega) (by omega) (by omega) (by omega)
      simp only [Int.natCast_add, Int.natCast_one] at ih
      rw [ih]
      cases hf : fit tol (q.drop (i + 1)) (ds.drop (i + 1)) with
      | none => simp
      | some f => simp; omega

/-- The program's 'match'. -/
theorem match_ok (M : Nat) {ds q : List Int} {tol : Int} (hq : ∀ x ∈ q, InR x) (hd : ∀ x ∈ ds, InR x) (hl2 : q.length ≤ 50) :
    wheel_match (M + 60) ds q tol = some (match fit tol q ds with | some f => (f, true) | none => (0, false)) := by
  unfold wheel_match
  by_cases hl : ds.length < q.length
  · rw [if_pos (by simp; omega), fit_short hl]
  · rw [if_neg (by simp; omega)]
    have := match_loop (M + 60) (tol := tol) hq hd (by omega) (by omega) q.length (M + 60) 0 0 (by omega) (by omega) (by omega) (by omega)
    simp only [List.drop_zero] at this
    rw [show ((0 : Nat) : Int) = 0 from rfl] at this
    rw [this, bind_some']
    cases fit tol q ds with
    | none => rfl
    | some f => simp

theorem ref_loop (N : Nat) {ds q : List Int} {tol : Int} (hq : ∀ x ∈ q, InR x) (hd : ∀ x ∈ ds, InR x) (hl : q.length ≤ ds.length) (hl2 : q.length ≤ 1000) : ∀ (k n : Nat) (c : Int) (i : Nat), k + 1 ≤ n → i + k = q.length → 0 ≤ c → c ≤ 10000 * i →
    r07_fit_0 N ds q tol n c i = some (match fit tol (q.drop i) (ds.drop i) with | some f => .inl (c + f) | none => .inr (-1))
  | k, 0, c, i, hn, _, _, _ => by omega
  | 0, n + 1, c, i, hn, hi, hc0, hc1 => by
    rw [r07_fit_0, if_neg (by simp; omega)]
    have : q.drop i = [] := List.drop_eq_nil_of_le (by omega)
    rw [this]; simp [fit]
  | k + 1, n + 1, c, i, hn, hi, hc0, hc1 => by
    rw [r07_fit_0, if_pos (by simp; omega)]
    obtain ⟨a, ha, hma, ha2⟩ := getI_ok (xs := q) (i := i) (by omega) (by omega)
    obtain ⟨b, hb, hmb, hb2⟩ := getI_ok (xs := ds) (i := i) (by omega) (by omega)
    have h1 := hq a hma
    have h2 := hd b hmb
    unfold InR at h1 h2
    simp only [ha, hb, bind_some', lt_def]
    have habs : r07_fit_1 N (IntKind.wrap .i64 (b - a)) (decide (IntKind.wrap .i64 (b - a) < 0)) = some (max (b - a) (a - b)) := by
      rw [w64 (n := b - a) (by omega) (by omega)]
      unfold r07_fit_1
      by_cases hneg : b - a < 0
      · rw [if_pos (by simpa using hneg), lt_def, w64 (n := 0 - (b - a)) (by omega) (by omega)]
        congr 1; omega
      · rw [if_neg (by simpa using hneg)]
        congr 1; omega
    rw [habs, bind_some']
    simp only [Int.toNat_natCast] at ha2 hb2
    rw [wdrop_at ha2, wdrop_at hb2]
    simp only [fit]
    by_cases ht : tol < max (b - a) (a - b)
    · rw [if_pos (by simpa using ht), if_pos ht]
    · rw [if_neg (by simpa using ht), if_neg ht, w64 (n := c + max (b - a) (a - b)) (by omega) (by omega), w64 (n := (i : Int) + 1) (by omega) (by omega)]
      have ih := ref_loop N (tol := tol) hq hd hl hl2 k n (c + max (b - a) (a - b)) (i + 1) (by omega) (by omega) (by omega) (by omega)
      simp only [Int.natCast_add, Int.natCast_one] at ih
      rw [ih]
      cases hf : fit tol (q.drop (i + 1)) (ds.drop (i + 1)) with
      | none => simp
      | some f => simp; omega

/-- The reference's 'fit'. -/
theorem ref_ok (M : Nat) {ds q : List Int} {tol : Int} (hq : ∀ x ∈ q, InR x) (hd : ∀ x ∈ ds, InR x) (hl2 : q.length ≤ 50) :
    r07_fit (M + 60) ds q tol = some (match fit tol q ds with | some f => f | none => -1) := by
  unfold r07_fit
  by_cases hl : ds.length < q.length
  · rw [if_pos (by simp; omega), fit_short hl]
  · rw [if_neg (by simp; omega)]
    have := ref_loop (M + 60) (tol := tol) hq hd (by omega) (by omega) q.length (M + 60) 0 0 (by omega) (by omega) (by omega) (by omega)
    simp only [List.drop_zero] at this
    rw [show ((0 : Nat) : Int) = 0 from rfl] at this
    rw [this, bind_some']
    cases fit tol q ds with
    | none => rfl
    | some f => simp
end Go.W
