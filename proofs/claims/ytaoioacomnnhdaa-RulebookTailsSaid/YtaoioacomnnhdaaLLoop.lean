/- Loops over the elements of a list: what they find, what they add up. -/
import Derived.Test.YtaoioacomnnhdaaLNum
set_option linter.unusedVariables false
set_option linter.unusedSimpArgs false
namespace Go.W
open Go.AM

/-- The first element for which a condition holds. -/
def res {α β : Type} (p : Nat → α → Bool) (out : Nat → α → β) : Nat → List α → Sum Unit β
  | _, [] => .inl ()
  | i, x :: xs => if p i x = true then .inr (out i x) else res p out (i + 1) xs

theorem first_gen {α β : Type} {l : List α} (p : Nat → α → Bool) (out : Nat → α → β) (F : Nat → Int → Option (Sum Unit β)) (h0 : ∀ n, F (n + 1) (l.length : Int) = some (.inl ()))
    (h1 : ∀ (n i : Nat) (x : α), l[i]? = some x → F (n + 1) (i : Int) = if p i x = true then some (.inr (out i x)) else F n ((i + 1 : Nat) : Int)) : ∀ (k n i : Nat), k < n → i + k = l.length → F n (i : Int) = some (res p out i (l.drop i))
  | k, 0, i, hn, _ => by omega
  | 0, n + 1, i, hn, hi => by
    obtain rfl : i = l.length := by omega
    rw [h0, List.drop_length, res]
  | k + 1, n + 1, i, hn, hi => by
    have hlt : i < l.length := by omega
    rw [h1 n i _ (at_lt hlt), drop_at (at_lt hlt), res]
    split
    · rfl
    · exact first_gen p out F h0 h1 k n (i + 1) (by omega) (by omega)

/-- Something gathered from all elements. -/
def fold {α σ : Type} (g : Nat → α → σ → σ) : Nat → List α → σ → σ
  | _, [], s => s
  | i, x :: xs, s => fold g (i + 1) xs (g i x s)

theorem fold_gen {α σ β : Type} {l : List α} (g : Nat → α → σ → σ) (fin : σ → β) (I : Nat → σ → Prop) (F : Nat → σ → Int → Option β) (h0 : ∀ n s, I l.length s → F (n + 1) s (l.length : Int) = some (fin s))
    (h1 : ∀ (n i : Nat) (x : α) (s : σ), l[i]? = some x → I i s → F (n + 1) s (i : Int) = F n (g i x s) ((i + 1 : Nat) : Int) ∧ I (i + 1) (g i x s)) : ∀ (k n i : Nat) (s : σ), k < n → i + k = l.length → I i s → F n s (i : Int) = some (fin (fold g i (l.drop i) s)) ∧ I l.length (fold g i (l.drop i) s)
  | k, 0, i, s, hn, _, _ => by omega
  | 0, n + 1, i, s, hn, hi, hI => by
    obtain rfl : i = l.length := by omega
    rw [h0 n s hI, List.drop_length, fold]
    exact ⟨rfl, hI⟩
  | k + 1, n + 1, i, s, hn, hi, hI => by
    have hlt : i < l.length := by omega
    obtain ⟨g1, g2⟩ := h1 n i _ s (at_lt hlt) hI
    rw [g1, drop_at (at_lt hlt), fold]
    exact fold_gen g fin I F h0 h1 k n (i + 1) _ (by omega) (by omega) g2

/-- The number of the first element for which a condition holds, or -1. -/
def firstI {α : Type} (p : Nat → α → Bool) : Nat → List α → Int
  | _, [] => -1
  | i, x :: xs => if p i x = true then (i : Int) else firstI p (i + 1) xs

theorem res_first {α : Type} (p : Nat → α → Bool) : ∀ (l : List α) (i : Nat), res p (fun i _ => (i : Int)) i l = .inl () ∧ firstI p i l = -1 ∨ res p (fun i _ => (i : Int)) i l = .inr (firstI p i l) ∧ 0 ≤ firstI p i l
  | [], i => .inl ⟨rfl, rfl⟩
  | x :: xs, i => by
    rw [res, firstI]
    by_cases h : p i x = true
    · rw [if_pos h, if_pos h]; exact .inr ⟨rfl, by omega⟩
    · rw [if_neg h, if_neg h]; exact res_first p xs (i + 1)

theorem firstI_spec {α : Type} (p : Nat → α → Bool) : ∀ (l : List α) (i : Nat), (firstI p i l = -1 ∧ ∀ (j : Nat) (x : α), l[j]? = some x → p (i + j) x = false) ∨
    ∃ (j : Nat) (x : α), firstI p i l = ((i + j : Nat) : Int) ∧ l[j]? = some x ∧ p (i + j) x = true ∧ ∀ (j' : Nat) (y : α), j' < j → l[j']? = some y → p (i + j') y = false
  | [], i => .inl ⟨rfl, fun j x h => by simp at h⟩
  | x :: xs, i => by
    rw [firstI]
    by_cases h : p i x = true
    · rw [if_pos h]
      exact .inr ⟨0, x, by simp, by simp, by simpa using h, fun j' y hj => by omega⟩
    · rw [if_neg h]
      have h' : p i x = false := by simpa using h
      rcases firstI_spec p xs (i + 1) with ⟨h1, h2⟩ | ⟨j, y, h1, h2, h3, h4⟩
      · refine .inl ⟨h1, fun j y hj => ?_⟩
        cases j with
        | zero => simp at hj; subst hj; exact h'
        | succ j => have := h2 j y (by simpa using hj); rwa [show i + 1 + j = i + (j + 1) by omega] at this
      · refine .inr ⟨j + 1, y, by rw [h1]; omega, by simpa using h2, by rwa [show i + 1 + j = i + (j + 1) by omega] at h3, fun j' z hj hz => ?_⟩
        cases j' with
        | zero => simp at hz; subst hz; exact h'
        | succ j' => have := h4 j' z (by omega) (by simpa using hz); rwa [show i + 1 + j' = i + (j' + 1) by omega] at this

theorem firstI_congr {α : Type} {p q : Nat → α → Bool} : ∀ {l : List α} {i : Nat}, (∀ (j : Nat) (x : α), l[j]? = some x → p (i + j) x = q (i + j) x) → firstI p i l = firstI q i l
  | [], i, _ => rfl
  | x :: xs, i, h => by
    have h0 := h 0 x (by simp)
    rw [Nat.add_zero] at h0
    rw [firstI, firstI, h0, firstI_congr (i := i + 1) fun j y hj => ?_]
    have := h (j + 1) y (by simpa using hj)
    rwa [show i + 1 + j = i + (j + 1) by omega]
end Go.W
