/- The table of the least costs, and the program's loops that fill it. -/
import Derived.Test.YthlaohffhjlkbaaWRec
set_option linter.unusedVariables false
set_option linter.unusedSimpArgs false
namespace Go.W
open Go.AM

/-- One more pattern is looked at. -/
def better (tol : Int) (tl : List (Int × Int)) (ds q : List Int) (j : Nat) (b : Int × Int) : Int × Int :=
  match fit tol q ds, tl[q.length]? with
  | some f, some c => if c.1 < 0 then b else if b.2 < 0 ∨ f + c.1 < b.1 then (f + c.1, (j : Int)) else b
  | _, _ => b
def rowF (tol : Int) (tl : List (Int × Int)) (ds : List Int) : List (List Int) → Nat → Int × Int → Int × Int
  | [], _, b => b
  | q :: ps, j, b => rowF tol tl ds ps (j + 1) (better tol tl ds q j b)
/-- The rows from behind: 'k' of them, ahead of the last. -/
def tabN (tol : Int) (p : List (List Int)) (d : List Int) : Nat → List (Int × Int)
  | 0 => [(0, 0)]
  | k + 1 => rowF tol (tabN tol p d k) (d.drop (d.length - k)) p 0 (-1, -1) :: tabN tol p d k

theorem tabN_len {tol : Int} {p : List (List Int)} {d : List Int} : ∀ k, (tabN tol p d k).length = k + 1
  | 0 => rfl
  | k + 1 => by simp [tabN, tabN_len k]

/-- A row's place in range. -/
def RB (B : Int) (n : Nat) (b : Int × Int) : Prop := (b = (-1, -1)) ∨ (0 ≤ b.1 ∧ b.1 ≤ B ∧ 0 ≤ b.2 ∧ b.2 < n)

theorem better_rb {tol B : Int} {tl : List (Int × Int)} {ds q : List Int} {j n : Nat} {b : Int × Int} (hq : ∀ x ∈ q, InR x) (hd : ∀ x ∈ ds, InR x) (hl : q.length ≤ 5) (hj : j < n) (ht : ∀ c ∈ tl, c.1 ≤ B) (hb : RB (B + 50000) n b) : RB (B + 50000) n (better tol tl ds q j b) := by
  unfold better
  split
  · rename_i f c hf hc
    have hfb := fit_bound hq hd hf
    have hcb := ht c (List.mem_of_getElem? hc)
    split
    · exact hb
    · split
      · right; simp only []; omega
      · exact hb
  · exact hb
theorem rowF_rb {tol B : Int} {tl : List (Int × Int)} {ds : List Int} {n : Nat} (hd : ∀ x ∈ ds, InR x) (ht : ∀ c ∈ tl, c.1 ≤ B) : ∀ (ps : List (List Int)) (j : Nat) (b : Int × Int), (∀ q ∈ ps, q.length ≤ 5 ∧ ∀ x ∈ q, InR x) → j + ps.length ≤ n → RB (B + 50000) n b → RB (B + 50000) n (rowF tol tl ds ps j b)
  | [], j, b, _, _, hb => hb
  | q :: ps, j, b, hp, hj, hb => by
    simp only [List.length_cons] at hj
    obtain ⟨h1, h2⟩ := hp q (by simp)
    exact rowF_rb hd ht ps (j + 1) _ (fun q hq => hp q (by simp [hq])) (by omega) (better_rb h2 hd h1 (by omega) ht hb)
theorem tabN_rb {tol : Int} {p : List (List Int)} {d : List Int} (hd : ∀ x ∈ d, InR x) (hp : ∀ q ∈ p, q.length ≤ 5 ∧ ∀ x ∈ q, InR x) : ∀ (k : Nat), ∀ c ∈ tabN tol p d k, c = (0, 0) ∨ RB (50000 * k) p.length c
  | 0, c, hc => by simp [tabN] at hc; exact .inl hc
  | k + 1, c, hc => by
    simp only [tabN, List.mem_cons] at hc
    have ih := tabN_rb (tol := tol) hd hp k
    rcases hc with rfl | hc
    · right
      have := rowF_rb (tol := tol) (B := 50000 * k) (tl := tabN tol p d k) (ds := d.drop (d.length - k)) (n := p.length) (fun x hx => hd x (List.mem_of_mem_drop hx)) (fun c hc => by
        rcases ih c hc with rfl | h | h
        · simp; omega
        · rw [h]; simp; omega
        · exact h.2.1) p 0 (-1, -1) hp (by omega) (.inl rfl)
      rw [show (50000 : Int) * ((k + 1 : Nat) : Int) = 50000 * k + 50000 by omega]
      exact this
    · rcases ih c hc with h | h | h
      · exact .inl h
      · exact .inr (.inl h)
      · right; right; omega
end Go.W
