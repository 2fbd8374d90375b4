/- Made numbers, made lists of cut brakes. -/
import Derived.Test.YtaoioacomnnhdaaLTot
set_option linter.unusedVariables false
set_option linter.unusedSimpArgs false
set_option maxRecDepth 100000
namespace Go.W
open Go.AM

theorem place_ok (N : Nat) (v n : Int) (h1 : 1 ≤ n) (h2 : n ≤ 1000000) : ∃ r, yardgen_Place N v n = some r ∧ 0 ≤ r ∧ r < n := by
  unfold yardgen_Place yardgen_Place_0 modI
  rw [if_neg (dneg (by omega)), if_neg (by omega), bind_some']
  have a := Int.lt_tmod_of_pos v (show 0 < n by omega)
  have b := Int.tmod_lt_of_pos v (show 0 < n by omega)
  by_cases h : Int.tmod v n < 0
  · rw [if_pos (dpos h), lt_def, bind_some', w64 (by omega) (by omega)]
    exact ⟨_, rfl, by omega, by omega⟩
  · rw [if_neg (dneg h), bind_some']
    exact ⟨_, rfl, by omega, by omega⟩
theorem place_zero (N : Nat) (v : Int) : yardgen_Place N v 0 = some 0 := rfl

/-- Ascending numbers below 'm'. -/
structure Asc (off : List Int) (m : Nat) : Prop where
  nd : off.Nodup
  rg : ∀ o ∈ off, 0 ≤ o ∧ o ≤ (m : Int) - 1
  ln : off.length ≤ m
theorem Asc.err {off : List Int} {m : Nat} (h : Asc off m) : offErr m off = 0 := by
  unfold offErr
  rw [if_pos (List.all_eq_true.2 fun o ho => inB_iff.2 (h.rg o ho)), if_pos h.nd]

theorem offg_loop (N : Nat) {m : Nat} (hm : m ≤ 1000) : ∀ (k n i : Nat) (s : Maker) (out : List Int) (c : Int), k < n → i + k = m → Mk c s → c + k ≤ 900000000 → Asc out i →
    ∃ s' out', yardgen_Off_0 N m n s out i = some (s', out') ∧ Mk (c + k) s' ∧ Asc out' m
  | k, 0, i, s, out, c, hn, _, _, _, _ => by omega
  | 0, n + 1, i, s, out, c, hn, hi, hs, _, ho => by
    rw [yardgen_Off_0, if_neg (dneg (by omega))]
    obtain rfl : i = m := by omega
    exact ⟨s, out, rfl, by simpa using hs, ho⟩
  | k + 1, n + 1, i, s, out, c, hn, hi, hs, hc, ho => by
    obtain ⟨r, s1, h1, r0, r1, m1⟩ := next_ok N 4 (by omega) (by omega) hs (by omega)
    have h2 : ∃ out1, yardgen_Off_1 N s out i = some (s1, out1) ∧ Asc out1 (i + 1) := by
      unfold yardgen_Off_1
      rw [h1, bind_some']
      by_cases hz : r = 0
      · have hl := ho.ln
        rw [if_pos (by simp [hz]), appI_ok (by simp; omega), bind_some']
        refine ⟨_, rfl, ?_, fun o hx => ?_, by simp; omega⟩
        · rw [List.nodup_append]
          refine ⟨ho.nd, by simp, fun x hx y hy => ?_⟩
          simp at hy
          have := ho.rg x hx
          omega
        · rcases List.mem_append.1 hx with hx | hx
          · have := ho.rg o hx; omega
          · simp at hx; omega
      · rw [if_neg (by simpa using hz)]
        exact ⟨_, rfl, ho.nd, fun o hx => by have := ho.rg o hx; omega, by have := ho.ln; omega⟩
    obtain ⟨out1, h2, a1⟩ := h2
    rw [yardgen_Off_0, if_pos (dpos (by omega)), h2, bind_some', lt_def, w64s (by omega)]
    obtain ⟨s', out', g1, g2, g3⟩ := offg_loop N hm k n (i + 1) s1 out1 (c + 1) (by omega) (by omega) m1 (by omega) a1
    exact ⟨s', out', g1, g2.le (by omega), g3⟩

theorem offg_ok (N : Nat) {m : Nat} (hm : m ≤ 1000) (hN : 1001 ≤ N) {c : Int} {s : Maker} (hs : Mk c s) (hc : c ≤ 800000000) :
    ∃ off s', yardgen_Off N s m = some (off, s') ∧ Mk (c + 1000) s' ∧ Asc off m := by
  unfold yardgen_Off
  obtain ⟨s', off, h1, m1, h2⟩ := offg_loop N hm m N 0 s [] c (by omega) (by omega) hs (by omega) ⟨by simp, by simp, by simp⟩
  simp only [Int.natCast_zero] at h1
  rw [h1, bind_some']
  exact ⟨off, s', rfl, m1.le (by omega), h2⟩

theorem made_fu {N : Nat} (hN : 20 ≤ N) {l : List Wagon} (h : MadeL l) : l.length ≤ 96 → ∀ w ∈ l, Fu N w := fun _ w hw => wagErr_fu (h.ok w hw) hN

/-- The answer for a valid list and valid cut brakes. -/
def total1 (l : List Wagon) (off : List Int) : Brakes := Brakes.mk (sumL (·.length) l) (sumL (·.axles) l) (sumL (·.mass) l) (brk off 0 l * factor (sumL (·.length) l) / 100)
    (if 0 < sumL (·.mass) l then 100 * (brk off 0 l * factor (sumL (·.length) l) / 100) / sumL (·.mass) l else 0) 0 0
theorem tot_eq {l : List Wagon} {off : List Int} (h1 : listErr l = 0) (h2 : offErr l.length off = 0) : tot l off = (total1 l off, 0) := by
  unfold tot
  rw [if_neg (by simp [h1]), if_neg (by simp [h2])]
  rfl
end Go.W
