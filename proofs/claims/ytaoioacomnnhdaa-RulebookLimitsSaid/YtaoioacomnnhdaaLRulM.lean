/- Rules: the law about sums as limits. -/
import Derived.Test.YtaoioacomnnhdaaLRulG
set_option linter.unusedVariables false
set_option linter.unusedSimpArgs false
set_option maxRecDepth 100000
namespace Go.W
open Go.AM

theorem limits_loop (N : Nat) {l : List Wagon} (h : Vd l) : ∀ (q n i : Nat), q < n → i + q = l.length →
    l36_RulebookLimits_0 N l n [0, sumL (·.length) (l.take i), sumL (·.axles) (l.take i), sumL (·.mass) (l.take i)] i = some [0, sumL (·.length) l, sumL (·.axles) l, sumL (·.mass) l]
  | q, 0, i, hn, _ => by omega
  | 0, n + 1, i, hn, hi => by
    obtain rfl : i = l.length := by omega
    rw [l36_RulebookLimits_0, if_neg (dneg (by omega)), List.take_length]
  | q + 1, n + 1, i, hn, hi => by
    have hlt : i < l.length := by omega
    have hl := h.ln
    have b1 := take_bound (f := (·.length)) (fun w hw => by have := h.rg w hw; omega) h.ln (i + 1)
    have b2 := take_bound (f := (·.axles)) (fun w hw => by have := h.rg w hw; omega) h.ln (i + 1)
    have b3 := take_bound (f := (·.mass)) (fun w hw => by have := h.rg w hw; omega) h.ln (i + 1)
    have t1 := take_sum (f := (·.length)) (at_lt hlt)
    have t2 := take_sum (f := (·.axles)) (at_lt hlt)
    have t3 := take_sum (f := (·.mass)) (at_lt hlt)
    have ih := limits_loop N h q n (i + 1) (by omega) (by omega)
    rw [l36_RulebookLimits_0, if_pos (dpos (by omega))]
    generalize sumL (·.length) (l.take i) = A at t1 ⊢
    generalize sumL (·.axles) (l.take i) = B at t2 ⊢
    generalize sumL (·.mass) (l.take i) = C at t3 ⊢
    simp only [lt_def, getI_nat (at_lt hlt), bind_some', show ∀ (a b c d : Int), getI [a, b, c, d] 1 = some b from fun _ _ _ _ => rfl, show ∀ (a b c d : Int), getI [a, b, c, d] 2 = some c from fun _ _ _ _ => rfl, show ∀ (a b c d : Int), getI [a, b, c, d] 3 = some d from fun _ _ _ _ => rfl,
      show ∀ (a b c d x : Int), [a, b, c, d].set (Int.toNat 1) x = [a, x, c, d] from fun _ _ _ _ _ => rfl, show ∀ (a b c d x : Int), [a, b, c, d].set (Int.toNat 2) x = [a, b, x, d] from fun _ _ _ _ _ => rfl, show ∀ (a b c d x : Int), [a, b, c, d].set (Int.toNat 3) x = [a, b, c, x] from fun _ _ _ _ _ => rfl]
    rw [← t1, ← t2, ← t3, w64 (n := sumL (·.length) (l.take (i + 1))) (by omega) (by omega), w64 (n := sumL (·.axles) (l.take (i + 1))) (by omega) (by omega), w64 (n := sumL (·.mass) (l.take (i + 1))) (by omega) (by omega), w64s (by omega)]
    exact ih

theorem sum_take_le {f : Wagon → Int} {l : List Wagon} (h : ∀ w ∈ l, 1 ≤ f w) (n : Nat) : sumL f (l.take n) ≤ sumL f l ∧ (n < l.length → sumL f (l.take n) < sumL f l) := by
  have e := sumL_append f (l.take n) (l.drop n)
  rw [List.take_append_drop] at e
  have key : ∀ m : List Wagon, (∀ w ∈ m, 1 ≤ f w) → (m.length : Int) ≤ sumL f m := by
    intro m
    induction m with
    | nil => intro _; simp [sumL_nil]
    | cons x m ih =>
      intro hm
      have := ih fun w hw => hm w (by simp [hw])
      have := hm x (by simp)
      rw [sumL_cons, List.length_cons]; omega
  have := key (l.drop n) fun w hw => h w (List.mem_of_mem_drop hw)
  rw [List.length_drop] at this
  constructor
  · omega
  · intro hn; omega

theorem sums_kept {k : Int} {l : List Wagon} (h : ∀ w ∈ l, 1 ≤ szOf k w) : firstI (pSum k (sumL (szOf k) l) l) 0 l = -1 ∧ (0 < l.length → firstI (pSum k (sumL (szOf k) l - 1) l) 0 l = (l.length : Int) - 1) := by
  constructor
  · rcases firstI_spec (pSum k (sumL (szOf k) l) l) l 0 with ⟨g, _⟩ | ⟨j, x, _, _, gp, _⟩
    · exact g
    · simp only [pSum, decide_eq_true_eq] at gp
      have := (sum_take_le h (0 + j + 1)).1
      omega
  · intro hl
    rcases firstI_spec (pSum k (sumL (szOf k) l - 1) l) l 0 with ⟨g, ga⟩ | ⟨j, x, g, gj, gp, gb⟩
    · have := ga (l.length - 1) _ (at_lt (by omega))
      simp only [pSum, decide_eq_false_iff_not] at this
      rw [show 0 + (l.length - 1) + 1 = l.length by omega, List.take_length] at this
      omega
    · have hj := (List.getElem?_eq_some_iff.1 gj).1
      simp only [pSum, decide_eq_true_eq] at gp
      by_cases hlt : 0 + j + 1 < l.length
      · have := (sum_take_le h (0 + j + 1)).2 hlt
        omega
      · omega

theorem limits_ok (x0 : List Int) : l36_RulebookLimits 2000 x0 = some true := by
  obtain ⟨l, s2, e2, m2, l2, d2⟩ := wagons_ok 2000 (by omega) 14 (by omega) (mk0 x0) (by omega)
  have he := d2.err (by omega)
  have hv := Vd.of he
  have hsane := sane36' (N := 2000) (by omega)
  have hloop := limits_loop 2000 hv l.length 2000 0 (by omega) (by omega)
  simp only [Int.natCast_zero, List.take_zero, sumL_nil] at hloop
  have hs1 : ∀ k, ∀ w ∈ l, 1 ≤ szOf k w := fun k w hw => by
    have := hv.rg w hw
    unfold szOf
    split
    · omega
    · split <;> omega
  have hb : ∀ k, 0 ≤ sumL (szOf k) l ∧ sumL (szOf k) l ≤ 192000 := fun k => by
    have := take_bound (szOf_rg hv k) hv.ln l.length
    rwa [List.take_length] at this
  have hpos : ∀ k, 0 < l.length → 1 ≤ sumL (szOf k) l := fun k h0 => by
    have := (sum_take_le (hs1 k) 0).2 h0
    rw [List.take_zero, sumL_nil] at this; omega
  have hstep : ∀ (k : Int) (xs : List Int), 1 ≤ k → k ≤ 3 → getI xs k = some (sumL (szOf k) l) → l36_RulebookLimits_2 2000 l xs k = some (.inl ()) := by
    intro k xs h1 h3 hg
    have hb := hb k
    have r1 : rvalid (Rule.mk 1 k (sumL (szOf k) l) 0 0) = true := by rw [rvalid_iff]; dsimp only; omega
    have p1 := (placeR_ok 2000 (by omega) (err_fu (by omega) he) (off := []) (by simp) (Rule.mk 1 k (sumL (szOf k) l) 0 0)).1
    have q1 : ∀ (a pc : Int), plc (Rule.mk 1 k a 0 0) l [] pc = firstI (pSum k a l) 0 l := fun a pc => by
      unfold plc pOf
      rw [if_neg (by dsimp only; omega), if_neg (by dsimp only; omega), if_pos (by dsimp only; omega)]
    rw [placeR_nil r1 he, q1, (sums_kept (hs1 k)).1] at p1
    unfold l36_RulebookLimits_2 l36_RulebookLimits_3 l36_RulebookLimits_4
    rw [hg, bind_some', p1, bind_some']
    simp only [bne00, bne_self_eq_false, Bool.false_eq_true, if_false, bind_some']
    by_cases h0 : l.length = 0
    · rw [if_pos (by simp [h0])]
    · have r2 : rvalid (Rule.mk 1 k (sumL (szOf k) l - 1) 0 0) = true := by
        have := hpos k (by omega)
        rw [rvalid_iff]; dsimp only; omega
      have p2 := (placeR_ok 2000 (by omega) (err_fu (by omega) he) (off := []) (by simp) (Rule.mk 1 k (sumL (szOf k) l - 1) 0 0)).1
      rw [placeR_nil r2 he, q1, (sums_kept (hs1 k)).2 (by omega)] at p2
      rw [if_neg (show ¬ ((l.length : Int) == 0) = true by rw [beq_iff_eq]; omega), w64 (n := sumL (szOf k) l - 1) (by omega) (by omega), p2, bind_some']
      simp only [bne00, Bool.false_eq_true, if_false]
      rw [w64 (n := (l.length : Int) - 1) (by omega) (by omega), bne_self_eq_false, bind_some', if_neg (by decide)]
  unfold l36_RulebookLimits gen_New
  rw [bind_some', show (14 : Int) = ((14 : Nat) : Int) from rfl, e2, bind_some', show (List.replicate 4 (0 : Int)) = [0, 0, 0, 0] from rfl, hloop, bind_some']
  have g1 := hstep 1 [0, sumL (·.length) l, sumL (·.axles) l, sumL (·.mass) l] (by omega) (by omega) rfl
  have g2 := hstep 2 [0, sumL (·.length) l, sumL (·.axles) l, sumL (·.mass) l] (by omega) (by omega) rfl
  have g3 := hstep 3 [0, sumL (·.length) l, sumL (·.axles) l, sumL (·.mass) l] (by omega) (by omega) rfl
  dsimp only
  have hl3 : ∀ n, l36_RulebookLimits_1 2000 l [0, sumL (·.length) l, sumL (·.axles) l, sumL (·.mass) l] (n + 4) 1 = some (.inl ()) := by
    intro n
    rw [l36_RulebookLimits_1, if_pos (by decide), g1, bind_some']
    simp only [lt_def, show IntKind.wrap .i64 (1 + 1) = 2 from rfl]
    rw [l36_RulebookLimits_1, if_pos (by decide), g2, bind_some']
    simp only [lt_def, show IntKind.wrap .i64 (2 + 1) = 3 from rfl]
    rw [l36_RulebookLimits_1, if_pos (by decide), g3, bind_some']
    simp only [lt_def, show IntKind.wrap .i64 (3 + 1) = 4 from rfl]
    rw [l36_RulebookLimits_1, if_neg (by decide)]
  rw [show (2000 : Nat) = 1996 + 4 from rfl] at hsane ⊢
  rw [hl3 1996, bind_some', hsane]; rfl
theorem limitsT (x0 : List Int) : ∃ N, l36_RulebookLimits N x0 = some true := ⟨2000, limits_ok x0⟩
end Go.W
