/- Rules: the law about trains that are shortened. -/
import Derived.Test.YtaoioacomnnhdaaLRulG
set_option linter.unusedVariables false
set_option linter.unusedSimpArgs false
set_option maxRecDepth 100000
namespace Go.W
open Go.AM

theorem firstI_take {α : Type} {p q : Nat → α → Bool} {l : List α} {n : Nat} (hn : n ≤ l.length) (hpq : ∀ (j : Nat) (x : α), j < n → l[j]? = some x → q j x = p j x) :
    (firstI p 0 l = -1 → firstI q 0 (l.take n) = -1) ∧ (0 ≤ firstI p 0 l → firstI q 0 (l.take n) = if (n : Int) ≤ firstI p 0 l then -1 else firstI p 0 l) := by
  have ht : ∀ {j : Nat} {x : α}, (l.take n)[j]? = some x → l[j]? = some x ∧ j < n := by
    intro j x h
    rw [List.getElem?_take] at h
    split at h
    · exact ⟨h, by assumption⟩
    · cases h
  rcases firstI_spec p l 0 with ⟨h, ha⟩ | ⟨j, x, h, hj, hp, hb⟩
  · refine ⟨fun _ => ?_, fun h0 => by omega⟩
    rcases firstI_spec q (l.take n) 0 with ⟨g, _⟩ | ⟨k, y, g, gk, gp, _⟩
    · exact g
    · obtain ⟨g1, g2⟩ := ht gk
      have := ha k y g1
      rw [Nat.zero_add] at this gp
      rw [hpq k y g2 g1, this] at gp; cases gp
  · refine ⟨fun h0 => by omega, fun _ => ?_⟩
    rw [Nat.zero_add] at h hp
    rcases firstI_spec q (l.take n) 0 with ⟨g, ga⟩ | ⟨k, y, g, gk, gp, gb⟩
    · rw [g, h, if_pos ?_]
      by_cases hnj : n ≤ j
      · omega
      · exfalso
        have := ga j x (by rw [List.getElem?_take, if_pos (by omega)]; exact hj)
        rw [Nat.zero_add, hpq j x (by omega) hj, hp] at this; cases this
    · obtain ⟨g1, g2⟩ := ht gk
      rw [Nat.zero_add] at g gp
      rw [hpq k y g2 g1] at gp
      have hjk : j = k := by
        rcases Nat.lt_trichotomy j k with hlt | heq | hgt
        · have := gb j x hlt (by rw [List.getElem?_take, if_pos (by omega)]; exact hj)
          rw [Nat.zero_add, hpq j x (by omega) hj, hp] at this; cases this
        · exact heq
        · have := hb k y hgt g1
          rw [Nat.zero_add, gp] at this; cases this
      subst hjk
      rw [g, h, if_neg (by omega)]

theorem pOf_take {r : Rule} (h : r.kind = 1 ∨ r.kind = 2 ∨ r.kind = 3 ∨ r.kind = 6 ∨ r.kind = 8) {l : List Wagon} {n : Nat} : ∀ (j : Nat) (x : Wagon), j < n → l[j]? = some x → pOf r (l.take n) j x = pOf r l j x := by
  intro j x hj hx
  unfold pOf
  by_cases a : r.kind = 1 ∨ r.kind = 2 ∨ r.kind = 3
  · rw [if_pos a, if_pos a]
    unfold pSum
    rw [List.take_take, show min (j + 1) n = j + 1 by omega]
  · have h5 : ¬ r.kind = 5 := by omega
    simp only [if_neg a, if_neg h5]
    by_cases b : r.kind = 6
    · simp only [if_pos b]
    · have h8 : r.kind = 8 := by omega
      simp only [if_neg b, if_pos h8]

theorem shortens_ok (x0 : List Int) (x1 : Int) : l36_RulebookShortens 2000 x0 x1 = some true := by
  obtain ⟨l, s2, e2, m2, l2, d2⟩ := wagons_ok 2000 (by omega) 14 (by omega) (mk0 x0) (by omega)
  obtain ⟨n, e3, n0, n1⟩ := place_ok 2000 x1 ((l.length : Int) + 1) (by omega) (by omega)
  obtain ⟨n, rfl⟩ := Int.eq_ofNat_of_zero_le n0
  obtain ⟨r, s4, e4, m4, rn, rv⟩ := rule_gen 2000 m2 (by omega) (num := 1) (by omega) (by omega)
  obtain ⟨k, s5, e5, hk, m5⟩ := pick_ok 2000 [1, 2, 3, 6, 8] (by simp) (by simp) m4 (by omega)
  have he := d2.err (by omega)
  have he' := sub_err he (List.take_sublist n l)
  have hkk : k = 1 ∨ k = 2 ∨ k = 3 ∨ k = 6 ∨ k = 8 := by simpa using hk
  have hv := rvalid_iff.1 rv
  have hr : rvalid (Rule.mk r.number k r.a r.b r.c) = true := by rw [rvalid_iff]; dsimp only; omega
  have hsane := sane36' (N := 2000) (by omega)
  unfold l36_RulebookShortens gen_New
  rw [bind_some', show (14 : Int) = ((14 : Nat) : Int) from rfl, e2, bind_some']
  dsimp only
  rw [w64 (n := (l.length : Int) + 1) (by omega) (by omega), e3, bind_some', e4, bind_some']
  dsimp only
  rw [e5, bind_some']
  dsimp only
  generalize hR : Rule.mk r.number k r.a r.b r.c = R at hr ⊢
  have hRk : R.kind = k := by rw [← hR]
  have p1 := (placeR_ok 2000 (by omega) (err_fu (by omega) he) (off := []) (by simp) R).1
  have p2 := (placeR_ok 2000 (by omega) (err_fu (by omega) he') (off := []) (by simp) R).1
  rw [placeR_nil hr he] at p1
  rw [placeR_nil hr he'] at p2
  rw [p1, bind_some', show cutI l 0 (n : Int) = some (l.take n) from cutI_take (by omega), bind_some', p2, bind_some']
  have q1 : ∀ (l : List Wagon) (pc : Int), plc R l [] pc = firstI (pOf R l) 0 l := fun l pc => by unfold plc; rw [if_neg (by omega), if_neg (by omega)]
  simp only [q1]
  obtain ⟨t1, t2⟩ := firstI_take (p := pOf R l) (q := pOf R (l.take n)) (l := l) (n := n) (by omega) (pOf_take (by omega))
  have rg := firstI_rg (pOf R l) l
  generalize firstI (pOf R l) 0 l = A at t1 t2 rg ⊢
  generalize firstI (pOf R (l.take n)) 0 (l.take n) = B at t1 t2 ⊢
  unfold l36_RulebookShortens_0 l36_RulebookShortens_1
  simp only [bne00, Bool.false_eq_true, if_false]
  rcases rg with hA | ⟨hA, hA2⟩
  · have hB := t1 hA
    subst hA hB
    simp only [beq_self_eq_true, if_true, bind_some']
    rw [if_neg (by decide), if_neg (by decide), bind_some', if_neg (by decide), hsane]; rfl
  · have hB := t2 hA
    rw [if_neg (show ¬ (A == -1) = true by simp; omega), bind_some', if_neg (by decide), if_pos (lpos hA), if_neg (lneg (by omega))]
    by_cases hn : (n : Int) ≤ A
    · rw [if_pos hn] at hB
      subst hB
      rw [lpos hn]
      simp only [beq_self_eq_true, Bool.not_true, Bool.false_eq_true, if_false]
      rw [if_neg (by decide), bind_some', if_neg (by decide), hsane]; rfl
    · rw [if_neg hn] at hB
      subst hB
      have hB1 : (B == -1) = false := by simp; omega
      have hB2 : (B != -1) = true := by simp; omega
      rw [decide_eq_false hn, hB1, hB2]
      simp only [beq_self_eq_true, Bool.not_true, Bool.false_eq_true, if_false, if_true, bne_self_eq_false, bind_some']
      rw [hsane]; rfl
theorem shortensT (x0 : List Int) (x1 : Int) : ∃ N, l36_RulebookShortens N x0 x1 = some true := ⟨2000, shortens_ok x0 x1⟩
end Go.W
