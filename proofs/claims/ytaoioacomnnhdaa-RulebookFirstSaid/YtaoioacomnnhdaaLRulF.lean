/- Rules: the law about the first rule that is broken. -/
import Derived.Test.YtaoioacomnnhdaaLRulG
set_option linter.unusedVariables false
set_option linter.unusedSimpArgs false
set_option maxRecDepth 100000
namespace Go.W
open Go.AM

theorem checkF_cases (l : List Wagon) (off : List Int) (pc : Int) : ∀ (rs : List Rule), checkF l off pc rs = (0, -1, 0) ∨ ∃ r ∈ rs, checkF l off pc rs = (r.number, plc r l off pc, 0)
  | [] => .inl rfl
  | r :: rs => by
    rw [checkF]
    split
    · exact .inr ⟨r, by simp, rfl⟩
    · rcases checkF_cases l off pc rs with h | ⟨x, hx, h⟩
      · exact .inl h
      · exact .inr ⟨x, by simp [hx], h⟩

theorem first_loop (N : Nat) (hN : 1001 ≤ N) {rs : List Rule} (hl : rs.length ≤ 32) (hm : MadeR rs) {l : List Wagon} {off : List Int} (he : listErr l = 0) (ho : offErr l.length off = 0) (ho2 : off.length ≤ 1000) :
    ∀ (q n i : Nat), q < n → i + q = rs.length →
      l36_RulebookFirst_0 N rs l off (checkF l off (total1 l off).percent (rs.drop i)).1 (checkF l off (total1 l off).percent (rs.drop i)).2.1 n i = some (if (checkF l off (total1 l off).percent (rs.drop i)).1 = 0 then .inl () else .inr true)
  | q, 0, i, hn, _ => by omega
  | 0, n + 1, i, hn, hi => by
    obtain rfl : i = rs.length := by omega
    rw [l36_RulebookFirst_0, if_neg (dneg (by omega)), List.drop_length, checkF, if_pos rfl]
  | q + 1, n + 1, i, hn, hi => by
    have hlt : i < rs.length := by omega
    obtain ⟨v1, v2, v3⟩ := hm i _ (at_lt hlt)
    have hp := plc_rg rs[i] l off (total1 l off).percent
    rw [l36_RulebookFirst_0, if_pos (dpos (by omega)), getI_nat (at_lt hlt), bind_some', (placeR_ok N hN (err_fu (by omega) he) ho2 _).1, bind_some', placeR_eq v1 he ho, bind_some']
    simp only [bne00, Bool.false_eq_true, if_false]
    rw [drop_at (at_lt hlt), checkF]
    by_cases h0 : 0 ≤ plc rs[i] l off (total1 l off).percent
    · rw [if_pos h0]
      simp only [beq_self_eq_true, if_true]
      unfold l36_RulebookFirst_1
      simp only [beq_self_eq_true, if_true]
      rw [if_pos (lpos h0), if_pos (lpos (by omega)), sane36' (by omega), if_neg (by omega)]
      rfl
    · rw [if_neg h0]
      have hne : (rs[i].number == (checkF l off (total1 l off).percent (rs.drop (i + 1))).1) = false := by
        rcases checkF_cases l off (total1 l off).percent (rs.drop (i + 1)) with h | ⟨x, hx, h⟩
        · rw [h]; simp; omega
        · rw [h]
          obtain ⟨j, hj⟩ := List.getElem?_of_mem hx
          rw [List.getElem?_drop] at hj
          obtain ⟨_, w2, w3⟩ := hm _ _ hj
          simp; omega
      rw [if_neg (by rw [hne]; simp), if_neg (by simp; omega), lt_def, w64s (by omega)]
      exact first_loop N hN hl hm he ho ho2 q n (i + 1) (by omega) (by omega)

theorem first_ok (x0 : List Int) : l36_RulebookFirst 2000 x0 = some true := by
  obtain ⟨rs, s1, e1, m1, l1, r1⟩ := rules_gen 2000 (by omega) (mk0 x0) (by omega) 9 (by omega)
  obtain ⟨l, s2, e2, m2, l2, d2⟩ := wagons_ok 2000 (by omega) 14 (by omega) m1 (by omega)
  obtain ⟨off, s3, e3, m3, a3⟩ := offg_ok 2000 (m := l.length) (by omega) (by omega) m2 (by omega)
  have he := d2.err (by omega)
  have ho := a3.err
  have hol := a3.ln
  unfold l36_RulebookFirst gen_New
  rw [bind_some', show (9 : Int) = ((9 : Nat) : Int) from rfl, e1, bind_some', show (14 : Int) = ((14 : Nat) : Int) from rfl, e2, bind_some']
  dsimp only
  rw [e3, bind_some', (check_ok 2000 (by omega) (by omega) (err_fu (by omega) he) (by dsimp only; omega)).1, bind_some']
  have hc : checkR rs l off = checkF l off (total1 l off).percent rs := by
    unfold checkR
    rw [if_pos (r1.err (by omega)), tot_eq he ho, if_pos rfl]
  rw [hc]
  have hloop := first_loop 2000 (by omega) (by omega) r1 he ho (by omega) rs.length 2000 0 (by omega) (by omega)
  simp only [Int.natCast_zero, List.drop_zero] at hloop
  rw [hloop]
  rcases checkF_cases l off (total1 l off).percent rs with h | ⟨x, hx, h⟩
  · rw [h]
    simp only [bne00, Bool.false_eq_true, if_false, if_true, bind_some']
    unfold l36_RulebookFirst_2
    rw [sane36' (by omega)]; rfl
  · obtain ⟨j, hj⟩ := List.getElem?_of_mem hx
    obtain ⟨_, w2, w3⟩ := r1 _ _ hj
    rw [h]
    simp only [bne00, Bool.false_eq_true, if_false, bind_some']
    rw [if_neg (by omega)]
theorem firstT (x0 : List Int) : ∃ N, l36_RulebookFirst N x0 = some true := ⟨2000, first_ok x0⟩
end Go.W
