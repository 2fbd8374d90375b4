/- Wagons: what the program's checks and the reference's say. -/
import Derived.Test.YtaoioacomnnhdaaLNum
set_option linter.unusedVariables false
set_option linter.unusedSimpArgs false
namespace Go.W
open Go.AM

/-! ### Names -/
def nameCh (u : UInt8) : Bool := (decide (97 ≤ u.toNat) && decide (u.toNat ≤ 122)) || (decide (48 ≤ u.toNat) && decide (u.toNat ≤ 57))
def nameOk (l : List UInt8) : Bool := l.all nameCh && (decide (1 ≤ l.length) && decide (l.length ≤ 12))

theorem pname1 (N : Nat) (u : UInt8) : consist_name_1 N (u.toNat : Int) = some (!nameCh u) := by
  unfold consist_name_1 nameCh
  by_cases a : 97 ≤ u.toNat
  · rw [if_neg (by simp; omega)]
    by_cases b : u.toNat ≤ 122
    · rw [if_neg (by simp; omega)]; simp [a, b]
    · rw [if_pos (by simp; omega), if_neg (by simp; omega)]
      simp [a, b, show ¬ u.toNat ≤ 57 by omega, show (57 : Int) < u.toNat by omega]
  · rw [if_pos (by simp; omega)]
    by_cases c : u.toNat < 48
    · rw [if_pos (by simp; omega)]; simp [a, show ¬ 48 ≤ u.toNat by omega]
    · rw [if_neg (by simp; omega)]
      by_cases d : u.toNat ≤ 57
      · simp [a, show 48 ≤ u.toNat by omega, d, show ¬ (57 : Int) < u.toNat by omega]
      · simp [a, show 48 ≤ u.toNat by omega, d, show (57 : Int) < u.toNat by omega]
theorem rname1 (N : Nat) {l : List UInt8} {i : Nat} {u : UInt8} (h : l[i]? = some u) : r06_Name_1 N l i = some (!nameCh u) := by
  unfold r06_Name_1 nameCh
  rw [getI_nat h]
  simp only [bind_some']
  have c1 : decide ((97 : Int) ≤ u.toNat) = decide (97 ≤ u.toNat) := by rw [decide_eq_decide]; omega
  have c2 : decide ((u.toNat : Int) ≤ 122) = decide (u.toNat ≤ 122) := by rw [decide_eq_decide]; omega
  have c3 : decide ((48 : Int) ≤ u.toNat) = decide (48 ≤ u.toNat) := by rw [decide_eq_decide]; omega
  have c4 : decide ((u.toNat : Int) ≤ 57) = decide (u.toNat ≤ 57) := by rw [decide_eq_decide]; omega
  rw [c1, c2, c3, c4]
  cases decide (97 ≤ u.toNat) <;> cases decide (u.toNat ≤ 122) <;> cases decide (48 ≤ u.toNat) <;> cases decide (u.toNat ≤ 57) <;> rfl

theorem pname_loop (N : Nat) {l : List UInt8} (hl : l.length ≤ 9223372036854775807) : ∀ (k n i : Nat), k < n → i + k = l.length →
    consist_name_0 N l n i = some (if (l.drop i).all nameCh = true then .inl () else .inr false) ∧ r06_Name_0 N l n i = some (if (l.drop i).all nameCh = true then .inl () else .inr false)
  | k, 0, i, hn, _ => by omega
  | 0, n + 1, i, hn, hi => by
    rw [consist_name_0, r06_Name_0, if_neg (dneg (by omega)), if_neg (dneg (by omega)), List.drop_eq_nil_of_le (by omega)]
    exact ⟨rfl, rfl⟩
  | k + 1, n + 1, i, hn, hi => by
    have hlt : i < l.length := by omega
    obtain ⟨h1, h2⟩ := pname_loop N hl k n (i + 1) (by omega) (by omega)
    rw [consist_name_0, r06_Name_0, if_pos (dpos (by omega)), if_pos (dpos (by omega)), getI_nat (at_lt hlt), bind_some', lt_def, pname1, rname1 N (at_lt hlt), bind_some', bind_some', drop_at (at_lt hlt), lt_def, lt_def, w64s (by omega), h1, h2, List.all_cons]
    by_cases h : nameCh l[i] = true
    · simp only [h, Bool.not_true, Bool.false_eq_true, if_false, Bool.true_and, and_self]
    · simp only [Bool.not_eq_true] at h
      simp only [h, Bool.not_false, if_true, Bool.false_and, Bool.false_eq_true, if_false, and_self]

theorem name_ok' (N : Nat) {l : List UInt8} (hN : l.length < N) (hl : l.length ≤ 9223372036854775807) : consist_name N l = some (nameOk l) ∧ r06_Name N l = some (nameOk l) := by
  obtain ⟨h1, h2⟩ := pname_loop N hl l.length N 0 hN (by omega)
  simp only [Int.natCast_zero, List.drop_zero] at h1 h2
  unfold consist_name r06_Name nameOk
  rw [h1, h2, bind_some', bind_some']
  have h3 : consist_name_2 N l = some (decide (1 ≤ l.length) && decide (l.length ≤ 12)) := by
    unfold consist_name_2
    by_cases a : 1 ≤ l.length
    · rw [if_pos (dpos (by omega)), lt_def, decide_eq_true a, Bool.true_and]; congr 1; rw [decide_eq_decide]; omega
    · rw [if_neg (dneg (by omega)), decide_eq_false a, Bool.false_and]
  have h4 : r06_Name_2 N l = some (decide (1 ≤ l.length) && decide (l.length ≤ 12)) := by
    unfold r06_Name_2
    by_cases a : 1 ≤ l.length
    · rw [if_pos (lpos (by omega)), lt_def, decide_eq_true a, Bool.true_and]; congr 1; rw [decide_eq_decide]; omega
    · rw [if_neg (lneg (by omega)), decide_eq_false a, Bool.false_and]
  by_cases h : l.all nameCh = true
  · simp only [h, if_true, h3, h4, bind_some', Bool.true_and, and_self]
  · simp only [Bool.not_eq_true] at h
    simp only [h, Bool.false_eq_true, if_false, Bool.false_and, and_self]

/-! ### Wagons -/
def axOf (k : Int) : Int := if k = 2 then 2 else if k = 3 then 6 else 4
def leastOf (k : Int) : Int := if k = 3 then 120 else 80
/-- Are the numbers of a wagon in range? -/
def inRg (k : Int) (w : Wagon) : Prop := leastOf k ≤ w.length ∧ w.length ≤ 400 ∧ 50 ≤ w.mass ∧ w.mass ≤ 2000 ∧ 0 ≤ w.brake ∧ w.brake ≤ w.mass ∧ 0 ≤ w.goods ∧ w.goods ≤ 9
instance (k : Int) (w : Wagon) : Decidable (inRg k w) := by unfold inRg; infer_instance
/-- The error of a wagon. -/
def wagErr (w : Wagon) : Int :=
  if numErr w.number ≠ 0 then numErr w.number else if w.axles ≠ axOf (kindOf w.number) then 1 else if ¬ inRg (kindOf w.number) w then 2 else if nameOk w.dest = true then 0 else 7

/-- There is enough fuel for a wagon's strings. -/
def Fu (N : Nat) (w : Wagon) : Prop := (w.number.length < N ∧ w.number.length ≤ 9223372036854775807) ∧ w.dest.length < N ∧ w.dest.length ≤ 9223372036854775807

theorem pv1 (N : Nat) (w : Wagon) (m : Int) : consist_Valid_1 N w m = some (!(decide (m ≤ w.length ∧ w.length ≤ 400 ∧ 50 ≤ w.mass ∧ w.mass ≤ 2000))) := by
  unfold consist_Valid_1
  by_cases a : w.length < m
  · rw [if_pos (dpos a), decide_eq_false (by omega)]; rfl
  rw [if_neg (dneg a)]
  by_cases b : 400 < w.length
  · rw [if_pos (dpos b), decide_eq_false (by omega)]; rfl
  rw [if_neg (dneg b)]
  by_cases c : w.mass < 50
  · rw [if_pos (dpos c), decide_eq_false (by omega)]; rfl
  rw [if_neg (dneg c), lt_def]
  by_cases d : 2000 < w.mass
  · rw [decide_eq_true d, decide_eq_false (by omega)]; rfl
  · rw [decide_eq_false d, decide_eq_true (by omega)]; rfl
theorem pv2 (N : Nat) (w : Wagon) : consist_Valid_2 N w = some (!(decide (0 ≤ w.brake ∧ w.brake ≤ w.mass ∧ 0 ≤ w.goods ∧ w.goods ≤ 9))) := by
  unfold consist_Valid_2
  by_cases a : w.brake < 0
  · rw [if_pos (dpos a), decide_eq_false (by omega)]; rfl
  rw [if_neg (dneg a)]
  by_cases b : w.mass < w.brake
  · rw [if_pos (dpos b), decide_eq_false (by omega)]; rfl
  rw [if_neg (dneg b)]
  by_cases c : w.goods < 0
  · rw [if_pos (dpos c), decide_eq_false (by omega)]; rfl
  rw [if_neg (dneg c), lt_def]
  by_cases d : 9 < w.goods
  · rw [decide_eq_true d, decide_eq_false (by omega)]; rfl
  · rw [decide_eq_false d, decide_eq_true (by omega)]; rfl
theorem rv1 (N : Nat) (w : Wagon) (m : Int) : r06_Valid_1 N w m = some (!(decide (m ≤ w.length ∧ w.length ≤ 400 ∧ 50 ≤ w.mass ∧ w.mass ≤ 2000 ∧ 0 ≤ w.brake ∧ w.brake ≤ w.mass ∧ 0 ≤ w.goods ∧ w.goods ≤ 9))) := by
  unfold r06_Valid_1
  by_cases a : w.length < m
  · rw [if_pos (dpos a), decide_eq_false (by omega)]; rfl
  rw [if_neg (dneg a)]
  by_cases b : 400 < w.length
  · rw [if_pos (dpos b), decide_eq_false (by omega)]; rfl
  rw [if_neg (dneg b)]
  by_cases c : w.mass < 50
  · rw [if_pos (dpos c), decide_eq_false (by omega)]; rfl
  rw [if_neg (dneg c)]
  by_cases d : 2000 < w.mass
  · rw [if_pos (dpos d), decide_eq_false (by omega)]; rfl
  rw [if_neg (dneg d)]
  by_cases a' : w.brake < 0
  · rw [if_pos (dpos a'), decide_eq_false (by omega)]; rfl
  rw [if_neg (dneg a')]
  by_cases b' : w.mass < w.brake
  · rw [if_pos (dpos b'), decide_eq_false (by omega)]; rfl
  rw [if_neg (dneg b')]
  by_cases c' : w.goods < 0
  · rw [if_pos (dpos c'), decide_eq_false (by omega)]; rfl
  rw [if_neg (dneg c'), lt_def]
  by_cases d' : 9 < w.goods
  · rw [decide_eq_true d', decide_eq_false (by omega)]; rfl
  · rw [decide_eq_false d', decide_eq_true (by omega)]; rfl

theorem wag_ok (N : Nat) (h20 : 20 ≤ N) {w : Wagon} (hw : Fu N w) : consist_Valid N w = some (wagErr w) ∧ r06_Valid N w = some (wagErr w) := by
  obtain ⟨⟨a1, a2⟩, b1, b2⟩ := hw
  obtain ⟨k1, k2⟩ := kind_ok' N h20 a1 a2
  obtain ⟨n1, n2⟩ := name_ok' N b1 b2
  unfold consist_Valid r06_Valid wagErr
  rw [k1, k2, bind_some', bind_some']
  by_cases h : numErr w.number = 0
  · have e0 : ((0 : Int) != 0) = false := rfl
    simp only [h, if_true, e0, Bool.false_eq_true, if_false, ne_eq, not_true_eq_false]
    have hl : consist_Valid_0 N 80 (kindOf w.number == 3) = some (leastOf (kindOf w.number)) := by
      unfold consist_Valid_0 leastOf
      by_cases h3 : kindOf w.number = 3 <;> simp [h3]
    have ha : consist_axles N (kindOf w.number) = some (axOf (kindOf w.number)) := by
      unfold consist_axles axOf
      rcases kindOf_range w.number with h3 | h3 | h3 | h3 <;> rw [h3] <;> rfl
    have hr : r06_Valid_0 N 4 80 (kindOf w.number) = some (axOf (kindOf w.number), leastOf (kindOf w.number)) := by
      unfold r06_Valid_0 axOf leastOf
      rcases kindOf_range w.number with h3 | h3 | h3 | h3 <;> rw [h3] <;> rfl
    rw [hl, ha, hr]
    simp only [bind_some', lt_def, pv1, pv2, rv1, n1, n2]
    by_cases hx : w.axles = axOf (kindOf w.number)
    · have e1 : (w.axles != axOf (kindOf w.number)) = false := by simpa using hx
      simp only [e1, eq_true hx, Bool.false_eq_true, if_false, not_true_eq_false]
      by_cases hi : inRg (kindOf w.number) w
      · have hi' := hi
        unfold inRg at hi'
        rw [decide_eq_true (show leastOf (kindOf w.number) ≤ w.length ∧ w.length ≤ 400 ∧ 50 ≤ w.mass ∧ w.mass ≤ 2000 by omega), decide_eq_true (show 0 ≤ w.brake ∧ w.brake ≤ w.mass ∧ 0 ≤ w.goods ∧ w.goods ≤ 9 by omega), decide_eq_true hi']
        simp only [hi, not_true_eq_false, if_false, Bool.not_true, Bool.false_eq_true]
        cases nameOk w.dest <;> exact ⟨rfl, rfl⟩
      · have hi' := hi
        unfold inRg at hi'
        rw [decide_eq_false hi']
        simp only [hi, not_false_eq_true, if_true, Bool.not_false, if_true, and_true]
        by_cases hj : leastOf (kindOf w.number) ≤ w.length ∧ w.length ≤ 400 ∧ 50 ≤ w.mass ∧ w.mass ≤ 2000
        · rw [decide_eq_true hj, decide_eq_false (by omega)]; rfl
        · rw [decide_eq_false hj]; rfl
    · have e1 : (w.axles != axOf (kindOf w.number)) = true := by simpa using hx
      simp only [e1, hx, if_true, not_false_eq_true, and_self]
  · have e0 : (numErr w.number != 0) = true := by simpa using h
    simp only [h, if_false, e0, if_true, ne_eq, not_false_eq_true, and_self]

theorem wagErr_or (w : Wagon) : wagErr w = 0 ∨ wagErr w ≠ 0 := by omega
theorem wagErr_zero {w : Wagon} (h : wagErr w = 0) : numErr w.number = 0 ∧ w.axles = axOf (kindOf w.number) ∧ inRg (kindOf w.number) w ∧ nameOk w.dest = true := by
  unfold wagErr at h
  split at h
  · rename_i h1; exact absurd h h1
  · rename_i h1
    split at h
    · cases h
    · rename_i h2
      split at h
      · cases h
      · rename_i h3
        split at h
        · rename_i h4
          exact ⟨by simpa using h1, by simpa using h2, by simpa using h3, h4⟩
        · cases h

theorem wag_ranges {w : Wagon} (h : wagErr w = 0) : (80 ≤ w.length ∧ w.length ≤ 400) ∧ (50 ≤ w.mass ∧ w.mass ≤ 2000) ∧ (2 ≤ w.axles ∧ w.axles ≤ 6) ∧ 0 ≤ w.brake ∧ w.brake ≤ w.mass := by
  obtain ⟨_, h2, h3, _⟩ := wagErr_zero h
  have hl : 80 ≤ leastOf (kindOf w.number) := by unfold leastOf; split <;> omega
  have ha : 2 ≤ axOf (kindOf w.number) ∧ axOf (kindOf w.number) ≤ 6 := by
    unfold axOf
    split
    · omega
    · split <;> omega
  unfold inRg at h3
  omega
end Go.W
