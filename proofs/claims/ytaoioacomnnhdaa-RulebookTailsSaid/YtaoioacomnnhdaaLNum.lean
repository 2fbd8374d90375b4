/- Wagon numbers: what the program's checks and the reference's say. -/
import Derived.Test.YtaoioacomnnhdaaWLib
set_option linter.unusedVariables false
set_option linter.unusedSimpArgs false
namespace Go.W
open Go.AM

/-! ### Small things -/
theorem getI_nat {α : Type} {xs : List α} {i : Nat} {x : α} (h : xs[i]? = some x) : getI xs (i : Int) = some x := by simp [getI, h]
theorem at_lt {α : Type} {xs : List α} {i : Nat} (h : i < xs.length) : xs[i]? = some xs[i] := by simp [h]
theorem drop_at {α : Type} {xs : List α} {i : Nat} {x : α} (h : xs[i]? = some x) : xs.drop i = x :: xs.drop (i + 1) := by
  obtain ⟨hlt, rfl⟩ := List.getElem?_eq_some_iff.1 h
  exact List.drop_eq_getElem_cons hlt
theorem w64s {i : Nat} (h : i < 9223372036854775807) : IntKind.wrap .i64 ((i : Int) + 1) = ((i + 1 : Nat) : Int) := by rw [w64 (by omega) (by omega)]; omega
theorem w64p {i : Nat} (h : i < 9223372036854775807) : IntKind.wrap .i64 (((i + 1 : Nat) : Int) - 1) = (i : Int) := by rw [w64 (by omega) (by omega)]; omega
theorem bne00 : ((0 : Int) != 0) = false := rfl
theorem dpos {a b : Int} (h : a < b) : decide (a < b) = true := decide_eq_true h
theorem dneg {a b : Int} (h : ¬ a < b) : ¬ decide (a < b) = true := by simpa using h
theorem lpos {a b : Int} (h : a ≤ b) : decide (a ≤ b) = true := decide_eq_true h
theorem lneg {a b : Int} (h : ¬ a ≤ b) : ¬ decide (a ≤ b) = true := by simpa using h
theorem appI_ok {α : Type} {xs ys : List α} (h : xs.length + ys.length ≤ 4294967296) : appI xs ys = some (xs ++ ys) := if_pos h
theorem cutI_drop {α : Type} {xs : List α} {i : Nat} (h : i ≤ xs.length) : cutI xs (i : Int) (xs.length : Int) = some (xs.drop i) := by
  unfold cutI; rw [if_pos (by omega)]; simp
theorem cutI_take {α : Type} {xs : List α} {i : Nat} (h : i ≤ xs.length) : cutI xs 0 (i : Int) = some (xs.take i) := by
  unfold cutI; rw [if_pos (by omega)]; simp
theorem Mk.le {c c' : Int} {s : Maker} (h : Mk c s) (hc : c ≤ c') : Mk c' s := ⟨h.1, Int.le_trans h.2 hc⟩
theorem mk0 (t : List Int) : Mk 0 (Maker.mk t 0) := ⟨by simp, by simp⟩

/-! ### Digits -/
def isDig (u : UInt8) : Bool := decide (48 ≤ u.toNat) && decide (u.toNat ≤ 57)

theorem dig1 (N : Nat) {l : List UInt8} {i : Nat} {u : UInt8} (h : l[i]? = some u) : wagonnumber_digits_1 N l i = some (!isDig u) ∧ r02_digits_1 N l i = some (!isDig u) := by
  unfold wagonnumber_digits_1 r02_digits_1 isDig
  rw [getI_nat h]
  simp only [bind_some']
  by_cases h1 : u.toNat < 48
  · rw [if_pos (by simp; omega)]; simp [show ¬ 48 ≤ u.toNat by omega]
  · rw [if_neg (by simp; omega)]
    by_cases h2 : u.toNat ≤ 57
    · simp [show 48 ≤ u.toNat by omega, h2, show ¬ (57 : Int) < u.toNat by omega]
    · simp [show 48 ≤ u.toNat by omega, h2, show (57 : Int) < u.toNat by omega]

theorem pdig_loop (N : Nat) {l : List UInt8} (hl : l.length ≤ 9223372036854775807) : ∀ (k n i : Nat), k < n → i + k = l.length →
    wagonnumber_digits_0 N l n i = some (if (l.drop i).all isDig = true then .inl () else .inr false)
  | k, 0, i, hn, _ => by omega
  | 0, n + 1, i, hn, hi => by rw [wagonnumber_digits_0, if_neg (dneg (by omega)), List.drop_eq_nil_of_le (by omega)]; rfl
  | k + 1, n + 1, i, hn, hi => by
    have hlt : i < l.length := by omega
    rw [wagonnumber_digits_0, if_pos (dpos (by omega)), (dig1 N (at_lt hlt)).1, bind_some', drop_at (at_lt hlt), lt_def, w64s (by omega), pdig_loop N hl k n (i + 1) (by omega) (by omega), List.all_cons]
    by_cases h : isDig l[i] = true
    · simp only [h, Bool.not_true, Bool.false_eq_true, if_false, Bool.true_and]
    · simp only [Bool.not_eq_true] at h
      simp only [h, Bool.not_false, if_true, Bool.false_and, Bool.false_eq_true, if_false]
theorem rdig_loop (N : Nat) {l : List UInt8} (hl : l.length ≤ 9223372036854775807) : ∀ (k n i : Nat), k < n → i + k = l.length →
    r02_digits_0 N l l.length n i = some (if (l.drop i).all isDig = true then .inl () else .inr false)
  | k, 0, i, hn, _ => by omega
  | 0, n + 1, i, hn, hi => by rw [r02_digits_0, if_neg (dneg (by omega)), List.drop_eq_nil_of_le (by omega)]; rfl
  | k + 1, n + 1, i, hn, hi => by
    have hlt : i < l.length := by omega
    rw [r02_digits_0, if_pos (dpos (by omega)), (dig1 N (at_lt hlt)).2, bind_some', drop_at (at_lt hlt), lt_def, w64s (by omega), rdig_loop N hl k n (i + 1) (by omega) (by omega), List.all_cons]
    by_cases h : isDig l[i] = true
    · simp only [h, Bool.not_true, Bool.false_eq_true, if_false, Bool.true_and]
    · simp only [Bool.not_eq_true] at h
      simp only [h, Bool.not_false, if_true, Bool.false_and, Bool.false_eq_true, if_false]

/-- Do these bytes be 'n' digits? -/
def digs (l : List UInt8) (n : Nat) : Bool := decide (l.length = n) && l.all isDig

theorem pdigits (N : Nat) {l : List UInt8} (hN : l.length < N) (hl : l.length ≤ 9223372036854775807) (n : Nat) : wagonnumber_digits N l n = some (digs l n) := by
  unfold wagonnumber_digits digs
  have := pdig_loop N hl l.length N 0 hN (by omega)
  simp only [Int.natCast_zero, List.drop_zero] at this
  rw [this, bind_some']
  by_cases h : l.all isDig = true
  · rw [if_pos h]
    simp only [lt_def, h, Bool.and_true]
    congr 1
    rw [Bool.eq_iff_iff]; simp; omega
  · rw [if_neg h]
    simp only [Bool.not_eq_true] at h
    simp only [h, Bool.and_false]
theorem rdigits (N : Nat) {l : List UInt8} (hN : l.length < N) (hl : l.length ≤ 9223372036854775807) (n : Nat) : r02_digits N l n = some (digs l n) := by
  unfold r02_digits digs
  by_cases hn : l.length = n
  · subst hn
    rw [if_neg (by simp)]
    have := rdig_loop N hl l.length N 0 hN (by omega)
    simp only [Int.natCast_zero, List.drop_zero] at this
    rw [this, bind_some']
    by_cases h : l.all isDig = true
    · rw [if_pos h]; simp [h]
    · rw [if_neg h]
      simp only [Bool.not_eq_true] at h
      simp [h]
  · rw [if_pos (by simp; omega)]
    simp [hn]

/-! ### Sums -/
/-- What a digit counts: every other one is doubled, and its digits are added. -/
def dv (u : UInt8) (b : Bool) : Int := if b then (if 9 < 2 * ((u.toNat : Int) - 48) then 2 * ((u.toNat : Int) - 48) - 9 else 2 * ((u.toNat : Int) - 48)) else (u.toNat : Int) - 48
def sumD : List UInt8 → Bool → Int
  | [], _ => 0
  | u :: l, b => dv u b + sumD l (!b)

theorem isDig_iff {u : UInt8} : isDig u = true ↔ 48 ≤ u.toNat ∧ u.toNat ≤ 57 := by simp [isDig]
theorem dv_bound {u : UInt8} (h : isDig u = true) (b : Bool) : 0 ≤ dv u b ∧ dv u b ≤ 9 := by
  rw [isDig_iff] at h
  unfold dv
  cases b with
  | false => simp only [Bool.false_eq_true, if_false]; omega
  | true => simp only [if_true]; split <;> omega
theorem sumD_bound : ∀ {l : List UInt8} (b : Bool), l.all isDig = true → 0 ≤ sumD l b ∧ sumD l b ≤ 9 * l.length
  | [], b, _ => by simp [sumD]
  | u :: l, b, h => by
    simp only [List.all_cons, Bool.and_eq_true] at h
    have h1 := dv_bound h.1 b
    have h2 := sumD_bound (l := l) (!b) h.2
    simp only [sumD, List.length_cons]
    omega

theorem sum1 (N : Nat) {d : Int} (b : Bool) (h : 0 ≤ d ∧ d ≤ 9) : wagonnumber_sum_1 N d b = some (if b then (if 9 < 2 * d then 2 * d - 9 else 2 * d) else d) ∧ r02_sum_1 N d b = some (if b then (if 9 < 2 * d then 2 * d - 9 else 2 * d) else d) := by
  unfold wagonnumber_sum_1 r02_sum_1
  cases b with
  | false => exact ⟨rfl, rfl⟩
  | true =>
    simp only [if_true, lt_def]
    rw [w64 (n := d * 2) (by omega) (by omega), Int.mul_comm d 2]
    by_cases h9 : 9 < 2 * d
    · rw [if_pos (dpos h9), if_pos h9, w64 (by omega) (by omega)]; exact ⟨rfl, rfl⟩
    · rw [if_neg (dneg h9), if_neg h9]; exact ⟨rfl, rfl⟩

theorem par (i : Nat) : ((Int.tmod (i : Int) 2) == 0) = decide (i % 2 = 0) := by
  rw [Int.tmod_eq_emod_of_nonneg (by omega), Bool.eq_iff_iff]
  simp; omega
theorem par_s (i : Nat) : decide ((i + 1) % 2 = 0) = !decide (i % 2 = 0) := by
  by_cases h : i % 2 = 0
  · simp [h]; omega
  · simp [h]; omega

theorem sum_loop' (N : Nat) {l : List UInt8} (m : Nat) (hm : m ≤ l.length) (hl : m ≤ 100) (hd : (l.take m).all isDig = true) : ∀ (k n i : Nat) (s : Int), k < n → i + k = m → 0 ≤ s → s ≤ 9 * i →
    r02_sum_0 N l m n s i = some (s + sumD ((l.take m).drop i) (decide (i % 2 = 0))) ∧ (m = l.length → wagonnumber_sum_0 N l n s i = some (s + sumD ((l.take m).drop i) (decide (i % 2 = 0))))
  | k, 0, i, s, hn, _, _, _ => by omega
  | 0, n + 1, i, s, hn, hi, _, _ => by
    rw [r02_sum_0, wagonnumber_sum_0, if_neg (dneg (by omega)), List.drop_eq_nil_of_le (by rw [List.length_take]; omega)]
    refine ⟨by simp [sumD], fun h => ?_⟩
    rw [if_neg (dneg (by omega))]; simp [sumD]
  | k + 1, n + 1, i, s, hn, hi, h0, h9 => by
    have hlt : i < l.length := by omega
    have hg : (l.take m)[i]? = some l[i] := by rw [List.getElem?_take, if_pos (by omega)]; exact at_lt hlt
    have hdi : isDig l[i] = true := List.all_eq_true.1 hd _ (List.mem_of_getElem? hg)
    have hb := isDig_iff.1 hdi
    have e1 : IntKind.wrap .i64 (IntKind.wrap .u8 ((UInt8.toNat l[i] : Int) - 48)) = (l[i].toNat : Int) - 48 := by rw [w8 (by omega) (by omega), w64 (by omega) (by omega)]
    obtain ⟨s1, s2⟩ := sum1 N (d := (l[i].toNat : Int) - 48) (decide (i % 2 = 0)) (by omega)
    have hv : (if decide (i % 2 = 0) = true then (if 9 < 2 * ((l[i].toNat : Int) - 48) then 2 * ((l[i].toNat : Int) - 48) - 9 else 2 * ((l[i].toNat : Int) - 48)) else (l[i].toNat : Int) - 48) = dv l[i] (decide (i % 2 = 0)) := rfl
    rw [hv] at s1 s2
    have hdv := dv_bound hdi (decide (i % 2 = 0))
    have e2 : IntKind.wrap .i64 (s + dv l[i] (decide (i % 2 = 0))) = s + dv l[i] (decide (i % 2 = 0)) := w64 (by omega) (by omega)
    obtain ⟨i1, i2⟩ := sum_loop' N m hm hl hd k n (i + 1) (s + dv l[i] (decide (i % 2 = 0))) (by omega) (by omega) (by omega) (by omega)
    have hdrop : (l.take m).drop i = l[i] :: (l.take m).drop (i + 1) := drop_at hg
    constructor
    · rw [r02_sum_0, if_pos (dpos (by omega)), getI_nat (at_lt hlt), bind_some', lt_def, e1, par, s2, bind_some', lt_def, e2, lt_def, w64s (by omega), i1, hdrop, sumD, par_s]
      congr 1; omega
    · intro h
      rw [wagonnumber_sum_0, if_pos (dpos (by omega)), getI_nat (at_lt hlt), bind_some', lt_def, e1, par, s1, bind_some', lt_def, e2, lt_def, w64s (by omega), i2 h, hdrop, sumD, par_s]
      congr 1; omega

/-! ### Valid numbers -/
/-- The error of a number. -/
def numErr (l : List UInt8) : Int :=
  if digs l 12 = true then (if (sumD (l.take 11) true + (((l[11]?).map fun u => (u.toNat : Int) - 48).getD 0)) % 10 = 0 then 0 else 9) else 11

theorem numErr_ok (N : Nat) (h20 : 20 ≤ N) {l : List UInt8} (hN : l.length < N) (hl : l.length ≤ 9223372036854775807) : wagonnumber_Valid N l = some (numErr l) ∧ r02_Valid N l = some (numErr l) := by
  unfold wagonnumber_Valid r02_Valid numErr
  have hp := pdigits N hN hl 12
  have hr := rdigits N hN hl 12
  rw [show ((12 : Nat) : Int) = 12 from rfl] at hp hr
  rw [hp, hr, bind_some', bind_some']
  by_cases hd : digs l 12 = true
  · rw [hd]
    simp only [Bool.not_true, Bool.false_eq_true, if_false, if_true]
    simp only [digs, Bool.and_eq_true, decide_eq_true_eq] at hd
    obtain ⟨h12, hall⟩ := hd
    have h11 : l[11]? = some l[11] := at_lt (by omega)
    have hg : getI l 11 = some l[11] := getI_nat (i := 11) h11
    have hdi : isDig l[11] = true := List.all_eq_true.1 hall _ (List.getElem_mem (by omega))
    have hb := isDig_iff.1 hdi
    have htk : (l.take 11).all isDig = true := by
      rw [List.all_eq_true] at hall ⊢
      exact fun x hx => hall x (List.mem_of_mem_take hx)
    have hlt : (l.take 11).length = 11 := by rw [List.length_take]; omega
    have hcut : cutI l 0 11 = some (l.take 11) := cutI_take (i := 11) (by omega)
    obtain ⟨_, g1⟩ := sum_loop' N (l := l.take 11) 11 (by omega) (by omega) (by rw [List.take_of_length_le (by omega)]; exact htk) 11 N 0 0 (by omega) (by omega) (by omega) (by omega)
    obtain ⟨g2, _⟩ := sum_loop' N (l := l) 11 (by omega) (by omega) htk 11 N 0 0 (by omega) (by omega) (by omega) (by omega)
    have g1 := g1 hlt.symm
    rw [List.take_of_length_le (l := l.take 11) (by omega)] at g1
    simp only [Int.natCast_zero, List.drop_zero, Int.zero_add, Nat.zero_mod, decide_true] at g1 g2
    have hs := sumD_bound (l := l.take 11) true htk
    rw [hlt] at hs
    have e1 : IntKind.wrap .i64 (IntKind.wrap .u8 ((UInt8.toNat l[11] : Int) - 48)) = (l[11].toNat : Int) - 48 := by rw [w8 (by omega) (by omega), w64 (by omega) (by omega)]
    have hS : ∃ S, S = sumD (l.take 11) true := ⟨_, rfl⟩
    obtain ⟨S, hS⟩ := hS
    rw [← hS] at g1 g2 hs ⊢
    have t1 : Int.tmod S 10 = S % 10 := Int.tmod_eq_emod_of_nonneg (by omega)
    have e2 : Int.tmod (IntKind.wrap .i64 (10 - Int.tmod S 10)) 10 = (10 - S % 10) % 10 := by
      rw [t1, w64 (by omega) (by omega), Int.tmod_eq_emod_of_nonneg (by omega)]
    have e3 : Int.tmod (IntKind.wrap .i64 (S + ((l[11].toNat : Int) - 48))) 10 = (S + ((l[11].toNat : Int) - 48)) % 10 := by
      rw [w64 (by omega) (by omega), Int.tmod_eq_emod_of_nonneg (by omega)]
    rw [h11]
    simp only [Option.map_some, Option.getD_some]
    constructor
    · rw [hg, bind_some', hcut, bind_some']
      unfold wagonnumber_check wagonnumber_sum
      rw [g1, bind_some', bind_some', lt_def, bind_some', e1, e2]
      by_cases h : (S + ((l[11].toNat : Int) - 48)) % 10 = 0
      · rw [if_neg (by simp; omega), if_pos h]
      · rw [if_pos (by simp; omega), if_neg h]
    · unfold r02_sum
      rw [show (11 : Int) = ((11 : Nat) : Int) from rfl, g2, bind_some', bind_some', show ((11 : Nat) : Int) = 11 from rfl, hg, bind_some', e1, e3]
      by_cases h : (S + ((l[11].toNat : Int) - 48)) % 10 = 0
      · rw [if_neg (by simp [h]), if_pos h]
      · rw [if_pos (by simp [h]), if_neg h]
  · simp only [Bool.not_eq_true] at hd
    rw [hd]
    simp

/-- The kind that a number's fifth digit tells. -/
def kindOf (l : List UInt8) : Int := match l[4]? with
  | some u => if u.toNat = 55 ∨ u.toNat = 56 then 1 else if u.toNat = 50 ∨ u.toNat = 52 then 2 else if u.toNat = 57 then 3 else 0
  | none => 0

theorem kindOf_range (l : List UInt8) : kindOf l = 0 ∨ kindOf l = 1 ∨ kindOf l = 2 ∨ kindOf l = 3 := by
  unfold kindOf
  split
  · split
    · simp
    · split
      · simp
      · split <;> simp
  · simp

theorem numErr_len {l : List UInt8} (h : numErr l = 0) : l.length = 12 ∧ l.all isDig = true := by
  unfold numErr at h
  split at h
  · rename_i hd
    simpa [digs] using hd
  · cases h
theorem numErr_or (l : List UInt8) : numErr l = 0 ∨ numErr l = 9 ∨ numErr l = 11 := by
  unfold numErr
  split
  · split <;> simp
  · simp

theorem kind_ok' (N : Nat) (h20 : 20 ≤ N) {l : List UInt8} (hN : l.length < N) (hl : l.length ≤ 9223372036854775807) : wagonnumber_Kind N l = some (if numErr l = 0 then (kindOf l, 0) else (0, numErr l)) ∧ r02_Kind N l = some (if numErr l = 0 then (kindOf l, 0) else (0, numErr l)) := by
  obtain ⟨h1, h2⟩ := numErr_ok N h20 hN hl
  unfold wagonnumber_Kind r02_Kind
  rw [h1, h2, bind_some', bind_some']
  by_cases h : numErr l = 0
  · have hlen := (numErr_len h).1
    have h4 : l[4]? = some l[4] := at_lt (by omega)
    have hg : getI l 4 = some l[4] := getI_nat (i := 4) h4
    have e0 : ((0 : Int) != 0) = false := rfl
    rw [h, hg]
    simp only [e0, Bool.false_eq_true, if_false, if_true, bind_some', lt_def]
    unfold wagonnumber_Kind_0 wagonnumber_Kind_1 r02_Kind_0 r02_Kind_1 kindOf
    rw [h4]
    simp only [lt_def]
    generalize l[4].toNat = t
    by_cases a : t = 55
    · subst a; exact ⟨rfl, rfl⟩
    by_cases b : t = 56
    · subst b; exact ⟨rfl, rfl⟩
    by_cases c : t = 50
    · subst c; exact ⟨rfl, rfl⟩
    by_cases d : t = 52
    · subst d; exact ⟨rfl, rfl⟩
    by_cases e : t = 57
    · subst e; exact ⟨rfl, rfl⟩
    have a' : ((t : Int) == 55) = false := by simp; omega
    have b' : ((t : Int) == 56) = false := by simp; omega
    have c' : ((t : Int) == 50) = false := by simp; omega
    have d' : ((t : Int) == 52) = false := by simp; omega
    have e' : ((t : Int) == 57) = false := by simp; omega
    simp [a, b, c, d, e, a', b', c', d', e', bind_some']
  · have e0 : (numErr l != 0) = true := by simpa using h
    simp only [e0, h, if_true, if_false]
    exact ⟨trivial, trivial⟩
end Go.W
