/- Trains: the sums of lengths, axles, masses and braked masses. -/
import Derived.Test.YtaoioacomnnhdaaLGen
set_option linter.unusedVariables false
set_option linter.unusedSimpArgs false
set_option maxRecDepth 100000
namespace Go.W
open Go.AM

def inB (x lo hi : Int) : Bool := decide (lo ≤ x) && decide (x ≤ hi)
theorem inB_iff {x lo hi : Int} : inB x lo hi = true ↔ lo ≤ x ∧ x ≤ hi := by simp [inB]
theorem in_ok (N : Nat) (x lo hi : Int) : brake_in N x lo hi = some (inB x lo hi) := by
  unfold brake_in brake_in_0 inB
  by_cases h : lo ≤ x <;> simp [h, lt_def, bind_some']

/-! ### Factors -/
def factor (x : Int) : Int := if x ≤ 5000 then 100 else if 7000 < x then 80 else 100 - (x - 5000 + 99) / 100
theorem factor_bound (x : Int) : 80 ≤ factor x ∧ factor x ≤ 100 := by
  unfold factor
  split
  · omega
  · split <;> omega
theorem factor_ok (N : Nat) (x : Int) : brake_Factor N x = some (factor x) ∧ r35_Factor N x = some (factor x) := by
  unfold brake_Factor r35_Factor factor
  by_cases h1 : x ≤ 5000
  · rw [if_pos (lpos h1), if_pos (lpos h1), if_pos h1]; exact ⟨rfl, rfl⟩
  · rw [if_neg (lneg h1), if_neg (lneg h1), if_neg h1]
    have key : ∀ y : Int, 5000 < y → y ≤ 10000 → IntKind.wrap .i64 (100 - IntKind.wrap .i64 (Int.tdiv (IntKind.wrap .i64 (IntKind.wrap .i64 (y - 5000) + 99)) 100)) = 100 - (y - 5000 + 99) / 100 := by
      intro y h2 h3
      rw [w64 (n := y - 5000) (by omega) (by omega), w64 (n := y - 5000 + 99) (by omega) (by omega), Int.tdiv_eq_ediv_of_nonneg (by omega), w64 (n := (y - 5000 + 99) / 100) (by omega) (by omega), w64 (by omega) (by omega)]
    constructor
    · by_cases h2 : 10000 < x
      · rw [if_pos (dpos h2), if_pos (by omega)]
      · rw [if_neg (dneg h2), lt_def, key x (by omega) (by omega)]
        by_cases h3 : 7000 < x
        · rw [if_pos h3]; congr 1; omega
        · rw [if_neg h3]; congr 1; omega
    · by_cases h3 : 7000 < x
      · rw [if_pos (dpos h3), if_pos h3]
      · rw [if_neg (dneg h3), lt_def, key x (by omega) (by omega), if_neg h3]

/-! ### Brakes that are cut off -/
theorem off_loop (N : Nat) {l : List Int} (hl : l.length ≤ 1000) (x : Int) : ∀ (k n i : Nat), k < n → i + k = l.length → r35_Off_0 N l x n i = some (if x ∈ l.drop i then .inr true else .inl ())
  | k, 0, i, hn, _ => by omega
  | 0, n + 1, i, hn, hi => by rw [r35_Off_0, if_neg (dneg (by omega)), List.drop_eq_nil_of_le (by omega)]; rfl
  | k + 1, n + 1, i, hn, hi => by
    have hlt : i < l.length := by omega
    rw [r35_Off_0, if_pos (dpos (by omega)), getI_nat (at_lt hlt), bind_some', drop_at (at_lt hlt), lt_def, w64s (by omega), off_loop N hl x k n (i + 1) (by omega) (by omega)]
    by_cases h : l[i] = x
    · rw [if_pos (by simpa using h), if_pos (by simp [h])]
    · have h' : ¬ x = l[i] := fun e => h e.symm
      rw [if_neg (by simpa using h)]
      simp only [List.mem_cons, h', false_or]
theorem off_ok (N : Nat) {l : List Int} (hl : l.length ≤ 1000) (hN : 1001 ≤ N) (x : Int) : r35_Off N l x = some (decide (x ∈ l)) := by
  have := off_loop N hl x l.length N 0 (by omega) (by omega)
  simp only [Int.natCast_zero, List.drop_zero] at this
  unfold r35_Off
  rw [this]
  by_cases h : x ∈ l <;> simp [h, bind_some']

/-- The error of a list of cut brakes of a train of 'n' wagons. -/
def offErr (n : Nat) (off : List Int) : Int := if off.all (fun o => inB o 0 ((n : Int) - 1)) = true then (if off.Nodup then 0 else 8) else 2

theorem rng_loop (N : Nat) {l : List Wagon} (hl : l.length ≤ 1000) {off : List Int} (ho : off.length ≤ 1000) (b : Brakes) : ∀ (k n i : Nat), k < n → i + k = off.length →
    brake_Total_0 N l off off.length n b i = some (if (off.drop i).all (fun o => inB o 0 ((l.length : Int) - 1)) = true then .inl b else .inr (Brakes.mk 0 0 0 0 0 0 0, 2)) ∧
    r35_Total_0 N l off n b i = some (if (off.drop i).all (fun o => inB o 0 ((l.length : Int) - 1)) = true then .inl b else .inr (Brakes.mk 0 0 0 0 0 0 0, 2))
  | k, 0, i, hn, _ => by omega
  | 0, n + 1, i, hn, hi => by
    rw [brake_Total_0, r35_Total_0, if_neg (dneg (by omega)), if_neg (dneg (by omega)), List.drop_eq_nil_of_le (by omega)]; exact ⟨rfl, rfl⟩
  | k + 1, n + 1, i, hn, hi => by
    have hlt : i < off.length := by omega
    obtain ⟨h1, h2⟩ := rng_loop N hl ho b k n (i + 1) (by omega) (by omega)
    have hw : IntKind.wrap .i64 ((l.length : Int) - 1) = (l.length : Int) - 1 := w64 (by omega) (by omega)
    have hr : r35_Total_1 N l off i = some (!inB off[i] 0 ((l.length : Int) - 1)) := by
      unfold r35_Total_1 inB
      rw [getI_nat (at_lt hlt)]
      simp only [bind_some']
      by_cases a : off[i] < 0
      · rw [if_pos (dpos a), decide_eq_false (show ¬ 0 ≤ off[i] by omega)]; rfl
      · rw [if_neg (dneg a), decide_eq_true (show 0 ≤ off[i] by omega)]
        by_cases b : (l.length : Int) ≤ off[i]
        · rw [decide_eq_true b, decide_eq_false (show ¬ off[i] ≤ (l.length : Int) - 1 by omega)]; rfl
        · rw [decide_eq_false b, decide_eq_true (show off[i] ≤ (l.length : Int) - 1 by omega)]; rfl
    rw [brake_Total_0, r35_Total_0, if_pos (dpos (by omega)), if_pos (dpos (by omega)), getI_nat (at_lt hlt), bind_some', hw, in_ok, hr, bind_some', bind_some', drop_at (at_lt hlt), lt_def, w64s (by omega), h1, h2, List.all_cons]
    by_cases h : inB off[i] 0 ((l.length : Int) - 1) = true
    · simp only [h, Bool.not_true, Bool.false_eq_true, if_false, Bool.true_and, and_self]
    · simp only [Bool.not_eq_true] at h
      simp only [h, Bool.not_false, if_true, Bool.false_and, Bool.false_eq_true, if_false, and_self]

/-- The marks of the brakes that are cut off. -/
def Marks (c : List Bool) (n : Nat) (off : List Int) : Prop := c.length = n ∧ ∀ j : Nat, j < n → c[j]? = some (decide ((j : Int) ∈ off))

theorem dup_loop (N : Nat) {off : List Int} (ho : off.length ≤ 1000) {m : Nat} (hr : ∀ o ∈ off, 0 ≤ o ∧ o ≤ (m : Int) - 1) (b : Brakes) : ∀ (k n i : Nat) (c : List Bool), k < n → i + k = off.length → (off.take i).Nodup → Marks c m (off.take i) →
    ∃ c', brake_Total_1 N off off.length n b c i = some (if off.Nodup then .inl (b, c') else .inr (Brakes.mk 0 0 0 0 0 0 0, 8)) ∧ (off.Nodup → Marks c' m off)
  | k, 0, i, c, hn, _, _, _ => by omega
  | 0, n + 1, i, c, hn, hi, hd, hm => by
    rw [brake_Total_1, if_neg (dneg (by omega))]
    rw [List.take_of_length_le (by omega)] at hd hm
    exact ⟨c, by rw [if_pos hd], fun _ => hm⟩
  | k + 1, n + 1, i, c, hn, hi, hd, hm => by
    have hlt : i < off.length := by omega
    obtain ⟨h0, h1⟩ := hr _ (List.getElem_mem hlt)
    obtain ⟨j, hj⟩ := Int.eq_ofNat_of_zero_le h0
    have hjm : j < m := by omega
    have hg := hm.2 j hjm
    have htk : off.take (i + 1) = off.take i ++ [off[i]] := List.take_succ_eq_append_getElem hlt
    rw [brake_Total_1, if_pos (dpos (by omega)), getI_nat (at_lt hlt), bind_some', hj, getI_nat hg]
    simp only [bind_some']
    by_cases hmem : (j : Int) ∈ off.take i
    · rw [if_pos (by simpa using hmem)]
      have hnd : ¬ off.Nodup := by
        intro h
        have h2 : (off.take (i + 1)).Nodup := List.Nodup.sublist (List.take_sublist _ _) h
        rw [htk, List.nodup_append] at h2
        exact h2.2.2 _ hmem _ (by simp) hj.symm
      exact ⟨c, by rw [if_neg hnd], fun h => absurd h hnd⟩
    · rw [if_neg (by simpa using hmem), lt_def, Int.toNat_natCast, w64s (by omega)]
      refine dup_loop N ho hr b k n (i + 1) (c.set j true) (by omega) (by omega) ?_ ⟨by simp [hm.1], fun q hq => ?_⟩
      · rw [htk, List.nodup_append]
        refine ⟨hd, by simp, fun x hx y hy => ?_⟩
        simp at hy
        subst hy
        rw [hj]
        intro e; subst e; exact hmem hx
      · rw [htk, List.getElem?_set]
        by_cases hq' : j = q
        · subst hq'
          rw [if_pos rfl, if_pos (by rw [hm.1]; exact hq)]
          simp [hj]
        · rw [if_neg hq', hm.2 q hq]
          congr 1
          rw [decide_eq_decide, hj]
          simp only [List.mem_append, List.mem_singleton]
          constructor
          · exact .inl
          · rintro (h | h)
            · exact h
            · omega

theorem rdup2_loop (N : Nat) (hN : 1001 ≤ N) {off : List Int} (ho : off.length ≤ 1000) (b : Brakes) : ∀ (k n i : Nat), k < n → i + k = off.length → (off.take i).Nodup →
    r35_Total_2 N off n b i = some (if off.Nodup then .inl b else .inr (Brakes.mk 0 0 0 0 0 0 0, 8))
  | k, 0, i, hn, _, _ => by omega
  | 0, n + 1, i, hn, hi, hd => by
    rw [r35_Total_2, if_neg (dneg (by omega))]
    rw [List.take_of_length_le (by omega)] at hd
    rw [if_pos hd]
  | k + 1, n + 1, i, hn, hi, hd => by
    have hlt : i < off.length := by omega
    have htk : off.take (i + 1) = off.take i ++ [off[i]] := List.take_succ_eq_append_getElem hlt
    rw [r35_Total_2, if_pos (dpos (by omega)), cutI_take (by omega), bind_some', getI_nat (at_lt hlt), bind_some', off_ok N (by rw [List.length_take]; omega) hN, bind_some']
    by_cases hmem : off[i] ∈ off.take i
    · rw [if_pos (by simpa using hmem), if_neg ?_]
      intro h
      have h2 : (off.take (i + 1)).Nodup := List.Nodup.sublist (List.take_sublist _ _) h
      rw [htk, List.nodup_append] at h2
      exact h2.2.2 _ hmem _ (by simp) rfl
    · rw [if_neg (by simpa using hmem), lt_def, w64s (by omega)]
      refine rdup2_loop N hN ho b k n (i + 1) (by omega) (by omega) ?_
      rw [htk, List.nodup_append]
      refine ⟨hd, by simp, fun x hx y hy => ?_⟩
      simp at hy
      subst hy
      intro e; subst e; exact hmem hx

/-- The braked mass of the wagons from number 'i' on. -/
def brk (off : List Int) : Nat → List Wagon → Int
  | _, [] => 0
  | i, w :: l => (if (i : Int) ∈ off then 0 else w.brake) + brk off (i + 1) l
theorem brk_bound {off : List Int} : ∀ {l : List Wagon} {i : Nat}, (∀ w ∈ l, 0 ≤ w.brake ∧ w.brake ≤ w.mass ∧ w.mass ≤ 2000) → 0 ≤ brk off i l ∧ brk off i l ≤ sumL (·.mass) l ∧ brk off i l ≤ 2000 * l.length
  | [], i, _ => by simp [brk, sumL]
  | w :: l, i, h => by
    have h1 := h w (by simp)
    have h2 := brk_bound (off := off) (l := l) (i := i + 1) fun x hx => h x (by simp [hx])
    simp only [brk, sumL_cons, List.length_cons]
    split <;> omega

theorem brk_loop (N : Nat) (hN : 1001 ≤ N) {l : List Wagon} (hl : l.length ≤ 100) (hv : ∀ w ∈ l, 0 ≤ w.brake ∧ w.brake ≤ w.mass ∧ w.mass ≤ 2000) {off : List Int} (ho : off.length ≤ 1000) {c : List Bool} (hm : Marks c l.length off) (x : Brakes) : ∀ (k n i : Nat) (s : Int), k < n → i + k = l.length → 0 ≤ s → s ≤ 2000 * i →
    brake_Total_2 N c l l.length n { x with braked := s } i = some { x with braked := s + brk off i (l.drop i) } ∧ r35_Total_3 N l off n { x with braked := s } i = some { x with braked := s + brk off i (l.drop i) }
  | k, 0, i, s, hn, _, _, _ => by omega
  | 0, n + 1, i, s, hn, hi, _, _ => by
    rw [brake_Total_2, r35_Total_3, if_neg (dneg (by omega)), if_neg (dneg (by omega)), List.drop_eq_nil_of_le (by omega)]
    simp [brk]
  | k + 1, n + 1, i, s, hn, hi, h0, h1 => by
    have hlt : i < l.length := by omega
    have hb := hv _ (List.getElem_mem hlt)
    have hp : brake_Total_3 N c { x with braked := s } l i = some { x with braked := s + (if (i : Int) ∈ off then 0 else l[i].brake) } := by
      unfold brake_Total_3
      rw [getI_nat (at_lt hlt), bind_some', getI_nat (hm.2 i hlt), bind_some']
      by_cases h : (i : Int) ∈ off
      · simp [h]
      · simp only [h, decide_false, Bool.not_false, if_true, if_false]
        rw [w64 (n := s + l[i].brake) (by omega) (by omega)]
    have hr : r35_Total_4 N l off { x with braked := s } i = some { x with braked := s + (if (i : Int) ∈ off then 0 else l[i].brake) } := by
      unfold r35_Total_4
      rw [off_ok N ho hN, bind_some']
      by_cases h : (i : Int) ∈ off
      · simp [h]
      · simp only [h, decide_false, Bool.not_false, if_true, if_false, getI_nat (at_lt hlt), bind_some']
        rw [w64 (n := s + l[i].brake) (by omega) (by omega)]
    obtain ⟨i1, i2⟩ := brk_loop N hN hl hv ho hm x k n (i + 1) (s + (if (i : Int) ∈ off then 0 else l[i].brake)) (by omega) (by omega) (by split <;> omega) (by split <;> omega)
    rw [brake_Total_2, r35_Total_3, if_pos (dpos (by omega)), if_pos (dpos (by omega)), hp, hr, bind_some', bind_some', lt_def, w64s (by omega), i1, i2, drop_at (at_lt hlt)]
    simp only [brk, Int.add_assoc, and_self]

/-- What 'Total' answers. -/
def tot (l : List Wagon) (off : List Int) : Brakes × Int :=
  if listErr l ≠ 0 then (Brakes.mk 0 0 0 0 0 0 0, listErr l) else if offErr l.length off ≠ 0 then (Brakes.mk 0 0 0 0 0 0 0, offErr l.length off)
  else (Brakes.mk (sumL (·.length) l) (sumL (·.axles) l) (sumL (·.mass) l) (brk off 0 l * factor (sumL (·.length) l) / 100)
    (if 0 < sumL (·.mass) l then 100 * (brk off 0 l * factor (sumL (·.length) l) / 100) / sumL (·.mass) l else 0) 0 0, 0)

theorem mass_pos {l : List Wagon} (h : listErr l = 0) : 50 * (l.length : Int) ≤ sumL (·.mass) l ∧ sumL (·.mass) l ≤ 2000 * l.length := by
  obtain ⟨_, hz, _⟩ := listErr_zero.1 h
  exact sumL_bound fun w hw => (wag_ranges (hz w hw)).2.1

theorem tot_ok (N : Nat) (hN : 1001 ≤ N) {l : List Wagon} (hF : l.length ≤ 96 → ∀ w ∈ l, Fu N w) {off : List Int} (ho : off.length ≤ 1000) : brake_Total N l off = some (tot l off) ∧ r35_Total N l off = some (tot l off) := by
  obtain ⟨h1, h2⟩ := total_ok N (by omega) hF
  unfold brake_Total r35_Total tot
  rw [h1, h2]
  simp only [bind_some']
  unfold totals
  by_cases he : listErr l = 0
  · obtain ⟨hl96, hz, _⟩ := listErr_zero.1 he
    have hv : ∀ w ∈ l, 0 ≤ w.brake ∧ w.brake ≤ w.mass ∧ w.mass ≤ 2000 := fun w hw => by have := wag_ranges (hz w hw); omega
    have hmk : mkI false (l.length : Int) = some (List.replicate l.length false) := by
      unfold mkI; rw [if_pos (by omega)]; simp
    obtain ⟨r1, r2⟩ := rng_loop N (l := l) (by omega) ho (Brakes.mk 0 0 0 0 0 0 0) off.length N 0 (by omega) (by omega)
    simp only [Int.natCast_zero, List.drop_zero] at r1 r2
    simp only [he, if_true, bne00, Bool.false_eq_true, if_false, hmk, bind_some', r1, r2, ne_eq, not_true_eq_false]
    unfold offErr
    by_cases hr : off.all (fun o => inB o 0 ((l.length : Int) - 1)) = true
    · have hr' : ∀ o ∈ off, 0 ≤ o ∧ o ≤ (l.length : Int) - 1 := fun o hm => inB_iff.1 (List.all_eq_true.1 hr o hm)
      obtain ⟨c, d1, d2⟩ := dup_loop N ho hr' (Brakes.mk 0 0 0 0 0 0 0) off.length N 0 (List.replicate l.length false) (by omega) (by omega) (by simp) ⟨by simp, fun j hj => by simp [hj]⟩
      have d3 := rdup2_loop N hN ho (Brakes.mk 0 0 0 0 0 0 0) off.length N 0 (by omega) (by omega) (by simp)
      simp only [Int.natCast_zero] at d1 d3
      simp only [hr, if_true, d1, d3, bind_some']
      by_cases hd : off.Nodup
      · obtain ⟨b1, b2⟩ := brk_loop N hN (l := l) (by omega) hv ho (d2 hd) (Brakes.mk (sumL (·.length) l) (sumL (·.axles) l) (sumL (·.mass) l) 0 0 0 0) l.length N 0 0 (by omega) (by omega) (by omega) (by omega)
        simp only [Int.natCast_zero, List.drop_zero, Int.zero_add] at b1 b2
        have hb := brk_bound (off := off) (i := 0) hv
        have hm := mass_pos he
        obtain ⟨f1, f2⟩ := factor_ok N (sumL (·.length) l)
        have hf := factor_bound (sumL (·.length) l)
        simp only [hd, if_true, b1, b2, f1, f2, bind_some', not_true_eq_false, if_false]
        generalize hB : brk off 0 l = B at hb ⊢
        generalize hFf : factor (sumL (·.length) l) = f at hf ⊢
        generalize hM : sumL (·.mass) l = M at hb hm ⊢
        have hBf : 0 ≤ B * f ∧ B * f ≤ 20000000 := by
          refine ⟨Int.mul_nonneg (by omega) (by omega), ?_⟩
          have : B * f ≤ 192000 * 100 := Int.mul_le_mul (by omega) (by omega) (by omega) (by omega)
          omega
        have e1 : IntKind.wrap .i64 (Int.tdiv (IntKind.wrap .i64 (B * f)) 100) = B * f / 100 := by
          rw [w64 (n := B * f) (by omega) (by omega), Int.tdiv_eq_ediv_of_nonneg hBf.1, w64 (by omega) (by omega)]
        rw [e1]
        generalize hC : B * f / 100 = C
        have hCb : 0 ≤ C ∧ C ≤ 200000 := by omega
        unfold brake_Total_4 r35_Total_5
        by_cases hpos : 0 < M
        · have e2 : divI (IntKind.wrap .i64 (100 * C)) M = some (100 * C / M) := by
            unfold divI
            rw [if_neg (by omega), w64 (by omega) (by omega), Int.tdiv_eq_ediv_of_nonneg (by omega)]
          have hq : 0 ≤ 100 * C / M ∧ 100 * C / M ≤ 20000000 := by
            refine ⟨Int.ediv_nonneg (by omega) (by omega), ?_⟩
            have := Int.ediv_le_self M (show 0 ≤ 100 * C by omega)
            omega
          simp only [hpos, decide_true, if_true, e2, bind_some']
          rw [w64 (n := 100 * C / M) (by omega) (by omega)]
          exact ⟨rfl, rfl⟩
        · simp only [hpos, decide_false, Bool.false_eq_true, if_false, bind_some', and_self]
      · simp only [hd, if_false]
        exact ⟨rfl, rfl⟩
    · simp only [hr, if_false]
      exact ⟨rfl, rfl⟩
  · have e0 : (listErr l != 0) = true := by simpa using he
    simp only [he, if_false, e0, if_true, ne_eq, not_false_eq_true, and_self]

theorem tot_bound {l : List Wagon} {off : List Int} (h : (tot l off).2 = 0) : listErr l = 0 ∧ offErr l.length off = 0 ∧ 0 ≤ (tot l off).1.mass ∧ (tot l off).1.mass ≤ 192000 ∧ 0 ≤ (tot l off).1.braked ∧ (tot l off).1.braked ≤ 192000 := by
  unfold tot at h ⊢
  split at h
  · rename_i h1; exact absurd h h1
  · rename_i h1
    split at h
    · rename_i h2; exact absurd h h2
    · rename_i h2
      have he : listErr l = 0 := by simpa using h1
      obtain ⟨hl96, hz, _⟩ := listErr_zero.1 he
      have hv : ∀ w ∈ l, 0 ≤ w.brake ∧ w.brake ≤ w.mass ∧ w.mass ≤ 2000 := fun w hw => by have := wag_ranges (hz w hw); omega
      have hb := brk_bound (off := off) (i := 0) hv
      have hm := mass_pos he
      have hf := factor_bound (sumL (·.length) l)
      refine ⟨he, by simpa using h2, ?_⟩
      rw [if_neg h1, if_neg h2]
      simp only []
      generalize brk off 0 l = B at hb ⊢
      generalize factor (sumL (·.length) l) = f at hf ⊢
      have hBf : 0 ≤ B * f ∧ B * f ≤ 192000 * 100 := by
        refine ⟨Int.mul_nonneg (by omega) (by omega), Int.mul_le_mul (by omega) (by omega) (by omega) (by omega)⟩
      omega

end Go.W
