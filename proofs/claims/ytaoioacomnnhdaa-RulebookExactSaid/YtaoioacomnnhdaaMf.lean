/- LTot LRul LRul2 LRul3 LTotF LRulG LTotG LRulR LSpoil LRulE -/
import Derived.Test.YtaoioacomnnhdaaMe
section
set_option linter.unusedVariables false
set_option linter.unusedSimpArgs false
set_option maxRecDepth 100000
namespace Go.W
open Go.AM
def inB (x lo hi : Int) : Bool := decide (lo ≤ x) && decide (x ≤ hi)
theorem inB_iff {x lo hi : Int} : inB x lo hi = true ↔ lo ≤ x ∧ x ≤ hi := by simp [inB]
theorem in_ok (N : Nat) (x lo hi : Int) : brake_in N x lo hi = some (inB x lo hi) := by
  unfold brake_in brake_in_0 inB
  by_cases h : lo ≤ x <;> simp [h, lt_def, bind_some']
/-! ### Factors -/
def factor (x : Int) : Int := if x ≤ 5000 then 100 else if 7000 < x then 80 else 100 - (x - 5000 + 99) / 100
theorem factor_bound (x : Int) : 80 ≤ factor x ∧ factor x ≤ 100 := by
  unfold factor
  split
  · omega
  · split <;> omega
theorem factor_ok (N : Nat) (x : Int) : brake_Factor N x = some (factor x) ∧ r35_Factor N x = some (factor x) := by
  unfold brake_Factor r35_Factor factor
  by_cases h1 : x ≤ 5000
  · rw [if_pos (lpos h1), if_pos (lpos h1), if_pos h1]; exact ⟨rfl, rfl⟩
  · rw [if_neg (lneg h1), if_neg (lneg h1), if_neg h1]
    have key : ∀ y : Int, 5000 < y → y ≤ 10000 → IntKind.wrap .i64 (100 - IntKind.wrap .i64 (Int.tdiv (IntKind.wrap .i64 (IntKind.wrap .i64 (y - 5000) + 99)) 100)) = 100 - (y - 5000 + 99) / 100 := by
      intro y h2 h3
      rw [w64 (n := y - 5000) (by omega) (by omega), w64 (n := y - 5000 + 99) (by omega) (by omega), Int.tdiv_eq_ediv_of_nonneg (by omega), w64 (n := (y - 5000 + 99) / 100) (by omega) (by omega), w64 (by omega) (by omega)]
    constructor
    · by_cases h2 : 10000 < x
      · rw [if_pos (dpos h2), if_pos (by omega)]
      · rw [if_neg (dneg h2), lt_def, key x (by omega) (by omega)]
        by_cases h3 : 7000 < x
        · rw [if_pos h3]; congr 1; omega
        · rw [if_neg h3]; congr 1; omega
    · by_cases h3 : 7000 < x
      · rw [if_pos (dpos h3), if_pos h3]
      · rw [if_neg (dneg h3), lt_def, key x (by omega) (by omega), if_neg h3]
/-! ### Brakes that are cut off -/
theorem off_loop (N : Nat) {l : List Int} (hl : l.length ≤ 1000) (x : Int) : ∀ (k n i : Nat), k < n → i + k = l.length → r35_Off_0 N l x n i = some (if x ∈ l.drop i then .inr true else .inl ())
  | k, 0, i, hn, _ => by omega
  | 0, n + 1, i, hn, hi => by rw [r35_Off_0, if_neg (dneg (by omega)), List.drop_eq_nil_of_le (by omega)]; rfl
  | k + 1, n + 1, i, hn, hi => by
    have hlt : i < l.length := by omega
    rw [r35_Off_0, if_pos (dpos (by omega)), getI_nat (at_lt hlt), bind_some', drop_at (at_lt hlt), lt_def, w64s (by omega), off_loop N hl x k n (i + 1) (by omega) (by omega)]
    by_cases h : l[i] = x
    · rw [if_pos (by simpa using h), if_pos (by simp [h])]
    · have h' : ¬ x = l[i] := fun e => h e.symm
      rw [if_neg (by simpa using h)]
      simp only [List.mem_cons, h', false_or]
theorem off_ok (N : Nat) {l : List Int} (hl : l.length ≤ 1000) (hN : 1001 ≤ N) (x : Int) : r35_Off N l x = some (decide (x ∈ l)) := by
  have := off_loop N hl x l.length N 0 (by omega) (by omega)
  simp only [Int.natCast_zero, List.drop_zero] at this
  unfold r35_Off
  rw [this]
  by_cases h : x ∈ l <;> simp [h, bind_some']
/-- The error of a list of cut brakes of a train of 'n' wagons. -/
def offErr (n : Nat) (off : List Int) : Int := if off.all (fun o => inB o 0 ((n : Int) - 1)) = true then (if off.Nodup then 0 else 8) else 2
theorem rng_loop (N : Nat) {l : List Wagon} (hl : l.length ≤ 1000) {off : List Int} (ho : off.length ≤ 1000) (b : Brakes) : ∀ (k n i : Nat), k < n → i + k = off.length →
    brake_Total_0 N l off off.length n b i = some (if (off.drop i).all (fun o => inB o 0 ((l.length : Int) - 1)) = true then .inl b else .inr (Brakes.mk 0 0 0 0 0 0 0, 2)) ∧
    r35_Total_0 N l off n b i = some (if (off.drop i).all (fun o => inB o 0 ((l.length : Int) - 1)) = true then .inl b else .inr (Brakes.mk 0 0 0 0 0 0 0, 2))
  | k, 0, i, hn, _ => by omega
  | 0, n + 1, i, hn, hi => by
    rw [brake_Total_0, r35_Total_0, if_neg (dneg (by omega)), if_neg (dneg (by omega)), List.drop_eq_nil_of_le (by omega)]; exact ⟨rfl, rfl⟩
  | k + 1, n + 1, i, hn, hi => by
    have hlt : i < off.length := by omega
    obtain ⟨h1, h2⟩ := rng_loop N hl ho b k n (i + 1) (by omega) (by omega)
    have hw : IntKind.wrap .i64 ((l.length : Int) - 1) = (l.length : Int) - 1 := w64 (by omega) (by omega)
    have hr : r35_Total_1 N l off i = some (!inB off[i] 0 ((l.length : Int) - 1)) := by
      unfold r35_Total_1 inB
      rw [getI_nat (at_lt hlt)]
      simp only [bind_some']
      by_cases a : off[i] < 0
      · rw [if_pos (dpos a), decide_eq_false (show ¬ 0 ≤ off[i] by omega)]; rfl
      · rw [if_neg (dneg a), decide_eq_true (show 0 ≤ off[i] by omega)]
        by_cases b : (l.length : Int) ≤ off[i]
        · rw [decide_eq_true b, decide_eq_false (show ¬ off[i] ≤ (l.length : Int) - 1 by omega)]; rfl
        · rw [decide_eq_false b, decide_eq_true (show off[i] ≤ (l.length : Int) - 1 by omega)]; rfl
    rw [brake_Total_0, r35_Total_0, if_pos (dpos (by omega)), if_pos (dpos (by omega)), getI_nat (at_lt hlt), bind_some', hw, in_ok, hr, bind_some', bind_some', drop_at (at_lt hlt), lt_def, w64s (by omega), h1, h2, List.all_cons]
    by_cases h : inB off[i] 0 ((l.length : Int) - 1) = true
    · simp only [h, Bool.not_true, Bool.false_eq_true, if_false, Bool.true_and, and_self]
    · simp only [Bool.not_eq_true] at h
      simp only [h, Bool.not_false, if_true, Bool.false_and, Bool.false_eq_true, if_false, and_self]
/-- The marks of the brakes that are cut off. -/
def Marks (c : List Bool) (n : Nat) (off : List Int) : Prop := c.length = n ∧ ∀ j : Nat, j < n → c[j]? = some (decide ((j : Int) ∈ off))
theorem dup_loop (N : Nat) {off : List Int} (ho : off.length ≤ 1000) {m : Nat} (hr : ∀ o ∈ off, 0 ≤ o ∧ o ≤ (m : Int) - 1) (b : Brakes) : ∀ (k n i : Nat) (c : List Bool), k < n → i + k = off.length → (off.take i).Nodup → Marks c m (off.take i) →
    ∃ c', brake_Total_1 N off off.length n b c i = some (if off.Nodup then .inl (b, c') else .inr (Brakes.mk 0 0 0 0 0 0 0, 8)) ∧ (off.Nodup → Marks c' m off)
  | k, 0, i, c, hn, _, _, _ => by omega
  | 0, n + 1, i, c, hn, hi, hd, hm => by
    rw [brake_Total_1, if_neg (dneg (by omega))]
    rw [List.take_of_length_le (by omega)] at hd hm
    exact ⟨c, by rw [if_pos hd], fun _ => hm⟩
  | k + 1, n + 1, i, c, hn, hi, hd, hm => by
    have hlt : i < off.length := by omega
    obtain ⟨h0, h1⟩ := hr _ (List.getElem_mem hlt)
    obtain ⟨j, hj⟩ := Int.eq_ofNat_of_zero_le h0
    have hjm : j < m := by omega
    have hg := hm.2 j hjm
    have htk : off.take (i + 1) = off.take i ++ [off[i]] := List.take_succ_eq_append_getElem hlt
    rw [brake_Total_1, if_pos (dpos (by omega)), getI_nat (at_lt hlt), bind_some', hj, getI_nat hg]
    simp only [bind_some']
    by_cases hmem : (j : Int) ∈ off.take i
    · rw [if_pos (by simpa using hmem)]
      have hnd : ¬ off.Nodup := by
        intro h
        have h2 : (off.take (i + 1)).Nodup := List.Nodup.sublist (List.take_sublist _ _) h
        rw [htk, List.nodup_append] at h2
        exact h2.2.2 _ hmem _ (by simp) hj.symm
      exact ⟨c, by rw [if_neg hnd], fun h => absurd h hnd⟩
    · rw [if_neg (by simpa using hmem), lt_def, Int.toNat_natCast, w64s (by omega)]
      refine dup_loop N ho hr b k n (i + 1) (c.set j true) (by omega) (by omega) ?_ ⟨by simp [hm.1], fun q hq => ?_⟩
      · rw [htk, List.nodup_append]
        refine ⟨hd, by simp, fun x hx y hy => ?_⟩
        simp at hy
        subst hy
        rw [hj]
        intro e; subst e; exact hmem hx
      · rw [htk, List.getElem?_set]
        by_cases hq' : j = q
        · subst hq'
          rw [if_pos rfl, if_pos (by rw [hm.1]; exact hq)]
          simp [hj]
        · rw [if_neg hq', hm.2 q hq]
          congr 1
          rw [decide_eq_decide, hj]
          simp only [List.mem_append, List.mem_singleton]
          constructor
          · exact .inl
          · rintro (h | h)
            · exact h
            · omega
theorem rdup2_loop (N : Nat) (hN : 1001 ≤ N) {off : List Int} (ho : off.length ≤ 1000) (b : Brakes) : ∀ (k n i : Nat), k < n → i + k = off.length → (off.take i).Nodup →
    r35_Total_2 N off n b i = some (if off.Nodup then .inl b else .inr (Brakes.mk 0 0 0 0 0 0 0, 8))
  | k, 0, i, hn, _, _ => by omega
  | 0, n + 1, i, hn, hi, hd => by
    rw [r35_Total_2, if_neg (dneg (by omega))]
    rw [List.take_of_length_le (by omega)] at hd
    rw [if_pos hd]
  | k + 1, n + 1, i, hn, hi, hd => by
    have hlt : i < off.length := by omega
    have htk : off.take (i + 1) = off.take i ++ [off[i]] := List.take_succ_eq_append_getElem hlt
    rw [r35_Total_2, if_pos (dpos (by omega)), cutI_take (by omega), bind_some', getI_nat (at_lt hlt), bind_some', off_ok N (by rw [List.length_take]; omega) hN, bind_some']
    by_cases hmem : off[i] ∈ off.take i
    · rw [if_pos (by simpa using hmem), if_neg ?_]
      intro h
      have h2 : (off.take (i + 1)).Nodup := List.Nodup.sublist (List.take_sublist _ _) h
      rw [htk, List.nodup_append] at h2
      exact h2.2.2 _ hmem _ (by simp) rfl
    · rw [if_neg (by simpa using hmem), lt_def, w64s (by omega)]
      refine rdup2_loop N hN ho b k n (i + 1) (by omega) (by omega) ?_
      rw [htk, List.nodup_append]
      refine ⟨hd, by simp, fun x hx y hy => ?_⟩
      simp at hy
      subst hy
      intro e; subst e; exact hmem hx
/-- The braked mass of the wagons from number 'i' on. -/
def brk (off : List Int) : Nat → List Wagon → Int
  | _, [] => 0
  | i, w :: l => (if (i : Int) ∈ off then 0 else w.brake) + brk off (i + 1) l
theorem brk_bound {off : List Int} : ∀ {l : List Wagon} {i : Nat}, (∀ w ∈ l, 0 ≤ w.brake ∧ w.brake ≤ w.mass ∧ w.mass ≤ 2000) → 0 ≤ brk off i l ∧ brk off i l ≤ sumL (·.mass) l ∧ brk off i l ≤ 2000 * l.length
  | [], i, _ => by simp [brk, sumL]
  | w :: l, i, h => by
    have h1 := h w (by simp)
    have h2 := brk_bound (off := off) (l := l) (i := i + 1) fun x hx => h x (by simp [hx])
    simp only [brk, sumL_cons, List.length_cons]
    split <;> omega
theorem brk_loop (N : Nat) (hN : 1001 ≤ N) {l : List Wagon} (hl : l.length ≤ 100) (hv : ∀ w ∈ l, 0 ≤ w.brake ∧ w.brake ≤ w.mass ∧ w.mass ≤ 2000) {off : List Int} (ho : off.length ≤ 1000) {c : List Bool} (hm : Marks c l.length off) (x : Brakes) : ∀ (k n i : Nat) (s : Int), k < n → i + k = l.length → 0 ≤ s → s ≤ 2000 * i →
    brake_Total_2 N c l l.length n { x with braked := s } i = some { x with braked := s + brk off i (l.drop i) } ∧ r35_Total_3 N l off n { x with braked := s } i = some { x with braked := s + brk off i (l.drop i) }
  | k, 0, i, s, hn, _, _, _ => by omega
  | 0, n + 1, i, s, hn, hi, _, _ => by
    rw [brake_Total_2, r35_Total_3, if_neg (dneg (by omega)), if_neg (dneg (by omega)), List.drop_eq_nil_of_le (by omega)]
    simp [brk]
  | k + 1, n + 1, i, s, hn, hi, h0, h1 => by
    have hlt : i < l.length := by omega
    have hb := hv _ (List.getElem_mem hlt)
    have hp : brake_Total_3 N c { x with braked := s } l i = some { x with braked := s + (if (i : Int) ∈ off then 0 else l[i].brake) } := by
      unfold brake_Total_3
      rw [getI_nat (at_lt hlt), bind_some', getI_nat (hm.2 i hlt), bind_some', bind_some']
      by_cases h : (i : Int) ∈ off
      · simp [h]
      · simp only [h, decide_false, Bool.not_false, if_true, if_false]
        rw [w64 (n := s + l[i].brake) (by omega) (by omega)]
    have hr : r35_Total_4 N l off { x with braked := s } i = some { x with braked := s + (if (i : Int) ∈ off then 0 else l[i].brake) } := by
      unfold r35_Total_4
      rw [off_ok N ho hN, bind_some']
      by_cases h : (i : Int) ∈ off
      · simp [h]
      · simp only [h, decide_false, Bool.not_false, if_true, if_false, getI_nat (at_lt hlt), bind_some']
        rw [w64 (n := s + l[i].brake) (by omega) (by omega)]
    obtain ⟨i1, i2⟩ := brk_loop N hN hl hv ho hm x k n (i + 1) (s + (if (i : Int) ∈ off then 0 else l[i].brake)) (by omega) (by omega) (by split <;> omega) (by split <;> omega)
    rw [brake_Total_2, r35_Total_3, if_pos (dpos (by omega)), if_pos (dpos (by omega)), hp, hr, bind_some', bind_some', lt_def, w64s (by omega), i1, i2, drop_at (at_lt hlt)]
    simp only [brk, Int.add_assoc, and_self]
/-- What 'Total' answers. -/
def tot (l : List Wagon) (off : List Int) : Brakes × Int :=
  if listErr l ≠ 0 then (Brakes.mk 0 0 0 0 0 0 0, listErr l) else if offErr l.length off ≠ 0 then (Brakes.mk 0 0 0 0 0 0 0, offErr l.length off)
  else (Brakes.mk (sumL (·.length) l) (sumL (·.axles) l) (sumL (·.mass) l) (brk off 0 l * factor (sumL (·.length) l) / 100)
    (if 0 < sumL (·.mass) l then 100 * (brk off 0 l * factor (sumL (·.length) l) / 100) / sumL (·.mass) l else 0) 0 0, 0)
theorem mass_pos {l : List Wagon} (h : listErr l = 0) : 50 * (l.length : Int) ≤ sumL (·.mass) l ∧ sumL (·.mass) l ≤ 2000 * l.length := by
  obtain ⟨_, hz, _⟩ := listErr_zero.1 h
  exact sumL_bound fun w hw => (wag_ranges (hz w hw)).2.1
theorem tot_ok (N : Nat) (hN : 1001 ≤ N) {l : List Wagon} (hF : l.length ≤ 96 → ∀ w ∈ l, Fu N w) {off : List Int} (ho : off.length ≤ 1000) : brake_Total N l off = some (tot l off) ∧ r35_Total N l off = some (tot l off) := by
  obtain ⟨h1, h2⟩ := total_ok N (by omega) hF
  unfold brake_Total r35_Total tot
  rw [h1, h2]
  simp only [bind_some']
  unfold totals
  by_cases he : listErr l = 0
  · obtain ⟨hl96, hz, _⟩ := listErr_zero.1 he
    have hv : ∀ w ∈ l, 0 ≤ w.brake ∧ w.brake ≤ w.mass ∧ w.mass ≤ 2000 := fun w hw => by have := wag_ranges (hz w hw); omega
    have hmk : mkI false (l.length : Int) = some (List.replicate l.length false) := by
      unfold mkI; rw [if_pos (by omega)]; simp
    obtain ⟨r1, r2⟩ := rng_loop N (l := l) (by omega) ho (Brakes.mk 0 0 0 0 0 0 0) off.length N 0 (by omega) (by omega)
    simp only [Int.natCast_zero, List.drop_zero] at r1 r2
    simp only [he, if_true, bne00, Bool.false_eq_true, if_false, hmk, bind_some', r1, r2, ne_eq, not_true_eq_false]
    unfold offErr
    by_cases hr : off.all (fun o => inB o 0 ((l.length : Int) - 1)) = true
    · have hr' : ∀ o ∈ off, 0 ≤ o ∧ o ≤ (l.length : Int) - 1 := fun o hm => inB_iff.1 (List.all_eq_true.1 hr o hm)
      obtain ⟨c, d1, d2⟩ := dup_loop N ho hr' (Brakes.mk 0 0 0 0 0 0 0) off.length N 0 (List.replicate l.length false) (by omega) (by omega) (by simp) ⟨by simp, fun j hj => by simp [hj]⟩
      have d3 := rdup2_loop N hN ho (Brakes.mk 0 0 0 0 0 0 0) off.length N 0 (by omega) (by omega) (by simp)
      simp only [Int.natCast_zero] at d1 d3
      simp only [hr, if_true, d1, d3, bind_some']
      by_cases hd : off.Nodup
      · obtain ⟨b1, b2⟩ := brk_loop N hN (l := l) (by omega) hv ho (d2 hd) (Brakes.mk (sumL (·.length) l) (sumL (·.axles) l) (sumL (·.mass) l) 0 0 0 0) l.length N 0 0 (by omega) (by omega) (by omega) (by omega)
        simp only [Int.natCast_zero, List.drop_zero, Int.zero_add] at b1 b2
        have hb := brk_bound (off := off) (i := 0) hv
        have hm := mass_pos he
        obtain ⟨f1, f2⟩ := factor_ok N (sumL (·.length) l)
        have hf := factor_bound (sumL (·.length) l)
        simp only [hd, if_true, b1, b2, f1, f2, bind_some', not_true_eq_false, if_false]
        generalize hB : brk off 0 l = B at hb ⊢
        generalize hFf : factor (sumL (·.length) l) = f at hf ⊢
        generalize hM : sumL (·.mass) l = M at hb hm ⊢
        have hBf : 0 ≤ B * f ∧ B * f ≤ 20000000 := by
          refine ⟨Int.mul_nonneg (by omega) (by omega), ?_⟩
          have : B * f ≤ 192000 * 100 := Int.mul_le_mul (by omega) (by omega) (by omega) (by omega)
          omega
        have e1 : IntKind.wrap .i64 (Int.tdiv (IntKind.wrap .i64 (B * f)) 100) = B * f / 100 := by
          rw [w64 (n := B * f) (by omega) (by omega), Int.tdiv_eq_ediv_of_nonneg hBf.1, w64 (by omega) (by omega)]
        rw [e1]
        generalize hC : B * f / 100 = C
        have hCb : 0 ≤ C ∧ C ≤ 200000 := by omega
        unfold brake_Total_4 r35_Total_5
        by_cases hpos : 0 < M
        · have e2 : divI (IntKind.wrap .i64 (100 * C)) M = some (100 * C / M) := by
            unfold divI
            rw [if_neg (by omega), w64 (by omega) (by omega), Int.tdiv_eq_ediv_of_nonneg (by omega)]
          have hq : 0 ≤ 100 * C / M ∧ 100 * C / M ≤ 20000000 := by
            refine ⟨Int.ediv_nonneg (by omega) (by omega), ?_⟩
            have := Int.ediv_le_self M (show 0 ≤ 100 * C by omega)
            omega
          simp only [hpos, decide_true, if_true, e2, bind_some']
          rw [w64 (n := 100 * C / M) (by omega) (by omega)]
          exact ⟨rfl, rfl⟩
        · simp only [hpos, decide_false, Bool.false_eq_true, if_false, bind_some', and_self]
      · simp only [hd, if_false]
        exact ⟨rfl, rfl⟩
    · simp only [hr, if_false]
      exact ⟨rfl, rfl⟩
  · have e0 : (listErr l != 0) = true := by simpa using he
    simp only [he, if_false, e0, if_true, ne_eq, not_false_eq_true, and_self]
theorem tot_bound {l : List Wagon} {off : List Int} (h : (tot l off).2 = 0) : listErr l = 0 ∧ offErr l.length off = 0 ∧ 0 ≤ (tot l off).1.mass ∧ (tot l off).1.mass ≤ 192000 ∧ 0 ≤ (tot l off).1.braked ∧ (tot l off).1.braked ≤ 192000 := by
  unfold tot at h ⊢
  split at h
  · rename_i h1; exact absurd h h1
  · rename_i h1
    split at h
    · rename_i h2; exact absurd h h2
    · rename_i h2
      have he : listErr l = 0 := by simpa using h1
      obtain ⟨hl96, hz, _⟩ := listErr_zero.1 he
      have hv : ∀ w ∈ l, 0 ≤ w.brake ∧ w.brake ≤ w.mass ∧ w.mass ≤ 2000 := fun w hw => by have := wag_ranges (hz w hw); omega
      have hb := brk_bound (off := off) (i := 0) hv
      have hm := mass_pos he
      have hf := factor_bound (sumL (·.length) l)
      refine ⟨he, by simpa using h2, ?_⟩
      rw [if_neg h1, if_neg h2]
      simp only []
      generalize brk off 0 l = B at hb ⊢
      generalize factor (sumL (·.length) l) = f at hf ⊢
      have hBf : 0 ≤ B * f ∧ B * f ≤ 192000 * 100 := by
        refine ⟨Int.mul_nonneg (by omega) (by omega), Int.mul_le_mul (by omega) (by omega) (by omega) (by omega)⟩
      omega
end Go.W
end
section
set_option linter.unusedVariables false
set_option linter.unusedSimpArgs false
set_option maxRecDepth 100000
namespace Go.W
open Go.AM
def rvalid (r : Rule) : Bool := decide (1 ≤ r.number ∧ r.number ≤ 9999 ∧ 1 ≤ r.kind ∧ r.kind ≤ 9 ∧ 0 ≤ r.a ∧ r.a ≤ 1000000 ∧ 0 ≤ r.b ∧ r.b ≤ 1000000 ∧ 0 ≤ r.c ∧ r.c ≤ 1000000)
theorem rvalid_iff {r : Rule} : rvalid r = true ↔ 1 ≤ r.number ∧ r.number ≤ 9999 ∧ 1 ≤ r.kind ∧ r.kind ≤ 9 ∧ 0 ≤ r.a ∧ r.a ≤ 1000000 ∧ 0 ≤ r.b ∧ r.b ≤ 1000000 ∧ 0 ≤ r.c ∧ r.c ≤ 1000000 := by simp [rvalid]
theorem sbe {a b : Bool} (h : a = true ↔ b = true) : some a = some b := by rw [Bool.eq_iff_iff.2 h]
def n3 (x : Int) : Bool := decide (x < 0 ∨ 1000000 < x)
theorem rvr1 (N : Nat) (x : Int) : rulebook_valid_1 N x = some (n3 x) := by
  unfold rulebook_valid_1
  by_cases h : x < 0 <;> simp [n3, h]
theorem prule (N : Nat) (hN : 5 ≤ N) (r : Rule) : rulebook_valid N r = some (rvalid r) := by
  have hloop : ∀ n, rulebook_valid_0 N [r.a, r.b, r.c] 3 (n + 4) 0 = some (if n3 r.a = true ∨ n3 r.b = true ∨ n3 r.c = true then .inr false else .inl ()) := by
    intro n
    rw [rulebook_valid_0, if_pos (by decide), show getI [r.a, r.b, r.c] 0 = some r.a from rfl, bind_some', bind_some', rvr1, bind_some']
    by_cases ha : n3 r.a = true
    · rw [if_pos ha, if_pos (.inl ha)]
    rw [if_neg ha, show IntKind.wrap .i64 (0 + 1) = 1 from rfl, rulebook_valid_0, if_pos (by decide), show getI [r.a, r.b, r.c] 1 = some r.b from rfl, bind_some', bind_some', rvr1, bind_some']
    by_cases hb : n3 r.b = true
    · rw [if_pos hb, if_pos (.inr (.inl hb))]
    rw [if_neg hb, show IntKind.wrap .i64 (1 + 1) = 2 from rfl, rulebook_valid_0, if_pos (by decide), show getI [r.a, r.b, r.c] 2 = some r.c from rfl, bind_some', bind_some', rvr1, bind_some']
    by_cases hc : n3 r.c = true
    · rw [if_pos hc, if_pos (.inr (.inr hc))]
    rw [if_neg hc, show IntKind.wrap .i64 (2 + 1) = 3 from rfl, rulebook_valid_0, if_neg (by decide), if_neg (by simp [ha, hb, hc])]
  have h2 : rulebook_valid_2 N r = some (decide (1 ≤ r.number ∧ r.number ≤ 9999 ∧ 1 ≤ r.kind ∧ r.kind ≤ 9)) := by
    unfold rulebook_valid_2
    by_cases a : 1 ≤ r.number <;> by_cases b : r.number ≤ 9999 <;> by_cases c : 1 ≤ r.kind <;> simp [a, b, c, lt_def]
  obtain ⟨M, rfl⟩ : ∃ M, N = (M + 1) + 4 := ⟨N - 5, by omega⟩
  unfold rulebook_valid
  rw [show (([r.a, r.b, r.c] : List Int).length : Int) = 3 from rfl, hloop, bind_some', h2]
  by_cases h : n3 r.a = true ∨ n3 r.b = true ∨ n3 r.c = true
  · rw [if_pos h]
    simp only [n3, decide_eq_true_eq] at h
    refine sbe ?_
    simp only [rvalid_iff, Bool.false_eq_true, false_iff]
    omega
  · rw [if_neg h]
    simp only [n3, decide_eq_true_eq] at h
    rw [bind_some']
    refine sbe ?_
    simp only [rvalid_iff, decide_eq_true_eq]
    omega
theorem rrule (N : Nat) (r : Rule) : r36_valid N r = some (rvalid r) := by
  have h1 : r36_valid_0 N r = some (!decide (1 ≤ r.number ∧ r.number ≤ 9999 ∧ 1 ≤ r.kind ∧ r.kind ≤ 9)) := by
    unfold r36_valid_0
    simp only [decide_eq_true_eq]
    repeat' split
    all_goals
      refine sbe ?_
      simp only [decide_eq_true_eq, Bool.not_eq_true', decide_eq_false_iff_not, true_iff]
      omega
  have h2 : r36_valid_1 N r = some (decide (0 ≤ r.a ∧ r.a ≤ 1000000 ∧ 0 ≤ r.b ∧ r.b ≤ 1000000 ∧ 0 ≤ r.c ∧ r.c ≤ 1000000)) := by
    unfold r36_valid_1
    simp only [decide_eq_true_eq, lt_def]
    repeat' split
    all_goals
      refine sbe ?_
      simp only [decide_eq_true_eq, Bool.false_eq_true, false_iff]
      omega
  unfold r36_valid
  rw [h1, bind_some', h2]
  by_cases h : 1 ≤ r.number ∧ r.number ≤ 9999 ∧ 1 ≤ r.kind ∧ r.kind ≤ 9
  · rw [decide_eq_true h, if_neg (by decide), bind_some']
    refine sbe ?_
    simp only [rvalid_iff, decide_eq_true_eq]
    omega
  · rw [decide_eq_false h, if_pos (by decide)]
    refine sbe ?_
    simp only [rvalid_iff, Bool.false_eq_true, false_iff]
    omega
/-! ### Lists of rules -/
def rp (l : List Rule) (i : Nat) (x : Rule) : Bool := !rvalid x || decide (x.number ∈ (l.take i).map (·.number))
def rout (x : Rule) : Int := if rvalid x = true then 8 else 1
/-- The error of a list of rules. -/
def rErr (l : List Rule) : Int := if 32 < l.length then 3 else match res (rp l) (fun _ x => rout x) 0 l with | .inl _ => 0 | .inr e => e
theorem mem_nums {l : List Rule} {x : Rule} : (x.number ∈ l.map (·.number)) ↔ ∃ (j : Nat) (y : Rule), l[j]? = some y ∧ (y.number == x.number) = true := by
  rw [List.mem_map]
  constructor
  · rintro ⟨y, hy, he⟩
    obtain ⟨j, hj⟩ := List.getElem?_of_mem hy
    exact ⟨j, y, hj, by simpa using he⟩
  · rintro ⟨j, y, hj, he⟩
    exact ⟨y, List.mem_of_getElem? hj, by simpa using he⟩
theorem cont_ok (N : Nat) (hN : 1001 ≤ N) {l : List Rule} (hl : l.length ≤ 1000) (x : Rule) : slices_ContainsFunc_api_Rule_api_Rule__rulebook_Valid_1 N l x = some (decide (x.number ∈ l.map (·.number))) := by
  have h := first_gen (l := l) (fun _ y => y.number == x.number) (fun i _ => (i : Int)) (fun n i => slices_IndexFunc_api_Rule_api_Rule__rulebook_Valid_1_0 N l x l.length n i) (fun n => by
    show slices_IndexFunc_api_Rule_api_Rule__rulebook_Valid_1_0 N l x l.length (n + 1) _ = _
    rw [slices_IndexFunc_api_Rule_api_Rule__rulebook_Valid_1_0, if_neg (dneg (by omega))]) (fun n i y hy => by
    show slices_IndexFunc_api_Rule_api_Rule__rulebook_Valid_1_0 N l x l.length (n + 1) _ = _
    have hlt := (List.getElem?_eq_some_iff.1 hy).1
    rw [slices_IndexFunc_api_Rule_api_Rule__rulebook_Valid_1_0, if_pos (dpos (by omega)), getI_nat hy, bind_some', w64s (by omega)]
    rfl) l.length N 0 (by omega) (by omega)
  simp only [Int.natCast_zero, List.drop_zero] at h
  unfold slices_ContainsFunc_api_Rule_api_Rule__rulebook_Valid_1 slices_IndexFunc_api_Rule_api_Rule__rulebook_Valid_1
  rw [h, bind_some']
  rcases res_first (fun _ (y : Rule) => y.number == x.number) l 0 with ⟨h1, h2⟩ | ⟨h1, h2⟩
  · rw [h1]
    rcases firstI_spec (fun _ (y : Rule) => y.number == x.number) l 0 with ⟨_, h4⟩ | ⟨j, y, h4, _⟩
    · rw [decide_eq_false]
      · rfl
      · intro hm
        obtain ⟨j, y, hj, he⟩ := mem_nums.1 hm
        have := h4 j y hj
        rw [he] at this; cases this
    · rw [h2] at h4; omega
  · rw [h1]
    rcases firstI_spec (fun _ (y : Rule) => y.number == x.number) l 0 with ⟨h3, _⟩ | ⟨j, y, h4, h5, h6, _⟩
    · omega
    · rw [decide_eq_true (mem_nums.2 ⟨j, y, h5, h6⟩)]
      simp only [bind_some', lt_def, lpos h2]
theorem rcont_ok (N : Nat) {l : List Rule} (hl : l.length ≤ 1000) {i : Nat} {x : Rule} (hx : l[i]? = some x) (hN : 1001 ≤ N) : r36_Valid_1 N l i N 0 = some (if x.number ∈ (l.take i).map (·.number) then .inr 8 else .inl ()) := by
  have hi := (List.getElem?_eq_some_iff.1 hx).1
  have hlen : (l.take i).length = i := by simp; omega
  have h := first_gen (l := l.take i) (fun _ y => y.number == x.number) (fun i _ => (8 : Int)) (fun n k => r36_Valid_1 N l i n k) (fun n => by
    show r36_Valid_1 N l i (n + 1) _ = _
    rw [r36_Valid_1, if_neg (dneg (by omega))]) (fun n k y hy => by
    show r36_Valid_1 N l i (n + 1) _ = _
    have hlt := (List.getElem?_eq_some_iff.1 hy).1
    have hy' : l[k]? = some y := by rw [List.getElem?_take] at hy; split at hy <;> simp_all
    rw [r36_Valid_1, if_pos (dpos (by omega)), getI_nat hy', bind_some', getI_nat hx, bind_some', lt_def, w64s (by omega)]) i N 0 (by omega) (by omega)
  simp only [Int.natCast_zero, List.drop_zero] at h
  rw [h]
  congr 1
  have key : ∀ (m : List Rule) (i : Nat), res (fun _ (y : Rule) => y.number == x.number) (fun i _ => (8 : Int)) i m = if x.number ∈ m.map (·.number) then .inr 8 else .inl () := by
    intro m
    induction m with
    | nil => intro i; rfl
    | cons y m ih =>
      intro i
      rw [res]
      by_cases he : y.number = x.number
      · rw [if_pos (by simpa using he), if_pos (by simp [he])]
      · rw [if_neg (by simpa using he), ih]
        have : (x.number ∈ (y :: m).map (·.number)) ↔ x.number ∈ m.map (·.number) := by
          simp only [List.map_cons, List.mem_cons]
          constructor
          · rintro (h | h)
            · exact absurd h.symm he
            · exact h
          · exact .inr
        by_cases hm : x.number ∈ m.map (·.number)
        · rw [if_pos hm, if_pos (this.2 hm)]
        · rw [if_neg hm, if_neg (fun h => hm (this.1 h))]
  exact key _ _
theorem rules_ok (N : Nat) (hN : 1001 ≤ N) {l : List Rule} (hl : l.length ≤ 1000) : rulebook_Valid N l = some (rErr l) ∧ r36_Valid N l = some (rErr l) := by
  unfold rulebook_Valid r36_Valid rErr
  by_cases h32 : 32 < l.length
  · rw [if_pos (dpos (by omega)), if_pos (dpos (by omega)), if_pos h32]; exact ⟨rfl, rfl⟩
  · rw [if_neg (dneg (by omega)), if_neg (dneg (by omega)), if_neg h32]
    have h1 := first_gen (l := l) (rp l) (fun _ x => rout x) (fun n i => rulebook_Valid_0 N l l l.length n i) (fun n => by
      show rulebook_Valid_0 N l l l.length (n + 1) _ = _
      rw [rulebook_Valid_0, if_neg (dneg (by omega))]) (fun n i x hx => by
      show rulebook_Valid_0 N l l l.length (n + 1) _ = _
      have hlt := (List.getElem?_eq_some_iff.1 hx).1
      rw [rulebook_Valid_0, if_pos (dpos (by omega)), getI_nat hx, bind_some', prule N (by omega), bind_some', cutI_take (by omega), bind_some', cont_ok N hN (by simp; omega), bind_some', w64s (by omega), rp, rout]
      cases rvalid x
      · rfl
      · simp only [Bool.not_true, Bool.false_eq_true, if_false, Bool.false_or, if_true]) l.length N 0 (by omega) (by omega)
    have h2 := first_gen (l := l) (rp l) (fun _ x => rout x) (fun n i => r36_Valid_0 N l n i) (fun n => by
      show r36_Valid_0 N l (n + 1) _ = _
      rw [r36_Valid_0, if_neg (dneg (by omega))]) (fun n i x hx => by
      show r36_Valid_0 N l (n + 1) _ = _
      have hlt := (List.getElem?_eq_some_iff.1 hx).1
      rw [r36_Valid_0, if_pos (dpos (by omega)), getI_nat hx, bind_some', rrule N, bind_some', rcont_ok N hl hx hN, bind_some', rp, rout]
      cases rvalid x
      · rfl
      · simp only [Bool.not_true, Bool.false_eq_true, if_false, Bool.false_or, if_true, decide_eq_true_eq]
        by_cases hm : x.number ∈ (l.take i).map (·.number)
        · rw [if_pos hm, if_pos hm]
        · rw [if_neg hm, if_neg hm]
          simp only [lt_def, w64s (show i < 9223372036854775807 by omega)]) l.length N 0 (by omega) (by omega)
    simp only [Int.natCast_zero, List.drop_zero] at h1 h2
    rw [h1, h2, bind_some']
    cases res (rp l) (fun _ x => rout x) 0 l <;> exact ⟨rfl, rfl⟩
theorem rErr_zero {l : List Rule} (h : rErr l = 0) : l.length ≤ 32 ∧ ∀ x ∈ l, rvalid x = true := by
  unfold rErr at h
  split at h
  · cases h
  · rename_i h32
    refine ⟨by omega, ?_⟩
    have key : ∀ (m : List Rule) (i : Nat), (match res (rp l) (fun _ x => rout x) i m with | .inl _ => (0 : Int) | .inr e => e) = 0 → ∀ x ∈ m, rvalid x = true := by
      intro m
      induction m with
      | nil => intro i _ x hx; simp at hx
      | cons y m ih =>
        intro i h x hx
        rw [res] at h
        by_cases hp : rp l i y = true
        · rw [if_pos hp] at h
          simp only [rout] at h
          split at h <;> cases h
        · rw [if_neg hp] at h
          rcases List.mem_cons.1 hx with rfl | hx
          · simp only [rp, Bool.or_eq_true, not_or, Bool.not_eq_true'] at hp
            simpa using hp.1
          · exact ih _ h x hx
    exact key l 0 h
end Go.W
end
section
set_option linter.unusedVariables false
set_option linter.unusedSimpArgs false
set_option maxRecDepth 100000
namespace Go.W
open Go.AM
/-- A train whose sums are small. -/
structure Vd (l : List Wagon) : Prop where
  ln : l.length ≤ 96
  rg : ∀ w ∈ l, (80 ≤ w.length ∧ w.length ≤ 400) ∧ (50 ≤ w.mass ∧ w.mass ≤ 2000) ∧ (2 ≤ w.axles ∧ w.axles ≤ 6) ∧ 0 ≤ w.brake ∧ w.brake ≤ w.mass
theorem Vd.of {l : List Wagon} (h : listErr l = 0) : Vd l := ⟨(listErr_zero.1 h).1, fun w hw => wag_ranges ((listErr_zero.1 h).2.1 w hw)⟩
theorem Vd.at {l : List Wagon} (h : Vd l) {i : Nat} {w : Wagon} (hi : l[i]? = some w) : (80 ≤ w.length ∧ w.length ≤ 400) ∧ (50 ≤ w.mass ∧ w.mass ≤ 2000) ∧ (2 ≤ w.axles ∧ w.axles ≤ 6) ∧ 0 ≤ w.brake ∧ w.brake ≤ w.mass := h.rg w (List.mem_of_getElem? hi)
/-- What a rule of sums adds up. -/
def szOf (k : Int) (w : Wagon) : Int := if k = 1 then w.length else if k = 2 then w.axles else w.mass
theorem szOf_rg {l : List Wagon} (h : Vd l) (k : Int) : ∀ w ∈ l, 0 ≤ szOf k w ∧ szOf k w ≤ 2000 := by
  intro w hw
  have := h.rg w hw
  unfold szOf
  split
  · omega
  · split <;> omega
theorem take_sum {f : Wagon → Int} {l : List Wagon} {i : Nat} {w : Wagon} (hi : l[i]? = some w) : sumL f (l.take (i + 1)) = sumL f (l.take i) + f w := by
  have hlt := (List.getElem?_eq_some_iff.1 hi).1
  have : l.take (i + 1) = l.take i ++ [w] := by
    rw [List.take_succ_eq_append_getElem hlt]
    have := (List.getElem?_eq_some_iff.1 hi).2
    rw [this]
  rw [this, sumL_append, sumL_cons, sumL_nil]; omega
theorem take_bound {f : Wagon → Int} {l : List Wagon} (h : ∀ w ∈ l, 0 ≤ f w ∧ f w ≤ 2000) (hl : l.length ≤ 96) (i : Nat) : 0 ≤ sumL f (l.take i) ∧ sumL f (l.take i) ≤ 192000 := by
  have := sumL_bound (l := l.take i) fun w hw => h w (List.mem_of_mem_take hw)
  have h2 : (l.take i).length ≤ 96 := by simp; omega
  omega
theorem drop_bound {f : Wagon → Int} {l : List Wagon} (h : ∀ w ∈ l, 0 ≤ f w ∧ f w ≤ 2000) (hl : l.length ≤ 96) (i : Nat) : 0 ≤ sumL f (l.drop i) ∧ sumL f (l.drop i) ≤ 192000 := by
  have := sumL_bound (l := l.drop i) fun w hw => h w (List.mem_of_mem_drop hw)
  have h2 : (l.drop i).length ≤ 96 := by simp; omega
  omega
/-! ### Rules of sums -/
def pSum (k a : Int) (l : List Wagon) (i : Nat) (_ : Wagon) : Bool := decide (a < sumL (szOf k) (l.take (i + 1)))
theorem beyond_gen {F : Nat → Int → Int → Option (Sum Unit Int)} {l : List Wagon} {k a : Int} (h : Vd l) (h0 : ∀ n s, F (n + 1) s (l.length : Int) = some (.inl ()))
    (h1 : ∀ (n i : Nat) (s : Int) (x : Wagon), l[i]? = some x → F (n + 1) s (i : Int) = if (decide (a < IntKind.wrap .i64 (s + szOf k x))) = true then some (.inr (i : Int)) else F n (IntKind.wrap .i64 (s + szOf k x)) (IntKind.wrap .i64 ((i : Int) + 1))) :
    ∀ (q n i : Nat), q < n → i + q = l.length → F n (sumL (szOf k) (l.take i)) (i : Int) = some (res (pSum k a l) (fun i _ => (i : Int)) i (l.drop i))
  | q, 0, i, hn, _ => by omega
  | 0, n + 1, i, hn, hi => by
    obtain rfl : i = l.length := by omega
    rw [h0, List.drop_length, res]
  | q + 1, n + 1, i, hn, hi => by
    have hlt : i < l.length := by omega
    have hl := h.ln
    have tb := take_bound (szOf_rg h k) h.ln (i + 1)
    have ts := take_sum (f := szOf k) (at_lt hlt)
    rw [h1 n i _ _ (at_lt hlt), drop_at (at_lt hlt), res, ← ts, w64 (by omega) (by omega), w64s (by omega)]
    by_cases hp : decide (a < sumL (szOf k) (l.take (i + 1))) = true
    · rw [if_pos hp, if_pos (show pSum k a l i l[i] = true from hp)]
    · rw [if_neg hp, if_neg (show ¬ pSum k a l i l[i] = true from hp)]
      exact beyond_gen h h0 h1 q n (i + 1) (by omega) (by omega)
theorem beyond1 (N : Nat) (hN : 1001 ≤ N) {t : Train} (h : Vd t.l) (a : Int) : train_beyond__rulebook_train_place_1 N t a = some (firstI (pSum 1 a t.l) 0 t.l) := by
  have hb := beyond_gen (F := fun n s i => train_beyond__rulebook_train_place_1_0 N a t.l t.l.length n s i) (k := 1) (a := a) h (fun n s => by
    show train_beyond__rulebook_train_place_1_0 N a t.l t.l.length (n + 1) s _ = _
    rw [train_beyond__rulebook_train_place_1_0, if_neg (dneg (by omega))]) (fun n i s x hx => by
    show train_beyond__rulebook_train_place_1_0 N a t.l t.l.length (n + 1) s _ = _
    have hlt := (List.getElem?_eq_some_iff.1 hx).1
    rw [train_beyond__rulebook_train_place_1_0, if_pos (dpos (by omega)), getI_nat hx, bind_some']
    rfl) t.l.length N 0 (by have := h.ln; omega) (by omega)
  simp only [Int.natCast_zero, List.drop_zero, List.take_zero, sumL_nil] at hb
  unfold train_beyond__rulebook_train_place_1
  rw [hb, bind_some']
  rcases res_first (pSum 1 a t.l) t.l 0 with ⟨h1, h2⟩ | ⟨h1, h2⟩
  · rw [h1, h2]
  · rw [h1]
theorem beyond2 (N : Nat) (hN : 1001 ≤ N) {t : Train} (h : Vd t.l) (a : Int) : train_beyond__rulebook_train_place_2 N t a = some (firstI (pSum 2 a t.l) 0 t.l) := by
  have hb := beyond_gen (F := fun n s i => train_beyond__rulebook_train_place_2_0 N a t.l t.l.length n s i) (k := 2) (a := a) h (fun n s => by
    show train_beyond__rulebook_train_place_2_0 N a t.l t.l.length (n + 1) s _ = _
    rw [train_beyond__rulebook_train_place_2_0, if_neg (dneg (by omega))]) (fun n i s x hx => by
    show train_beyond__rulebook_train_place_2_0 N a t.l t.l.length (n + 1) s _ = _
    have hlt := (List.getElem?_eq_some_iff.1 hx).1
    rw [train_beyond__rulebook_train_place_2_0, if_pos (dpos (by omega)), getI_nat hx, bind_some']
    rfl) t.l.length N 0 (by have := h.ln; omega) (by omega)
  simp only [Int.natCast_zero, List.drop_zero, List.take_zero, sumL_nil] at hb
  unfold train_beyond__rulebook_train_place_2
  rw [hb, bind_some']
  rcases res_first (pSum 2 a t.l) t.l 0 with ⟨h1, h2⟩ | ⟨h1, h2⟩
  · rw [h1, h2]
  · rw [h1]
theorem beyond3 (N : Nat) (hN : 1001 ≤ N) {t : Train} (h : Vd t.l) (a : Int) : train_beyond__rulebook_train_place_3 N t a = some (firstI (pSum 3 a t.l) 0 t.l) := by
  have hb := beyond_gen (F := fun n s i => train_beyond__rulebook_train_place_3_0 N a t.l t.l.length n s i) (k := 3) (a := a) h (fun n s => by
    show train_beyond__rulebook_train_place_3_0 N a t.l t.l.length (n + 1) s _ = _
    rw [train_beyond__rulebook_train_place_3_0, if_neg (dneg (by omega))]) (fun n i s x hx => by
    show train_beyond__rulebook_train_place_3_0 N a t.l t.l.length (n + 1) s _ = _
    have hlt := (List.getElem?_eq_some_iff.1 hx).1
    rw [train_beyond__rulebook_train_place_3_0, if_pos (dpos (by omega)), getI_nat hx, bind_some']
    rfl) t.l.length N 0 (by have := h.ln; omega) (by omega)
  simp only [Int.natCast_zero, List.drop_zero, List.take_zero, sumL_nil] at hb
  unfold train_beyond__rulebook_train_place_3
  rw [hb, bind_some']
  rcases res_first (pSum 3 a t.l) t.l 0 with ⟨h1, h2⟩ | ⟨h1, h2⟩
  · rw [h1, h2]
  · rw [h1]
theorem size_ok (N : Nat) (k : Int) (w : Wagon) : r36_size N k w = some (szOf k w) := by
  unfold r36_size szOf
  simp only [lt_def, beq_iff_eq]
  split
  · rfl
  · split <;> rfl
/-- The reference adds up the first wagons. -/
theorem rsum_loop (N : Nat) {l : List Wagon} (h : Vd l) (r : Rule) {j : Nat} (hj : j < l.length) : ∀ (q n i : Nat), q < n → i + q = j + 1 →
    r36_breaks_2 N l j r n (sumL (szOf r.kind) (l.take i)) i = some (sumL (szOf r.kind) (l.take (j + 1)))
  | q, 0, i, hn, _ => by omega
  | 0, n + 1, i, hn, hi => by
    obtain rfl : i = j + 1 := by omega
    rw [r36_breaks_2, if_neg (lneg (by omega))]
  | q + 1, n + 1, i, hn, hi => by
    have hlt : i < l.length := by omega
    have hl := h.ln
    have tb := take_bound (szOf_rg h r.kind) h.ln (i + 1)
    have ts := take_sum (f := szOf r.kind) (at_lt hlt)
    rw [r36_breaks_2, if_pos (lpos (by omega)), getI_nat (at_lt hlt), bind_some', size_ok, bind_some', lt_def, lt_def, ← ts, w64 (by omega) (by omega), w64s (by omega)]
    exact rsum_loop N h r hj q n (i + 1) (by omega) (by omega)
/-! ### Classes that stand apart -/
def cls (a b : Int) (x y : Wagon) : Bool := decide ((x.goods = a ∧ y.goods = b) ∨ (x.goods = b ∧ y.goods = a))
/-- Does a wagon ahead stand too near? -/
def pNear (r : Rule) (j : Nat) (w : Wagon) (k : Nat) (x : Wagon) : Bool := cls r.a r.b x w && decide ((j : Int) - k - 1 < r.c)
def pApart (r : Rule) (l : List Wagon) (j : Nat) (w : Wagon) : Bool := decide (0 ≤ firstI (pNear r j w) 0 (l.take j))
theorem apart1 (N : Nat) {r : Rule} {j k : Nat} (hj : j ≤ 1000) (hk : k ≤ 1000) (x w : Wagon) : train_apart_1 N j r k x.goods w.goods = some (pNear r j w k x) := by
  unfold train_apart_1 pNear cls
  rw [w64 (n := (j : Int) - k) (by omega) (by omega), w64 (by omega) (by omega)]
  by_cases h : (j : Int) - k - 1 < r.c
  · rw [if_pos (dpos h), dpos h, Bool.and_true]
    by_cases h1 : x.goods = r.a
    · rw [if_pos (by simpa using h1)]
      by_cases h2 : w.goods = r.b
      · rw [if_pos (by simpa using h2)]; simp [h1, h2]
      · rw [if_neg (by simpa using h2)]
        by_cases h3 : x.goods = r.b
        · rw [if_pos (by simpa using h3)]
          refine sbe ?_
          simp only [beq_iff_eq, decide_eq_true_eq]; omega
        · rw [if_neg (by simpa using h3)]
          refine sbe ?_
          simp only [Bool.false_eq_true, decide_eq_true_eq, false_iff]; omega
    · rw [if_neg (by simpa using h1)]
      by_cases h3 : x.goods = r.b
      · rw [if_pos (by simpa using h3)]
        refine sbe ?_
        simp only [beq_iff_eq, decide_eq_true_eq]; omega
      · rw [if_neg (by simpa using h3)]
        refine sbe ?_
        simp only [Bool.false_eq_true, decide_eq_true_eq, false_iff]; omega
  · rw [if_neg (dneg h), decide_eq_false h, Bool.and_false]
theorem classes_ok (N : Nat) (a b : Int) (x y : Wagon) : r36_classes N x y a b = some (cls a b x y) := by
  unfold r36_classes r36_classes_0 cls
  simp only [lt_def, beq_iff_eq]
  repeat' split
  all_goals
    rw [bind_some']
    refine sbe ?_
    simp only [beq_iff_eq, decide_eq_true_eq, Bool.false_eq_true, true_iff, false_iff]
    omega
theorem near_ok (N : Nat) {r : Rule} {l : List Wagon} (hl : l.length ≤ 1000) {j k : Nat} {x w : Wagon} (hw : l[j]? = some w) (hx : l[k]? = some x) : r36_breaks_4 N l j r k = some (pNear r j w k x) := by
  have h1 := (List.getElem?_eq_some_iff.1 hw).1
  have h2 := (List.getElem?_eq_some_iff.1 hx).1
  unfold r36_breaks_4 pNear
  rw [getI_nat hx, bind_some', getI_nat hw, bind_some', classes_ok, bind_some', w64 (n := (j : Int) - k) (by omega) (by omega), w64 (by omega) (by omega)]
  cases cls r.a r.b x w <;> rfl
theorem near_res {r : Rule} {l : List Wagon} {j : Nat} {w : Wagon} : (match res (pNear r j w) (fun _ _ => true) 0 (l.take j) with | .inl _ => false | .inr y => y) = pApart r l j w := by
  unfold pApart
  have key : ∀ (m : List Wagon) (i : Nat), (match res (pNear r j w) (fun _ _ => true) i m with | .inl _ => false | .inr y => y) = decide (0 ≤ firstI (pNear r j w) i m) := by
    intro m
    induction m with
    | nil => intro i; rfl
    | cons x m ih =>
      intro i
      rw [res, firstI]
      by_cases hp : pNear r j w i x = true
      · rw [if_pos hp, if_pos hp, lpos (by omega)]
      · rw [if_neg hp, if_neg hp]; exact ih _
  exact key _ _
theorem apart_ok (N : Nat) (hN : 1001 ≤ N) {t : Train} (hl : t.l.length ≤ 1000) {r : Rule} {j : Nat} {w : Wagon} (hw : t.l[j]? = some w) : train_apart N t r j = some (pApart r t.l j w) := by
  have hj := (List.getElem?_eq_some_iff.1 hw).1
  have hlen : (t.l.take j).length = j := by simp; omega
  have h := first_gen (l := t.l.take j) (pNear r j w) (fun _ _ => true) (fun n k => train_apart_0 N j t r j n k) (fun n => by
    show train_apart_0 N j t r j (n + 1) _ = _
    rw [train_apart_0, if_neg (dneg (by omega))]) (fun n k x hx => by
    show train_apart_0 N j t r j (n + 1) _ = _
    have hlt := (List.getElem?_eq_some_iff.1 hx).1
    have hx' : t.l[k]? = some x := by rw [List.getElem?_take] at hx; split at hx <;> simp_all
    rw [train_apart_0, if_pos (dpos (by omega)), getI_nat hx', bind_some', getI_nat hw, bind_some', apart1 N (by omega) (by omega), bind_some', w64s (by omega)]) j N 0 (by omega) (by omega)
  simp only [Int.natCast_zero, List.drop_zero] at h
  unfold train_apart
  rw [h, bind_some', ← near_res]
  cases res (pNear r j w) (fun _ _ => true) 0 (t.l.take j) <;> rfl
theorem rapart_ok (N : Nat) (hN : 1001 ≤ N) {l : List Wagon} (hl : l.length ≤ 1000) {r : Rule} {j : Nat} {w : Wagon} (hw : l[j]? = some w) : r36_breaks_3 N l j r N 0 = some (res (pNear r j w) (fun _ _ => true) 0 (l.take j)) := by
  have hj := (List.getElem?_eq_some_iff.1 hw).1
  have hlen : (l.take j).length = j := by simp; omega
  have h := first_gen (l := l.take j) (pNear r j w) (fun _ _ => true) (fun n k => r36_breaks_3 N l j r n k) (fun n => by
    show r36_breaks_3 N l j r (n + 1) _ = _
    rw [r36_breaks_3, if_neg (dneg (by omega))]) (fun n k x hx => by
    show r36_breaks_3 N l j r (n + 1) _ = _
    have hlt := (List.getElem?_eq_some_iff.1 hx).1
    have hx' : l[k]? = some x := by rw [List.getElem?_take] at hx; split at hx <;> simp_all
    rw [r36_breaks_3, if_pos (dpos (by omega)), near_ok N hl hw hx', bind_some', lt_def, w64s (by omega)]) j N 0 (by omega) (by omega)
  simpa using h
end Go.W
end
section
set_option linter.unusedVariables false
set_option linter.unusedSimpArgs false
set_option maxRecDepth 100000
namespace Go.W
open Go.AM
def pEng (r : Rule) (i : Nat) (w : Wagon) : Bool := (w.goods == r.a) && decide ((i : Int) < r.b)
def pLoad (r : Rule) (_ : Nat) (w : Wagon) : Bool := decide (r.a * w.axles < w.mass)
def pLight (r : Rule) (l : List Wagon) (i : Nat) (w : Wagon) : Bool := decide (w.mass ≤ r.a) && decide (r.b < sumL (·.mass) (l.drop (i + 1)))
theorem firstM {l : List Wagon} {p : Nat → Wagon → Bool} {x : Option (Sum Unit Int)} (h : x = some (res p (fun i _ => (i : Int)) 0 l)) : (Option.bind x fun y => match y with | .inl _ => some (-1) | .inr y => some y) = some (firstI p 0 l) := by
  rw [h, bind_some']
  rcases res_first p l 0 with ⟨h1, h2⟩ | ⟨h1, h2⟩
  · rw [h1, h2]
  · rw [h1]
theorem first4 (N : Nat) (hN : 1001 ≤ N) {t : Train} (hl : t.l.length ≤ 1000) (r : Rule) : train_first__rulebook_train_place_4 N t (t, r) = some (firstI (pApart r t.l) 0 t.l) := by
  unfold train_first__rulebook_train_place_4
  refine firstM ?_
  have h := first_gen (l := t.l) (pApart r t.l) (fun i _ => (i : Int)) (fun n i => train_first__rulebook_train_place_4_0 N (t, r) t.l t.l.length n i) (fun n => by
    show train_first__rulebook_train_place_4_0 N (t, r) t.l t.l.length (n + 1) _ = _
    rw [train_first__rulebook_train_place_4_0, if_neg (dneg (by omega))]) (fun n i x hx => by
    show train_first__rulebook_train_place_4_0 N (t, r) t.l t.l.length (n + 1) _ = _
    have hlt := (List.getElem?_eq_some_iff.1 hx).1
    rw [train_first__rulebook_train_place_4_0, if_pos (dpos (by omega)), getI_nat hx, bind_some', rulebook_train_place_4, apart_ok N hN hl hx, bind_some', bind_some', w64s (by omega)]) t.l.length N 0 (by omega) (by omega)
  simpa using h
theorem first5 (N : Nat) (hN : 1001 ≤ N) {t : Train} (hl : t.l.length ≤ 1000) (r : Rule) : train_first__rulebook_train_place_5 N t r = some (firstI (pEng r) 0 t.l) := by
  unfold train_first__rulebook_train_place_5
  refine firstM ?_
  have h := first_gen (l := t.l) (pEng r) (fun i _ => (i : Int)) (fun n i => train_first__rulebook_train_place_5_0 N r t.l t.l.length n i) (fun n => by
    show train_first__rulebook_train_place_5_0 N r t.l t.l.length (n + 1) _ = _
    rw [train_first__rulebook_train_place_5_0, if_neg (dneg (by omega))]) (fun n i x hx => by
    show train_first__rulebook_train_place_5_0 N r t.l t.l.length (n + 1) _ = _
    have hlt := (List.getElem?_eq_some_iff.1 hx).1
    have e : rulebook_train_place_5_0 N i r x = some (pEng r i x) := by
      unfold rulebook_train_place_5_0 pEng
      split <;> simp_all [lt_def]
    rw [train_first__rulebook_train_place_5_0, if_pos (dpos (by omega)), getI_nat hx, bind_some', rulebook_train_place_5, e, bind_some', bind_some', w64s (by omega)]) t.l.length N 0 (by omega) (by omega)
  simpa using h
theorem load_w {r : Rule} (hr : rvalid r = true) {l : List Wagon} (h : Vd l) {i : Nat} {x : Wagon} (hx : l[i]? = some x) : IntKind.wrap .i64 (r.a * x.axles) = r.a * x.axles := by
  have hr := rvalid_iff.1 hr
  have hx := h.at hx
  have h1 : 0 ≤ r.a * x.axles := Int.mul_nonneg (by omega) (by omega)
  have h2 : r.a * x.axles ≤ 1000000 * 6 := Int.mul_le_mul (by omega) (by omega) (by omega) (by omega)
  exact w64 (by omega) (by omega)
theorem first6 (N : Nat) (hN : 1001 ≤ N) {t : Train} (h : Vd t.l) {r : Rule} (hr : rvalid r = true) : train_first__rulebook_train_place_6 N t r = some (firstI (pLoad r) 0 t.l) := by
  have hl := h.ln
  unfold train_first__rulebook_train_place_6
  refine firstM ?_
  have h := first_gen (l := t.l) (pLoad r) (fun i _ => (i : Int)) (fun n i => train_first__rulebook_train_place_6_0 N r t.l t.l.length n i) (fun n => by
    show train_first__rulebook_train_place_6_0 N r t.l t.l.length (n + 1) _ = _
    rw [train_first__rulebook_train_place_6_0, if_neg (dneg (by omega))]) (fun n i x hx => by
    show train_first__rulebook_train_place_6_0 N r t.l t.l.length (n + 1) _ = _
    have hlt := (List.getElem?_eq_some_iff.1 hx).1
    rw [train_first__rulebook_train_place_6_0, if_pos (dpos (by omega)), getI_nat hx, bind_some', rulebook_train_place_6, lt_def, bind_some', load_w hr h hx, w64s (by omega)]
    rfl) t.l.length N 0 (by omega) (by omega)
  simpa using h
theorem mass_rg {l : List Wagon} (h : Vd l) : ∀ w ∈ l, 0 ≤ w.mass ∧ w.mass ≤ 2000 := fun w hw => by have := h.rg w hw; omega
theorem behind_loop (N : Nat) {l : List Wagon} (hl : l.length ≤ 96) (h : ∀ w ∈ l, 0 ≤ w.mass ∧ w.mass ≤ 2000) (hN : 1001 ≤ N) : train_behind_0 N l l.length N 0 0 = some (sumL (·.mass) l) := by
  have hb := fold_gen (l := l) (fun i (x : Wagon) (s : Int) => s + x.mass) (fun s => s) (fun i s => s = sumL (·.mass) (l.take i)) (fun n s i => train_behind_0 N l l.length n s i) (fun n s _ => by
    show train_behind_0 N l l.length (n + 1) s _ = _
    rw [train_behind_0, if_neg (dneg (by omega))]) (fun n i x s hx hs => by
    show train_behind_0 N l l.length (n + 1) s _ = train_behind_0 N l l.length n _ _ ∧ _
    have hlt := (List.getElem?_eq_some_iff.1 hx).1
    have tb := take_bound (f := (·.mass)) h hl (i + 1)
    have ts := take_sum (f := (·.mass)) hx
    rw [train_behind_0, if_pos (dpos (by omega)), getI_nat hx, bind_some', lt_def, hs, ← ts, w64 (by omega) (by omega), w64s (by omega)]
    exact ⟨rfl, rfl⟩) l.length N 0 0 (by omega) (by omega) rfl
  simp only [Int.natCast_zero, List.drop_zero] at hb
  rw [hb.1, hb.2, List.take_length]
theorem behind_ok (N : Nat) (hN : 1001 ≤ N) {t : Train} (h : Vd t.l) {i : Nat} (hi : i < t.l.length) : train_behind N t i = some (sumL (·.mass) (t.l.drop (i + 1))) := by
  have hl := h.ln
  unfold train_behind
  rw [w64s (by omega), cutI_drop (by omega), bind_some', behind_loop N (by simp; omega) (fun w hw => mass_rg h w (List.mem_of_mem_drop hw)) hN]
  rfl
theorem first7 (N : Nat) (hN : 1001 ≤ N) {t : Train} (h : Vd t.l) (r : Rule) : train_first__rulebook_train_place_7 N t (r, t) = some (firstI (pLight r t.l) 0 t.l) := by
  have hl := h.ln
  unfold train_first__rulebook_train_place_7
  refine firstM ?_
  have h := first_gen (l := t.l) (pLight r t.l) (fun i _ => (i : Int)) (fun n i => train_first__rulebook_train_place_7_0 N (r, t) t.l t.l.length n i) (fun n => by
    show train_first__rulebook_train_place_7_0 N (r, t) t.l t.l.length (n + 1) _ = _
    rw [train_first__rulebook_train_place_7_0, if_neg (dneg (by omega))]) (fun n i x hx => by
    show train_first__rulebook_train_place_7_0 N (r, t) t.l t.l.length (n + 1) _ = _
    have hlt := (List.getElem?_eq_some_iff.1 hx).1
    have e : rulebook_train_place_7_0 N i r t x = some (pLight r t.l i x) := by
      unfold rulebook_train_place_7_0 pLight
      rw [behind_ok N hN h hlt]
      by_cases hm : x.mass ≤ r.a
      · rw [if_pos (lpos hm), lpos hm]; rfl
      · rw [if_neg (lneg hm), decide_eq_false hm]; rfl
    rw [train_first__rulebook_train_place_7_0, if_pos (dpos (by omega)), getI_nat hx, bind_some', rulebook_train_place_7, e, bind_some', bind_some', w64s (by omega)]) t.l.length N 0 (by omega) (by omega)
  simpa using h
theorem rlight_loop (N : Nat) {l : List Wagon} (h : Vd l) {j : Nat} (hj : j ≤ l.length) : ∀ (q n i : Nat), q < n → i + q = l.length → j ≤ i →
    r36_breaks_6 N l n (sumL (·.mass) (l.take i) - sumL (·.mass) (l.take j)) i = some (sumL (·.mass) (l.drop j))
  | q, 0, i, hn, _, _ => by omega
  | 0, n + 1, i, hn, hi, _ => by
    obtain rfl : i = l.length := by omega
    rw [r36_breaks_6, if_neg (dneg (by omega)), List.take_length]
    have := sumL_append (·.mass) (l.take j) (l.drop j)
    rw [List.take_append_drop] at this
    congr 1; omega
  | q + 1, n + 1, i, hn, hi, hij => by
    have hlt : i < l.length := by omega
    have hl := h.ln
    have tb := take_bound (f := (·.mass)) (mass_rg h) h.ln (i + 1)
    have tb2 := take_bound (f := (·.mass)) (mass_rg h) h.ln j
    have ts := take_sum (f := (·.mass)) (at_lt hlt)
    have hw := mass_rg h _ (List.getElem_mem hlt)
    rw [r36_breaks_6, if_pos (dpos (by omega)), getI_nat (at_lt hlt), bind_some', lt_def, lt_def, show sumL (·.mass) (l.take i) - sumL (·.mass) (l.take j) + l[i].mass = sumL (·.mass) (l.take (i + 1)) - sumL (·.mass) (l.take j) by omega, w64 (by omega) (by omega), w64s (by omega)]
    exact rlight_loop N h hj q n (i + 1) (by omega) (by omega) (by omega)
/-- The condition of a rule of places. -/
def pOf (r : Rule) (l : List Wagon) : Nat → Wagon → Bool :=
  if r.kind = 1 ∨ r.kind = 2 ∨ r.kind = 3 then pSum r.kind r.a l else if r.kind = 5 then pApart r l else if r.kind = 6 then pEng r else if r.kind = 8 then pLoad r else pLight r l
theorem breaks_ok (N : Nat) (hN : 1001 ≤ N) {r : Rule} (hr : rvalid r = true) (h4 : r.kind ≠ 4) (h7 : r.kind ≠ 7) {l : List Wagon} (h : Vd l) {i : Nat} {w : Wagon} (hw : l[i]? = some w) : r36_breaks N r l i = some (pOf r l i w) := by
  have hlt := (List.getElem?_eq_some_iff.1 hw).1
  have hl := h.ln
  have hv := rvalid_iff.1 hr
  unfold r36_breaks r36_breaks_0 pOf
  rw [lt_def, show r36_breaks_1 N r.kind (r.kind == 1) = some (decide (r.kind = 1 ∨ r.kind = 2 ∨ r.kind = 3)) from by
    unfold r36_breaks_1
    by_cases a : r.kind = 1 <;> by_cases b : r.kind = 2 <;> by_cases c : r.kind = 3 <;> simp [a, b, c, lt_def], bind_some']
  by_cases a : r.kind = 1 ∨ r.kind = 2 ∨ r.kind = 3
  · have hs := rsum_loop N h r hlt (i + 1) N 0 (by omega) (by omega)
    simp only [Int.natCast_zero, List.take_zero, sumL_nil] at hs
    rw [if_pos (by simpa using a), if_pos a, hs]
    rfl
  · rw [if_neg (by simpa using a), if_neg a, lt_def]
    by_cases b : r.kind = 5
    · rw [if_pos (by simpa using b), if_pos b, rapart_ok N hN (by omega) hw, bind_some', ← near_res]
      cases res (pNear r i w) (fun _ _ => true) 0 (l.take i) <;> rfl
    · rw [if_neg (by simpa using b), if_neg b, lt_def]
      by_cases c : r.kind = 6
      · rw [if_pos (by simpa using c), if_pos c, show r36_breaks_5 N l i r = some (pEng r i w) from by
          unfold r36_breaks_5 pEng
          rw [getI_nat hw, bind_some']
          split <;> simp_all [lt_def]]
        rfl
      · rw [if_neg (by simpa using c), if_neg c, lt_def]
        by_cases d : r.kind = 8
        · rw [if_pos (by simpa using d), if_pos d, getI_nat hw, bind_some', bind_some', lt_def, load_w hr h hw]
          rfl
        · rw [if_neg (by simpa using d), if_neg d, lt_def, if_pos (by simp; omega), lt_def, w64s (by omega)]
          have hs := rlight_loop N h (j := i + 1) (by omega) (l.length - (i + 1)) N (i + 1) (by omega) (by omega) (by omega)
          rw [Int.sub_self] at hs
          rw [hs, bind_some', show r36_breaks_7 N l i r (sumL (·.mass) (l.drop (i + 1))) = some (pLight r l i w) from by
            unfold r36_breaks_7 pLight
            rw [getI_nat hw, bind_some']
            by_cases hm : w.mass ≤ r.a
            · rw [if_pos (lpos hm), lpos hm]; rfl
            · rw [if_neg (lneg hm), decide_eq_false hm]; rfl]
          rfl
/-! ### The last wagons -/
/-- How many wagons are braked. -/
def cnt (off : List Int) : Nat → List Wagon → Int
  | _, [] => 0
  | i, w :: l => (if 0 < w.brake ∧ (i : Int) ∉ off then 1 else 0) + cnt off (i + 1) l
theorem cnt_bound (off : List Int) : ∀ (l : List Wagon) (i : Nat), 0 ≤ cnt off i l ∧ cnt off i l ≤ l.length
  | [], i => by simp [cnt]
  | w :: l, i => by
    have := cnt_bound off l (i + 1)
    rw [cnt, List.length_cons]
    split <;> omega
theorem has_ok (N : Nat) (hN : 1001 ≤ N) {l : List Int} (hl : l.length ≤ 1000) (x : Int) : slices_Contains_int_int N l x = some (decide (x ∈ l)) := by
  have h := first_gen (l := l) (fun _ y => x == y) (fun i _ => (i : Int)) (fun n i => slices_Index_int_int_0 N l x l.length n i) (fun n => by
    show slices_Index_int_int_0 N l x l.length (n + 1) _ = _
    rw [slices_Index_int_int_0, if_neg (dneg (by omega))]) (fun n i y hy => by
    show slices_Index_int_int_0 N l x l.length (n + 1) _ = _
    have hlt := (List.getElem?_eq_some_iff.1 hy).1
    rw [slices_Index_int_int_0, if_pos (dpos (by omega)), getI_nat hy, bind_some', w64s (by omega)]) l.length N 0 (by omega) (by omega)
  simp only [Int.natCast_zero, List.drop_zero] at h
  unfold slices_Contains_int_int slices_Index_int_int
  rw [h, bind_some']
  rcases res_first (fun _ (y : Int) => x == y) l 0 with ⟨h1, h2⟩ | ⟨h1, h2⟩
  · rw [h1]
    rcases firstI_spec (fun _ (y : Int) => x == y) l 0 with ⟨_, h4⟩ | ⟨j, y, h4, _⟩
    · rw [decide_eq_false]
      · rfl
      · intro hm
        obtain ⟨j, hj⟩ := List.getElem?_of_mem hm
        have := h4 j x hj
        simp at this
    · rw [h2] at h4; omega
  · rw [h1]
    rcases firstI_spec (fun _ (y : Int) => x == y) l 0 with ⟨h3, _⟩ | ⟨j, y, h4, h5, h6, _⟩
    · omega
    · have : x ∈ l := by rw [show x = y by simpa using h6]; exact List.mem_of_getElem? h5
      rw [decide_eq_true this]
      simp only [bind_some', lt_def, lpos h2]
theorem tail_loop (N : Nat) (hN : 1001 ≤ N) {t : Train} (hl : t.l.length ≤ 1000) (ho : t.off.length ≤ 1000) : ∀ (q n i : Nat) (s : Int), q < n → i + q = t.l.length → 0 ≤ s → s ≤ i →
    train_tail_0 N t n s i = some (s + cnt t.off i (t.l.drop i)) ∧ r36_place_1 N t.l t.off t.l.length n s i = some (s + cnt t.off i (t.l.drop i))
  | q, 0, i, s, hn, _, _, _ => by omega
  | 0, n + 1, i, s, hn, hi, _, _ => by
    obtain rfl : i = t.l.length := by omega
    rw [train_tail_0, r36_place_1, if_neg (dneg (by omega)), if_neg (dneg (by omega)), List.drop_length, cnt, Int.add_zero]
    exact ⟨rfl, rfl⟩
  | q + 1, n + 1, i, s, hn, hi, h0, h1 => by
    have hlt : i < t.l.length := by omega
    have e : train_tail_2 N t i = some (decide (0 < t.l[i].brake ∧ (i : Int) ∉ t.off)) ∧ r36_place_3 N t.l t.off i = some (decide (0 < t.l[i].brake ∧ (i : Int) ∉ t.off)) := by
      unfold train_tail_2 r36_place_3
      rw [getI_nat (at_lt hlt), bind_some', bind_some', has_ok N hN ho, off_ok N ho hN, bind_some']
      by_cases hb : 0 < t.l[i].brake
      · rw [if_pos (dpos hb)]; simp [hb]
      · rw [if_neg (dneg hb)]; simp [hb]
    rw [train_tail_0, r36_place_1, if_pos (dpos (by omega)), if_pos (dpos (by omega)), train_tail_1, r36_place_2, e.1, e.2, drop_at (at_lt hlt), cnt]
    simp only [bind_some', lt_def, w64s (show i < 9223372036854775807 by omega)]
    by_cases hc : 0 < t.l[i].brake ∧ (i : Int) ∉ t.off
    · rw [if_pos (by simpa using hc), if_pos hc, w64 (n := s + 1) (by omega) (by omega), ← Int.add_assoc]
      simp only [bind_some']
      exact tail_loop N hN hl ho q n (i + 1) (s + 1) (by omega) (by omega) (by omega) (by omega)
    · rw [if_neg (by simpa using hc), if_neg hc, Int.zero_add]
      simp only [bind_some']
      exact tail_loop N hN hl ho q n (i + 1) s (by omega) (by omega) (by omega) (by omega)
/-- How many wagons at the end a rule looks at. -/
def lastN (r : Rule) (l : List Wagon) : Nat := (min r.a (l.length : Int)).toNat
def tailB (r : Rule) (l : List Wagon) (off : List Int) : Bool := decide (cnt off (l.length - lastN r l) (l.drop (l.length - lastN r l)) < min r.b (lastN r l))
theorem lastN_eq {r : Rule} (hr : rvalid r = true) (l : List Wagon) : min r.a (l.length : Int) = (lastN r l : Int) ∧ lastN r l ≤ l.length := by
  have := rvalid_iff.1 hr
  unfold lastN
  omega
theorem tail_ok (N : Nat) (hN : 1001 ≤ N) {t : Train} (hl : t.l.length ≤ 96) (ho : t.off.length ≤ 1000) {r : Rule} (hr : rvalid r = true) : train_tail N t r = some (tailB r t.l t.off) := by
  obtain ⟨e, hle⟩ := lastN_eq hr t.l
  unfold train_tail tailB
  simp only [lt_def, e]
  rw [show (t.l.length : Int) - (lastN r t.l : Int) = ((t.l.length - lastN r t.l : Nat) : Int) by omega, w64 (by omega) (by omega),
    (tail_loop N hN (by omega) ho (lastN r t.l) N (t.l.length - lastN r t.l) 0 (by omega) (by omega) (by omega) (by omega)).1, bind_some', Int.zero_add]
/-- The place at which a train breaks a rule, or -1. -/
def plc (r : Rule) (l : List Wagon) (off : List Int) (pc : Int) : Int :=
  if r.kind = 4 then (if 0 < l.length ∧ pc < r.a then (l.length : Int) else -1) else if r.kind = 7 then (if tailB r l off = true then (l.length : Int) else -1) else firstI (pOf r l) 0 l
theorem place_ok' (N : Nat) (hN : 1001 ≤ N) {t : Train} (h : Vd t.l) (ho : t.off.length ≤ 1000) {r : Rule} (hr : rvalid r = true) : train_place N t r = some (plc r t.l t.off t.total.percent) := by
  have hl := h.ln
  have hv := rvalid_iff.1 hr
  unfold train_place plc
  simp only [lt_def, beq_iff_eq]
  by_cases k1 : r.kind = 1
  · rw [if_pos k1, if_neg (by omega), if_neg (by omega), beyond1 N hN h, bind_some', show pOf r t.l = pSum 1 r.a t.l from by rw [pOf, if_pos (.inl k1), k1]]
  rw [if_neg k1]
  by_cases k2 : r.kind = 2
  · rw [if_pos k2, if_neg (by omega), if_neg (by omega), beyond2 N hN h, bind_some', show pOf r t.l = pSum 2 r.a t.l from by rw [pOf, if_pos (.inr (.inl k2)), k2]]
  rw [if_neg k2]
  by_cases k3 : r.kind = 3
  · rw [if_pos k3, if_neg (by omega), if_neg (by omega), beyond3 N hN h, bind_some', show pOf r t.l = pSum 3 r.a t.l from by rw [pOf, if_pos (.inr (.inr k3)), k3]]
  rw [if_neg k3]
  have kk : ¬ (r.kind = 1 ∨ r.kind = 2 ∨ r.kind = 3) := by omega
  by_cases k4 : r.kind = 4
  · rw [if_pos k4, if_pos k4]
    unfold train_place_0 train_end
    by_cases hz : 0 < t.l.length
    · rw [if_pos (dpos (by omega))]
      by_cases hp : t.total.percent < r.a
      · rw [if_pos (dpos hp), if_pos ⟨hz, hp⟩]; rfl
      · rw [if_neg (dneg hp), if_neg (fun hh => hp hh.2)]; rfl
    · rw [if_neg (dneg (by omega)), if_neg (by simp), if_neg (fun hh => hz hh.1)]; rfl
  rw [if_neg k4, if_neg k4]
  by_cases k5 : r.kind = 5
  · rw [if_pos k5, if_neg (by omega), first4 N hN (by omega), bind_some', show pOf r t.l = pApart r t.l from by rw [pOf, if_neg kk, if_pos k5]]
  rw [if_neg k5]
  by_cases k6 : r.kind = 6
  · rw [if_pos k6, if_neg (by omega), first5 N hN (by omega), bind_some', show pOf r t.l = pEng r from by rw [pOf, if_neg kk, if_neg k5, if_pos k6]]
  rw [if_neg k6]
  by_cases k7 : r.kind = 7
  · rw [if_pos k7, if_pos k7, tail_ok N hN hl ho hr, bind_some']
    unfold train_end
    cases tailB r t.l t.off <;> rfl
  rw [if_neg k7, if_neg k7]
  by_cases k8 : r.kind = 8
  · rw [if_pos k8, first6 N hN h hr, bind_some', show pOf r t.l = pLoad r from by rw [pOf, if_neg kk, if_neg k5, if_neg k6, if_pos k8]]
  rw [if_neg k8, first7 N hN h, bind_some', show pOf r t.l = pLight r t.l from by rw [pOf, if_neg kk, if_neg k5, if_neg k6, if_neg k8]]
theorem rplace_ok (N : Nat) (hN : 1001 ≤ N) {l : List Wagon} (hF : l.length ≤ 96 → ∀ w ∈ l, Fu N w) (h : Vd l) {off : List Int} (ho : off.length ≤ 1000) {r : Rule} (hr : rvalid r = true) : r36_place N r l off = some (plc r l off (tot l off).1.percent) := by
  have hl := h.ln
  have hv := rvalid_iff.1 hr
  unfold r36_place plc
  simp only [lt_def, beq_iff_eq]
  by_cases k4 : r.kind = 4
  · rw [if_pos k4, if_pos k4, (tot_ok N hN hF ho).2, bind_some']
    unfold r36_place_0
    by_cases hz : 0 < l.length
    · rw [if_pos (dpos (by omega)), bind_some']
      by_cases hp : (tot l off).1.percent < r.a
      · rw [if_pos (dpos hp), if_pos ⟨hz, hp⟩]
      · rw [if_neg (dneg hp), if_neg (fun hh => hp hh.2)]
    · rw [if_neg (dneg (by omega)), bind_some', if_neg (by simp), if_neg (fun hh => hz hh.1)]
  rw [if_neg k4, if_neg k4]
  by_cases k7 : r.kind = 7
  · rw [if_pos k7, if_pos k7]
    obtain ⟨e, hle⟩ := lastN_eq hr l
    unfold tailB
    simp only [e]
    have := (tail_loop N hN (t := Train.mk l off (tot l off).1) (by dsimp only; omega) ho (lastN r l) N (l.length - lastN r l) 0 (by omega) (by dsimp only; omega) (by omega) (by omega)).2
    dsimp only at this
    rw [show (l.length : Int) - (lastN r l : Int) = ((l.length - lastN r l : Nat) : Int) by omega, w64 (by omega) (by omega), this, bind_some', Int.zero_add]
    by_cases hc : cnt off (l.length - lastN r l) (l.drop (l.length - lastN r l)) < min r.b (lastN r l)
    · rw [if_pos (dpos hc), if_pos (dpos hc)]
    · rw [if_neg (dneg hc), if_neg (dneg hc)]
  rw [if_neg k7, if_neg k7]
  refine firstM ?_
  have h := first_gen (l := l) (pOf r l) (fun i _ => (i : Int)) (fun n i => r36_place_4 N l r l.length n i) (fun n => by
    show r36_place_4 N l r l.length (n + 1) _ = _
    rw [r36_place_4, if_neg (dneg (by omega))]) (fun n i x hx => by
    show r36_place_4 N l r l.length (n + 1) _ = _
    have hlt := (List.getElem?_eq_some_iff.1 hx).1
    rw [r36_place_4, if_pos (dpos (by omega)), breaks_ok N hN hr k4 k7 h hx, bind_some', lt_def, w64s (by omega)]) l.length N 0 (by omega) (by omega)
  simpa using h
/-- What 'Check' answers. -/
def checkF (l : List Wagon) (off : List Int) (pc : Int) : List Rule → Int × Int × Int
  | [] => (0, -1, 0)
  | r :: rs => if 0 ≤ plc r l off pc then (r.number, plc r l off pc, 0) else checkF l off pc rs
def checkR (rs : List Rule) (l : List Wagon) (off : List Int) : Int × Int × Int :=
  if rErr rs = 0 then (if (tot l off).2 = 0 then checkF l off (tot l off).1.percent rs else (0, 0, (tot l off).2)) else (0, 0, rErr rs)
theorem check_res (l : List Wagon) (off : List Int) (pc : Int) : ∀ (rs : List Rule) (i : Nat), (match res (fun _ r => decide (0 ≤ plc r l off pc)) (fun _ r => (r.number, plc r l off pc, (0 : Int))) i rs with | .inl _ => some ((0 : Int), (-1 : Int), (0 : Int)) | .inr y => some y) = some (checkF l off pc rs)
  | [], i => rfl
  | r :: rs, i => by
    rw [res, checkF]
    by_cases h : 0 ≤ plc r l off pc
    · rw [if_pos (lpos h), if_pos h]
    · rw [if_neg (lneg h), if_neg h]; exact check_res l off pc rs (i + 1)
theorem check_ok (N : Nat) (hN : 1001 ≤ N) {rs : List Rule} (hrs : rs.length ≤ 1000) {l : List Wagon} (hF : l.length ≤ 96 → ∀ w ∈ l, Fu N w) {off : List Int} (ho : off.length ≤ 1000) : rulebook_Check N rs l off = some (checkR rs l off) ∧ r36_Check N rs l off = some (checkR rs l off) := by
  obtain ⟨t1, t2⟩ := tot_ok N hN hF ho
  obtain ⟨v1, v2⟩ := rules_ok N hN hrs
  unfold rulebook_Check r36_Check checkR
  by_cases hr : rErr rs = 0
  · by_cases he : (tot l off).2 = 0
    · have hv := Vd.of (tot_bound he).1
      have hz := rErr_zero hr
      have h1 := first_gen (l := rs) (fun _ r => decide (0 ≤ plc r l off (tot l off).1.percent)) (fun _ r => (r.number, plc r l off (tot l off).1.percent, (0 : Int))) (fun n i => rulebook_Check_0 N (Train.mk l off (tot l off).1) rs rs.length n i) (fun n => by
        show rulebook_Check_0 N (Train.mk l off (tot l off).1) rs rs.length (n + 1) _ = _
        rw [rulebook_Check_0, if_neg (dneg (by omega))]) (fun n i x hx => by
        show rulebook_Check_0 N (Train.mk l off (tot l off).1) rs rs.length (n + 1) _ = _
        have hlt := (List.getElem?_eq_some_iff.1 hx).1
        rw [rulebook_Check_0, if_pos (dpos (by omega)), getI_nat hx, bind_some', place_ok' N hN hv ho (hz.2 x (List.mem_of_getElem? hx)), bind_some', w64s (by omega)]) rs.length N 0 (by omega) (by omega)
      have h2 := first_gen (l := rs) (fun _ r => decide (0 ≤ plc r l off (tot l off).1.percent)) (fun _ r => (r.number, plc r l off (tot l off).1.percent, (0 : Int))) (fun n i => r36_Check_0 N rs l off n i) (fun n => by
        show r36_Check_0 N rs l off (n + 1) _ = _
        rw [r36_Check_0, if_neg (dneg (by omega))]) (fun n i x hx => by
        show r36_Check_0 N rs l off (n + 1) _ = _
        have hlt := (List.getElem?_eq_some_iff.1 hx).1
        rw [r36_Check_0, if_pos (dpos (by omega)), getI_nat hx, bind_some', rplace_ok N hN hF hv ho (hz.2 x (List.mem_of_getElem? hx)), bind_some', lt_def, w64s (by omega)]
        rfl) rs.length N 0 (by omega) (by omega)
      simp only [Int.natCast_zero, List.drop_zero] at h1 h2
      have e0 : ((tot l off).2 != 0) = false := by simp [he]
      have hc := check_res l off (tot l off).1.percent rs 0
      simp only [v1, v2, bind_some', hr, bne00, Bool.false_eq_true, if_false, if_true, t1, t2, e0, he]
      rw [show (Train.mk l off (Brakes.mk (tot l off).1.length (tot l off).1.axles (tot l off).1.mass (tot l off).1.braked (tot l off).1.percent (tot l off).1.required (tot l off).1.missing)) = Train.mk l off (tot l off).1 from rfl, h1, h2]
      exact ⟨hc, hc⟩
    · have e0 : ((tot l off).2 != 0) = true := by simpa using he
      simp only [v1, v2, bind_some', hr, bne00, Bool.false_eq_true, if_false, if_true, t1, t2, e0, he, and_self]
  · have e0 : (rErr rs != 0) = true := by simpa using hr
    simp only [v1, v2, bind_some', hr, e0, if_false, if_true, and_self]
end Go.W
end
section
set_option linter.unusedVariables false
set_option linter.unusedSimpArgs false
set_option maxRecDepth 100000
namespace Go.W
open Go.AM
theorem made_fu {N : Nat} (hN : 20 ≤ N) {l : List Wagon} (h : MadeL l) : l.length ≤ 96 → ∀ w ∈ l, Fu N w := fun _ w hw => wagErr_fu (h.ok w hw) hN
/-- The answer for a valid list and valid cut brakes. -/
def total1 (l : List Wagon) (off : List Int) : Brakes := Brakes.mk (sumL (·.length) l) (sumL (·.axles) l) (sumL (·.mass) l) (brk off 0 l * factor (sumL (·.length) l) / 100)
    (if 0 < sumL (·.mass) l then 100 * (brk off 0 l * factor (sumL (·.length) l) / 100) / sumL (·.mass) l else 0) 0 0
theorem tot_eq {l : List Wagon} {off : List Int} (h1 : listErr l = 0) (h2 : offErr l.length off = 0) : tot l off = (total1 l off, 0) := by
  unfold tot
  rw [if_neg (by simp [h1]), if_neg (by simp [h2])]
  rfl
end Go.W
end
section
set_option linter.unusedVariables false
set_option linter.unusedSimpArgs false
set_option maxRecDepth 100000
namespace Go.W
open Go.AM
theorem rule_gen (N : Nat) {c : Int} {s : Maker} (hs : Mk c s) (hc : c ≤ 800000000) {num : Int} (h1 : 1 ≤ num) (h2 : num ≤ 9999) :
    ∃ r s', yardgen_Rule N s num = some (r, s') ∧ Mk (c + 10) s' ∧ r.number = num ∧ rvalid r = true := by
  obtain ⟨k, s1, e1, k0, k1, m1⟩ := next_ok N 9 (by omega) (by omega) hs (by omega)
  unfold yardgen_Rule
  rw [e1, bind_some']
  simp only [w64 (show -9223372036854775808 ≤ 1 + k by omega) (by omega)]
  have fin : ∀ {a b cc : Int} {s' : Maker}, 0 ≤ a → a ≤ 1000000 → 0 ≤ b → b ≤ 1000000 → 0 ≤ cc → cc ≤ 1000000 → rvalid (Rule.mk num (1 + k) a b cc) = true := by
    intro a b cc s' _ _ _ _ _ _
    rw [rvalid_iff]; dsimp only; omega
  have key : ∃ r s', yardgen_Rule_0 N s1 (Rule.mk num (1 + k) 0 0 0) (1 + k) = some (s', r) ∧ Mk (c + 10) s' ∧ r.number = num ∧ rvalid r = true := by
    unfold yardgen_Rule_0
    simp only [lt_def, beq_iff_eq]
    split
    · obtain ⟨a, s2, e2, ha, m2⟩ := pick_ok N [0, 262, 700, 1500, 10000] (by simp) (by simp) m1 (by omega)
      rw [e2, bind_some']
      simp only [List.mem_cons, List.not_mem_nil, or_false] at ha
      exact ⟨_, _, rfl, m2.le (by omega), rfl, fin (s' := s2) (by omega) (by omega) (by omega) (by omega) (by omega) (by omega)⟩
    split
    · obtain ⟨a, s2, e2, ha, m2⟩ := pick_ok N [3, 8, 16, 40] (by simp) (by simp) m1 (by omega)
      rw [e2, bind_some']
      simp only [List.mem_cons, List.not_mem_nil, or_false] at ha
      exact ⟨_, _, rfl, m2.le (by omega), rfl, fin (s' := s2) (by omega) (by omega) (by omega) (by omega) (by omega) (by omega)⟩
    split
    · obtain ⟨a, s2, e2, ha, m2⟩ := pick_ok N [400, 1600, 4000, 20000] (by simp) (by simp) m1 (by omega)
      rw [e2, bind_some']
      simp only [List.mem_cons, List.not_mem_nil, or_false] at ha
      exact ⟨_, _, rfl, m2.le (by omega), rfl, fin (s' := s2) (by omega) (by omega) (by omega) (by omega) (by omega) (by omega)⟩
    split
    · obtain ⟨a, s2, e2, ha, m2⟩ := pick_ok N [0, 30, 50, 80] (by simp) (by simp) m1 (by omega)
      rw [e2, bind_some']
      simp only [List.mem_cons, List.not_mem_nil, or_false] at ha
      exact ⟨_, _, rfl, m2.le (by omega), rfl, fin (s' := s2) (by omega) (by omega) (by omega) (by omega) (by omega) (by omega)⟩
    split
    · obtain ⟨a, s2, e2, ha, m2⟩ := pick_ok N [1, 3, 9] (by simp) (by simp) m1 (by omega)
      obtain ⟨b, s3, e3, hb, m3⟩ := pick_ok N [0, 1, 3] (by simp) (by simp) m2 (by omega)
      obtain ⟨d, s4, e4, d0, d1, m4⟩ := next_ok N 4 (by omega) (by omega) m3 (by omega)
      rw [e2, bind_some', e3, bind_some', e4, bind_some']
      simp only [List.mem_cons, List.not_mem_nil, or_false] at ha hb
      exact ⟨_, _, rfl, m4.le (by omega), rfl, fin (s' := s2) (by omega) (by omega) (by omega) (by omega) (by omega) (by omega)⟩
    split
    · obtain ⟨a, s2, e2, ha, m2⟩ := pick_ok N [0, 1, 3] (by simp) (by simp) m1 (by omega)
      obtain ⟨d, s4, e4, d0, d1, m4⟩ := next_ok N 4 (by omega) (by omega) m2 (by omega)
      rw [e2, bind_some', e4, bind_some']
      simp only [List.mem_cons, List.not_mem_nil, or_false] at ha
      exact ⟨_, _, rfl, m4.le (by omega), rfl, fin (s' := s2) (by omega) (by omega) (by omega) (by omega) (by omega) (by omega)⟩
    split
    · obtain ⟨a, s2, e2, a0, a1, m2⟩ := next_ok N 5 (by omega) (by omega) m1 (by omega)
      obtain ⟨d, s4, e4, d0, d1, m4⟩ := next_ok N 4 (by omega) (by omega) m2 (by omega)
      rw [e2, bind_some', e4, bind_some']
      exact ⟨_, _, rfl, m4.le (by omega), rfl, fin (s' := s2) (by omega) (by omega) (by omega) (by omega) (by omega) (by omega)⟩
    split
    · obtain ⟨a, s2, e2, ha, m2⟩ := pick_ok N [50, 200, 500] (by simp) (by simp) m1 (by omega)
      rw [e2, bind_some']
      simp only [List.mem_cons, List.not_mem_nil, or_false] at ha
      exact ⟨_, _, rfl, m2.le (by omega), rfl, fin (s' := s2) (by omega) (by omega) (by omega) (by omega) (by omega) (by omega)⟩
    · obtain ⟨a, s2, e2, ha, m2⟩ := pick_ok N [100, 400] (by simp) (by simp) m1 (by omega)
      obtain ⟨b, s3, e3, hb, m3⟩ := pick_ok N [0, 800, 3000] (by simp) (by simp) m2 (by omega)
      rw [e2, bind_some', e3, bind_some']
      simp only [List.mem_cons, List.not_mem_nil, or_false] at ha hb
      exact ⟨_, _, rfl, m3.le (by omega), rfl, fin (s' := s2) (by omega) (by omega) (by omega) (by omega) (by omega) (by omega)⟩
  obtain ⟨r, s', g1, g2, g3, g4⟩ := key
  rw [g1, bind_some']
  exact ⟨r, s', rfl, g2, g3, g4⟩
/-- Made rules: valid, with ascending numbers. -/
def MadeR (l : List Rule) : Prop := ∀ (i : Nat) (r : Rule), l[i]? = some r → rvalid r = true ∧ 10 * (i : Int) + 1 ≤ r.number ∧ r.number ≤ 10 * (i : Int) + 9
theorem MadeR.nil : MadeR [] := fun i r h => by simp at h
theorem MadeR.snoc {l : List Rule} (h : MadeR l) {r : Rule} (hr : rvalid r = true) (h1 : 10 * (l.length : Int) + 1 ≤ r.number) (h2 : r.number ≤ 10 * (l.length : Int) + 9) : MadeR (l ++ [r]) := by
  intro i x hx
  by_cases hi : i < l.length
  · rw [List.getElem?_append_left hi] at hx; exact h i x hx
  · rw [List.getElem?_append_right (by omega)] at hx
    have hlt := (List.getElem?_eq_some_iff.1 hx).1
    simp at hlt
    have : i = l.length := by omega
    subst this
    simp at hx; subst hx; exact ⟨hr, h1, h2⟩
theorem res_none {α β : Type} {p : Nat → α → Bool} {out : Nat → α → β} : ∀ {l : List α} {i : Nat}, (∀ (j : Nat) (x : α), l[j]? = some x → p (i + j) x = false) → res p out i l = .inl ()
  | [], i, _ => rfl
  | x :: xs, i, h => by
    have h0 := h 0 x (by simp)
    rw [Nat.add_zero] at h0
    rw [res, if_neg (by rw [h0]; simp)]
    refine res_none fun j y hj => ?_
    have := h (j + 1) y (by simpa using hj)
    rwa [show i + 1 + j = i + (j + 1) by omega]
theorem MadeR.err {l : List Rule} (h : MadeR l) (hl : l.length ≤ 32) : rErr l = 0 := by
  unfold rErr
  rw [if_neg (by omega), res_none]
  intro j x hx
  obtain ⟨h1, h2, h3⟩ := h j x hx
  rw [Nat.zero_add, rp, h1]
  simp only [Bool.not_true, Bool.false_or, decide_eq_false_iff_not]
  intro hm
  obtain ⟨y, hy, he⟩ := List.mem_map.1 hm
  obtain ⟨k, hk⟩ := List.getElem?_of_mem hy
  have hk' : l[k]? = some y ∧ k < j := by
    rw [List.getElem?_take] at hk
    split at hk
    · exact ⟨hk, by assumption⟩
    · cases hk
  obtain ⟨g1, g2, g3⟩ := h k y hk'.1
  omega
theorem rules_loop (N : Nat) : ∀ (k n : Nat) (s : Maker) (out : List Rule) (c : Int), k < n → Mk c s → c + 11 * k ≤ 700000000 → out.length + k ≤ 32 → MadeR out →
    ∃ s' out', yardgen_Rules_0 N n s out k = some (s', out') ∧ Mk (c + 11 * k) s' ∧ out'.length = out.length + k ∧ MadeR out'
  | k, 0, s, out, c, hn, _, _, _, _ => by omega
  | 0, n + 1, s, out, c, hn, hs, _, hl, ho => by
    rw [yardgen_Rules_0, if_neg (dneg (by omega))]
    exact ⟨s, out, rfl, by simpa using hs, rfl, ho⟩
  | k + 1, n + 1, s, out, c, hn, hs, hc, hl, ho => by
    obtain ⟨a, s1, e1, a0, a1, m1⟩ := next_ok N 9 (by omega) (by omega) hs (by omega)
    obtain ⟨r, s2, e2, m2, n2, v2⟩ := rule_gen N m1 (by omega) (num := 10 * (out.length : Int) + 1 + a) (by omega) (by omega)
    rw [yardgen_Rules_0, if_pos (dpos (by omega)), e1, bind_some']
    simp only [w64 (n := 10 * (out.length : Int)) (by omega) (by omega), w64 (n := 10 * (out.length : Int) + 1) (by omega) (by omega), w64 (n := 10 * (out.length : Int) + 1 + a) (by omega) (by omega), e2, bind_some']
    rw [appI_ok (by simp; omega), bind_some', lt_def, w64p (by omega)]
    obtain ⟨s', out', g1, g2, g3, g4⟩ := rules_loop N k n s2 (out ++ [r]) (c + 1 + 10) (by omega) m2 (by omega) (by simp; omega) (ho.snoc v2 (by omega) (by omega))
    exact ⟨s', out', g1, g2.le (by omega), by simp at g3; omega, g4⟩
theorem rules_gen (N : Nat) (hN : 1001 ≤ N) {c : Int} {s : Maker} (hs : Mk c s) (hc : c ≤ 600000000) (m : Nat) (hm : m ≤ 20) :
    ∃ l s', yardgen_Rules N s m = some (l, s') ∧ Mk (c + 1000) s' ∧ l.length ≤ m ∧ MadeR l := by
  unfold yardgen_Rules
  rw [w64s (by omega)]
  obtain ⟨k, s1, e1, k0, k1, m1⟩ := next_ok N ((m + 1 : Nat) : Int) (by omega) (by omega) hs (by omega)
  obtain ⟨k, rfl⟩ := Int.eq_ofNat_of_zero_le k0
  obtain ⟨s2, l, e2, m2, hl, ho⟩ := rules_loop N k N s1 [] (c + 1) (by omega) m1 (by omega) (by simp; omega) MadeR.nil
  rw [e1, bind_some']
  simp only []
  rw [e2, bind_some']
  exact ⟨l, s2, rfl, m2.le (by omega), by simp at hl; omega, ho⟩
/-! ### Places -/
theorem firstI_rg {α : Type} (p : Nat → α → Bool) (l : List α) : firstI p 0 l = -1 ∨ (0 ≤ firstI p 0 l ∧ firstI p 0 l < l.length) := by
  rcases firstI_spec p l 0 with ⟨h, _⟩ | ⟨j, x, h, hj, _⟩
  · exact .inl h
  · have := (List.getElem?_eq_some_iff.1 hj).1
    right; omega
theorem plc_rg (r : Rule) (l : List Wagon) (off : List Int) (pc : Int) : plc r l off pc = -1 ∨ (0 ≤ plc r l off pc ∧ plc r l off pc ≤ l.length) := by
  unfold plc
  split
  · split
    · right; omega
    · exact .inl rfl
  · split
    · split
      · right; omega
      · exact .inl rfl
    · rcases firstI_rg (pOf r l) l with h | h
      · exact .inl h
      · right; omega
/-- The error of a part of a made list. -/
theorem sub_err {l l' : List Wagon} (h : listErr l = 0) (hs : List.Sublist l' l) : listErr l' = 0 := by
  obtain ⟨h1, h2, h3⟩ := listErr_zero.1 h
  refine listErr_zero.2 ⟨Nat.le_trans hs.length_le h1, fun w hw => h2 w (hs.subset hw), ?_⟩
  exact List.Nodup.sublist (hs.map _) h3
theorem err_fu {N : Nat} (hN : 20 ≤ N) {l : List Wagon} (h : listErr l = 0) : l.length ≤ 96 → ∀ w ∈ l, Fu N w := fun _ w hw => wagErr_fu ((listErr_zero.1 h).2.1 w hw) hN
theorem off_nil (n : Nat) : offErr n [] = 0 := rfl
end Go.W
end
section
set_option linter.unusedVariables false
set_option linter.unusedSimpArgs false
set_option maxRecDepth 100000
namespace Go.W
open Go.AM
/-- Ascending numbers below 'm'. -/
structure Asc (off : List Int) (m : Nat) : Prop where
  nd : off.Nodup
  rg : ∀ o ∈ off, 0 ≤ o ∧ o ≤ (m : Int) - 1
  ln : off.length ≤ m
theorem Asc.err {off : List Int} {m : Nat} (h : Asc off m) : offErr m off = 0 := by
  unfold offErr
  rw [if_pos (List.all_eq_true.2 fun o ho => inB_iff.2 (h.rg o ho)), if_pos h.nd]
theorem offg_loop (N : Nat) {m : Nat} (hm : m ≤ 1000) : ∀ (k n i : Nat) (s : Maker) (out : List Int) (c : Int), k < n → i + k = m → Mk c s → c + k ≤ 900000000 → Asc out i →
    ∃ s' out', yardgen_Off_0 N m n s out i = some (s', out') ∧ Mk (c + k) s' ∧ Asc out' m
  | k, 0, i, s, out, c, hn, _, _, _, _ => by omega
  | 0, n + 1, i, s, out, c, hn, hi, hs, _, ho => by
    rw [yardgen_Off_0, if_neg (dneg (by omega))]
    obtain rfl : i = m := by omega
    exact ⟨s, out, rfl, by simpa using hs, ho⟩
  | k + 1, n + 1, i, s, out, c, hn, hi, hs, hc, ho => by
    obtain ⟨r, s1, h1, r0, r1, m1⟩ := next_ok N 4 (by omega) (by omega) hs (by omega)
    have h2 : ∃ out1, yardgen_Off_1 N s out i = some (s1, out1) ∧ Asc out1 (i + 1) := by
      unfold yardgen_Off_1
      rw [h1, bind_some']
      by_cases hz : r = 0
      · have hl := ho.ln
        rw [if_pos (by simp [hz]), appI_ok (by simp; omega), bind_some']
        refine ⟨_, rfl, ?_, fun o hx => ?_, by simp; omega⟩
        · rw [List.nodup_append]
          refine ⟨ho.nd, by simp, fun x hx y hy => ?_⟩
          simp at hy
          have := ho.rg x hx
          omega
        · rcases List.mem_append.1 hx with hx | hx
          · have := ho.rg o hx; omega
          · simp at hx; omega
      · rw [if_neg (by simpa using hz)]
        exact ⟨_, rfl, ho.nd, fun o hx => by have := ho.rg o hx; omega, by have := ho.ln; omega⟩
    obtain ⟨out1, h2, a1⟩ := h2
    rw [yardgen_Off_0, if_pos (dpos (by omega)), h2, bind_some', lt_def, w64s (by omega)]
    obtain ⟨s', out', g1, g2, g3⟩ := offg_loop N hm k n (i + 1) s1 out1 (c + 1) (by omega) (by omega) m1 (by omega) a1
    exact ⟨s', out', g1, g2.le (by omega), g3⟩
theorem offg_ok (N : Nat) {m : Nat} (hm : m ≤ 1000) (hN : 1001 ≤ N) {c : Int} {s : Maker} (hs : Mk c s) (hc : c ≤ 800000000) :
    ∃ off s', yardgen_Off N s m = some (off, s') ∧ Mk (c + 1000) s' ∧ Asc off m := by
  unfold yardgen_Off
  obtain ⟨s', off, h1, m1, h2⟩ := offg_loop N hm m N 0 s [] c (by omega) (by omega) hs (by omega) ⟨by simp, by simp, by simp⟩
  simp only [Int.natCast_zero] at h1
  rw [h1, bind_some']
  exact ⟨off, s', rfl, m1.le (by omega), h2⟩
end Go.W
end
section
set_option linter.unusedVariables false
set_option linter.unusedSimpArgs false
set_option maxRecDepth 100000
namespace Go.W
open Go.AM
/-- What 'Place' answers. -/
def placeR (r : Rule) (l : List Wagon) (off : List Int) : Int × Int :=
  if rvalid r = true then (if (tot l off).2 = 0 then (plc r l off (tot l off).1.percent, 0) else (0, (tot l off).2)) else (0, 1)
theorem placeR_ok (N : Nat) (hN : 1001 ≤ N) {l : List Wagon} (hF : l.length ≤ 96 → ∀ w ∈ l, Fu N w) {off : List Int} (ho : off.length ≤ 1000) (r : Rule) : rulebook_Place N r l off = some (placeR r l off) ∧ r36_Place N r l off = some (placeR r l off) := by
  obtain ⟨t1, t2⟩ := tot_ok N hN hF ho
  unfold rulebook_Place r36_Place placeR
  by_cases hr : rvalid r = true
  · by_cases he : (tot l off).2 = 0
    · have hv := Vd.of (tot_bound he).1
      have e0 : ((tot l off).2 != 0) = false := by simp [he]
      simp only [prule N (show 5 ≤ N by omega), rrule, bind_some', hr, Bool.not_true, Bool.false_eq_true, if_false, if_true, t1, t2, e0, bne00, he, place_ok' N hN (t := Train.mk l off (Brakes.mk (tot l off).1.length (tot l off).1.axles (tot l off).1.mass (tot l off).1.braked (tot l off).1.percent (tot l off).1.required (tot l off).1.missing)) hv ho hr, rplace_ok N hN hF hv ho hr, and_self]
    · have e0 : ((tot l off).2 != 0) = true := by simpa using he
      simp only [prule N (show 5 ≤ N by omega), rrule, bind_some', hr, Bool.not_true, Bool.false_eq_true, if_false, if_true, t1, t2, e0, he, and_self]
  · have hr' : rvalid r = false := by simpa using hr
    simp only [prule N (show 5 ≤ N by omega), rrule, bind_some', hr', Bool.not_false, Bool.false_eq_true, if_false, if_true, and_self]
theorem placeR_nil {r : Rule} (hr : rvalid r = true) {l : List Wagon} (h : listErr l = 0) : placeR r l [] = (plc r l [] (total1 l []).percent, 0) := by
  unfold placeR
  rw [if_pos hr, tot_eq h (off_nil _), if_pos rfl]
theorem placeR_eq {r : Rule} (hr : rvalid r = true) {l : List Wagon} {off : List Int} (h : listErr l = 0) (ho : offErr l.length off = 0) : placeR r l off = (plc r l off (total1 l off).percent, 0) := by
  unfold placeR
  rw [if_pos hr, tot_eq h ho, if_pos rfl]
theorem sane36 (M : Nat) : l36_sane (M + 60) = some true := by rfl
theorem sane36' {N : Nat} (h : 60 ≤ N) : l36_sane N = some true := by
  obtain ⟨M, rfl⟩ : ∃ M, N = M + 60 := ⟨N - 60, by omega⟩
  exact sane36 M
end Go.W
end
section
set_option linter.unusedVariables false
set_option linter.unusedSimpArgs false
set_option maxRecDepth 100000
namespace Go.W
open Go.AM
theorem spoil_ok (N : Nat) {c : Int} {s : Maker} (hs : Mk c s) (hc : c ≤ 800000000) {l : List UInt8} (hl : l.length ≤ 5000) :
    ∃ l' s', Maker_Spoil N s l = some (l', s') ∧ Mk (c + 3) s' ∧ l'.length ≤ l.length + 1 := by
  have u8 : ∀ r : Int, 0 ≤ r → r < 256 → ∃ u, toU8 (IntKind.wrap .u8 r) = some u := fun r h0 h1 => by
    rw [w8 h0 (by omega)]; unfold toU8; rw [if_pos (by omega)]; exact ⟨_, rfl⟩
  unfold Maker_Spoil
  by_cases he : l = []
  · obtain ⟨r, s1, h1, r0, r1, m1⟩ := next_ok N 256 (by omega) (by omega) hs (by omega)
    obtain ⟨u, hu⟩ := u8 r r0 r1
    rw [if_pos (by simp [he]), h1, bind_some', hu, bind_some', lt_def]
    exact ⟨_, _, rfl, m1.le (by omega), by simp⟩
  · have hpos : 1 ≤ l.length := by
      cases l with
      | nil => exact absurd rfl he
      | cons a t => simp
    obtain ⟨r, s1, h1, r0, r1, m1⟩ := next_ok N (l.length : Int) (by omega) (by omega) hs (by omega)
    obtain ⟨r, rfl⟩ := Int.eq_ofNat_of_zero_le r0
    obtain ⟨q, s2, h2, q0, q1, m2⟩ := next_ok N 4 (by omega) (by omega) m1 (by omega)
    have c1 : cutI l 0 (r : Int) = some (l.take r) := cutI_take (by omega)
    have c2 : cutI l ((r + 1 : Nat) : Int) (l.length : Int) = some (l.drop (r + 1)) := cutI_drop (by omega)
    have c3 : cutI l (r : Int) (l.length : Int) = some (l.drop r) := cutI_drop (by omega)
    have d1 : (l.take r).length = r := by simp; omega
    have d2 : (l.drop (r + 1)).length = l.length - (r + 1) := by simp
    have d3 : (l.drop r).length = l.length - r := by simp
    obtain ⟨v, s3, h3, v0, v1, m3⟩ := next_ok N 256 (by omega) (by omega) m2 (by omega)
    obtain ⟨w, s4, h4, w0, w1, m4⟩ := next_ok N 10 (by omega) (by omega) m2 (by omega)
    obtain ⟨u, hu⟩ := u8 v v0 v1
    obtain ⟨u', hu', _⟩ := dig_u8 w0 w1
    rw [if_neg (by simpa using he), h1, bind_some', h2, bind_some', lt_def]
    dsimp only
    rw [w64s (by omega)]
    by_cases a : q = 0
    · rw [if_pos (by simp [a]), c1, bind_some', c2, bind_some', appI_ok (by omega), bind_some']
      exact ⟨_, _, rfl, m2.le (by omega), by simp; omega⟩
    rw [if_neg (by simpa using a), lt_def]
    by_cases b : q = 1
    · rw [if_pos (by simp [b]), c1, bind_some', h3, bind_some']
      dsimp only
      rw [hu, bind_some', appI_ok (by simp; omega), bind_some', c3, bind_some', appI_ok (by simp; omega), bind_some']
      exact ⟨_, _, rfl, m3.le (by omega), by simp; omega⟩
    rw [if_neg (by simpa using b), lt_def]
    by_cases d : q = 2
    · rw [if_pos (by simp [d]), c1, bind_some', h4, bind_some']
      dsimp only
      rw [hu', bind_some', appI_ok (by simp; omega), bind_some', c2, bind_some', appI_ok (by simp; omega), bind_some']
      exact ⟨_, _, rfl, m4.le (by omega), by simp; omega⟩
    · rw [if_neg (by simpa using d), c1, bind_some', h3, bind_some']
      dsimp only
      rw [hu, bind_some', appI_ok (by simp; omega), bind_some', c2, bind_some', appI_ok (by simp; omega), bind_some']
      exact ⟨_, _, rfl, m3.le (by omega), by simp; omega⟩
theorem spoilw_ok (N : Nat) {c : Int} {s : Maker} (hs : Mk c s) (hc : c ≤ 700000000) {w : Wagon} (h1 : w.number.length ≤ 900) (h2 : w.dest.length ≤ 900) :
    ∃ w' s', Maker_SpoilWagon N s w = some (w', s') ∧ Mk (c + 10) s' ∧ w'.number.length ≤ 901 ∧ w'.dest.length ≤ 901 := by
  unfold Maker_SpoilWagon
  obtain ⟨q, s1, e1, q0, q1, m1⟩ := next_ok N 8 (by omega) (by omega) hs (by omega)
  rw [e1, bind_some']
  dsimp only
  have hp : ∀ l : List Int, 1 ≤ l.length → l.length ≤ 1000 → ∃ x s', Maker_Pick N s1 l = some (x, s') ∧ Mk (c + 10) s' := fun l a b => by
    obtain ⟨x, s', h, _, m⟩ := pick_ok N l a b m1 (by omega)
    exact ⟨x, s', h, m.le (by omega)⟩
  have key : ∃ w' s', Maker_SpoilWagon_0 N s1 w q = some (s', w') ∧ Mk (c + 10) s' ∧ w'.number.length ≤ 901 ∧ w'.dest.length ≤ 901 := by
    unfold Maker_SpoilWagon_0
    rw [lt_def]
    by_cases a0 : q = 0
    · obtain ⟨l', s', h, m, hl⟩ := spoil_ok N m1 (by omega) (l := w.number) (by omega)
      rw [if_pos (by simp [a0]), h, bind_some']
      exact ⟨_, _, rfl, m.le (by omega), by dsimp only; omega, by dsimp only; omega⟩
    rw [if_neg (by simpa using a0), lt_def]
    by_cases a1 : q = 1
    · obtain ⟨x, s', h, m⟩ := hp [0, 2, 4, 6, 8, (-1)] (by simp) (by simp)
      rw [if_pos (by simp [a1]), h, bind_some']
      exact ⟨_, _, rfl, m, by dsimp only; omega, by dsimp only; omega⟩
    rw [if_neg (by simpa using a1), lt_def]
    by_cases a2 : q = 2
    · obtain ⟨x, s', h, m⟩ := hp [79, 80, 119, 401, 0, (-5)] (by simp) (by simp)
      rw [if_pos (by simp [a2]), h, bind_some']
      exact ⟨_, _, rfl, m, by dsimp only; omega, by dsimp only; omega⟩
    rw [if_neg (by simpa using a2), lt_def]
    by_cases a3 : q = 3
    · obtain ⟨x, s', h, m⟩ := hp [49, 50, 2001, (-1)] (by simp) (by simp)
      rw [if_pos (by simp [a3]), h, bind_some']
      exact ⟨_, _, rfl, m, by dsimp only; omega, by dsimp only; omega⟩
    rw [if_neg (by simpa using a3), lt_def]
    by_cases a4 : q = 4
    · obtain ⟨x, s', h, m⟩ := hp [(-1), w.mass, (IntKind.wrap .i64 (w.mass + 1))] (by simp) (by simp)
      rw [if_pos (by simp [a4]), h, bind_some']
      exact ⟨_, _, rfl, m, by dsimp only; omega, by dsimp only; omega⟩
    rw [if_neg (by simpa using a4), lt_def]
    by_cases a5 : q = 5
    · obtain ⟨x, s', h, m⟩ := hp [(-1), 9, 10] (by simp) (by simp)
      rw [if_pos (by simp [a5]), h, bind_some']
      exact ⟨_, _, rfl, m, by dsimp only; omega, by dsimp only; omega⟩
    rw [if_neg (by simpa using a5), lt_def]
    by_cases a6 : q = 6
    · obtain ⟨r, s2, e2, r0, r1, m2⟩ := next_ok N 5 (by omega) (by omega) m1 (by omega)
      have hg : ∃ d, getI ([[], [65], [97, 32, 98], [97, 98, 99, 100, 101, 102, 103, 104, 105, 106, 107, 108, 109], [45]] : List (List UInt8)) r = some d ∧ d.length ≤ 13 := by
        have : r = 0 ∨ r = 1 ∨ r = 2 ∨ r = 3 ∨ r = 4 := by omega
        rcases this with rfl | rfl | rfl | rfl | rfl <;> exact ⟨_, rfl, by simp⟩
      obtain ⟨d, hd, hl⟩ := hg
      rw [if_pos (by simp [a6]), e2, bind_some']
      dsimp only
      rw [hd, bind_some']
      exact ⟨_, _, rfl, m2.le (by omega), by dsimp only; omega, by dsimp only; omega⟩
    · rw [if_neg (by simpa using a6)]
      exact ⟨_, _, rfl, m1.le (by omega), by omega, by omega⟩
  obtain ⟨w', s', h, m, l1, l2⟩ := key
  rw [h, bind_some']
  exact ⟨w', s', rfl, m, l1, l2⟩
theorem fu_900 {N : Nat} (hN : 1001 ≤ N) {w : Wagon} (h1 : w.number.length ≤ 901) (h2 : w.dest.length ≤ 901) : Fu N w := ⟨⟨by omega, by omega⟩, by omega, by omega⟩
end Go.W
end
section
set_option linter.unusedVariables false
set_option linter.unusedSimpArgs false
set_option maxRecDepth 100000
namespace Go.W
open Go.AM
theorem exact36 (N : Nat) (hN : 1001 ≤ N) {rs : List Rule} (hrs : rs.length ≤ 1000) {l : List Wagon} (hF : l.length ≤ 96 → ∀ w ∈ l, Fu N w) {off : List Int} (ho : off.length ≤ 1000) : l36_exact N rs l off = some true := by
  obtain ⟨c1, c2⟩ := check_ok N hN hrs hF ho
  obtain ⟨v1, v2⟩ := rules_ok N hN hrs
  have h := first_gen (l := rs) (fun _ _ => false) (fun _ _ => false) (fun n i => l36_exact_0 N rs l off n i) (fun n => by
    show l36_exact_0 N rs l off (n + 1) _ = _
    rw [l36_exact_0, if_neg (dneg (by omega))]) (fun n i x hx => by
    show l36_exact_0 N rs l off (n + 1) _ = _
    have hlt := (List.getElem?_eq_some_iff.1 hx).1
    obtain ⟨p1, p2⟩ := placeR_ok N hN hF ho x
    rw [l36_exact_0, if_pos (dpos (by omega)), getI_nat hx, bind_some', p1, bind_some', bind_some', p2, bind_some', l36_exact_1, if_neg (by simp), bne_self_eq_false, bind_some', lt_def, w64s (by omega)]) rs.length N 0 (by omega) (by omega)
  simp only [Int.natCast_zero, List.drop_zero] at h
  rw [res_none (fun _ _ _ => rfl)] at h
  unfold l36_exact
  rw [c1, c2, bind_some', bind_some', h, bind_some']
  dsimp only
  unfold l36_exact_2
  simp only [beq_self_eq_true, if_true, v1, v2, bind_some', lt_def]
theorem set_len {α : Type} {l : List α} {n : Nat} {x : α} : (l.set n x).length = l.length := List.length_set
theorem re_loop (N : Nat) (hN : 2000 ≤ N) {r : List Rule} : ∀ (k n i : Nat) (s : Maker) (c : Int), k < n → i + k = 4 → Mk c s → c + 100000 * k ≤ 500000000 → l36_RulebookExact_0 N r n s i = some (.inl ())
  | k, 0, i, s, c, hn, _, _, _ => by omega
  | 0, n + 1, i, s, c, hn, hi, hs, _ => by
    rw [l36_RulebookExact_0, if_neg (dneg (by omega))]
  | k + 1, n + 1, i, s, c, hn, hi, hs, hc => by
    obtain ⟨rs, s1, e1, m1, l1, r1⟩ := rules_gen N (by omega) hs (by omega) 7 (by omega)
    obtain ⟨l, s2, e2, m2, l2, d2⟩ := wagons_ok N (by omega) 12 (by omega) m1 (by omega)
    obtain ⟨off, s3, e3, m3, a3⟩ := offg_ok N (m := l.length) (by omega) (by omega) m2 (by omega)
    have hol := a3.ln
    have hlen : ∀ w ∈ l, w.number.length ≤ 901 ∧ w.dest.length ≤ 901 := fun w hw => by
      have := wagErr_len (d2.ok w hw); omega
    have k1 : ∃ b, l36_RulebookExact_1 N i rs = some b ∧ (b = true → 0 < rs.length) := by
      unfold l36_RulebookExact_1
      by_cases e : ((i : Int) == 2) = true
      · rw [if_pos e]
        exact ⟨_, rfl, fun h => by simpa using h⟩
      · rw [if_neg e]; exact ⟨_, rfl, fun h => by cases h⟩
    obtain ⟨b1, k1, hb1⟩ := k1
    have k2 : ∃ s4 rs4, l36_RulebookExact_2 N s3 rs b1 = some (s4, rs4) ∧ Mk (c + 20000) s4 ∧ rs4.length ≤ 7 := by
      unfold l36_RulebookExact_2
      cases b1 with
      | false => exact ⟨_, _, rfl, m3.le (by omega), l1⟩
      | true =>
        have hp := hb1 rfl
        obtain ⟨q, t1, f1, q0, q1, n1⟩ := next_ok N (rs.length : Int) (by omega) (by omega) m3 (by omega)
        obtain ⟨q, rfl⟩ := Int.eq_ofNat_of_zero_le q0
        have hq : q < rs.length := by omega
        have G : ∀ {xs : List Rule}, xs.length = rs.length → ∃ x, getI xs (q : Int) = some x := fun {xs} hx => ⟨xs[q], getI_nat (at_lt (by omega))⟩
        obtain ⟨g0, hg0⟩ : ∃ x, getI rs (0 : Int) = some x := ⟨rs[0], getI_nat (i := 0) (at_lt (by omega))⟩
        have PK : ∀ {c : Int} {s : Maker} (xs : List Int), 1 ≤ xs.length → xs.length ≤ 1000 → Mk c s → c ≤ 600000000 → ∃ x s', Maker_Pick N s xs = some (x, s') ∧ Mk (c + 1) s' := fun xs a b m hc => by
          obtain ⟨x, s', h, _, h2⟩ := pick_ok N xs a b m (by omega)
          exact ⟨x, s', h, h2⟩
        obtain ⟨x1, hx1⟩ := G (xs := rs) rfl
        obtain ⟨y1, t2, f2, n2⟩ := PK [x1.number, 0, 9999, 10000, g0.number] (by simp) (by simp) n1 (by omega)
        obtain ⟨y2, t3, f3, n3⟩ := PK [x1.kind, 0, 9, 10] (by simp) (by simp) n2 (by omega)
        rw [if_pos rfl, f1, bind_some']
        dsimp only
        rw [hx1, bind_some', bind_some', hg0, bind_some', bind_some', f2, bind_some', bind_some']
        dsimp only
        rw [f3, bind_some', bind_some']
        dsimp only
        simp only [lt_def, Int.toNat_natCast]
        obtain ⟨x2, hx2⟩ := G (xs := rs.set q (Rule.mk y1 x1.kind x1.a x1.b x1.c)) set_len
        rw [hx2, bind_some']
        generalize hX3 : (rs.set q (Rule.mk y1 x1.kind x1.a x1.b x1.c)).set q (Rule.mk x2.number y2 x2.a x2.b x2.c) = X3
        have l3 : X3.length = rs.length := by rw [← hX3]; simp
        obtain ⟨x3, hx3⟩ := G l3
        obtain ⟨y3, t4, f4, n4⟩ := PK [x3.a, (-1), 1000000, 1000001] (by simp) (by simp) n3 (by omega)
        obtain ⟨y4, t5, f5, n5⟩ := PK [x3.b, (-1)] (by simp) (by simp) n4 (by omega)
        obtain ⟨y5, t6, f6, n6⟩ := PK [x3.c, (-1)] (by simp) (by simp) n5 (by omega)
        rw [hx3, bind_some', f4, bind_some', bind_some']
        dsimp only
        rw [f5, bind_some', bind_some']
        dsimp only
        rw [f6, bind_some', bind_some']
        dsimp only
        obtain ⟨x4, hx4⟩ := G (xs := X3.set q (Rule.mk x3.number x3.kind y3 x3.b x3.c)) (by rw [set_len, l3])
        rw [hx4, bind_some']
        obtain ⟨x5, hx5⟩ := G (xs := (X3.set q (Rule.mk x3.number x3.kind y3 x3.b x3.c)).set q (Rule.mk x4.number x4.kind x4.a y4 x4.c)) (by rw [set_len, set_len, l3])
        rw [hx5, bind_some']
        exact ⟨_, _, rfl, n6.le (by omega), by rw [set_len, set_len, set_len, l3]; exact l1⟩
    obtain ⟨s4, rs4, k2, m4, l4⟩ := k2
    have k3 : ∃ b, l36_RulebookExact_3 N i l = some b ∧ (b = true → 0 < l.length) := by
      unfold l36_RulebookExact_3
      by_cases e : ((i : Int) == 3) = true
      · rw [if_pos e]
        exact ⟨_, rfl, fun h => by simpa using h⟩
      · rw [if_neg e]; exact ⟨_, rfl, fun h => by cases h⟩
    obtain ⟨b2, k3, hb2⟩ := k3
    have k4 : ∃ s5 l5 off5, l36_RulebookExact_4 N s4 l off b2 = some (s5, l5, off5) ∧ Mk (c + 30000) s5 ∧ off5.length ≤ 100 ∧ ∀ w ∈ l5, w.number.length ≤ 901 ∧ w.dest.length ≤ 901 := by
      unfold l36_RulebookExact_4
      cases b2 with
      | false => exact ⟨_, _, _, rfl, m4.le (by omega), by omega, hlen⟩
      | true =>
        have hp := hb2 rfl
        obtain ⟨q, s4', e4, q0, q1, n4⟩ := next_ok N (l.length : Int) (by omega) (by omega) m4 (by omega)
        obtain ⟨q, rfl⟩ := Int.eq_ofNat_of_zero_le q0
        have hq : q < l.length := by omega
        have hw := hlen _ (List.getElem_mem hq)
        have hw' := wagErr_len (d2.ok _ (List.getElem_mem hq))
        obtain ⟨w', s5, e5, m5, b1, b2⟩ := spoilw_ok N n4 (by omega) (w := l[q]) (by omega) (by omega)
        rw [if_pos rfl, e4, bind_some', getI_nat (at_lt hq), bind_some', bind_some']
        dsimp only
        rw [e5, bind_some', bind_some', bind_some', lt_def]
        dsimp only
        obtain ⟨p, s6, e6, _, m6⟩ := pick_ok N [(-1), 0, ((l.set q w').length : Int)] (by simp) (by simp) m5 (by omega)
        rw [Int.toNat_natCast, e6, bind_some', appI_ok (by simp; omega), bind_some']
        refine ⟨_, _, _, rfl, m6.le (by omega), by simp; omega, fun w hw2 => ?_⟩
        rcases List.mem_or_eq_of_mem_set hw2 with hw2 | rfl
        · exact hlen w hw2
        · exact ⟨b1, b2⟩
    obtain ⟨s5, l5, off5, k4, m5, o5, hl5⟩ := k4
    have k5 : l36_RulebookExact_5 N r rs4 l5 off5 = some false := by
      have hF : l5.length ≤ 96 → ∀ w ∈ l5, Fu N w := fun _ w hw => fu_900 (by omega) (hl5 w hw).1 (hl5 w hw).2
      unfold l36_RulebookExact_5
      rw [exact36 N (by omega) (by omega) hF (by omega), bind_some', if_neg (by decide)]
      by_cases hr : (r.length : Int) < 40
      · rw [if_pos (dpos hr), exact36 N (by omega) (by omega) hF (by omega)]; rfl
      · rw [if_neg (dneg hr)]
    rw [l36_RulebookExact_0, if_pos (dpos (by omega)), show (7 : Int) = ((7 : Nat) : Int) from rfl, e1, bind_some', show (12 : Int) = ((12 : Nat) : Int) from rfl, e2, bind_some']
    dsimp only
    rw [e3, bind_some', k1, bind_some', k2, bind_some', k3, bind_some']
    dsimp only
    rw [k4, bind_some']
    dsimp only
    rw [k5, bind_some', if_neg (by decide), lt_def, w64s (by omega)]
    exact re_loop N hN k n (i + 1) s5 (c + 30000) (by omega) (by omega) m5 (by omega)
theorem rexact_ok (N : Nat) (hN : 2000 ≤ N) (x0 : List Int) (rs : List Rule) (l : List Wagon) (off : List Int) (hF : l.length ≤ 96 → ∀ w ∈ l, Fu N w) : l36_RulebookExact N x0 rs l off = some true := by
  have h0 := re_loop N hN (r := rs) 4 N 0 (Maker.mk x0 0) 0 (by omega) (by omega) (mk0 x0) (by omega)
  simp only [Int.natCast_zero] at h0
  have hs := sane36' (N := N) (by omega)
  unfold l36_RulebookExact gen_New
  rw [bind_some', h0, bind_some']
  dsimp only
  by_cases h1 : rs.length ≤ 40 ∧ l.length ≤ 110 ∧ off.length ≤ 110
  · rw [show l36_RulebookExact_6 N rs l off = some false from by
      unfold l36_RulebookExact_6
      rw [if_neg (dneg (by omega)), if_neg (dneg (by omega)), decide_eq_false (by omega)], bind_some', if_neg (by decide)]
    unfold l36_RulebookExact_7
    rw [exact36 N (by omega) (by omega) hF (by omega), bind_some', if_pos rfl, hs]; rfl
  · rw [show l36_RulebookExact_6 N rs l off = some true from by
      unfold l36_RulebookExact_6
      by_cases a1 : (40 : Int) < rs.length
      · rw [if_pos (dpos a1)]
      · rw [if_neg (dneg a1)]
        by_cases a2 : (110 : Int) < l.length
        · rw [if_pos (dpos a2)]
        · rw [if_neg (dneg a2), decide_eq_true (by omega)], bind_some', if_pos rfl, hs]; rfl
theorem rexactT (x0 : List Int) (w0 : gSl (gInt .i64) x0) (rs : List Rule) (w1 : gSl (fun x : Rule => gInt .i64 x.number ∧ gInt .i64 x.kind ∧ gInt .i64 x.a ∧ gInt .i64 x.b ∧ gInt .i64 x.c) rs)
    (l : List Wagon) (hl : gSl (fun x : Wagon => gStr x.number ∧ gInt .i64 x.length ∧ gInt .i64 x.axles ∧ gInt .i64 x.mass ∧ gInt .i64 x.brake ∧ gInt .i64 x.goods ∧ gAny x.gentle ∧ gStr x.dest) l)
    (off : List Int) (w2 : gSl (gInt .i64) off) : ∃ N, l36_RulebookExact N x0 rs l off = some true := by
  refine ⟨maxLen + 2000, rexact_ok _ (by omega) x0 rs l off fun _ w hw => ?_⟩
  obtain ⟨h1, _, _, _, _, _, _, h2⟩ := hl.2 w hw
  have h3 : maxLen ≤ 9223372036854775807 := by decide
  simp only [gStr] at h1 h2
  exact ⟨⟨by omega, by omega⟩, by omega, by omega⟩
end Go.W
end
