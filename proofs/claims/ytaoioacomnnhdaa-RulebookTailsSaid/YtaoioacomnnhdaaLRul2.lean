/- Rules: the place at which a train breaks one. -/
import Derived.Test.YtaoioacomnnhdaaLRul
set_option linter.unusedVariables false
set_option linter.unusedSimpArgs false
set_option maxRecDepth 100000
namespace Go.W
open Go.AM

/-- A train whose sums are small. -/
structure Vd (l : List Wagon) : Prop where
  ln : l.length ≤ 96
  rg : ∀ w ∈ l, (80 ≤ w.length ∧ w.length ≤ 400) ∧ (50 ≤ w.mass ∧ w.mass ≤ 2000) ∧ (2 ≤ w.axles ∧ w.axles ≤ 6) ∧ 0 ≤ w.brake ∧ w.brake ≤ w.mass
theorem Vd.of {l : List Wagon} (h : listErr l = 0) : Vd l := ⟨(listErr_zero.1 h).1, fun w hw => wag_ranges ((listErr_zero.1 h).2.1 w hw)⟩
theorem Vd.at {l : List Wagon} (h : Vd l) {i : Nat} {w : Wagon} (hi : l[i]? = some w) : (80 ≤ w.length ∧ w.length ≤ 400) ∧ (50 ≤ w.mass ∧ w.mass ≤ 2000) ∧ (2 ≤ w.axles ∧ w.axles ≤ 6) ∧ 0 ≤ w.brake ∧ w.brake ≤ w.mass := h.rg w (List.mem_of_getElem? hi)

/-- What a rule of sums adds up. -/
def szOf (k : Int) (w : Wagon) : Int := if k = 1 then w.length else if k = 2 then w.axles else w.mass
theorem szOf_rg {l : List Wagon} (h : Vd l) (k : Int) : ∀ w ∈ l, 0 ≤ szOf k w ∧ szOf k w ≤ 2000 := by
  intro w hw
  have := h.rg w hw
  unfold szOf
  split
  · omega
  · split <;> omega
theorem take_sum {f : Wagon → Int} {l : List Wagon} {i : Nat} {w : Wagon} (hi : l[i]? = some w) : sumL f (l.take (i + 1)) = sumL f (l.take i) + f w := by
  have hlt := (List.getElem?_eq_some_iff.1 hi).1
  have : l.take (i + 1) = l.take i ++ [w] := by
    rw [List.take_succ_eq_append_getElem hlt]
    have := (List.getElem?_eq_some_iff.1 hi).2
    rw [this]
  rw [this, sumL_append, sumL_cons, sumL_nil]; omega
theorem take_bound {f : Wagon → Int} {l : List Wagon} (h : ∀ w ∈ l, 0 ≤ f w ∧ f w ≤ 2000) (hl : l.length ≤ 96) (i : Nat) : 0 ≤ sumL f (l.take i) ∧ sumL f (l.take i) ≤ 192000 := by
  have := sumL_bound (l := l.take i) fun w hw => h w (List.mem_of_mem_take hw)
  have h2 : (l.take i).length ≤ 96 := by simp; omega
  omega
theorem drop_bound {f : Wagon → Int} {l : List Wagon} (h : ∀ w ∈ l, 0 ≤ f w ∧ f w ≤ 2000) (hl : l.length ≤ 96) (i : Nat) : 0 ≤ sumL f (l.drop i) ∧ sumL f (l.drop i) ≤ 192000 := by
  have := sumL_bound (l := l.drop i) fun w hw => h w (List.mem_of_mem_drop hw)
  have h2 : (l.drop i).length ≤ 96 := by simp; omega
  omega

/-! ### Rules of sums -/
def pSum (k a : Int) (l : List Wagon) (i : Nat) (_ : Wagon) : Bool := decide (a < sumL (szOf k) (l.take (i + 1)))

theorem beyond_gen {F : Nat → Int → Int → Option (Sum Unit Int)} {l : List Wagon} {k a : Int} (h : Vd l) (h0 : ∀ n s, F (n + 1) s (l.length : Int) = some (.inl ()))
    (h1 : ∀ (n i : Nat) (s : Int) (x : Wagon), l[i]? = some x → F (n + 1) s (i : Int) = if (decide (a < IntKind.wrap .i64 (s + szOf k x))) = true then some (.inr (i : Int)) else F n (IntKind.wrap .i64 (s + szOf k x)) (IntKind.wrap .i64 ((i : Int) + 1))) :
    ∀ (q n i : Nat), q < n → i + q = l.length → F n (sumL (szOf k) (l.take i)) (i : Int) = some (res (pSum k a l) (fun i _ => (i : Int)) i (l.drop i))
  | q, 0, i, hn, _ => by omega
  | 0, n + 1, i, hn, hi => by
    obtain rfl : i = l.length := by omega
    rw [h0, List.drop_length, res]
  | q + 1, n + 1, i, hn, hi => by
    have hlt : i < l.length := by omega
    have hl := h.ln
    have tb := take_bound (szOf_rg h k) h.ln (i + 1)
    have ts := take_sum (f := szOf k) (at_lt hlt)
    rw [h1 n i _ _ (at_lt hlt), drop_at (at_lt hlt), res, ← ts, w64 (by omega) (by omega), w64s (by omega)]
    by_cases hp : decide (a < sumL (szOf k) (l.take (i + 1))) = true
    · rw [if_pos hp, if_pos (show pSum k a l i l[i] = true from hp)]
    · rw [if_neg hp, if_neg (show ¬ pSum k a l i l[i] = true from hp)]
      exact beyond_gen h h0 h1 q n (i + 1) (by omega) (by omega)

theorem beyond1 (N : Nat) (hN : 1001 ≤ N) {t : Train} (h : Vd t.l) (a : Int) : train_beyond__rulebook_train_place_1 N t a = some (firstI (pSum 1 a t.l) 0 t.l) := by
  have hb := beyond_gen (F := fun n s i => train_beyond__rulebook_train_place_1_0 N a t.l t.l.length n s i) (k := 1) (a := a) h (fun n s => by
    show train_beyond__rulebook_train_place_1_0 N a t.l t.l.length (n + 1) s _ = _
    rw [train_beyond__rulebook_train_place_1_0, if_neg (dneg (by omega))]) (fun n i s x hx => by
    show train_beyond__rulebook_train_place_1_0 N a t.l t.l.length (n + 1) s _ = _
    have hlt := (List.getElem?_eq_some_iff.1 hx).1
    rw [train_beyond__rulebook_train_place_1_0, if_pos (dpos (by omega)), getI_nat hx, bind_some']
    rfl) t.l.length N 0 (by have := h.ln; omega) (by omega)
  simp only [Int.natCast_zero, List.drop_zero, List.take_zero, sumL_nil] at hb
  unfold train_beyond__rulebook_train_place_1
  rw [hb, bind_some']
  rcases res_first (pSum 1 a t.l) t.l 0 with ⟨h1, h2⟩ | ⟨h1, h2⟩
  · rw [h1, h2]
  · rw [h1]
theorem beyond2 (N : Nat) (hN : 1001 ≤ N) {t : Train} (h : Vd t.l) (a : Int) : train_beyond__rulebook_train_place_2 N t a = some (firstI (pSum 2 a t.l) 0 t.l) := by
  have hb := beyond_gen (F := fun n s i => train_beyond__rulebook_train_place_2_0 N a t.l t.l.length n s i) (k := 2) (a := a) h (fun n s => by
    show train_beyond__rulebook_train_place_2_0 N a t.l t.l.length (n + 1) s _ = _
    rw [train_beyond__rulebook_train_place_2_0, if_neg (dneg (by omega))]) (fun n i s x hx => by
    show train_beyond__rulebook_train_place_2_0 N a t.l t.l.length (n + 1) s _ = _
    have hlt := (List.getElem?_eq_some_iff.1 hx).1
    rw [train_beyond__rulebook_train_place_2_0, if_pos (dpos (by omega)), getI_nat hx, bind_some']
    rfl) t.l.length N 0 (by have := h.ln; omega) (by omega)
  simp only [Int.natCast_zero, List.drop_zero, List.take_zero, sumL_nil] at hb
  unfold train_beyond__rulebook_train_place_2
  rw [hb, bind_some']
  rcases res_first (pSum 2 a t.l) t.l 0 with ⟨h1, h2⟩ | ⟨h1, h2⟩
  · rw [h1, h2]
  · rw [h1]
theorem beyond3 (N : Nat) (hN : 1001 ≤ N) {t : Train} (h : Vd t.l) (a : Int) : train_beyond__rulebook_train_place_3 N t a = some (firstI (pSum 3 a t.l) 0 t.l) := by
  have hb := beyond_gen (F := fun n s i => train_beyond__rulebook_train_place_3_0 N a t.l t.l.length n s i) (k := 3) (a := a) h (fun n s => by
    show train_beyond__rulebook_train_place_3_0 N a t.l t.l.length (n + 1) s _ = _
    rw [train_beyond__rulebook_train_place_3_0, if_neg (dneg (by omega))]) (fun n i s x hx => by
    show train_beyond__rulebook_train_place_3_0 N a t.l t.l.length (n + 1) s _ = _
    have hlt := (List.getElem?_eq_some_iff.1 hx).1
    rw [train_beyond__rulebook_train_place_3_0, if_pos (dpos (by omega)), getI_nat hx, bind_some']
    rfl) t.l.length N 0 (by have := h.ln; omega) (by omega)
  simp only [Int.natCast_zero, List.drop_zero, List.take_zero, sumL_nil] at hb
  unfold train_beyond__rulebook_train_place_3
  rw [hb, bind_some']
  rcases res_first (pSum 3 a t.l) t.l 0 with ⟨h1, h2⟩ | ⟨h1, h2⟩
  · rw [h1, h2]
  · rw [h1]

theorem size_ok (N : Nat) (k : Int) (w : Wagon) : r36_size N k w = some (szOf k w) := by
  unfold r36_size szOf
  simp only [lt_def, beq_iff_eq]
  split
  · rfl
  · split <;> rfl
/-- The reference adds up the first wagons. -/
theorem rsum_loop (N : Nat) {l : List Wagon} (h : Vd l) (r : Rule) {j : Nat} (hj : j < l.length) : ∀ (q n i : Nat), q < n → i + q = j + 1 →
    r36_breaks_2 N l j r n (sumL (szOf r.kind) (l.take i)) i = some (sumL (szOf r.kind) (l.take (j + 1)))
  | q, 0, i, hn, _ => by omega
  | 0, n + 1, i, hn, hi => by
    obtain rfl : i = j + 1 := by omega
    rw [r36_breaks_2, if_neg (lneg (by omega))]
  | q + 1, n + 1, i, hn, hi => by
    have hlt : i < l.length := by omega
    have hl := h.ln
    have tb := take_bound (szOf_rg h r.kind) h.ln (i + 1)
    have ts := take_sum (f := szOf r.kind) (at_lt hlt)
    rw [r36_breaks_2, if_pos (lpos (by omega)), getI_nat (at_lt hlt), bind_some', size_ok, bind_some', lt_def, lt_def, ← ts, w64 (by omega) (by omega), w64s (by omega)]
    exact rsum_loop N h r hj q n (i + 1) (by omega) (by omega)

/-! ### Classes that stand apart -/
def cls (a b : Int) (x y : Wagon) : Bool := decide ((x.goods = a ∧ y.goods = b) ∨ (x.goods = b ∧ y.goods = a))
/-- Does a wagon ahead stand too near? -/
def pNear (r : Rule) (j : Nat) (w : Wagon) (k : Nat) (x : Wagon) : Bool := cls r.a r.b x w && decide ((j : Int) - k - 1 < r.c)
def pApart (r : Rule) (l : List Wagon) (j : Nat) (w : Wagon) : Bool := decide (0 ≤ firstI (pNear r j w) 0 (l.take j))

theorem apart1 (N : Nat) {r : Rule} {j k : Nat} (hj : j ≤ 1000) (hk : k ≤ 1000) (x w : Wagon) : train_apart_1 N j r k x.goods w.goods = some (pNear r j w k x) := by
  unfold train_apart_1 pNear cls
  rw [w64 (n := (j : Int) - k) (by omega) (by omega), w64 (by omega) (by omega)]
  by_cases h : (j : Int) - k - 1 < r.c
  · rw [if_pos (dpos h), dpos h, Bool.and_true]
    by_cases h1 : x.goods = r.a
    · rw [if_pos (by simpa using h1)]
      by_cases h2 : w.goods = r.b
      · rw [if_pos (by simpa using h2)]; simp [h1, h2]
      · rw [if_neg (by simpa using h2)]
        by_cases h3 : x.goods = r.b
        · rw [if_pos (by simpa using h3)]
          refine sbe ?_
          simp only [beq_iff_eq, decide_eq_true_eq]; omega
        · rw [if_neg (by simpa using h3)]
          refine sbe ?_
          simp only [Bool.false_eq_true, decide_eq_true_eq, false_iff]; omega
    · rw [if_neg (by simpa using h1)]
      by_cases h3 : x.goods = r.b
      · rw [if_pos (by simpa using h3)]
        refine sbe ?_
        simp only [beq_iff_eq, decide_eq_true_eq]; omega
      · rw [if_neg (by simpa using h3)]
        refine sbe ?_
        simp only [Bool.false_eq_true, decide_eq_true_eq, false_iff]; omega
  · rw [if_neg (dneg h), decide_eq_false h, Bool.and_false]

theorem classes_ok (N : Nat) (a b : Int) (x y : Wagon) : r36_classes N x y a b = some (cls a b x y) := by
  unfold r36_classes r36_classes_0 cls
  simp only [lt_def, beq_iff_eq]
  repeat' split
  all_goals
    rw [bind_some']
    refine sbe ?_
    simp only [beq_iff_eq, decide_eq_true_eq, Bool.false_eq_true, true_iff, false_iff]
    omega
theorem near_ok (N : Nat) {r : Rule} {l : List Wagon} (hl : l.length ≤ 1000) {j k : Nat} {x w : Wagon} (hw : l[j]? = some w) (hx : l[k]? = some x) : r36_breaks_4 N l j r k = some (pNear r j w k x) := by
  have h1 := (List.getElem?_eq_some_iff.1 hw).1
  have h2 := (List.getElem?_eq_some_iff.1 hx).1
  unfold r36_breaks_4 pNear
  rw [getI_nat hx, bind_some', getI_nat hw, bind_some', classes_ok, bind_some', w64 (n := (j : Int) - k) (by omega) (by omega), w64 (by omega) (by omega)]
  cases cls r.a r.b x w <;> rfl

theorem near_res {r : Rule} {l : List Wagon} {j : Nat} {w : Wagon} : (match res (pNear r j w) (fun _ _ => true) 0 (l.take j) with | .inl _ => false | .inr y => y) = pApart r l j w := by
  unfold pApart
  have key : ∀ (m : List Wagon) (i : Nat), (match res (pNear r j w) (fun _ _ => true) i m with | .inl _ => false | .inr y => y) = decide (0 ≤ firstI (pNear r j w) i m) := by
    intro m
    induction m with
    | nil => intro i; rfl
    | cons x m ih =>
      intro i
      rw [res, firstI]
      by_cases hp : pNear r j w i x = true
      · rw [if_pos hp, if_pos hp, lpos (by omega)]
      · rw [if_neg hp, if_neg hp]; exact ih _
  exact key _ _

theorem apart_ok (N : Nat) (hN : 1001 ≤ N) {t : Train} (hl : t.l.length ≤ 1000) {r : Rule} {j : Nat} {w : Wagon} (hw : t.l[j]? = some w) : train_apart N t r j = some (pApart r t.l j w) := by
  have hj := (List.getElem?_eq_some_iff.1 hw).1
  have hlen : (t.l.take j).length = j := by simp; omega
  have h := first_gen (l := t.l.take j) (pNear r j w) (fun _ _ => true) (fun n k => train_apart_0 N j t r j n k) (fun n => by
    show train_apart_0 N j t r j (n + 1) _ = _
    rw [train_apart_0, if_neg (dneg (by omega))]) (fun n k x hx => by
    show train_apart_0 N j t r j (n + 1) _ = _
    have hlt := (List.getElem?_eq_some_iff.1 hx).1
    have hx' : t.l[k]? = some x := by rw [List.getElem?_take] at hx; split at hx <;> simp_all
    rw [train_apart_0, if_pos (dpos (by omega)), getI_nat hx', bind_some', getI_nat hw, bind_some', apart1 N (by omega) (by omega), bind_some', w64s (by omega)]) j N 0 (by omega) (by omega)
  simp only [Int.natCast_zero, List.drop_zero] at h
  unfold train_apart
  rw [h, bind_some', ← near_res]
  cases res (pNear r j w) (fun _ _ => true) 0 (t.l.take j) <;> rfl
theorem rapart_ok (N : Nat) (hN : 1001 ≤ N) {l : List Wagon} (hl : l.length ≤ 1000) {r : Rule} {j : Nat} {w : Wagon} (hw : l[j]? = some w) : r36_breaks_3 N l j r N 0 = some (res (pNear r j w) (fun _ _ => true) 0 (l.take j)) := by
  have hj := (List.getElem?_eq_some_iff.1 hw).1
  have hlen : (l.take j).length = j := by simp; omega
  have h := first_gen (l := l.take j) (pNear r j w) (fun _ _ => true) (fun n k => r36_breaks_3 N l j r n k) (fun n => by
    show r36_breaks_3 N l j r (n + 1) _ = _
    rw [r36_breaks_3, if_neg (dneg (by omega))]) (fun n k x hx => by
    show r36_breaks_3 N l j r (n + 1) _ = _
    have hlt := (List.getElem?_eq_some_iff.1 hx).1
    have hx' : l[k]? = some x := by rw [List.getElem?_take] at hx; split at hx <;> simp_all
    rw [r36_breaks_3, if_pos (dpos (by omega)), near_ok N hl hw hx', bind_some', lt_def, w64s (by omega)]) j N 0 (by omega) (by omega)
  simpa using h
end Go.W
