/- Rules: the law about classes that stand apart. -/
import Derived.Test.YtaoioacomnnhdaaLRulG
set_option linter.unusedVariables false
set_option linter.unusedSimpArgs false
set_option maxRecDepth 100000
namespace Go.W
open Go.AM

/-- Two wagons of the classes with fewer than 'c' wagons between them. -/
def Near (a b c : Int) (l : List Wagon) : Prop := ∃ (k j : Nat) (x w : Wagon), k < j ∧ l[k]? = some x ∧ l[j]? = some w ∧ ((x.goods = a ∧ w.goods = b) ∨ (x.goods = b ∧ w.goods = a)) ∧ (j : Int) - k - 1 < c

theorem firstI_pos {α : Type} {p : Nat → α → Bool} {l : List α} : 0 ≤ firstI p 0 l ↔ ∃ (j : Nat) (x : α), l[j]? = some x ∧ p j x = true := by
  rcases firstI_spec p l 0 with ⟨h, ha⟩ | ⟨j, x, h, hj, hp, _⟩
  · constructor
    · intro h0; omega
    · rintro ⟨j, x, hj, hp⟩
      have := ha j x hj
      rw [Nat.zero_add, hp] at this; cases this
  · rw [Nat.zero_add] at hp h
    exact ⟨fun _ => ⟨j, x, hj, hp⟩, fun _ => by omega⟩
theorem apart_near {r : Rule} {l : List Wagon} : 0 ≤ firstI (pApart r l) 0 l ↔ Near r.a r.b r.c l := by
  rw [firstI_pos]
  constructor
  · rintro ⟨j, w, hj, hp⟩
    simp only [pApart, decide_eq_true_eq] at hp
    obtain ⟨k, x, hk, hq⟩ := firstI_pos.1 hp
    rw [List.getElem?_take] at hk
    split at hk
    · simp only [pNear, cls, Bool.and_eq_true, decide_eq_true_eq] at hq
      exact ⟨k, j, x, w, by assumption, hk, hj, hq.1, hq.2⟩
    · cases hk
  · rintro ⟨k, j, x, w, hkj, hk, hj, hc, hd⟩
    refine ⟨j, w, hj, ?_⟩
    simp only [pApart, decide_eq_true_eq]
    refine firstI_pos.2 ⟨k, x, by rw [List.getElem?_take, if_pos hkj]; exact hk, ?_⟩
    simp only [pNear, cls, Bool.and_eq_true, decide_eq_true_eq]
    exact ⟨hc, hd⟩
theorem apart_swap {r r' : Rule} {l : List Wagon} (ha : r'.a = r.b) (hb : r'.b = r.a) (hc : r'.c = r.c) : pApart r' l = pApart r l := by
  funext j w
  unfold pApart
  have e : pNear r' j w = pNear r j w := by
    funext i x
    simp only [pNear, cls, ha, hb, hc]
    congr 1
    rw [Bool.eq_iff_iff]
    simp only [decide_eq_true_eq]
    omega
  rw [e]
theorem near_rev {a b c : Int} {l : List Wagon} (h : Near a b c l) : Near b a c l.reverse := by
  obtain ⟨k, j, x, w, hkj, hk, hj, hc, hd⟩ := h
  have h1 := (List.getElem?_eq_some_iff.1 hk).1
  have h2 := (List.getElem?_eq_some_iff.1 hj).1
  refine ⟨l.length - 1 - j, l.length - 1 - k, w, x, by omega, ?_, ?_, by omega, by omega⟩
  · rw [List.getElem?_reverse (by omega), show l.length - 1 - (l.length - 1 - j) = j by omega]; exact hj
  · rw [List.getElem?_reverse (by omega), show l.length - 1 - (l.length - 1 - k) = k by omega]; exact hk

/-! ### The law's own loops -/
def wantJ (a b c : Int) (l : List Wagon) (i j : Nat) (w : Wagon) : Bool :=
  (i != j) && (match l[i]? with | some x => (x.goods == a) && ((w.goods == b) && decide ((max ((i : Int) - j) ((j : Int) - i)) - 1 < c)) | none => false)
theorem want2 (N : Nat) {l : List Wagon} (hl : l.length ≤ 1000) {r : Rule} {s : Bool} {i j : Nat} {x w : Wagon} (hi : l[i]? = some x) (hj : l[j]? = some w) : l36_RulebookSeparates_2 N l r s i j = some (s || wantJ r.a r.b r.c l i j w) := by
  have h1 := (List.getElem?_eq_some_iff.1 hi).1
  have h2 := (List.getElem?_eq_some_iff.1 hj).1
  unfold l36_RulebookSeparates_2 wantJ
  cases s
  · rw [if_neg (by decide), Bool.false_or]
    by_cases hij : i = j
    · subst hij
      rw [if_neg (by simp)]; simp
    · rw [if_pos (by simp; omega), getI_nat hi, bind_some', getI_nat hj, hi]
      have e : (i != j) = true := by simpa using hij
      rw [e, Bool.true_and]
      dsimp only
      rw [w64 (n := (i : Int) - j) (by omega) (by omega), w64 (n := (j : Int) - i) (by omega) (by omega), w64 (by omega) (by omega)]
      cases x.goods == r.a
      · rfl
      · simp only [if_true, bind_some', Bool.true_and]
        cases w.goods == r.b <;> rfl
  · rw [if_pos rfl, Bool.true_or]
def wantI (a b c : Int) (l : List Wagon) (i : Nat) (_ : Wagon) (s : Bool) : Bool := fold (fun j w s => s || wantJ a b c l i j w) 0 l s
theorem want1 (N : Nat) (hN : 1001 ≤ N) {l : List Wagon} (hl : l.length ≤ 1000) {r : Rule} {s : Bool} {i : Nat} {x : Wagon} (hi : l[i]? = some x) : l36_RulebookSeparates_1 N l r i N s 0 = some (wantI r.a r.b r.c l i x s) := by
  have h := fold_gen (l := l) (fun j w s => s || wantJ r.a r.b r.c l i j w) (fun s => s) (fun _ _ => True) (fun n s j => l36_RulebookSeparates_1 N l r i n s j) (fun n s _ => by
    show l36_RulebookSeparates_1 N l r i (n + 1) s _ = _
    rw [l36_RulebookSeparates_1, if_neg (dneg (by omega))]) (fun n j w s hj _ => by
    show l36_RulebookSeparates_1 N l r i (n + 1) s _ = l36_RulebookSeparates_1 N l r i n _ _ ∧ _
    have hlt := (List.getElem?_eq_some_iff.1 hj).1
    rw [l36_RulebookSeparates_1, if_pos (dpos (by omega)), want2 N hl hi hj, bind_some', lt_def, w64s (by omega)]
    exact ⟨rfl, trivial⟩) l.length N 0 s (by omega) (by omega) trivial
  simpa [wantI] using h.1
theorem want0 (N : Nat) (hN : 1001 ≤ N) {l : List Wagon} (hl : l.length ≤ 1000) {r : Rule} : l36_RulebookSeparates_0 N l r N false 0 = some (fold (wantI r.a r.b r.c l) 0 l false) := by
  have h := fold_gen (l := l) (wantI r.a r.b r.c l) (fun s => s) (fun _ _ => True) (fun n s j => l36_RulebookSeparates_0 N l r n s j) (fun n s _ => by
    show l36_RulebookSeparates_0 N l r (n + 1) s _ = _
    rw [l36_RulebookSeparates_0, if_neg (dneg (by omega))]) (fun n i x s hi _ => by
    show l36_RulebookSeparates_0 N l r (n + 1) s _ = l36_RulebookSeparates_0 N l r n _ _ ∧ _
    have hlt := (List.getElem?_eq_some_iff.1 hi).1
    rw [l36_RulebookSeparates_0, if_pos (dpos (by omega)), want1 N hN hl hi, bind_some', lt_def, w64s (by omega)]
    exact ⟨rfl, trivial⟩) l.length N 0 false (by omega) (by omega) trivial
  simpa using h.1
theorem fold_or {α : Type} (q : Nat → α → Bool) : ∀ (l : List α) (i : Nat) (s : Bool), fold (fun j w s => s || q j w) i l s = true ↔ s = true ∨ ∃ (j : Nat) (x : α), l[j]? = some x ∧ q (i + j) x = true
  | [], i, s => by simp [fold]
  | y :: l, i, s => by
    rw [fold, fold_or q l (i + 1) (s || q i y), Bool.or_eq_true]
    constructor
    · rintro ((h | h) | ⟨j, x, hj, hq⟩)
      · exact .inl h
      · exact .inr ⟨0, y, by simp, by simpa using h⟩
      · exact .inr ⟨j + 1, x, by simpa using hj, by rwa [show i + (j + 1) = i + 1 + j by omega]⟩
    · rintro (h | ⟨j, x, hj, hq⟩)
      · exact .inl (.inl h)
      · cases j with
        | zero => simp at hj; subst hj; exact .inl (.inr (by simpa using hq))
        | succ j => exact .inr ⟨j, x, by simpa using hj, by rwa [show i + 1 + j = i + (j + 1) by omega]⟩
open Classical in
theorem want_near {a b c : Int} {l : List Wagon} : fold (wantI a b c l) 0 l false = true ↔ Near a b c l := by
  have e : wantI a b c l = fun i x s => s || decide (∃ (j : Nat) (w : Wagon), l[j]? = some w ∧ wantJ a b c l i j w = true) := by
    funext i x s
    rw [Bool.eq_iff_iff]
    unfold wantI
    rw [fold_or (fun j w => wantJ a b c l i j w) l 0 s]
    simp only [Bool.or_eq_true, decide_eq_true_eq, Nat.zero_add]
  rw [e, fold_or (fun i x => decide (∃ (j : Nat) (w : Wagon), l[j]? = some w ∧ wantJ a b c l i j w = true))]
  simp only [Bool.false_eq_true, false_or, decide_eq_true_eq, Nat.zero_add]
  constructor
  · rintro ⟨i, x, hi, j, w, hj, hw⟩
    simp only [wantJ, hi, Bool.and_eq_true, bne_iff_ne, ne_eq, beq_iff_eq, decide_eq_true_eq] at hw
    obtain ⟨h1, h2, h3, h4⟩ := hw
    rcases Nat.lt_or_gt_of_ne h1 with h | h
    · exact ⟨i, j, x, w, h, hi, hj, .inl ⟨h2, h3⟩, by omega⟩
    · exact ⟨j, i, w, x, h, hj, hi, .inr ⟨h3, h2⟩, by omega⟩
  · rintro ⟨k, j, x, w, hkj, hk, hj, hc, hd⟩
    rcases hc with ⟨h1, h2⟩ | ⟨h1, h2⟩
    · refine ⟨k, x, hk, j, w, hj, ?_⟩
      simp only [wantJ, hk, Bool.and_eq_true, bne_iff_ne, ne_eq, beq_iff_eq, decide_eq_true_eq]
      exact ⟨by omega, h1, h2, by omega⟩
    · refine ⟨j, w, hj, k, x, hk, ?_⟩
      simp only [wantJ, hj, Bool.and_eq_true, bne_iff_ne, ne_eq, beq_iff_eq, decide_eq_true_eq]
      exact ⟨by omega, h2, h1, by omega⟩
theorem back_loop (N : Nat) {l : List Wagon} (hl : l.length ≤ 1000) : ∀ (q n : Nat) (out : List Wagon), q < n → q ≤ l.length → out = (l.drop q).reverse → l36_RulebookSeparates_3 N l n out ((q : Int) - 1) = some l.reverse
  | q, 0, out, hn, _, _ => by omega
  | 0, n + 1, out, hn, hi, ho => by
    rw [l36_RulebookSeparates_3, if_neg (lneg (by omega)), ho]; simp
  | q + 1, n + 1, out, hn, hi, ho => by
    have hlt : q < l.length := by omega
    have hol : out.length ≤ 1000 := by rw [ho]; simp; omega
    rw [l36_RulebookSeparates_3, if_pos (lpos (by omega)), show ((q + 1 : Nat) : Int) - 1 = (q : Int) by omega, getI_nat (at_lt hlt), bind_some', appI_ok (by simp; omega), bind_some', lt_def, w64 (by omega) (by omega)]
    refine back_loop N hl q n _ (by omega) (by omega) ?_
    rw [ho, drop_at (at_lt hlt), List.reverse_cons]

theorem separates_ok (x0 : List Int) : l36_RulebookSeparates 2000 x0 = some true := by
  obtain ⟨l, s2, e2, m2, l2, d2⟩ := wagons_ok 2000 (by omega) 14 (by omega) (mk0 x0) (by omega)
  obtain ⟨a, s3, e3, ha, m3⟩ := pick_ok 2000 [0, 1, 3, 9] (by simp) (by simp) m2 (by omega)
  obtain ⟨b, s4, e4, hb, m4⟩ := pick_ok 2000 [0, 1, 3, 9] (by simp) (by simp) m3 (by omega)
  obtain ⟨c, s5, e5, c0, c1, m5⟩ := next_ok 2000 6 (by omega) (by omega) m4 (by omega)
  have he := d2.err (by omega)
  have hsane := sane36' (N := 2000) (by omega)
  have hrev : listErr l.reverse = 0 := by
    obtain ⟨h1, h2, h3⟩ := listErr_zero.1 he
    exact listErr_zero.2 ⟨by simpa using h1, fun w hw => h2 w (by simpa using hw), by rw [List.map_reverse]; exact List.pairwise_reverse.2 (h3.imp fun h => h.symm)⟩
  simp only [List.mem_cons, List.not_mem_nil, or_false] at ha hb
  have r1 : rvalid (Rule.mk 1 5 a b c) = true := by rw [rvalid_iff]; dsimp only; omega
  have r2 : rvalid (Rule.mk 1 5 b a c) = true := by rw [rvalid_iff]; dsimp only; omega
  have q1 : ∀ (a b : Int) (l : List Wagon) (pc : Int), plc (Rule.mk 1 5 a b c) l [] pc = firstI (pApart (Rule.mk 1 5 a b c) l) 0 l := fun a b l pc => by unfold plc pOf; rfl
  have p1 := (placeR_ok 2000 (by omega) (err_fu (by omega) he) (off := []) (by simp) (Rule.mk 1 5 a b c)).1
  have p2 := (placeR_ok 2000 (by omega) (err_fu (by omega) he) (off := []) (by simp) (Rule.mk 1 5 b a c)).1
  have p3 := (placeR_ok 2000 (by omega) (err_fu (by omega) hrev) (off := []) (by simp) (Rule.mk 1 5 b a c)).1
  rw [placeR_nil r1 he, q1] at p1
  rw [placeR_nil r2 he, q1] at p2
  rw [placeR_nil r2 hrev, q1] at p3
  have hw := want0 2000 (by omega) (l := l) (by omega) (r := Rule.mk 1 5 a b c)
  have hbk := back_loop 2000 (l := l) (by omega) l.length 2000 [] (by omega) (by omega) (by simp)
  unfold l36_RulebookSeparates gen_New
  rw [bind_some', show (14 : Int) = ((14 : Nat) : Int) from rfl, e2, bind_some']
  dsimp only
  rw [e3, bind_some']
  dsimp only
  rw [e4, bind_some']
  dsimp only
  rw [e5, bind_some']
  dsimp only
  rw [p1, bind_some', hw, bind_some', lt_def, w64 (n := (l.length : Int) - 1) (by omega) (by omega), hbk, bind_some', p2, bind_some', p3, bind_some', apart_swap (r := Rule.mk 1 5 a b c) (r' := Rule.mk 1 5 b a c) rfl rfl rfl]
  have n1 := apart_near (r := Rule.mk 1 5 a b c) (l := l)
  have n2 := apart_near (r := Rule.mk 1 5 b a c) (l := l.reverse)
  have n3 := want_near (a := a) (b := b) (c := c) (l := l)
  have n4 : Near b a c l.reverse ↔ Near a b c l := ⟨fun h => by have := near_rev h; rwa [List.reverse_reverse] at this, near_rev⟩
  dsimp only at n1 n2 ⊢
  unfold l36_RulebookSeparates_4
  simp only [beq_self_eq_true, if_true]
  rw [if_pos (by rw [beq_iff_eq, Bool.eq_iff_iff, decide_eq_true_eq, n1, n3]), if_pos (by rw [beq_iff_eq, Bool.eq_iff_iff, decide_eq_true_eq, n2, n3, n4]), hsane]
  rfl
theorem separatesT (x0 : List Int) : ∃ N, l36_RulebookSeparates N x0 = some true := ⟨2000, separates_ok x0⟩
end Go.W
