/- Wheel: measured distances. -/
import Derived.Test.YthlaohffhjlkbaaLOff
set_option linter.unusedVariables false
set_option linter.unusedSimpArgs false
set_option maxRecDepth 100000
namespace Go.W
open Go.AM

/-! ### Measure -/
theorem time_ok (N : Nat) (x : Int) : wheel_time N x = some (decide (0 ≤ x) && decide (x ≤ 1000000000)) := by
  unfold wheel_time wheel_time_0
  by_cases h : 0 ≤ x
  · rw [if_pos (lpos h), lt_def, bind_some', decide_eq_true h]; rfl
  · rw [if_neg (lneg h), bind_some', decide_eq_false h]; rfl
/-- Is the pulse at 'i' out of place? -/
def bad (a b : List Int) (i : Nat) : Bool := match a[i]?, b[i]? with
  | some x, some y => !(decide (0 ≤ x) && decide (x ≤ 1000000000)) || (!(decide (0 ≤ y) && decide (y ≤ 1000000000)) || (decide (y ≤ x) || (decide (0 < i) && decide (x ≤ a[i - 1]?.getD 0))))
  | _, _ => true
theorem prev_at {a : List Int} {i : Nat} (h : i < a.length) (h0 : 0 < i) (hl : a.length ≤ 9223372036854775807) : getI a (IntKind.wrap .i64 ((i : Int) - 1)) = some (a[i - 1]?.getD 0) := by
  rw [w64 (by omega) (by omega), show (i : Int) - 1 = ((i - 1 : Nat) : Int) by omega, getI_nat (at_lt (show i - 1 < a.length by omega)), at_lt (show i - 1 < a.length by omega)]; rfl
theorem pbad (N : Nat) {a b : List Int} (hab : a.length = b.length) (hl : a.length ≤ 9223372036854775807) {i : Nat} (h : i < a.length) : wheel_Measure_2 N a b i = some (bad a b i) := by
  have hb : i < b.length := by omega
  unfold wheel_Measure_2 bad
  rw [getI_nat (at_lt h), bind_some', time_ok, bind_some', getI_nat (at_lt hb), at_lt h, at_lt hb]
  simp only [bind_some', time_ok]
  cases (decide (0 ≤ a[i]) && decide (a[i] ≤ 1000000000)) with
  | false => rfl
  | true =>
    cases (decide (0 ≤ b[i]) && decide (b[i] ≤ 1000000000)) with
    | false => rfl
    | true =>
      simp only [Bool.not_true, Bool.false_eq_true, if_false, Bool.false_or]
      by_cases h1 : b[i] ≤ a[i]
      · rw [if_pos (lpos h1), decide_eq_true h1, Bool.true_or]
      · rw [if_neg (lneg h1), decide_eq_false h1, Bool.false_or]
        by_cases h2 : 0 < i
        · rw [if_pos (dpos (by omega)), prev_at h h2 hl, bind_some', decide_eq_true h2, Bool.true_and]
        · rw [if_neg (dneg (by omega)), decide_eq_false h2, Bool.false_and]
theorem rbad (N : Nat) {a b : List Int} (hab : a.length = b.length) (hl : a.length ≤ 9223372036854775807) {i : Nat} (h : i < a.length) : r07_Measure_2 N a b i = some (bad a b i) := by
  have hb : i < b.length := by omega
  unfold r07_Measure_2 bad
  rw [getI_nat (at_lt h), bind_some', getI_nat (at_lt hb), at_lt h, at_lt hb]
  simp only [bind_some']
  by_cases h1 : a[i] < 0
  · rw [if_pos (dpos h1), decide_eq_false (show ¬ 0 ≤ a[i] by omega)]; rfl
  rw [if_neg (dneg h1), decide_eq_true (show 0 ≤ a[i] by omega)]
  by_cases h2 : 1000000000 < a[i]
  · rw [if_pos (dpos h2), decide_eq_false (show ¬ a[i] ≤ 1000000000 by omega)]; rfl
  rw [if_neg (dneg h2), decide_eq_true (show a[i] ≤ 1000000000 by omega)]
  by_cases h3 : 1000000000 < b[i]
  · rw [if_pos (dpos h3), decide_eq_false (show ¬ b[i] ≤ 1000000000 by omega), Bool.and_false]; rfl
  rw [if_neg (dneg h3), decide_eq_true (show b[i] ≤ 1000000000 by omega)]
  by_cases h4 : b[i] ≤ a[i]
  · rw [if_pos (lpos h4), decide_eq_true h4]
    cases decide (0 ≤ b[i]) <;> rfl
  rw [if_neg (lneg h4), decide_eq_false h4, decide_eq_true (show 0 ≤ b[i] by omega)]
  simp only [Bool.and_self, Bool.not_true, Bool.false_or]
  by_cases h5 : 0 < i
  · rw [if_pos (dpos (by omega)), prev_at h h5 hl, bind_some', decide_eq_true h5, Bool.true_and]
  · rw [if_neg (dneg (by omega)), decide_eq_false h5, Bool.false_and]

def anyBad (a b : List Int) (i : Nat) : Nat → Bool
  | 0 => false
  | k + 1 => bad a b i || anyBad a b (i + 1) k
theorem m1_loop (N : Nat) {a b : List Int} (hab : a.length = b.length) (hl : a.length ≤ 9223372036854775807) : ∀ (k n i : Nat), k < n → i + k = a.length →
    wheel_Measure_1 N a b a.length n i = some (if anyBad a b i k = true then .inr 1 else .inl ()) ∧ r07_Measure_1 N a b n i = some (if anyBad a b i k = true then .inr 1 else .inl ())
  | k, 0, i, hn, _ => by omega
  | 0, n + 1, i, hn, hi => by
    rw [wheel_Measure_1, r07_Measure_1, if_neg (dneg (by omega)), if_neg (dneg (by omega))]; exact ⟨rfl, rfl⟩
  | k + 1, n + 1, i, hn, hi => by
    obtain ⟨g1, g2⟩ := m1_loop N hab hl k n (i + 1) (by omega) (by omega)
    rw [wheel_Measure_1, r07_Measure_1, if_pos (dpos (by omega)), if_pos (dpos (by omega)), pbad N hab hl (by omega), rbad N hab hl (by omega), bind_some', bind_some', lt_def, w64s (by omega), g1, g2, show anyBad a b i (k + 1) = (bad a b i || anyBad a b (i + 1) k) from rfl]
    cases bad a b i with
    | true => exact ⟨rfl, rfl⟩
    | false => exact ⟨rfl, rfl⟩

theorem m3_eq (N : Nat) (a b : List Int) (base : Int) : ∀ (n : Nat) (out : List Int) (i : Int), wheel_Measure_3 N a b base n out i = r07_Measure_3 N a b base n out i
  | 0, out, i => rfl
  | n + 1, out, i => by
    rw [wheel_Measure_3, r07_Measure_3]
    simp only [m3_eq N a b base n]

theorem anyBad_at {a b : List Int} : ∀ {k i : Nat}, anyBad a b i k = false → ∀ j, i ≤ j → j < i + k → bad a b j = false
  | 0, i, _, j, h1, h2 => by omega
  | k + 1, i, h, j, h1, h2 => by
    simp only [anyBad, Bool.or_eq_false_iff] at h
    by_cases e : j = i
    · subst e; exact h.1
    · exact anyBad_at h.2 j (by omega) (by omega)
theorem bad_facts {a b : List Int} {i : Nat} (ha : i < a.length) (hb : i < b.length) (h : bad a b i = false) : 0 ≤ a[i] ∧ a[i] ≤ 1000000000 ∧ b[i] ≤ 1000000000 ∧ a[i] < b[i] ∧ (0 < i → a[i - 1]?.getD 0 < a[i]) := by
  unfold bad at h
  rw [at_lt ha, at_lt hb] at h
  simp only [Bool.or_eq_false_iff, Bool.not_eq_false', Bool.and_eq_true, decide_eq_true_eq, decide_eq_false_iff_not, Bool.and_eq_false_iff] at h
  obtain ⟨⟨h1, h2⟩, ⟨h3, h4⟩, h5, h6⟩ := h
  refine ⟨h1, h2, h4, by omega, fun h0 => ?_⟩
  rcases h6 with h6 | h6
  · exact absurd h0 h6
  · omega

/-- The distances. -/
def ml (a b : List Int) (base : Int) (i : Nat) : Nat → List Int
  | 0 => []
  | k + 1 => ((a[i + 1]?.getD 0 - a[i]?.getD 0) * base / (b[i]?.getD 0 - a[i]?.getD 0)) :: ml a b base (i + 1) k
theorem m3_loop (N : Nat) {a b : List Int} (hab : a.length = b.length) (hl : a.length ≤ 768) {base : Int} (hb1 : 1 ≤ base) (hb2 : base ≤ 10000) (hg : ∀ j, j < a.length → bad a b j = false) : ∀ (k n i : Nat) (out : List Int), k < n → i + 1 + k = a.length → out.length + k ≤ 10000 →
    wheel_Measure_3 N a b base n out i = some (out ++ ml a b base i k)
  | k, 0, i, out, hn, _, _ => by omega
  | 0, n + 1, i, out, hn, hi, _ => by
    rw [wheel_Measure_3, w64s (by omega), if_neg (dneg (by omega))]; simp [ml]
  | k + 1, n + 1, i, out, hn, hi, ho => by
    have h1 : i < a.length := by omega
    have h2 : i + 1 < a.length := by omega
    have h3 : i < b.length := by omega
    obtain ⟨f1, f2, f3, f4, _⟩ := bad_facts h1 h3 (hg i h1)
    obtain ⟨g1, g2, g3, g4, g5⟩ := bad_facts h2 (by omega) (hg (i + 1) h2)
    have g5 := g5 (by omega)
    rw [show i + 1 - 1 = i from rfl, at_lt h1] at g5
    have g5 : a[i] < a[i + 1] := g5
    have hm : 0 ≤ (a[i + 1] - a[i]) * base ∧ (a[i + 1] - a[i]) * base ≤ 1000000000 * 10000 := ⟨Int.mul_nonneg (by omega) (by omega), Int.mul_le_mul (by omega) hb2 (by omega) (by omega)⟩
    have hd : divI (IntKind.wrap .i64 (IntKind.wrap .i64 (a[i + 1] - a[i]) * base)) (IntKind.wrap .i64 (b[i] - a[i])) = some ((a[i + 1] - a[i]) * base / (b[i] - a[i])) := by
      rw [w64 (n := a[i + 1] - a[i]) (by omega) (by omega), w64 (n := (a[i + 1] - a[i]) * base) (by omega) (by omega), w64 (n := b[i] - a[i]) (by omega) (by omega)]
      unfold divI
      rw [if_neg (by omega), Int.tdiv_eq_ediv_of_nonneg hm.1]
    have hq : 0 ≤ (a[i + 1] - a[i]) * base / (b[i] - a[i]) ∧ (a[i + 1] - a[i]) * base / (b[i] - a[i]) ≤ 10000000000000 := by
      refine ⟨Int.ediv_nonneg hm.1 (by omega), ?_⟩
      have := Int.ediv_le_self (b[i] - a[i]) hm.1
      omega
    rw [wheel_Measure_3, w64s (by omega), if_pos (dpos (by omega)), getI_nat (at_lt h2), bind_some', getI_nat (at_lt h1), bind_some', getI_nat (at_lt h3), bind_some', bind_some', hd, bind_some', appI_ok (by simp; omega), bind_some', lt_def, m3_loop N hab hl hb1 hb2 hg k n (i + 1) _ (by omega) (by omega) (by simp; omega)]
    simp only [ml, at_lt h1, at_lt h2, at_lt h3, Option.getD_some, List.append_assoc, List.singleton_append]
    rw [w64 (by omega) (by omega)]

def meas (a b : List Int) (base : Int) : List Int × Int :=
  if base < 1 ∨ 10000 < base then ([], 2) else if a.length ≠ b.length then ([], 1) else if anyBad a b 0 a.length = true then ([], 1) else if 768 < a.length then ([], 3) else (ml a b base 0 (a.length - 1), 0)
theorem Measure_ok (N : Nat) {a b : List Int} (hN : a.length + 1000 < N) (hl : a.length ≤ 9223372036854775807) (base : Int) : wheel_Measure N a b base = some (meas a b base) ∧ r07_Measure N a b base = some (meas a b base) := by
  unfold wheel_Measure r07_Measure meas
  have e0 : wheel_Measure_0 N base = some (decide (base < 1 ∨ 10000 < base)) ∧ r07_Measure_0 N base = some (decide (base < 1 ∨ 10000 < base)) := by
    unfold wheel_Measure_0 r07_Measure_0
    by_cases h : base < 1
    · rw [if_pos (dpos h), decide_eq_true (.inl h)]; exact ⟨rfl, rfl⟩
    · rw [if_neg (dneg h)]
      have : decide (10000 < base) = decide (base < 1 ∨ 10000 < base) := by rw [decide_eq_decide]; omega
      rw [this]; exact ⟨rfl, rfl⟩
  rw [e0.1, e0.2, bind_some', bind_some']
  generalize hq : decide (base < 1 ∨ 10000 < base) = q
  cases q with
  | true =>
    rw [if_pos rfl, if_pos rfl, if_pos (of_decide_eq_true hq)]; exact ⟨rfl, rfl⟩
  | false =>
    have hb := of_decide_eq_false hq
    rw [if_neg hb]
    simp only [Bool.false_eq_true, if_false]
    by_cases hab : a.length = b.length
    · obtain ⟨g1, g2⟩ := m1_loop N hab hl a.length N 0 (by omega) (by omega)
      simp only [Int.natCast_zero] at g1 g2
      have e1 : ¬ ((a.length : Int) != (b.length : Int)) = true := by simp [hab]
      rw [if_neg (show ¬ a.length ≠ b.length from fun h => h hab)]
      generalize hx : anyBad a b 0 a.length = x at g1 g2
      have h7 : (decide ((768 : Int) < a.length) = true ↔ 768 < a.length) := by rw [decide_eq_true_eq]; omega
      cases x with
      | true =>
        constructor
        · rw [if_neg e1, g1]; rfl
        · rw [if_neg e1, g2]; rfl
      | false =>
        simp only [Bool.false_eq_true, if_false] at g1 g2 ⊢
        by_cases h8 : 768 < a.length
        · rw [if_pos h8]
          constructor
          · rw [if_neg e1, g1, bind_some']
            dsimp only
            rw [if_pos (h7.2 h8)]
          · rw [if_neg e1, g2, bind_some']
            dsimp only
            rw [if_pos (h7.2 h8)]
        · rw [if_neg h8]
          have hg : ∀ j, j < a.length → bad a b j = false := fun j hj => anyBad_at hx j (by omega) (by omega)
          have e3 : wheel_Measure_3 N a b base N [] 0 = some (ml a b base 0 (a.length - 1)) := by
            by_cases hz : a.length = 0
            · obtain ⟨N, rfl⟩ : ∃ M, N = M + 1 := ⟨N - 1, by omega⟩
              rw [wheel_Measure_3, show IntKind.wrap .i64 ((0 : Int) + 1) = 1 from by decide, if_neg (dneg (by omega)), hz]; rfl
            · have := m3_loop N hab (by omega) (base := base) (by omega) (by omega) hg (a.length - 1) N 0 [] (by omega) (by omega) (by simp; omega)
              simpa only [Int.natCast_zero, List.nil_append] using this
          constructor
          · rw [if_neg e1, g1, bind_some']
            dsimp only
            rw [if_neg (fun h => h8 (h7.1 h)), e3]; rfl
          · rw [if_neg e1, g2, bind_some']
            dsimp only
            rw [if_neg (fun h => h8 (h7.1 h)), ← m3_eq, e3]; rfl
    · have e1 : ((a.length : Int) != (b.length : Int)) = true := by
        rw [bne_iff_ne]; omega
      rw [if_pos hab]
      constructor
      · rw [if_pos e1]
      · rw [if_pos e1]
theorem ml_len (a b : List Int) (base : Int) : ∀ (k i : Nat), (ml a b base i k).length = k
  | 0, i => rfl
  | k + 1, i => by simp [ml, ml_len a b base k (i + 1)]
theorem meas_len {a b : List Int} {base : Int} : (meas a b base).1.length ≤ 768 := by
  unfold meas
  split
  · simp
  · split
    · simp
    · split
      · simp
      · split
        · simp
        · simp only [ml_len]; omega

/-! ### The distances of made trains -/
theorem ofs_asc {w : Wagon} (h : wagErr w = 0) : ∃ o t, of w = o :: t ∧ 0 ≤ o ∧ o ≤ 4000 ∧ List.Pairwise (· < ·) (o :: t) ∧ ∀ x ∈ o :: t, 0 ≤ x ∧ x < 10 * w.length := by
  obtain ⟨_, _, hr, _⟩ := wagErr_zero h
  obtain ⟨hl, _⟩ := wag_ranges h
  unfold inRg leastOf at hr
  unfold of ofs
  rcases kindOf_range w.number with hk | hk | hk | hk
  · rw [hk]; refine ⟨_, _, rfl, ?_⟩; simp; omega
  · rw [hk]; refine ⟨_, _, rfl, ?_⟩; simp; omega
  · rw [hk]; refine ⟨_, _, rfl, ?_⟩; simp; omega
  · rw [hk] at hr ⊢; simp only [if_true] at hr; refine ⟨_, _, rfl, ?_⟩; simp; omega

def Pos (out : List Int) : Prop := ∀ x ∈ out, 1 ≤ x ∧ x ≤ 9000
theorem stepD_pos {f : Int} : ∀ {t : List Int} {last : Int} {out : List Int}, Pos out → List.Pairwise (· < ·) t → (∀ x ∈ t, 0 ≤ x ∧ x ≤ 4000 ∧ last < f + x) → -1 ≤ last → f - last ≤ 4100 ∨ last = -1 → 0 ≤ f → Pos (stepD f t last out).1 ∧
    (∀ L : Int, (∀ x ∈ t, x < L) → last < f + L → (stepD f t last out).2 < f + L) ∧ (t ≠ [] → f ≤ (stepD f t last out).2)
  | [], last, out, hp, _, _, _, _, _ => ⟨hp, fun L _ h => h, fun h => absurd rfl h⟩
  | o :: t, last, out, hp, ht, hx, h1, h2, hf => by
    have ho := hx o (by simp)
    rw [List.pairwise_cons] at ht
    have hp2 : Pos (if 0 ≤ last then out ++ [f + o - last] else out) := by
      split
      · intro x hx'
        rcases List.mem_append.1 hx' with hx' | hx'
        · exact hp x hx'
        · simp at hx'; subst hx'; omega
      · exact hp
    obtain ⟨i1, i2, i3⟩ := stepD_pos (f := f) (t := t) (last := f + o) hp2 ht.2 (fun x hx' => ⟨(hx x (by simp [hx'])).1, (hx x (by simp [hx'])).2.1, by have := ht.1 x hx'; omega⟩) (by omega) (.inl (by omega)) hf
    simp only [stepD]
    refine ⟨i1, fun L hL h => i2 L (fun x hx' => hL x (by simp [hx'])) (by have := hL o (by simp); omega), fun _ => ?_⟩
    cases t with
    | nil => simp only [stepD]; omega
    | cons a b => exact i3 (by simp)
theorem dst_pos : ∀ {l : List Wagon} {f last : Int} {out : List Int}, (∀ w ∈ l, wagErr w = 0) → Pos out → -1 ≤ last → last < f ∨ (last = -1) → f - last ≤ 4100 ∨ last = -1 → 0 ≤ f → Pos (dst l f last out)
  | [], f, last, out, _, hp, _, _, _, _ => hp
  | w :: l, f, last, out, hv, hp, h1, h2, h3, hf => by
    obtain ⟨o, t, he, ho0, ho1, hasc, hr⟩ := ofs_asc (hv w (by simp))
    obtain ⟨hl, _⟩ := wag_ranges (hv w (by simp))
    obtain ⟨g1, g2, g3⟩ := stepD_pos (f := f) (t := of w) (last := last) hp (he ▸ hasc) (fun x hx => by have := hr x (he ▸ hx); omega) h1 h3 hf
    have g2 := g2 (10 * w.length) (fun x hx => (hr x (he ▸ hx)).2) (by omega)
    have g3 := g3 (by rw [he]; simp)
    simp only [dst]
    exact dst_pos (fun x hx => hv x (by simp [hx])) g1 (by omega) (.inl (by omega)) (.inl (by omega)) (by omega)

/-! ### A train that rolls at a constant speed -/
/-- The times at which the axles pass, from the axle behind distance number 'i' on. -/
def tim (s : Int) : List Int → Int → List Int
  | [], at_ => [at_]
  | d :: l, at_ => at_ :: tim s l (at_ + d * s)
theorem tim_app (s : Int) : ∀ (d : List Int) (x at_ : Int), tim s (d ++ [x]) at_ = tim s d at_ ++ [at_ + (d.sum + x) * s]
  | [], x, at_ => by simp [tim]
  | e :: d, x, at_ => by
    simp only [List.cons_append, tim, tim_app s d x (at_ + e * s), List.sum_cons]
    rw [show at_ + e * s + (d.sum + x) * s = at_ + (e + d.sum + x) * s by rw [Int.add_mul, Int.add_mul, Int.add_mul]; omega]
theorem tim_len (s : Int) : ∀ (d : List Int) (at_ : Int), (tim s d at_).length = d.length + 1
  | [], _ => rfl
  | _ :: d, at_ => by simp [tim, tim_len s d]
theorem tim_get (s : Int) : ∀ (d : List Int) (at_ : Int) (j : Nat), j ≤ d.length → (tim s d at_)[j]? = some (at_ + (d.take j).sum * s)
  | [], at_, j, h => by
    have : j = 0 := by simpa using h
    subst this; simp [tim]
  | e :: d, at_, 0, h => by simp [tim]
  | e :: d, at_, j + 1, h => by
    simp only [tim, List.getElem?_cons_succ, List.take_succ_cons, List.sum_cons]
    rw [tim_get s d (at_ + e * s) j (by simpa using h), Int.add_mul]
    congr 1; omega
theorem sum_step {d : List Int} {j : Nat} {x : Int} (h : d[j]? = some x) : (d.take (j + 1)).sum = (d.take j).sum + x := by
  obtain ⟨hl, rfl⟩ := List.getElem?_eq_some_iff.1 h
  rw [List.take_succ_eq_append_getElem hl, List.sum_append]; simp
theorem sum_b {d : List Int} (hp : Pos d) : ∀ j : Nat, j ≤ d.length → 0 ≤ (d.take j).sum ∧ (d.take j).sum ≤ 10000 * j
  | 0, _ => by simp
  | j + 1, h => by
    have ih := sum_b hp j (by omega)
    have hx := hp _ (List.getElem_mem (show j < d.length by omega))
    rw [sum_step (at_lt (show j < d.length by omega))]
    omega
theorem mul_b {x s : Int} {n : Int} (h0 : 0 ≤ x) (h1 : x ≤ n) (s0 : 1 ≤ s) (s1 : s ≤ 20) : 0 ≤ x * s ∧ x * s ≤ n * 20 := ⟨Int.mul_nonneg h0 (by omega), Int.mul_le_mul h1 s1 (by omega) (by omega)⟩

theorem roll_loop (N : Nat) {s : Int} (s0 : 1 ≤ s) (s1 : s ≤ 20) {d : List Int} (hp : Pos d) (hd : d.length ≤ 100) : ∀ (k n i : Nat), k < n → i + k = d.length →
    l07_WheelMeasures_2 N s d n (1000 + (d.take i).sum * s) (tim s (d.take i) 1000) ((tim s (d.take i) 1000).map (· + 100 * s)) i = some (tim s d 1000, (tim s d 1000).map (· + 100 * s))
  | k, 0, i, hn, _ => by omega
  | 0, n + 1, i, hn, hi => by
    rw [l07_WheelMeasures_2, if_neg (dneg (by omega)), List.take_of_length_le (by omega)]
  | k + 1, n + 1, i, hn, hi => by
    have hlt : i < d.length := by omega
    have hx := hp _ (List.getElem_mem hlt)
    have hs := sum_b hp i (by omega)
    have m1 := mul_b hs.1 hs.2 s0 s1
    have m2 := mul_b (show 0 ≤ d[i] by omega) hx.2 s0 s1
    have htk : d.take (i + 1) = d.take i ++ [d[i]] := List.take_succ_eq_append_getElem hlt
    have e : 1000 + (d.take i).sum * s + d[i] * s = 1000 + (d.take (i + 1)).sum * s := by
      rw [sum_step (at_lt hlt), Int.add_mul]; omega
    have hs2 := sum_b hp (i + 1) (by omega)
    have m3 := mul_b hs2.1 hs2.2 s0 s1
    rw [l07_WheelMeasures_2, if_pos (dpos (by omega)), getI_nat (at_lt hlt), bind_some', w64 (n := d[i] * s) (by omega) (by omega), w64 (n := 1000 + (d.take i).sum * s + d[i] * s) (by omega) (by omega), lt_def, appI_ok (by simp [tim_len]; omega), bind_some', e, w64 (n := 100 * s) (by omega) (by omega), w64 (by omega) (by omega),
      appI_ok (by simp [tim_len]; omega), bind_some', lt_def, w64s (by omega)]
    have e2 : tim s (d.take i) 1000 ++ [1000 + (d.take (i + 1)).sum * s] = tim s (d.take (i + 1)) 1000 := by
      rw [htk, tim_app, List.sum_append]; simp
    have e3 : (tim s (d.take i) 1000).map (· + 100 * s) ++ [1000 + (d.take (i + 1)).sum * s + 100 * s] = (tim s (d.take (i + 1)) 1000).map (· + 100 * s) := by
      rw [← e2, List.map_append]; rfl
    rw [e2, e3]
    exact roll_loop N s0 s1 hp hd k n (i + 1) (by omega) (by omega)

theorem anyBad_of {a b : List Int} : ∀ {k i : Nat}, (∀ j, i ≤ j → j < i + k → bad a b j = false) → anyBad a b i k = false
  | 0, i, _ => rfl
  | k + 1, i, h => by
    simp only [anyBad, h i (by omega) (by omega), Bool.false_or]
    exact anyBad_of fun j h1 h2 => h j (by omega) (by omega)

theorem roll_meas {s : Int} (s0 : 1 ≤ s) (s1 : s ≤ 20) {d : List Int} (hp : Pos d) (hd : d.length ≤ 100) : meas (tim s d 1000) ((tim s d 1000).map (· + 100 * s)) 100 = (d, 0) := by
  have hl := tim_len s d 1000
  have ga : ∀ j, j ≤ d.length → (tim s d 1000)[j]? = some (1000 + (d.take j).sum * s) := fun j h => tim_get s d 1000 j h
  have gb : ∀ j, j ≤ d.length → ((tim s d 1000).map (· + 100 * s))[j]? = some (1000 + (d.take j).sum * s + 100 * s) := fun j h => by
    rw [List.getElem?_map, ga j h]; rfl
  have hbad : anyBad (tim s d 1000) ((tim s d 1000).map (· + 100 * s)) 0 (tim s d 1000).length = false := by
    refine anyBad_of fun j _ hj => ?_
    have hj : j ≤ d.length := by omega
    have hs := sum_b hp j hj
    have m1 := mul_b hs.1 hs.2 s0 s1
    unfold bad
    rw [ga j hj, gb j hj]
    have q1 : decide (0 ≤ 1000 + (d.take j).sum * s) = true := decide_eq_true (by omega)
    have q2 : decide (1000 + (d.take j).sum * s ≤ 1000000000) = true := decide_eq_true (by omega)
    have q3 : decide (0 ≤ 1000 + (d.take j).sum * s + 100 * s) = true := decide_eq_true (by omega)
    have q4 : decide (1000 + (d.take j).sum * s + 100 * s ≤ 1000000000) = true := decide_eq_true (by omega)
    have q5 : decide (1000 + (d.take j).sum * s + 100 * s ≤ 1000 + (d.take j).sum * s) = false := decide_eq_false (by omega)
    simp only [q1, q2, q3, q4, q5, Bool.and_self, Bool.not_true, Bool.false_or]
    by_cases h0 : 0 < j
    · rw [decide_eq_true h0, Bool.true_and, ga (j - 1) (by omega)]
      refine decide_eq_false ?_
      have hx := hp _ (List.getElem_mem (show j - 1 < d.length by omega))
      have h1 := sum_step (d := d) (j := j - 1) (at_lt (show j - 1 < d.length by omega))
      rw [show j - 1 + 1 = j by omega] at h1
      rw [h1, Int.add_mul]
      have m2 : 1 * 1 ≤ d[j - 1] * s := Int.mul_le_mul hx.1 s0 (by omega) (by omega)
      simp only [Option.getD_some]
      omega
    · rw [decide_eq_false h0, Bool.false_and]
  have hml : ∀ (k i : Nat), i + k = d.length → ml (tim s d 1000) ((tim s d 1000).map (· + 100 * s)) 100 i k = d.drop i := by
    intro k
    induction k with
    | zero => intro i hi; rw [List.drop_eq_nil_of_le (by omega)]; rfl
    | succ k ih =>
      intro i hi
      have hlt : i < d.length := by omega
      simp only [ml]
      rw [ga (i + 1) (by omega), ga i (by omega), gb i (by omega), sum_step (at_lt hlt), ih (i + 1) (by omega)]
      have : (1000 + ((d.take i).sum + d[i]) * s - (1000 + (d.take i).sum * s)) * 100 / (1000 + (d.take i).sum * s + 100 * s - (1000 + (d.take i).sum * s)) = d[i] := by
        rw [show 1000 + ((d.take i).sum + d[i]) * s - (1000 + (d.take i).sum * s) = d[i] * s by rw [Int.add_mul]; omega, show 1000 + (d.take i).sum * s + 100 * s - (1000 + (d.take i).sum * s) = s * 100 by omega, Int.mul_assoc]
        exact Int.mul_ediv_cancel _ (by omega)
      simp only [Option.getD_some]
      rw [this, ← drop_at (at_lt hlt)]
  unfold meas
  rw [if_neg (by omega), if_neg (by simp), hbad, if_neg (by decide), if_neg (by omega), hl, Nat.add_sub_cancel, hml d.length 0 (by omega), List.drop_zero]

theorem wmea_ok (N : Nat) (hN : 9223372036854775807 + 2000 ≤ N) (x0 a b : List Int) (ha : a.length ≤ 9223372036854775807) (x3 x4 : Int) : l07_WheelMeasures N x0 a b x3 x4 = some true := by
  have h0 : ∀ c : Bool, l07_WheelMeasures_0 N a b x3 c = some (.inl ()) := fun c => by
    unfold l07_WheelMeasures_0
    cases c with
    | false => rfl
    | true =>
      obtain ⟨g1, g2⟩ := Measure_ok N (a := a) (b := b) (by omega) ha x3
      have hm := meas_len (a := a) (b := b) (base := x3)
      rw [if_pos rfl, g1, g2, bind_some', bind_some']
      unfold l07_WheelMeasures_1
      rw [gi_ok N (by omega) (by omega), bind_some', if_neg (by decide), bind_some', if_neg (by simp)]
  obtain ⟨l, s0, h1, m0, l0, d0⟩ := wagons_ok N (by omega) 8 (by omega) (mk0 x0) (by omega)
  have hF : ∀ w ∈ l, Fu N w := fun w hw => wagErr_fu (d0.ok w hw) (by omega)
  have hz : fstE l = 0 := by
    have : ∀ l : List Wagon, (∀ w ∈ l, wagErr w = 0) → fstE l = 0 := by
      intro l
      induction l with
      | nil => intro _; rfl
      | cons w l ih => intro h; rw [fstE_ok (h w (by simp))]; exact ih fun x hx => h x (by simp [hx])
    exact this l d0.ok
  have hdE : distE l = (dst l 0 (-1) [], 0) := by
    unfold distE
    rw [if_neg (by omega), if_neg (by simp [hz])]
  have hp : Pos (dst l 0 (-1) []) := dst_pos d0.ok (fun x hx => by simp at hx) (by omega) (.inr rfl) (.inr rfl) (by omega)
  have hdl := dst_len (l := l) (f := 0) (last := -1) (out := [])
  simp only [List.length_nil] at hdl
  have q : IntKind.wrap .i64 (1 + Int.tmod (IntKind.wrap .i64 (Int.tmod x4 20 + 20)) 20) = 1 + (Int.tmod x4 20 + 20) % 20 := by
    have a1 := Int.lt_tmod_of_pos x4 (show (0 : Int) < 20 by omega)
    have a2 := Int.tmod_lt_of_pos x4 (show (0 : Int) < 20 by omega)
    rw [w64 (n := Int.tmod x4 20 + 20) (by omega) (by omega), Int.tmod_eq_emod_of_nonneg (by omega), w64 (by omega) (by omega)]
  unfold l07_WheelMeasures gen_New
  rw [h0, bind_some']
  dsimp only
  rw [bind_some', show (8 : Int) = ((8 : Nat) : Int) from rfl, h1, bind_some', (Distances_ok N (by omega) (fun _ => hF)).1, bind_some', hdE, lt_def, q]
  dsimp only
  generalize hs : 1 + (Int.tmod x4 20 + 20) % 20 = s
  have s1 : 1 ≤ s ∧ s ≤ 20 := by omega
  have hr := roll_loop N s1.1 s1.2 hp (by omega) (dst l 0 (-1) []).length N 0 (by omega) (by omega)
  simp only [Int.natCast_zero, List.take_zero, List.sum_nil, Int.zero_mul, Int.add_zero, tim, List.map_cons, List.map_nil] at hr
  rw [if_neg (by decide), w64 (n := 100 * s) (by omega) (by omega), w64 (n := 1000 + 100 * s) (by omega) (by omega), hr, bind_some']
  dsimp only
  rw [(Measure_ok N (by rw [tim_len]; omega) (by rw [tim_len]; omega) 100).1, bind_some', roll_meas s1.1 s1.2 hp (by omega)]
  unfold l07_WheelMeasures_3
  dsimp only
  rw [if_pos (by decide), gi_ok N (by omega) (by omega), bind_some', if_pos rfl, sane07' (by omega)]; rfl
theorem wmeaT (x0 : List Int) (w0 : gSl (gInt .i64) x0) (a : List Int) (w1 : gSl (gInt .i64) a) (b : List Int) (w2 : gSl (gInt .i64) b) (x3 : Int) (w3 : gInt .i64 x3) (x4 : Int) (w4 : gInt .i64 x4) : ∃ N, l07_WheelMeasures N x0 a b x3 x4 = some true := by
  have h3 : maxLen ≤ 9223372036854775807 := by decide
  have h4 := w1.1
  exact ⟨9223372036854775807 + 2000, wmea_ok _ (by omega) x0 a b (by omega) x3 x4⟩
end Go.W
