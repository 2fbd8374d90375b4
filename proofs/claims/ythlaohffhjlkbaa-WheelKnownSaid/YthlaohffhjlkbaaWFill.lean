/- Recognize: the program's table, the reference's, and what both hand back. -/
import Derived.Test.YthlaohffhjlkbaaWCheck
set_option linter.unusedVariables false
set_option linter.unusedSimpArgs false
namespace Go.W
open Go.AM

/-- What a row's choice means. -/
def RowOk (tol : Int) (tl : List (Int × Int)) (ds : List Int) (p : List (List Int)) (b : Int × Int) : Prop :=
  b = (-1, -1) ∨ ∃ (j : Nat) (q : List Int) (f : Int) (c : Int × Int), p[j]? = some q ∧ fit tol q ds = some f ∧ tl[q.length]? = some c ∧ 0 ≤ c.1 ∧ 0 ≤ f ∧ b = (f + c.1, (j : Int))

theorem better_row {tol : Int} {tl : List (Int × Int)} {ds q : List Int} {p : List (List Int)} {j : Nat} {b : Int × Int} (hp : ∀ q ∈ p, q.length ≤ 5 ∧ ∀ x ∈ q, InR x) (hd : ∀ x ∈ ds, InR x) (hj : p[j]? = some q) (hb : RowOk tol tl ds p b) : RowOk tol tl ds p (better tol tl ds q j b) := by
  unfold better
  split
  · rename_i f c hf hc
    split
    · exact hb
    · split
      · have := fit_bound (hp q (List.mem_of_getElem? hj)).2 hd hf
        exact .inr ⟨j, q, f, c, hj, hf, hc, by omega, this.1, rfl⟩
      · exact hb
  · exact hb
theorem rowF_row {tol : Int} {tl : List (Int × Int)} {ds : List Int} {p : List (List Int)} (hp : ∀ q ∈ p, q.length ≤ 5 ∧ ∀ x ∈ q, InR x) (hd : ∀ x ∈ ds, InR x) : ∀ (k j : Nat) (b : Int × Int), j + k = p.length → RowOk tol tl ds p b → RowOk tol tl ds p (rowF tol tl ds (p.drop j) j b)
  | 0, j, b, hj, hb => by rw [List.drop_eq_nil_of_le (by omega)]; exact hb
  | k + 1, j, b, hj, hb => by
    have hl : j < p.length := by omega
    rw [wdrop_at (wat_lt hl)]
    exact rowF_row hp hd k (j + 1) _ (by omega) (better_row hp hd (wat_lt hl) hb)

theorem RowOk.sign {tol : Int} {tl : List (Int × Int)} {ds : List Int} {p : List (List Int)} {b : Int × Int} (h : RowOk tol tl ds p b) : (b.2 < 0 ↔ b.1 < 0) ∧ -1 ≤ b.2 := by
  rcases h with rfl | ⟨j, q, f, c, _, _, _, h1, h2, rfl⟩
  · simp
  · simp only []; omega

/-- The data is as 'check' wants it. -/
structure Fine (d : List Int) (p : List (List Int)) : Prop where
  dl : d.length ≤ 768
  pl : p.length ≤ 16
  d : ∀ x ∈ d, InR x
  p : ∀ q ∈ p, q.length ≤ 5 ∧ ∀ x ∈ q, InR x

section
variable {d : List Int} {p : List (List Int)} {tol : Int}

theorem tab_row (F : Fine d p) (k : Nat) (hk : k ≤ d.length) : RowOk tol (tabN tol p d k) (d.drop (d.length - k)) p (rowF tol (tabN tol p d k) (d.drop (d.length - k)) p 0 (-1, -1)) := by
  have := rowF_row (tol := tol) (tl := tabN tol p d k) (ds := d.drop (d.length - k)) F.p (fun x hx => F.d x (List.mem_of_mem_drop hx)) p.length 0 (-1, -1) (by omega) (.inl rfl)
  simpa using this

theorem tab_bound (F : Fine d p) (k : Nat) (hk : k ≤ d.length + 1) : ∀ c ∈ tabN tol p d k, -1 ≤ c.1 ∧ c.1 ≤ 100000000 := by
  intro c hc
  have := F.dl
  rcases tabN_rb F.d F.p k c hc with rfl | h | h
  · simp
  · rw [h]; simp
  · omega

/-- The columns of the table, ahead of them what is not yet filled. -/
def colA (n : Nat) (t : List (Int × Int)) : List Int := List.replicate n 0 ++ t.map Prod.fst
def colB (n : Nat) (t : List (Int × Int)) : List Int := List.replicate n 0 ++ t.map Prod.snd
def colC (n : Nat) (t : List (Int × Int)) : List Int := List.replicate n 0 ++ t.map fun c => max c.2 0

theorem rep_arr (n : Nat) (T : List Int) (c : Int) : List.replicate (n + 1) 0 ++ T = arr n 0 T := by
  unfold arr
  rw [List.replicate_succ', List.append_assoc]
  rfl

theorem outer_loop (M : Nat) (F : Fine d p) : ∀ (r n k : Nat), r < n → k + r = d.length + 1 →
    wheel_Recognize_0 (M + 60) d p tol n (colA (d.length + 1 - k) (tabN tol p d k)) (colB (d.length + 1 - k) (tabN tol p d k)) ((d.length : Int) - k) = some ((tabN tol p d (d.length + 1)).map Prod.fst, (tabN tol p d (d.length + 1)).map Prod.snd)
  | r, 0, k, hr, _ => by omega
  | 0, n + 1, k, hr, hk => by
    have : k = d.length + 1 := by omega
    subst this
    rw [wheel_Recognize_0, if_neg (by simp; omega)]
    simp [colA, colB]
  | r + 1, n + 1, k, hr, hk => by
    have hkl : k ≤ d.length := by omega
    have hi : d.length + 1 - k = (d.length - k) + 1 := by omega
    have hic : (d.length : Int) - k = ((d.length - k : Nat) : Int) := by omega
    have hl := tabN_len (tol := tol) (p := p) (d := d) k
    have hdl := F.dl
    have hpl := F.pl
    have hpat := patterns_loop M (tol := tol) (i := d.length - k) (tl := tabN tol p d k) F.d F.p (by omega) F.dl F.pl (by rw [hl]; omega) (tab_bound F k (by omega)) p.length (M + 60) 0 (-1, -1) (by omega) (by omega)
    rw [wheel_Recognize_0, if_pos (by simp; omega), hic]
    simp only [colA, colB, hi]
    rw [rep_arr _ _ 0, rep_arr _ _ 0, arr_at, bind_some', lt_def, arr_at, bind_some', lt_def, arr_set, arr_set]
    simp only [List.drop_zero, Int.natCast_zero] at hpat
    rw [hpat, bind_some', lt_def]
    have ih := outer_loop M F r n (k + 1) (by omega) (by omega)
    have e : IntKind.wrap .i64 (((d.length - k : Nat) : Int) - 1) = (d.length : Int) - ((k + 1 : Nat) : Int) := by rw [w64 (by omega) (by omega)]; omega
    rw [e]
    rw [← ih]
    simp only [colA, colB, tabN, List.map_cons, show d.length + 1 - (k + 1) = d.length - k by omega]
    rfl

/-! ### The reference -/

theorem ref_inner (M : Nat) {i j : Nat} {q : List Int} {b : Int × Int} {tl : List (Int × Int)} (F : Fine d p) (hj : p[j]? = some q) (hi : i ≤ d.length) (htl : tl.length = d.length - i + 1) (hb : ∀ c ∈ tl, -1 ≤ c.1 ∧ c.1 ≤ 100000000) (hr : RowOk tol tl (d.drop i) p b) :
    r07_Recognize_9 (M + 60) d p tol (arr i b.1 (tl.map Prod.fst)) (arr i (max b.2 0) (tl.map fun c => max c.2 0)) i j =
      some (arr i (better tol tl (d.drop i) q j b).1 (tl.map Prod.fst), arr i (max (better tol tl (d.drop i) q j b).2 0) (tl.map fun c => max c.2 0)) := by
  obtain ⟨hq1, hq2⟩ := F.p q (List.mem_of_getElem? hj)
  have hdl := F.dl
  have hcut : cutI d (i : Int) (d.length : Int) = some (d.drop i) := by
    unfold cutI
    rw [if_pos (by omega)]
    simp
  have hdd : ∀ x ∈ d.drop i, InR x := fun x hx => F.d x (List.mem_of_mem_drop hx)
  unfold r07_Recognize_9
  rw [hcut, bind_some', wgetI_nat hj, bind_some', ref_ok M hq2 hdd (by omega), bind_some', bind_some', lt_def]
  have hw : IntKind.wrap .i64 (IntKind.wrap .i64 ((i : Int) + (q.length : Int)) + 1) = (i : Int) + q.length + 1 := by rw [w64 (n := (i : Int) + q.length) (by omega) (by omega), w64 (by omega) (by omega)]
  rw [hw]
  unfold better
  cases hf : fit tol q (d.drop i) with
  | none =>
    simp only []
    unfold r07_Recognize_10
    rw [if_pos (by simp), bind_some', if_pos rfl]
  | some f =>
    have hlen := fit_len hf
    have hfb := fit_bound hq2 hdd hf
    rw [List.length_drop] at hlen
    obtain ⟨c, hc⟩ : ∃ c, tl[q.length]? = some c := ⟨tl[q.length]'(by omega), by simp⟩
    have hcb := hb c (List.mem_of_getElem? hc)
    have hg : getI (arr i b.1 (tl.map Prod.fst)) ((i : Int) + q.length + 1) = some c.1 := arr_next (k := q.length) (by simp [hc]) rfl
    simp only [hc]
    unfold r07_Recognize_10
    rw [if_neg (by simp; omega), hg, bind_some', bind_some']
    by_cases hneg : c.1 < 0
    · rw [if_pos (by simpa using hneg), if_pos hneg]
    · rw [if_neg (by simpa using hneg), if_neg hneg]
      have hs := hr.sign
      have h4 : r07_Recognize_11 (M + 60) (arr i b.1 (tl.map Prod.fst)) i f ((i : Int) + q.length + 1) = some (decide (b.2 < 0 ∨ f + c.1 < b.1)) := by
        unfold r07_Recognize_11
        rw [arr_at, bind_some']
        by_cases h2 : b.2 < 0
        · rw [if_pos (by simp; omega)]; simp [h2]
        · rw [if_neg (by simp; omega), hg, bind_some', bind_some', w64 (n := f + c.1) (by omega) (by omega)]; simp [h2]
      rw [h4, bind_some']
      by_cases h5 : b.2 < 0 ∨ f + c.1 < b.1
      · rw [if_pos (by simpa using h5), if_pos h5, bind_some', arr_at, bind_some', lt_def, arr_at, bind_some', lt_def, arr_set, arr_set, w64 (n := f + c.1) (by omega) (by omega)]
        simp only []
        rw [show max (j : Int) 0 = j by omega]
      · rw [if_neg (by simpa using h5), if_neg h5]

theorem ref_patterns (M : Nat) {i : Nat} {tl : List (Int × Int)} (F : Fine d p) (hi : i ≤ d.length) (htl : tl.length = d.length - i + 1) (hb : ∀ c ∈ tl, -1 ≤ c.1 ∧ c.1 ≤ 100000000) :
    ∀ (k n j : Nat) (b : Int × Int), k + 1 ≤ n → j + k = p.length → RowOk tol tl (d.drop i) p b → r07_Recognize_8 (M + 60) d p tol i n (arr i b.1 (tl.map Prod.fst)) (arr i (max b.2 0) (tl.map fun c => max c.2 0)) j =
      some (arr i (rowF tol tl (d.drop i) (p.drop j) j b).1 (tl.map Prod.fst), arr i (max (rowF tol tl (d.drop i) (p.drop j) j b).2 0) (tl.map fun c => max c.2 0))
  | k, 0, j, b, hn, _, _ => by omega
  | 0, n + 1, j, b, hn, hj, _ => by
    rw [r07_Recognize_8, if_neg (by simp; omega)]
    have : p.drop j = [] := List.drop_eq_nil_of_le (by omega)
    rw [this]; rfl
  | k + 1, n + 1, j, b, hn, hj, hr => by
    rw [r07_Recognize_8, if_pos (by simp; omega)]
    have hjl : j < p.length := by omega
    have hpl := F.pl
    have hdd : ∀ x ∈ d.drop i, InR x := fun x hx => F.d x (List.mem_of_mem_drop hx)
    rw [ref_inner M F (wat_lt hjl) hi htl hb hr, bind_some', lt_def, ww64s (by omega)]
    have ih := ref_patterns M F hi htl hb k n (j + 1) (better tol tl (d.drop i) p[j] j b) (by omega) (by omega) (better_row F.p hdd (wat_lt hjl) hr)
    simp only []
    rw [ih, wdrop_at (wat_lt hjl)]
    rfl

theorem ref_outer (M : Nat) (F : Fine d p) : ∀ (r n k : Nat), r < n → k + r = d.length + 1 →
    r07_Recognize_7 (M + 60) d p tol n (colA (d.length + 1 - k) (tabN tol p d k)) (colC (d.length + 1 - k) (tabN tol p d k)) ((d.length : Int) - k) = some ((tabN tol p d (d.length + 1)).map Prod.fst, (tabN tol p d (d.length + 1)).map fun c => max c.2 0)
  | r, 0, k, hr, _ => by omega
  | 0, n + 1, k, hr, hk => by
    have : k = d.length + 1 := by omega
    subst this
    rw [r07_Recognize_7, if_neg (by simp; omega)]
    simp [colA, colC]
  | r + 1, n + 1, k, hr, hk => by
    have hkl : k ≤ d.length := by omega
    have hi : d.length + 1 - k = (d.length - k) + 1 := by omega
    have hic : (d.length : Int) - k = ((d.length - k : Nat) : Int) := by omega
    have hl := tabN_len (tol := tol) (p := p) (d := d) k
    have hdl := F.dl
    have hpl := F.pl
    have hpat := ref_patterns M (tol := tol) (i := d.length - k) (tl := tabN tol p d k) F (by omega) (by rw [hl]; omega) (tab_bound F k (by omega)) p.length (M + 60) 0 (-1, -1) (by omega) (by omega) (.inl rfl)
    rw [r07_Recognize_7, if_pos (by simp; omega), hic]
    simp only [colA, colC, hi]
    rw [rep_arr _ _ 0, rep_arr _ _ 0, arr_at, bind_some', lt_def, arr_set]
    simp only [List.drop_zero, Int.natCast_zero] at hpat
    rw [show max (-1 : Int) 0 = 0 from rfl] at hpat
    rw [hpat, bind_some', lt_def]
    have ih := ref_outer M F r n (k + 1) (by omega) (by omega)
    have e : IntKind.wrap .i64 (((d.length - k : Nat) : Int) - 1) = (d.length : Int) - ((k + 1 : Nat) : Int) := by rw [w64 (by omega) (by omega)]; omega
    rw [e]
    rw [← ih]
    simp only [colA, colC, tabN, List.map_cons, show d.length + 1 - (k + 1) = d.length - k by omega]
    rfl
end
end Go.W
