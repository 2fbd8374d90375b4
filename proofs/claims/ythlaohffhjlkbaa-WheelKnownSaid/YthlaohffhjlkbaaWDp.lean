/- The program's loops fill the table. -/
import Derived.Test.YthlaohffhjlkbaaWTab
set_option linter.unusedVariables false
set_option linter.unusedSimpArgs false
namespace Go.W
open Go.AM

/-- An array whose places from 'i' on are filled. -/
def arr (i : Nat) (c : Int) (T : List Int) : List Int := List.replicate i 0 ++ c :: T
theorem arr_at {i : Nat} {c : Int} {T : List Int} : getI (arr i c T) i = some c := by
  simp [getI, arr]
theorem arr_next {i k : Nat} {c x : Int} {T : List Int} (h : T[k]? = some x) {n : Int} (hn : n = (i : Int) + k + 1) : getI (arr i c T) n = some x := by
  subst hn
  unfold getI arr
  rw [if_pos (by omega), show ((i : Int) + k + 1).toNat = i + (k + 1) by omega, List.getElem?_append_right (by simp)]
  simp [h]
theorem arr_set {i : Nat} {c x : Int} {T : List Int} : (arr i c T).set ((i : Int).toNat) x = arr i x T := by
  unfold arr
  rw [Int.toNat_natCast, List.set_append_right _ _ (by simp)]
  simp

theorem inner_ok (M : Nat) {d q : List Int} {p : List (List Int)} {tol : Int} {i j : Nat} {b : Int × Int} {tl : List (Int × Int)} (hd : ∀ x ∈ d, InR x) (hq : q.length ≤ 5 ∧ ∀ x ∈ q, InR x) (hj : p[j]? = some q) (hi : i ≤ d.length) (hdl : d.length ≤ 768) (htl : tl.length = d.length - i + 1) (hb : ∀ c ∈ tl, -1 ≤ c.1 ∧ c.1 ≤ 100000000) :
    wheel_Recognize_2 (M + 60) d tol (arr i b.1 (tl.map Prod.fst)) (arr i b.2 (tl.map Prod.snd)) i p j =
      some (arr i (better tol tl (d.drop i) q j b).1 (tl.map Prod.fst), arr i (better tol tl (d.drop i) q j b).2 (tl.map Prod.snd)) := by
  obtain ⟨hq1, hq2⟩ := hq
  have hgq : getI p (j : Int) = some q := by simp [getI, hj]
  have hcut : cutI d (i : Int) (d.length : Int) = some (d.drop i) := by
    unfold cutI
    rw [if_pos (by omega)]
    simp
  have hdd : ∀ x ∈ d.drop i, InR x := fun x hx => hd x (List.mem_of_mem_drop hx)
  unfold wheel_Recognize_2
  rw [hgq, bind_some', hcut, bind_some', match_ok M hq2 hdd (by omega), bind_some']
  have hw : IntKind.wrap .i64 (IntKind.wrap .i64 ((i : Int) + (q.length : Int)) + 1) = (i : Int) + q.length + 1 := by rw [w64 (n := (i : Int) + q.length) (by omega) (by omega), w64 (by omega) (by omega)]
  unfold better
  cases hf : fit tol q (d.drop i) with
  | none =>
    simp only []
    unfold wheel_Recognize_3
    rw [if_pos (by simp), bind_some', if_pos rfl]
  | some f =>
    have hlen := fit_len hf
    have hfb := fit_bound hq2 hdd hf
    rw [List.length_drop] at hlen
    obtain ⟨c, hc⟩ : ∃ c, tl[q.length]? = some c := ⟨tl[q.length]'(by omega), by simp⟩
    have hcb := hb c (List.mem_of_getElem? hc)
    have hg : getI (arr i b.1 (tl.map Prod.fst)) ((i : Int) + q.length + 1) = some c.1 := arr_next (k := q.length) (by simp [hc]) rfl
    simp only [hc]
    unfold wheel_Recognize_3
    rw [if_neg (by simp), hw, hg, bind_some', bind_some']
    by_cases hneg : c.1 < 0
    · rw [if_pos (by simpa using hneg), if_pos hneg]
    · rw [if_neg (by simpa using hneg), if_neg hneg, bind_some', lt_def, w64 (n := f + c.1) (by omega) (by omega)]
      have h4 : wheel_Recognize_4 (M + 60) (arr i b.1 (tl.map Prod.fst)) (arr i b.2 (tl.map Prod.snd)) i (f + c.1) = some (decide (b.2 < 0 ∨ f + c.1 < b.1)) := by
        unfold wheel_Recognize_4
        rw [arr_at, bind_some']
        by_cases h2 : b.2 < 0
        · rw [if_pos (by simpa using h2)]; simp [h2]
        · rw [if_neg (by simpa using h2), arr_at, bind_some']; simp [h2]
      rw [h4, bind_some']
      by_cases h5 : b.2 < 0 ∨ f + c.1 < b.1
      · rw [if_pos (by simpa using h5), if_pos h5, arr_at, bind_some', lt_def, arr_at, bind_some', lt_def, arr_set, arr_set]
      · rw [if_neg (by simpa using h5), if_neg h5]

theorem patterns_loop (M : Nat) {d : List Int} {p : List (List Int)} {tol : Int} {i : Nat} {tl : List (Int × Int)} (hd : ∀ x ∈ d, InR x) (hp : ∀ q ∈ p, q.length ≤ 5 ∧ ∀ x ∈ q, InR x) (hi : i ≤ d.length) (hdl : d.length ≤ 768) (hpl : p.length ≤ 16) (htl : tl.length = d.length - i + 1) (hb : ∀ c ∈ tl, -1 ≤ c.1 ∧ c.1 ≤ 100000000) :
    ∀ (k n j : Nat) (b : Int × Int), k + 1 ≤ n → j + k = p.length → wheel_Recognize_1 (M + 60) d tol i p p.length n (arr i b.1 (tl.map Prod.fst)) (arr i b.2 (tl.map Prod.snd)) j =
      some (arr i (rowF tol tl (d.drop i) (p.drop j) j b).1 (tl.map Prod.fst), arr i (rowF tol tl (d.drop i) (p.drop j) j b).2 (tl.map Prod.snd))
  | k, 0, j, b, hn, _ => by omega
  | 0, n + 1, j, b, hn, hj => by
    rw [wheel_Recognize_1, if_neg (by simp; omega)]
    have : p.drop j = [] := List.drop_eq_nil_of_le (by omega)
    rw [this]; rfl
  | k + 1, n + 1, j, b, hn, hj => by
    rw [wheel_Recognize_1, if_pos (by simp; omega)]
    have hjl : j < p.length := by omega
    have hpj : p[j]? = some p[j] := by simp [hjl]
    rw [inner_ok M hd (hp _ (List.getElem_mem hjl)) hpj hi hdl htl hb, bind_some', w64 (n := (j : Int) + 1) (by omega) (by omega)]
    have ih := patterns_loop M (tol := tol) hd hp hi hdl hpl htl hb k n (j + 1) (better tol tl (d.drop i) p[j] j b) (by omega) (by omega)
    simp only [Int.natCast_add, Int.natCast_one] at ih
    simp only []
    rw [ih, wdrop_at hpj]
    rfl
end Go.W
