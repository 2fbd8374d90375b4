/- What the maker makes: lists of wagons, spoiled wagons. -/
import Derived.Test.YtaoioacomnnhdaaWWag
import Derived.Test.YtaoioacomnnhdaaLWag
set_option linter.unusedVariables false
set_option linter.unusedSimpArgs false
namespace Go.W
open Go.AM

theorem Fu.of {N : Nat} {w : Wagon} (h1 : w.number.length < N) (h2 : w.dest.length < N) (hN : N ≤ 4294967296) : Fu N w := ⟨⟨h1, by omega⟩, h2, by omega⟩
theorem nameOk_len {l : List UInt8} (h : nameOk l = true) : l.length ≤ 12 := by
  simp only [nameOk, Bool.and_eq_true, decide_eq_true_eq] at h
  omega
theorem wagErr_len {w : Wagon} (h : wagErr w = 0) : w.number.length = 12 ∧ w.dest.length ≤ 12 := by
  obtain ⟨h1, _, _, h4⟩ := wagErr_zero h
  exact ⟨(numErr_len h1).1, nameOk_len h4⟩
theorem wagErr_fu {N : Nat} {w : Wagon} (h : wagErr w = 0) (hN : 20 ≤ N) : Fu N w := by
  obtain ⟨h1, h2⟩ := wagErr_len h
  exact ⟨⟨by omega, by omega⟩, by omega, by omega⟩

/-- A made wagon. -/
theorem made_ok (N : Nat) (hN : 60 ≤ N) {c : Int} {s : Maker} {i : Int} (hs : Mk c s) (hc : c ≤ 900000000) (h0 : 0 ≤ i) (h1 : i ≤ 999) :
    ∃ w s', Maker_Wagon N s i = some (w, s') ∧ Mk (c + 17) s' ∧ wagErr w = 0 ∧ tagOf w.number = i := by
  obtain ⟨M, rfl⟩ : ∃ M, N = M + 60 := ⟨N - 60, by omega⟩
  obtain ⟨w, s', k, a1, a2, a3, a4, a5, a6⟩ := wagon_ok M hs hc h0 (by omega)
  have hv := (wag_ok (M + 60) (by omega) (w := w) ⟨⟨by omega, by omega⟩, by omega, by omega⟩).1
  rw [a3.valid] at hv
  exact ⟨w, s', a1, a2, by simpa using hv.symm, a4 h1⟩

/-- Made wagons: valid, with numbers of their own. -/
structure MadeL (l : List Wagon) : Prop where
  ok : ∀ w ∈ l, wagErr w = 0
  tag : ∀ (i : Nat) (w : Wagon), l[i]? = some w → tagOf w.number = i

theorem MadeL.nodup {l : List Wagon} (h : MadeL l) : (l.map (·.number)).Nodup := by
  rw [List.nodup_iff_pairwise_ne, List.pairwise_iff_getElem]
  intro i j hi hj hij he
  rw [List.length_map] at hi hj
  simp only [List.getElem_map] at he
  have h1 := h.tag i _ (at_lt hi)
  have h2 := h.tag j _ (at_lt hj)
  rw [he, h2] at h1
  omega
theorem MadeL.nil : MadeL [] := ⟨fun w hw => by simp at hw, fun i w hw => by simp at hw⟩
theorem MadeL.snoc {l : List Wagon} (h : MadeL l) {w : Wagon} (hw : wagErr w = 0) (ht : tagOf w.number = l.length) : MadeL (l ++ [w]) := by
  refine ⟨fun x hx => ?_, fun i x hx => ?_⟩
  · rcases List.mem_append.1 hx with hx | hx
    · exact h.ok x hx
    · simp at hx; subst hx; exact hw
  · by_cases hi : i < l.length
    · rw [List.getElem?_append_left hi] at hx; exact h.tag i x hx
    · rw [List.getElem?_append_right (by omega)] at hx
      have hlt := (List.getElem?_eq_some_iff.1 hx).1
      simp at hlt
      have : i = l.length := by omega
      subst this
      simp at hx; subst hx; exact ht

theorem wagons_loop (N : Nat) (hN : 60 ≤ N) : ∀ (k n : Nat) (s : Maker) (out : List Wagon) (c : Int), k < n → Mk c s → c + 17 * k ≤ 900000000 → out.length + k ≤ 900 → MadeL out →
    ∃ s' out', Maker_Wagons_0 N n s out k = some (s', out') ∧ Mk (c + 17 * k) s' ∧ out'.length = out.length + k ∧ MadeL out'
  | k, 0, s, out, c, hn, _, _, _, _ => by omega
  | 0, n + 1, s, out, c, hn, hs, _, _, hm => by
    rw [Maker_Wagons_0, if_neg (dneg (by omega))]
    exact ⟨s, out, rfl, by simpa using hs, rfl, hm⟩
  | k + 1, n + 1, s, out, c, hn, hs, hc, ho, hm => by
    obtain ⟨w, s1, h1, h2, h3, h4⟩ := made_ok N hN (i := out.length) hs (by omega) (by omega) (by omega)
    rw [Maker_Wagons_0, if_pos (dpos (by omega)), h1, bind_some']
    simp only [appI_ok (xs := out) (ys := [w]) (by simp; omega), bind_some', lt_def, w64p (i := k) (by omega)]
    obtain ⟨s', out', g1, g2, g3, g4⟩ := wagons_loop N hN k n s1 (out ++ [w]) (c + 17) (by omega) h2 (by omega) (by simp; omega) (hm.snoc h3 h4)
    exact ⟨s', out', g1, g2.le (by omega), by simp at g3; omega, g4⟩

theorem wagons_ok (N : Nat) (hN : 1000 ≤ N) {c : Int} {s : Maker} (n : Nat) (hn : n ≤ 500) (hs : Mk c s) (hc : c ≤ 800000000) :
    ∃ l s', Maker_Wagons N s n = some (l, s') ∧ Mk (c + 10000) s' ∧ l.length ≤ n ∧ MadeL l := by
  unfold Maker_Wagons
  rw [w64s (by omega)]
  obtain ⟨r, s1, h1, r0, r1, m1⟩ := next_ok N ((n + 1 : Nat) : Int) (by omega) (by omega) hs (by omega)
  obtain ⟨r, rfl⟩ := Int.eq_ofNat_of_zero_le r0
  obtain ⟨s2, l, h2, m2, hl, hm⟩ := wagons_loop N (by omega) r N s1 [] (c + 1) (by omega) m1 (by omega) (by simp; omega) MadeL.nil
  rw [h1, bind_some']
  simp only []
  rw [h2, bind_some']
  exact ⟨l, s2, rfl, m2.le (by omega), by simp at hl; omega, hm⟩

theorem from_ok (N : Nat) {c : Int} {s : Maker} (a b : Int) (hab : a ≤ b) (ha : -1000000 ≤ a) (hb : b ≤ 1000000) (hd : b - a < 1000000) (hs : Mk c s) (hc : c ≤ 1000000000000) : ∃ r s', a ≤ r ∧ r ≤ b ∧ Mk (c + 1) s' ∧ Maker_Next N s (b - a + 1) = some (r - a, s') := by
  obtain ⟨r, s', h1, h2, h3, h4⟩ := next_ok N (b - a + 1) (by omega) (by omega) hs hc
  exact ⟨r + a, s', by omega, by omega, h4, by rw [h1]; congr 2; omega⟩
end Go.W
