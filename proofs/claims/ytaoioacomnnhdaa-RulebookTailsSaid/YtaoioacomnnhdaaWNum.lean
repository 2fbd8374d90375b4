/- Wagon numbers that the maker makes. -/
import Derived.Test.YtaoioacomnnhdaaWLib
set_option linter.unusedVariables false
set_option linter.unusedSimpArgs false
namespace Go.W
open Go.AM

def Dig (u : UInt8) : Prop := 48 ≤ u.toNat ∧ u.toNat ≤ 57
theorem dig_u8 {r : Int} (h0 : 0 ≤ r) (h1 : r < 10) : ∃ u, toU8 (IntKind.wrap .u8 (IntKind.wrap .i64 (48 + r))) = some u ∧ Dig u ∧ (u.toNat : Int) = 48 + r := by
  rw [w64 (by omega) (by omega), w8 (by omega) (by omega)]
  have hc : 0 ≤ 48 + r ∧ 48 + r < 256 := by omega
  refine ⟨UInt8.ofNat (48 + r).toNat, by unfold toU8; rw [if_pos hc], ?_, ?_⟩
  · have : (UInt8.ofNat (48 + r).toNat).toNat = (48 + r).toNat := by simp; omega
    unfold Dig; rw [this]; omega
  · have : (UInt8.ofNat (48 + r).toNat).toNat = (48 + r).toNat := by simp; omega
    rw [this]; omega

theorem digits_loop (N : Nat) : ∀ (d n : Nat) (s : Maker) (l : List UInt8) (i c : Int), d + 1 ≤ n → i = 11 - (d : Int) → 0 ≤ i → l.length = 11 → (∀ (j : Nat) (u : UInt8), (j : Int) < i → l[j]? = some u → Dig u) → Mk c s → c + d ≤ 1000000000000 →
    ∃ s' l', Maker_Digits_0 N 11 n s l i = some (s', l') ∧ Mk (c + d) s' ∧ l'.length = 11 ∧ ∀ u ∈ l', Dig u
  | d, 0, s, l, i, c, hn, _, _, _, _, _, _ => by omega
  | 0, n + 1, s, l, i, c, hn, hi, hi0, hl, hd, hs, hc => by
    rw [Maker_Digits_0, if_neg (by simp; omega)]
    refine ⟨s, l, rfl, by simpa using hs, hl, fun u hu => ?_⟩
    obtain ⟨j, hj⟩ := List.getElem?_of_mem hu
    have hlt := (List.getElem?_eq_some_iff.1 hj).1
    exact hd j u (by omega) hj
  | d + 1, n + 1, s, l, i, c, hn, hi, hi0, hl, hd, hs, hc => by
    rw [Maker_Digits_0, if_pos (by simp; omega)]
    obtain ⟨r, s', h1, h2, h3, h4⟩ := next_ok N 10 (by omega) (by omega) hs (by omega)
    rw [h1, bind_some']
    obtain ⟨x, hx, _, hx2⟩ := getI_ok (xs := l) (i := i) hi0 (by omega)
    rw [hx, bind_some']
    obtain ⟨u, hu, hdu, _⟩ := dig_u8 h2 h3
    simp only [hu, bind_some', lt_def]
    rw [w64 (by omega) (by omega)]
    obtain ⟨s2, l2, g1, g2, g3, g4⟩ := digits_loop N d n s' (l.set i.toNat u) (i + 1) (c + 1) (by omega) (by omega) (by omega) (by simpa using hl) (fun j w hj hw => by
      rw [List.getElem?_set] at hw
      split at hw
      · split at hw
        · cases hw; exact hdu
        · cases hw
      · exact hd j w (by omega) hw) h4 (by omega)
    exact ⟨s2, l2, g1, by rw [show c + ((d + 1 : Nat) : Int) = c + 1 + d by omega]; exact g2, g3, g4⟩

theorem digits_ok (M : Nat) {c : Int} {s : Maker} (hs : Mk c s) (hc : c ≤ 1000000000) : ∃ l s', Maker_Digits (M + 60) s 11 = some (l, s') ∧ Mk (c + 11) s' ∧ l.length = 11 ∧ ∀ u ∈ l, Dig u := by
  unfold Maker_Digits
  have hm : mkI (0 : UInt8) 11 = some (List.replicate 11 0) := by simp [mkI]
  rw [hm, bind_some']
  obtain ⟨s', l', h1, h2, h3, h4⟩ := digits_loop (M + 60) 11 (M + 60) s (List.replicate 11 0) 0 c (by omega) (by omega) (by omega) (by simp) (fun j u hj => by omega) hs (by omega)
  rw [h1, bind_some']
  exact ⟨l', s', rfl, h2, h3, h4⟩
end Go.W
