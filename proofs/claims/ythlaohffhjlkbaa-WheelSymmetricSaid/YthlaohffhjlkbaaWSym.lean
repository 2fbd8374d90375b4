/- WheelSymmetric: the law about the models. -/
import Derived.Test.YthlaohffhjlkbaaWWag
import Derived.Test.YthlaohffhjlkbaaWSane
set_option linter.unusedVariables false
set_option linter.unusedSimpArgs false
set_option maxRecDepth 100000
namespace Go.W
open Go.AM

/-- The offsets of a good wagon of length L. -/
def offs (k L : Int) : List Int :=
  if k = 1 then [130, 330, 10 * L - 330, 10 * L - 130] else if k = 2 then [(10 * L).tdiv 4, 10 * L - (10 * L).tdiv 4] else if k = 3 then [120, 280, 440, 10 * L - 440, 10 * L - 280, 10 * L - 120] else [150, 330, 10 * L - 330, 10 * L - 150]

theorem GW.offsets {N : Nat} {k : Int} {w : S30} (h : GW N k w) : m14 N w = some (offs k w.length, 0) := by
  have hl : 80 ≤ w.length ∧ w.length ≤ 400 := by
    have := h.len
    simp only [List.mem_cons, List.not_mem_nil, or_false] at this
    omega
  have hq : 0 ≤ (10 * w.length).tdiv 4 ∧ (10 * w.length).tdiv 4 ≤ 1000 := by rw [Int.tdiv_eq_ediv_of_nonneg (by omega)]; omega
  unfold m14
  rw [h.valid, bind_some', if_neg (by simp)]
  unfold m34
  rw [lt_def, w64 (n := 10 * w.length) (by omega) (by omega), h.num]
  simp only [bind_some', lt_def]
  unfold offs
  rw [w64 (n := 10 * w.length - 330) (by omega) (by omega), w64 (n := 10 * w.length - 130) (by omega) (by omega), w64 (n := 10 * w.length - 150) (by omega) (by omega), w64 (n := 10 * w.length - 440) (by omega) (by omega), w64 (n := 10 * w.length - 280) (by omega) (by omega), w64 (n := 10 * w.length - 120) (by omega) (by omega),
    w64 (n := (10 * w.length).tdiv 4) (by omega) (by omega), w64 (n := 10 * w.length - (10 * w.length).tdiv 4) (by omega) (by omega)]
  rcases h.kind with hk | hk | hk | hk <;> subst hk <;> rfl

theorem law_sym (M : Nat) (t : List Int) : m4 (M + 60) t = some true := by
  unfold m4 m12
  rw [bind_some']
  obtain ⟨w, s', k, h1, _, hw⟩ := wagon_ok M (c := 0) (s := S56.mk t 0) (x1 := 1) ⟨by simp, by simp⟩ (by omega) (by omega) (by omega)
  rw [h1, bind_some']
  simp only [hw.offsets, bind_some']
  have hlen := hw.len
  have hax := hw.ax
  have hl3 := hw.len3
  have hsane := sane M
  obtain ⟨num, len, ax, mass, brake, goods, gentle, dest⟩ := w
  simp only at hlen hax hl3
  simp only [List.mem_cons, List.not_mem_nil, or_false] at hlen
  rcases hw.kind with hk | hk | hk | hk <;> subst hk <;> rcases hlen with rfl | rfl | rfl | rfl | rfl | rfl <;> first
    | (exfalso; revert hl3; decide)
    | (have hax : ax = _ := hax.trans (by decide : _ = (4 : Int)); subst hax; exact (congrArg (fun o => Option.bind o fun y => some y) hsane))
    | (have hax : ax = _ := hax.trans (by decide : _ = (2 : Int)); subst hax; exact (congrArg (fun o => Option.bind o fun y => some y) hsane))
    | (have hax : ax = _ := hax.trans (by decide : _ = (6 : Int)); subst hax; exact (congrArg (fun o => Option.bind o fun y => some y) hsane))
end Go.W
