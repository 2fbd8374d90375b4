/- What is spoiled: bytes and wagons. -/
import Derived.Test.YthlaohffhjlkbaaLMade
set_option linter.unusedVariables false
set_option linter.unusedSimpArgs false
set_option maxRecDepth 100000
namespace Go.W
open Go.AM

theorem spoil_ok (N : Nat) {c : Int} {s : Maker} (hs : Mk c s) (hc : c ≤ 800000000) {l : List UInt8} (hl : l.length ≤ 5000) :
    ∃ l' s', Maker_Spoil N s l = some (l', s') ∧ Mk (c + 3) s' ∧ l'.length ≤ l.length + 1 := by
  have u8 : ∀ r : Int, 0 ≤ r → r < 256 → ∃ u, toU8 (IntKind.wrap .u8 r) = some u := fun r h0 h1 => by
    rw [w8 h0 (by omega)]; unfold toU8; rw [if_pos (by omega)]; exact ⟨_, rfl⟩
  unfold Maker_Spoil
  by_cases he : l = []
  · obtain ⟨r, s1, h1, r0, r1, m1⟩ := next_ok N 256 (by omega) (by omega) hs (by omega)
    obtain ⟨u, hu⟩ := u8 r r0 r1
    rw [if_pos (by simp [he]), h1, bind_some', hu, bind_some', lt_def]
    exact ⟨_, _, rfl, m1.le (by omega), by simp⟩
  · have hpos : 1 ≤ l.length := by
      cases l with
      | nil => exact absurd rfl he
      | cons a t => simp
    obtain ⟨r, s1, h1, r0, r1, m1⟩ := next_ok N (l.length : Int) (by omega) (by omega) hs (by omega)
    obtain ⟨r, rfl⟩ := Int.eq_ofNat_of_zero_le r0
    obtain ⟨q, s2, h2, q0, q1, m2⟩ := next_ok N 4 (by omega) (by omega) m1 (by omega)
    have c1 : cutI l 0 (r : Int) = some (l.take r) := cutI_take (by omega)
    have c2 : cutI l ((r + 1 : Nat) : Int) (l.length : Int) = some (l.drop (r + 1)) := cutI_drop (by omega)
    have c3 : cutI l (r : Int) (l.length : Int) = some (l.drop r) := cutI_drop (by omega)
    have d1 : (l.take r).length = r := by simp; omega
    have d2 : (l.drop (r + 1)).length = l.length - (r + 1) := by simp
    have d3 : (l.drop r).length = l.length - r := by simp
    obtain ⟨v, s3, h3, v0, v1, m3⟩ := next_ok N 256 (by omega) (by omega) m2 (by omega)
    obtain ⟨w, s4, h4, w0, w1, m4⟩ := next_ok N 10 (by omega) (by omega) m2 (by omega)
    obtain ⟨u, hu⟩ := u8 v v0 v1
    obtain ⟨u', hu', _⟩ := dig_u8 w0 w1
    rw [if_neg (by simpa using he), h1, bind_some', h2, bind_some', lt_def]
    dsimp only
    rw [w64s (by omega)]
    by_cases a : q = 0
    · rw [if_pos (by simp [a]), c1, bind_some', c2, bind_some', appI_ok (by omega), bind_some']
      exact ⟨_, _, rfl, m2.le (by omega), by simp; omega⟩
    rw [if_neg (by simpa using a), lt_def]
    by_cases b : q = 1
    · rw [if_pos (by simp [b]), c1, bind_some', h3, bind_some']
      dsimp only
      rw [hu, bind_some', appI_ok (by simp; omega), bind_some', c3, bind_some', appI_ok (by simp; omega), bind_some']
      exact ⟨_, _, rfl, m3.le (by omega), by simp; omega⟩
    rw [if_neg (by simpa using b), lt_def]
    by_cases d : q = 2
    · rw [if_pos (by simp [d]), c1, bind_some', h4, bind_some']
      dsimp only
      rw [hu', bind_some', appI_ok (by simp; omega), bind_some', c2, bind_some', appI_ok (by simp; omega), bind_some']
      exact ⟨_, _, rfl, m4.le (by omega), by simp; omega⟩
    · rw [if_neg (by simpa using d), c1, bind_some', h3, bind_some']
      dsimp only
      rw [hu, bind_some', appI_ok (by simp; omega), bind_some', c2, bind_some', appI_ok (by simp; omega), bind_some']
      exact ⟨_, _, rfl, m3.le (by omega), by simp; omega⟩

theorem spoilw_ok (N : Nat) {c : Int} {s : Maker} (hs : Mk c s) (hc : c ≤ 700000000) {w : Wagon} (h1 : w.number.length ≤ 900) (h2 : w.dest.length ≤ 900) :
    ∃ w' s', Maker_SpoilWagon N s w = some (w', s') ∧ Mk (c + 10) s' ∧ w'.number.length ≤ 901 ∧ w'.dest.length ≤ 901 := by
  unfold Maker_SpoilWagon
  obtain ⟨q, s1, e1, q0, q1, m1⟩ := next_ok N 8 (by omega) (by omega) hs (by omega)
  rw [e1, bind_some']
  dsimp only
  have hp : ∀ l : List Int, 1 ≤ l.length → l.length ≤ 1000 → ∃ x s', Maker_Pick N s1 l = some (x, s') ∧ Mk (c + 10) s' := fun l a b => by
    obtain ⟨x, s', h, _, m⟩ := pick_ok N l a b m1 (by omega)
    exact ⟨x, s', h, m.le (by omega)⟩
  have key : ∃ w' s', Maker_SpoilWagon_0 N s1 w q = some (s', w') ∧ Mk (c + 10) s' ∧ w'.number.length ≤ 901 ∧ w'.dest.length ≤ 901 := by
    unfold Maker_SpoilWagon_0
    rw [lt_def]
    by_cases a0 : q = 0
    · obtain ⟨l', s', h, m, hl⟩ := spoil_ok N m1 (by omega) (l := w.number) (by omega)
      rw [if_pos (by simp [a0]), h, bind_some']
      exact ⟨_, _, rfl, m.le (by omega), by dsimp only; omega, by dsimp only; omega⟩
    rw [if_neg (by simpa using a0), lt_def]
    by_cases a1 : q = 1
    · obtain ⟨x, s', h, m⟩ := hp [0, 2, 4, 6, 8, (-1)] (by simp) (by simp)
      rw [if_pos (by simp [a1]), h, bind_some']
      exact ⟨_, _, rfl, m, by dsimp only; omega, by dsimp only; omega⟩
    rw [if_neg (by simpa using a1), lt_def]
    by_cases a2 : q = 2
    · obtain ⟨x, s', h, m⟩ := hp [79, 80, 119, 401, 0, (-5)] (by simp) (by simp)
      rw [if_pos (by simp [a2]), h, bind_some']
      exact ⟨_, _, rfl, m, by dsimp only; omega, by dsimp only; omega⟩
    rw [if_neg (by simpa using a2), lt_def]
    by_cases a3 : q = 3
    · obtain ⟨x, s', h, m⟩ := hp [49, 50, 2001, (-1)] (by simp) (by simp)
      rw [if_pos (by simp [a3]), h, bind_some']
      exact ⟨_, _, rfl, m, by dsimp only; omega, by dsimp only; omega⟩
    rw [if_neg (by simpa using a3), lt_def]
    by_cases a4 : q = 4
    · obtain ⟨x, s', h, m⟩ := hp [(-1), w.mass, (IntKind.wrap .i64 (w.mass + 1))] (by simp) (by simp)
      rw [if_pos (by simp [a4]), h, bind_some']
      exact ⟨_, _, rfl, m, by dsimp only; omega, by dsimp only; omega⟩
    rw [if_neg (by simpa using a4), lt_def]
    by_cases a5 : q = 5
    · obtain ⟨x, s', h, m⟩ := hp [(-1), 9, 10] (by simp) (by simp)
      rw [if_pos (by simp [a5]), h, bind_some']
      exact ⟨_, _, rfl, m, by dsimp only; omega, by dsimp only; omega⟩
    rw [if_neg (by simpa using a5), lt_def]
    by_cases a6 : q = 6
    · obtain ⟨r, s2, e2, r0, r1, m2⟩ := next_ok N 5 (by omega) (by omega) m1 (by omega)
      have hg : ∃ d, getI ([[], [65], [97, 32, 98], [97, 98, 99, 100, 101, 102, 103, 104, 105, 106, 107, 108, 109], [45]] : List (List UInt8)) r = some d ∧ d.length ≤ 13 := by
        have : r = 0 ∨ r = 1 ∨ r = 2 ∨ r = 3 ∨ r = 4 := by omega
        rcases this with rfl | rfl | rfl | rfl | rfl <;> exact ⟨_, rfl, by simp⟩
      obtain ⟨d, hd, hl⟩ := hg
      rw [if_pos (by simp [a6]), e2, bind_some']
      dsimp only
      rw [hd, bind_some']
      exact ⟨_, _, rfl, m2.le (by omega), by dsimp only; omega, by dsimp only; omega⟩
    · rw [if_neg (by simpa using a6)]
      exact ⟨_, _, rfl, m1.le (by omega), by omega, by omega⟩
  obtain ⟨w', s', h, m, l1, l2⟩ := key
  rw [h, bind_some']
  exact ⟨w', s', rfl, m, l1, l2⟩

theorem fu_900 {N : Nat} (hN : 1001 ≤ N) {w : Wagon} (h1 : w.number.length ≤ 901) (h2 : w.dest.length ≤ 901) : Fu N w := ⟨⟨by omega, by omega⟩, by omega, by omega⟩

end Go.W
