/- Brake laws: the program answers as the reference. -/
import Derived.Test.YtmbppeancpipiaaLBrkGen
import Derived.Test.YtmbppeancpipiaaAmStart
set_option linter.unusedVariables false
set_option linter.unusedSimpArgs false
set_option maxRecDepth 100000
namespace Go.W
open Go.AM

theorem spoil_ok (N : Nat) {c : Int} {s : Maker} (hs : Mk c s) (hc : c ≤ 800000000) {l : List UInt8} (hl : l.length ≤ 1000) :
    ∃ l' s', Maker_Spoil N s l = some (l', s') ∧ Mk (c + 3) s' ∧ l'.length ≤ l.length + 1 := by
  have u8 : ∀ r : Int, 0 ≤ r → r < 256 → ∃ u, toU8 (IntKind.wrap .u8 r) = some u := fun r h0 h1 => by
    rw [w8 h0 (by omega)]; unfold toU8; rw [if_pos (by omega)]; exact ⟨_, rfl⟩
  unfold Maker_Spoil
  by_cases he : l = []
  · obtain ⟨r, s1, h1, r0, r1, m1⟩ := next_ok N 256 (by omega) (by omega) hs (by omega)
    obtain ⟨u, hu⟩ := u8 r r0 r1
    rw [if_pos (by simp [he]), h1, bind_some', hu, bind_some', lt_def]
    exact ⟨_, _, rfl, m1.le (by omega), by simp⟩
  · have hpos : 1 ≤ l.length := by
      cases l with
      | nil => exact absurd rfl he
      | cons a t => simp
    obtain ⟨r, s1, h1, r0, r1, m1⟩ := next_ok N (l.length : Int) (by omega) (by omega) hs (by omega)
    obtain ⟨r, rfl⟩ := Int.eq_ofNat_of_zero_le r0
    obtain ⟨q, s2, h2, q0, q1, m2⟩ := next_ok N 4 (by omega) (by omega) m1 (by omega)
    have c1 : cutI l 0 (r : Int) = some (l.take r) := cutI_take (by omega)
    have c2 : cutI l ((r + 1 : Nat) : Int) (l.length : Int) = some (l.drop (r + 1)) := cutI_drop (by omega)
    have c3 : cutI l (r : Int) (l.length : Int) = some (l.drop r) := cutI_drop (by omega)
    have d1 : (l.take r).length = r := by simp; omega
    have d2 : (l.drop (r + 1)).length = l.length - (r + 1) := by simp
    have d3 : (l.drop r).length = l.length - r := by simp
    obtain ⟨v, s3, h3, v0, v1, m3⟩ := next_ok N 256 (by omega) (by omega) m2 (by omega)
    obtain ⟨w, s4, h4, w0, w1, m4⟩ := next_ok N 10 (by omega) (by omega) m2 (by omega)
    obtain ⟨u, hu⟩ := u8 v v0 v1
    obtain ⟨u', hu', _⟩ := dig_u8 w0 w1
    rw [if_neg (by simpa using he), h1, bind_some', h2, bind_some', lt_def]
    dsimp only
    rw [w64s (by omega)]
    by_cases a : q = 0
    · rw [if_pos (by simp [a]), c1, bind_some', c2, bind_some', appI_ok (by omega), bind_some']
      exact ⟨_, _, rfl, m2.le (by omega), by simp; omega⟩
    rw [if_neg (by simpa using a), lt_def]
    by_cases b : q = 1
    · rw [if_pos (by simp [b]), c1, bind_some', h3, bind_some']
      dsimp only
      rw [hu, bind_some', appI_ok (by simp; omega), bind_some', c3, bind_some', appI_ok (by simp; omega), bind_some']
      exact ⟨_, _, rfl, m3.le (by omega), by simp; omega⟩
    rw [if_neg (by simpa using b), lt_def]
    by_cases d : q = 2
    · rw [if_pos (by simp [d]), c1, bind_some', h4, bind_some']
      dsimp only
      rw [hu', bind_some', appI_ok (by simp; omega), bind_some', c2, bind_some', appI_ok (by simp; omega), bind_some']
      exact ⟨_, _, rfl, m4.le (by omega), by simp; omega⟩
    · rw [if_neg (by simpa using d), c1, bind_some', h3, bind_some']
      dsimp only
      rw [hu, bind_some', appI_ok (by simp; omega), bind_some', c2, bind_some', appI_ok (by simp; omega), bind_some']
      exact ⟨_, _, rfl, m3.le (by omega), by simp; omega⟩

theorem spoilw_ok (N : Nat) {c : Int} {s : Maker} (hs : Mk c s) (hc : c ≤ 700000000) {w : Wagon} (h1 : w.number.length ≤ 900) (h2 : w.dest.length ≤ 900) :
    ∃ w' s', Maker_SpoilWagon N s w = some (w', s') ∧ Mk (c + 10) s' ∧ w'.number.length ≤ 901 ∧ w'.dest.length ≤ 901 := by
  unfold Maker_SpoilWagon
  obtain ⟨q, s1, e1, q0, q1, m1⟩ := next_ok N 8 (by omega) (by omega) hs (by omega)
  rw [e1, bind_some']
  dsimp only
  have hp : ∀ l : List Int, 1 ≤ l.length → l.length ≤ 1000 → ∃ x s', Maker_Pick N s1 l = some (x, s') ∧ Mk (c + 10) s' := fun l a b => by
    obtain ⟨x, s', h, _, m⟩ := pick_ok N l a b m1 (by omega)
    exact ⟨x, s', h, m.le (by omega)⟩
  have key : ∃ w' s', Maker_SpoilWagon_0 N s1 w q = some (s', w') ∧ Mk (c + 10) s' ∧ w'.number.length ≤ 901 ∧ w'.dest.length ≤ 901 := by
    unfold Maker_SpoilWagon_0
    rw [lt_def]
    by_cases a0 : q = 0
    · obtain ⟨l', s', h, m, hl⟩ := spoil_ok N m1 (by omega) (l := w.number) (by omega)
      rw [if_pos (by simp [a0]), h, bind_some']
      exact ⟨_, _, rfl, m.le (by omega), by dsimp only; omega, by dsimp only; omega⟩
    rw [if_neg (by simpa using a0), lt_def]
    by_cases a1 : q = 1
    · obtain ⟨x, s', h, m⟩ := hp [0, 2, 4, 6, 8, (-1)] (by simp) (by simp)
      rw [if_pos (by simp [a1]), h, bind_some']
      exact ⟨_, _, rfl, m, by dsimp only; omega, by dsimp only; omega⟩
    rw [if_neg (by simpa using a1), lt_def]
    by_cases a2 : q = 2
    · obtain ⟨x, s', h, m⟩ := hp [79, 80, 119, 401, 0, (-5)] (by simp) (by simp)
      rw [if_pos (by simp [a2]), h, bind_some']
      exact ⟨_, _, rfl, m, by dsimp only; omega, by dsimp only; omega⟩
    rw [if_neg (by simpa using a2), lt_def]
    by_cases a3 : q = 3
    · obtain ⟨x, s', h, m⟩ := hp [49, 50, 2001, (-1)] (by simp) (by simp)
      rw [if_pos (by simp [a3]), h, bind_some']
      exact ⟨_, _, rfl, m, by dsimp only; omega, by dsimp only; omega⟩
    rw [if_neg (by simpa using a3), lt_def]
    by_cases a4 : q = 4
    · obtain ⟨x, s', h, m⟩ := hp [(-1), w.mass, (IntKind.wrap .i64 (w.mass + 1))] (by simp) (by simp)
      rw [if_pos (by simp [a4]), h, bind_some']
      exact ⟨_, _, rfl, m, by dsimp only; omega, by dsimp only; omega⟩
    rw [if_neg (by simpa using a4), lt_def]
    by_cases a5 : q = 5
    · obtain ⟨x, s', h, m⟩ := hp [(-1), 9, 10] (by simp) (by simp)
      rw [if_pos (by simp [a5]), h, bind_some']
      exact ⟨_, _, rfl, m, by dsimp only; omega, by dsimp only; omega⟩
    rw [if_neg (by simpa using a5), lt_def]
    by_cases a6 : q = 6
    · obtain ⟨r, s2, e2, r0, r1, m2⟩ := next_ok N 5 (by omega) (by omega) m1 (by omega)
      have hg : ∃ d, getI ([[], [65], [97, 32, 98], [97, 98, 99, 100, 101, 102, 103, 104, 105, 106, 107, 108, 109], [45]] : List (List UInt8)) r = some d ∧ d.length ≤ 13 := by
        have : r = 0 ∨ r = 1 ∨ r = 2 ∨ r = 3 ∨ r = 4 := by omega
        rcases this with rfl | rfl | rfl | rfl | rfl <;> exact ⟨_, rfl, by simp⟩
      obtain ⟨d, hd, hl⟩ := hg
      rw [if_pos (by simp [a6]), e2, bind_some']
      dsimp only
      rw [hd, bind_some']
      exact ⟨_, _, rfl, m2.le (by omega), by dsimp only; omega, by dsimp only; omega⟩
    · rw [if_neg (by simpa using a6)]
      exact ⟨_, _, rfl, m1.le (by omega), by omega, by omega⟩
  obtain ⟨w', s', h, m, l1, l2⟩ := key
  rw [h, bind_some']
  exact ⟨w', s', rfl, m, l1, l2⟩

theorem fu_900 {N : Nat} (hN : 1001 ≤ N) {w : Wagon} (h1 : w.number.length ≤ 901) (h2 : w.dest.length ≤ 901) : Fu N w := ⟨⟨by omega, by omega⟩, by omega, by omega⟩

theorem be_loop (N : Nat) (hN : 2000 ≤ N) (a b : Int) : ∀ (k n i : Nat) (s : Maker) (c : Int), k < n → i + k = 4 → Mk c s → c + 40000 * k ≤ 1000000 →
    l35_BrakeExact_0 N a b n s i = some (.inl ())
  | k, 0, i, s, c, hn, _, _, _ => by omega
  | 0, n + 1, i, s, c, hn, hi, _, _ => by rw [l35_BrakeExact_0, if_neg (dneg (by omega))]
  | k + 1, n + 1, i, s, c, hn, hi, hs, hc => by
    obtain ⟨l, s0, h0, m0, l0, d0⟩ := wagons_ok N (by omega) 40 (by omega) hs (by omega)
    obtain ⟨t, s1, h1, m1, l1, a1⟩ := table_ok N (by omega) m0 (by omega)
    obtain ⟨off, s2, h2, m2, a2⟩ := offg_ok N (m := l.length) (by omega) (by omega) m1 (by omega)
    have hln := a2.ln
    have hlen : ∀ w ∈ l, w.number.length ≤ 901 ∧ w.dest.length ≤ 901 := fun w hw => by have := wagErr_len (d0.ok w hw); omega
    have k1 : ∃ c1, l35_BrakeExact_1 N i l = some c1 ∧ (c1 = true → 0 < l.length) := by
      unfold l35_BrakeExact_1
      by_cases e : (i : Int) = 2
      · rw [if_pos (by simp [e])]; exact ⟨_, rfl, fun h => by simpa using h⟩
      · rw [if_neg (by simpa using e)]; exact ⟨_, rfl, fun h => by simp at h⟩
    obtain ⟨c1, k1, hc1⟩ := k1
    have k2 : ∃ s3 l3 off3, l35_BrakeExact_2 N s2 l off c1 = some (s3, l3, off3) ∧ Mk (c + 15000) s3 ∧ off3.length ≤ 100 ∧ ∀ w ∈ l3, w.number.length ≤ 901 ∧ w.dest.length ≤ 901 := by
      unfold l35_BrakeExact_2
      cases c1 with
      | false => rw [if_neg (by decide)]; exact ⟨_, _, _, rfl, m2.le (by omega), by omega, hlen⟩
      | true =>
        have hp := hc1 rfl
        obtain ⟨q, s4, e4, q0, q1, m4⟩ := next_ok N (l.length : Int) (by omega) (by omega) m2 (by omega)
        obtain ⟨q, rfl⟩ := Int.eq_ofNat_of_zero_le q0
        have hq : q < l.length := by omega
        have hw := hlen _ (List.getElem_mem hq)
        have hw' := wagErr_len (d0.ok _ (List.getElem_mem hq))
        obtain ⟨w', s5, e5, m5, b1, b2⟩ := spoilw_ok N m4 (by omega) (w := l[q]) (by omega) (by omega)
        rw [if_pos rfl, e4, bind_some', getI_nat (at_lt hq), bind_some']
        dsimp only
        rw [e5, bind_some', bind_some', lt_def]
        dsimp only
        obtain ⟨p, s6, e6, _, m6⟩ := pick_ok N [(-1), 0, ((l.set q w').length : Int)] (by simp) (by simp) m5 (by omega)
        rw [Int.toNat_natCast, e6, bind_some', appI_ok (by simp; omega), bind_some']
        refine ⟨_, _, _, rfl, m6.le (by omega), by simp; omega, fun w hw2 => ?_⟩
        rcases List.mem_or_eq_of_mem_set hw2 with hw2 | rfl
        · exact hlen w hw2
        · exact ⟨b1, b2⟩
    obtain ⟨s3, l3, off3, k2, m3, o3, hl3⟩ := k2
    have k3 : ∃ s4 t4, l35_BrakeExact_3 N s3 t ((i : Int) == 3) = some (s4, t4) ∧ Mk (c + 16000) s4 ∧ t4.length ≤ 100 := by
      unfold l35_BrakeExact_3
      by_cases e : ((i : Int) == 3) = true
      · obtain ⟨x, s5, e5, _, m5⟩ := pick_ok N [0, 1, 200, 201] (by simp) (by simp) m3 (by omega)
        obtain ⟨y, s6, e6, _, m6⟩ := pick_ok N [(-1), 0, 500, 501] (by simp) (by simp) m5 (by omega)
        obtain ⟨z, s7, e7, _, m7⟩ := pick_ok N [(-1), 0, 250, 251] (by simp) (by simp) m6 (by omega)
        rw [if_pos e, e5, bind_some', e6, bind_some', e7, bind_some', appI_ok (by simp; omega), bind_some']
        exact ⟨_, _, rfl, m7.le (by omega), by simp; omega⟩
      · rw [if_neg e]
        exact ⟨_, _, rfl, m3.le (by omega), by omega⟩
    obtain ⟨s4, t4, k3, m4, ht4⟩ := k3
    have k4 : ∃ s5, l35_BrakeExact_4 N a b s4 l3 t4 off3 = some (s5, false) ∧ Mk (c + 17000) s5 := by
      unfold l35_BrakeExact_4
      obtain ⟨x, s5, e5, _, m5⟩ := pick_ok N [1, 60, 80, 81, 200, 0, 201] (by simp) (by simp) m4 (by omega)
      obtain ⟨y, s6, e6, _, m6⟩ := pick_ok N [0, 50, 51, 500, (-1), 501] (by simp) (by simp) m5 (by omega)
      have hF : l3.length ≤ 96 → ∀ w ∈ l3, Fu N w := fun _ w hw => fu_900 (by omega) (hl3 w hw).1 (hl3 w hw).2
      rw [e5, bind_some', e6, bind_some', exact_ok N (by omega) hF (by omega) (by omega), bind_some', if_neg (by decide), exact_ok N (by omega) hF (by omega) (by omega), bind_some']
      exact ⟨_, rfl, m6.le (by omega)⟩
    obtain ⟨s5, k4, m5⟩ := k4
    rw [l35_BrakeExact_0, if_pos (dpos (by omega)), show (40 : Int) = ((40 : Nat) : Int) from rfl, h0, bind_some', h1, bind_some', h2, bind_some', k1, bind_some', k2, bind_some', k3, bind_some']
    dsimp only
    rw [k4, bind_some', if_neg (by simp), lt_def, w64s (by omega)]
    exact be_loop N hN a b k n (i + 1) s5 (c + 17000) (by omega) (by omega) m5 (by omega)

theorem bf_ok (N : Nat) (a : Int) : l35_BrakeExact_5 (N + 2000) a (N + 2000) (-2) = some (.inl ()) := by
  obtain ⟨p, hp, _, _⟩ := place_ok (N + 2000) a 40000 (by omega) (by omega)
  have h6 : ∀ x : Int, l35_BrakeExact_6 (N + 2000) x p = some false := fun x => by
    unfold l35_BrakeExact_6
    rw [(factor_ok _ _).1, (factor_ok _ _).2, bind_some', bind_some', if_neg (by simp), (factor_ok _ _).1, (factor_ok _ _).2, bind_some', bind_some']
    simp
  have step : ∀ (n : Nat) (x : Int), x < 3 → -2 ≤ x → l35_BrakeExact_5 (N + 2000) a (n + 1) x = l35_BrakeExact_5 (N + 2000) a n (x + 1) := fun n x h h' => by
    rw [l35_BrakeExact_5, if_pos (dpos h), hp, bind_some', h6, bind_some', if_neg (by decide), lt_def, w64 (by omega) (by omega)]
  rw [show l35_BrakeExact_5 (N + 2000) a (N + 2000) (-2) = l35_BrakeExact_5 (N + 2000) a (N + 1994 + 1 + 1 + 1 + 1 + 1 + 1) (-2) from rfl, step _ _ (by omega) (by omega), step _ _ (by omega) (by omega), step _ _ (by omega) (by omega), step _ _ (by omega) (by omega), step _ _ (by omega) (by omega), l35_BrakeExact_5, if_neg (by decide)]

theorem bexact_ok (N : Nat) (hN : 2000 ≤ N) (x0 : List Int) (l : List Wagon) (off : List Int) (t : List BrakeRow) (a b : Int) (hF : l.length ≤ 96 → ∀ w ∈ l, Fu N w) : l35_BrakeExact N x0 l off t a b = some true := by
  obtain ⟨M, rfl⟩ : ∃ M, N = M + 2000 := ⟨N - 2000, by omega⟩
  have h0 := be_loop (M + 2000) hN a b 4 (M + 2000) 0 (Maker.mk x0 0) 0 (by omega) (by omega) (mk0 x0) (by omega)
  simp only [Int.natCast_zero] at h0
  have hs := sane35' (N := M + 2000) (by omega)
  unfold l35_BrakeExact gen_New
  rw [bind_some', h0, bind_some']
  dsimp only
  rw [bf_ok, bind_some']
  dsimp only
  by_cases h1 : l.length ≤ 120 ∧ off.length ≤ 120 ∧ t.length ≤ 100
  · rw [show l35_BrakeExact_7 (M + 2000) l off t = some false from by
      unfold l35_BrakeExact_7
      rw [if_neg (dneg (by omega)), if_neg (dneg (by omega)), decide_eq_false (by omega)], bind_some', if_neg (by decide)]
    unfold l35_BrakeExact_8
    rw [exact_ok (M + 2000) (by omega) hF (by omega) (by omega), bind_some', if_pos rfl, hs]; rfl
  · rw [show l35_BrakeExact_7 (M + 2000) l off t = some true from by
      unfold l35_BrakeExact_7
      by_cases a1 : (120 : Int) < l.length
      · rw [if_pos (dpos a1)]
      · rw [if_neg (dneg a1)]
        by_cases a2 : (120 : Int) < off.length
        · rw [if_pos (dpos a2)]
        · rw [if_neg (dneg a2), decide_eq_true (by omega)], bind_some', if_pos rfl, hs]; rfl
theorem bexactT (x0 : List Int) (w0 : gSl (gInt .i64) x0) (l : List Wagon) (hl : gSl (fun x : Wagon => gStr x.number ∧ gInt .i64 x.length ∧ gInt .i64 x.axles ∧ gInt .i64 x.mass ∧ gInt .i64 x.brake ∧ gInt .i64 x.goods ∧ gAny x.gentle ∧ gStr x.dest) l)
    (off : List Int) (w2 : gSl (gInt .i64) off) (t : List BrakeRow) (w3 : gSl (fun x : BrakeRow => gInt .i64 x.speed ∧ gInt .i64 x.grade ∧ gInt .i64 x.percent) t) (a : Int) (wa : gInt .i64 a) (b : Int) (wb : gInt .i64 b) : ∃ N, l35_BrakeExact N x0 l off t a b = some true := by
  refine ⟨maxLen + 2000, bexact_ok _ (by omega) x0 l off t a b fun _ w hw => ?_⟩
  obtain ⟨h1, _, _, _, _, _, _, h2⟩ := hl.2 w hw
  have h3 : maxLen ≤ 9223372036854775807 := by decide
  simp only [gStr] at h1 h2
  exact ⟨⟨by omega, by omega⟩, by omega, by omega⟩
end Go.W
