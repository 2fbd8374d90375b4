/- Wheel: no division of a short train is cheaper: the law's own search finds what the table has. -/
import Derived.Test.YthlaohffhjlkbaaWPath
import Derived.Test.YthlaohffhjlkbaaWSane
set_option linter.unusedVariables false
set_option linter.unusedSimpArgs false
namespace Go.W
open Go.AM

section
variable {d : List Int} {p : List (List Int)} {tol : Int}

theorem dpos' {a b : Int} (h : a < b) : decide (a < b) = true := decide_eq_true h
theorem dneg' {a b : Int} (h : ¬ a < b) : ¬ decide (a < b) = true := by simpa using h

theorem cf_loop (N : Nat) {rc : List Int → List (List Int) → Int → Int → Option Int} (F : Fine d p) {q : List Int} (hq : q.length ≤ 5 ∧ ∀ x ∈ q, InR x) {at_ : Nat} (ha : at_ + q.length ≤ d.length) : ∀ (k n i : Nat) (c : Int), k + 1 < n → i + k = q.length → 0 ≤ c → c ≤ 10000 * i →
    l07_cheapest_2 N rc d tol at_ q n c i = some (match fit tol (q.drop i) (d.drop (at_ + i)) with | some f => c + f | none => -1)
  | k, 0, i, c, hn, _, _, _ => by omega
  | 0, n + 1, i, c, hn, hi, _, _ => by
    have h3 : l07_cheapest_3 N rc q c i = some false := by
      unfold l07_cheapest_3
      rw [if_neg (dneg' (by omega))]
    rw [l07_cheapest_2, h3, bind_some', if_neg (by decide), List.drop_eq_nil_of_le (by omega)]
    simp [fit]
  | k + 1, n + 1, i, c, hn, hi, h0, h1 => by
    have hdl := F.dl
    have hlt : i < q.length := by omega
    have hlt2 : at_ + i < d.length := by omega
    have r1 := hq.2 _ (List.getElem_mem hlt)
    have r2 := F.d _ (List.getElem_mem hlt2)
    unfold InR at r1 r2
    have h3 : l07_cheapest_3 N rc q c i = some true := by
      unfold l07_cheapest_3
      rw [if_pos (dpos' (by omega)), decide_eq_true h0]
    have h4 : l07_cheapest_4 N rc d tol at_ q c i = some (if tol < max (d[at_ + i] - q[i]) (q[i] - d[at_ + i]) then -1 else c + max (d[at_ + i] - q[i]) (q[i] - d[at_ + i])) := by
      unfold l07_cheapest_4
      rw [w64 (n := (at_ : Int) + i) (by omega) (by omega), show (at_ : Int) + i = ((at_ + i : Nat) : Int) by omega, getI_nat (at_lt hlt2), bind_some', getI_nat (at_lt hlt), bind_some', bind_some', bind_some', lt_def, lt_def, w64 (n := d[at_ + i] - q[i]) (by omega) (by omega), w64 (n := q[i] - d[at_ + i]) (by omega) (by omega), w64 (n := c + max (d[at_ + i] - q[i]) (q[i] - d[at_ + i])) (by omega) (by omega)]
      by_cases h : tol < max (d[at_ + i] - q[i]) (q[i] - d[at_ + i])
      · rw [if_pos (dpos' h), if_pos h]
      · rw [if_neg (dneg' h), if_neg h]
    rw [l07_cheapest_2, h3, bind_some', if_pos rfl, h4, bind_some', lt_def, w64s (by omega), drop_at (at_lt hlt), drop_at (at_lt hlt2)]
    simp only [fit]
    by_cases h : tol < max (d[at_ + i] - q[i]) (q[i] - d[at_ + i])
    · rw [if_pos h, if_pos h]
      obtain ⟨n, rfl⟩ : ∃ m, n = m + 1 := ⟨n - 1, by omega⟩
      have h3 : l07_cheapest_3 N rc q (-1) ((i + 1 : Nat) : Int) = some false := by
        unfold l07_cheapest_3
        split <;> rfl
      rw [l07_cheapest_2, h3, bind_some', if_neg (by decide)]
    · rw [if_neg h, if_neg h, cf_loop N F hq ha k n (i + 1) _ (by omega) (by omega) (by omega) (by omega), show at_ + (i + 1) = at_ + i + 1 by omega]
      cases fit tol (q.drop (i + 1)) (d.drop (at_ + i + 1)) with
      | none => rfl
      | some f => simp only [Option.map_some, Int.add_assoc, Int.add_comm f]

theorem better_1 {tl : List (Int × Int)} {ds q : List Int} {j : Nat} {b : Int × Int} : better tol tl ds q j b = match fit tol q ds, tl[q.length]? with
    | some f, some c => if c.1 < 0 then b else if b.2 < 0 ∨ f + c.1 < b.1 then (f + c.1, (j : Int)) else b
    | _, _ => b := rfl

theorem ch_loop (N : Nat) (hN : 50 ≤ N) {rc : List Int → List (List Int) → Int → Int → Option Int} (F : Fine d p) {k : Nat} (hk : k ≤ d.length)
    (hrc : ∀ (m : Nat) (c : Int × Int), m ≤ k → (tabN tol p d m).head? = some c → rc d p tol ((d.length + 1 - m : Nat) : Int) = some c.1) : ∀ (r n j : Nat) (b : Int × Int), r < n → j + r = p.length → RowOk tol (tabN tol p d k) (d.drop (d.length - k)) p b →
    l07_cheapest_0 N rc d p tol ((d.length - k : Nat) : Int) p p.length n b.1 j = some (rowF tol (tabN tol p d k) (d.drop (d.length - k)) (p.drop j) j b).1
  | r, 0, j, b, hn, _, _ => by omega
  | 0, n + 1, j, b, hn, hj, hb => by
    rw [l07_cheapest_0, if_neg (dneg' (by omega)), show p.drop j = [] from List.drop_eq_nil_of_le (by omega)]; rfl
  | r + 1, n + 1, j, b, hn, hj, hb => by
    have hdl := F.dl
    have hpl := F.pl
    have hlt : j < p.length := by omega
    have hq := F.p _ (List.getElem_mem hlt)
    generalize hqe : p[j] = q at hq
    have hat : p[j]? = some q := by rw [← hqe]; exact at_lt hlt
    have hb2 := better_row (j := j) F.p (fun x hx => F.d x (List.mem_of_mem_drop hx)) hat hb
    have key : l07_cheapest_1 N rc d p tol ((d.length - k : Nat) : Int) b.1 p j = some (better tol (tabN tol p d k) (d.drop (d.length - k)) q j b).1 := by
      unfold l07_cheapest_1
      rw [getI_nat hat, bind_some', w64 (n := ((d.length - k : Nat) : Int) + q.length) (by omega) (by omega)]
      by_cases hl : d.length < d.length - k + q.length
      · have hf : fit tol q (d.drop (d.length - k)) = none := fit_short (by rw [List.length_drop]; omega)
        rw [if_pos (dpos' (by omega)), better_1, hf]
      · have e2 := cf_loop N (rc := rc) (tol := tol) F hq (at_ := d.length - k) (by omega) q.length N 0 0 (by omega) (by omega) (by omega) (by omega)
        simp only [Int.natCast_zero, List.drop_zero, Nat.add_zero, Int.zero_add] at e2
        rw [if_neg (dneg' (by omega)), e2, bind_some', better_1]
        cases hf : fit tol q (d.drop (d.length - k)) with
        | none => rw [if_pos (by decide)]
        | some f =>
          have hfb := fit_bound hq.2 (fun x hx => F.d x (List.mem_of_mem_drop hx)) hf
          obtain ⟨c, hc⟩ := head_some (tol := tol) (p := p) (d := d) (k - q.length)
          have hcb := tab_bound (tol := tol) F (k - q.length) (by omega) c (by
            cases ht : tabN tol p d (k - q.length) with
            | nil => rw [ht] at hc; cases hc
            | cons a t => rw [ht] at hc; injection hc with hc; subst hc; simp)
          have hr := hrc (k - q.length) c (by omega) hc
          have ht : (tabN tol p d k)[q.length]? = some c := by rw [tab_get k q.length (by omega)]; exact hc
          rw [ht]
          dsimp only
          rw [if_neg (dneg' (by omega)), w64 (n := ((d.length - k : Nat) : Int) + q.length + 1) (by omega) (by omega), show ((d.length - k : Nat) : Int) + q.length + 1 = ((d.length + 1 - (k - q.length) : Nat) : Int) by omega, hr, bind_some']
          have h5 : l07_cheapest_5 N rc b.1 f c.1 = some (decide (0 ≤ c.1) && (decide (b.1 < 0) || decide (f + c.1 < b.1))) := by
            unfold l07_cheapest_5
            by_cases g1 : 0 ≤ c.1
            · rw [if_pos (decide_eq_true g1), decide_eq_true g1]
              by_cases g2 : b.1 < 0
              · rw [if_pos (dpos' g2), decide_eq_true g2]; rfl
              · rw [if_neg (dneg' g2), decide_eq_false g2, w64 (by omega) (by omega)]; rfl
            · rw [if_neg (by simpa using g1), decide_eq_false g1]; rfl
          rw [h5, bind_some', lt_def]
          have hs := hb.sign.1
          by_cases g1 : c.1 < 0
          · rw [if_pos g1, decide_eq_false (show ¬ 0 ≤ c.1 by omega)]; rfl
          · rw [if_neg g1, decide_eq_true (show 0 ≤ c.1 by omega), Bool.true_and]
            by_cases g2 : b.2 < 0 ∨ f + c.1 < b.1
            · rw [if_pos g2, if_pos (by rw [Bool.or_eq_true, decide_eq_true_eq, decide_eq_true_eq]; omega), w64 (n := f + c.1) (by omega) (by omega)]
            · rw [if_neg g2, if_neg (by rw [Bool.or_eq_true, decide_eq_true_eq, decide_eq_true_eq]; omega)]
    rw [l07_cheapest_0, if_pos (dpos' (by omega)), key, bind_some', w64s (by omega), ch_loop N hN F hk hrc r n (j + 1) _ (by omega) (by omega) hb2, drop_at hat]
    rfl

theorem cheap_ok (F : Fine d p) : ∀ (K N k : Nat) (c : Int × Int), k ≤ K → k ≤ d.length + 1 → K + 100 ≤ N → (tabN tol p d k).head? = some c → l07_cheapest N d p tol ((d.length + 1 - k : Nat) : Int) = some c.1
  | K, 0, k, c, _, _, hN, _ => by omega
  | K, N + 1, 0, c, _, _, hN, hc => by
    have hdl := F.dl
    simp only [tabN, List.head?_cons, Option.some.injEq] at hc
    subst hc
    rw [l07_cheapest, l07_cheapestb, w64s (by omega), if_pos (by simp)]
  | 0, N + 1, k + 1, c, hk, _, _, _ => by omega
  | K + 1, N + 1, k + 1, c, hk, hkd, hN, hc => by
    have hdl := F.dl
    have hpl := F.pl
    have e := ch_loop N (by omega) (tol := tol) (rc := l07_cheapest N) F (k := k) (by omega) (fun m c' hm hc' => cheap_ok F K N m c' (by omega) (by omega) (by omega) hc') p.length N 0 (-1, -1) (by omega) (by omega) (.inl rfl)
    simp only [Int.natCast_zero, List.drop_zero] at e
    simp only [tabN, List.head?_cons, Option.some.injEq] at hc
    rw [l07_cheapest, l07_cheapestb, w64s (by omega), if_neg (by simp only [beq_iff_eq]; omega), show d.length + 1 - (k + 1) = d.length - k by omega, e, bind_some', hc]
end

theorem from16 (N : Nat) {c : Int} {s : Maker} (hs : Mk c s) (hc : c ≤ 1000000) : ∃ x s', Maker_From N s 1 6 = some (x, s') ∧ 1 ≤ x ∧ x ≤ 6 ∧ Mk (c + 1) s' := by
  obtain ⟨r, s', h, r0, r1, m⟩ := next_ok N 6 (by omega) (by omega) hs (by omega)
  unfold Maker_From
  rw [show IntKind.wrap .i64 (IntKind.wrap .i64 (6 - 1) + 1) = 6 from by decide, h, bind_some']
  dsimp only
  rw [w64 (by omega) (by omega), lt_def]
  exact ⟨_, _, rfl, by omega, by omega, m⟩

theorem dist_loop (N : Nat) : ∀ (k n : Nat) (s : Maker) (out : List Int) (c : Int), k < n → Mk c s → c + k ≤ 100000 → out.length + k ≤ 10 → (∀ x ∈ out, 1 ≤ x ∧ x ≤ 6) →
    ∃ s' out', l07_WheelLeast_0 N n s out k = some (s', out') ∧ Mk (c + k) s' ∧ out'.length ≤ 10 ∧ ∀ x ∈ out', 1 ≤ x ∧ x ≤ 6
  | k, 0, s, out, c, hn, _, _, _, _ => by omega
  | 0, n + 1, s, out, c, hn, hs, _, hl, ho => by
    rw [l07_WheelLeast_0, if_neg (by decide)]
    exact ⟨s, out, rfl, by simpa using hs, by omega, ho⟩
  | k + 1, n + 1, s, out, c, hn, hs, hc, hl, ho => by
    obtain ⟨x, s1, h1, x0, x1, m1⟩ := from16 N hs (by omega)
    have e : IntKind.wrap .i64 (((k + 1 : Nat) : Int) - 1) = (k : Int) := by rw [w64 (by omega) (by omega)]; omega
    have ha : appI out [x] = some (out ++ [x]) := if_pos (by simp [LIM]; omega)
    rw [l07_WheelLeast_0, if_pos (dpos' (by omega)), h1, bind_some']
    dsimp only
    rw [ha, bind_some', lt_def, e]
    obtain ⟨s', out', g1, g2, g3, g4⟩ := dist_loop N k n s1 (out ++ [x]) (c + 1) (by omega) m1 (by omega) (by simp; omega) (fun y hy => by
      rcases List.mem_append.1 hy with hy | hy
      · exact ho y hy
      · simp at hy; omega)
    exact ⟨s', out', g1, ⟨g2.1, by have := g2.2; omega⟩, g3, g4⟩

theorem chk_fine {d : List Int} {p : List (List Int)} {tol : Int} (F : Fine d p) (h0 : 0 ≤ tol) (h1 : tol ≤ 10000) : chk d p tol = 0 := by
  have hdl := F.dl
  have hpl := F.pl
  unfold chk
  rw [if_neg (by omega), if_neg, if_pos]
  · simp only [Bool.and_eq_true, decide_eq_true_eq, List.all_eq_true, inR_iff]
    exact ⟨⟨⟨h0, h1⟩, F.d⟩, fun q hq => (F.p q hq).2⟩
  · intro h
    obtain ⟨q, hq, h⟩ := List.any_eq_true.1 h
    have := (F.p q hq).1
    simp at h; omega

theorem least_law (x0 : List Int) : l07_WheelLeast 2000 x0 = some true := by
  have hs : l07_sane 2000 = some true := sane 1940
  have mk0 : Mk 0 (Maker.mk x0 0) := ⟨by simp, by simp⟩
  obtain ⟨r, s1, h1, r0, r1, m1⟩ := next_ok 2000 7 (by omega) (by omega) mk0 (by omega)
  obtain ⟨r, rfl⟩ := Int.eq_ofNat_of_zero_le r0
  obtain ⟨s2, d, h2, m2, dl, dr⟩ := dist_loop 2000 r 2000 s1 [] (0 + 1) (by omega) m1 (by omega) (by simp; omega) (by simp)
  obtain ⟨a, s3, h3, a0, a1, m3⟩ := from16 2000 m2 (by omega)
  obtain ⟨b, s4, h4, b0, b1, m4⟩ := from16 2000 m3 (by omega)
  obtain ⟨c, s5, h5, c0, c1, m5⟩ := from16 2000 m4 (by omega)
  obtain ⟨t, s6, h6, t0, t1, m6⟩ := next_ok 2000 2 (by omega) (by omega) m5 (by omega)
  have hp : ∃ p, l07_WheelLeast_1 2000 [[a], [b, c], []] (t == 0) = some p ∧ p.length ≤ 3 ∧ ∀ q ∈ p, q.length ≤ 5 ∧ ∀ x ∈ q, InR x := by
    unfold l07_WheelLeast_1
    have hall : ∀ q ∈ ([[a], [b, c], []] : List (List Int)), q.length ≤ 5 ∧ ∀ x ∈ q, InR x := by
      intro q hq
      simp only [List.mem_cons, List.not_mem_nil, or_false] at hq
      rcases hq with rfl | rfl | rfl
      · refine ⟨by simp, fun x hx => ?_⟩; simp at hx; unfold InR; omega
      · refine ⟨by simp, fun x hx => ?_⟩; simp at hx; unfold InR; omega
      · exact ⟨by simp, by simp⟩
    cases (t == 0) with
    | true =>
      rw [if_pos rfl, show cutI ([[a], [b, c], []] : List (List Int)) 0 2 = some [[a], [b, c]] from rfl, bind_some']
      exact ⟨_, rfl, by simp, fun q hq => hall q (by simp at hq ⊢; rcases hq with h | h <;> simp [h])⟩
    | false => rw [if_neg (by decide)]; exact ⟨_, rfl, by simp, hall⟩
  obtain ⟨p, h7, pl, pr⟩ := hp
  have F : Fine d p := ⟨by omega, by omega, fun x hx => by have := dr x hx; unfold InR; omega, pr⟩
  obtain ⟨k, hk⟩ := head_some (tol := 3) (p := p) (d := d) (d.length + 1)
  have hch := cheap_ok (tol := 3) F (d.length + 1) 2000 (d.length + 1) k (by omega) (by omega) (by omega) hk
  rw [Nat.sub_self, Int.natCast_zero] at hch
  unfold l07_WheelLeast gen_New
  rw [bind_some', h1, bind_some']
  dsimp only
  rw [h2, bind_some']
  dsimp only
  rw [h3, bind_some']
  dsimp only
  rw [h4, bind_some']
  dsimp only
  rw [h5, bind_some']
  dsimp only
  rw [h6, bind_some']
  dsimp only
  rw [h7, bind_some', recognize_ok 2000 (by omega), bind_some', hch, bind_some']
  unfold recog
  rw [if_pos (chk_fine F (by omega) (by omega)), hk]
  dsimp only
  by_cases hz : k.1 < 0
  · rw [if_pos (dpos' hz), if_pos hz]
    unfold l07_WheelLeast_2
    dsimp only
    rw [if_pos (by decide), hs]; rfl
  · rw [if_neg (dneg' hz), if_neg hz]
    have hpk : 0 < (picks 3 p d (d.length + 1) (d.length + 1)).length := by
      simp only [picks, hk, List.length_cons]; omega
    unfold l07_WheelLeast_3
    dsimp only
    rw [if_pos (by decide), if_pos (by simp), if_pos (dpos' (by omega)), hs]; rfl
theorem leastT (x0 : List Int) : ∃ N, l07_WheelLeast N x0 = some true := ⟨2000, least_law x0⟩
end Go.W
