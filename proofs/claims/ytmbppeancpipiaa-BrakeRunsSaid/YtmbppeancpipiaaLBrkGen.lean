/- Brake laws: what is made, and facts about what is answered. -/
import Derived.Test.YtmbppeancpipiaaLBrk
set_option linter.unusedVariables false
set_option linter.unusedSimpArgs false
set_option maxRecDepth 100000
namespace Go.W
open Go.AM

theorem sane35 (M : Nat) : l35_sane (M + 60) = some true := by rfl
theorem sane35' {N : Nat} (h : 60 ≤ N) : l35_sane N = some true := by
  obtain ⟨M, rfl⟩ : ∃ M, N = M + 60 := ⟨N - 60, by omega⟩
  exact sane35 M

theorem place_ok (N : Nat) (v n : Int) (h1 : 1 ≤ n) (h2 : n ≤ 1000000) : ∃ r, yardgen_Place N v n = some r ∧ 0 ≤ r ∧ r < n := by
  unfold yardgen_Place yardgen_Place_0 modI
  rw [if_neg (dneg (by omega)), if_neg (by omega), bind_some']
  have a := Int.lt_tmod_of_pos v (show 0 < n by omega)
  have b := Int.tmod_lt_of_pos v (show 0 < n by omega)
  by_cases h : Int.tmod v n < 0
  · rw [if_pos (dpos h), lt_def, bind_some', w64 (by omega) (by omega)]
    exact ⟨_, rfl, by omega, by omega⟩
  · rw [if_neg (dneg h), bind_some']
    exact ⟨_, rfl, by omega, by omega⟩
theorem place_zero (N : Nat) (v : Int) : yardgen_Place N v 0 = some 0 := rfl

theorem table_loop (N : Nat) : ∀ (k n : Nat) (s : Maker) (out : List BrakeRow) (c : Int), k < n → Mk c s → c + 3 * k ≤ 900000000 → out.length + k ≤ 4 → out.all rowOk = true →
    ∃ s' out', yardgen_Table_0 N n s out k = some (s', out') ∧ Mk (c + 3 * k) s' ∧ out'.length ≤ 4 ∧ out'.all rowOk = true
  | k, 0, s, out, c, hn, _, _, _, _ => by omega
  | 0, n + 1, s, out, c, hn, hs, _, hl, ho => by
    rw [yardgen_Table_0, if_neg (dneg (by omega))]
    exact ⟨s, out, rfl, by simpa using hs, by omega, ho⟩
  | k + 1, n + 1, s, out, c, hn, hs, hc, hl, ho => by
    obtain ⟨a, s1, h1, ha, m1⟩ := pick_ok N [60, 80, 100, 120, 200] (by simp) (by simp) hs (by omega)
    obtain ⟨b, s2, h2, hb, m2⟩ := pick_ok N [0, 50, 100, 250, 500] (by simp) (by simp) m1 (by omega)
    obtain ⟨d, s3, h3, hd, m3⟩ := pick_ok N [0, 10, 30, 50, 65, 100] (by simp) (by simp) m2 (by omega)
    rw [yardgen_Table_0, if_pos (dpos (by omega)), h1, bind_some', h2, bind_some', h3, bind_some', appI_ok (by simp; omega), bind_some', lt_def, w64p (by omega)]
    have hr : rowOk (BrakeRow.mk a b d) = true := by
      simp only [List.mem_cons, List.not_mem_nil, or_false] at ha hb hd
      simp only [rowOk, Bool.and_eq_true, inB_iff]
      omega
    obtain ⟨s', out', g1, g2, g3, g4⟩ := table_loop N k n s3 (out ++ [BrakeRow.mk a b d]) (c + 1 + 1 + 1) (by omega) m3 (by omega) (by simp; omega) (by rw [List.all_append, ho]; simpa using hr)
    exact ⟨s', out', g1, g2.le (by omega), g3, g4⟩

theorem table_ok (N : Nat) (hN : 100 ≤ N) {c : Int} {s : Maker} (hs : Mk c s) (hc : c ≤ 800000000) :
    ∃ t s', yardgen_Table N s = some (t, s') ∧ Mk (c + 100) s' ∧ t.length ≤ 4 ∧ t.all rowOk = true := by
  unfold yardgen_Table
  obtain ⟨r, s1, h1, r0, r1, m1⟩ := next_ok N 5 (by omega) (by omega) hs (by omega)
  obtain ⟨r, rfl⟩ := Int.eq_ofNat_of_zero_le r0
  obtain ⟨s2, t, h2, m2, hl, ht⟩ := table_loop N r N s1 [] (c + 1) (by omega) m1 (by omega) (by simp; omega) (by simp)
  rw [h1, bind_some']
  simp only []
  rw [h2, bind_some']
  exact ⟨t, s2, rfl, m2.le (by omega), hl, ht⟩

/-- Ascending numbers below 'm'. -/
structure Asc (off : List Int) (m : Nat) : Prop where
  nd : off.Nodup
  rg : ∀ o ∈ off, 0 ≤ o ∧ o ≤ (m : Int) - 1
  ln : off.length ≤ m
theorem Asc.err {off : List Int} {m : Nat} (h : Asc off m) : offErr m off = 0 := by
  unfold offErr
  rw [if_pos (List.all_eq_true.2 fun o ho => inB_iff.2 (h.rg o ho)), if_pos h.nd]

theorem offg_loop (N : Nat) {m : Nat} (hm : m ≤ 1000) : ∀ (k n i : Nat) (s : Maker) (out : List Int) (c : Int), k < n → i + k = m → Mk c s → c + k ≤ 900000000 → Asc out i →
    ∃ s' out', yardgen_Off_0 N m n s out i = some (s', out') ∧ Mk (c + k) s' ∧ Asc out' m
  | k, 0, i, s, out, c, hn, _, _, _, _ => by omega
  | 0, n + 1, i, s, out, c, hn, hi, hs, _, ho => by
    rw [yardgen_Off_0, if_neg (dneg (by omega))]
    obtain rfl : i = m := by omega
    exact ⟨s, out, rfl, by simpa using hs, ho⟩
  | k + 1, n + 1, i, s, out, c, hn, hi, hs, hc, ho => by
    obtain ⟨r, s1, h1, r0, r1, m1⟩ := next_ok N 4 (by omega) (by omega) hs (by omega)
    have h2 : ∃ out1, yardgen_Off_1 N s out i = some (s1, out1) ∧ Asc out1 (i + 1) := by
      unfold yardgen_Off_1
      rw [h1, bind_some']
      by_cases hz : r = 0
      · have hl := ho.ln
        rw [if_pos (by simp [hz]), appI_ok (by simp; omega), bind_some']
        refine ⟨_, rfl, ?_, fun o hx => ?_, by simp; omega⟩
        · rw [List.nodup_append]
          refine ⟨ho.nd, by simp, fun x hx y hy => ?_⟩
          simp at hy
          have := ho.rg x hx
          omega
        · rcases List.mem_append.1 hx with hx | hx
          · have := ho.rg o hx; omega
          · simp at hx; omega
      · rw [if_neg (by simpa using hz)]
        exact ⟨_, rfl, ho.nd, fun o hx => by have := ho.rg o hx; omega, by have := ho.ln; omega⟩
    obtain ⟨out1, h2, a1⟩ := h2
    rw [yardgen_Off_0, if_pos (dpos (by omega)), h2, bind_some', lt_def, w64s (by omega)]
    obtain ⟨s', out', g1, g2, g3⟩ := offg_loop N hm k n (i + 1) s1 out1 (c + 1) (by omega) (by omega) m1 (by omega) a1
    exact ⟨s', out', g1, g2.le (by omega), g3⟩

theorem offg_ok (N : Nat) {m : Nat} (hm : m ≤ 1000) (hN : 1001 ≤ N) {c : Int} {s : Maker} (hs : Mk c s) (hc : c ≤ 800000000) :
    ∃ off s', yardgen_Off N s m = some (off, s') ∧ Mk (c + 1000) s' ∧ Asc off m := by
  unfold yardgen_Off
  obtain ⟨s', off, h1, m1, h2⟩ := offg_loop N hm m N 0 s [] c (by omega) (by omega) hs (by omega) ⟨by simp, by simp, by simp⟩
  simp only [Int.natCast_zero] at h1
  rw [h1, bind_some']
  exact ⟨off, s', rfl, m1.le (by omega), h2⟩

theorem tbl_app {a b : List BrakeRow} (ha : a.all rowOk = true) (hb : b.all rowOk = true) (hl : a.length + b.length ≤ 64) : tblOk (a ++ b) = true := by
  simp only [tblOk, List.all_append, ha, hb, Bool.and_self, Bool.true_and, decide_eq_true_eq, List.length_append]
  exact hl
theorem made_fu {N : Nat} (hN : 20 ≤ N) {l : List Wagon} (h : MadeL l) : l.length ≤ 96 → ∀ w ∈ l, Fu N w := fun _ w hw => wagErr_fu (h.ok w hw) hN

/-- The answer for a valid list and valid cut brakes. -/
def total1 (l : List Wagon) (off : List Int) : Brakes := Brakes.mk (sumL (·.length) l) (sumL (·.axles) l) (sumL (·.mass) l) (brk off 0 l * factor (sumL (·.length) l) / 100)
    (if 0 < sumL (·.mass) l then 100 * (brk off 0 l * factor (sumL (·.length) l) / 100) / sumL (·.mass) l else 0) 0 0
theorem tot_eq {l : List Wagon} {off : List Int} (h1 : listErr l = 0) (h2 : offErr l.length off = 0) : tot l off = (total1 l off, 0) := by
  unfold tot
  rw [if_neg (by simp [h1]), if_neg (by simp [h2])]
  rfl
theorem requ_eq {t : List BrakeRow} {s g : Int} (ht : tblOk t = true) (h1 : 1 ≤ s) (h2 : s ≤ 200) (h3 : 0 ≤ g) (h4 : g ≤ 500) : requ t s g = if (reqF s g t (0, false)).2 = true then ((reqF s g t (0, false)).1, 0) else (0, 15) := by
  unfold requ
  rw [if_pos ht, if_pos (by rw [Bool.and_eq_true, inB_iff, inB_iff]; omega)]
theorem elig_iff {s g : Int} {r : BrakeRow} : elig s g r = true ↔ s ≤ r.speed ∧ g ≤ r.grade := by simp [elig]

theorem requ_mono {t : List BrakeRow} {s g s' g' : Int} (ht : tblOk t = true) (h1 : 1 ≤ s) (h2 : s' ≤ 200) (h3 : 0 ≤ g) (h4 : g' ≤ 500) (h5 : s ≤ s') (h6 : g ≤ g') :
    ((requ t s g).2 = 15 ∧ (requ t s' g').2 = 15) ∨ ((requ t s g).2 = 0 ∧ ((requ t s' g').2 = 15 ∨ ((requ t s' g').2 = 0 ∧ (requ t s g).1 ≤ (requ t s' g').1))) := by
  rw [requ_eq ht h1 (by omega) h3 (by omega), requ_eq ht (by omega) h2 (by omega) h4]
  by_cases a : (reqF s g t (0, false)).2 = true
  · rw [if_pos a]
    refine .inr ⟨rfl, ?_⟩
    by_cases b : (reqF s' g' t (0, false)).2 = true
    · rw [if_pos b]
      refine .inr ⟨rfl, ?_⟩
      obtain ⟨_, r, hr, he, hp⟩ := req_min.2 b
      rw [elig_iff] at he
      have := (req_min.2 a).1 r hr (elig_iff.2 ⟨by omega, by omega⟩)
      simp only []
      omega
    · rw [if_neg b]; exact .inl rfl
  · rw [if_neg a, if_neg ?_]
    · exact .inl ⟨rfl, rfl⟩
    · intro b
      obtain ⟨r, hr, he⟩ := req_min.1.1 b
      rw [elig_iff] at he
      exact a (req_min.1.2 ⟨r, hr, elig_iff.2 ⟨by omega, by omega⟩⟩)

/-! ### The laws -/
theorem grows_ok (x0 : List Int) (x1 x2 x3 : Int) : l35_BrakeGrows 2000 x0 x1 x2 x3 = some true := by
  obtain ⟨t, s1, h1, m1, l1, a1⟩ := table_ok 2000 (by omega) (mk0 x0) (by omega)
  obtain ⟨u, s2, h2, m2, l2, a2⟩ := table_ok 2000 (by omega) m1 (by omega)
  obtain ⟨p, h3, p0, p1⟩ := place_ok 2000 x1 200 (by omega) (by omega)
  obtain ⟨q, h4, q0, q1⟩ := place_ok 2000 x2 501 (by omega) (by omega)
  have hp : IntKind.wrap .i64 (1 + p) = 1 + p := w64 (by omega) (by omega)
  obtain ⟨r, h5, r0, r1⟩ := place_ok 2000 x3 (201 - (1 + p)) (by omega) (by omega)
  obtain ⟨v, h6, v0, v1⟩ := place_ok 2000 x3 (501 - q) (by omega) (by omega)
  have htt := tbl_app a1 a2 (by omega)
  have hl : (t ++ u).length ≤ 1000 := by simp; omega
  unfold l35_BrakeGrows gen_New
  rw [bind_some', h1, bind_some', h2, bind_some', appI_ok (by dsimp only; omega), bind_some', h3, bind_some', h4, bind_some', lt_def, hp,
    (requ_ok 2000 hl (by omega) _ _).1, bind_some', w64 (n := 201 - (1 + p)) (by omega) (by omega), h5, bind_some', w64 (n := 1 + p + r) (by omega) (by omega),
    (requ_ok 2000 hl (by omega) _ _).1, bind_some', w64 (n := 501 - q) (by omega) (by omega), h6, bind_some', w64 (n := q + v) (by omega) (by omega), (requ_ok 2000 hl (by omega) _ _).1, bind_some']
  have k1 := requ_mono (t := t ++ u) (s := 1 + p) (g := q) (s' := 1 + p + r) (g' := q) htt (by omega) (by omega) (by omega) (by omega) (by omega) (by omega)
  have k2 := requ_mono (t := t ++ u) (s := 1 + p) (g := q) (s' := 1 + p) (g' := q + v) htt (by omega) (by omega) (by omega) (by omega) (by omega) (by omega)
  generalize requ (t ++ u) (1 + p) q = A at k1 k2 ⊢
  generalize requ (t ++ u) (1 + p + r) q = B at k1 ⊢
  generalize requ (t ++ u) (1 + p) (q + v) = C at k2 ⊢
  have hs := sane35' (N := 2000) (by omega)
  rcases k1 with ⟨k1, k3⟩ | ⟨k1, k3⟩
  · rcases k2 with ⟨_, k4⟩ | ⟨k2, _⟩
    · simp only [k1, k3, k4]
      rw [if_pos (by decide)]
      unfold l35_BrakeGrows_0
      rw [if_pos (by decide), hs]; rfl
    · omega
  · rcases k2 with ⟨k2, _⟩ | ⟨_, k4⟩
    · omega
    · simp only [k1]
      rw [if_neg (by decide)]
      unfold l35_BrakeGrows_1
      rcases k3 with k3 | ⟨k3, k5⟩
      · rcases k4 with k4 | ⟨k4, k6⟩
        · simp only [k3, k4]; rw [if_pos (by decide), if_pos (by decide), hs]; rfl
        · simp only [k3, k4]; rw [if_pos (by decide), if_neg (by decide), if_pos (by decide), if_pos (lpos k6), hs]; rfl
      · rcases k4 with k4 | ⟨k4, k6⟩
        · simp only [k3, k4]; rw [if_neg (by decide), if_pos (by decide), if_pos (lpos k5), if_pos (by decide), hs]; rfl
        · simp only [k3, k4]; rw [if_neg (by decide), if_pos (by decide), if_pos (lpos k5), if_neg (by decide), if_pos (by decide), if_pos (lpos k6), hs]; rfl

/-- The missing braked mass. -/
theorem miss_law {R M C : Int} (hM : 1 ≤ M) : R ≤ 100 * (C + max 0 ((R * M + 99) / 100 - C)) / M ∧
    (max 0 ((R * M + 99) / 100 - C) ≠ 0 → 100 * (C + max 0 ((R * M + 99) / 100 - C) - 1) / M < R) ∧ (max 0 ((R * M + 99) / 100 - C) = 0 ↔ R ≤ 100 * C / M) := by
  generalize hK : R * M = K
  have e1 : ∀ X : Int, R ≤ X / M ↔ K ≤ X := fun X => by rw [Int.le_ediv_iff_mul_le (by omega), hK]
  have e2 : ∀ X : Int, X / M < R ↔ X < K := fun X => by rw [Int.ediv_lt_iff_lt_mul (by omega), hK]
  rw [e1, e2, e1]
  omega

theorem misses_ok (x0 : List Int) (x1 x2 : Int) : l35_BrakeMisses 2000 x0 x1 x2 = some true := by
  obtain ⟨l, s0, h0, m0, l0, d0⟩ := wagons_ok 2000 (by omega) 30 (by omega) (mk0 x0) (by omega)
  obtain ⟨t, s1, h1, m1, l1, a1⟩ := table_ok 2000 (by omega) m0 (by omega)
  obtain ⟨v, s2, h2, hv, m2⟩ := pick_ok 2000 [0, 40, 90, 250] (by simp) (by simp) m1 (by omega)
  obtain ⟨off, s3, h3, m3, a3⟩ := offg_ok 2000 (m := l.length) (by omega) (by omega) m2 (by omega)
  obtain ⟨p, h4, p0, p1⟩ := place_ok 2000 x1 200 (by omega) (by omega)
  obtain ⟨q, h5, q0, q1⟩ := place_ok 2000 x2 501 (by omega) (by omega)
  have hs := sane35' (N := 2000) (by omega)
  have hr : rowOk (BrakeRow.mk 200 500 v) = true := by
    simp only [List.mem_cons, List.not_mem_nil, or_false] at hv
    simp only [rowOk, Bool.and_eq_true, inB_iff]
    omega
  have htt : tblOk (t ++ [BrakeRow.mk 200 500 v]) = true := tbl_app a1 (by simpa using hr) (by simp; omega)
  have hl : (t ++ [BrakeRow.mk 200 500 v]).length ≤ 1000 := by simp; omega
  have he := d0.err (by omega)
  unfold l35_BrakeMisses gen_New
  rw [bind_some', show (30 : Int) = ((30 : Nat) : Int) from rfl, h0, bind_some', h1, bind_some', h2, bind_some', appI_ok (by simp; omega), bind_some', h3, bind_some', h4, bind_some', h5, bind_some', w64 (n := 1 + p) (by omega) (by omega)]
  dsimp only
  rw [(sheet_ok 2000 (by omega) (made_fu (by omega) d0) (by have := a3.ln; omega) hl _ _).1, bind_some']
  have ht := tot_eq he a3.err
  have hq : (requ (t ++ [BrakeRow.mk 200 500 v]) (1 + p) q).2 = 0 := by
    rw [requ_eq htt (by omega) (by omega) (by omega) (by omega), if_pos (req_min.1.2 ⟨BrakeRow.mk 200 500 v, by simp, elig_iff.2 ⟨by dsimp only; omega, by dsimp only; omega⟩⟩)]
  have rb := requ_bound (t := t ++ [BrakeRow.mk 200 500 v]) (s := 1 + p) (g := q)
  have tb := (tot_bound (l := l) (off := off) (by rw [ht]))
  rw [ht] at tb
  obtain ⟨_, _, n0, n1, b0, b1⟩ := tb
  have hmp := mass_pos he
  have hsh : sheet l off (t ++ [BrakeRow.mk 200 500 v]) (1 + p) q = ({ total1 l off with required := (requ (t ++ [BrakeRow.mk 200 500 v]) (1 + p) q).1, missing := max 0 (((requ (t ++ [BrakeRow.mk 200 500 v]) (1 + p) q).1 * (total1 l off).mass + 99) / 100 - (total1 l off).braked) }, 0) := by
    unfold sheet
    rw [ht, if_neg (by simp), if_neg (by simp [hq])]
  rw [hsh]
  generalize (requ (t ++ [BrakeRow.mk 200 500 v]) (1 + p) q).1 = R at rb ⊢
  unfold total1 at n0 n1 b0 b1 ⊢
  dsimp only at n0 n1 b0 b1 ⊢
  generalize hC : brk off 0 l * factor (sumL (·.length) l) / 100 = C at b0 b1 ⊢
  rw [show l35_BrakeMisses_0 2000 _ 0 = some false from by
    unfold l35_BrakeMisses_0
    rw [if_neg (by decide)]
    dsimp only
    rw [decide_eq_false (by omega)], bind_some', if_neg (by decide)]
  by_cases hl0 : l.length = 0
  · rw [if_pos (by simp [hl0])]
    unfold l35_BrakeMisses_1
    have hl' : l = [] := List.eq_nil_of_length_eq_zero hl0
    subst hl'
    have hC0 : C = 0 := by rw [← hC]; simp [brk]
    subst hC0
    simp only [sumL, List.foldr, List.map, List.sum_nil, Int.mul_zero, Int.zero_add]
    rw [if_pos (by decide), hs]; rfl
  · have hl1 : 1 ≤ (l.length : Int) := by omega
    rw [if_neg (by simp; exact fun e => hl0 (by rw [e]; rfl)), if_neg (dneg (by omega))]
    unfold l35_BrakeMisses_2
    generalize hM : sumL (·.mass) l = M at n0 n1 hmp ⊢
    obtain ⟨g1, g2, g3⟩ := miss_law (R := R) (M := M) (C := C) (by omega)
    have hRM : 0 ≤ R * M ∧ R * M ≤ 250 * 192000 := ⟨Int.mul_nonneg (by omega) (by omega), Int.mul_le_mul (by omega) (by omega) (by omega) (by omega)⟩
    rw [if_pos (show 0 < M by omega)]
    generalize hX : max 0 ((R * M + 99) / 100 - C) = X at g1 g2 g3 ⊢
    have hXb : 0 ≤ X ∧ X ≤ 1000000 := by omega
    have hd : ∀ y : Int, 0 ≤ y → y ≤ 2000000000 → divI y M = some (y / M) := fun y hy _ => by
      unfold divI; rw [if_neg (by omega), Int.tdiv_eq_ediv_of_nonneg hy]
    have hb : ∀ y : Int, 0 ≤ y → y ≤ 2000000000 → IntKind.wrap .i64 (y / M) = y / M := fun y hy h2 => by
      have h1 := Int.ediv_nonneg hy (show 0 ≤ M by omega)
      have h3 := Int.ediv_le_self M hy
      exact w64 (by omega) (by omega)
    rw [w64 (n := C + X) (by omega) (by omega), w64 (n := 100 * (C + X)) (by omega) (by omega), hd _ (by omega) (by omega), bind_some', hb _ (by omega) (by omega), if_pos (lpos g1)]
    by_cases hX0 : X = 0
    · have g4 := g3.1 hX0
      have e1 : (X == 0) = true := by simp [hX0]
      have e2 : ((X == 0) == decide (R ≤ 100 * C / M)) = true := by rw [e1, lpos g4]; rfl
      rw [if_pos e1, if_pos e2, hs]; rfl
    · have g4 : ¬ R ≤ 100 * C / M := fun h => hX0 (g3.2 h)
      have e1 : (X == 0) = false := by simpa using hX0
      have e2 : ((X == 0) == decide (R ≤ 100 * C / M)) = true := by rw [e1, decide_eq_false g4]; rfl
      rw [if_neg (by simp [hX0]), w64 (n := C + X - 1) (by omega) (by omega), w64 (n := 100 * (C + X - 1)) (by omega) (by omega), hd _ (by omega) (by omega), bind_some', hb _ (by omega) (by omega), if_pos (dpos (g2 hX0)), if_pos e2, hs]; rfl
theorem growsT (x0 : List Int) (x1 x2 x3 : Int) : ∃ N, l35_BrakeGrows N x0 x1 x2 x3 = some true := ⟨2000, grows_ok x0 x1 x2 x3⟩
theorem missesT (x0 : List Int) (x1 x2 : Int) : ∃ N, l35_BrakeMisses N x0 x1 x2 = some true := ⟨2000, misses_ok x0 x1 x2⟩
end Go.W
