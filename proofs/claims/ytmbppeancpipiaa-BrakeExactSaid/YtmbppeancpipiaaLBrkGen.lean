/- Brake laws: what is made, and facts about what is answered. -/
import Derived.Test.YtmbppeancpipiaaLBrk
set_option linter.unusedVariables false
set_option linter.unusedSimpArgs false
set_option maxRecDepth 100000
namespace Go.W
open Go.AM

theorem sane35 (M : Nat) : l35_sane (M + 60) = some true := by rfl
theorem sane35' {N : Nat} (h : 60 ≤ N) : l35_sane N = some true := by
  obtain ⟨M, rfl⟩ : ∃ M, N = M + 60 := ⟨N - 60, by omega⟩
  exact sane35 M

theorem place_ok (N : Nat) (v n : Int) (h1 : 1 ≤ n) (h2 : n ≤ 1000000) : ∃ r, yardgen_Place N v n = some r ∧ 0 ≤ r ∧ r < n := by
  unfold yardgen_Place yardgen_Place_0 modI
  rw [if_neg (dneg (by omega)), if_neg (by omega), bind_some']
  have a := Int.lt_tmod_of_pos v (show 0 < n by omega)
  have b := Int.tmod_lt_of_pos v (show 0 < n by omega)
  by_cases h : Int.tmod v n < 0
  · rw [if_pos (dpos h), lt_def, bind_some', w64 (by omega) (by omega)]
    exact ⟨_, rfl, by omega, by omega⟩
  · rw [if_neg (dneg h), bind_some']
    exact ⟨_, rfl, by omega, by omega⟩
theorem place_zero (N : Nat) (v : Int) : yardgen_Place N v 0 = some 0 := rfl

theorem table_loop (N : Nat) : ∀ (k n : Nat) (s : Maker) (out : List BrakeRow) (c : Int), k < n → Mk c s → c + 3 * k ≤ 900000000 → out.length + k ≤ 4 → out.all rowOk = true →
    ∃ s' out', yardgen_Table_0 N n s out k = some (s', out') ∧ Mk (c + 3 * k) s' ∧ out'.length ≤ 4 ∧ out'.all rowOk = true
  | k, 0, s, out, c, hn, _, _, _, _ => by omega
  | 0, n + 1, s, out, c, hn, hs, _, hl, ho => by
    rw [yardgen_Table_0, if_neg (dneg (by omega))]
    exact ⟨s, out, rfl, by simpa using hs, by omega, ho⟩
  | k + 1, n + 1, s, out, c, hn, hs, hc, hl, ho => by
    obtain ⟨a, s1, h1, ha, m1⟩ := pick_ok N [60, 80, 100, 120, 200] (by simp) (by simp) hs (by omega)
    obtain ⟨b, s2, h2, hb, m2⟩ := pick_ok N [0, 50, 100, 250, 500] (by simp) (by simp) m1 (by omega)
    obtain ⟨d, s3, h3, hd, m3⟩ := pick_ok N [0, 10, 30, 50, 65, 100] (by simp) (by simp) m2 (by omega)
    rw [yardgen_Table_0, if_pos (dpos (by omega)), h1, bind_some', h2, bind_some', h3, bind_some', appI_ok (by simp; omega), bind_some', lt_def, w64p (by omega)]
    have hr : rowOk (BrakeRow.mk a b d) = true := by
      simp only [List.mem_cons, List.not_mem_nil, or_false] at ha hb hd
      simp only [rowOk, Bool.and_eq_true, inB_iff]
      omega
    obtain ⟨s', out', g1, g2, g3, g4⟩ := table_loop N k n s3 (out ++ [BrakeRow.mk a b d]) (c + 1 + 1 + 1) (by omega) m3 (by omega) (by simp; omega) (by rw [List.all_append, ho]; simpa using hr)
    exact ⟨s', out', g1, g2.le (by omega), g3, g4⟩

theorem table_ok (N : Nat) (hN : 100 ≤ N) {c : Int} {s : Maker} (hs : Mk c s) (hc : c ≤ 800000000) :
    ∃ t s', yardgen_Table N s = some (t, s') ∧ Mk (c + 100) s' ∧ t.length ≤ 4 ∧ t.all rowOk = true := by
  unfold yardgen_Table
  obtain ⟨r, s1, h1, r0, r1, m1⟩ := next_ok N 5 (by omega) (by omega) hs (by omega)
  obtain ⟨r, rfl⟩ := Int.eq_ofNat_of_zero_le r0
  obtain ⟨s2, t, h2, m2, hl, ht⟩ := table_loop N r N s1 [] (c + 1) (by omega) m1 (by omega) (by simp; omega) (by simp)
  rw [h1, bind_some']
  simp only []
  rw [h2, bind_some']
  exact ⟨t, s2, rfl, m2.le (by omega), hl, ht⟩

/-- Ascending numbers below 'm'. -/
structure Asc (off : List Int) (m : Nat) : Prop where
  nd : off.Nodup
  rg : ∀ o ∈ off, 0 ≤ o ∧ o ≤ (m : Int) - 1
  ln : off.length ≤ m
theorem Asc.err {off : List Int} {m : Nat} (h : Asc off m) : offErr m off = 0 := by
  unfold offErr
  rw [if_pos (List.all_eq_true.2 fun o ho => inB_iff.2 (h.rg o ho)), if_pos h.nd]

theorem offg_loop (N : Nat) {m : Nat} (hm : m ≤ 1000) : ∀ (k n i : Nat) (s : Maker) (out : List Int) (c : Int), k < n → i + k = m → Mk c s → c + k ≤ 900000000 → Asc out i →
    ∃ s' out', yardgen_Off_0 N m n s out i = some (s', out') ∧ Mk (c + k) s' ∧ Asc out' m
  | k, 0, i, s, out, c, hn, _, _, _, _ => by omega
  | 0, n + 1, i, s, out, c, hn, hi, hs, _, ho => by
    rw [yardgen_Off_0, if_neg (dneg (by omega))]
    obtain rfl : i = m := by omega
    exact ⟨s, out, rfl, by simpa using hs, ho⟩
  | k + 1, n + 1, i, s, out, c, hn, hi, hs, hc, ho => by
    obtain ⟨r, s1, h1, r0, r1, m1⟩ := next_ok N 4 (by omega) (by omega) hs (by omega)
    have h2 : ∃ out1, yardgen_Off_1 N s out i = some (s1, out1) ∧ Asc out1 (i + 1) := by
      unfold yardgen_Off_1
      rw [h1, bind_some']
      by_cases hz : r = 0
      · have hl := ho.ln
        rw [if_pos (by simp [hz]), appI_ok (by simp; omega), bind_some']
        refine ⟨_, rfl, ?_, fun o hx => ?_, by simp; omega⟩
        · rw [List.nodup_append]
          refine ⟨ho.nd, by simp, fun x hx y hy => ?_⟩
          simp at hy
          have := ho.rg x hx
          omega
        · rcases List.mem_append.1 hx with hx | hx
          · have := ho.rg o hx; omega
          · simp at hx; omega
      · rw [if_neg (by simpa using hz)]
        exact ⟨_, rfl, ho.nd, fun o hx => by have := ho.rg o hx; omega, by have := ho.ln; omega⟩
    obtain ⟨out1, h2, a1⟩ := h2
    rw [yardgen_Off_0, if_pos (dpos (by omega)), h2, bind_some', lt_def, w64s (by omega)]
    obtain ⟨s', out', g1, g2, g3⟩ := offg_loop N hm k n (i + 1) s1 out1 (c + 1) (by omega) (by omega) m1 (by omega) a1
    exact ⟨s', out', g1, g2.le (by omega), g3⟩

theorem offg_ok (N : Nat) {m : Nat} (hm : m ≤ 1000) (hN : 1001 ≤ N) {c : Int} {s : Maker} (hs : Mk c s) (hc : c ≤ 800000000) :
    ∃ off s', yardgen_Off N s m = some (off, s') ∧ Mk (c + 1000) s' ∧ Asc off m := by
  unfold yardgen_Off
  obtain ⟨s', off, h1, m1, h2⟩ := offg_loop N hm m N 0 s [] c (by omega) (by omega) hs (by omega) ⟨by simp, by simp, by simp⟩
  simp only [Int.natCast_zero] at h1
  rw [h1, bind_some']
  exact ⟨off, s', rfl, m1.le (by omega), h2⟩

theorem tbl_app {a b : List BrakeRow} (ha : a.all rowOk = true) (hb : b.all rowOk = true) (hl : a.length + b.length ≤ 64) : tblOk (a ++ b) = true := by
  simp only [tblOk, List.all_append, ha, hb, Bool.and_self, Bool.true_and, decide_eq_true_eq, List.length_append]
  exact hl
theorem made_fu {N : Nat} (hN : 20 ≤ N) {l : List Wagon} (h : MadeL l) : l.length ≤ 96 → ∀ w ∈ l, Fu N w := fun _ w hw => wagErr_fu (h.ok w hw) hN

/-- The answer for a valid list and valid cut brakes. -/
def total1 (l : List Wagon) (off : List Int) : Brakes := Brakes.mk (sumL (·.length) l) (sumL (·.axles) l) (sumL (·.mass) l) (brk off 0 l * factor (sumL (·.length) l) / 100)
    (if 0 < sumL (·.mass) l then 100 * (brk off 0 l * factor (sumL (·.length) l) / 100) / sumL (·.mass) l else 0) 0 0
theorem tot_eq {l : List Wagon} {off : List Int} (h1 : listErr l = 0) (h2 : offErr l.length off = 0) : tot l off = (total1 l off, 0) := by
  unfold tot
  rw [if_neg (by simp [h1]), if_neg (by simp [h2])]
  rfl
theorem requ_eq {t : List BrakeRow} {s g : Int} (ht : tblOk t = true) (h1 : 1 ≤ s) (h2 : s ≤ 200) (h3 : 0 ≤ g) (h4 : g ≤ 500) : requ t s g = if (reqF s g t (0, false)).2 = true then ((reqF s g t (0, false)).1, 0) else (0, 15) := by
  unfold requ
  rw [if_pos ht, if_pos (by rw [Bool.and_eq_true, inB_iff, inB_iff]; omega)]
theorem elig_iff {s g : Int} {r : BrakeRow} : elig s g r = true ↔ s ≤ r.speed ∧ g ≤ r.grade := by simp [elig]

theorem requ_mono {t : List BrakeRow} {s g s' g' : Int} (ht : tblOk t = true) (h1 : 1 ≤ s) (h2 : s' ≤ 200) (h3 : 0 ≤ g) (h4 : g' ≤ 500) (h5 : s ≤ s') (h6 : g ≤ g') :
    ((requ t s g).2 = 15 ∧ (requ t s' g').2 = 15) ∨ ((requ t s g).2 = 0 ∧ ((requ t s' g').2 = 15 ∨ ((requ t s' g').2 = 0 ∧ (requ t s g).1 ≤ (requ t s' g').1))) := by
  rw [requ_eq ht h1 (by omega) h3 (by omega), requ_eq ht (by omega) h2 (by omega) h4]
  by_cases a : (reqF s g t (0, false)).2 = true
  · rw [if_pos a]
    refine .inr ⟨rfl, ?_⟩
    by_cases b : (reqF s' g' t (0, false)).2 = true
    · rw [if_pos b]
      refine .inr ⟨rfl, ?_⟩
      obtain ⟨_, r, hr, he, hp⟩ := req_min.2 b
      rw [elig_iff] at he
      have := (req_min.2 a).1 r hr (elig_iff.2 ⟨by omega, by omega⟩)
      simp only []
      omega
    · rw [if_neg b]; exact .inl rfl
  · rw [if_neg a, if_neg ?_]
    · exact .inl ⟨rfl, rfl⟩
    · intro b
      obtain ⟨r, hr, he⟩ := req_min.1.1 b
      rw [elig_iff] at he
      exact a (req_min.1.2 ⟨r, hr, elig_iff.2 ⟨by omega, by omega⟩⟩)
end Go.W
