/- Consist: the sums of a train are those of two parts. -/
import Derived.Test.YtpfkolbgdmmakaaLGen
set_option linter.unusedVariables false
set_option linter.unusedSimpArgs false
set_option maxRecDepth 100000
namespace Go.W
open Go.AM

theorem sane06 (M : Nat) : l06_sane (M + 60) = some true := by rfl
theorem sane06' {N : Nat} (h : 60 ≤ N) : l06_sane N = some true := by
  obtain ⟨M, rfl⟩ : ∃ M, N = M + 60 := ⟨N - 60, by omega⟩
  exact sane06 M

theorem mod_in (v n : Int) (h1 : 1 ≤ n) (h2 : n ≤ 1000000) : modI v n = some (Int.tmod v n) ∧ IntKind.wrap .i64 (Int.tmod v n + n) = Int.tmod v n + n ∧ modI (Int.tmod v n + n) n = some ((Int.tmod v n + n) % n) ∧ 0 ≤ (Int.tmod v n + n) % n ∧ (Int.tmod v n + n) % n < n := by
  have a := Int.lt_tmod_of_pos v (show 0 < n by omega)
  have b := Int.tmod_lt_of_pos v (show 0 < n by omega)
  refine ⟨?_, w64 (by omega) (by omega), ?_, Int.emod_nonneg _ (by omega), Int.emod_lt_of_pos _ (by omega)⟩
  · unfold modI; rw [if_neg (by omega)]
  · unfold modI; rw [if_neg (by omega), Int.tmod_eq_emod_of_nonneg (by omega)]

theorem totals_ok {l : List Wagon} (h : listErr l = 0) : totals l = (sumL (·.length) l, sumL (·.mass) l, sumL (·.axles) l, 0) := by
  unfold totals
  rw [if_pos h]

theorem totals_law (x0 : List Int) (x1 : Int) : l06_ConsistTotals 2000 x0 x1 = some true := by
  obtain ⟨l, s0, h0, m0, l0, d0⟩ := wagons_ok 2000 (by omega) 12 (by omega) (mk0 x0) (by omega)
  have hs := sane06' (N := 2000) (by omega)
  have he := d0.err (by omega)
  obtain ⟨e1, e2, e3, p0, p1⟩ := mod_in x1 ((l.length : Int) + 1) (by omega) (by omega)
  obtain ⟨p, hp⟩ := Int.eq_ofNat_of_zero_le p0
  have hpl : p ≤ l.length := by omega
  have hz := (listErr_zero.1 he).2.1
  have hnd := (listErr_zero.1 he).2.2
  have hsub : ∀ {a : List Wagon}, List.Sublist a l → listErr a = 0 := fun {a} h => listErr_zero.2 ⟨by have := h.length_le; omega, fun w hw => hz w (h.subset hw), List.Nodup.sublist (h.map _) hnd⟩
  have et := hsub (List.take_sublist p l)
  have ed := hsub (List.drop_sublist p l)
  have hperm : (l.drop p ++ l.take p).Perm l := (List.perm_append_comm).trans (by rw [List.take_append_drop])
  have en : listErr (l.drop p ++ l.take p) = 0 := listErr_zero.2 ⟨by rw [hperm.length_eq]; omega, fun w hw => hz w (hperm.mem_iff.1 hw), ((hperm.map _).nodup_iff).2 hnd⟩
  have ht : ∀ {a : List Wagon}, listErr a = 0 → consist_Total 2000 a = some (sumL (·.length) a, sumL (·.mass) a, sumL (·.axles) a, 0) := fun {a} h => by
    rw [(total_ok 2000 (by omega) (l := a) fun _ w hw => wagErr_fu ((listErr_zero.1 h).2.1 w hw) (by omega)).1, totals_ok h]
  have hsum : ∀ f : Wagon → Int, sumL f (l.take p) + sumL f (l.drop p) = sumL f l := fun f => by rw [← sumL_append, List.take_append_drop]
  have hb : ∀ f : Wagon → Int, (∀ w ∈ l, 0 ≤ f w ∧ f w ≤ 2000) → 0 ≤ sumL f l ∧ sumL f l ≤ 100000 := fun f h => by
    have := sumL_bound (lo := 0) (hi := 2000) h
    omega
  have b1 := hb (·.length) fun w hw => by have := wag_ranges (hz w hw); omega
  have b2 := hb (·.mass) fun w hw => by have := wag_ranges (hz w hw); omega
  have b3 := hb (·.axles) fun w hw => by have := wag_ranges (hz w hw); omega
  unfold l06_ConsistTotals gen_New
  rw [bind_some', show (12 : Int) = ((12 : Nat) : Int) from rfl, h0, bind_some']
  dsimp only
  have e4 : IntKind.wrap .i64 (IntKind.wrap .i64 (Int.tmod x1 ((l.length : Int) + 1) + l.length) + 1) = Int.tmod x1 ((l.length : Int) + 1) + ((l.length : Int) + 1) := by
    have a := Int.lt_tmod_of_pos x1 (show 0 < (l.length : Int) + 1 by omega)
    have b := Int.tmod_lt_of_pos x1 (show 0 < (l.length : Int) + 1 by omega)
    rw [w64 (n := Int.tmod x1 ((l.length : Int) + 1) + l.length) (by omega) (by omega), w64 (by omega) (by omega)]
    omega
  rw [w64 (n := (l.length : Int) + 1) (by omega) (by omega), e1, bind_some', e4, e3, bind_some', ht he, bind_some', hp, cutI_take hpl, bind_some', ht et, bind_some', cutI_drop hpl, bind_some', ht ed, bind_some', bind_some', appI_ok (by simp; omega), bind_some', bind_some', List.nil_append, appI_ok (by simp; omega), bind_some', ht en, bind_some']
  unfold l06_ConsistTotals_0
  dsimp only
  have q1 : ∀ f : Wagon → Int, 0 ≤ sumL f l ∧ sumL f l ≤ 100000 → (sumL f l == IntKind.wrap .i64 (sumL f (l.take p) + sumL f (l.drop p))) = true := fun f h => by
    rw [hsum f, w64 (by omega) (by omega)]; simp
  have q2 : ∀ f : Wagon → Int, (sumL f l == sumL f (l.drop p ++ l.take p)) = true := fun f => by
    rw [sumL_append, Int.add_comm, hsum]; simp
  rw [if_pos (by decide), if_pos (by decide), if_pos (by decide), if_pos (by decide), if_pos (q1 _ b1), if_pos (q1 _ b2), if_pos (q1 _ b3), if_pos (q2 _), if_pos (q2 _), if_pos (q2 _), hs]; rfl
theorem totalsT (x0 : List Int) (x1 : Int) : ∃ N, l06_ConsistTotals N x0 x1 = some true := ⟨2000, totals_law x0 x1⟩
end Go.W
