/- Consist: a list has at most 96 wagons, and each number once. -/
import Derived.Test.YtpfkolbgdmmakaaLCon
set_option linter.unusedVariables false
set_option linter.unusedSimpArgs false
set_option maxRecDepth 100000
namespace Go.W
open Go.AM

theorem chkL_dup : ∀ {a : List Wagon} {seen : List (List UInt8)} {w : Wagon}, (∀ x ∈ a, wagErr x = 0) → wagErr w = 0 → (a.map (·.number)).Nodup → (∀ x ∈ a, x.number ∉ seen) → (w.number ∈ seen ∨ w.number ∈ a.map (·.number)) → chkL seen (a ++ [w]) = 8
  | [], seen, w, _, hw, _, _, h => by
    simp only [List.map_nil, List.not_mem_nil, or_false] at h
    simp only [List.nil_append, chkL]
    rw [if_neg (by simp [hw]), if_pos h]
  | x :: a, seen, w, hv, hw, hn, hs, h => by
    rw [List.map_cons, List.nodup_cons] at hn
    have hx := hv x (by simp)
    have hxs := hs x (by simp)
    simp only [List.cons_append, chkL]
    rw [if_neg (by simp [hx]), if_neg hxs]
    refine chkL_dup (fun y hy => hv y (by simp [hy])) hw hn.2 (fun y hy hm => ?_) ?_
    · rcases List.mem_append.1 hm with hm | hm
      · exact hs y (by simp [hy]) hm
      · simp at hm
        exact hn.1 (hm ▸ List.mem_map.2 ⟨y, hy, rfl⟩)
    · simp only [List.map_cons, List.mem_cons] at h
      rcases h with h | h | h
      · exact .inl (List.mem_append_left _ h)
      · exact .inl (by rw [h]; simp)
      · exact .inr h

theorem lim_loop (N : Nat) (hN : 60 ≤ N) {m : Nat} (hm : m ≤ 100) : ∀ (k n i : Nat) (s : Maker) (out : List Wagon) (c : Int), k < n → i + k = m → out.length = i → Mk c s → c + 17 * k ≤ 900000 → MadeL out →
    ∃ l, l06_ConsistLimit_0 N m n s out i = some l ∧ l.length = m ∧ MadeL l
  | k, 0, i, s, out, c, hn, _, _, _, _, _ => by omega
  | 0, n + 1, i, s, out, c, hn, hi, hl, hs, _, ho => by
    rw [l06_ConsistLimit_0, if_neg (dneg (by omega))]
    exact ⟨out, rfl, by omega, ho⟩
  | k + 1, n + 1, i, s, out, c, hn, hi, hl, hs, hc, ho => by
    obtain ⟨w, s1, h1, h2, h3, h4⟩ := made_ok N hN (i := (i : Int)) hs (by omega) (by omega) (by omega)
    rw [l06_ConsistLimit_0, if_pos (dpos (by omega)), h1, bind_some']
    dsimp only
    rw [appI_ok (by simp; omega), bind_some', lt_def, w64s (by omega)]
    exact lim_loop N hN hm k n (i + 1) s1 (out ++ [w]) (c + 17) (by omega) (by omega) (by simp; omega) h2 (by omega) (ho.snoc h3 (by rw [h4, hl]))

theorem limit_law (x0 : List Int) (x1 x2 : Int) : l06_ConsistLimit 4000 x0 x1 x2 = some true := by
  have hs := sane06' (N := 4000) (by omega)
  have q : IntKind.wrap .i64 (95 + Int.tmod (IntKind.wrap .i64 (Int.tmod x1 3 + 3)) 3) = ((95 + ((Int.tmod x1 3 + 3) % 3).toNat : Nat) : Int) := by
    have a1 := Int.lt_tmod_of_pos x1 (show (0 : Int) < 3 by omega)
    have a2 := Int.tmod_lt_of_pos x1 (show (0 : Int) < 3 by omega)
    rw [w64 (n := Int.tmod x1 3 + 3) (by omega) (by omega), Int.tmod_eq_emod_of_nonneg (by omega), w64 (by omega) (by omega)]
    omega
  have hm : ∃ m : Nat, m = 95 + ((Int.tmod x1 3 + 3) % 3).toNat ∧ 95 ≤ m ∧ m ≤ 97 := ⟨_, rfl, by omega, by omega⟩
  obtain ⟨m, hm, m0, m1⟩ := hm
  rw [← hm] at q
  obtain ⟨l, h1, hl, hM⟩ := lim_loop 4000 (by omega) (m := m) (by omega) m 4000 0 (Maker.mk x0 0) [] 0 (by omega) (by omega) rfl (mk0 x0) (by omega) MadeL.nil
  simp only [Int.natCast_zero] at h1
  have hF : l.length ≤ 96 → ∀ w ∈ l, Fu 4000 w := fun _ w hw => wagErr_fu (hM.ok w hw) (by omega)
  have he : (enc l).2 = if 96 < m then 3 else 0 := by
    unfold enc
    by_cases h : 96 < m
    · have : listErr l = 3 := by unfold listErr; rw [if_pos (by omega)]
      rw [if_pos (by simp [this]), if_pos h, this]
    · have : listErr l = 0 := hM.err (by omega)
      rw [if_neg (by simp [this]), if_neg h]
  have hL : l06_ConsistLimit_1 4000 m (enc l).2 = some false := by
    rw [he]
    unfold l06_ConsistLimit_1
    by_cases h : 96 < m
    · rw [if_pos h, decide_eq_true (show (96 : Int) < m by omega), if_neg (by decide), if_neg (by simp; omega)]
    · rw [if_neg h, decide_eq_false (show ¬ (96 : Int) < m by omega), if_neg (by decide), if_pos (by simp; omega)]; rfl
  have hcut : cutI l 0 95 = some (l.take 95) := cutI_take (i := 95) (by omega)
  have htl : (l.take 95).length = 95 := by simp; omega
  obtain ⟨f1, f2, f3, p0, p1⟩ := mod_in x2 95 (by omega) (by omega)
  obtain ⟨p, hp⟩ := Int.eq_ofNat_of_zero_le p0
  have hpl : p < (l.take 95).length := by omega
  unfold l06_ConsistLimit gen_New
  rw [bind_some', lt_def, q, h1, bind_some', (enc_ok 4000 (by omega) hF).1, bind_some', hL, bind_some', if_neg (by decide), hcut, bind_some', htl, show ((95 : Nat) : Int) = 95 from rfl, f1, bind_some', f2, f3, bind_some', hp, getI_nat (at_lt hpl), bind_some', appI_ok (by simp; omega), bind_some']
  have hin : ∀ x ∈ l.take 95, x ∈ l := fun x hx => List.mem_of_mem_take hx
  have hnd : ((l.take 95).map (·.number)).Nodup := List.Nodup.sublist ((List.take_sublist _ _).map _) hM.nodup
  have hwm := List.getElem_mem hpl
  have hF2 : (l.take 95 ++ [(l.take 95)[p]]).length ≤ 96 → ∀ w ∈ l.take 95 ++ [(l.take 95)[p]], Fu 4000 w := fun _ w hw => by
    rcases List.mem_append.1 hw with hw | hw
    · exact wagErr_fu (hM.ok w (hin w hw)) (by omega)
    · simp only [List.mem_singleton] at hw; subst hw; exact wagErr_fu (hM.ok _ (hin _ hwm)) (by omega)
  have he2 : (enc (l.take 95 ++ [(l.take 95)[p]])).2 = 8 := by
    have : listErr (l.take 95 ++ [(l.take 95)[p]]) = 8 := by
      unfold listErr
      rw [if_neg (by simp; omega)]
      exact chkL_dup (fun x hx => hM.ok x (hin x hx)) (hM.ok _ (hin _ hwm)) hnd (by simp) (.inr (List.mem_map.2 ⟨_, hwm, rfl⟩))
    unfold enc
    rw [if_pos (by rw [this]; decide), this]
  rw [(enc_ok 4000 (by omega) hF2).1, bind_some', he2]
  unfold l06_ConsistLimit_2
  rw [if_pos (by decide), hs]; rfl
theorem limitT (x0 : List Int) (x1 x2 : Int) : ∃ N, l06_ConsistLimit N x0 x1 x2 = some true := ⟨4000, limit_law x0 x1 x2⟩
end Go.W
