/- Rules: the law about the last wagons. -/
import Derived.Test.YtaoioacomnnhdaaLRulG
set_option linter.unusedVariables false
set_option linter.unusedSimpArgs false
set_option maxRecDepth 100000
namespace Go.W
open Go.AM

def lessL (n : Int) : List Int → List Int
  | [] => []
  | o :: os => if n ≤ o then (o - n) :: lessL n os else lessL n os
theorem lessL_len (n : Int) : ∀ (l : List Int), (lessL n l).length ≤ l.length
  | [] => by simp [lessL]
  | o :: os => by
    have := lessL_len n os
    rw [lessL]; split <;> simp only [List.length_cons] <;> omega
theorem lessL_mem {n x : Int} : ∀ {l : List Int}, x ∈ lessL n l ↔ x + n ∈ l ∧ 0 ≤ x
  | [] => by simp [lessL]
  | o :: os => by
    rw [lessL]
    split
    · rw [List.mem_cons, lessL_mem, List.mem_cons]
      constructor
      · rintro (h | ⟨h1, h2⟩)
        · exact ⟨.inl (by omega), by omega⟩
        · exact ⟨.inr h1, h2⟩
      · rintro ⟨h | h, h2⟩
        · exact .inl (by omega)
        · exact .inr ⟨h, h2⟩
    · rw [lessL_mem, List.mem_cons]
      constructor
      · rintro ⟨h1, h2⟩; exact ⟨.inr h1, h2⟩
      · rintro ⟨h | h, h2⟩
        · omega
        · exact ⟨h, h2⟩
theorem lessL_nodup {n : Int} : ∀ {l : List Int}, l.Nodup → (lessL n l).Nodup
  | [], _ => by simp [lessL]
  | o :: os, h => by
    rw [List.nodup_cons] at h
    rw [lessL]
    split
    · rw [List.nodup_cons]
      refine ⟨fun hm => ?_, lessL_nodup h.2⟩
      have := (lessL_mem.1 hm).1
      rw [show o - n + n = o by omega] at this
      exact h.1 this
    · exact lessL_nodup h.2

theorem less_loop (N : Nat) {off : List Int} (ho : off.length ≤ 1000) {n : Int} (h0 : 0 ≤ n) (h1 : n ≤ 1000) (hr : ∀ o ∈ off, 0 ≤ o ∧ o ≤ 1000) : ∀ (q f i : Nat) (out : List Int), q < f → i + q = off.length → out.length ≤ i →
    l36_RulebookTails_0 N n off f out i = some (out ++ lessL n (off.drop i))
  | q, 0, i, out, hn, _, _ => by omega
  | 0, f + 1, i, out, hn, hi, _ => by
    obtain rfl : i = off.length := by omega
    rw [l36_RulebookTails_0, if_neg (dneg (by omega)), List.drop_length, lessL, List.append_nil]
  | q + 1, f + 1, i, out, hn, hi, hol => by
    have hlt : i < off.length := by omega
    have hb := hr _ (List.getElem_mem hlt)
    rw [l36_RulebookTails_0, if_pos (dpos (by omega)), drop_at (at_lt hlt), lessL]
    unfold l36_RulebookTails_1
    rw [getI_nat (at_lt hlt), bind_some']
    by_cases h : n ≤ off[i]
    · rw [if_pos (lpos h), bind_some', w64 (n := off[i] - n) (by omega) (by omega), appI_ok (by simp; omega), bind_some', bind_some', lt_def, w64s (by omega), less_loop N ho h0 h1 hr q f (i + 1) _ (by omega) (by omega) (by simp; omega), if_pos h, List.append_assoc]
      rfl
    · rw [if_neg (lneg h), bind_some', lt_def, w64s (by omega), less_loop N ho h0 h1 hr q f (i + 1) _ (by omega) (by omega) (by omega), if_neg h]

theorem cnt_shift {off less : List Int} {n : Nat} (h : ∀ j : Nat, (j : Int) ∈ less ↔ ((j + n : Nat) : Int) ∈ off) : ∀ (m : List Wagon) (j : Nat), cnt less j m = cnt off (j + n) m
  | [], j => rfl
  | w :: m, j => by
    rw [cnt, cnt, cnt_shift h m (j + 1), show j + 1 + n = j + n + 1 by omega]
    congr 1
    by_cases hm : (j : Int) ∈ less
    · rw [if_neg (fun hh => hh.2 hm), if_neg (fun hh => hh.2 ((h j).1 hm))]
    · by_cases hb : 0 < w.brake
      · rw [if_pos ⟨hb, hm⟩, if_pos ⟨hb, fun hh => hm ((h j).2 hh)⟩]
      · rw [if_neg (fun hh => hb hh.1), if_neg (fun hh => hb hh.1)]

def fixB (w : Wagon) : Wagon := Wagon.mk w.number w.length w.axles w.mass (max 1 w.brake) w.goods w.gentle w.dest
theorem fix_err {w : Wagon} (h : wagErr w = 0) : wagErr (fixB w) = 0 := by
  obtain ⟨h1, h2, h3, h4⟩ := wagErr_zero h
  have h5 : inRg (kindOf w.number) (fixB w) := by
    unfold inRg at h3 ⊢
    simp only [fixB]
    omega
  unfold wagErr
  rw [if_neg (show ¬ numErr (fixB w).number ≠ 0 from fun hh => hh h1), if_neg (show ¬ (fixB w).axles ≠ axOf (kindOf (fixB w).number) from fun hh => hh h2), if_neg (show ¬¬ inRg (kindOf (fixB w).number) (fixB w) from fun hh => hh h5), if_pos (show nameOk (fixB w).dest = true from h4)]
theorem fix_list {l : List Wagon} (h : listErr l = 0) : listErr (l.map fixB) = 0 := by
  obtain ⟨h1, h2, h3⟩ := listErr_zero.1 h
  refine listErr_zero.2 ⟨by simpa using h1, fun w hw => ?_, ?_⟩
  · obtain ⟨x, hx, rfl⟩ := List.mem_map.1 hw
    exact fix_err (h2 x hx)
  · rw [List.map_map]; exact h3
theorem cnt_all : ∀ (m : List Wagon) (i : Nat), (∀ w ∈ m, 0 < w.brake) → cnt [] i m = m.length
  | [], i, _ => rfl
  | w :: m, i, h => by
    rw [cnt, if_pos ⟨h w (by simp), by simp⟩, cnt_all m (i + 1) fun x hx => h x (by simp [hx]), List.length_cons]; omega
theorem fix_loop (N : Nat) {l : List Wagon} (hl : l.length ≤ 1000) : ∀ (q n i : Nat), q < n → i + q = l.length → l36_RulebookTails_3 N n ((l.take i).map fixB ++ l.drop i) i = some (l.map fixB)
  | q, 0, i, hn, _ => by omega
  | 0, n + 1, i, hn, hi => by
    obtain rfl : i = l.length := by omega
    rw [l36_RulebookTails_3, if_neg (dneg (by simp))]
    simp
  | q + 1, n + 1, i, hn, hi => by
    have hlt : i < l.length := by omega
    have hlen : ((l.take i).map fixB).length = i := by simp; omega
    have hg : ((l.take i).map fixB ++ l.drop i)[i]? = some l[i] := by
      rw [List.getElem?_append_right (by omega), hlen, Nat.sub_self, List.getElem?_drop, Nat.add_zero]; exact at_lt hlt
    rw [l36_RulebookTails_3, if_pos (dpos (by rw [List.length_append, hlen, List.length_drop]; omega)), getI_nat hg, bind_some', bind_some', lt_def, lt_def, w64s (by omega), Int.toNat_natCast,
      show ((l.take i).map fixB ++ l.drop i).set i (Wagon.mk l[i].number l[i].length l[i].axles l[i].mass (max 1 l[i].brake) l[i].goods l[i].gentle l[i].dest) = (l.take (i + 1)).map fixB ++ l.drop (i + 1) from by
        rw [List.set_append_right _ _ (by omega), hlen, Nat.sub_self, drop_at (at_lt hlt), List.set_cons_zero, List.take_succ_eq_append_getElem hlt, List.map_append, List.append_assoc]
        rfl]
    exact fix_loop N hl q n (i + 1) (by omega) (by omega)

theorem tails_ok (x0 : List Int) (x1 : Int) : l36_RulebookTails 2000 x0 x1 = some true := by
  obtain ⟨l, s2, e2, m2, l2, d2⟩ := wagons_ok 2000 (by omega) 14 (by omega) (mk0 x0) (by omega)
  obtain ⟨off, s3, e3, m3, a3⟩ := offg_ok 2000 (m := l.length) (by omega) (by omega) m2 (by omega)
  obtain ⟨a, s4, e4, a0, a1, m4⟩ := next_ok 2000 8 (by omega) (by omega) m3 (by omega)
  obtain ⟨b, s5, e5, b0, b1, m5⟩ := next_ok 2000 8 (by omega) (by omega) m4 (by omega)
  obtain ⟨n, e6, n0, n1⟩ := place_ok 2000 x1 (max 0 ((l.length : Int) - a) + 1) (by omega) (by omega)
  obtain ⟨n, rfl⟩ := Int.eq_ofNat_of_zero_le n0
  have he := d2.err (by omega)
  have ho := a3.err
  have hol := a3.ln
  have hdr := sub_err he (List.drop_sublist n l)
  have hfx := fix_list he
  have hsane := sane36' (N := 2000) (by omega)
  have hr : rvalid (Rule.mk 1 7 a b 0) = true := by rw [rvalid_iff]; dsimp only; omega
  have q1 : ∀ (l : List Wagon) (off : List Int) (pc : Int), plc (Rule.mk 1 7 a b 0) l off pc = if tailB (Rule.mk 1 7 a b 0) l off = true then (l.length : Int) else -1 := fun l off pc => by unfold plc; rfl
  have hlo : offErr (l.drop n).length (lessL n off) = 0 := by
    unfold offErr
    rw [if_pos (List.all_eq_true.2 fun o h => inB_iff.2 ?_), if_pos (lessL_nodup a3.nd)]
    obtain ⟨g1, g2⟩ := lessL_mem.1 h
    have := a3.rg _ g1
    rw [List.length_drop]
    omega
  have hll := lessL_len n off
  have p1 := (placeR_ok 2000 (by omega) (err_fu (by omega) he) (off := off) (by omega) (Rule.mk 1 7 a b 0)).1
  have p2 := (placeR_ok 2000 (by omega) (err_fu (by omega) hdr) (off := lessL n off) (by omega) (Rule.mk 1 7 a b 0)).1
  have p3 := (placeR_ok 2000 (by omega) (err_fu (by omega) hfx) (off := []) (by simp) (Rule.mk 1 7 a b 0)).1
  rw [placeR_eq hr he ho, q1] at p1
  rw [placeR_eq hr hdr hlo, q1] at p2
  rw [placeR_nil hr hfx, q1] at p3
  have hT : tailB (Rule.mk 1 7 a b 0) (l.drop n) (lessL n off) = tailB (Rule.mk 1 7 a b 0) l off := by
    have hL : lastN (Rule.mk 1 7 a b 0) (l.drop n) = lastN (Rule.mk 1 7 a b 0) l := by
      unfold lastN
      rw [List.length_drop]
      dsimp only
      omega
    have hle : lastN (Rule.mk 1 7 a b 0) l + n ≤ l.length := by
      unfold lastN
      dsimp only
      omega
    unfold tailB
    rw [hL, List.length_drop, List.drop_drop, show n + (l.length - n - lastN (Rule.mk 1 7 a b 0) l) = l.length - lastN (Rule.mk 1 7 a b 0) l by omega,
      cnt_shift (off := off) (n := n) (fun j => by rw [lessL_mem]; constructor
                                                   · rintro ⟨h, _⟩; rw [Int.natCast_add]; exact h
                                                   · intro h; rw [Int.natCast_add] at h; exact ⟨h, by omega⟩),
      show l.length - n - lastN (Rule.mk 1 7 a b 0) l + n = l.length - lastN (Rule.mk 1 7 a b 0) l by omega]
  have hF : tailB (Rule.mk 1 7 a b 0) (l.map fixB) [] = false := by
    unfold tailB
    have hle : lastN (Rule.mk 1 7 a b 0) (l.map fixB) ≤ (l.map fixB).length := (lastN_eq hr _).2
    rw [cnt_all _ _ (fun w hw => by
      obtain ⟨x, _, rfl⟩ := List.mem_map.1 (List.mem_of_mem_drop hw)
      simp only [fixB]; omega), List.length_drop]
    rw [decide_eq_false_iff_not]
    dsimp only
    omega
  have hloop := less_loop 2000 (off := off) (by omega) (n := n) (by omega) (by omega) (fun o h => by have := a3.rg o h; omega) off.length 2000 0 [] (by omega) (by omega) (by simp)
  have hfix := fix_loop 2000 (l := l) (by omega) l.length 2000 0 (by omega) (by omega)
  simp only [Int.natCast_zero, List.drop_zero, List.nil_append, List.take_zero, List.map_nil] at hloop hfix
  rw [hF, if_neg (by decide)] at p3
  unfold l36_RulebookTails gen_New
  rw [bind_some', show (14 : Int) = ((14 : Nat) : Int) from rfl, e2, bind_some']
  dsimp only
  rw [e3, bind_some']
  dsimp only
  rw [e4, bind_some']
  dsimp only
  rw [e5, bind_some']
  dsimp only
  rw [p1, bind_some', w64 (n := (l.length : Int) - a) (by omega) (by omega), w64 (n := max 0 ((l.length : Int) - a) + 1) (by omega) (by omega), e6, bind_some', hloop, bind_some', cutI_drop (by omega), bind_some', p2, bind_some', hT]
  have h2 : l36_RulebookTails_2 2000 n l (if tailB (Rule.mk 1 7 a b 0) l off = true then (l.length : Int) else -1) 0 (if tailB (Rule.mk 1 7 a b 0) l off = true then ((l.drop n).length : Int) else -1) 0 = some false := by
    unfold l36_RulebookTails_2
    simp only [bne00, Bool.false_eq_true, if_false]
    rw [List.length_drop]
    cases tailB (Rule.mk 1 7 a b 0) l off
    · simp
    · simp only [if_true]
      rw [show ((l.length : Int) == -1) = false by simp <;> omega, show (((l.length - n : Nat) : Int) == -1) = false by simp <;> omega, if_neg (by decide), if_pos (by simp <;> omega), if_neg (by simp), w64 (n := (l.length : Int) - n) (by omega) (by omega), show ((l.length - n : Nat) : Int) = (l.length : Int) - n by omega, bne_self_eq_false]
  dsimp only
  rw [h2, bind_some', if_neg (by decide), hfix, bind_some', p3, bind_some']
  unfold l36_RulebookTails_4
  rw [if_pos (by decide), if_pos (by decide), hsane]; rfl
theorem tailsT (x0 : List Int) (x1 : Int) : ∃ N, l36_RulebookTails N x0 x1 = some true := ⟨2000, tails_ok x0 x1⟩
end Go.W
