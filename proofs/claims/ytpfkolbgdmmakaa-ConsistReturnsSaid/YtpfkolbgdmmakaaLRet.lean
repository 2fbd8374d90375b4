/- Consist: what is written is read, and what is read is written with the same bytes. -/
import Derived.Test.YtpfkolbgdmmakaaLDec3
set_option linter.unusedVariables false
set_option linter.unusedSimpArgs false
set_option maxRecDepth 100000
namespace Go.W
open Go.AM

/-! ### Digits -/
theorem dig_byte {a b : UInt8} (ha : isDig a = true) (hb : isDig b = true) : ((u8 (((a.toNat : Int) - 48) * 16 + ((b.toNat : Int) - 48))).toNat : Int) = ((a.toNat : Int) - 48) * 16 + ((b.toNat : Int) - 48) := by
  rw [isDig_iff] at ha hb
  exact u8_val (by omega) (by omega)
theorem un_pk : ∀ {l : List UInt8}, l.all isDig = true → l.length % 2 = 0 → un (pk l) = l ∧ (pk l).all okb = true
  | [], _, _ => ⟨rfl, rfl⟩
  | [a], _, h => by simp at h
  | a :: b :: t, hd, hl => by
    simp only [List.all_cons, Bool.and_eq_true] at hd
    obtain ⟨ha, hb, ht⟩ := hd
    obtain ⟨i1, i2⟩ := un_pk ht (by simp only [List.length_cons] at hl; omega)
    have e := dig_byte ha hb
    have ha' := isDig_iff.1 ha
    have hb' := isDig_iff.1 hb
    generalize hc : u8 (((a.toNat : Int) - 48) * 16 + ((b.toNat : Int) - 48)) = c at e
    have hdiv : (c.toNat : Int) / 16 = (a.toNat : Int) - 48 := by omega
    have hmod : (c.toNat : Int) % 16 = (b.toNat : Int) - 48 := by omega
    have h1 : u8 (48 + (c.toNat : Int) / 16) = a := by rw [hdiv, show 48 + ((a.toNat : Int) - 48) = a.toNat by omega, u8_toNat]
    have h2 : u8 (48 + (c.toNat : Int) % 16) = b := by rw [hmod, show 48 + ((b.toNat : Int) - 48) = b.toNat by omega, u8_toNat]
    simp only [pk, hc, un, List.flatMap_cons, h1, h2, List.cons_append, List.nil_append, List.all_cons]
    refine ⟨?_, ?_⟩
    · have : (pk t).flatMap (fun c => [u8 (48 + (c.toNat : Int) / 16), u8 (48 + (c.toNat : Int) % 16)]) = t := i1
      rw [this]
    · rw [i2, Bool.and_true]
      unfold okb
      rw [decide_eq_true (by omega), decide_eq_true (by omega)]; rfl
theorem pk_un : ∀ {l : List UInt8}, l.all okb = true → pk (un l) = l
  | [], _ => rfl
  | c :: l, h => by
    simp only [List.all_cons, Bool.and_eq_true] at h
    have hc := u8_lt c
    have hk := h.1
    unfold okb at hk
    simp only [Bool.and_eq_true, decide_eq_true_eq] at hk
    have ih : pk (l.flatMap fun c => [u8 (48 + (c.toNat : Int) / 16), u8 (48 + (c.toNat : Int) % 16)]) = l := pk_un h.2
    simp only [un, List.flatMap_cons, List.cons_append, List.nil_append, pk, ih]
    rw [u8_val (by omega) (by omega), u8_val (by omega) (by omega), show (48 + (c.toNat : Int) / 16 - 48) * 16 + (48 + (c.toNat : Int) % 16 - 48) = c.toNat by omega, u8_toNat]

theorem w2_of {x : Int} (h0 : 0 ≤ x) (h1 : x < 65536) : w2 (u8 (x / 256)) (u8 x) = x := by
  have e : u8 x = u8 (x % 256) := u8_congr (by omega)
  unfold w2
  rw [u8_val (by omega) (by omega), e, u8_val (by omega) (by omega)]
  omega
theorem u8_w2 (a c : UInt8) : u8 (w2 a c / 256) = a ∧ u8 (w2 a c) = c := by
  have ha := u8_lt a
  have hc := u8_lt c
  unfold w2
  refine ⟨?_, ?_⟩
  · rw [show ((a.toNat : Int) * 256 + c.toNat) / 256 = a.toNat by omega, u8_toNat]
  · rw [u8_congr (b := (c.toNat : Int)) (by omega), u8_toNat]

/-- A valid wagon's bytes are read as the wagon. -/
theorem p1_wb {w : Wagon} (h : wagErr w = 0) (e : List UInt8) : p1 (wb w ++ e) = some (w, true, e) := by
  obtain ⟨hnum, hax, hrg, hnm⟩ := wagErr_zero h
  obtain ⟨hn12, hdig⟩ := numErr_len hnum
  have hdl := (wagErr_len h).2
  have hr := wag_ranges h
  have hg : 0 ≤ w.goods ∧ w.goods ≤ 9 := by unfold inRg at hrg; omega
  obtain ⟨u1, u2⟩ := un_pk hdig (by omega)
  have hpl := pk_len w.number
  rw [hn12] at hpl
  have q0 : 6 ≤ (pk w.number).length := by omega
  unfold wb
  generalize pk w.number = P at u1 u2 hpl q0 ⊢
  obtain ⟨a0, P, rfl, q1⟩ := uncons q0
  obtain ⟨a1, P, rfl, q2⟩ := uncons q1
  obtain ⟨a2, P, rfl, q3⟩ := uncons q2
  obtain ⟨a3, P, rfl, q4⟩ := uncons q3
  obtain ⟨a4, P, rfl, q5⟩ := uncons q4
  obtain ⟨a5, P, rfl, q6⟩ := uncons q5
  have hP : P = [] := List.eq_nil_of_length_eq_zero (by simp only [List.length_cons] at hpl; omega)
  subst hP
  have hdn : ((u8 (w.dest.length : Int)).toNat : Int) = w.dest.length := u8_val (by omega) (by omega)
  have hdn' : (u8 (w.dest.length : Int)).toNat = w.dest.length := by omega
  have hgv : ((u8 (w.goods + if w.gentle = true then 16 else 0)).toNat : Int) = w.goods + if w.gentle = true then 16 else 0 := u8_val (by split <;> omega) (by split <;> omega)
  have hgm : (w.goods + if w.gentle = true then 16 else 0) % 16 = w.goods := by split <;> omega
  have hgt : decide (16 ≤ (w.goods + if w.gentle = true then (16 : Int) else 0)) = w.gentle := by
    cases w.gentle with
    | true => rw [if_pos rfl]; exact decide_eq_true (by omega)
    | false => rw [if_neg (by decide)]; exact decide_eq_false (by omega)
  have hgo : okg (u8 (w.goods + if w.gentle = true then 16 else 0)) = true := by
    unfold okg
    rw [hgv, hgm, decide_eq_true (show w.goods ≤ 9 by omega), decide_eq_true (by split <;> omega)]; rfl
  have hav : ((u8 w.axles).toNat : Int) = w.axles := u8_val (by omega) (by omega)
  simp only [List.cons_append, List.nil_append, List.append_assoc, p1]
  rw [if_pos (by rw [hdn']; simp), hdn', u1, u2, hgo, hgv, hgm, hgt, hav, w2_of (by omega) (by omega), w2_of (by omega) (by omega), w2_of (by omega) (by omega), List.take_left, List.drop_left]
  rfl
theorem pN_wbs : ∀ {l : List Wagon} (e : List UInt8), (∀ w ∈ l, wagErr w = 0) → pN l.length (wbs l ++ e) = some (l.map fun w => (w, true), e)
  | [], e, _ => by simp [wbs, pN]
  | w :: l, e, h => by
    have : wbs (w :: l) = wb w ++ wbs l := by simp [wbs]
    have ih := pN_wbs (l := l) e fun x hx => h x (List.mem_cons_of_mem _ hx)
    rw [this, List.append_assoc]
    simp only [List.length_cons, pN, p1_wb (h w (by simp)), ih, List.map_cons]

theorem wb_p1 {c c' : List UInt8} {w : Wagon} (h : p1 c = some (w, true, c')) : c = wb w ++ c' := by
  obtain ⟨a0, a1, a2, a3, a4, a5, l1, l0, ax, m1, m0, b1, b0, g, d, t, hc, hdt, hx⟩ := p1_some h
  injection hx with hw hx
  injection hx with hok hx
  have hok := hok.symm
  rw [Bool.and_eq_true] at hok
  obtain ⟨k1, k2⟩ := hok
  have hgu := u8_lt g
  unfold okg at k2
  simp only [Bool.and_eq_true, decide_eq_true_eq] at k2
  rw [hc, hw, hx]
  unfold wb
  dsimp only
  rw [pk_un k1, (u8_w2 l1 l0).1, (u8_w2 l1 l0).2, (u8_w2 m1 m0).1, (u8_w2 m1 m0).2, (u8_w2 b1 b0).1, (u8_w2 b1 b0).2, u8_toNat, List.length_take, Nat.min_eq_left hdt, u8_toNat]
  have hg : u8 ((g.toNat : Int) % 16 + if decide (16 ≤ (g.toNat : Int)) = true then 16 else 0) = g := by
    by_cases h : 16 ≤ (g.toNat : Int)
    · rw [if_pos (decide_eq_true h), show (g.toNat : Int) % 16 + 16 = g.toNat by omega, u8_toNat]
    · rw [if_neg (by simpa using h), show (g.toNat : Int) % 16 + 0 = g.toNat by omega, u8_toNat]
  rw [hg]
  simp only [List.cons_append, List.nil_append, List.append_assoc, List.take_append_drop]
theorem wbs_pN : ∀ {k : Nat} {c e : List UInt8} {r : List (Wagon × Bool)}, pN k c = some (r, e) → r.all (·.2) = true → c = wbs (r.map (·.1)) ++ e
  | 0, c, e, r, h, _ => by
    simp only [pN, Option.some.injEq, Prod.mk.injEq] at h
    obtain ⟨rfl, rfl⟩ := h
    simp [wbs]
  | k + 1, c, e, r, h, hall => by
    simp only [pN] at h
    split at h
    · cases h
    · rename_i w ok c' h1
      split at h
      · cases h
      · rename_i r' e' h2
        injection h with h
        injection h with h3 h4
        subst h3; subst h4
        simp only [List.all_cons, Bool.and_eq_true] at hall
        obtain ⟨hok, hall⟩ := hall
        subst hok
        have e1 := wb_p1 h1
        have e2 := wbs_pN h2 hall
        have : wbs (((w, true) :: r').map (·.1)) = wb w ++ wbs (r'.map (·.1)) := by simp [wbs]
        rw [this, e1, e2, List.append_assoc]

/-- A list is read as it was written. -/
theorem dec_enc {l : List Wagon} (h : listErr l = 0) : dec (enc l).1 = (l, 0) := by
  obtain ⟨hl, hv, _⟩ := listErr_zero.1 h
  have hk := ck_range (body l)
  unfold enc
  rw [if_neg (by simp [h])]
  dsimp only
  have hn : (u8 (l.length : Int)).toNat = l.length := by have := u8_val (n := (l.length : Int)) (by omega) (by omega); omega
  have hp := pN_wbs (l := l) [u8 (ck (body l) / 256), u8 (ck (body l))] hv
  have hb : body l ++ [u8 (ck (body l) / 256), u8 (ck (body l))] = u8 (l.length : Int) :: (wbs l ++ [u8 (ck (body l) / 256), u8 (ck (body l))]) := rfl
  rw [hb]
  simp only [dec, hn, hp, decE]
  have ht : (u8 (l.length : Int) :: (wbs l ++ [u8 (ck (body l) / 256), u8 (ck (body l))])).take ((u8 (l.length : Int) :: (wbs l ++ [u8 (ck (body l) / 256), u8 (ck (body l))])).length - 2) = body l := by
    rw [← hb, List.length_append]
    simp
  have hm : (l.map fun w => (w, true)).map (·.1) = l := by rw [List.map_map]; exact List.map_id l
  have ha : (l.map fun w => (w, true)).all (·.2) = true := by simp
  rw [ht, w2_of hk.1 (by omega), if_neg (by simp), ha, if_neg (by decide), hm, if_neg (by simp [h])]
/-- What can be read is written with the same bytes. -/
theorem enc_dec {b : List UInt8} (h : (dec b).2 = 0) : enc (dec b).1 = (b, 0) := by
  cases b with
  | nil => simp [dec] at h
  | cons k t =>
    simp only [dec] at h ⊢
    cases hp : pN k.toNat t with
    | none => rw [hp] at h; simp [decE] at h
    | some x =>
      obtain ⟨r, e⟩ := x
      rw [hp] at h
      match e, hp, h with
      | [], _, h => simp [decE] at h
      | [_], _, h => simp [decE] at h
      | _ :: _ :: _ :: _, _, h => simp [decE] at h
      | [c1, c0], hp, h =>
        simp only [decE] at h ⊢
        by_cases h1 : w2 c1 c0 ≠ ck ((k :: t).take ((k :: t).length - 2))
        · rw [if_pos h1] at h; simp at h
        · rw [if_neg h1] at h ⊢
          by_cases h2 : r.all (·.2) = false
          · rw [if_pos h2] at h; simp at h
          · rw [if_neg h2] at h ⊢
            by_cases h3 : listErr (r.map (·.1)) ≠ 0
            · rw [if_pos h3] at h; exact absurd h h3
            · rw [if_neg h3]
              have h3 : listErr (r.map (·.1)) = 0 := by simpa using h3
              have h2 : r.all (·.2) = true := by simpa using h2
              have h1 : w2 c1 c0 = ck ((k :: t).take ((k :: t).length - 2)) := by simpa using h1
              have ht := wbs_pN hp h2
              have hr := (pN_len hp).2
              have hb : body (r.map (·.1)) = k :: wbs (r.map (·.1)) := by
                unfold body
                rw [List.length_map, hr, u8_toNat]
              have htk : (k :: t).take ((k :: t).length - 2) = body (r.map (·.1)) := by
                rw [hb, ht]; simp
              rw [htk] at h1
              unfold enc
              rw [if_neg (by simp [h3]), ← h1, (u8_w2 c1 c0).1, (u8_w2 c1 c0).2, hb, ht]
              rfl
end Go.W
