/- Consist: a change of one byte, or an exchange of two, is found. -/
import Derived.Test.YtpfkolbgdmmakaaLDec3
set_option linter.unusedVariables false
set_option linter.unusedSimpArgs false
set_option maxRecDepth 100000
namespace Go.W
open Go.AM

theorem made_fu' {N : Nat} (hN : 20 ≤ N) {l : List Wagon} (h : MadeL l) : l.length ≤ 96 → ∀ w ∈ l, Fu N w := fun _ w hw => wagErr_fu (h.ok w hw) hN
theorem dec_chk {B : List UInt8} {c1 c0 : UInt8} (h : endI (B ++ [c1, c0]) = ((B ++ [c1, c0]).length : Int)) (hw : w2 c1 c0 ≠ ck B) : dec (B ++ [c1, c0]) = ([], 9) := by
  generalize hb : B ++ [c1, c0] = b at h ⊢
  cases b with
  | nil => simp at hb
  | cons k t =>
    simp only [endI] at h
    cases hp : pN k.toNat t with
    | none => rw [hp] at h; simp only [endO, List.length_cons] at h; omega
    | some x =>
      obtain ⟨r, e⟩ := x
      rw [hp] at h
      have hpl := (pN_len hp).1
      simp only [endO, List.length_cons] at h
      split at h
      · omega
      · have he : e.length = 2 := by omega
        match e, he, hp with
        | [x1, x0], _, hp =>
          obtain ⟨p, hpt⟩ := pN_tail hp
          have hj : B ++ [c1, c0] = (k :: p) ++ [x1, x0] := by rw [hb, hpt]; rfl
          obtain ⟨rfl, h2⟩ := List.append_inj' hj rfl
          injection h2 with h3 h2
          injection h2 with h4 _
          subst h3; subst h4
          simp only [dec, hp, decE]
          rw [if_pos]
          have : (k :: t).take ((k :: t).length - 2) = k :: p := by
            rw [← hb]; simp
          rw [this]
          exact hw

theorem ws_set : ∀ {l : List UInt8} {j i : Nat} {v u : UInt8}, l[j]? = some u → ws (l.set j v) i = ws l i + ((i : Int) + j + 1) * ((v.toNat : Int) - u.toNat)
  | [], j, i, v, u, h => by simp at h
  | c :: l, 0, i, v, u, h => by
    simp at h; subst h
    simp only [List.set_cons_zero, ws]
    rw [show ((i : Int) + ((0 : Nat) : Int) + 1) = (i : Int) + 1 by omega, Int.mul_sub]
    omega
  | c :: l, j + 1, i, v, u, h => by
    simp only [List.getElem?_cons_succ] at h
    simp only [List.set_cons_succ, ws, ws_set h]
    rw [show (((i + 1 : Nat) : Int) + (j : Int) + 1) = ((i : Int) + ((j + 1 : Nat) : Int) + 1) by omega]
    omega

theorem mul_small {a d : Int} (ha : 1 ≤ a) (ha2 : a ≤ 250) (hd : d ≠ 0) (h1 : -255 ≤ d) (h2 : d ≤ 255) : a * d ≠ 0 ∧ -65000 ≤ a * d ∧ a * d ≤ 65000 := by
  refine ⟨Int.mul_ne_zero (by omega) hd, ?_, ?_⟩
  · have := Int.mul_le_mul_of_nonneg_left h1 (show 0 ≤ a by omega)
    omega
  · have := Int.mul_le_mul_of_nonneg_left h2 (show 0 ≤ a by omega)
    omega
theorem ck_ne {a b : List UInt8} {d : Int} (h : ws b 0 = ws a 0 + d) (hd : d ≠ 0) (h1 : -65000 ≤ d) (h2 : d ≤ 65000) : ck b ≠ ck a := by
  unfold ck
  rw [h]
  omega
theorem w2_u8 {K : Int} (h0 : 0 ≤ K) (h1 : K < 65536) : w2 (u8 (K / 256)) (u8 K) = K := by
  have e : u8 K = u8 (K % 256) := u8_congr (by omega)
  unfold w2
  rw [u8_val (by omega) (by omega), e, u8_val (by omega) (by omega)]
  omega
theorem nat_ne {a b : UInt8} (h : a ≠ b) : (a.toNat : Int) ≠ b.toNat := fun e => h (UInt8.toNat_inj.1 (by omega))

/-- The bytes of a made list. -/
theorem made_enc (N : Nat) (hN : 3000 ≤ N) {l : List Wagon} (d : MadeL l) (hl : l.length ≤ 6) : ∃ B : List UInt8, consist_Encode N l = some (B ++ [u8 (ck B / 256), u8 (ck B)], 0) ∧ 1 ≤ B.length ∧ B.length ≤ 163 := by
  have he := d.err (by omega)
  have hb := body_len he
  refine ⟨body l, ?_, by simp [body], by omega⟩
  rw [(enc_ok N hN (made_fu' (by omega) d)).1]
  unfold enc
  rw [if_neg (by simp [he])]

theorem one_law (x0 : List Int) (x1 x2 : Int) : l06_ConsistOneByte 4000 x0 x1 x2 = some true := by
  obtain ⟨l, s0, h0, m0, l0, d0⟩ := wagons_ok 4000 (by omega) 6 (by omega) (mk0 x0) (by omega)
  obtain ⟨B, hB, B1, B2⟩ := made_enc 4000 (by omega) d0 (by omega)
  have hs := sane06' (N := 4000) (by omega)
  have hK := ck_range B
  generalize hc1 : u8 (ck B / 256) = c1 at hB
  generalize hc0 : u8 (ck B) = c0 at hB
  have hw : w2 c1 c0 = ck B := by rw [← hc1, ← hc0]; exact w2_u8 hK.1 (by omega)
  have hlen : (B ++ [c1, c0]).length = B.length + 2 := by simp
  obtain ⟨e1, e2, e3, p0, p1⟩ := mod_in x1 ((B ++ [c1, c0]).length : Int) (by omega) (by omega)
  obtain ⟨p, hp⟩ := Int.eq_ofNat_of_zero_le p0
  have hpl : p < (B ++ [c1, c0]).length := by omega
  obtain ⟨f1, f2, f3, q0, q1⟩ := mod_in x2 255 (by omega) (by omega)
  unfold l06_ConsistOneByte gen_New
  rw [bind_some', show (6 : Int) = ((6 : Nat) : Int) from rfl, h0, bind_some', hB, bind_some']
  dsimp only
  rw [show l06_ConsistOneByte_0 4000 (B ++ [c1, c0]) 0 = some false from by
    unfold l06_ConsistOneByte_0
    rw [if_neg (by decide), decide_eq_false (by omega)], bind_some', if_neg (by decide), e1, bind_some', e2, e3, bind_some', hp, appI_ok (by simp; omega), bind_some', List.nil_append, getI_nat (at_lt hpl), bind_some', bind_some', f2]
  have hq : Int.tmod (Int.tmod x2 255 + 255) 255 = (Int.tmod x2 255 + 255) % 255 := by
    have a := Int.lt_tmod_of_pos x2 (show (0 : Int) < 255 by omega)
    exact Int.tmod_eq_emod_of_nonneg (by omega)
  rw [hq]
  generalize (Int.tmod x2 255 + 255) % 255 = q at q0 q1 ⊢
  generalize hu : (B ++ [c1, c0])[p] = u
  have hub := u8_lt u
  rw [w64 (n := 1 + q) (by omega) (by omega), w8 (n := 1 + q) (by omega) (by omega), toU8_w, bind_some', lt_def, Int.toNat_natCast]
  generalize hv : u8 ((u.toNat : Int) + (1 + q)) = v
  have hvn : (v.toNat : Int) = ((u.toNat : Int) + (1 + q)) % 256 := by
    rw [← hv, u8_congr (b := ((u.toNat : Int) + (1 + q)) % 256) (by omega), u8_val (by omega) (by omega)]
  have hvb := u8_lt v
  have hsl : ((B ++ [c1, c0]).set p v).length = B.length + 2 := by simp
  obtain ⟨g1, _⟩ := end_ok 4000 (by omega) (b := (B ++ [c1, c0]).set p v) (by omega)
  rw [g1, bind_some']
  by_cases hE : endI ((B ++ [c1, c0]).set p v) = (((B ++ [c1, c0]).set p v).length : Int)
  · rw [if_neg (by simpa using hE), (dec_ok 4000 (by omega) (b := (B ++ [c1, c0]).set p v) (by omega)).1, bind_some']
    have hd : dec ((B ++ [c1, c0]).set p v) = ([], 9) := by
      by_cases h1 : p < B.length
      · have hx : (B ++ [c1, c0]).set p v = B.set p v ++ [c1, c0] := List.set_append_left _ _ h1
        rw [hx] at hE ⊢
        refine dec_chk hE ?_
        rw [hw]
        have hBp : B[p]? = some u := by rw [← hu, List.getElem_append_left h1]; exact at_lt h1
        obtain ⟨m1, m2, m3⟩ := mul_small (a := ((0 : Nat) : Int) + p + 1) (d := (v.toNat : Int) - u.toNat) (by omega) (by omega) (by omega) (by omega) (by omega)
        exact (ck_ne (ws_set hBp) m1 m2 m3).symm
      · by_cases h2 : p = B.length
        · have hx : (B ++ [c1, c0]).set p v = B ++ [v, c0] := by rw [List.set_append_right _ _ (by omega), h2]; simp
          have huc : u = c1 := by rw [← hu]; simp [h2]
          rw [hx] at hE ⊢
          refine dec_chk hE ?_
          rw [← hw]
          unfold w2
          rw [← huc]
          omega
        · have h3 : p = B.length + 1 := by omega
          have hx : (B ++ [c1, c0]).set p v = B ++ [c1, v] := by rw [List.set_append_right _ _ (by omega), h3]; simp
          have huc : u = c0 := by rw [← hu]; simp [h3]
          rw [hx] at hE ⊢
          refine dec_chk hE ?_
          rw [← hw]
          unfold w2
          rw [← huc]
          omega
    rw [hd]
    unfold l06_ConsistOneByte_1
    rw [if_pos (by decide), hs]; rfl
  · rw [if_pos (by simpa using hE), hs]; rfl
theorem oneT (x0 : List Int) (x1 x2 : Int) : ∃ N, l06_ConsistOneByte N x0 x1 x2 = some true := ⟨4000, one_law x0 x1 x2⟩

theorem exch_law (x0 : List Int) (x1 x2 : Int) : l06_ConsistExchange 4000 x0 x1 x2 = some true := by
  obtain ⟨l, s0, h0, m0, l0, d0⟩ := wagons_ok 4000 (by omega) 6 (by omega) (mk0 x0) (by omega)
  obtain ⟨B, hB, B1, B2⟩ := made_enc 4000 (by omega) d0 (by omega)
  have hs := sane06' (N := 4000) (by omega)
  have hK := ck_range B
  generalize hc1 : u8 (ck B / 256) = c1 at hB
  generalize hc0 : u8 (ck B) = c0 at hB
  have hw : w2 c1 c0 = ck B := by rw [← hc1, ← hc0]; exact w2_u8 hK.1 (by omega)
  have hlen : (B ++ [c1, c0]).length = B.length + 2 := by simp
  obtain ⟨e1, e2, e3, p0, p1⟩ := mod_in x1 (B.length : Int) (by omega) (by omega)
  obtain ⟨f1, f2, f3, q0, q1⟩ := mod_in x2 (B.length : Int) (by omega) (by omega)
  obtain ⟨p, hp⟩ := Int.eq_ofNat_of_zero_le p0
  obtain ⟨q, hq⟩ := Int.eq_ofNat_of_zero_le q0
  have hpB : p < B.length := by omega
  have hqB : q < B.length := by omega
  have gp : (B ++ [c1, c0])[p]? = some B[p] := by rw [List.getElem?_append_left hpB]; exact at_lt hpB
  have gq : (B ++ [c1, c0])[q]? = some B[q] := by rw [List.getElem?_append_left hqB]; exact at_lt hqB
  generalize hu : B[p] = u at gp
  generalize hv : B[q] = v at gq
  have hub := u8_lt u
  have hvb := u8_lt v
  have hts : ∀ c : UInt8, toU8 (c.toNat : Int) = some c := fun c => by have := u8_lt c; rw [toU8_lit (by omega) (by omega), u8_toNat]
  have hx : ((B ++ [c1, c0]).set p v).set q u = (B.set p v).set q u ++ [c1, c0] := by
    rw [List.set_append_left _ _ hpB, List.set_append_left _ _ (by simpa using hqB)]
  have gq2 : ((B ++ [c1, c0]).set p v)[q]? = some v := by
    rw [List.getElem?_set]
    split
    · rw [if_pos (by omega)]
    · exact gq
  unfold l06_ConsistExchange gen_New
  rw [bind_some', show (6 : Int) = ((6 : Nat) : Int) from rfl, h0, bind_some', hB, bind_some']
  dsimp only
  rw [show l06_ConsistExchange_0 4000 (B ++ [c1, c0]) 0 = some false from by
    unfold l06_ConsistExchange_0
    rw [if_neg (by decide), decide_eq_false (by omega)], bind_some', if_neg (by decide), lt_def, hlen, show IntKind.wrap .i64 (((B.length + 2 : Nat) : Int) - 2) = (B.length : Int) from by rw [w64 (by omega) (by omega)]; omega,
    e1, bind_some', e2, e3, bind_some', hp, f1, bind_some', f2, f3, bind_some', hq, appI_ok (by simp; omega), bind_some', List.nil_append, getI_nat gq, bind_some', getI_nat gp, bind_some', bind_some', hts, bind_some', lt_def, Int.toNat_natCast, getI_nat gq2, bind_some', hts, bind_some', lt_def, Int.toNat_natCast, hx]
  have hxl : ((B.set p v).set q u ++ [c1, c0]).length = B.length + 2 := by simp
  have hxq : ((B.set p v).set q u ++ [c1, c0])[q]? = some u := by
    rw [List.getElem?_append_left (by simpa using hqB), List.getElem?_set_self (by simpa using hqB)]
  have hxp : ((B.set p v).set q u ++ [c1, c0])[p]? = some (if q = p then u else v) := by
    rw [List.getElem?_append_left (by simpa using hpB), List.getElem?_set]
    by_cases h : q = p
    · rw [if_pos h, if_pos h, if_pos (by simp; omega)]
    · rw [if_neg h, if_neg h, List.getElem?_set_self hpB]
  obtain ⟨g1, _⟩ := end_ok 4000 (by omega) (b := (B.set p v).set q u ++ [c1, c0]) (by omega)
  have h1 : ∃ c, l06_ConsistExchange_1 4000 p q ((B.set p v).set q u ++ [c1, c0]) = some c ∧ (c = false → q ≠ p ∧ v ≠ u ∧ endI ((B.set p v).set q u ++ [c1, c0]) = (((B.set p v).set q u ++ [c1, c0]).length : Int)) := by
    unfold l06_ConsistExchange_1
    rw [getI_nat hxp, bind_some', getI_nat hxq, bind_some', g1]
    by_cases h : q = p
    · rw [if_pos h, if_pos (by simp)]; exact ⟨_, rfl, fun h => by cases h⟩
    · rw [if_neg h]
      by_cases h2 : v = u
      · rw [if_pos (by simp [h2])]; exact ⟨_, rfl, fun h => by cases h⟩
      · rw [if_neg (by simpa using nat_ne h2), bind_some']
        refine ⟨_, rfl, fun h3 => ⟨h, h2, by simpa using h3⟩⟩
  obtain ⟨c, h1, h2⟩ := h1
  rw [h1, bind_some']
  cases c with
  | true => rw [if_pos rfl, hs]; rfl
  | false =>
    obtain ⟨n1, n2, n3⟩ := h2 rfl
    have n4 := nat_ne n2
    rw [if_neg (by decide), (dec_ok 4000 (by omega) (b := (B.set p v).set q u ++ [c1, c0]) (by omega)).1, bind_some']
    have hBp : B[p]? = some u := by rw [← hu]; exact at_lt hpB
    have hBq : (B.set p v)[q]? = some v := by
      rw [List.getElem?_set_ne (fun e => n1 e.symm), ← hv]; exact at_lt hqB
    have hws : ws ((B.set p v).set q u) 0 = ws B 0 + ((p : Int) - q) * ((v.toNat : Int) - u.toNat) := by
      rw [ws_set hBq, ws_set hBp]
      have e : ∀ a b d : Int, ((0 : Nat) + a + 1) * d + ((0 : Nat) + b + 1) * (-d) = (a - b) * d := fun a b d => by
        rw [Int.mul_neg, ← Int.sub_eq_add_neg, ← Int.sub_mul]; congr 1; omega
      have := e p q ((v.toNat : Int) - u.toNat)
      rw [show (u.toNat : Int) - v.toNat = -((v.toNat : Int) - u.toNat) by omega]
      omega
    have hd : dec ((B.set p v).set q u ++ [c1, c0]) = ([], 9) := by
      refine dec_chk n3 ?_
      rw [hw]
      by_cases hpq : q < p
      · obtain ⟨m1, m2, m3⟩ := mul_small (a := (p : Int) - q) (d := (v.toNat : Int) - u.toNat) (by omega) (by omega) (by omega) (by omega) (by omega)
        exact (ck_ne hws m1 m2 m3).symm
      · obtain ⟨m1, m2, m3⟩ := mul_small (a := (q : Int) - p) (d := (u.toNat : Int) - v.toNat) (by omega) (by omega) (by omega) (by omega) (by omega)
        have e : ((p : Int) - q) * ((v.toNat : Int) - u.toNat) = ((q : Int) - p) * ((u.toNat : Int) - v.toNat) := by
          rw [show (p : Int) - q = -((q : Int) - p) by omega, show (v.toNat : Int) - u.toNat = -((u.toNat : Int) - v.toNat) by omega, Int.neg_mul_neg]
        rw [e] at hws
        exact (ck_ne hws m1 m2 m3).symm
    rw [hd]
    unfold l06_ConsistExchange_2
    rw [if_pos (by decide), hs]; rfl
theorem exchT (x0 : List Int) (x1 x2 : Int) : ∃ N, l06_ConsistExchange N x0 x1 x2 = some true := ⟨4000, exch_law x0 x1 x2⟩
end Go.W
