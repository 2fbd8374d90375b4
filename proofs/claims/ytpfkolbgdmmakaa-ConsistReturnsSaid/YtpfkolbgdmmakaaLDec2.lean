/- Consist: reading, the program and the reference. -/
import Derived.Test.YtpfkolbgdmmakaaLDec
set_option linter.unusedVariables false
set_option linter.unusedSimpArgs false
set_option maxRecDepth 100000
namespace Go.W
open Go.AM

theorem and15 : ∀ c : Fin 256, bitsV .and .i64 (c.val : Int) 15 = (c.val : Int) % 16 := by decide +kernel
theorem and15' (c : UInt8) : bitsV .and .i64 (c.toNat : Int) 15 = (c.toNat : Int) % 16 := and15 ⟨c.toNat, c.toNat_lt⟩
theorem or_w2 (a b : UInt8) : bitsV .or .i64 (IntKind.wrap .i64 ((a.toNat : Int) * 256)) (b.toNat : Int) = w2 a b := by
  have ha := a.toNat_lt
  have hb := b.toNat_lt
  rw [w64 (n := (a.toNat : Int) * 256) (by omega) (by omega)]
  unfold bitsV w2
  simp only [BitVec.toNat_or, BitVec.toNat_ofInt]
  have h1 : ((((a.toNat : Int) * 256) % ((2 ^ (IntKind.i64.bits) : Nat) : Int)).toNat) = 2 ^ 8 * a.toNat := by
    rw [show ((2 ^ (IntKind.i64.bits) : Nat) : Int) = 18446744073709551616 from by decide, Int.emod_eq_of_lt (by omega) (by omega)]; omega
  have h2 : (((b.toNat : Int) % ((2 ^ (IntKind.i64.bits) : Nat) : Int)).toNat) = b.toNat := by
    rw [show ((2 ^ (IntKind.i64.bits) : Nat) : Int) = 18446744073709551616 from by decide, Int.emod_eq_of_lt (by omega) (by omega)]; omega
  rw [h1, h2, ← Nat.two_pow_add_eq_or_of_lt (by omega : b.toNat < 2 ^ 8), w64 (by omega) (by omega)]
  omega

variable {b : List UInt8}
theorem drop1 {at_ : Nat} {a : UInt8} {c : List UInt8} (h : b.drop at_ = a :: c) : b[at_]? = some a ∧ b.drop (at_ + 1) = c ∧ at_ + 1 + c.length = b.length := by
  have hl : (b.drop at_).length = c.length + 1 := by rw [h]; rfl
  rw [List.length_drop] at hl
  refine ⟨?_, ?_, by omega⟩
  · have : (b.drop at_)[0]? = some a := by rw [h]; rfl
    rw [List.getElem?_drop] at this; exact this
  · rw [← List.drop_drop, h]; rfl

theorem one_ok (N : Nat) (hb : b.length ≤ 60000) {at_ : Nat} {a : UInt8} {c : List UInt8} (h : b.drop at_ = a :: c) : reader_one N (Reader.mk b at_) = some ((a.toNat : Int), Reader.mk b ((at_ + 1 : Nat) : Int)) := by
  obtain ⟨h1, _, h3⟩ := drop1 h
  unfold reader_one
  dsimp only
  rw [w64s (by omega), show ((at_ + 1 : Nat) : Int) - 1 = (at_ : Int) by omega, w64 (n := (at_ : Int)) (by omega) (by omega), getI_nat h1, bind_some', w64u, lt_def]
theorem rtwo_ok (N : Nat) (hb : b.length ≤ 60000) {at_ : Nat} {a d : UInt8} {c : List UInt8} (h : b.drop at_ = a :: d :: c) : reader_two N (Reader.mk b at_) = some (w2 a d, Reader.mk b ((at_ + 2 : Nat) : Int)) := by
  obtain ⟨_, h2, _⟩ := drop1 h
  unfold reader_two
  rw [one_ok N hb h, bind_some', one_ok N hb h2, bind_some', lt_def, or_w2]

theorem dig_loop (N : Nat) (hb : b.length ≤ 60000) : ∀ (l rest : List UInt8) (n at_ : Nat) (out : List UInt8) (ok : Bool) (x : Int), l.length < n → b.drop at_ = l ++ rest → x + 2 * l.length = 12 → out.length + 2 * l.length ≤ 100 →
    reader_wagon_0 N n (Reader.mk b at_) out ok x = some (Reader.mk b ((at_ + l.length : Nat) : Int), out ++ un l, ok && l.all okb)
  | l, rest, 0, at_, out, ok, x, hn, _, _, _ => by omega
  | [], rest, n + 1, at_, out, ok, x, hn, hd, hx, ho => by
    rw [reader_wagon_0, if_neg (dneg (by simp at hx; omega))]
    simp [un]
  | c :: l, rest, n + 1, at_, out, ok, x, hn, hd, hx, ho => by
    simp only [List.length_cons] at hn hx ho
    rw [List.cons_append] at hd
    obtain ⟨_, h2, _⟩ := drop1 hd
    have hc := u8_lt c
    have hk : reader_wagon_1 N ok (c.toNat : Int) = some (ok && okb c) := by
      unfold reader_wagon_1 okb
      rw [and15', Int.fdiv_eq_ediv_of_nonneg _ (by omega), lt_def]
      cases ok with
      | false => rfl
      | true =>
        rw [if_pos rfl]
        by_cases h : (c.toNat : Int) / 16 ≤ 9
        · rw [if_pos (lpos h), decide_eq_true h]; rfl
        · rw [if_neg (lneg h), decide_eq_false h]; rfl
    have ih := dig_loop N hb l rest n (at_ + 1) (out ++ [u8 (48 + (c.toNat : Int) / 16), u8 (48 + (c.toNat : Int) % 16)]) (ok && okb c) (x + 2) (by omega) h2 (by omega) (by simp; omega)
    rw [reader_wagon_0, if_pos (dpos (by omega)), one_ok N hb hd, bind_some']
    dsimp only
    rw [hk, bind_some', and15', Int.fdiv_eq_ediv_of_nonneg _ (by omega), w64 (n := 48 + (c.toNat : Int) / 16) (by omega) (by omega), w64 (n := 48 + (c.toNat : Int) % 16) (by omega) (by omega), toU8_w, bind_some', toU8_w, bind_some', appI_ok (by simp; omega), bind_some', lt_def, w64 (n := x + 2) (by omega) (by omega), ih]
    simp only [un, List.flatMap_cons, List.append_assoc, List.cons_append, List.nil_append, List.all_cons, Bool.and_assoc, List.length_cons]
    rw [show at_ + 1 + l.length = at_ + (l.length + 1) by omega]

theorem okg_p (N : Nat) (w : Wagon) (ok : Bool) (g : UInt8) (h : w.goods = (g.toNat : Int) % 16) : reader_wagon_2 N w ok (g.toNat : Int) = some (ok && okg g) := by
  unfold reader_wagon_2 okg
  rw [h, lt_def]
  cases ok with
  | false => rfl
  | true =>
    rw [if_pos rfl]
    by_cases h : (g.toNat : Int) ≤ 25
    · rw [if_pos (lpos h), decide_eq_true h]; rfl
    · rw [if_neg (lneg h), decide_eq_false h]; rfl

theorem cut_mid {α : Type} {xs : List α} {i d : Nat} (h : i + d ≤ xs.length) : cutI xs (i : Int) ((i + d : Nat) : Int) = some ((xs.drop i).take d) := by
  unfold cutI
  rw [if_pos (by omega), Int.toNat_natCast, Int.toNat_natCast, List.drop_take, show i + d - i = d by omega]

theorem wag_rd (N : Nat) (hN : 100 ≤ N) (hb : b.length ≤ 60000) {at_ : Nat} {w : Wagon} {ok : Bool} {c : List UInt8} (h : p1 (b.drop at_) = some (w, ok, c)) :
    ∃ at' : Nat, reader_wagon N (Reader.mk b at_) = some (w, ok, Reader.mk b at') ∧ b.drop at' = c ∧ at' ≤ b.length := by
  obtain ⟨a0, a1, a2, a3, a4, a5, l1, l0, ax, m1, m0, b1, b0, g, d, t, hc, hdt, hx⟩ := p1_some h
  injection hx with hw hx
  injection hx with hok hx
  subst hw; subst hok; subst hx
  have d6 : b.drop (at_ + 6) = l1 :: l0 :: ax :: m1 :: m0 :: b1 :: b0 :: g :: d :: t := by rw [← List.drop_drop, hc]; rfl
  have d8 : b.drop (at_ + 8) = ax :: m1 :: m0 :: b1 :: b0 :: g :: d :: t := by rw [← List.drop_drop, hc]; rfl
  have d9 : b.drop (at_ + 9) = m1 :: m0 :: b1 :: b0 :: g :: d :: t := by rw [← List.drop_drop, hc]; rfl
  have d11 : b.drop (at_ + 11) = b1 :: b0 :: g :: d :: t := by rw [← List.drop_drop, hc]; rfl
  have d13 : b.drop (at_ + 13) = g :: d :: t := by rw [← List.drop_drop, hc]; rfl
  have d14 : b.drop (at_ + 14) = d :: t := by rw [← List.drop_drop, hc]; rfl
  have d15 : b.drop (at_ + 15) = t := by rw [← List.drop_drop, hc]; rfl
  have hlen : at_ + 15 + t.length = b.length := by
    have := (drop1 d14).2.2; omega
  have hdu := u8_lt d
  have hgu := u8_lt g
  have h0 := dig_loop N hb [a0, a1, a2, a3, a4, a5] (l1 :: l0 :: ax :: m1 :: m0 :: b1 :: b0 :: g :: d :: t) N at_ [] true 0 (by simp; omega) hc (by simp) (by simp)
  unfold reader_wagon
  rw [h0, bind_some']
  dsimp only
  rw [show (at_ + [a0, a1, a2, a3, a4, a5].length : Nat) = at_ + 6 from rfl, rtwo_ok N hb d6, bind_some']
  dsimp only
  rw [show at_ + 6 + 2 = at_ + 8 from rfl, one_ok N hb d8, bind_some']
  dsimp only
  rw [show at_ + 8 + 1 = at_ + 9 from rfl, rtwo_ok N hb d9, bind_some']
  dsimp only
  rw [show at_ + 9 + 2 = at_ + 11 from rfl, rtwo_ok N hb d11, bind_some']
  dsimp only
  rw [show at_ + 11 + 2 = at_ + 13 from rfl, one_ok N hb d13, bind_some']
  dsimp only
  rw [Int.tmod_eq_emod_of_nonneg (by omega), okg_p N _ _ g rfl, bind_some', show at_ + 13 + 1 = at_ + 14 from rfl, one_ok N hb d14, bind_some']
  dsimp only
  rw [show at_ + 14 + 1 = at_ + 15 from rfl, w64 (n := ((at_ + 15 : Nat) : Int) + d.toNat) (by omega) (by omega), show ((at_ + 15 : Nat) : Int) + d.toNat = ((at_ + 15 + d.toNat : Nat) : Int) by omega, cut_mid (by omega), bind_some', d15]
  refine ⟨at_ + 15 + d.toNat, ?_, ?_, by omega⟩
  · simp only [List.nil_append, Bool.true_and]
  · rw [← List.drop_drop, d15]

/-! ### The lists of wagons -/
theorem pdec_loop (N : Nat) (hN : 100 ≤ N) (hb : b.length ≤ 60000) {k0 : UInt8} (h0 : b[0]? = some k0) : ∀ (k n i at_ : Nat) (out : List Wagon) (form : Bool) (r : List (Wagon × Bool)) (e : List UInt8), k < n → i + k = k0.toNat → out.length ≤ i → pN k (b.drop at_) = some (r, e) →
    consist_Decode_0 N b n (Reader.mk b at_) out form i = some (out ++ r.map (·.1), form && r.all (·.2))
  | k, 0, i, at_, out, form, r, e, hn, _, _, _ => by omega
  | 0, n + 1, i, at_, out, form, r, e, hn, hi, ho, hp => by
    simp only [pN, Option.some.injEq, Prod.mk.injEq] at hp
    obtain ⟨rfl, _⟩ := hp
    have hk := u8_lt k0
    rw [consist_Decode_0, show getI b (0 : Int) = some k0 from getI_nat (i := 0) h0, bind_some', w64u, if_neg (dneg (by omega))]
    simp
  | k + 1, n + 1, i, at_, out, form, r, e, hn, hi, ho, hp => by
    have hk := u8_lt k0
    simp only [pN] at hp
    split at hp
    · cases hp
    · rename_i w ok c' h1
      split at hp
      · cases hp
      · rename_i r' e' h2
        injection hp with hp
        injection hp with h3 h4
        subst h3
        obtain ⟨at', g1, g2, g3⟩ := wag_rd N hN hb h1
        rw [← g2] at h2
        have ih := pdec_loop N hN hb h0 k n (i + 1) at' (out ++ [w]) (form && ok) r' e' (by omega) (by omega) (by simp; omega) h2
        have hf : consist_Decode_1 N form ok = some (form && ok) := by unfold consist_Decode_1; cases form <;> rfl
        rw [consist_Decode_0, show getI b (0 : Int) = some k0 from getI_nat (i := 0) h0, bind_some', w64u, if_pos (dpos (by omega)), g1, bind_some']
        dsimp only
        rw [hf, bind_some', appI_ok (by simp; omega), bind_some', lt_def, w64s (by omega), ih]
        simp only [List.append_assoc, List.singleton_append, List.map_cons, List.all_cons, Bool.and_assoc]

theorem rdig_loop2 (N : Nat) {c : List UInt8} : ∀ (l rest : List UInt8) (n i : Nat) (out : List UInt8), l.length < n → c.drop i = l ++ rest → i + l.length = 6 → out.length + 2 * l.length ≤ 100 →
    r06_Decode_1 N c n out i = some (if l.all okb = true then .inl (out ++ un l) else .inr 11)
  | l, rest, 0, i, out, hn, _, _, _ => by omega
  | [], rest, n + 1, i, out, hn, hd, hx, ho => by
    rw [r06_Decode_1, if_neg (dneg (by simp at hx; omega))]
    simp [un]
  | a :: l, rest, n + 1, i, out, hn, hd, hx, ho => by
    simp only [List.length_cons] at hn hx ho
    rw [List.cons_append] at hd
    obtain ⟨h1, h2, _⟩ := drop1 hd
    have hc := u8_lt a
    have hk : r06_Decode_2 N c i = some (!okb a) := by
      unfold r06_Decode_2 okb
      rw [getI_nat h1, bind_some', bind_some', Int.tdiv_eq_ediv_of_nonneg (by omega), Int.tmod_eq_emod_of_nonneg (by omega), w8 (by omega) (by omega)]
      by_cases h : (a.toNat : Int) / 16 ≤ 9
      · rw [if_neg (dneg (by omega)), decide_eq_true h, Bool.true_and]
        congr 1
        by_cases h' : (a.toNat : Int) % 16 ≤ 9
        · rw [decide_eq_true h', decide_eq_false (by omega)]; rfl
        · rw [decide_eq_false h', decide_eq_true (by omega)]; rfl
      · rw [if_pos (dpos (by omega)), decide_eq_false h]; rfl
    rw [r06_Decode_1, if_pos (dpos (by omega)), hk, bind_some']
    by_cases ha : okb a = true
    · have ih := rdig_loop2 N l rest n (i + 1) (out ++ [u8 (48 + (a.toNat : Int) / 16), u8 (48 + (a.toNat : Int) % 16)]) (by omega) h2 (by omega) (by simp; omega)
      rw [ha, if_neg (by decide), getI_nat h1, bind_some', bind_some', Int.tdiv_eq_ediv_of_nonneg (by omega), Int.tmod_eq_emod_of_nonneg (by omega), w8 (n := (a.toNat : Int) / 16) (by omega) (by omega), toU8_w, bind_some', toU8_w, bind_some', appI_ok (by simp; omega), bind_some', lt_def, w64s (by omega), ih]
      simp only [List.all_cons, ha, Bool.true_and, un, List.flatMap_cons, List.append_assoc, List.cons_append, List.nil_append]
    · simp only [Bool.not_eq_true] at ha
      rw [ha, if_pos (by decide)]
      simp only [List.all_cons, ha, Bool.false_and, Bool.false_eq_true, if_false]

theorem okg_r (N : Nat) {c : List UInt8} {g : UInt8} (h : c[13]? = some g) : r06_Decode_3 N c = some (!okg g) := by
  have hg : getI c (13 : Int) = some g := getI_nat (i := 13) h
  have hu := u8_lt g
  unfold r06_Decode_3 okg
  rw [hg]
  simp only [bind_some']
  by_cases h1 : (25 : Int) < g.toNat
  · rw [if_pos (dpos h1), decide_eq_false (show ¬ (g.toNat : Int) ≤ 25 by omega)]; rfl
  · rw [if_neg (dneg h1), decide_eq_true (show (g.toNat : Int) ≤ 25 by omega), Bool.true_and]
    by_cases h2 : (10 : Int) ≤ g.toNat
    · rw [if_pos (lpos h2)]
      congr 1
      by_cases h3 : (g.toNat : Int) ≤ 15
      · rw [decide_eq_true h3, decide_eq_false (by omega)]; rfl
      · rw [decide_eq_false h3, decide_eq_true (by omega)]; rfl
    · rw [if_neg (lneg h2), decide_eq_true (by omega)]; rfl

theorem w2_range (a c : UInt8) : 0 ≤ w2 a c ∧ w2 a c < 65536 := by
  have := u8_lt a; have := u8_lt c; unfold w2; omega
theorem r2_ok (N : Nat) {a c : UInt8} {t : List UInt8} : r06_two N (a :: c :: t) = some (w2 a c) := by
  have := u8_lt a; have := u8_lt c
  unfold r06_two w2
  rw [show getI (a :: c :: t) (0 : Int) = some a from getI_nat (i := 0) rfl, show getI (a :: c :: t) (1 : Int) = some c from getI_nat (i := 1) rfl, bind_some', bind_some', w64u, w64u, w64 (n := (a.toNat : Int) * 256) (by omega) (by omega), w64 (by omega) (by omega), lt_def]

theorem rdec_loop (N : Nat) (hN : 100 ≤ N) (hb : b.length ≤ 60000) {k0 : UInt8} (h0 : b[0]? = some k0) : ∀ (k n i at_ : Nat) (out : List Wagon) (r : List (Wagon × Bool)) (e : List UInt8), k < n → i + k = k0.toNat → out.length ≤ i → at_ ≤ b.length → pN k (b.drop at_) = some (r, e) →
    r06_Decode_0 N b n out at_ i = some (if r.all (·.2) = true then .inl (out ++ r.map (·.1)) else .inr 11)
  | k, 0, i, at_, out, r, e, hn, _, _, _, _ => by omega
  | 0, n + 1, i, at_, out, r, e, hn, hi, ho, ha, hp => by
    simp only [pN, Option.some.injEq, Prod.mk.injEq] at hp
    obtain ⟨rfl, _⟩ := hp
    have hk := u8_lt k0
    rw [r06_Decode_0, show getI b (0 : Int) = some k0 from getI_nat (i := 0) h0, bind_some', w64u, if_neg (dneg (by omega))]
    simp
  | k + 1, n + 1, i, at_, out, r, e, hn, hi, ho, ha, hp => by
    have hk := u8_lt k0
    simp only [pN] at hp
    split at hp
    · cases hp
    · rename_i w ok c' h1
      split at hp
      · cases hp
      · rename_i r' e' h2
        injection hp with hp
        injection hp with h3 h4
        subst h3
        obtain ⟨at', _, g2, g3⟩ := wag_rd N hN hb h1
        obtain ⟨a0, a1, a2, a3, a4, a5, l1, l0, ax, m1, m0, b1, b0, g, d, t, hc, hdt, hx⟩ := p1_some h1
        injection hx with hw hx
        injection hx with hok hx
        have hlen : at_ + 15 + t.length = b.length := by
          have : (b.drop at_).length = t.length + 15 := by rw [hc]; rfl
          rw [List.length_drop] at this; omega
        have hdu := u8_lt d
        have hgu := u8_lt g
        have d15 : b.drop (at_ + 15) = t := by rw [← List.drop_drop, hc]; rfl
        have hat : at' = at_ + 15 + d.toNat := by
          have h5 : (b.drop at').length = (t.drop d.toNat).length := by rw [g2, hx]
          simp only [List.length_drop] at h5
          omega
        rw [← g2] at h2
        rw [r06_Decode_0, show getI b (0 : Int) = some k0 from getI_nat (i := 0) h0, bind_some', w64u, if_pos (dpos (by omega)), cutI_drop ha, bind_some', hc]
        have q1 := rdig_loop2 N (c := a0 :: a1 :: a2 :: a3 :: a4 :: a5 :: l1 :: l0 :: ax :: m1 :: m0 :: b1 :: b0 :: g :: d :: t) [a0, a1, a2, a3, a4, a5] (l1 :: l0 :: ax :: m1 :: m0 :: b1 :: b0 :: g :: d :: t) N 0 [] (by simp; omega) rfl rfl (by simp)
        simp only [Int.natCast_zero, List.nil_append] at q1
        rw [q1, bind_some', show ((w, ok) :: r').all (·.2) = (ok && r'.all (·.2)) from rfl]
        by_cases hA : [a0, a1, a2, a3, a4, a5].all okb = true
        · rw [if_pos hA]
          dsimp only
          rw [okg_r N (g := g) rfl, bind_some']
          by_cases hG : okg g = true
          · have hokt : ok = true := by rw [hok, hA, hG]; rfl
            have e6 : cutI (a0 :: a1 :: a2 :: a3 :: a4 :: a5 :: l1 :: l0 :: ax :: m1 :: m0 :: b1 :: b0 :: g :: d :: t) (6 : Int) ((a0 :: a1 :: a2 :: a3 :: a4 :: a5 :: l1 :: l0 :: ax :: m1 :: m0 :: b1 :: b0 :: g :: d :: t).length : Int) = some (l1 :: l0 :: ax :: m1 :: m0 :: b1 :: b0 :: g :: d :: t) := cutI_drop (i := 6) (by simp)
            have e9 : cutI (a0 :: a1 :: a2 :: a3 :: a4 :: a5 :: l1 :: l0 :: ax :: m1 :: m0 :: b1 :: b0 :: g :: d :: t) (9 : Int) ((a0 :: a1 :: a2 :: a3 :: a4 :: a5 :: l1 :: l0 :: ax :: m1 :: m0 :: b1 :: b0 :: g :: d :: t).length : Int) = some (m1 :: m0 :: b1 :: b0 :: g :: d :: t) := cutI_drop (i := 9) (by simp)
            have e11 : cutI (a0 :: a1 :: a2 :: a3 :: a4 :: a5 :: l1 :: l0 :: ax :: m1 :: m0 :: b1 :: b0 :: g :: d :: t) (11 : Int) ((a0 :: a1 :: a2 :: a3 :: a4 :: a5 :: l1 :: l0 :: ax :: m1 :: m0 :: b1 :: b0 :: g :: d :: t).length : Int) = some (b1 :: b0 :: g :: d :: t) := cutI_drop (i := 11) (by simp)
            have e15 : cutI (a0 :: a1 :: a2 :: a3 :: a4 :: a5 :: l1 :: l0 :: ax :: m1 :: m0 :: b1 :: b0 :: g :: d :: t) (15 : Int) ((15 + d.toNat : Nat) : Int) = some (t.take d.toNat) := cut_mid (i := 15) (by simp; omega)
            have ih := rdec_loop N hN hb h0 k n (i + 1) at' (out ++ [w]) r' e' (by omega) (by omega) (by simp; omega) g3 h2
            rw [hG, if_neg (by decide), show getI _ (14 : Int) = some d from getI_nat (i := 14) rfl, bind_some', w64u, lt_def, e6, bind_some', r2_ok, bind_some', show getI _ (8 : Int) = some ax from getI_nat (i := 8) rfl, bind_some', e9, bind_some', r2_ok, bind_some', e11, bind_some', r2_ok, bind_some',
              show getI _ (13 : Int) = some g from getI_nat (i := 13) rfl, bind_some', bind_some', w64 (n := 15 + (d.toNat : Int)) (by omega) (by omega), show 15 + (d.toNat : Int) = ((15 + d.toNat : Nat) : Int) by omega, e15, bind_some', Int.tmod_eq_emod_of_nonneg (by omega), w64u, w64 (n := (g.toNat : Int) % 16) (by omega) (by omega), ← hw, appI_ok (by simp; omega), bind_some', lt_def, lt_def, w64 (n := (at_ : Int) + ((15 + d.toNat : Nat) : Int)) (by omega) (by omega), show (at_ : Int) + ((15 + d.toNat : Nat) : Int) = (at' : Int) by omega, w64s (by omega), ih, hokt]
            simp only [List.append_assoc, List.singleton_append, List.map_cons, Bool.true_and]
          · simp only [Bool.not_eq_true] at hG
            have hokt : ok = false := by rw [hok, hG, Bool.and_false]
            rw [hG, if_pos (by decide), hokt]
            simp only [Bool.false_and, Bool.false_eq_true, if_false]
        · rw [if_neg hA]
          dsimp only
          simp only [Bool.not_eq_true] at hA
          have hokt : ok = false := by rw [hok, hA, Bool.false_and]
          rw [hokt]
          simp only [Bool.false_and, Bool.false_eq_true, if_false]
end Go.W
