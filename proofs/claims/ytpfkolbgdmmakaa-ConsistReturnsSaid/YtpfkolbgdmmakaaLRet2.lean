/- Consist: the law on what returns. -/
import Derived.Test.YtpfkolbgdmmakaaLRet
import Derived.Test.YtpfkolbgdmmakaaAmStart
set_option linter.unusedVariables false
set_option linter.unusedSimpArgs false
set_option maxRecDepth 100000
namespace Go.W
open Go.AM

theorem rck_loop (N : Nat) {l : List UInt8} (hl : l.length ≤ 140737488355328) : ∀ (k n i : Nat) (s : Int), k < n → i + k = l.length → 0 ≤ s → s < 65521 → ∃ v, r06_Check_0 N l n s i = some v ∧ 0 ≤ v ∧ v < 65521
  | k, 0, i, s, hn, _, _, _ => by omega
  | 0, n + 1, i, s, hn, hi, h0, h1 => by
    rw [r06_Check_0, if_neg (dneg (by omega))]
    exact ⟨s, rfl, h0, h1⟩
  | k + 1, n + 1, i, s, hn, hi, h0, h1 => by
    have hlt : i < l.length := by omega
    have hc := u8_lt l[i]
    have hq : 0 ≤ ((i : Int) + 1) % 65521 ∧ ((i : Int) + 1) % 65521 < 65521 := by omega
    have hm : 0 ≤ ((i : Int) + 1) % 65521 * l[i].toNat ∧ ((i : Int) + 1) % 65521 * l[i].toNat ≤ 65521 * 255 := ⟨Int.mul_nonneg (by omega) (by omega), Int.mul_le_mul (by omega) (by omega) (by omega) (by omega)⟩
    have e : Int.tmod (IntKind.wrap .i64 (s + IntKind.wrap .i64 (Int.tmod (IntKind.wrap .i64 ((i : Int) + 1)) 65521 * IntKind.wrap .i64 (l[i].toNat : Int)))) 65521 = (s + ((i : Int) + 1) % 65521 * l[i].toNat) % 65521 := by
      rw [w64 (n := (i : Int) + 1) (by omega) (by omega), w64u, Int.tmod_eq_emod_of_nonneg (a := (i : Int) + 1) (b := 65521) (by omega), w64 (n := ((i : Int) + 1) % 65521 * l[i].toNat) (by omega) (by omega), w64 (by omega) (by omega), Int.tmod_eq_emod_of_nonneg (by omega)]
    rw [r06_Check_0, if_pos (dpos (by omega)), getI_nat (at_lt hlt), bind_some', lt_def, lt_def, e, w64s (by omega)]
    exact rck_loop N hl k n (i + 1) _ (by omega) (by omega) (by omega) (by omega)
theorem rck_ok (N : Nat) {l : List UInt8} (hl : l.length ≤ 140737488355328) (hN : l.length < N) : ∃ v, r06_Check N l = some v ∧ 0 ≤ v ∧ v < 65521 := by
  obtain ⟨v, h1, h2⟩ := rck_loop N hl l.length N 0 0 (by omega) (by omega) (by omega) (by omega)
  simp only [Int.natCast_zero] at h1
  unfold r06_Check
  rw [h1]
  exact ⟨v, rfl, h2⟩
theorem fixed_any (N : Nat) {b : List UInt8} (hb : b.length ≤ 140737488355328) (hN : b.length < N) : ∃ c, l06_fixed N b = some c ∧ c.length = b.length := by
  unfold l06_fixed
  by_cases h : b.length < 2
  · rw [if_pos (dpos (by omega))]; exact ⟨_, rfl, rfl⟩
  · have hw : IntKind.wrap .i64 ((b.length : Int) - 2) = ((b.length - 2 : Nat) : Int) := by rw [w64 (by omega) (by omega)]; omega
    have htl : (b.take (b.length - 2)).length = b.length - 2 := by rw [List.length_take]; omega
    obtain ⟨v, c2, _⟩ := rck_ok N (l := b.take (b.length - 2)) (by omega) (by omega)
    have a1 : appB ([] : List UInt8) (b.take (b.length - 2)) = some (b.take (b.length - 2)) := by
      unfold appB; rw [if_pos (by rw [htl]; simp; omega), List.nil_append]
    have a2 : ∀ x y : UInt8, appB (b.take (b.length - 2)) [x, y] = some (b.take (b.length - 2) ++ [x, y]) := fun x y => by
      unfold appB; rw [if_pos (by rw [htl]; simp; omega)]
    rw [if_neg (dneg (by omega)), lt_def, hw, cutI_take (by omega), bind_some', c2, bind_some', bind_some', a1, bind_some', toU8_w, bind_some', toU8_w, bind_some', a2, bind_some']
    refine ⟨_, rfl, ?_⟩
    rw [List.length_append, htl]
    simp only [List.length_cons, List.length_nil]
    omega

theorem ret2_ok (N : Nat) (hN : 3000 ≤ N) {L : List (List UInt8)} {i : Nat} {x : List UInt8} (hx : L[i]? = some x) : l06_ConsistReturns_2 N L i = some (.inl ()) := by
  unfold l06_ConsistReturns_2
  rw [getI_nat hx, bind_some']
  by_cases h : 300 < x.length
  · rw [if_pos (dpos (by omega))]
  · rw [if_neg (dneg (by omega)), (dec_ok N hN (b := x) (by omega)).1, bind_some']
    by_cases he : (dec x).2 = 0
    · have hd := enc_dec he
      have hz : listErr (dec x).1 = 0 := by
        by_cases hz : listErr (dec x).1 = 0
        · exact hz
        · unfold enc at hd
          rw [if_pos hz] at hd
          simp only [Prod.mk.injEq] at hd
          exact hd.2
      have hF : ∀ w ∈ (dec x).1, Fu N w := fun w hw => wagErr_fu ((listErr_zero.1 hz).2.1 w hw) (by omega)
      rw [if_neg (by simp [he]), (enc_ok N hN (fun _ => hF)).1, bind_some', hd]
      unfold l06_ConsistReturns_3
      dsimp only
      rw [if_neg (by decide), gb_ok N (by omega) (by omega)]
      rfl
    · rw [if_pos (by simpa using he)]

theorem returns_law (N : Nat) (hN : 3000 ≤ N) (x0 : List Int) (b : List UInt8) (hb : b.length ≤ 140737488355328) (hbN : b.length < N) : l06_ConsistReturns N x0 b = some true := by
  obtain ⟨l, s0, h0, m0, l0, d0⟩ := wagons_ok N (by omega) 10 (by omega) (mk0 x0) (by omega)
  have hs := sane06' (N := N) (by omega)
  have he := d0.err (by omega)
  have hF : ∀ w ∈ l, Fu N w := fun w hw => wagErr_fu (d0.ok w hw) (by omega)
  have hbl := body_len he
  have hel : (enc l).1.length ≤ 2900 := by
    unfold enc
    rw [if_neg (by simp [he])]
    simp only [List.length_append, List.length_cons, List.length_nil]
    omega
  have he2 : (enc l).2 = 0 := by
    unfold enc
    rw [if_neg (by simp [he])]
  obtain ⟨c, hc, hcl⟩ := fixed_any N hb hbN
  unfold l06_ConsistReturns gen_New
  rw [bind_some', show (10 : Int) = ((10 : Nat) : Int) from rfl, h0, bind_some', (enc_ok N hN (fun _ => hF)).1, bind_some', (dec_ok N hN hel).1, bind_some', dec_enc he, he2]
  dsimp only
  rw [show l06_ConsistReturns_0 N l 0 l 0 = some false from by
    unfold l06_ConsistReturns_0
    rw [if_neg (by decide), if_neg (by decide), gw_ok N (by omega) (by omega)]; rfl, bind_some', if_neg (by decide), hc, bind_some']
  obtain ⟨n, rfl⟩ : ∃ n, N = n + 3 := ⟨N - 3, by omega⟩
  have hloop : l06_ConsistReturns_1 (n + 3) ([b, c] : List (List UInt8)) (([b, c] : List (List UInt8)).length : Int) (n + 3) 0 = some (.inl ()) := by
    have r0 := ret2_ok (n + 3) hN (L := [b, c]) (i := 0) (x := b) rfl
    have r1 := ret2_ok (n + 3) hN (L := [b, c]) (i := 1) (x := c) rfl
    simp only [Int.natCast_zero, Int.natCast_one] at r0 r1
    rw [show ((([b, c] : List (List UInt8)).length : Int)) = 2 from rfl, l06_ConsistReturns_1, if_pos (by decide), r0, bind_some']
    dsimp only
    rw [show IntKind.wrap .i64 ((0 : Int) + 1) = 1 from by decide, l06_ConsistReturns_1, if_pos (by decide), r1, bind_some']
    dsimp only
    rw [show IntKind.wrap .i64 ((1 : Int) + 1) = 2 from by decide, l06_ConsistReturns_1, if_neg (by decide)]
  rw [hloop, bind_some']
  dsimp only
  rw [hs]; rfl
theorem returnsT (x0 : List Int) (b : List UInt8) (h : b.length ≤ 140737488351232) : ∃ N, l06_ConsistReturns N x0 b = some true := ⟨140737488355328 + 4000, returns_law _ (by omega) x0 b (by omega) (by omega)⟩
end Go.W
