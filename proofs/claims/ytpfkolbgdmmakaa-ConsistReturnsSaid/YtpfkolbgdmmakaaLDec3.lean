/- Consist: what 'Decode' answers; lists and bytes that are equal. -/
import Derived.Test.YtpfkolbgdmmakaaLDec2
set_option linter.unusedVariables false
set_option linter.unusedSimpArgs false
set_option maxRecDepth 100000
namespace Go.W
open Go.AM

def decE (b : List UInt8) : Option (List (Wagon × Bool) × List UInt8) → List Wagon × Int
  | some (r, [c1, c0]) => if w2 c1 c0 ≠ ck (b.take (b.length - 2)) then ([], 9) else if r.all (·.2) = false then ([], 11) else if listErr (r.map (·.1)) ≠ 0 then ([], listErr (r.map (·.1))) else (r.map (·.1), 0)
  | some (_, _ :: _ :: _ :: _) => ([], 11)
  | _ => ([], 10)
def dec : List UInt8 → List Wagon × Int
  | [] => ([], 10)
  | k :: t => decE (k :: t) (pN k.toNat t)

theorem pN_fu {N : Nat} (hN : 1000 ≤ N) : ∀ {k : Nat} {c e : List UInt8} {r : List (Wagon × Bool)}, pN k c = some (r, e) → ∀ w ∈ r.map (·.1), Fu N w
  | 0, c, e, r, h, w, hw => by
    simp only [pN, Option.some.injEq, Prod.mk.injEq] at h
    obtain ⟨rfl, _⟩ := h
    simp at hw
  | k + 1, c, e, r, h, w, hw => by
    simp only [pN] at h
    split at h
    · cases h
    · rename_i w' ok c' h1
      split at h
      · cases h
      · rename_i r' e' h2
        injection h with h
        injection h with h3 h4
        subst h3
        simp only [List.map_cons, List.mem_cons] at hw
        rcases hw with rfl | hw
        · obtain ⟨a0, a1, a2, a3, a4, a5, l1, l0, ax, m1, m0, b1, b0, g, d, t, hc, hdt, hx⟩ := p1_some h1
          injection hx with hw hx
          subst hw
          have hd := d.toNat_lt
          refine ⟨⟨?_, ?_⟩, ?_, ?_⟩ <;> simp [un] <;> omega
        · exact pN_fu hN h2 w hw

theorem pN_tail : ∀ {k : Nat} {c e : List UInt8} {r : List (Wagon × Bool)}, pN k c = some (r, e) → ∃ p, c = p ++ e
  | 0, c, e, r, h => by
    simp only [pN, Option.some.injEq, Prod.mk.injEq] at h
    obtain ⟨_, rfl⟩ := h
    exact ⟨[], rfl⟩
  | k + 1, c, e, r, h => by
    simp only [pN] at h
    split at h
    · cases h
    · rename_i w' ok c' h1
      split at h
      · cases h
      · rename_i r' e' h2
        injection h with h
        injection h with h3 h4
        subst h4
        obtain ⟨a0, a1, a2, a3, a4, a5, l1, l0, ax, m1, m0, b1, b0, g, d, t, hc, hdt, hx⟩ := p1_some h1
        injection hx with _ hx
        injection hx with _ hx
        obtain ⟨p, hp⟩ := pN_tail h2
        refine ⟨a0 :: a1 :: a2 :: a3 :: a4 :: a5 :: l1 :: l0 :: ax :: m1 :: m0 :: b1 :: b0 :: g :: d :: (t.take d.toNat ++ p), ?_⟩
        rw [hc]
        simp only [List.cons_append, List.append_assoc, ← hp, hx, List.take_append_drop]

theorem dec_ok (N : Nat) (hN : 3000 ≤ N) {b : List UInt8} (hb : b.length ≤ 2900) : consist_Decode N b = some (dec b) ∧ r06_Decode N b = some (dec b) := by
  obtain ⟨e1, n, ok, e2, e3, e4⟩ := end_ok N (by omega) (b := b) (by omega)
  unfold consist_Decode r06_Decode
  rw [e1, e2, bind_some', bind_some', lt_def, lt_def, lt_def, lt_def]
  cases b with
  | nil =>
    have : ok = false := by rw [Bool.eq_false_iff]; intro h; have := e3.1 h; simp [endI] at this
    subst this
    exact ⟨rfl, rfl⟩
  | cons k t =>
    have hu := u8_lt k
    have hL : (k :: t).length = t.length + 1 := rfl
    cases hp : pN k.toNat t with
    | none =>
      have hE : endI (k :: t) = -1 := by simp only [endI, hp, endO]
      have : ok = false := by rw [Bool.eq_false_iff]; intro h; have := e3.1 h; omega
      subst this
      simp only [dec, hp, decE]
      rw [hE]
      exact ⟨rfl, rfl⟩
    | some x =>
      obtain ⟨r, e⟩ := x
      have hpl := (pN_len hp).1
      simp only [dec, hp]
      match e, hp, hpl with
      | [], hp, hpl =>
        have hE : endI (k :: t) = -1 := by simp only [endI, hp, endO]; rfl
        have : ok = false := by rw [Bool.eq_false_iff]; intro h; have := e3.1 h; omega
        subst this
        rw [hE]
        exact ⟨rfl, rfl⟩
      | [_], hp, hpl =>
        have hE : endI (k :: t) = -1 := by simp only [endI, hp, endO]; rfl
        have : ok = false := by rw [Bool.eq_false_iff]; intro h; have := e3.1 h; omega
        subst this
        rw [hE]
        exact ⟨rfl, rfl⟩
      | x1 :: x2 :: x3 :: e, hp, hpl =>
        have hE : endI (k :: t) = (t.length : Int) - e.length := by
          simp only [endI, hp, endO]
          rw [if_neg (by simp)]
          simp only [List.length_cons]; omega
        simp only [List.length_cons] at hpl
        have : ok = true := e3.2 (by omega)
        subst this
        have hn := e4 rfl
        rw [hn, hE, if_neg (by decide), if_pos (dpos (by simp only [List.length_cons]; omega)), if_neg (dneg (by omega)), if_pos (dpos (by simp only [List.length_cons]; omega))]
        exact ⟨rfl, rfl⟩
      | [c1, c0], hp, hpl =>
        have hE : endI (k :: t) = ((t.length + 1 : Nat) : Int) := by
          simp only [endI, hp, endO]
          rw [if_neg (by simp)]
          simp only [List.length_cons, List.length_nil]; omega
        simp only [List.length_cons, List.length_nil] at hpl
        have : ok = true := e3.2 (by omega)
        subst this
        have hn := e4 rfl
        obtain ⟨p, hpt⟩ := pN_tail hp
        have htl : t.length = p.length + 2 := by rw [hpt]; simp
        have hw : IntKind.wrap .i64 (((t.length + 1 : Nat) : Int) - 2) = ((p.length + 1 : Nat) : Int) := by rw [w64 (by omega) (by omega)]; omega
        have hd : (k :: t).drop (p.length + 1) = [c1, c0] := by rw [List.drop_succ_cons, hpt]; simp
        have htk : (k :: t).take (p.length + 1) = (k :: t).take ((k :: t).length - 2) := by rw [hL, show t.length + 1 - 2 = p.length + 1 by omega]
        have hck := ck_ok N (l := (k :: t).take (p.length + 1)) (by simp; omega) (by simp; omega)
        have hF := pN_fu (N := N) (by omega) hp
        obtain ⟨l1, l2⟩ := list_ok N (by omega) (l := r.map (·.1)) (fun _ => hF)
        have hg0 : (k :: t)[0]? = some k := rfl
        have hL2 : ((k :: t).length : Int) = ((t.length + 1 : Nat) : Int) := rfl
        constructor
        · rw [hn, hE, if_neg (by decide), if_neg (dneg (by rw [hL2]; omega)), hw, rtwo_ok N (b := k :: t) (by omega) hd, bind_some', cutI_take (by rw [hL]; omega), bind_some', hck.1, bind_some', htk]
          simp only [decE]
          by_cases hc : w2 c1 c0 = ck ((k :: t).take ((k :: t).length - 2))
          · rw [if_neg (by simp [hc]), if_neg (by simp [hc])]
            have hpd := pdec_loop N (by omega) (b := k :: t) (by omega) hg0 k.toNat N 0 1 [] true r [c1, c0] (by omega) (by omega) (by simp) hp
            simp only [Int.natCast_zero, Int.natCast_one, List.nil_append, Bool.true_and] at hpd
            rw [hpd, bind_some']
            dsimp only
            cases hall : r.all (·.2) with
            | false => rfl
            | true =>
              rw [if_neg (by decide), if_neg (by decide), l1, bind_some']
              by_cases he : listErr (r.map (·.1)) = 0
              · rw [if_neg (by simp [he]), if_neg (by simp [he])]
              · rw [if_pos (by simpa using he), if_pos he]
          · rw [if_pos (by simpa using hc), if_pos hc]
        · rw [hE, if_neg (dneg (by omega)), if_neg (dneg (by rw [hL2]; omega)), hw, cutI_drop (by rw [hL]; omega), bind_some', hd, r2_ok, bind_some', cutI_take (by rw [hL]; omega), bind_some', hck.2, bind_some', htk, lt_def]
          simp only [decE]
          by_cases hc : w2 c1 c0 = ck ((k :: t).take ((k :: t).length - 2))
          · rw [if_neg (by simp [hc]), if_neg (by simp [hc])]
            have hpd := rdec_loop N (by omega) (b := k :: t) (by omega) hg0 k.toNat N 0 1 [] r [c1, c0] (by omega) (by omega) (by simp) (by simp) hp
            simp only [Int.natCast_zero, Int.natCast_one, List.nil_append] at hpd
            rw [hpd, bind_some']
            cases hall : r.all (·.2) with
            | false => rfl
            | true =>
              rw [if_pos rfl, if_neg (by decide)]
              dsimp only
              rw [l2, bind_some']
              by_cases he : listErr (r.map (·.1)) = 0
              · rw [if_neg (by simp [he]), if_neg (by simp [he])]
              · rw [if_pos (by simpa using he), if_pos he]
          · rw [if_pos (by simpa using hc), if_pos hc]

/-! ### Equal lists -/
theorem gb_loop (N : Nat) {a : List UInt8} (ha : a.length ≤ 60000) : ∀ (k n i : Nat), k < n → i + k = a.length → gen_Bytes_0 N a a n i = some (.inl ())
  | k, 0, i, hn, _ => by omega
  | 0, n + 1, i, hn, hi => by rw [gen_Bytes_0, if_neg (dneg (by omega))]
  | k + 1, n + 1, i, hn, hi => by
    have hlt : i < a.length := by omega
    rw [gen_Bytes_0, if_pos (dpos (by omega)), getI_nat (at_lt hlt), bind_some', bind_some', if_neg (by simp), lt_def, w64s (by omega)]
    exact gb_loop N ha k n (i + 1) (by omega) (by omega)
theorem gb_ok (N : Nat) {a : List UInt8} (ha : a.length ≤ 60000) (hN : a.length < N) : gen_Bytes N a a = some true := by
  have := gb_loop N ha a.length N 0 (by omega) (by omega)
  simp only [Int.natCast_zero] at this
  unfold gen_Bytes
  rw [if_neg (by simp), this]; rfl
theorem gw_loop (N : Nat) {a : List Wagon} (ha : a.length ≤ 60000) : ∀ (k n i : Nat), k < n → i + k = a.length → gen_Wagons_0 N a a n i = some (.inl ())
  | k, 0, i, hn, _ => by omega
  | 0, n + 1, i, hn, hi => by rw [gen_Wagons_0, if_neg (dneg (by omega))]
  | k + 1, n + 1, i, hn, hi => by
    have hlt : i < a.length := by omega
    rw [gen_Wagons_0, if_pos (dpos (by omega)), getI_nat (at_lt hlt), bind_some', bind_some', if_neg (by simp), lt_def, w64s (by omega)]
    exact gw_loop N ha k n (i + 1) (by omega) (by omega)
theorem gw_ok (N : Nat) {a : List Wagon} (ha : a.length ≤ 60000) (hN : a.length < N) : gen_Wagons N a a = some true := by
  have := gw_loop N ha a.length N 0 (by omega) (by omega)
  simp only [Int.natCast_zero] at this
  unfold gen_Wagons
  rw [if_neg (by simp), this]; rfl

theorem dec_len {b : List UInt8} : (dec b).1.length ≤ 255 := by
  cases b with
  | nil => simp [dec]
  | cons k t =>
    have hu := k.toNat_lt
    simp only [dec]
    cases hp : pN k.toNat t with
    | none => simp [decE]
    | some x =>
      obtain ⟨r, e⟩ := x
      have h := (pN_len hp).2
      match e with
      | [] => simp [decE]
      | [_] => simp [decE]
      | _ :: _ :: _ :: _ => simp [decE]
      | [c1, c0] =>
        simp only [decE]
        split
        · simp
        · split
          · simp
          · split
            · simp
            · simp; omega
end Go.W
