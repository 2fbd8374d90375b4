/- Consist: the program answers as the reference. -/
import Derived.Test.YtpfkolbgdmmakaaLDec3
import Derived.Test.YtpfkolbgdmmakaaLSpoil
import Derived.Test.YtpfkolbgdmmakaaAmStart
set_option linter.unusedVariables false
set_option linter.unusedSimpArgs false
set_option maxRecDepth 100000
namespace Go.W
open Go.AM

theorem enc_len {l : List Wagon} : (enc l).1.length ≤ 2595 := by
  unfold enc
  split
  · simp
  · rename_i h
    have he : listErr l = 0 := by simpa using h
    have := body_len he
    have := (listErr_zero.1 he).1
    simp only [List.length_append, List.length_cons, List.length_nil]
    omega

theorem reads_ok (N : Nat) (hN : 3000 ≤ N) {b : List UInt8} (hb : b.length ≤ 2900) : l06_reads N b = some true := by
  obtain ⟨h1, h2⟩ := dec_ok N hN hb
  obtain ⟨c1, c2⟩ := ck_ok N (l := b) (by omega) (by omega)
  have := dec_len (b := b)
  unfold l06_reads l06_reads_0
  rw [h1, h2, bind_some', bind_some', gw_ok N (by omega) (by omega), bind_some', if_pos rfl, if_pos (by simp), c1, c2, bind_some', bind_some', lt_def]
  simp [bind_some']

theorem wr_loop (N : Nat) (hN : 3000 ≤ N) {l : List Wagon} (hl : l.length ≤ 96) (hF : ∀ w ∈ l, Fu N w) : ∀ (k n i : Nat), k < n → i + k = l.length → l06_writes_0 N l n i = some (.inl ())
  | k, 0, i, hn, _ => by omega
  | 0, n + 1, i, hn, hi => by rw [l06_writes_0, if_neg (dneg (by omega))]
  | k + 1, n + 1, i, hn, hi => by
    have hlt : i < l.length := by omega
    obtain ⟨v1, v2⟩ := wag_ok N (by omega) (hF _ (List.getElem_mem hlt))
    rw [l06_writes_0, if_pos (dpos (by omega)), getI_nat (at_lt hlt), bind_some', v1, bind_some', bind_some', v2, bind_some', if_neg (by simp), lt_def, w64s (by omega)]
    exact wr_loop N hN hl hF k n (i + 1) (by omega) (by omega)
theorem writes_ok (N : Nat) (hN : 3000 ≤ N) {l : List Wagon} (hl : l.length ≤ 96) (hF : ∀ w ∈ l, Fu N w) : l06_writes N l = some true := by
  obtain ⟨e1, e2⟩ := enc_ok N hN (fun _ => hF)
  obtain ⟨t1, t2⟩ := total_ok N (by omega) (fun _ => hF)
  have hw := wr_loop N hN hl hF l.length N 0 (by omega) (by omega)
  simp only [Int.natCast_zero] at hw
  have := enc_len (l := l)
  unfold l06_writes l06_writes_1
  rw [e1, e2, t1, t2, bind_some', bind_some', bind_some', bind_some', hw, bind_some']
  dsimp only
  rw [gb_ok N (by omega) (by omega), bind_some', if_pos rfl, if_pos (by simp), if_pos (by simp), if_pos (by simp), if_pos (by simp), lt_def]
  simp [bind_some']

theorem fixed_ok (N : Nat) (hN : 3000 ≤ N) {b : List UInt8} (hb : b.length ≤ 2900) : ∃ c, l06_fixed N b = some c ∧ c.length = b.length := by
  unfold l06_fixed
  by_cases h : b.length < 2
  · rw [if_pos (dpos (by omega))]; exact ⟨_, rfl, rfl⟩
  · have hw : IntKind.wrap .i64 ((b.length : Int) - 2) = ((b.length - 2 : Nat) : Int) := by rw [w64 (by omega) (by omega)]; omega
    obtain ⟨_, c2⟩ := ck_ok N (l := b.take (b.length - 2)) (by simp; omega) (by simp; omega)
    rw [if_neg (dneg (by omega)), lt_def, hw, cutI_take (by omega), bind_some', c2, bind_some', bind_some', appI_ok (by simp; omega), bind_some', toU8_w, bind_some', toU8_w, bind_some', appI_ok (by simp; omega), bind_some']
    refine ⟨_, rfl, ?_⟩
    simp; omega

theorem spoilb_ok (N : Nat) {c : Int} {s : Maker} (hs : Mk c s) (hc : c ≤ 800000000) {l : List UInt8} (hl : l.length ≤ 2700) :
    ∃ l' s', Maker_SpoilBytes N s l = some (l', s') ∧ Mk (c + 3) s' ∧ l'.length ≤ l.length + 1 := by
  obtain ⟨l', s', h, m, k⟩ := spoil_ok N hs hc (l := l) (by omega)
  unfold Maker_SpoilBytes
  rw [h, bind_some', appI_ok (by dsimp only; simp; omega), bind_some']
  exact ⟨_, _, rfl, m, by simpa using k⟩

theorem ce5_ok (N : Nat) (hN : 3000 ≤ N) {c : Int} {s : Maker} (hs : Mk c s) (hc : c ≤ 700000000) {l : List Wagon} (hl : l.length ≤ 96) (hF : ∀ w ∈ l, Fu N w) {b : List UInt8} (hb : b.length ≤ 2600) :
    ∃ s', l06_ConsistExact_5 N s l b = some (s', false) ∧ Mk (c + 10) s' := by
  obtain ⟨b1, s1, h1, m1, k1⟩ := spoilb_ok N hs (by omega) (l := b) (by omega)
  obtain ⟨b2, s2, h2, m2, k2⟩ := spoilb_ok N m1 (by omega) (l := b) (by omega)
  obtain ⟨b3, h3, k3⟩ := fixed_ok N hN (b := b2) (by omega)
  obtain ⟨q, s3, h4, q0, q1, m3⟩ := next_ok N ((b.length : Int) + 1) (by omega) (by omega) m2 (by omega)
  obtain ⟨q, rfl⟩ := Int.eq_ofNat_of_zero_le q0
  unfold l06_ConsistExact_5
  rw [writes_ok N hN hl hF, bind_some', if_neg (by decide), reads_ok N hN (by omega), bind_some', if_neg (by decide), h1, bind_some']
  dsimp only
  rw [reads_ok N hN (by omega), bind_some', if_neg (by decide), h2, bind_some']
  dsimp only
  rw [h3, bind_some', reads_ok N hN (by omega), bind_some', if_neg (by decide), w64 (n := (b.length : Int) + 1) (by omega) (by omega), h4, bind_some']
  dsimp only
  rw [cutI_take (by omega), bind_some', reads_ok N hN (by simp; omega), bind_some']
  exact ⟨_, rfl, m3.le (by omega)⟩

theorem ce_loop (N : Nat) (hN : 3000 ≤ N) : ∀ (k n i : Nat) (s : Maker) (c : Int), k < n → i + k = 5 → Mk c s → c + 40000 * k ≤ 1000000 → l06_ConsistExact_0 N n s i = some (.inl ())
  | k, 0, i, s, c, hn, _, _, _ => by omega
  | 0, n + 1, i, s, c, hn, hi, _, _ => by rw [l06_ConsistExact_0, if_neg (dneg (by omega))]
  | k + 1, n + 1, i, s, c, hn, hi, hs, hc => by
    obtain ⟨l, s0, h0, m0, l0, d0⟩ := wagons_ok N (by omega) 6 (by omega) hs (by omega)
    have hlen : ∀ w ∈ l, w.number.length ≤ 901 ∧ w.dest.length ≤ 901 := fun w hw => by have := wagErr_len (d0.ok w hw); omega
    have k1 : ∃ c1, l06_ConsistExact_1 N i l = some c1 ∧ (c1 = true → 0 < l.length) := by
      unfold l06_ConsistExact_1
      by_cases e : (1 : Int) < i
      · rw [if_pos (dpos e)]; exact ⟨_, rfl, fun h => by simpa using h⟩
      · rw [if_neg (dneg e)]; exact ⟨_, rfl, fun h => by simp at h⟩
    obtain ⟨c1, k1, hc1⟩ := k1
    have k2 : ∃ s3 l3, l06_ConsistExact_2 N s0 l c1 = some (s3, l3) ∧ Mk (c + 15000) s3 ∧ l3.length ≤ 6 ∧ ∀ w ∈ l3, w.number.length ≤ 901 ∧ w.dest.length ≤ 901 := by
      unfold l06_ConsistExact_2
      cases c1 with
      | false => rw [if_neg (by decide)]; exact ⟨_, _, rfl, m0.le (by omega), l0, hlen⟩
      | true =>
        have hp := hc1 rfl
        obtain ⟨q, s4, e4, q0, q1, m4⟩ := next_ok N (l.length : Int) (by omega) (by omega) m0 (by omega)
        obtain ⟨q, rfl⟩ := Int.eq_ofNat_of_zero_le q0
        have hq : q < l.length := by omega
        have hw' := wagErr_len (d0.ok _ (List.getElem_mem hq))
        obtain ⟨w', s5, e5, m5, b1, b2⟩ := spoilw_ok N m4 (by omega) (w := l[q]) (by omega) (by omega)
        rw [if_pos rfl, e4, bind_some', getI_nat (at_lt hq), bind_some']
        dsimp only
        rw [e5, bind_some', bind_some', lt_def]
        refine ⟨_, _, rfl, m5.le (by omega), by simp; omega, fun w hw2 => ?_⟩
        rcases List.mem_or_eq_of_mem_set hw2 with hw2 | rfl
        · exact hlen w hw2
        · exact ⟨b1, b2⟩
    obtain ⟨s3, l3, k2, m3, ll3, hl3⟩ := k2
    have k3 : ∃ c3, l06_ConsistExact_3 N i l3 = some c3 ∧ (c3 = true → 0 < l3.length) := by
      unfold l06_ConsistExact_3
      by_cases e : (i : Int) = 4
      · rw [if_pos (by simp [e])]; exact ⟨_, rfl, fun h => by simpa using h⟩
      · rw [if_neg (by simpa using e)]; exact ⟨_, rfl, fun h => by simp at h⟩
    obtain ⟨c3, k3, hc3⟩ := k3
    have k4 : ∃ s4 l4, l06_ConsistExact_4 N s3 l3 c3 = some (s4, l4) ∧ Mk (c + 16000) s4 ∧ l4.length ≤ 7 ∧ ∀ w ∈ l4, w.number.length ≤ 901 ∧ w.dest.length ≤ 901 := by
      unfold l06_ConsistExact_4
      cases c3 with
      | false => rw [if_neg (by decide)]; exact ⟨_, _, rfl, m3.le (by omega), by omega, hl3⟩
      | true =>
        have hp := hc3 rfl
        obtain ⟨q, s4, e4, q0, q1, m4⟩ := next_ok N (l3.length : Int) (by omega) (by omega) m3 (by omega)
        obtain ⟨q, rfl⟩ := Int.eq_ofNat_of_zero_le q0
        have hq : q < l3.length := by omega
        rw [if_pos rfl, e4, bind_some', getI_nat (at_lt hq), bind_some', appI_ok (by simp; omega), bind_some']
        refine ⟨_, _, rfl, m4.le (by omega), by simp; omega, fun w hw2 => ?_⟩
        rcases List.mem_append.1 hw2 with hw2 | hw2
        · exact hl3 w hw2
        · simp at hw2; subst hw2; exact hl3 _ (List.getElem_mem hq)
    obtain ⟨s4, l4, k4, m4, ll4, hl4⟩ := k4
    have hF : ∀ w ∈ l4, Fu N w := fun w hw => fu_900 (by omega) (hl4 w hw).1 (hl4 w hw).2
    have he := enc_len (l := l4)
    obtain ⟨s5, k5, m5⟩ := ce5_ok N hN m4 (by omega) (l := l4) (by omega) hF (b := (enc l4).1) (by omega)
    rw [l06_ConsistExact_0, if_pos (dpos (by omega)), show (6 : Int) = ((6 : Nat) : Int) from rfl, h0, bind_some', k1, bind_some', k2, bind_some', k3, bind_some', k4, bind_some', (enc_ok N hN (fun _ => hF)).2, bind_some']
    dsimp only
    rw [k5, bind_some', if_neg (by simp), lt_def, w64s (by omega)]
    exact ce_loop N hN k n (i + 1) s5 (c + 16000 + 10) (by omega) (by omega) m5 (by omega)

theorem cexact_ok (N : Nat) (hN : 3000 ≤ N) (x0 : List Int) (l : List Wagon) (b : List UInt8) (hF : ∀ w ∈ l, Fu N w) : l06_ConsistExact N x0 l b = some true := by
  have h0 := ce_loop N hN 5 N 0 (Maker.mk x0 0) 0 (by omega) (by omega) (mk0 x0) (by omega)
  simp only [Int.natCast_zero] at h0
  have hs := sane06' (N := N) (by omega)
  unfold l06_ConsistExact gen_New
  rw [bind_some', h0, bind_some']
  dsimp only
  unfold l06_ConsistExact_6
  by_cases h1 : (20 : Int) < l.length
  · rw [if_pos (dpos h1)]; rfl
  · rw [if_neg (dneg h1)]
    by_cases h2 : (300 : Int) < b.length
    · rw [if_pos (dpos h2)]; rfl
    · obtain ⟨b3, h3, k3⟩ := fixed_ok N hN (b := b) (by omega)
      rw [if_neg (dneg h2), writes_ok N hN (by omega) hF, bind_some', if_pos rfl, reads_ok N hN (by omega), bind_some', if_pos rfl, h3, bind_some', reads_ok N hN (by omega), bind_some', if_pos rfl, hs]; rfl
theorem cexactT (x0 : List Int) (w0 : gSl (gInt .i64) x0) (l : List Wagon) (hl : gSl (fun x : Wagon => gStr x.number ∧ gInt .i64 x.length ∧ gInt .i64 x.axles ∧ gInt .i64 x.mass ∧ gInt .i64 x.brake ∧ gInt .i64 x.goods ∧ gAny x.gentle ∧ gStr x.dest) l)
    (b : List UInt8) (w2 : gSl gAny b) : ∃ N, l06_ConsistExact N x0 l b = some true := by
  refine ⟨maxLen + 3000, cexact_ok _ (by omega) x0 l b fun w hw => ?_⟩
  obtain ⟨h1, _, _, _, _, _, _, h2⟩ := hl.2 w hw
  have h3 : maxLen ≤ 9223372036854775807 := by decide
  simp only [gStr] at h1 h2
  exact ⟨⟨by omega, by omega⟩, by omega, by omega⟩
end Go.W
