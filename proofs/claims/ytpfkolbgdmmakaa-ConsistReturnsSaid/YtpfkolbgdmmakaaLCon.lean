/- Consist: what the program's functions and the reference's compute: the check sum, the bytes of a list. -/
import Derived.Test.YtpfkolbgdmmakaaLConT
set_option linter.unusedVariables false
set_option linter.unusedSimpArgs false
set_option maxRecDepth 100000
namespace Go.W
open Go.AM

/-! ### Bytes -/
def u8 (n : Int) : UInt8 := UInt8.ofNat (n % 256).toNat
theorem toU8_w (n : Int) : toU8 (IntKind.wrap .u8 n) = some (u8 n) := by
  rw [IntKind.wrap_u8]
  unfold toU8 u8
  rw [if_pos (by omega)]
theorem u8_val {n : Int} (h0 : 0 ≤ n) (h1 : n < 256) : ((u8 n).toNat : Int) = n := by
  unfold u8
  rw [UInt8.toNat_ofNat']
  omega
theorem u8_toNat (c : UInt8) : u8 (c.toNat : Int) = c := by
  apply UInt8.toNat_inj.1
  have h := c.toNat_lt
  have := u8_val (n := (c.toNat : Int)) (by omega) (by omega)
  omega
theorem u8_congr {a b : Int} (h : a % 256 = b % 256) : u8 a = u8 b := by unfold u8; rw [h]
theorem u8_lt (c : UInt8) : (c.toNat : Int) < 256 := by have := c.toNat_lt; omega
theorem w64u (c : UInt8) : IntKind.wrap .i64 (c.toNat : Int) = c.toNat := by have := u8_lt c; exact w64 (by omega) (by omega)
theorem toU8_lit {n : Int} (h0 : 0 ≤ n) (h1 : n < 256) : toU8 n = some (u8 n) := by rw [← toU8_w, IntKind.wrap_u8]; congr 1; omega

/-! ### The check sum -/
/-- The sum of the bytes, each times its number. -/
def ws : List UInt8 → Nat → Int
  | [], _ => 0
  | c :: l, i => ((i : Int) + 1) * c.toNat + ws l (i + 1)
def ck (l : List UInt8) : Int := ws l 0 % 65521
theorem ck_range (l : List UInt8) : 0 ≤ ck l ∧ ck l < 65521 := by unfold ck; omega
theorem ck_loop (N : Nat) {l : List UInt8} (hl : l.length ≤ 60000) : ∀ (k n i : Nat) (s : Int), k < n → i + k = l.length → 0 ≤ s → s < 65521 →
    consist_Check_0 N l l.length n s i = some ((s + ws (l.drop i) i) % 65521) ∧ r06_Check_0 N l n s i = some ((s + ws (l.drop i) i) % 65521)
  | k, 0, i, s, hn, _, _, _ => by omega
  | 0, n + 1, i, s, hn, hi, h0, h1 => by
    rw [consist_Check_0, r06_Check_0, if_neg (dneg (by omega)), if_neg (dneg (by omega)), List.drop_eq_nil_of_le (by omega)]
    simp only [ws, Int.add_zero]
    rw [Int.emod_eq_of_lt h0 h1]
    exact ⟨rfl, rfl⟩
  | k + 1, n + 1, i, s, hn, hi, h0, h1 => by
    have hlt : i < l.length := by omega
    have hc := u8_lt l[i]
    have hm : 0 ≤ ((i : Int) + 1) * l[i].toNat ∧ ((i : Int) + 1) * l[i].toNat ≤ 60000 * 255 := ⟨Int.mul_nonneg (by omega) (by omega), Int.mul_le_mul (by omega) (by omega) (by omega) (by omega)⟩
    have e : Int.tmod (IntKind.wrap .i64 (s + IntKind.wrap .i64 (Int.tmod (IntKind.wrap .i64 ((i : Int) + 1)) 65521 * IntKind.wrap .i64 (l[i].toNat : Int)))) 65521 = (s + ((i : Int) + 1) * l[i].toNat) % 65521 := by
      rw [w64 (n := (i : Int) + 1) (by omega) (by omega), w64u, Int.tmod_eq_emod_of_nonneg (a := (i : Int) + 1) (b := 65521) (by omega), Int.emod_eq_of_lt (a := (i : Int) + 1) (by omega) (by omega), w64 (n := ((i : Int) + 1) * l[i].toNat) (by omega) (by omega), w64 (by omega) (by omega), Int.tmod_eq_emod_of_nonneg (by omega)]
    obtain ⟨g1, g2⟩ := ck_loop N hl k n (i + 1) ((s + ((i : Int) + 1) * l[i].toNat) % 65521) (by omega) (by omega) (by omega) (by omega)
    rw [consist_Check_0, r06_Check_0, if_pos (dpos (by omega)), if_pos (dpos (by omega)), getI_nat (at_lt hlt), bind_some', bind_some', lt_def, lt_def, lt_def, lt_def, e, w64s (by omega), g1, g2, drop_at (at_lt hlt)]
    simp only [ws]
    have : ((s + ((i : Int) + 1) * l[i].toNat) % 65521 + ws (l.drop (i + 1)) (i + 1)) % 65521 = (s + (((i : Int) + 1) * l[i].toNat + ws (l.drop (i + 1)) (i + 1))) % 65521 := by
      generalize ws (l.drop (i + 1)) (i + 1) = w
      generalize ((i : Int) + 1) * l[i].toNat = q
      omega
    rw [this]
    exact ⟨rfl, rfl⟩
theorem ck_ok (N : Nat) {l : List UInt8} (hl : l.length ≤ 60000) (hN : l.length < N) : consist_Check N l = some (ck l) ∧ r06_Check N l = some (ck l) := by
  obtain ⟨h1, h2⟩ := ck_loop N hl l.length N 0 0 (by omega) (by omega) (by omega) (by omega)
  simp only [Int.natCast_zero, List.drop_zero, Int.zero_add] at h1 h2
  unfold consist_Check r06_Check
  rw [h1, h2]
  exact ⟨rfl, rfl⟩

/-! ### The bytes of a list -/
/-- Two digits in a byte. -/
def pk : List UInt8 → List UInt8
  | a :: b :: t => u8 (((a.toNat : Int) - 48) * 16 + ((b.toNat : Int) - 48)) :: pk t
  | _ => []
theorem pk_len : ∀ l : List UInt8, (pk l).length = l.length / 2
  | [] => rfl
  | [a] => by simp [pk]
  | a :: b :: t => by simp [pk, pk_len t]; omega

theorem or_dig : ∀ a b : Fin 10, bitsV .or .u8 (IntKind.wrap .u8 ((a.val : Int) * 16)) (b.val : Int) = (a.val : Int) * 16 + b.val := by decide
theorem or_dig' {a b : UInt8} (ha : isDig a = true) (hb : isDig b = true) : bitsV .or .u8 (IntKind.wrap .u8 (IntKind.wrap .u8 ((a.toNat : Int) - 48) * 16)) (IntKind.wrap .u8 ((b.toNat : Int) - 48)) = ((a.toNat : Int) - 48) * 16 + ((b.toNat : Int) - 48) := by
  rw [isDig_iff] at ha hb
  have := or_dig ⟨a.toNat - 48, by omega⟩ ⟨b.toNat - 48, by omega⟩
  simp only at this
  rw [w8 (n := (a.toNat : Int) - 48) (by omega) (by omega), w8 (n := (b.toNat : Int) - 48) (by omega) (by omega), show (a.toNat : Int) - 48 = ((a.toNat - 48 : Nat) : Int) by omega, show (b.toNat : Int) - 48 = ((b.toNat - 48 : Nat) : Int) by omega]
  exact this

theorem pk_loop (N : Nat) {w : Wagon} (hl : w.number.length = 12) (hd : w.number.all isDig = true) : ∀ (k n i : Nat) (out : List UInt8), k < n → i + 2 * k = 12 → out.length + k ≤ 60000 →
    consist_Encode_1 N w n out i = some (out ++ pk (w.number.drop i)) ∧ r06_Encode_1 N w n out i = some (out ++ pk (w.number.drop i))
  | k, 0, i, out, hn, _, _ => by omega
  | 0, n + 1, i, out, hn, hi, _ => by
    rw [consist_Encode_1, r06_Encode_1, if_neg (dneg (by omega)), if_neg (dneg (by omega)), List.drop_eq_nil_of_le (by omega)]
    simp [pk]
  | k + 1, n + 1, i, out, hn, hi, ho => by
    have h1 : i < w.number.length := by omega
    have h2 : i + 1 < w.number.length := by omega
    have d1 : isDig w.number[i] = true := List.all_eq_true.1 hd _ (List.getElem_mem h1)
    have d2 : isDig w.number[i + 1] = true := List.all_eq_true.1 hd _ (List.getElem_mem h2)
    have e1 := isDig_iff.1 d1
    have e2 := isDig_iff.1 d2
    have hr : IntKind.wrap .u8 (IntKind.wrap .u8 (IntKind.wrap .u8 (IntKind.wrap .u8 ((w.number[i].toNat : Int) - 48) * 16) + w.number[i + 1].toNat) - 48) = IntKind.wrap .u8 (((w.number[i].toNat : Int) - 48) * 16 + ((w.number[i + 1].toNat : Int) - 48)) := by
      simp only [IntKind.wrap_u8]; omega
    have hp : toU8 (((w.number[i].toNat : Int) - 48) * 16 + ((w.number[i + 1].toNat : Int) - 48)) = some (u8 (((w.number[i].toNat : Int) - 48) * 16 + ((w.number[i + 1].toNat : Int) - 48))) := toU8_lit (by omega) (by omega)
    obtain ⟨g1, g2⟩ := pk_loop N hl hd k n (i + 2) (out ++ [u8 (((w.number[i].toNat : Int) - 48) * 16 + ((w.number[i + 1].toNat : Int) - 48))]) (by omega) (by omega) (by simp; omega)
    have hw2 : IntKind.wrap .i64 ((i : Int) + 2) = ((i + 2 : Nat) : Int) := by rw [w64 (by omega) (by omega)]; omega
    rw [consist_Encode_1, r06_Encode_1, if_pos (dpos (by omega)), if_pos (dpos (by omega)), getI_nat (at_lt h1), bind_some', bind_some', w64s (by omega), getI_nat (at_lt h2), bind_some', bind_some', or_dig' d1 d2, hp, bind_some', hr, toU8_w, bind_some',
      appI_ok (by simp; omega), bind_some', bind_some', lt_def, lt_def, hw2, g1, g2, drop_at (at_lt h1), drop_at (at_lt h2)]
    simp only [pk, List.append_assoc, List.singleton_append, List.cons_append, List.nil_append, and_self]

/-- The bytes of a wagon. -/
def wb (w : Wagon) : List UInt8 :=
  pk w.number ++ [u8 (w.length / 256), u8 w.length, u8 w.axles, u8 (w.mass / 256), u8 w.mass, u8 (w.brake / 256), u8 w.brake, u8 (w.goods + if w.gentle = true then 16 else 0), u8 w.dest.length] ++ w.dest
def wbs (l : List Wagon) : List UInt8 := l.flatMap wb
theorem wb_len {w : Wagon} (h : w.number.length = 12) : (wb w).length = 15 + w.dest.length := by simp [wb, pk_len, h]; omega

theorem two_ok (N : Nat) {out : List UInt8} (ho : out.length ≤ 60000) (x : Int) : consist_two N out x = some (out ++ [u8 (x / 256), u8 x]) := by
  unfold consist_two
  rw [toU8_w, bind_some', toU8_w, bind_some', appI_ok (by simp; omega), bind_some', Int.fdiv_eq_ediv_of_nonneg _ (by omega)]

theorem enc_loop (N : Nat) (hN : 100 ≤ N) {l : List Wagon} (hl : l.length ≤ 100) (hv : ∀ w ∈ l, wagErr w = 0) : ∀ (k n i : Nat) (out : List UInt8), k < n → i + k = l.length → out.length ≤ 1 + 27 * i →
    consist_Encode_0 N l l.length n out i = some (out ++ wbs (l.drop i)) ∧ r06_Encode_0 N l n out i = some (out ++ wbs (l.drop i))
  | k, 0, i, out, hn, _, _ => by omega
  | 0, n + 1, i, out, hn, hi, _ => by
    rw [consist_Encode_0, r06_Encode_0, if_neg (dneg (by omega)), if_neg (dneg (by omega)), List.drop_eq_nil_of_le (by omega)]
    simp [wbs]
  | k + 1, n + 1, i, out, hn, hi, ho => by
    have hlt : i < l.length := by omega
    generalize hw : l[i] = w
    have hvw : wagErr w = 0 := hw ▸ hv _ (List.getElem_mem hlt)
    obtain ⟨hnum, hax, hrg, hnm⟩ := wagErr_zero hvw
    obtain ⟨hn12, hdig⟩ := numErr_len hnum
    have hdl := (wagErr_len hvw).2
    have hr := wag_ranges hvw
    have hg : 0 ≤ w.goods ∧ w.goods ≤ 9 := by unfold inRg at hrg; omega
    obtain ⟨p1, p2⟩ := pk_loop N hn12 hdig 6 N 0 out (by omega) (by omega) (by omega)
    simp only [Int.natCast_zero, List.drop_zero] at p1 p2
    have hpl := pk_len w.number
    have hgo : consist_Encode_2 N w.goods w.gentle = some (w.goods + if w.gentle = true then 16 else 0) := by
      unfold consist_Encode_2
      cases w.gentle with
      | true => rw [if_pos rfl, if_pos rfl, lt_def, w64 (by omega) (by omega)]
      | false => rw [if_neg (by decide), if_neg (by decide), Int.add_zero]
    have hgr : r06_Encode_2 N w.goods w.gentle = some (w.goods + if w.gentle = true then 16 else 0) := by
      unfold r06_Encode_2
      cases w.gentle with
      | true => rw [if_pos rfl, if_pos rfl, lt_def, w8 (by omega) (by omega)]
      | false => rw [if_neg (by decide), if_neg (by decide), Int.add_zero]
    have hgb : 0 ≤ (w.goods + if w.gentle = true then 16 else 0) ∧ (w.goods + if w.gentle = true then 16 else 0) < 256 := by split <;> omega
    have hdv : ∀ x : Int, 0 ≤ x → x ≤ 2000 → IntKind.wrap .i64 (Int.tdiv x 256) = x / 256 := fun x h1 h2 => by
      rw [Int.tdiv_eq_ediv_of_nonneg h1, w64 (by omega) (by omega)]
    have hmd : ∀ x : Int, 0 ≤ x → u8 (Int.tmod x 256) = u8 x := fun x h1 => by
      rw [Int.tmod_eq_emod_of_nonneg h1]; exact u8_congr (by omega)
    obtain ⟨g1, g2⟩ := enc_loop N hN hl hv k n (i + 1) (out ++ wb w) (by omega) (by omega) (by rw [List.length_append, wb_len hn12]; omega)
    have hd2 : wbs (l.drop i) = wb w ++ wbs (l.drop (i + 1)) := by
      rw [drop_at (at_lt hlt), hw]; simp [wbs]
    have hpk : (pk w.number).length = 6 := by rw [hpl, hn12]
    have hl1 : (out ++ pk w.number).length = out.length + 6 := by rw [List.length_append, hpk]
    constructor
    · rw [consist_Encode_0, if_pos (dpos (by omega)), getI_nat (at_lt hlt), hw, bind_some', p1, bind_some',
        two_ok N (by omega), bind_some', toU8_w, bind_some', appI_ok (by simp; omega), bind_some', two_ok N (by simp; omega), bind_some', two_ok N (by simp; omega), bind_some', hgo, bind_some', toU8_w, bind_some', toU8_w, bind_some', appI_ok (by simp; omega), bind_some', appI_ok (by simp; omega), bind_some', w64s (by omega)]
      rw [show out ++ pk w.number ++ [u8 (w.length / 256), u8 w.length] ++ [u8 w.axles] ++ [u8 (w.mass / 256), u8 w.mass] ++ [u8 (w.brake / 256), u8 w.brake] ++ [u8 (w.goods + if w.gentle = true then 16 else 0), u8 w.dest.length] ++ w.dest = out ++ wb w from by
        unfold wb; simp only [List.append_assoc, List.cons_append, List.nil_append, List.singleton_append], g1, hd2, List.append_assoc]
    · rw [r06_Encode_0, if_pos (dpos (by omega)), getI_nat (at_lt hlt), hw, bind_some', p2, bind_some', lt_def, w8 (n := w.goods) (by omega) (by omega), hgr, bind_some', hdv w.length (by omega) (by omega), toU8_w, bind_some', toU8_w, bind_some', toU8_w, bind_some', hdv w.mass (by omega) (by omega), toU8_w, bind_some', toU8_w, bind_some', hdv w.brake (by omega) (by omega), toU8_w, bind_some', toU8_w, bind_some', toU8_lit hgb.1 hgb.2, bind_some', toU8_w, bind_some',
        hmd w.length (by omega), hmd w.mass (by omega), hmd w.brake (by omega), appI_ok (by simp; omega), bind_some', appI_ok (by simp; omega), bind_some', lt_def, w64s (by omega)]
      rw [show out ++ pk w.number ++ [u8 (w.length / 256), u8 w.length, u8 w.axles, u8 (w.mass / 256), u8 w.mass, u8 (w.brake / 256), u8 w.brake, u8 (w.goods + if w.gentle = true then 16 else 0), u8 w.dest.length] ++ w.dest = out ++ wb w from by
        unfold wb; simp only [List.append_assoc], g2, hd2, List.append_assoc]

/-- What 'Encode' answers. -/
def body (l : List Wagon) : List UInt8 := u8 l.length :: wbs l
def enc (l : List Wagon) : List UInt8 × Int := if listErr l ≠ 0 then ([], listErr l) else (body l ++ [u8 (ck (body l) / 256), u8 (ck (body l))], 0)
theorem wbs_len : ∀ {l : List Wagon}, (∀ w ∈ l, wagErr w = 0) → (wbs l).length ≤ 27 * l.length
  | [], _ => by simp [wbs]
  | w :: l, h => by
    have h1 := wbs_len (l := l) fun x hx => h x (by simp [hx])
    obtain ⟨h2, h3⟩ := wagErr_len (h w (by simp))
    have h4 := wb_len h2
    have : wbs (w :: l) = wb w ++ wbs l := by simp [wbs]
    rw [this, List.length_append, List.length_cons]
    omega
theorem body_len {l : List Wagon} (h : listErr l = 0) : (body l).length ≤ 1 + 27 * l.length := by
  have := wbs_len (listErr_zero.1 h).2.1
  simp only [body, List.length_cons]
  omega
theorem enc_ok (N : Nat) (hN : 3000 ≤ N) {l : List Wagon} (hF : l.length ≤ 96 → ∀ w ∈ l, Fu N w) : consist_Encode N l = some (enc l) ∧ r06_Encode N l = some (enc l) := by
  obtain ⟨h1, h2⟩ := list_ok N (by omega) hF
  unfold consist_Encode r06_Encode enc
  rw [h1, h2, bind_some', bind_some']
  by_cases he : listErr l = 0
  · obtain ⟨hl, hv, _⟩ := listErr_zero.1 he
    have hbl := body_len he
    obtain ⟨e1, e2⟩ := enc_loop N (by omega) (l := l) (by omega) hv l.length N 0 [u8 l.length] (by omega) (by omega) (by simp)
    simp only [Int.natCast_zero, List.drop_zero, List.singleton_append] at e1 e2
    obtain ⟨k1, k2⟩ := ck_ok N (l := body l) (by omega) (by omega)
    have hk := ck_range (body l)
    rw [if_neg (by simp [he]), if_neg (by simp [he]), if_neg (by simp [he]), toU8_w, bind_some', bind_some', e1, e2, bind_some', bind_some']
    rw [show u8 (l.length : Int) :: wbs l = body l from rfl, k1, k2, bind_some', bind_some', two_ok N (by omega), bind_some', Int.tdiv_eq_ediv_of_nonneg hk.1, w64 (by omega) (by omega), Int.tmod_eq_emod_of_nonneg hk.1, toU8_w, bind_some', toU8_w, bind_some', appI_ok (by simp; omega), bind_some', u8_congr (a := ck (body l) % 256) (b := ck (body l)) (by omega)]
    exact ⟨rfl, rfl⟩
  · have e0 : (listErr l != 0) = true := by simpa using he
    simp only [e0, if_true, ne_eq, he, not_false_eq_true, and_self]
end Go.W
