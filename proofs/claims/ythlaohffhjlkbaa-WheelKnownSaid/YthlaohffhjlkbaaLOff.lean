/- Wheel: the offsets of wagons and the distances of trains, the program and the reference. -/
import Derived.Test.YthlaohffhjlkbaaLSpoil
import Derived.Test.YthlaohffhjlkbaaAmStart
set_option linter.unusedVariables false
set_option linter.unusedSimpArgs false
set_option maxRecDepth 100000
namespace Go.W
open Go.AM

theorem sane07 (M : Nat) : l07_sane (M + 60) = some true := by rfl
theorem sane07' {N : Nat} (h : 60 ≤ N) : l07_sane N = some true := by
  obtain ⟨M, rfl⟩ : ∃ M, N = M + 60 := ⟨N - 60, by omega⟩
  exact sane07 M

def ofs (k L : Int) : List Int :=
  if k = 1 then [130, 330, 10 * L - 330, 10 * L - 130] else if k = 2 then [10 * L / 4, 10 * L - 10 * L / 4] else if k = 3 then [120, 280, 440, 10 * L - 440, 10 * L - 280, 10 * L - 120] else [150, 330, 10 * L - 330, 10 * L - 150]
theorem ofs_range {k L : Int} (h1 : 80 ≤ L) (h2 : L ≤ 400) : ∀ o ∈ ofs k L, 0 ≤ o ∧ o ≤ 4000 := by
  unfold ofs
  intro o ho
  split at ho
  · simp only [List.mem_cons, List.not_mem_nil, or_false] at ho; omega
  · split at ho
    · simp only [List.mem_cons, List.not_mem_nil, or_false] at ho; omega
    · split at ho
      · simp only [List.mem_cons, List.not_mem_nil, or_false] at ho; omega
      · simp only [List.mem_cons, List.not_mem_nil, or_false] at ho; omega
theorem ofs_len (k L : Int) : 1 ≤ (ofs k L).length ∧ (ofs k L).length ≤ 6 := by
  unfold ofs
  split
  · simp
  · split
    · simp
    · split <;> simp
def of (w : Wagon) : List Int := ofs (kindOf w.number) w.length

theorem offsets_ok (N : Nat) (hN : 20 ≤ N) {w : Wagon} (hF : Fu N w) (h : wagErr w = 0) : wheel_offsets N w = some (of w) := by
  obtain ⟨hnum, _, _, _⟩ := wagErr_zero h
  obtain ⟨hl, _⟩ := wag_ranges h
  unfold wheel_offsets of ofs
  rw [lt_def, w64 (n := 10 * w.length) (by omega) (by omega), (kind_ok' N hN hF.1.1 hF.1.2).1, if_pos hnum, bind_some']
  dsimp only
  rw [lt_def, Int.tdiv_eq_ediv_of_nonneg (by omega)]
  have e : ∀ c : Int, 0 ≤ c → c ≤ 4000 → IntKind.wrap .i64 (10 * w.length - c) = 10 * w.length - c := fun c h1 h2 => w64 (by omega) (by omega)
  rw [e 330 (by omega) (by omega), e 130 (by omega) (by omega), e 440 (by omega) (by omega), e 280 (by omega) (by omega), e 120 (by omega) (by omega), e 150 (by omega) (by omega), w64 (n := 10 * w.length / 4) (by omega) (by omega), e (10 * w.length / 4) (by omega) (by omega)]
  rcases kindOf_range w.number with hk | hk | hk | hk <;> rw [hk] <;> rfl

def offE (w : Wagon) : List Int × Int := if wagErr w ≠ 0 then ([], wagErr w) else (of w, 0)
theorem Offsets_ok (N : Nat) (hN : 20 ≤ N) {w : Wagon} (hF : Fu N w) : wheel_Offsets N w = some (offE w) ∧ r07_Offsets N w = some (offE w) := by
  obtain ⟨v1, v2⟩ := wag_ok N hN hF
  unfold wheel_Offsets r07_Offsets offE
  rw [v1, v2, bind_some', bind_some']
  by_cases h : wagErr w = 0
  · rw [if_neg (by simp [h]), if_neg (by simp [h]), if_neg (by simp [h]), offsets_ok N hN hF h, bind_some']
    refine ⟨rfl, ?_⟩
    obtain ⟨hnum, _, _, _⟩ := wagErr_zero h
    obtain ⟨hl, _⟩ := wag_ranges h
    unfold of ofs
    rw [lt_def, w64 (n := 10 * w.length) (by omega) (by omega), (kind_ok' N hN hF.1.1 hF.1.2).2, if_pos hnum, bind_some']
    dsimp only
    rw [lt_def, Int.tdiv_eq_ediv_of_nonneg (by omega)]
    have e : ∀ c : Int, 0 ≤ c → c ≤ 4000 → IntKind.wrap .i64 (10 * w.length - c) = 10 * w.length - c := fun c h1 h2 => w64 (by omega) (by omega)
    rw [e 330 (by omega) (by omega), e 130 (by omega) (by omega), e 440 (by omega) (by omega), e 280 (by omega) (by omega), e 120 (by omega) (by omega), e 150 (by omega) (by omega), w64 (n := 10 * w.length / 4) (by omega) (by omega), e (10 * w.length / 4) (by omega) (by omega)]
    rcases kindOf_range w.number with hk | hk | hk | hk <;> rw [hk] <;> rfl
  · have e0 : (wagErr w != 0) = true := by simpa using h
    simp only [e0, if_true, ne_eq, h, not_false_eq_true, and_self]

/-! ### Distances -/
def stepD (f : Int) : List Int → Int → List Int → List Int × Int
  | [], last, out => (out, last)
  | o :: t, last, out => stepD f t (f + o) (if 0 ≤ last then out ++ [f + o - last] else out)
def dst : List Wagon → Int → Int → List Int → List Int
  | [], _, _, out => out
  | w :: l, f, last, out => dst l (f + 10 * w.length) (stepD f (of w) last out).2 (stepD f (of w) last out).1
theorem stepD_b {f : Int} (hf : 0 ≤ f) (hf2 : f ≤ 400000) : ∀ {t : List Int} {last : Int} {out : List Int}, (∀ o ∈ t, 0 ≤ o ∧ o ≤ 4000) → -1 ≤ last → last ≤ 410000 →
    -1 ≤ (stepD f t last out).2 ∧ (stepD f t last out).2 ≤ 410000 ∧ (t ≠ [] → 0 ≤ (stepD f t last out).2) ∧ (stepD f t last out).1.length ≤ out.length + t.length
  | [], last, out, _, h1, h2 => by simp [stepD]; omega
  | o :: t, last, out, ht, h1, h2 => by
    have ho := ht o (by simp)
    have ih := stepD_b hf hf2 (t := t) (last := f + o) (out := if 0 ≤ last then out ++ [f + o - last] else out) (fun x hx => ht x (by simp [hx])) (by omega) (by omega)
    simp only [stepD]
    refine ⟨ih.1, ih.2.1, fun _ => ?_, ?_⟩
    · cases t with
      | nil => simp only [stepD]; omega
      | cons a b => exact ih.2.2.1 (by simp)
    · have := ih.2.2.2
      simp only [List.length_cons]
      split at this
      · rename_i h; rw [if_pos h]; simp only [List.length_append, List.length_cons, List.length_nil] at this; omega
      · rename_i h; rw [if_neg h]; omega

theorem pin_loop (N : Nat) {f : Int} (hf : 0 ≤ f) (hf2 : f ≤ 400000) {os : List Int} (hos : ∀ o ∈ os, 0 ≤ o ∧ o ≤ 4000) (hol : os.length ≤ 100) : ∀ (k n i : Nat) (last : Int) (out : List Int), k < n → i + k = os.length → -1 ≤ last → last ≤ 410000 → out.length + k ≤ 10000 →
    wheel_Distances_2 N f os os.length n out last i = some (stepD f (os.drop i) last out)
  | k, 0, i, last, out, hn, _, _, _, _ => by omega
  | 0, n + 1, i, last, out, hn, hi, _, _, _ => by
    rw [wheel_Distances_2, if_neg (dneg (by omega)), List.drop_eq_nil_of_le (by omega)]; rfl
  | k + 1, n + 1, i, last, out, hn, hi, h1, h2, h3 => by
    have hlt : i < os.length := by omega
    have ho := hos _ (List.getElem_mem hlt)
    have e3 : wheel_Distances_3 N out f last os[i] (decide (0 ≤ last)) = some (if 0 ≤ last then out ++ [f + os[i] - last] else out) := by
      unfold wheel_Distances_3
      by_cases h : 0 ≤ last
      · rw [if_pos (lpos h), appI_ok (by simp; omega), bind_some', if_pos h, w64 (n := f + os[i]) (by omega) (by omega), w64 (by omega) (by omega)]
      · rw [if_neg (lneg h), if_neg h]
    rw [wheel_Distances_2, if_pos (dpos (by omega)), getI_nat (at_lt hlt), bind_some', e3, bind_some', lt_def, w64 (n := f + os[i]) (by omega) (by omega), w64s (by omega), drop_at (at_lt hlt)]
    simp only [stepD]
    exact pin_loop N hf hf2 hos hol k n (i + 1) (f + os[i]) _ (by omega) (by omega) (by omega) (by omega) (by split <;> (try simp only [List.length_append, List.length_cons, List.length_nil]) <;> omega)

theorem rin_loop (N : Nat) {f : Int} (hf : 0 ≤ f) (hf2 : f ≤ 400000) {os : List Int} (hos : ∀ o ∈ os, 0 ≤ o ∧ o ≤ 4000) {j : Nat} (hj : j ≤ 1000) : ∀ (k n i : Nat) (last lastR : Int) (out : List Int), k < n → i + k = os.length → os.length ≤ 100 → -1 ≤ last → last ≤ 410000 → out.length + k ≤ 10000 →
    (0 < j + i → lastR = last ∧ 0 ≤ last) → (j + i = 0 → last = -1) →
    ∃ lr, r07_Distances_1 N f j os n out lastR i = some ((stepD f (os.drop i) last out).1, lr) ∧ (0 < k ∨ 0 < j + i → lr = (stepD f (os.drop i) last out).2)
  | k, 0, i, last, lastR, out, hn, _, _, _, _, _, _, _ => by omega
  | 0, n + 1, i, last, lastR, out, hn, hi, _, _, _, _, hr, _ => by
    rw [r07_Distances_1, if_neg (dneg (by omega)), List.drop_eq_nil_of_le (by omega)]
    refine ⟨lastR, rfl, fun h => ?_⟩
    rcases h with h | h
    · omega
    · exact (hr h).1
  | k + 1, n + 1, i, last, lastR, out, hn, hi, hol, h1, h2, h3, hr, hz => by
    have hlt : i < os.length := by omega
    have ho := hos _ (List.getElem_mem hlt)
    have e3 : r07_Distances_2 N out f lastR os i (decide (0 < IntKind.wrap .i64 ((j : Int) + i))) = some (if 0 ≤ last then out ++ [f + os[i] - last] else out) := by
      unfold r07_Distances_2
      rw [w64 (n := (j : Int) + i) (by omega) (by omega)]
      by_cases h : 0 < j + i
      · obtain ⟨rfl, h0⟩ := hr h
        rw [if_pos (dpos (by omega)), getI_nat (at_lt hlt), bind_some', appI_ok (by simp; omega), bind_some', if_pos h0, w64 (n := f + os[i]) (by omega) (by omega), w64 (by omega) (by omega)]
      · have := hz (by omega)
        rw [if_neg (dneg (by omega)), if_neg (by omega)]
    obtain ⟨lr, g1, g2⟩ := rin_loop N hf hf2 hos hj k n (i + 1) (f + os[i]) (f + os[i]) (if 0 ≤ last then out ++ [f + os[i] - last] else out) (by omega) (by omega) hol (by omega) (by omega) (by split <;> (try simp only [List.length_append, List.length_cons, List.length_nil]) <;> omega) (fun _ => ⟨rfl, by omega⟩) (fun h => by omega)
    rw [r07_Distances_1, if_pos (dpos (by omega)), e3, bind_some', getI_nat (at_lt hlt), bind_some', lt_def, lt_def, w64 (n := f + os[i]) (by omega) (by omega), w64s (by omega), drop_at (at_lt hlt)]
    simp only [stepD]
    exact ⟨lr, g1, fun _ => g2 (.inr (by omega))⟩

theorem pd_loop (N : Nat) (hN : 100 ≤ N) {l : List Wagon} (hl : l.length ≤ 96) (hF : ∀ w ∈ l, Fu N w) (hv : ∀ w ∈ l, wagErr w = 0) : ∀ (k n i : Nat) (f last : Int) (out : List Int), k < n → i + k = l.length → 0 ≤ f → f ≤ 4000 * i → -1 ≤ last → last ≤ 410000 → out.length ≤ 6 * i →
    wheel_Distances_1 N l l.length n out f last i = some (dst (l.drop i) f last out)
  | k, 0, i, f, last, out, hn, _, _, _, _, _, _ => by omega
  | 0, n + 1, i, f, last, out, hn, hi, _, _, _, _, _ => by
    rw [wheel_Distances_1, if_neg (dneg (by omega)), List.drop_eq_nil_of_le (by omega)]; rfl
  | k + 1, n + 1, i, f, last, out, hn, hi, hf, hf2, h1, h2, h3 => by
    have hlt : i < l.length := by omega
    have hm := List.getElem_mem hlt
    obtain ⟨hl1, _⟩ := wag_ranges (hv _ hm)
    have hos : ∀ o ∈ of l[i], 0 ≤ o ∧ o ≤ 4000 := ofs_range hl1.1 hl1.2
    have hol := ofs_len (kindOf l[i].number) l[i].length
    have hol : 1 ≤ (of l[i]).length ∧ (of l[i]).length ≤ 6 := hol
    have e := pin_loop N hf (by omega) hos (by omega) (of l[i]).length N 0 last out (by omega) (by omega) h1 h2 (by omega)
    simp only [Int.natCast_zero, List.drop_zero] at e
    obtain ⟨b1, b2, _, b4⟩ := stepD_b (f := f) hf (by omega) (t := of l[i]) (last := last) (out := out) hos h1 h2
    rw [wheel_Distances_1, if_pos (dpos (by omega)), getI_nat (at_lt hlt), bind_some', offsets_ok N (by omega) (hF _ hm) (hv _ hm), bind_some', e, bind_some', lt_def, w64 (n := 10 * l[i].length) (by omega) (by omega), w64 (n := f + 10 * l[i].length) (by omega) (by omega), w64s (by omega), drop_at (at_lt hlt)]
    simp only [dst]
    exact pd_loop N hN hl hF hv k n (i + 1) (f + 10 * l[i].length) _ _ (by omega) (by omega) (by omega) (by omega) b1 b2 (by omega)

/-- The first error of the wagons. -/
def fstE : List Wagon → Int
  | [] => 0
  | w :: l => if wagErr w ≠ 0 then wagErr w else fstE l
theorem fstE_ok {w : Wagon} {l : List Wagon} (h : wagErr w = 0) : fstE (w :: l) = fstE l := if_neg (by simp [h])
theorem fstE_bad {w : Wagon} {l : List Wagon} (h : wagErr w ≠ 0) : fstE (w :: l) = wagErr w := if_pos h
theorem fstE_zero : ∀ {l : List Wagon}, fstE l = 0 → ∀ w ∈ l, wagErr w = 0
  | [], _, w, hw => by simp at hw
  | x :: l, h, w, hw => by
    simp only [fstE] at h
    split at h
    · rename_i h1; exact absurd h h1
    · rename_i h1
      rcases List.mem_cons.1 hw with rfl | hw
      · simpa using h1
      · exact fstE_zero h w hw
theorem pe_loop (N : Nat) (hN : 100 ≤ N) {l : List Wagon} (hl : l.length ≤ 96) (hF : ∀ w ∈ l, Fu N w) : ∀ (k n i : Nat), k < n → i + k = l.length →
    wheel_Distances_0 N l l.length n i = some (if fstE (l.drop i) = 0 then .inl () else .inr (fstE (l.drop i)))
  | k, 0, i, hn, _ => by omega
  | 0, n + 1, i, hn, hi => by rw [wheel_Distances_0, if_neg (dneg (by omega)), List.drop_eq_nil_of_le (by omega)]; rfl
  | k + 1, n + 1, i, hn, hi => by
    have hlt : i < l.length := by omega
    rw [wheel_Distances_0, if_pos (dpos (by omega)), getI_nat (at_lt hlt), bind_some', (wag_ok N (by omega) (hF _ (List.getElem_mem hlt))).1, bind_some', w64s (by omega), drop_at (at_lt hlt)]
    by_cases h : wagErr l[i] = 0
    · rw [if_neg (by simp [h]), fstE_ok h, pe_loop N hN hl hF k n (i + 1) (by omega) (by omega)]
    · rw [if_pos (by simpa using h), fstE_bad h, if_neg h]

theorem rd_loop (N : Nat) (hN : 100 ≤ N) {l : List Wagon} (hl : l.length ≤ 96) (hF : ∀ w ∈ l, Fu N w) : ∀ (k n i : Nat) (f last lastR : Int) (out : List Int), k < n → i + k = l.length → 0 ≤ f → f ≤ 4000 * i → -1 ≤ last → last ≤ 410000 → out.length ≤ 6 * i →
    (0 < i → lastR = last ∧ 0 ≤ last) → (i = 0 → last = -1) →
    r07_Distances_0 N l n out f lastR i = some (if fstE (l.drop i) = 0 then .inl (dst (l.drop i) f last out) else .inr (fstE (l.drop i)))
  | k, 0, i, f, last, lastR, out, hn, _, _, _, _, _, _, _, _ => by omega
  | 0, n + 1, i, f, last, lastR, out, hn, hi, _, _, _, _, _, _, _ => by
    rw [r07_Distances_0, if_neg (dneg (by omega)), List.drop_eq_nil_of_le (by omega)]; rfl
  | k + 1, n + 1, i, f, last, lastR, out, hn, hi, hf, hf2, h1, h2, h3, hr, hz => by
    have hlt : i < l.length := by omega
    have hm := List.getElem_mem hlt
    rw [r07_Distances_0, if_pos (dpos (by omega)), getI_nat (at_lt hlt), bind_some', (Offsets_ok N (by omega) (hF _ hm)).2, bind_some', drop_at (at_lt hlt)]
    unfold offE
    by_cases h : wagErr l[i] = 0
    · obtain ⟨hl1, _⟩ := wag_ranges h
      have hos : ∀ o ∈ of l[i], 0 ≤ o ∧ o ≤ 4000 := ofs_range hl1.1 hl1.2
      have hol : 1 ≤ (of l[i]).length ∧ (of l[i]).length ≤ 6 := ofs_len _ _
      obtain ⟨lr, e, e2⟩ := rin_loop N hf (by omega) hos (j := i) (by omega) (of l[i]).length N 0 last lastR out (by omega) (by omega) (by omega) h1 h2 (by omega) (fun h => hr (by omega)) (fun h => hz (by omega))
      simp only [Int.natCast_zero, List.drop_zero] at e e2
      obtain ⟨b1, b2, b3, b4⟩ := stepD_b (f := f) hf (by omega) (t := of l[i]) (last := last) (out := out) hos h1 h2
      have b3 := b3 (by intro e; rw [e] at hol; simp at hol)
      have e2 := e2 (.inl (by omega))
      subst e2
      rw [if_neg (by simp [h]), if_neg (by simp [h]), fstE_ok h]
      dsimp only
      rw [e, bind_some', bind_some', lt_def, lt_def, w64 (n := 10 * l[i].length) (by omega) (by omega), w64 (n := f + 10 * l[i].length) (by omega) (by omega), w64s (by omega)]
      simp only [dst]
      exact rd_loop N hN hl hF k n (i + 1) (f + 10 * l[i].length) _ _ _ (by omega) (by omega) (by omega) (by omega) b1 b2 (by omega) (fun _ => ⟨rfl, b3⟩) (fun h => by omega)
    · rw [if_pos h, if_pos (by simpa using h), fstE_bad h, if_neg h]

def distE (l : List Wagon) : List Int × Int := if 96 < l.length then ([], 3) else if fstE l ≠ 0 then ([], fstE l) else (dst l 0 (-1) [], 0)
theorem Distances_ok (N : Nat) (hN : 100 ≤ N) {l : List Wagon} (hF : l.length ≤ 96 → ∀ w ∈ l, Fu N w) : wheel_Distances N l = some (distE l) ∧ r07_Distances N l = some (distE l) := by
  unfold wheel_Distances r07_Distances distE
  by_cases h : 96 < l.length
  · rw [if_pos (dpos (by omega)), if_pos (dpos (by omega)), if_pos h]; exact ⟨rfl, rfl⟩
  · have hF := hF (by omega)
    have e1 := pe_loop N hN (by omega) hF l.length N 0 (by omega) (by omega)
    have e2 := rd_loop N hN (by omega) hF l.length N 0 0 (-1) 0 [] (by omega) (by omega) (by omega) (by omega) (by omega) (by omega) (by simp) (fun h => by omega) (fun _ => rfl)
    simp only [Int.natCast_zero, List.drop_zero] at e1 e2
    rw [if_neg (dneg (by omega)), if_neg (dneg (by omega)), if_neg h, e1, e2, bind_some', bind_some']
    by_cases hz : fstE l = 0
    · have e3 := pd_loop N hN (by omega) hF (fstE_zero hz) l.length N 0 0 (-1) [] (by omega) (by omega) (by omega) (by omega) (by omega) (by omega) (by simp)
      simp only [Int.natCast_zero, List.drop_zero] at e3
      rw [if_pos hz, if_pos hz, if_neg (by simp [hz])]
      dsimp only
      rw [e3]
      exact ⟨rfl, rfl⟩
    · rw [if_neg hz, if_neg hz, if_pos hz]; exact ⟨rfl, rfl⟩
theorem dst_len : ∀ {l : List Wagon} {f last : Int} {out : List Int}, (dst l f last out).length ≤ out.length + 6 * l.length
  | [], f, last, out => by simp [dst]
  | w :: l, f, last, out => by
    have h0 : ∀ (t : List Int) (f last : Int) (out : List Int), (stepD f t last out).1.length ≤ out.length + t.length := by
      intro t
      induction t with
      | nil => intro f last out; simp [stepD]
      | cons o t ih =>
        intro f last out
        simp only [stepD, List.length_cons]
        have := ih f (f + o) (if 0 ≤ last then out ++ [f + o - last] else out)
        split at this
        · rename_i h; rw [if_pos h]; simp only [List.length_append, List.length_cons, List.length_nil] at this; omega
        · rename_i h; rw [if_neg h]; omega
    have h1 := h0 (of w) f last out
    have h2 : (of w).length ≤ 6 := (ofs_len _ _).2
    have h3 := dst_len (l := l) (f := f + 10 * w.length) (last := (stepD f (of w) last out).2) (out := (stepD f (of w) last out).1)
    simp only [dst, List.length_cons]
    omega
theorem distE_len {l : List Wagon} : (distE l).1.length ≤ 600 := by
  unfold distE
  split
  · simp
  · split
    · simp
    · have := dst_len (l := l) (f := 0) (last := -1) (out := [])
      simp only [List.length_nil] at this
      show (dst l 0 (-1) []).length ≤ 600
      omega

/-! ### Equal lists -/
theorem gi_loop (N : Nat) {l : List Int} (hl : l.length ≤ 60000) : ∀ (k n i : Nat), k < n → i + k = l.length → gen_Ints_0 N l l n i = some (.inl ())
  | k, 0, i, hn, _ => by omega
  | 0, n + 1, i, hn, hi => by rw [gen_Ints_0, if_neg (dneg (by omega))]
  | k + 1, n + 1, i, hn, hi => by
    have hlt : i < l.length := by omega
    rw [gen_Ints_0, if_pos (dpos (by omega)), getI_nat (at_lt hlt), bind_some', bind_some', if_neg (by simp), lt_def, w64s (by omega)]
    exact gi_loop N hl k n (i + 1) (by omega) (by omega)
theorem gi_ok (N : Nat) {l : List Int} (hN : l.length < N) (hl : l.length ≤ 60000) : gen_Ints N l l = some true := by
  have h := gi_loop N hl l.length N 0 (by omega) (by omega)
  simp only [Int.natCast_zero] at h
  unfold gen_Ints
  rw [if_neg (by simp), h]; rfl

/-! ### The law -/
theorem off5_loop (N : Nat) (hN : 3000 ≤ N) {l : List Wagon} (hl : l.length ≤ 96) (hF : ∀ w ∈ l, Fu N w) : ∀ (k n i : Nat), k < n → i + k = l.length → l07_WheelOffsets_5 N l n i = some (.inl ())
  | k, 0, i, hn, _ => by omega
  | 0, n + 1, i, hn, hi => by rw [l07_WheelOffsets_5, if_neg (dneg (by omega))]
  | k + 1, n + 1, i, hn, hi => by
    have hlt : i < l.length := by omega
    obtain ⟨o1, o2⟩ := Offsets_ok N (by omega) (hF _ (List.getElem_mem hlt))
    have hol : (offE l[i]).1.length ≤ 6 := by
      unfold offE
      split
      · simp
      · exact (ofs_len _ _).2
    have e6 : l07_WheelOffsets_6 N (offE l[i]).1 (offE l[i]).2 (offE l[i]).1 (offE l[i]).2 = some false := by
      unfold l07_WheelOffsets_6
      rw [gi_ok N (by omega) (by omega), bind_some', if_neg (by decide)]
      simp
    rw [l07_WheelOffsets_5, if_pos (dpos (by omega)), getI_nat (at_lt hlt), bind_some', o1, bind_some', bind_some', o2, bind_some', e6, bind_some', if_neg (by decide), lt_def, w64s (by omega)]
    exact off5_loop N hN hl hF k n (i + 1) (by omega) (by omega)

theorem off_loop' (N : Nat) (hN : 3000 ≤ N) {w : Wagon} {l : List Wagon} (hw : Fu N w) (hl : ∀ x ∈ l, Fu N x) : ∀ (k n i : Nat) (s : Maker) (c : Int), k < n → i + k = 5 → Mk c s → c + 40000 * k ≤ 1000000 → l07_WheelOffsets_0 N l w n s i = some (.inl ())
  | k, 0, i, s, c, hn, _, _, _ => by omega
  | 0, n + 1, i, s, c, hn, hi, _, _ => by rw [l07_WheelOffsets_0, if_neg (dneg (by omega))]
  | k + 1, n + 1, i, s, c, hn, hi, hs, hc => by
    obtain ⟨x, s0, h0, m0, l0, d0⟩ := wagons_ok N (by omega) 6 (by omega) hs (by omega)
    have hx : ∀ y ∈ x, Fu N y := fun y hy => wagErr_fu (d0.ok y hy) (by omega)
    have k1 : ∃ s1 x1, l07_WheelOffsets_1 N l w s0 i x = some (s1, x1) ∧ Mk (c + 20000) s1 ∧ x1.length ≤ 21 ∧ ∀ y ∈ x1, Fu N y := by
      unfold l07_WheelOffsets_1
      have k2 : ∃ c2, l07_WheelOffsets_2 N i x = some c2 ∧ (c2 = true → 0 < x.length) := by
        unfold l07_WheelOffsets_2
        by_cases e : (i : Int) = 3
        · rw [if_pos (by simp [e]), lt_def]; exact ⟨_, rfl, fun h => by simpa using h⟩
        · rw [if_neg (by simpa using e)]; exact ⟨_, rfl, fun h => by simp at h⟩
      obtain ⟨c2, k2, hc2⟩ := k2
      rw [k2, bind_some']
      cases c2 with
      | true =>
        have hp := hc2 rfl
        obtain ⟨q, s4, e4, q0, q1, m4⟩ := next_ok N (x.length : Int) (by omega) (by omega) m0 (by omega)
        obtain ⟨q, rfl⟩ := Int.eq_ofNat_of_zero_le q0
        have hq : q < x.length := by omega
        have hw' := wagErr_len (d0.ok _ (List.getElem_mem hp))
        obtain ⟨w', s5, e5, m5, b1, b2⟩ := spoilw_ok N m4 (by omega) (w := x[0]) (by omega) (by omega)
        rw [if_pos rfl, e4, bind_some', show getI x (0 : Int) = some x[0] from getI_nat (i := 0) (at_lt hp), bind_some']
        dsimp only
        rw [e5, bind_some', getI_nat (at_lt hq), bind_some', lt_def]
        refine ⟨_, _, rfl, m5.le (by omega), by simp; omega, fun y hy => ?_⟩
        rcases List.mem_or_eq_of_mem_set hy with hy | rfl
        · exact hx y hy
        · exact fu_900 (by omega) b1 b2
      | false =>
        rw [if_neg (by decide)]
        have k3 : ∃ c3, l07_WheelOffsets_3 N l i = some c3 ∧ (c3 = true → l.length ≤ 20) := by
          unfold l07_WheelOffsets_3
          by_cases e : (i : Int) = 4
          · rw [if_pos (by simp [e]), lt_def]; exact ⟨_, rfl, fun h => by simp at h; omega⟩
          · rw [if_neg (by simpa using e)]; exact ⟨_, rfl, fun h => by simp at h⟩
        obtain ⟨c3, k3, hc3⟩ := k3
        rw [k3, bind_some']
        cases c3 with
        | true =>
          have hp := hc3 rfl
          rw [if_pos rfl, appI_ok (by simp; omega), bind_some', appI_ok (by simp; omega), bind_some']
          refine ⟨_, _, rfl, m0.le (by omega), by simp; omega, fun y hy => ?_⟩
          simp only [List.nil_append, List.mem_append, List.mem_singleton] at hy
          rcases hy with hy | rfl
          · exact hl y hy
          · exact hw
        | false => rw [if_neg (by decide)]; exact ⟨_, _, rfl, m0.le (by omega), by omega, hx⟩
    obtain ⟨s1, x1, k1, m1, l1, hx1⟩ := k1
    obtain ⟨d1, d2⟩ := Distances_ok N (by omega) (l := x1) (fun _ => hx1)
    have hdl := distE_len (l := x1)
    have e4 : l07_WheelOffsets_4 N (distE x1).1 (distE x1).2 (distE x1).1 (distE x1).2 = some false := by
      unfold l07_WheelOffsets_4
      rw [gi_ok N (by omega) (by omega), bind_some', if_neg (by decide)]
      simp
    have e5 := off5_loop N hN (l := x1) (by omega) hx1 x1.length N 0 (by omega) (by omega)
    simp only [Int.natCast_zero] at e5
    rw [l07_WheelOffsets_0, if_pos (dpos (by omega)), show (6 : Int) = ((6 : Nat) : Int) from rfl, h0, bind_some', k1, bind_some']
    dsimp only
    rw [d1, d2, bind_some', bind_some', e4, bind_some', if_neg (by decide), e5, bind_some', lt_def, w64s (by omega)]
    exact off_loop' N hN hw hl k n (i + 1) s1 (c + 20000) (by omega) (by omega) m1 (by omega)

theorem woff_ok (N : Nat) (hN : 3000 ≤ N) (x0 : List Int) (w : Wagon) (l : List Wagon) (hw : Fu N w) (hl : ∀ x ∈ l, Fu N x) : l07_WheelOffsets N x0 w l = some true := by
  have h0 := off_loop' N hN hw hl 5 N 0 (Maker.mk x0 0) 0 (by omega) (by omega) (mk0 x0) (by omega)
  simp only [Int.natCast_zero] at h0
  unfold l07_WheelOffsets gen_New
  rw [bind_some', h0, bind_some']
  dsimp only
  rw [sane07' (by omega)]; rfl
theorem woffT (x0 : List Int) (w0 : gSl (gInt .i64) x0) (w : Wagon) (hw : gStr w.number ∧ gInt .i64 w.length ∧ gInt .i64 w.axles ∧ gInt .i64 w.mass ∧ gInt .i64 w.brake ∧ gInt .i64 w.goods ∧ gAny w.gentle ∧ gStr w.dest)
    (l : List Wagon) (hl : gSl (fun x : Wagon => gStr x.number ∧ gInt .i64 x.length ∧ gInt .i64 x.axles ∧ gInt .i64 x.mass ∧ gInt .i64 x.brake ∧ gInt .i64 x.goods ∧ gAny x.gentle ∧ gStr x.dest) l) : ∃ N, l07_WheelOffsets N x0 w l = some true := by
  have key : ∀ x : Wagon, (gStr x.number ∧ gInt .i64 x.length ∧ gInt .i64 x.axles ∧ gInt .i64 x.mass ∧ gInt .i64 x.brake ∧ gInt .i64 x.goods ∧ gAny x.gentle ∧ gStr x.dest) → Fu (maxLen + 3000) x := fun x h => by
    obtain ⟨h1, _, _, _, _, _, _, h2⟩ := h
    have h3 : maxLen ≤ 9223372036854775807 := by decide
    simp only [gStr] at h1 h2
    exact ⟨⟨by omega, by omega⟩, by omega, by omega⟩
  exact ⟨maxLen + 3000, woff_ok _ (by omega) x0 w l (key w hw) fun x hx => key x (hl.2 x hx)⟩
end Go.W
