/- Consist: reading. -/
import Derived.Test.YtpfkolbgdmmakaaLCon
set_option linter.unusedVariables false
set_option linter.unusedSimpArgs false
set_option maxRecDepth 100000
namespace Go.W
open Go.AM

/-! ### What is read -/
def okb (c : UInt8) : Bool := decide ((c.toNat : Int) / 16 ≤ 9) && decide ((c.toNat : Int) % 16 ≤ 9)
def un (l : List UInt8) : List UInt8 := l.flatMap fun c => [u8 (48 + (c.toNat : Int) / 16), u8 (48 + (c.toNat : Int) % 16)]
def okg (g : UInt8) : Bool := decide ((g.toNat : Int) ≤ 25) && decide ((g.toNat : Int) % 16 ≤ 9)
def w2 (a b : UInt8) : Int := (a.toNat : Int) * 256 + b.toNat
/-- One wagon, whether its bytes have the form of one, and what follows. -/
def p1 : List UInt8 → Option (Wagon × Bool × List UInt8)
  | a0 :: a1 :: a2 :: a3 :: a4 :: a5 :: l1 :: l0 :: ax :: m1 :: m0 :: b1 :: b0 :: g :: d :: t =>
    if d.toNat ≤ t.length then some (Wagon.mk (un [a0, a1, a2, a3, a4, a5]) (w2 l1 l0) ax.toNat (w2 m1 m0) (w2 b1 b0) ((g.toNat : Int) % 16) (decide (16 ≤ (g.toNat : Int))) (t.take d.toNat),
      [a0, a1, a2, a3, a4, a5].all okb && okg g, t.drop d.toNat) else none
  | _ => none
def pN : Nat → List UInt8 → Option (List (Wagon × Bool) × List UInt8)
  | 0, c => some ([], c)
  | k + 1, c => match p1 c with
    | none => none
    | some (w, ok, c') => match pN k c' with
      | none => none
      | some (r, e) => some ((w, ok) :: r, e)

theorem p1_len {c c' : List UInt8} {w : Wagon} {ok : Bool} (h : p1 c = some (w, ok, c')) : c'.length + 15 ≤ c.length := by
  unfold p1 at h
  split at h
  · split at h
    · injection h with h
      injection h with _ h
      injection h with _ h
      subst h
      simp only [List.length_cons, List.length_drop]
      omega
    · cases h
  · cases h
theorem pN_len : ∀ {k : Nat} {c e : List UInt8} {r : List (Wagon × Bool)}, pN k c = some (r, e) → e.length ≤ c.length ∧ r.length = k
  | 0, c, e, r, h => by simp only [pN, Option.some.injEq, Prod.mk.injEq] at h; obtain ⟨rfl, rfl⟩ := h; simp
  | k + 1, c, e, r, h => by
    simp only [pN] at h
    split at h
    · cases h
    · rename_i w ok c' h1
      split at h
      · cases h
      · rename_i r' e' h2
        injection h with h
        injection h with h3 h4
        subst h3; subst h4
        have := p1_len h1
        have := pN_len h2
        simp only [List.length_cons]
        omega

/-- The parts of a wagon's bytes, by place. -/
theorem p1_some {c : List UInt8} {x : Wagon × Bool × List UInt8} (h : p1 c = some x) : ∃ a0 a1 a2 a3 a4 a5 l1 l0 ax m1 m0 b1 b0 g d t, c = a0 :: a1 :: a2 :: a3 :: a4 :: a5 :: l1 :: l0 :: ax :: m1 :: m0 :: b1 :: b0 :: g :: d :: t ∧ d.toNat ≤ t.length ∧
    x = (Wagon.mk (un [a0, a1, a2, a3, a4, a5]) (w2 l1 l0) ax.toNat (w2 m1 m0) (w2 b1 b0) ((g.toNat : Int) % 16) (decide (16 ≤ (g.toNat : Int))) (t.take d.toNat), [a0, a1, a2, a3, a4, a5].all okb && okg g, t.drop d.toNat) := by
  unfold p1 at h
  split at h
  · rename_i a0 a1 a2 a3 a4 a5 l1 l0 ax m1 m0 b1 b0 g d t
    split at h
    · rename_i hd
      injection h with h
      exact ⟨a0, a1, a2, a3, a4, a5, l1, l0, ax, m1, m0, b1, b0, g, d, t, rfl, hd, h.symm⟩
    · cases h
  · cases h
theorem uncons {α : Type} {n : Nat} {c : List α} (h : n + 1 ≤ c.length) : ∃ a c', c = a :: c' ∧ n ≤ c'.length := by
  cases c with
  | nil => simp at h
  | cons a c => exact ⟨a, c, rfl, by simpa using h⟩
theorem p1_none {c : List UInt8} (h : p1 c = none) : c.length < 15 ∨ ∃ d, c[14]? = some d ∧ c.length < 15 + d.toNat := by
  by_cases hl : c.length < 15
  · exact .inl hl
  · have q0 : 15 ≤ c.length := by omega
    clear hl
    obtain ⟨a0, c, rfl, q1⟩ := uncons q0
    obtain ⟨a1, c, rfl, q2⟩ := uncons q1
    obtain ⟨a2, c, rfl, q3⟩ := uncons q2
    obtain ⟨a3, c, rfl, q4⟩ := uncons q3
    obtain ⟨a4, c, rfl, q5⟩ := uncons q4
    obtain ⟨a5, c, rfl, q6⟩ := uncons q5
    obtain ⟨l1, c, rfl, q7⟩ := uncons q6
    obtain ⟨l0, c, rfl, q8⟩ := uncons q7
    obtain ⟨ax, c, rfl, q9⟩ := uncons q8
    obtain ⟨m1, c, rfl, q10⟩ := uncons q9
    obtain ⟨m0, c, rfl, q11⟩ := uncons q10
    obtain ⟨b1, c, rfl, q12⟩ := uncons q11
    obtain ⟨b0, c, rfl, q13⟩ := uncons q12
    obtain ⟨g, c, rfl, q14⟩ := uncons q13
    obtain ⟨d, c, rfl, q15⟩ := uncons q14
    refine .inr ⟨d, rfl, ?_⟩
    simp only [p1] at h
    split at h
    · cases h
    · simp only [List.length_cons]; omega

/-! ### The end -/
theorem end_over (N : Nat) {b : List UInt8} {k0 : UInt8} (hb : b[0]? = some k0) (hl : b.length ≤ 60000) : ∀ (n i at_ : Nat), i ≤ k0.toNat → 1 ≤ n → b.length < at_ → at_ ≤ 70000 → ∃ r, consist_end_0 N b n at_ i = some r ∧ (r = .inr (0, false) ∨ r = .inl (at_ : Int)) := fun n i at_ hi hn ha ha2 => by
  obtain ⟨n, rfl⟩ : ∃ m, n = m + 1 := ⟨n - 1, by omega⟩
  have hk := u8_lt k0
  rw [consist_end_0, show getI b (0 : Int) = some k0 from getI_nat (i := 0) hb, bind_some', w64u]
  by_cases h : (i : Int) < k0.toNat
  · rw [if_pos (dpos h), lt_def, w64 (n := (at_ : Int) + 15) (by omega) (by omega), if_pos (dpos (by omega))]
    exact ⟨_, rfl, .inl rfl⟩
  · rw [if_neg (dneg h)]
    exact ⟨_, rfl, .inr rfl⟩

theorem end_loop (N : Nat) {b : List UInt8} {k0 : UInt8} (hb : b[0]? = some k0) (hl : b.length ≤ 60000) : ∀ (k n i at_ : Nat), k + 1 < n → i + k = k0.toNat → at_ ≤ b.length →
    (∀ r e, pN k (b.drop at_) = some (r, e) → consist_end_0 N b n at_ i = some (.inl ((b.length : Int) - e.length)) ∧ r06_End_0 N b n at_ i = some (.inl ((b.length : Int) - e.length))) ∧
    (pN k (b.drop at_) = none → r06_End_0 N b n at_ i = some (.inr (-1)) ∧ ∃ r, consist_end_0 N b n at_ i = some r ∧ (r = .inr (0, false) ∨ ∃ y : Int, r = .inl y ∧ (b.length : Int) < y ∧ y ≤ 70000))
  | k, 0, i, at_, hn, _, _ => by omega
  | 0, n + 1, i, at_, hn, hi, ha => by
    have hk := u8_lt k0
    rw [consist_end_0, r06_End_0, show getI b (0 : Int) = some k0 from getI_nat (i := 0) hb, bind_some', bind_some', w64u, if_neg (dneg (by omega)), if_neg (dneg (by omega))]
    refine ⟨fun r e h => ?_, fun h => by simp [pN] at h⟩
    simp only [pN, Option.some.injEq, Prod.mk.injEq] at h
    obtain ⟨_, rfl⟩ := h
    rw [List.length_drop, show (b.length : Int) - ((b.length - at_ : Nat) : Int) = at_ by omega]
    exact ⟨rfl, rfl⟩
  | k + 1, n + 1, i, at_, hn, hi, ha => by
    have hk := u8_lt k0
    have h15 : IntKind.wrap .i64 ((at_ : Int) + 15) = ((at_ + 15 : Nat) : Int) := by rw [w64 (by omega) (by omega)]; omega
    rw [consist_end_0, r06_End_0, show getI b (0 : Int) = some k0 from getI_nat (i := 0) hb, bind_some', bind_some', w64u, if_pos (dpos (by omega)), if_pos (dpos (by omega)), lt_def, h15]
    have hcl : (b.drop at_).length = b.length - at_ := by simp
    by_cases hs : b.length < at_ + 15
    · rw [if_pos (dpos (by omega)), if_pos (dpos (by omega))]
      refine ⟨fun r e h => ?_, fun h => ⟨rfl, _, rfl, .inl rfl⟩⟩
      exfalso
      simp only [pN] at h
      split at h
      · cases h
      · rename_i h1
        have := p1_len h1
        omega
    · have hd14 : at_ + 14 < b.length := by omega
      generalize hd : b[at_ + 14] = d
      have hdu := u8_lt d
      have g14 : (b.drop at_)[14]? = some d := by rw [List.getElem?_drop, at_lt hd14, hd]
      have e1 : IntKind.wrap .i64 (((at_ + 15 : Nat) : Int) - 1) = ((at_ + 14 : Nat) : Int) := by rw [w64 (by omega) (by omega)]; omega
      have e2 : IntKind.wrap .i64 ((at_ : Int) + 14) = ((at_ + 14 : Nat) : Int) := by rw [w64 (by omega) (by omega)]; omega
      have e3 : IntKind.wrap .i64 (((at_ + 15 : Nat) : Int) + (d.toNat : Int)) = ((at_ + 15 + d.toNat : Nat) : Int) := by rw [w64 (by omega) (by omega)]; omega
      have e4 : IntKind.wrap .i64 ((at_ : Int) + IntKind.wrap .i64 (15 + (d.toNat : Int))) = ((at_ + 15 + d.toNat : Nat) : Int) := by rw [w64 (n := 15 + (d.toNat : Int)) (by omega) (by omega), w64 (by omega) (by omega)]; omega
      rw [if_neg (dneg (by omega)), if_neg (dneg (by omega)), e1, e2, getI_nat (at_lt hd14), hd, bind_some', bind_some', w64u, lt_def, lt_def, lt_def, e3, e4, w64s (by omega)]
      by_cases hs2 : b.length < at_ + 15 + d.toNat
      · rw [if_pos (dpos (by omega))]
        obtain ⟨r, hr, hr2⟩ := end_over N hb hl n (i + 1) (at_ + 15 + d.toNat) (by omega) (by omega) hs2 (by omega)
        refine ⟨fun r e h => ?_, fun h => ⟨rfl, r, hr, hr2.imp id fun h => ⟨_, h, by omega, by omega⟩⟩⟩
        exfalso
        simp only [pN] at h
        split at h
        · cases h
        · rename_i h1
          obtain ⟨a0, a1, a2, a3, a4, a5, l1, l0, ax, m1, m0, b1, b0, g, d', t, hc, hdt, _⟩ := p1_some h1
          rw [hc] at g14 hcl
          simp at g14 hcl
          subst g14
          omega
      · rw [if_neg (dneg (by omega)), lt_def]
        obtain ⟨i1, i2⟩ := end_loop N hb hl k n (i + 1) (at_ + 15 + d.toNat) (by omega) (by omega) (by omega)
        have hp : ∃ w ok, p1 (b.drop at_) = some (w, ok, b.drop (at_ + 15 + d.toNat)) := by
          cases hp : p1 (b.drop at_) with
          | none =>
            rcases p1_none hp with h | ⟨d', h1, h2⟩
            · omega
            · rw [g14] at h1; injection h1 with h1; subst h1; omega
          | some x =>
            obtain ⟨a0, a1, a2, a3, a4, a5, l1, l0, ax, m1, m0, b1, b0, g, d', t, hc, hdt, rfl⟩ := p1_some hp
            have g14' := g14
            rw [hc] at g14'
            simp at g14'
            subst g14'
            rw [show b.drop (at_ + 15 + d'.toNat) = t.drop d'.toNat from by
              rw [show at_ + 15 + d'.toNat = at_ + (15 + d'.toNat) by omega, ← List.drop_drop, hc, ← List.drop_drop]; rfl]
            exact ⟨_, _, rfl⟩
        obtain ⟨w, ok, hp⟩ := hp
        simp only [pN, hp]
        refine ⟨fun r e h => ?_, fun h => ?_⟩
        · split at h
          · cases h
          · rename_i r' e' h2
            injection h with h
            injection h with _ h4
            subst h4
            exact i1 r' e' h2
        · split at h
          · rename_i h2
            exact i2 h2
          · cases h

/-- Where an encoding ends. -/
def endO (L : Nat) : Option (List (Wagon × Bool) × List UInt8) → Int
  | none => -1
  | some (_, e) => if e.length < 2 then -1 else (L : Int) - e.length + 2
def endI : List UInt8 → Int
  | [] => -1
  | k :: t => endO (t.length + 1) (pN k.toNat t)
theorem end_ok (N : Nat) (hN : 1000 ≤ N) {b : List UInt8} (hl : b.length ≤ 60000) : r06_End N b = some (endI b) ∧ ∃ n ok, consist_end N b = some (n, ok) ∧ (ok = true ↔ 0 ≤ endI b) ∧ (ok = true → n = endI b) := by
  unfold r06_End consist_end
  cases b with
  | nil => exact ⟨rfl, 0, false, rfl, by simp [endI], by simp⟩
  | cons k t =>
    have hk := u8_lt k
    obtain ⟨h1, h2⟩ := end_loop N (b := k :: t) (k0 := k) rfl hl k.toNat N 0 1 (by omega) (by omega) (by simp)
    simp only [Int.natCast_zero, Int.natCast_one, List.drop_succ_cons, List.drop_zero] at h1 h2
    rw [if_neg (by simp only [beq_iff_eq, List.length_cons]; omega), if_neg (by simp only [beq_iff_eq, List.length_cons]; omega)]
    have hL : (k :: t).length = t.length + 1 := rfl
    simp only [endI]
    rw [hL] at h1 h2 hl ⊢
    generalize ho : pN k.toNat t = o at h1 h2 ⊢
    cases o with
    | none =>
      obtain ⟨g1, r, g2, g3⟩ := h2 rfl
      rw [g1, g2, bind_some', bind_some']
      refine ⟨rfl, ?_⟩
      rcases g3 with rfl | ⟨y, rfl, hy, hy2⟩
      · exact ⟨0, false, rfl, by simp [endO], by simp⟩
      · dsimp only
        rw [w64 (n := y + 2) (by omega) (by omega), lt_def, lt_def]
        refine ⟨_, _, rfl, ?_, ?_⟩
        · simp only [endO, decide_eq_true_eq]; omega
        · intro h; simp at h; omega
    | some x =>
      obtain ⟨r, e⟩ := x
      obtain ⟨g1, g2⟩ := h1 r e rfl
      have hel := (pN_len ho).1
      rw [g1, g2, bind_some', bind_some']
      dsimp only
      rw [w64 (n := ((t.length + 1 : Nat) : Int) - e.length + 2) (by omega) (by omega), lt_def, lt_def, lt_def]
      simp only [endO]
      by_cases h : e.length < 2
      · rw [if_pos (dpos (by omega)), if_pos h]
        refine ⟨rfl, _, _, rfl, ?_, fun h => ?_⟩
        · rw [decide_eq_true_eq]; omega
        · simp at h; omega
      · rw [if_neg (dneg (by omega)), if_neg h]
        refine ⟨rfl, _, _, rfl, ?_, fun h => rfl⟩
        rw [decide_eq_true_eq]; omega
end Go.W
