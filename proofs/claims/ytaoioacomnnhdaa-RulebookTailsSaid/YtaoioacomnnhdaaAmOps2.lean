/- Slices, structs, variables in memory: steps of the abstract machine as a program that writes proofs uses them. -/
import Derived.Test.YtaoioacomnnhdaaAmOps
set_option linter.unusedSimpArgs false
set_option linter.unusedVariables false
namespace Go.AM

/-- The element at an int. -/
def getI {α : Type} (xs : List α) (i : Int) : Option α := if 0 ≤ i then xs[i.toNat]? else none

theorem getI_some {α : Type} {xs : List α} {i : Int} {x : α} (h : getI xs i = some x) : 0 ≤ i ∧ i < xs.length ∧ xs[i.toNat]? = some x := by
  unfold getI at h
  split at h
  · have := (List.getElem?_eq_some_iff.1 h).1
    exact ⟨‹_›, by omega, h⟩
  · cases h

/-- Cells that may be read at a pointer: frozen ones; any. -/
def CR (z : Nat → Blk) (p : Value) (cs : List Value) : Prop := ∃ b o, p = .pointer (some ⟨b, o, none⟩) ∧ cellsAt z b o cs
def CM (m : Mem) (p : Value) (cs : List Value) : Prop := ∃ b o, p = .pointer (some ⟨b, o, none⟩) ∧ ∀ (i : Nat) (u : Value), cs[i]? = some u → m.load b (o + i) = some u

theorem CR.cm {z : Nat → Blk} {m : Mem} {p : Value} {cs : List Value} (h : CR z p cs) (hz : Fz z m) : CM m p cs := by
  obtain ⟨b, o, rfl, h⟩ := h
  exact ⟨b, o, rfl, fun i u hi => ldz_load hz (h i u hi)⟩
theorem CM.own {m : Mem} {b : Nat} {cs : List Value} {t : TypeId} (h : m.blk b = .own cs t) : CM m (.pointer (some ⟨b, 0, none⟩)) cs :=
  ⟨b, 0, rfl, fun i u hi => by simp only [Mem.load, h, Nat.zero_add]; exact hi⟩

section
variable {P : Program} {ρ : Operand → Value} {o : Oper} {α : Type} {T : Ty α} {z : Nat → Blk} {m : Mem} {xs : List α} {v : Value} {x y : Operand} {t e u : TypeId} {i : TypeInfo} {d : TypeDesc}

theorem rdN_of {b : Nat} : ∀ (n off : Nat) (cs : List Value), cs.length = n → (∀ (i : Nat) (u : Value), cs[i]? = some u → m.load b (off + i) = some u) → rdN m b off n = some cs
  | 0, off, cs, hl, _ => by rw [List.eq_nil_of_length_eq_zero hl]; rfl
  | n + 1, off, c :: cs, hl, h => by
    have h0 := h 0 c (by simp)
    have ih := rdN_of n (off + 1) cs (by simpa using hl) fun i u hi => by
      have := h (i + 1) u (by simpa using hi)
      rw [show off + 1 + i = off + (i + 1) by omega]; exact this
    simp only [Nat.add_zero] at h0
    simp only [rdN, h0, ih]
  | n + 1, off, [], hl, _ => by simp at hl

/-! ### Slices that may be read -/

theorem pLenR (h : o.op = .call { callee := .builtin .len, args := #[x], argTypes := #[t] }) (ht : P.underlying t = some (.slice e)) (hx : ρ x = v) (hs : SlR T z xs v) : PureR P ρ o (.int .i64 xs.length) := by
  obtain ⟨a, c, rfl⟩ := hs.len
  exact .len x t e a _ c h ht hx
theorem pLenO (h : o.op = .call { callee := .builtin .len, args := #[x], argTypes := #[t] }) (ht : P.underlying t = some (.slice e)) (hx : ρ x = v) (hs : Ow T z m xs v) : PureR P ρ o (.int .i64 xs.length) := by
  obtain ⟨a, c, rfl⟩ := hs.len
  exact .len x t e a _ c h ht hx

theorem pIdxR {k : IntKind} {n : Int} {a : α} (h : o.op = .indexAddr t x y) (ht : P.underlying t = some (.slice e)) (hi : P.info? e = some i) (hsz : i.size = T.sz) (hx : ρ x = v) (hy : ρ y = .int k n) (hs : SlR T z xs v) (hg : getI xs n = some a) :
    ∃ p cs, PureR P ρ o p ∧ T.rd z a cs ∧ CR z p cs := by
  obtain ⟨h0, h1, h2⟩ := getI_some hg
  rcases hs with ⟨_, rfl⟩ | ⟨b, off, c, rfl, _, _, h4⟩
  · simp at h2
  · obtain ⟨cs, g1, g2⟩ := h4 _ a h2
    exact ⟨_, cs, .indexAddr t x y e i b off _ c k n h ht hi hx hy h0 h1, g1, b, _, rfl, by rw [hsz]; exact g2⟩

/-- A pointer to an element of a slice of the call's own. -/
def PtO (s : Nat) (v : Value) (n : Nat) (p : Value) : Prop := ∃ b l c, v = .slice (some ⟨b, 0, none⟩) l c ∧ p = .pointer (some ⟨b, n * s, none⟩)

theorem pIdxO {k : IntKind} {n : Int} {a : α} (h : o.op = .indexAddr t x y) (ht : P.underlying t = some (.slice e)) (hi : P.info? e = some i) (hsz : i.size = T.sz) (hx : ρ x = v) (hy : ρ y = .int k n) (hs : Ow T z m xs v) (hg : getI xs n = some a) :
    ∃ p cs, PureR P ρ o p ∧ T.rd z a cs ∧ CM m p cs ∧ PtO T.sz v n.toNat p := by
  obtain ⟨h0, h1, h2⟩ := getI_some hg
  rcases hs with ⟨_, rfl⟩ | ⟨b, L, c, rfl, hb, _, _, hl, _, h4⟩
  · simp at h2
  · obtain ⟨cs, g1, g2⟩ := h4 _ a h2
    refine ⟨_, cs, .indexAddr t x y e i b 0 _ c k n h ht hi hx hy h0 h1, g1, ⟨b, _, rfl, fun j u hj => ?_⟩, ⟨b, _, c, rfl, by rw [hsz, Nat.zero_add]⟩⟩
    simp only [Mem.load, hb, Nat.zero_add, hsz]
    exact g2 j u hj

theorem rdOne {p : Value} {c : Value} {cs : List Value} (h : o.op = .load t x) (ht : P.underlying t = some d) (hd : aggT d = false) (hx : ρ x = p) (hc : CM m p (c :: cs)) : ReadR P ρ o m c := by
  obtain ⟨b, off, rfl, hc⟩ := hc
  exact .load t x b off d c h hx ht hd (by have := hc 0 c (by simp); simpa using this)
theorem rdAgg {p : Value} {cs cs' : List Value} (h : o.op = .load t x) (ht : P.underlying t = some d) (hd : aggT d = true) (hi : P.info? t = some i) (hx : ρ x = p) (hc : CM m p cs') (hsz : i.size ≤ cs'.length) (hcs : cs = cs'.take i.size) : ReadR P ρ o m (.agg cs.toArray) := by
  obtain ⟨b, off, rfl, hc⟩ := hc
  subst hcs
  refine .loadA t x b off d i _ h hx ht hd hi (rdN_of _ _ _ (by simp [hsz]) fun k u hk => ?_)
  rw [List.getElem?_take] at hk
  split at hk
  · exact hc k u hk
  · cases hk

theorem pFieldAddr {n : Nat} {fs : Array Field} {f : Field} {p : Value} (h : o.op = .fieldAddr t x n) (ht : P.underlying t = some (.struct fs)) (hf : fs[n]? = some f) (hi : P.info? f.type = some i) (hs : i.size ≠ 0) (hx : ρ x = p) {b off : Nat} (hp : p = .pointer (some ⟨b, off, none⟩)) :
    PureR P ρ o (.pointer (some ⟨b, off + f.offset, none⟩)) := .fieldAddr t x n fs f i b off h ht hf hi hs (by rw [hx, hp])

/-- A field's place behind a pointer. -/
theorem pFieldAddrM {n : Nat} {fs : Array Field} {f : Field} {p : Value} {cs : List Value} (h : o.op = .fieldAddr t x n) (ht : P.underlying t = some (.struct fs)) (hf : fs[n]? = some f) (hi : P.info? f.type = some i) (hs : i.size ≠ 0) (hx : ρ x = p) (hc : CM m p cs) :
    ∃ q, PureR P ρ o q ∧ CM m q (cs.drop f.offset) := by
  obtain ⟨b, off, rfl, hc⟩ := hc
  exact ⟨_, .fieldAddr t x n fs f i b off h ht hf hi hs hx, b, _, rfl, fun k u hk => by
    rw [List.getElem?_drop] at hk
    rw [Nat.add_assoc]; exact hc _ u hk⟩
theorem pFieldAddrR {n : Nat} {fs : Array Field} {f : Field} {p : Value} {cs : List Value} (h : o.op = .fieldAddr t x n) (ht : P.underlying t = some (.struct fs)) (hf : fs[n]? = some f) (hi : P.info? f.type = some i) (hs : i.size ≠ 0) (hx : ρ x = p) (hc : CR z p cs) :
    ∃ q, PureR P ρ o q ∧ CR z q (cs.drop f.offset) := by
  obtain ⟨b, off, rfl, hc⟩ := hc
  exact ⟨_, .fieldAddr t x n fs f i b off h ht hf hi hs hx, b, _, rfl, fun k u hk => by
    rw [List.getElem?_drop] at hk
    rw [Nat.add_assoc]; exact hc _ u hk⟩

/-- A part of a slice that may be read. -/
def cutI {α : Type} (xs : List α) (a b : Int) : Option (List α) := if 0 ≤ a ∧ a ≤ b ∧ b ≤ xs.length then some ((xs.take b.toNat).drop a.toNat) else none
theorem cutI_some {xs : List α} {a b : Int} {r : List α} (h : cutI xs a b = some r) : 0 ≤ a ∧ a ≤ b ∧ b ≤ xs.length ∧ r = (xs.take b.toNat).drop a.toNat := by
  unfold cutI at h
  split at h
  · rename_i hc
    cases h
    exact ⟨hc.1, hc.2.1, hc.2.2, rfl⟩
  · cases h

/-- The bounds of a cut, as ints. -/
def lowI (ρ : Operand → Value) (lo : Option Operand) (n : Int) : Prop :=
  match lo with
  | none => n = 0
  | some y => ∃ k, ρ y = .int k n
def highI (ρ : Operand → Value) (hi : Option Operand) (l : Nat) (n : Int) : Prop :=
  match hi with
  | none => n = l
  | some y => ∃ k, ρ y = .int k n
theorem lowI_is {ρ : Operand → Value} {lo : Option Operand} {n : Nat} (h : lowI ρ lo n) : lowIs ρ lo n := by
  cases lo with
  | none => simp only [lowI] at h; simp only [lowIs]; omega
  | some y => exact h
theorem highI_is {ρ : Operand → Value} {hi : Option Operand} {l n : Nat} (h : highI ρ hi l n) : highIs ρ hi l n := by
  cases hi with
  | none => simp only [highI] at h; simp only [highIs]; omega
  | some y => exact h

theorem cut_get {xs : List α} {a b k : Nat} {r : α} (h : ((xs.take b).drop a)[k]? = some r) : xs[a + k]? = some r := by
  rw [List.getElem?_drop, List.getElem?_take] at h
  split at h
  · exact h
  · cases h

/-- Which of the two: a slice of known capacity is cut without a look at memory. -/
theorem sCutR {lo hi : Option Operand} {a b : Int} {r : List α} (h : o.op = .slice t x lo hi none) (ht : P.underlying t = some (.slice T.tid)) (hi' : P.info? T.tid = some i) (hsz : i.size = T.sz) (hx : ρ x = v)
    (hlo : lowI ρ lo a) (hhi : highI ρ hi xs.length b) (hs : SlR T z xs v) (hz : Fz z m) (hr : cutI xs a b = some r) :
    ∃ v', (PureR P ρ o v' ∨ ReadR P ρ o m v') ∧ SlR T z r v' := by
  obtain ⟨h0, h1, h2, rfl⟩ := cutI_some hr
  obtain ⟨a', rfl⟩ := Int.eq_ofNat_of_zero_le h0
  obtain ⟨b', rfl⟩ := Int.eq_ofNat_of_zero_le (Int.le_trans h0 h1)
  have h1' : a' ≤ b' := by omega
  have h2' : b' ≤ xs.length := by omega
  simp only [Int.toNat_natCast]
  have hlo' := lowI_is hlo
  have hhi' := highI_is hhi
  have hlen : ((xs.take b').drop a').length = b' - a' := by simp; omega
  rcases hs with ⟨rfl, rfl⟩ | ⟨bl, off, c, rfl, hlive, hcap, hel⟩
  · have hb0 : b' = 0 := by simpa using h2'
    subst hb0
    have ha0 : a' = 0 := by omega
    subst ha0
    exact ⟨.slice none 0 0, .inl (.sliceNil t x lo hi T.tid i h ht hi' hx hlo' hhi'), .inl ⟨rfl, by simp⟩⟩
  · have hel' : ∀ o', o' = off + a' * T.sz → ∀ (k : Nat) (w : α), ((xs.take b').drop a')[k]? = some w → ∃ cs, T.rd z w cs ∧ cellsAt z bl (o' + k * T.sz) cs := by
      intro o' ho' k w hk
      obtain ⟨cs, g1, g2⟩ := hel _ w (cut_get hk)
      refine ⟨cs, g1, ?_⟩
      rw [ho', Nat.add_assoc, ← Nat.add_mul]; exact g2
    rcases hcap with ⟨rfl, L, hL, hlL⟩ | ⟨hc, hle⟩
    · refine ⟨_, .inr (.slice t x lo hi T.tid i L bl off xs.length a' b' h ht hi' hx ?_ hlo' hhi' h1' h2' (by rw [hsz]; exact hlL)), ?_⟩
      · rw [(hz bl hlive).1]; exact hL
      · refine .inr ⟨bl, off + a' * T.sz, BIG, by rw [hlen, hsz], hlive, .inl ⟨rfl, L, hL, ?_⟩, hel' _ rfl⟩
        rw [hlen, Nat.add_assoc, ← Nat.add_mul]
        have : (a' + (b' - a')) * T.sz ≤ xs.length * T.sz := Nat.mul_le_mul_right _ (by omega)
        omega
    · refine ⟨_, .inl (.slice t x lo hi T.tid i bl off xs.length c a' b' h ht hi' hx (by simp only [BIG] at hc ⊢; omega) hlo' hhi' h1' (by omega) (fun _ => trivial)), ?_⟩
      by_cases hcn : c = a'
      · have h00 : b' - a' = 0 := by omega
        refine .inr ⟨bl, off, c - a', by simp [hcn, hlen, h00], hlive, .inr ⟨by omega, by rw [hlen]; omega⟩, fun k w hk => ?_⟩
        have hlt := (List.getElem?_eq_some_iff.1 hk).1
        omega
      · refine .inr ⟨bl, off + a' * T.sz, c - a', by rw [if_neg hcn, hlen, hsz], hlive, .inr ⟨by omega, by rw [hlen]; omega⟩, hel' _ rfl⟩

/-! ### Stores -/

/-- A store through a pointer into a block of the call's own. -/
theorem eStore {P : Program} {C : FuncId → Array Value → Mem → Value → Mem → Prop} {b off : Nat} {L cs : List Value} (h : o.op = .store t x y) (hi : P.info? t = some i) (hx : ρ x = .pointer (some ⟨b, off, none⟩)) (hm : m.blk b = .own L e) (hv : storable (ρ y) = true) (hcs : (ρ y).cells.toList = cs) (hs : cs.length = i.size) (hl : off + cs.length ≤ L.length) :
    EffR P C ρ o m undef (m.put b (.own (setN L off cs) e)) := by
  subst hcs
  exact .store t x y b off i L e h hx hi hm hv (by simpa using hs) (by rw [← hs]; exact hl)

theorem same_put {b : Nat} {x : Blk} (hd : ∀ b, m.next ≤ b → m.blk b = .dead) (hb : b < m.next) : Same m (m.put b x) (some b) := by
  refine ⟨Nat.le_refl _, fun c hc => ?_, fun c hc hk => ?_⟩
  · have hc : m.next ≤ c := hc
    simp only [Mem.put]
    rw [if_neg (by omega)]
    exact hd c hc
  · simp only [Mem.put]
    rw [if_neg (fun h => hk (by rw [h]))]

theorem same_push {x : Blk} (hd : ∀ b, m.next ≤ b → m.blk b = .dead) : Same m (m.push x) none := by
  refine ⟨Nat.le_succ _, fun c hc => ?_, fun c hc _ => ?_⟩
  · simp only [Mem.push] at hc ⊢
    rw [if_neg (by omega)]
    exact hd c (by omega)
  · simp only [Mem.push]
    rw [if_neg (by omega)]

theorem Ow.same {m' : Mem} {q : Option Nat} (h : Ow T z m xs v) (s : Same m m' q) (hap : Ap (blkOf v) q) : Ow T z m' xs v :=
  h.frame fun b hb hlt => ⟨s.blk b hlt (fun hq => hap b hb hq), Nat.lt_of_lt_of_le hlt s.next⟩
theorem own_same {m' : Mem} {q : Option Nat} {b : Nat} {X : Blk} (h : m.blk b = X) (hb : b < m.next) (s : Same m m' q) (hap : q ≠ some b) : m'.blk b = X ∧ b < m'.next := ⟨by rw [s.blk b hb hap]; exact h, Nat.lt_of_lt_of_le hb s.next⟩

/-- A store of (a part of) an element. -/
theorem Ow.store {n : Nat} {a a' : α} {cs cs' : List Value} {f : Nat} {new : List Value} {b l c : Nat} (hs : Ow T z m xs v) (hd : ∀ b, m.next ≤ b → m.blk b = .dead) (hv : v = .slice (some ⟨b, 0, none⟩) l c) (ha : xs[n]? = some a) (hr : T.rd z a cs) (hc : CM m (.pointer (some ⟨b, n * T.sz, none⟩)) cs) (hr' : T.rd z a' cs') (hcs : cs' = setN cs f new) (hf : f + new.length ≤ cs.length) :
    ∃ L, m.blk b = .own L T.tid ∧ n * T.sz + f + new.length ≤ L.length ∧ Ow T z (m.put b (.own (setN L (n * T.sz + f) new) T.tid)) (xs.set n a') v ∧ Same m (m.put b (.own (setN L (n * T.sz + f) new) T.tid)) (some b) := by
  rcases hs with ⟨rfl, _⟩ | ⟨b', L, c', hv', hb, hlt, hz, hl, hcap, hel⟩
  · cases hv
  · subst hv
    simp only [Value.slice.injEq, Option.some.injEq, Addr.mk.injEq, and_true] at hv'
    obtain ⟨rfl, rfl, rfl⟩ := hv'
    have hn : n < xs.length := (List.getElem?_eq_some_iff.1 ha).1
    have hlen := T.len z a cs hr
    have hlen' := T.len z a' cs' hr'
    have hfit : n * T.sz + T.sz ≤ L.length := by
      have : (n + 1) * T.sz ≤ xs.length * T.sz := Nat.mul_le_mul_right _ hn
      rw [Nat.add_mul, Nat.one_mul] at this
      omega
    have hL : (setN L (n * T.sz + f) new).length = L.length := setN_length _ _ _
    refine ⟨L, hb, by omega, .inr ⟨b, setN L (n * T.sz + f) new, c, by simp, by simp [Mem.put], hlt, hz, by rw [hL]; simpa using hl, by rw [hL]; simpa using hcap, fun k w hk => ?_⟩, same_put hd hlt⟩
    rw [List.getElem?_set] at hk
    by_cases hkn : n = k
    · subst hkn
      simp [hn] at hk
      subst hk
      refine ⟨cs', hr', fun q u hq => ?_⟩
      have hqlt := (List.getElem?_eq_some_iff.1 hq).1
      rw [hcs, setN_get _ _ _ _ hf] at hq
      rw [setN_get _ _ _ _ (by omega)]
      by_cases hin : f ≤ q ∧ q < f + new.length
      · rw [if_pos hin] at hq
        rw [if_pos (by omega), show n * T.sz + q - (n * T.sz + f) = q - f by omega]; exact hq
      · rw [if_neg hin] at hq
        rw [if_neg (by omega)]
        obtain ⟨b2, o2, hp, hcm⟩ := hc
        simp only [Value.pointer.injEq, Option.some.injEq, Addr.mk.injEq, and_true] at hp
        obtain ⟨rfl, rfl⟩ := hp
        have := hcm q u hq
        simp only [Mem.load, hb] at this
        exact this
    · rw [if_neg hkn] at hk
      obtain ⟨cs2, g1, g2⟩ := hel k w hk
      refine ⟨cs2, g1, fun q u hq => ?_⟩
      have hqlt := (List.getElem?_eq_some_iff.1 hq).1
      rw [T.len z w cs2 g1] at hqlt
      rw [setN_get _ _ _ _ (by omega)]
      have hout : ¬ (n * T.sz + f ≤ k * T.sz + q ∧ k * T.sz + q < n * T.sz + f + new.length) := by
        rcases Nat.lt_or_gt_of_ne hkn with h' | h'
        · have : (n + 1) * T.sz ≤ k * T.sz := Nat.mul_le_mul_right _ h'
          rw [Nat.add_mul, Nat.one_mul] at this
          omega
        · have : (k + 1) * T.sz ≤ n * T.sz := Nat.mul_le_mul_right _ h'
          rw [Nat.add_mul, Nat.one_mul] at this
          omega
      rw [if_neg hout]
      exact g2 q u hq

end
end Go.AM
