/- Data as the abstract machine holds them: types, slices that may be read, slices of the call's own, the state of a call. -/
import Derived.Test.YtaoioacomnnhdaaAmMono
set_option linter.unusedSimpArgs false
set_option linter.unusedVariables false
namespace Go.AM

/-- What is frozen: blocks that stay as they are. -/
def Fz (z : Nat → Blk) (m : Mem) : Prop := ∀ b, z b ≠ .dead → m.blk b = z b ∧ b < m.next
def Zle (z z' : Nat → Blk) : Prop := ∀ b, z b ≠ .dead → z' b = z b

theorem Zle.refl (z : Nat → Blk) : Zle z z := fun _ _ => rfl
theorem Zle.trans {a b c : Nat → Blk} (h : Zle a b) (k : Zle b c) : Zle a c := fun x hx => by
  have h1 := h x hx
  rw [k x (by rw [h1]; exact hx), h1]

def ldz (z : Nat → Blk) (b o : Nat) : Option Value :=
  match z b with
  | .ro rd => rd o
  | .own L _ => L[o]?
  | .map _ _ => none
  | .dead => none

theorem ldz_live {z : Nat → Blk} {b o : Nat} {v : Value} (h : ldz z b o = some v) : z b ≠ .dead := by
  intro hd; simp [ldz, hd] at h
theorem ldz_mono {z z' : Nat → Blk} (h : Zle z z') {b o : Nat} {v : Value} (hl : ldz z b o = some v) : ldz z' b o = some v := by
  have := h b (ldz_live hl)
  unfold ldz at hl ⊢
  rw [this]; exact hl
theorem ldz_load {z : Nat → Blk} {m : Mem} (h : Fz z m) {b o : Nat} {v : Value} (hl : ldz z b o = some v) : m.load b o = some v := by
  have := (h b (ldz_live hl)).1
  unfold ldz at hl
  unfold Mem.load
  rw [this]; exact hl

/-- A type of data: how many cells, which type's number, how it lies in cells. -/
structure Ty (α : Type) where
  sz : Nat
  tid : TypeId
  rd : (Nat → Blk) → α → List Value → Prop
  len : ∀ z x cs, rd z x cs → cs.length = sz
  mono : ∀ z z', Zle z z' → ∀ x cs, rd z x cs → rd z' x cs
  one : ∀ z x cs, rd z x cs → ∀ c ∈ cs, storable c = true ∧ c.cells = #[c]

/-- Cells at a place. -/
def cellsAt (z : Nat → Blk) (b o : Nat) (cs : List Value) : Prop := ∀ (i : Nat) (u : Value), cs[i]? = some u → ldz z b (o + i) = some u
def cellsIn (L : List Value) (o : Nat) (cs : List Value) : Prop := ∀ (i : Nat) (u : Value), cs[i]? = some u → L[o + i]? = some u

/-- A slice that may be read. -/
def SlR {α : Type} (T : Ty α) (z : Nat → Blk) (xs : List α) (v : Value) : Prop :=
  (v = .slice none 0 0 ∧ xs = []) ∨
  ∃ b off c, v = .slice (some ⟨b, off, none⟩) xs.length c ∧ z b ≠ .dead ∧ ((c = BIG ∧ ∃ L, z b = .own L T.tid ∧ off + xs.length * T.sz ≤ L.length) ∨ (c < BIG ∧ xs.length ≤ c)) ∧
    ∀ (i : Nat) (x : α), xs[i]? = some x → ∃ cs, T.rd z x cs ∧ cellsAt z b (off + i * T.sz) cs

theorem cellsAt_mono {z z' : Nat → Blk} (h : Zle z z') {b o : Nat} {cs : List Value} (hc : cellsAt z b o cs) : cellsAt z' b o cs := fun i u hi => ldz_mono h (hc i u hi)

theorem SlR.mono {α : Type} {T : Ty α} {z z' : Nat → Blk} (h : Zle z z') {xs : List α} {v : Value} (hs : SlR T z xs v) : SlR T z' xs v := by
  rcases hs with hs | ⟨b, off, c, h1, h2, h3, h4⟩
  · exact .inl hs
  · refine .inr ⟨b, off, c, h1, by rw [h b h2]; exact h2, ?_, fun i x hi => ?_⟩
    · rcases h3 with ⟨h3, L, h5, h6⟩ | h3
      · exact .inl ⟨h3, L, by rw [h b h2]; exact h5, h6⟩
      · exact .inr h3
    · obtain ⟨cs, g1, g2⟩ := h4 i x hi
      exact ⟨cs, T.mono z z' h x cs g1, cellsAt_mono h g2⟩

theorem SlR.nil {α : Type} {T : Ty α} {z : Nat → Blk} : SlR T z [] (.slice none 0 0) := .inl ⟨rfl, rfl⟩

theorem SlR.len {α : Type} {T : Ty α} {z : Nat → Blk} {xs : List α} {v : Value} (h : SlR T z xs v) : ∃ a c, v = .slice a xs.length c := by
  rcases h with ⟨rfl, rfl⟩ | ⟨b, off, c, rfl, _⟩
  · exact ⟨_, _, rfl⟩
  · exact ⟨_, _, rfl⟩

/-- The block of a slice. -/
def blkOf : Value → Option Nat
  | .slice (some a) _ _ => some a.block
  | .pointer (some a) => some a.block
  | _ => none

/-- A slice of the call's own. -/
def Ow {α : Type} (T : Ty α) (z : Nat → Blk) (m : Mem) (xs : List α) (v : Value) : Prop :=
  (v = .slice none 0 0 ∧ xs = []) ∨
  ∃ b L c, v = .slice (some ⟨b, 0, none⟩) xs.length c ∧ m.blk b = .own L T.tid ∧ b < m.next ∧ z b = .dead ∧ xs.length * T.sz ≤ L.length ∧ (c = BIG ∨ (c < BIG ∧ xs.length ≤ c ∧ c * T.sz ≤ L.length)) ∧
    ∀ (i : Nat) (x : α), xs[i]? = some x → ∃ cs, T.rd z x cs ∧ cellsIn L (i * T.sz) cs

theorem Ow.nil {α : Type} {T : Ty α} {z : Nat → Blk} {m : Mem} : Ow T z m [] (.slice none 0 0) := .inl ⟨rfl, rfl⟩

theorem Ow.frame {α : Type} {T : Ty α} {z : Nat → Blk} {m m' : Mem} {xs : List α} {v : Value} (h : Ow T z m xs v) (hb : ∀ b, blkOf v = some b → b < m.next → m'.blk b = m.blk b ∧ b < m'.next) : Ow T z m' xs v := by
  rcases h with h | ⟨b, L, c, rfl, h1, h2, h3, h4, h5, h6⟩
  · exact .inl h
  · obtain ⟨g1, g2⟩ := hb b rfl h2
    exact .inr ⟨b, L, c, rfl, by rw [g1]; exact h1, g2, h3, h4, h5, h6⟩

theorem Ow.lt {α : Type} {T : Ty α} {z : Nat → Blk} {m : Mem} {xs : List α} {v : Value} (h : Ow T z m xs v) : ∀ b, blkOf v = some b → b < m.next ∧ z b = .dead := by
  rcases h with ⟨rfl, _⟩ | ⟨b, L, c, rfl, h1, h2, h3, _⟩
  · intro b hb; cases hb
  · intro b' hb; cases hb; exact ⟨h2, h3⟩

theorem Ow.len {α : Type} {T : Ty α} {z : Nat → Blk} {m : Mem} {xs : List α} {v : Value} (h : Ow T z m xs v) : ∃ a c, v = .slice a xs.length c := by
  rcases h with ⟨rfl, rfl⟩ | ⟨b, L, c, rfl, _⟩
  · exact ⟨_, _, rfl⟩
  · exact ⟨_, _, rfl⟩

/-- The frozen blocks, with one more. -/
def frz (z : Nat → Blk) (m : Mem) (p : Option Nat) : Nat → Blk := fun b => if p = some b then m.blk b else z b

theorem frz_le {z : Nat → Blk} {m : Mem} {p : Option Nat} (h : ∀ b, p = some b → z b = .dead) : Zle z (frz z m p) := by
  intro b hb
  unfold frz
  split
  · exact absurd (h b ‹_›) hb
  · rfl
theorem frz_fz {z : Nat → Blk} {m : Mem} {p : Option Nat} (h : Fz z m) (hp : ∀ b, p = some b → b < m.next) : Fz (frz z m p) m := by
  intro b hb
  unfold frz at hb ⊢
  split at hb
  · rw [if_pos ‹_›]; exact ⟨rfl, hp b ‹_›⟩
  · rw [if_neg ‹_›]; exact h b hb

/-- A slice of the call's own, frozen. -/
theorem Ow.toR {α : Type} {T : Ty α} {z : Nat → Blk} {m : Mem} {xs : List α} {v : Value} (h : Ow T z m xs v) : SlR T (frz z m (blkOf v)) xs v := by
  rcases h with h | ⟨b, L, c, rfl, h1, h2, h3, h4, h5, h6⟩
  · exact .inl h
  · have hz : frz z m (blkOf (.slice (some ⟨b, 0, none⟩) xs.length c)) b = .own L T.tid := by simp [frz, blkOf, h1]
    have hle : Zle z (frz z m (blkOf (.slice (some ⟨b, 0, none⟩) xs.length c))) := frz_le fun b' hb' => by cases hb'; exact h3
    refine .inr ⟨b, 0, c, rfl, by rw [hz]; simp, ?_, fun i x hi => ?_⟩
    · rcases h5 with rfl | ⟨h5, h7, h8⟩
      · exact .inl ⟨rfl, L, hz, by simpa using h4⟩
      · exact .inr ⟨h5, h7⟩
    · obtain ⟨cs, g1, g2⟩ := h6 i x hi
      refine ⟨cs, T.mono _ _ hle x cs g1, fun k u hk => ?_⟩
      simp only [ldz, hz, Nat.zero_add]
      exact g2 k u hk

/-- Blocks apart. -/
def Ap (p q : Option Nat) : Prop := ∀ b, p = some b → q ≠ some b
theorem Ap.symm {p q : Option Nat} (h : Ap p q) : Ap q p := fun b hq hp => h b hp hq
theorem Ap.none {q : Option Nat} : Ap Option.none q := fun _ h => by cases h
theorem Ap.none' {q : Option Nat} : Ap q Option.none := fun _ _ h => by cases h
theorem Ap.new {q : Option Nat} {n : Nat} (h : ∀ b, q = some b → b < n) : Ap (some n) q := fun b hb hq => by
  cases hb
  have := h n hq
  omega

/-- The state in the middle of a call: 'e' the memory at its start, 'k' the one block of the caller's that may have turned. -/
structure St (z : Nat → Blk) (e m : Mem) (k : Option Nat) : Prop where
  fz : Fz z m
  dead : ∀ b, m.next ≤ b → m.blk b = .dead
  dead0 : ∀ b, e.next ≤ b → e.blk b = .dead
  next : e.next ≤ m.next
  kept : ∀ b, b < e.next → k ≠ some b → m.blk b = e.blk b

theorem St.start {z : Nat → Blk} {m : Mem} {k : Option Nat} (h : Fz z m) (hd : ∀ b, m.next ≤ b → m.blk b = .dead) : St z m m k := ⟨h, hd, hd, Nat.le_refl _, fun _ _ _ => rfl⟩

theorem St.push {z : Nat → Blk} {e m : Mem} {k : Option Nat} (h : St z e m k) (x : Blk) : St z e (m.push x) k := by
  refine ⟨fun b hb => ?_, fun b hb => ?_, h.dead0, Nat.le_succ_of_le h.next, fun b hb hk => ?_⟩
  · have := h.fz b hb
    refine ⟨?_, Nat.lt_succ_of_lt this.2⟩
    simp only [Mem.push]
    rw [if_neg (by omega)]
    exact this.1
  · simp only [Mem.push] at hb ⊢
    rw [if_neg (by omega)]
    exact h.dead b (by omega)
  · simp only [Mem.push]
    have := h.next
    rw [if_neg (by omega)]
    exact h.kept b hb hk

/-- A block is written: one of the call's own, or the receiver's. -/
theorem St.put {z : Nat → Blk} {e m : Mem} {k : Option Nat} (h : St z e m k) {b : Nat} (x : Blk) (hz : z b = .dead) (hlt : b < m.next) (hb : e.next ≤ b ∨ k = some b) : St z e (m.put b x) k := by
  refine ⟨fun c hc => ?_, fun c hc => ?_, h.dead0, h.next, fun c hc hk => ?_⟩
  · have := h.fz c hc
    refine ⟨?_, this.2⟩
    simp only [Mem.put]
    rw [if_neg (fun hcb => hc (by rw [hcb]; exact hz))]
    exact this.1
  · have hc : m.next ≤ c := hc
    simp only [Mem.put]
    rw [if_neg (by omega)]
    exact h.dead c hc
  · simp only [Mem.put]
    rw [if_neg ?_]
    · exact h.kept c hc hk
    · intro hcb
      subst hcb
      rcases hb with hb | hb
      · omega
      · exact hk hb

/-- Memory that has turned nothing that was there. -/
structure Same (m m' : Mem) (k : Option Nat) : Prop where
  next : m.next ≤ m'.next
  dead : ∀ b, m'.next ≤ b → m'.blk b = .dead
  blk : ∀ b, b < m.next → k ≠ some b → m'.blk b = m.blk b

theorem St.same {z : Nat → Blk} {e m m' : Mem} {k q : Option Nat} (h : St z e m k) (s : Same m m' q) (hq : ∀ b, q = some b → z b = .dead ∧ (e.next ≤ b ∨ k = some b)) : St z e m' k := by
  refine ⟨fun b hb => ?_, s.dead, h.dead0, Nat.le_trans h.next s.next, fun b hb hk => ?_⟩
  · have := h.fz b hb
    refine ⟨?_, Nat.lt_of_lt_of_le this.2 s.next⟩
    rw [s.blk b this.2 (fun hqb => hb (hq b hqb).1)]
    exact this.1
  · rw [s.blk b (Nat.lt_of_lt_of_le hb h.next) (fun hqb => ?_)]
    · exact h.kept b hb hk
    · rcases (hq b hqb).2 with h' | h'
      · omega
      · exact hk h'

theorem St.toSame {z : Nat → Blk} {e m : Mem} {k : Option Nat} (h : St z e m k) : Same e m k := ⟨h.next, h.dead, fun b hb hk => h.kept b hb hk⟩

/-- What a call made is forgotten: memory is as it was. -/
theorem St.trunc_eq {z : Nat → Blk} {e m : Mem} (h : St z e m none) : m.trunc e.next = e := by
  have : (m.trunc e.next).blk = e.blk := by
    funext b
    simp only [Mem.trunc]
    split
    · exact h.kept b ‹_› (by simp)
    · exact (h.dead0 b (by omega)).symm
  cases e
  simp only [Mem.trunc] at this ⊢
  rw [this]

theorem St.trunc_put {z : Nat → Blk} {e m : Mem} {k : Nat} {x : Blk} (h : St z e m (some k)) (hk : k < e.next) (hx : m.blk k = x) : m.trunc e.next = e.put k x := by
  have : (m.trunc e.next).blk = (e.put k x).blk := by
    funext b
    simp only [Mem.trunc, Mem.put]
    by_cases hb : b < e.next
    · rw [if_pos hb]
      by_cases hbk : b = k
      · subst hbk; rw [if_pos rfl]; exact hx
      · rw [if_neg hbk]
        exact h.kept b hb (by intro hh; cases hh; exact hbk rfl)
    · rw [if_neg hb, if_neg (by omega)]
      exact (h.dead0 b (by omega)).symm
  cases e
  simp only [Mem.trunc, Mem.put] at this ⊢
  rw [this]

/-! ### Plain types -/

/-- A type of data in one cell without addresses. -/
def Ty.flat {α : Type} (t : TypeId) (f : α → Value) (hf : ∀ x, flat0 (f x) = true) : Ty α where
  sz := 1
  tid := t
  rd := fun _ x cs => cs = [f x]
  len := fun _ _ _ h => by rw [h]; rfl
  mono := fun _ _ _ _ _ h => h
  one := fun _ x cs h c hc => by
    rw [h] at hc
    simp only [List.mem_singleton] at hc
    subst hc
    have := hf x
    cases hx : f x <;> simp [hx, flat0] at this <;> exact ⟨rfl, rfl⟩

def str (s : List UInt8) : Value := .string ⟨s.toArray⟩

def TInt (t : TypeId) (k : IntKind) : Ty Int := Ty.flat t (fun n => .int k n) fun _ => rfl
def TBool (t : TypeId) : Ty Bool := Ty.flat t (fun n => .bool n) fun _ => rfl
def TStr (t : TypeId) : Ty (List UInt8) := Ty.flat t str fun _ => rfl
/-- A slice in one cell. -/
def TSl {α : Type} (t : TypeId) (T : Ty α) : Ty (List α) where
  sz := 1
  tid := t
  rd := fun z xs cs => ∃ v, cs = [v] ∧ SlR T z xs v
  len := fun _ _ _ h => by obtain ⟨v, rfl, _⟩ := h; rfl
  mono := fun _ _ h _ _ hh => by obtain ⟨v, h1, h2⟩ := hh; exact ⟨v, h1, h2.mono h⟩
  one := fun _ _ cs h c hc => by
    obtain ⟨v, rfl, h2⟩ := h
    simp only [List.mem_singleton] at hc
    subst hc
    obtain ⟨a, n, rfl⟩ := h2.len
    exact ⟨rfl, rfl⟩
/-- Two types side by side (the fields of a struct, one behind the other). -/
def TPair {α β : Type} (t : TypeId) (A : Ty α) (B : Ty β) : Ty (α × β) where
  sz := A.sz + B.sz
  tid := t
  rd := fun z x cs => ∃ c1 c2, cs = c1 ++ c2 ∧ A.rd z x.1 c1 ∧ B.rd z x.2 c2
  len := fun z x cs h => by obtain ⟨c1, c2, rfl, h1, h2⟩ := h; rw [List.length_append, A.len z _ _ h1, B.len z _ _ h2]
  mono := fun z z' h x cs hh => by obtain ⟨c1, c2, h1, h2, h3⟩ := hh; exact ⟨c1, c2, h1, A.mono z z' h _ _ h2, B.mono z z' h _ _ h3⟩
  one := fun z x cs h c hc => by
    obtain ⟨c1, c2, rfl, h1, h2⟩ := h
    rcases List.mem_append.1 hc with hc | hc
    · exact A.one z _ _ h1 c hc
    · exact B.one z _ _ h2 c hc
/-- A type seen through a structure of its own. -/
def Ty.via {α β : Type} (A : Ty α) (f : β → α) : Ty β where
  sz := A.sz
  tid := A.tid
  rd := fun z x cs => A.rd z (f x) cs
  len := fun z x cs h => A.len z _ _ h
  mono := fun z z' h x cs hh => A.mono z z' h _ _ hh
  one := fun z x cs h => A.one z _ _ h

end Go.AM
