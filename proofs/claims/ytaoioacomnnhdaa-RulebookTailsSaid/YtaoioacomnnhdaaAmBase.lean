/- An abstract machine for the translated programs: one memory without capacities, one order of evaluation. Definitions alone: values, blocks, the relation to the model's worlds. -/
import Derived.Calls
import Derived.Orders
import Derived.Tactics
import Derived.Below
namespace Go.AM

/-- A capacity that is not known. -/
def BIG : Nat := 9223372036854775808

/-- Where an abstract block lies: the block of the world, its capacity in elements, the cells of an element. -/
structure Emb1 where
  blk : Nat
  cap : Nat
  es : Nat

def Emb : Type := Nat → Option Emb1

/-- What an abstract block is. -/
inductive Blk where
  | dead
  | ro (rd : Nat → Option Value)
  | own (cells : List Value) (elem : TypeId)
  /-- a map: the cells of its entries, each key ahead of its value; its type -/
  | map (cells : List Value) (type : TypeId)

def Blk.isOwn : Blk → Bool
  | .own _ _ | .map _ _ => true
  | _ => false
def Blk.live : Blk → Bool
  | .dead => false
  | _ => true

structure Mem where
  next : Nat
  blk : Nat → Blk

def Mem.load (m : Mem) (b o : Nat) : Option Value :=
  match m.blk b with
  | .ro rd => rd o
  | .own L _ => L[o]?
  | .map _ _ => none
  | .dead => none
def Mem.put (m : Mem) (b : Nat) (x : Blk) : Mem := { m with blk := fun i => if i = b then x else m.blk i }
def Mem.push (m : Mem) (x : Blk) : Mem := { next := m.next + 1, blk := fun i => if i = m.next then x else m.blk i }
/-- What lies from 'n' on is forgotten. -/
def Mem.trunc (m : Mem) (n : Nat) : Mem := { next := n, blk := fun i => if i < n then m.blk i else .dead }

/-- Lists that are related element by element. -/
def L2 {α β : Type} (R : α → β → Prop) : List α → List β → Prop
  | [], [] => True
  | a :: l, b :: k => R a b ∧ L2 R l k
  | _, _ => False

/-- A value of one cell, and what stands for it in the world. -/
def VR0 (j : Emb) : Value → Value → Prop
  | .pointer (some a), cv => ∃ e, a.spot = none ∧ j a.block = some e ∧ cv = .pointer (some ⟨e.blk, a.off, none⟩)
  | .slice (some a) l c, cv => ∃ e, a.spot = none ∧ j a.block = some e ∧
      ((c < BIG ∧ cv = .slice (some ⟨e.blk, a.off, none⟩) l c) ∨
       (c = BIG ∧ 0 < e.es ∧ l ≤ e.cap - a.off / e.es ∧ e.cap < BIG ∧ a.off % e.es = 0 ∧ a.off / e.es ≤ e.cap ∧ cv = .slice (some ⟨e.blk, a.off, none⟩) l (e.cap - a.off / e.es)) ∨
       (c = BIG ∧ l = 0 ∧ ∃ o', cv = .slice (some ⟨e.blk, o', none⟩) 0 0) ∨
       (c = 0 ∧ l = 0 ∧ ∃ a', cv = .slice (some a') 0 0))
  | .map (some r), cv => ∃ e, j r = some e ∧ cv = .map (some e.blk)
  | .chan _, _ | .func .., _ | .iface .., _ | .agg _, _ | .tuple _, _ => False
  | v, cv => cv = v

/-- A value of one cell or of a struct or array. -/
def VR1 (j : Emb) : Value → Value → Prop
  | .agg cs, cv => ∃ ds : Array Value, cv = .agg ds ∧ L2 (VR0 j) cs.toList ds.toList
  | v, cv => VR0 j v cv

/-- Any value. -/
def VR (j : Emb) : Value → Value → Prop
  | .tuple cs, cv => ∃ ds : Array Value, cv = .tuple ds ∧ L2 (VR1 j) cs.toList ds.toList
  | .func fn fs cs, cv => ∃ gs ds : Array Value, cv = .func fn gs ds ∧ L2 (VR1 j) fs.toList gs.toList ∧ L2 (VR1 j) cs.toList ds.toList
  | v, cv => VR1 j v cv

/-- A cell without an address. -/
def flat0 : Value → Bool
  | .bool _ | .int _ _ | .float _ _ | .complex _ _ _ | .string _ | .pointer none | .slice none _ _ | .map none | .nilFunc | .nilIface => true
  | _ => false

def aggT : TypeDesc → Bool
  | .struct _ | .array _ _ => true
  | _ => false
def tyAgg (P : Program) (t : TypeId) : Bool :=
  match P.underlying t with
  | some d => aggT d
  | none => false

/-- A key or a value of a map, from its cells. -/
def cellV : Bool → List Value → Value
  | true, cs => .agg cs.toArray
  | false, cs => cs.headD undef

/-- The entries that lie in the cells of a map. -/
structure EntL (ks vs : Nat) (L : List Value) (E : List (List Value × List Value)) : Prop where
  eq : L = E.flatMap fun p => p.1 ++ p.2
  len : ∀ p ∈ E, p.1.length = ks ∧ p.2.length = vs

/-- An entry of the world's map. -/
def EntW (P : Program) (j : Emb) (kt vt : TypeId) (p : List Value × List Value) (x : MapEntry) : Prop :=
  x.key = cellV (tyAgg P kt) p.1 ∧ p.1.all flat0 = true ∧ VR1 j (cellV (tyAgg P vt) p.2) x.val

/-- What stands for a block in the world. -/
def ObjR (P : Program) (j : Emb) (e : Emb1) (o : Option Obj) : Blk → Prop
  | .dead => True
  | .ro rd => ∀ i v, rd i = some v → ∃ (cs : Array Value) (t : TypeId) (fz : Nat × Nat) (cv : Value), o = some (.cells cs t fz) ∧ cs[i]? = some cv ∧ VR0 j v cv
  | .own L t => ∃ (cs : Array Value) (fz : Nat × Nat), o = some (.cells cs t fz) ∧ (∀ i : Nat, i < cs.size → ¬ (fz.1 ≤ i ∧ i < fz.2)) ∧
    P.cellsOf t = e.es ∧ cs.size = e.cap * e.es ∧ L.length ≤ cs.size ∧ ∀ (i : Nat) (v : Value), L[i]? = some v → ∃ cv, cs[i]? = some cv ∧ VR0 j v cv
  | .map L u => ∃ (kt vt : TypeId) (cs : Array MapEntry) (clock : Nat) (E : List (List Value × List Value)), o = some (.map cs clock) ∧ P.underlying u = some (.map kt vt) ∧
    EntL (P.cellsOf kt) (P.cellsOf vt) L E ∧ L2 (EntW P j kt vt) E cs.toList

/-- The abstract memory and the world. -/
structure Rel (P : Program) (j : Emb) (m : Mem) (w : World) : Prop where
  lt : ∀ b e, j b = some e → b < m.next ∧ e.blk < w.heap.size
  obj : ∀ b e, j b = some e → ObjR P j e w.heap[e.blk]? (m.blk b)
  inj : ∀ b b' e e', j b = some e → j b' = some e' → (m.blk b).isOwn = true → (m.blk b').live = true → e.blk = e'.blk → b = b'

/-- How the world may turn. -/
structure Frm (j : Emb) (m : Mem) (w w' : World) : Prop where
  os : w'.os = w.os
  tape : w'.tape = w.tape
  output : w'.output = w.output
  size : w.heap.size ≤ w'.heap.size
  block : ∀ c, c < w.heap.size → (∀ b e, j b = some e → (m.blk b).isOwn = true → e.blk ≠ c) → w'.heap[c]? = w.heap[c]?

/-- Behind a step. -/
structure Post (P : Program) (j : Emb) (m : Mem) (w : World) (j' : Emb) (m' : Mem) (w' : World) : Prop where
  rel : Rel P j' m' w'
  frm : Frm j m w w'
  next : m.next ≤ m'.next
  ext : ∀ b, b < m.next → j' b = j b
  fresh : ∀ b e, j' b = some e → m.next ≤ b → w.heap.size ≤ e.blk ∨ ∃ b0 e0, j b0 = some e0 ∧ (m.blk b0).isOwn = true ∧ e0.blk = e.blk
  old : ∀ b, b < m.next → (m'.blk b).isOwn = true → (m.blk b).isOwn = true
  alive : ∀ b, b < m.next → (m'.blk b).live = true → (m.blk b).live = true

theorem L2.mono {α β : Type} {R S : α → β → Prop} (h : ∀ a b, R a b → S a b) : ∀ {l : List α} {k : List β}, L2 R l k → L2 S l k
  | [], [], _ => True.intro
  | _ :: _, _ :: _, ⟨h1, h2⟩ => ⟨h _ _ h1, L2.mono h h2⟩
  | [], _ :: _, h => h.elim
  | _ :: _, [], h => h.elim

theorem L2.length {α β : Type} {R : α → β → Prop} : ∀ {l : List α} {k : List β}, L2 R l k → l.length = k.length
  | [], [], _ => rfl
  | _ :: l, _ :: k, ⟨_, h2⟩ => by simp [L2.length h2]
  | [], _ :: _, h => h.elim
  | _ :: _, [], h => h.elim

theorem L2.get {α β : Type} {R : α → β → Prop} : ∀ {l : List α} {k : List β} (_ : L2 R l k) (i : Nat) (a : α), l[i]? = some a → ∃ b, k[i]? = some b ∧ R a b
  | [], [], _, i, a, h => by simp at h
  | x :: l, y :: k, ⟨h1, h2⟩, 0, a, h => by simp at h; subst h; exact ⟨y, by simp, h1⟩
  | x :: l, y :: k, ⟨h1, h2⟩, i + 1, a, h => by simpa using L2.get h2 i a (by simpa using h)
  | [], _ :: _, h, _, _, _ => h.elim
  | _ :: _, [], h, _, _, _ => h.elim

theorem L2.of_get {α β : Type} {R : α → β → Prop} : ∀ {l : List α} {k : List β}, l.length = k.length → (∀ (i : Nat) a b, l[i]? = some a → k[i]? = some b → R a b) → L2 R l k
  | [], [], _, _ => True.intro
  | x :: l, y :: k, hl, h => ⟨h 0 x y (by simp) (by simp), L2.of_get (by simpa using hl) fun i a b ha hb => h (i + 1) a b (by simpa using ha) (by simpa using hb)⟩
  | [], _ :: _, hl, _ => by simp at hl
  | _ :: _, [], hl, _ => by simp at hl

theorem L2.append {α β : Type} {R : α → β → Prop} : ∀ {l l' : List α} {k k' : List β}, L2 R l k → L2 R l' k' → L2 R (l ++ l') (k ++ k')
  | [], _, [], _, _, h => h
  | _ :: _, _, _ :: _, _, ⟨h1, h2⟩, h => ⟨h1, L2.append h2 h⟩
  | [], _, _ :: _, _, h, _ => h.elim
  | _ :: _, _, [], _, h, _ => h.elim

theorem L2.take {α β : Type} {R : α → β → Prop} : ∀ (n : Nat) {l : List α} {k : List β}, L2 R l k → L2 R (l.take n) (k.take n)
  | 0, _, _, _ => by simp [L2]
  | n + 1, [], [], _ => by simp [L2]
  | n + 1, _ :: _, _ :: _, ⟨h1, h2⟩ => by simpa [L2] using ⟨h1, L2.take n h2⟩
  | _ + 1, [], _ :: _, h => h.elim
  | _ + 1, _ :: _, [], h => h.elim

theorem L2.drop {α β : Type} {R : α → β → Prop} : ∀ (n : Nat) {l : List α} {k : List β}, L2 R l k → L2 R (l.drop n) (k.drop n)
  | 0, _, _, h => by simpa using h
  | n + 1, [], [], _ => by simp [L2]
  | n + 1, _ :: _, _ :: _, ⟨_, h2⟩ => by simpa using L2.drop n h2
  | _ + 1, [], _ :: _, h => h.elim
  | _ + 1, _ :: _, [], h => h.elim

theorem VR0.mono {j j' : Emb} (h : ∀ b e, j b = some e → j' b = some e) {v cv : Value} (hv : VR0 j v cv) : VR0 j' v cv := by
  cases v with
  | pointer a => cases a with
    | none => exact hv
    | some a => obtain ⟨e, h1, h2, h3⟩ := hv; exact ⟨e, h1, h _ _ h2, h3⟩
  | slice a l c => cases a with
    | none => exact hv
    | some a => obtain ⟨e, h1, h2, h3⟩ := hv; exact ⟨e, h1, h _ _ h2, h3⟩
  | map r => cases r with
    | none => exact hv
    | some r => obtain ⟨e, h2, h3⟩ := hv; exact ⟨e, h _ _ h2, h3⟩
  | _ => exact hv

theorem VR1.mono {j j' : Emb} (h : ∀ b e, j b = some e → j' b = some e) {v cv : Value} (hv : VR1 j v cv) : VR1 j' v cv := by
  cases v with
  | agg cs => obtain ⟨ds, h1, h2⟩ := hv; exact ⟨ds, h1, h2.mono fun _ _ => VR0.mono h⟩
  | _ => simp only [VR1] at hv ⊢; exact VR0.mono h hv

theorem VR.mono {j j' : Emb} (h : ∀ b e, j b = some e → j' b = some e) {v cv : Value} (hv : VR j v cv) : VR j' v cv := by
  cases v with
  | tuple cs => obtain ⟨ds, h1, h2⟩ := hv; exact ⟨ds, h1, h2.mono fun _ _ => VR1.mono h⟩
  | func fn fs cs => obtain ⟨gs, ds, h1, h2, h3⟩ := hv; exact ⟨gs, ds, h1, h2.mono fun _ _ => VR1.mono h, h3.mono fun _ _ => VR1.mono h⟩
  | _ => simp only [VR] at hv ⊢; exact VR1.mono h hv

theorem ObjR.mono {P : Program} {j j' : Emb} {e : Emb1} {o : Option Obj} {x : Blk} (h : ObjR P j e o x) (hj : ∀ b e, j b = some e → j' b = some e) : ObjR P j' e o x := by
  cases x with
  | dead => trivial
  | ro rd =>
    intro i v hi
    obtain ⟨cs, t, fz, cv, h1, h2, h3⟩ := h i v hi
    exact ⟨cs, t, fz, cv, h1, h2, h3.mono hj⟩
  | own L t =>
    obtain ⟨cs, fz, h1, h2, h3, h4, h5, h6⟩ := h
    refine ⟨cs, fz, h1, h2, h3, h4, h5, fun i v hi => ?_⟩
    obtain ⟨cv, g1, g2⟩ := h6 i v hi
    exact ⟨cv, g1, g2.mono hj⟩
  | map L u =>
    obtain ⟨kt, vt, cs, clock, E, h1, h2, h3, h4⟩ := h
    exact ⟨kt, vt, cs, clock, E, h1, h2, h3, h4.mono fun p x ⟨g1, g2, g3⟩ => ⟨g1, g2, g3.mono hj⟩⟩

theorem Rel.own {P : Program} {j : Emb} {m : Mem} {w : World} (h : Rel P j m w) (b : Nat) (e : Emb1) (L : List Value) (t : TypeId) (hj : j b = some e) (hb : m.blk b = .own L t) : ∃ (cs : Array Value) (fz : Nat × Nat), w.heap[e.blk]? = some (.cells cs t fz) ∧ (∀ i : Nat, i < cs.size → ¬ (fz.1 ≤ i ∧ i < fz.2)) ∧
    P.cellsOf t = e.es ∧ cs.size = e.cap * e.es ∧ L.length ≤ cs.size ∧ ∀ (i : Nat) (v : Value), L[i]? = some v → ∃ cv, cs[i]? = some cv ∧ VR0 j v cv := by
  have := h.obj b e hj
  rw [hb] at this
  exact this

theorem VR1.of0 {j : Emb} {v cv : Value} (h : VR0 j v cv) : VR1 j v cv := by
  cases v <;> first | exact h | exact h.elim
theorem VR.of1 {j : Emb} {v cv : Value} (h : VR1 j v cv) : VR j v cv := by
  cases v <;> first | exact h | exact h.elim
theorem VR.of0 {j : Emb} {v cv : Value} (h : VR0 j v cv) : VR j v cv := VR.of1 (VR1.of0 h)

/-- A value of one cell is none of several. -/
theorem VR0.one {j : Emb} {v cv : Value} (h : VR0 j v cv) : cv.oneCell' = true := by
  cases v with
  | pointer a => cases a with
    | none => cases h; rfl
    | some a => obtain ⟨e, h1, h2, h3⟩ := h; subst h3; rfl
  | slice a l c => cases a with
    | none => cases h; rfl
    | some a =>
      obtain ⟨e, h1, h2, h3⟩ := h
      rcases h3 with ⟨_, rfl⟩ | ⟨_, _, _, _, _, _, rfl⟩ | ⟨_, _, _, rfl⟩ | ⟨_, _, _, rfl⟩ <;> rfl
  | map r => cases r with
    | none => cases h; rfl
    | some r => obtain ⟨e, h2, h3⟩ := h; subst h3; rfl
  | chan _ => exact h.elim
  | func _ _ _ => exact h.elim
  | iface _ _ => exact h.elim
  | agg _ => exact h.elim
  | tuple _ => exact h.elim
  | _ => cases h; rfl

theorem VR0.cells {j : Emb} {v cv : Value} (h : VR0 j v cv) : v.cells = #[v] ∧ cv.cells = #[cv] := by
  refine ⟨?_, ?_⟩
  · cases v <;> first | rfl | exact h.elim
  · have := h.one
    cases cv <;> first | rfl | simp [Value.oneCell'] at this

/-- The cells of a value. -/
theorem VR1.cells {j : Emb} {v cv : Value} (h : VR1 j v cv) : L2 (VR0 j) v.cells.toList cv.cells.toList := by
  cases v with
  | agg cs => obtain ⟨ds, rfl, h2⟩ := h; exact h2
  | _ =>
    simp only [VR1] at h
    have h0 := h
    have := VR0.cells h0
    rw [this.1, this.2]
    exact ⟨h0, True.intro⟩

theorem Frm.refl (j : Emb) (m : Mem) (w : World) : Frm j m w w := ⟨rfl, rfl, rfl, Nat.le_refl _, fun _ _ _ => rfl⟩

theorem Post.refl {P : Program} {j : Emb} {m : Mem} {w : World} (h : Rel P j m w) : Post P j m w j m w :=
  ⟨h, Frm.refl j m w, Nat.le_refl _, fun _ _ => rfl, fun b e hb hn => absurd (h.lt b e hb).1 (Nat.not_lt.2 hn), fun _ _ h => h, fun _ _ h => h⟩

theorem Post.up {P : Program} {j j' : Emb} {m m' : Mem} {w w' : World} (h : Post P j m w j' m' w') (hr : Rel P j m w) : ∀ b e, j b = some e → j' b = some e :=
  fun b e hb => by rw [h.ext b (hr.lt b e hb).1]; exact hb

theorem Post.trans {P : Program} {j j' j'' : Emb} {m m' m'' : Mem} {w w' w'' : World} (h : Post P j m w j' m' w') (k : Post P j' m' w' j'' m'' w'') : Post P j m w j'' m'' w'' where
  rel := k.rel
  frm := by
    refine ⟨k.frm.os.trans h.frm.os, k.frm.tape.trans h.frm.tape, k.frm.output.trans h.frm.output, Nat.le_trans h.frm.size k.frm.size, fun c hc hn => ?_⟩
    rw [k.frm.block c (Nat.lt_of_lt_of_le hc h.frm.size) ?_, h.frm.block c hc hn]
    intro b e hb ho he
    rcases Nat.lt_or_ge b m.next with hlt | hge
    · exact hn b e (by rw [← h.ext b hlt]; exact hb) (h.old b hlt ho) he
    · rcases h.fresh b e hb hge with hf | ⟨b0, e0, hb0, ho0, he0⟩
      · omega
      · exact hn b0 e0 hb0 ho0 (he0.trans he)
  next := Nat.le_trans h.next k.next
  ext := fun b hb => by rw [k.ext b (Nat.lt_of_lt_of_le hb h.next), h.ext b hb]
  fresh := by
    intro b e hb hge
    have old' : ∀ b e, j' b = some e → (m'.blk b).isOwn = true → w.heap.size ≤ e.blk ∨ ∃ b0 e0, j b0 = some e0 ∧ (m.blk b0).isOwn = true ∧ e0.blk = e.blk := by
      intro b e hb ho
      rcases Nat.lt_or_ge b m.next with hlt | hge
      · exact .inr ⟨b, e, by rw [← h.ext b hlt]; exact hb, h.old b hlt ho, rfl⟩
      · exact h.fresh b e hb hge
    rcases Nat.lt_or_ge b m'.next with hlt | hge'
    · exact h.fresh b e (by rw [← k.ext b hlt]; exact hb) hge
    · rcases k.fresh b e hb hge' with hf | ⟨b0, e0, hb0, ho0, he0⟩
      · exact .inl (Nat.le_trans h.frm.size hf)
      · rw [← he0]; exact old' b0 e0 hb0 ho0
  old := fun b hb ho => h.old b hb (k.old b (Nat.lt_of_lt_of_le hb h.next) ho)
  alive := fun b hb ho => h.alive b hb (k.alive b (Nat.lt_of_lt_of_le hb h.next) ho)

end Go.AM
