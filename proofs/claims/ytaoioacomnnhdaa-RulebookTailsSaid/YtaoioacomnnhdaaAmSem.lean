/- The abstract machine: its steps, its regions, its code, its calls. Definitions alone. -/
import Derived.Test.YtaoioacomnnhdaaAmBase
namespace Go.AM

def flat1 : Value → Bool
  | .agg cs => cs.toList.all flat0
  | v => flat0 v
/-- A value without an address. -/
def flat : Value → Bool
  | .tuple cs => cs.toList.all flat1
  | v => flat1 v
/-- A value that can lie in memory. -/
def storable : Value → Bool
  | .tuple _ | .func _ _ _ => false
  | _ => true

def set (fr : Nat → Value) (d : Option Tmp) (v : Value) : Nat → Value :=
  match d with
  | some t => fun i => if i = t then v else fr i
  | none => fr

def ev (fr : Nat → Value) : Operand → Value
  | .tmp t => fr t
  | .const v => v
  | .global g => .pointer (some ⟨g, 0, none⟩)
  | .func f => .func (.func f) #[] #[]

def rdN (m : Mem) (b : Nat) : Nat → Nat → Option (List Value)
  | _, 0 => some []
  | o, n + 1 => match m.load b o, rdN m b (o + 1) n with
    | some v, some l => some (v :: l)
    | _, _ => none

def setN : List Value → Nat → List Value → List Value
  | L, _, [] => L
  | L, o, v :: vs => setN (L.set o v) (o + 1) vs

def fillL (place : Nat → Option (Nat × Nat)) (cells : List Value) : List (Nat × Value) → Option (List Value)
  | [] => some cells
  | (i, v) :: rest =>
    match place i with
    | none => none
    | some (off, size) => if storable v = true ∧ v.cells.size = size ∧ off + size ≤ cells.length then fillL place (setN cells off v.cells.toList) rest else none

/-- The offsets and sizes of the fields of a struct. -/
def places (P : Program) (fs : Array Field) : List (Option (Nat × Nat)) := fs.toList.map fun f => (P.info? f.type).map fun i => (f.offset, i.size)

/-- The bounds of a cut. -/
def lowIs (ρ : Operand → Value) (lo : Option Operand) (n : Nat) : Prop :=
  match lo with
  | none => n = 0
  | some y => ∃ k, ρ y = .int k n
def highIs (ρ : Operand → Value) (hi : Option Operand) (l n : Nat) : Prop :=
  match hi with
  | none => n = l
  | some y => ∃ k, ρ y = .int k n

/-- Operations that touch no memory. -/
inductive PureR (P : Program) (ρ : Operand → Value) (o : Oper) : Value → Prop where
  | flat (v : Value) (hs : ∀ cs b, o.op ≠ .select cs b) (h : ∀ x ∈ o.op.operands, flat (ρ x) = true) (hv : flat v = true) (hr : ∀ w, (execOp ρ o).run P w = .ok (.value v) w) : PureR P ρ o v
  | move (x : Operand) (h : o.op = .move x ∨ o.op = .assign x) : PureR P ρ o (ρ x)
  | pick (c a b : Operand) (t : Bool) (h : o.op = .pick c a b) (hc : ρ c = .bool t) : PureR P ρ o (if t then ρ a else ρ b)
  | extract (x : Operand) (i : Nat) (vs : Array Value) (v : Value) (h : o.op = .extract x i) (hx : ρ x = .tuple vs) (hv : vs[i]? = some v) : PureR P ρ o v
  | field (t : TypeId) (x : Operand) (i : Nat) (fs : Array Field) (f : Field) (d : TypeDesc) (cs : Array Value) (v : Value) (h : o.op = .field t x i) (ht : P.underlying t = some (.struct fs)) (hf : fs[i]? = some f)
      (hd : P.underlying f.type = some d) (hx : ρ x = .agg cs) (hv : if aggT d = true then ∃ k, P.info? f.type = some k ∧ f.offset + k.size ≤ cs.size ∧ v = .agg (cs.extract f.offset (f.offset + k.size)) else cs[f.offset]? = some v) : PureR P ρ o v
  | build (t : TypeId) (ps : Array (Nat × Operand)) (fs : Array Field) (i : TypeInfo) (z : Value) (cs : List Value) (h : o.op = .build t ps) (ht : P.underlying t = some (.struct fs)) (hi : P.info? t = some i) (hz : i.zero = some z)
      (hzf : z.cells.toList.all flat0 = true) (hp : ∀ x ∈ places P fs, x.isSome = true)
      (hc : fillL (fun k => ((places P fs)[k]?).join) z.cells.toList (ps.toList.map fun p => (p.1, ρ p.2)) = some cs) : PureR P ρ o (.agg cs.toArray)
  | buildA (t : TypeId) (ps : Array (Nat × Operand)) (n : Nat) (e : TypeId) (i k : TypeInfo) (z : Value) (cs : List Value) (h : o.op = .build t ps) (ht : P.underlying t = some (.array n e)) (hi : P.info? t = some i) (hz : i.zero = some z)
      (hzf : z.cells.toList.all flat0 = true) (he : P.info? e = some k)
      (hc : fillL (fun j => some (j * k.size, k.size)) z.cells.toList (ps.toList.map fun p => (p.1, ρ p.2)) = some cs) : PureR P ρ o (.agg cs.toArray)
  | nilCheck (x : Operand) (a : Addr) (h : o.op = .nilCheck x) (hx : ρ x = .pointer (some a)) : PureR P ρ o (.pointer (some a))
  | fieldAddr (t : TypeId) (x : Operand) (i : Nat) (fs : Array Field) (f : Field) (k : TypeInfo) (b off : Nat) (h : o.op = .fieldAddr t x i) (ht : P.underlying t = some (.struct fs)) (hf : fs[i]? = some f)
      (hk : P.info? f.type = some k) (hs : k.size ≠ 0) (hx : ρ x = .pointer (some ⟨b, off, none⟩)) : PureR P ρ o (.pointer (some ⟨b, off + f.offset, none⟩))
  | indexAddr (t : TypeId) (x y : Operand) (e : TypeId) (i : TypeInfo) (b off l c : Nat) (k : IntKind) (n : Int) (h : o.op = .indexAddr t x y) (ht : P.underlying t = some (.slice e)) (hi : P.info? e = some i)
      (hx : ρ x = .slice (some ⟨b, off, none⟩) l c) (hy : ρ y = .int k n) (h0 : 0 ≤ n) (h1 : n < l) : PureR P ρ o (.pointer (some ⟨b, off + n.toNat * i.size, none⟩))
  | indexAddrA (t : TypeId) (x y : Operand) (e : TypeId) (i : TypeInfo) (b off l : Nat) (k : IntKind) (n : Int) (h : o.op = .indexAddr t x y) (ht : P.underlying t = some (.array l e)) (hi : P.info? e = some i)
      (hx : ρ x = .pointer (some ⟨b, off, none⟩)) (hy : ρ y = .int k n) (h0 : 0 ≤ n) (h1 : n < l) : PureR P ρ o (.pointer (some ⟨b, off + n.toNat * i.size, none⟩))
  | slice (t : TypeId) (x : Operand) (lo hi : Option Operand) (e : TypeId) (i : TypeInfo) (b off l c : Nat) (n h' : Nat) (h : o.op = .slice t x lo hi none) (ht : P.underlying t = some (.slice e)) (hi' : P.info? e = some i)
      (hx : ρ x = .slice (some ⟨b, off, none⟩) l c) (hb : c ≠ BIG) (hlo : lowIs ρ lo n) (hhi : highIs ρ hi l h') (h1 : n ≤ h') (h2 : h' ≤ c)
      (h3 : hi = none → True) : PureR P ρ o (.slice (some ⟨b, if c = n then off else off + n * i.size, none⟩) (h' - n) (c - n))
  | sliceNil (t : TypeId) (x : Operand) (lo hi : Option Operand) (e : TypeId) (i : TypeInfo) (h : o.op = .slice t x lo hi none) (ht : P.underlying t = some (.slice e)) (hi' : P.info? e = some i)
      (hx : ρ x = .slice none 0 0) (hlo : lowIs ρ lo 0) (hhi : highIs ρ hi 0 0) : PureR P ρ o (.slice none 0 0)
  | len (x : Operand) (t e : TypeId) (a : Option Addr) (l c : Nat) (h : o.op = .call { callee := .builtin .len, args := #[x], argTypes := #[t] }) (ht : P.underlying t = some (.slice e)) (hx : ρ x = .slice a l c) : PureR P ρ o (.int .i64 l)
  | eqNil (neq : Bool) (x y : Operand) (t u e : TypeId) (a : Addr) (l c : Nat) (h : o.op = .binOp (if neq then .neq else .eql) t x y u) (ht : P.underlying t = some (.slice e))
      (hx : ρ x = .slice (some a) l c) (hy : ρ y = .slice none 0 0) : PureR P ρ o (.bool neq)
  | func (fn : Fn) (first captured : Array Operand) (h : o.op = .makeFunc fn first captured) (hf : ∀ x ∈ first.toList ++ captured.toList, storable (ρ x) = true) : PureR P ρ o (.func fn (first.map ρ) (captured.map ρ))

/-- What is found under a key: the value and whether there is one ('z': the value if there is none). -/
inductive Look (ka va : Bool) (key z : Value) : List (List Value × List Value) → Value → Bool → Prop where
  | miss : Look ka va key z [] z false
  | hit (p : List Value × List Value) (E : List (List Value × List Value)) (h : cellV ka p.1 = key) : Look ka va key z (p :: E) (cellV va p.2) true
  | next (p : List Value × List Value) (E : List (List Value × List Value)) (v : Value) (b : Bool) (h : cellV ka p.1 ≠ key) (hE : Look ka va key z E v b) : Look ka va key z (p :: E) v b

/-- The entries with one key's value turned. -/
inductive Upd (ka : Bool) (key val : List Value) : List (List Value × List Value) → List (List Value × List Value) → Prop where
  | miss : Upd ka key val [] [(key, val)]
  | hit (p : List Value × List Value) (E : List (List Value × List Value)) (h : cellV ka p.1 = cellV ka key) : Upd ka key val (p :: E) ((p.1, val) :: E)
  | next (p : List Value × List Value) (E E' : List (List Value × List Value)) (h : cellV ka p.1 ≠ cellV ka key) (hE : Upd ka key val E E') : Upd ka key val (p :: E) (p :: E')

open Classical in
/-- The first entry with a key. -/
noncomputable def findV (v : Value) : List MapEntry → Nat → Option (Nat × Value)
  | [], _ => none
  | e :: es, i => if e.key = v then some (i, e.val) else findV v es (i + 1)

/-- Keys that a map's code looks up as they stand. -/
structure Keyed (P : Program) (kt : TypeId) (good : Value → Prop) : Prop where
  check : ∀ (em : Bool) (v : Value) (w : World), good v → (Instr.checkKey em 10000 kt v).run P w = .ok () w
  find : ∀ (v : Value) (es : List MapEntry) (w : World), good v → (∀ x ∈ es, good x.key) → (Instr.findKey kt v es).run P w = .ok (findV v es 0) w
  stays : ∀ (v : Value) (w : World), good v → (Instr.keyThatStays v v).run P w = .ok v w

/-- Operations that read. -/
inductive ReadR (P : Program) (ρ : Operand → Value) (o : Oper) (m : Mem) : Value → Prop where
  | load (t : TypeId) (x : Operand) (b off : Nat) (d : TypeDesc) (v : Value) (h : o.op = .load t x) (hx : ρ x = .pointer (some ⟨b, off, none⟩)) (ht : P.underlying t = some d) (hd : aggT d = false) (hv : m.load b off = some v) : ReadR P ρ o m v
  | loadA (t : TypeId) (x : Operand) (b off : Nat) (d : TypeDesc) (i : TypeInfo) (cs : List Value) (h : o.op = .load t x) (hx : ρ x = .pointer (some ⟨b, off, none⟩)) (ht : P.underlying t = some d) (hd : aggT d = true) (hi : P.info? t = some i)
      (hv : rdN m b off i.size = some cs) : ReadR P ρ o m (.agg cs.toArray)
  | slice (t : TypeId) (x : Operand) (lo hi : Option Operand) (e : TypeId) (i : TypeInfo) (L : List Value) (b off l : Nat) (n h' : Nat) (h : o.op = .slice t x lo hi none) (ht : P.underlying t = some (.slice e)) (hi' : P.info? e = some i)
      (hx : ρ x = .slice (some ⟨b, off, none⟩) l BIG) (hm : m.blk b = .own L e) (hlo : lowIs ρ lo n) (hhi : highIs ρ hi l h') (h1 : n ≤ h') (h2 : h' ≤ l)
      (h3 : off + l * i.size ≤ L.length) : ReadR P ρ o m (.slice (some ⟨b, off + n * i.size, none⟩) (h' - n) BIG)
  | str (s t : TypeId) (x : Operand) (e : TypeId) (b off l c : Nat) (cs : List UInt8) (h : o.op = .convert s t x) (hs : P.underlying s = some (.slice e)) (he : P.underlying e = some (.int .u8)) (ht : P.underlying t = some .string)
      (hx : ρ x = .slice (some ⟨b, off, none⟩) l c) (hv : rdN m b off l = some (cs.map fun u => .int .u8 u.toNat)) : ReadR P ρ o m (.string ⟨cs.toArray⟩)
  | strNil (s t : TypeId) (x : Operand) (e : TypeId) (l c : Nat) (h : o.op = .convert s t x) (hs : P.underlying s = some (.slice e)) (he : P.underlying e = some (.int .u8)) (ht : P.underlying t = some .string)
      (hx : ρ x = .slice none l c) : ReadR P ρ o m (.string .empty)
  | lookup (xt : TypeId) (x ix : Operand) (ok : Bool) (u kt vt : TypeId) (b : Nat) (L : List Value) (E : List (List Value × List Value)) (i : TypeInfo) (z v0 : Value) (t : Bool) (good : Value → Prop) (h : o.op = .lookup xt x ix ok)
      (hxt : P.underlying xt = some (.map kt vt)) (hu : P.underlying u = some (.map kt vt)) (hx : (ρ x = .map (some b) ∧ m.blk b = .map L u ∧ EntL (P.cellsOf kt) (P.cellsOf vt) L E) ∨ (ρ x = .map none ∧ E = [])) (hks : 0 < P.cellsOf kt)
      (hv1 : tyAgg P vt = false → P.cellsOf vt = 1) (K : Keyed P kt good) (hf : flat (ρ ix) = true) (hk : good (ρ ix)) (hg : ∀ p ∈ E, good (cellV (tyAgg P kt) p.1)) (hi : P.info? vt = some i) (hz : i.zero = some z) (hzf : flat1 z = true)
      (hl : Look (tyAgg P kt) (tyAgg P vt) (ρ ix) z E v0 t) : ReadR P ρ o m (if ok then .tuple #[v0, .bool t] else v0)

/-- Operations that make one block: the block, the value. 'n': the block's number. -/
inductive NewR (P : Program) (ρ : Operand → Value) (o : Oper) (n : Nat) : Blk → Value → Prop where
  | alloc (t : TypeId) (i : TypeInfo) (z : Value) (h : o.op = .alloc t) (hi : P.info? t = some i) (hz : i.zero = some z) (hzf : z.cells.toList.all flat0 = true) (hs : z.cells.size = i.size) :
      NewR P ρ o n (.own z.cells.toList t) (.pointer (some ⟨n, 0, none⟩))
  | box (t : TypeId) (x : Operand) (i : TypeInfo) (h : o.op = .box t x) (hi : P.info? t = some i) (hv : storable (ρ x) = true) (hs : (ρ x).cells.size = i.size) :
      NewR P ρ o n (.own (ρ x).cells.toList t) (.pointer (some ⟨n, 0, none⟩))
  | buildSlice (t : TypeId) (l : Nat) (ps : Array (Nat × Operand)) (e : TypeId) (i : TypeInfo) (z : Value) (cs : List Value) (h : o.op = .buildSlice t l ps) (ht : P.underlying t = some (.slice e)) (hi : P.info? e = some i) (hz : i.zero = some z)
      (hzf : z.cells.toList.all flat0 = true) (hzs : z.cells.size = i.size) (h24 : l * i.size ≤ 16777216) (hl63 : l < 9223372036854775808)
      (hc : fillL (fun k => some (k * i.size, i.size)) (List.replicate l z.cells.toList).flatten (ps.toList.map fun p => (p.1, ρ p.2)) = some cs) :
      NewR P ρ o n (.own cs e) (.slice (some ⟨n, 0, none⟩) l l)
  | makeSlice (t : TypeId) (x y : Operand) (l c : Nat) (k k' : IntKind) (e : TypeId) (i : TypeInfo) (z : Value) (h : o.op = .makeSlice t x y) (ht : P.underlying t = some (.slice e)) (hi : P.info? e = some i) (hz : i.zero = some z)
      (hzf : z.cells.toList.all flat0 = true) (hzs : z.cells.size = i.size) (hx : ρ x = .int k l) (hy : ρ y = .int k' c) (hlc : l ≤ c) (hb : i.bytes * c ≤ 140737488355328) (hc : c < 9223372036854775808) :
      NewR P ρ o n (.own (List.replicate c z.cells.toList).flatten e) (.slice (some ⟨n, 0, none⟩) l c)
  | bytes (s t : TypeId) (x : Operand) (e : TypeId) (i : TypeInfo) (b : ByteArray) (h : o.op = .convert s t x) (hs : P.underlying s = some .string) (ht : P.underlying t = some (.slice e)) (he : P.underlying e = some (.int .u8)) (hi : P.info? e = some i)
      (hi1 : i.size = 1) (hx : ρ x = .string b) (hb : b.size < 9223372036854775807) :
      NewR P ρ o n (.own (b.data.toList.map fun u => .int .u8 u.toNat) e) (.slice (some ⟨n, 0, none⟩) b.size BIG)
  | makeMap (t kt vt : TypeId) (h : o.op = .makeMap t none) (ht : P.underlying t = some (.map kt vt)) : NewR P ρ o n (.map [] t) (.map (some n))

/-- The cells of a slice's or a string's elements. -/
def elems (m : Mem) (sz : Nat) : Value → Option (List Value)
  | .slice (some ⟨b, off, none⟩) l _ => rdN m b off (l * sz)
  | .slice none _ _ => some []
  | .string s => if sz = 1 then some (s.data.toList.map fun u => .int .u8 u.toNat) else none
  | _ => none
def lenV : Value → Nat
  | .slice _ l _ => l
  | .string s => s.size
  | _ => 0

/-- The function that a call calls, and its arguments. -/
def callee (o : Oper) (ρ : Operand → Value) (f : FuncId) (args : Array Value) : Prop :=
  ∃ x as ts first captured, o.op = .call { callee := .value x, args := as, argTypes := ts } ∧ ρ x = .func (.func f) first captured ∧ args = first ++ as.map ρ ++ captured

/-- Operations that write, and calls ('C': what calls do). -/
inductive EffR (P : Program) (C : FuncId → Array Value → Mem → Value → Mem → Prop) (ρ : Operand → Value) (o : Oper) (m : Mem) : Value → Mem → Prop where
  | store (t : TypeId) (x y : Operand) (b off : Nat) (i : TypeInfo) (L : List Value) (e : TypeId) (h : o.op = .store t x y) (hx : ρ x = .pointer (some ⟨b, off, none⟩)) (hi : P.info? t = some i) (hm : m.blk b = .own L e)
      (hv : storable (ρ y) = true) (hs : (ρ y).cells.size = i.size) (hl : off + i.size ≤ L.length) : EffR P C ρ o m undef (m.put b (.own (setN L off (ρ y).cells.toList) e))
  | call (f : FuncId) (args : Array Value) (v : Value) (m' : Mem) (h : callee o ρ f args) (hC : C f args m v m') : EffR P C ρ o m v m'
  /-- an append to a nil slice of nothing -/
  | appendNone (x y : Operand) (t u : TypeId) (e : TypeId) (i : TypeInfo) (a : Option Addr) (l c : Nat) (h : o.op = .call { callee := .builtin .append, args := #[x, y], argTypes := #[t, u] }) (ht : P.underlying t = some (.slice e)) (hi : P.info? e = some i)
      (hu : (∃ e', P.underlying u = some (.slice e')) ∨ P.underlying u = some .string) (hx : ρ x = .slice a l c) (hc : c ≠ BIG) (hlc : l ≤ c) (hy : elems m i.size (ρ y) = some []) (hy' : lenV (ρ y) = 0) : EffR P C ρ o m (ρ x) m
  /-- an append that needs a new block: the capacity is known, and too small -/
  | appendNew (x y : Operand) (t u : TypeId) (e : TypeId) (i : TypeInfo) (z : Value) (a : Option Addr) (l c : Nat) (old new : List Value) (h : o.op = .call { callee := .builtin .append, args := #[x, y], argTypes := #[t, u] })
      (ht : P.underlying t = some (.slice e)) (hi : P.info? e = some i) (hz : i.zero = some z) (hzf : z.cells.toList.all flat0 = true) (hzs : z.cells.size = i.size) (hsz : 0 < i.size)
      (hu : (∃ e', P.underlying u = some (.slice e')) ∨ P.underlying u = some .string) (hx : ρ x = .slice a l c) (hc : c < l + lenV (ρ y))
      (ho : elems m i.size (ρ x) = some old) (hol : old.length = l * i.size) (hy : elems m i.size (ρ y) = some new) (hn : new.length = lenV (ρ y) * i.size) (hb : (l + lenV (ρ y)) * i.bytes ≤ 140737488355328) (hm : l + lenV (ρ y) < 9223372036854775807) :
      EffR P C ρ o m (.slice (some ⟨m.next, 0, none⟩) (l + lenV (ρ y)) BIG) (m.push (.own (old ++ new) e))
  /-- an append into a block of known capacity -/
  | appendIn (x y : Operand) (t u : TypeId) (e : TypeId) (i : TypeInfo) (b off l c : Nat) (L new : List Value) (h : o.op = .call { callee := .builtin .append, args := #[x, y], argTypes := #[t, u] })
      (ht : P.underlying t = some (.slice e)) (hi : P.info? e = some i) (hu : (∃ e', P.underlying u = some (.slice e')) ∨ P.underlying u = some .string) (hx : ρ x = .slice (some ⟨b, off, none⟩) l c) (hcb : c ≠ BIG)
      (hc : l + lenV (ρ y) ≤ c) (hm : m.blk b = .own L e) (hy : elems m i.size (ρ y) = some new) (hn : new.length = lenV (ρ y) * i.size) (hl : off + (l + lenV (ρ y)) * i.size ≤ L.length) :
      EffR P C ρ o m (.slice (some ⟨b, off, none⟩) (l + lenV (ρ y)) c) (m.put b (.own (setN L (off + l * i.size) new) e))
  /-- an append to a slice whose capacity is not known: its block is given up -/
  | append (x y : Operand) (t u : TypeId) (e : TypeId) (i : TypeInfo) (z : Value) (b l : Nat) (L new : List Value) (h : o.op = .call { callee := .builtin .append, args := #[x, y], argTypes := #[t, u] })
      (ht : P.underlying t = some (.slice e)) (hi : P.info? e = some i) (hz : i.zero = some z) (hzf : z.cells.toList.all flat0 = true) (hzs : z.cells.size = i.size) (hsz : 0 < i.size)
      (hu : (∃ e', P.underlying u = some (.slice e')) ∨ P.underlying u = some .string) (hx : ρ x = .slice (some ⟨b, 0, none⟩) l BIG) (hmb : m.blk b = .own L e) (hlL : l * i.size ≤ L.length)
      (hy : elems m i.size (ρ y) = some new) (hn : new.length = lenV (ρ y) * i.size) (hb : (l + lenV (ρ y)) * i.bytes ≤ 140737488355328) (hm : l + lenV (ρ y) < 9223372036854775807) :
      EffR P C ρ o m (.slice (some ⟨m.next, 0, none⟩) (l + lenV (ρ y)) BIG) ((m.put b .dead).push (.own (L.take (l * i.size) ++ new) e))
  | copy (x y : Operand) (t u : TypeId) (e : TypeId) (i : TypeInfo) (b off l c : Nat) (L : List Value) (cs : List Value) (h : o.op = .call { callee := .builtin .copy, args := #[x, y], argTypes := #[t, u] }) (ht : P.underlying t = some (.slice e)) (hi : P.info? e = some i)
      (hx : ρ x = .slice (some ⟨b, off, none⟩) l c) (hm : m.blk b = .own L e) (hy : elems m i.size (ρ y) = some cs) (hn : cs.length = lenV (ρ y) * i.size) (hl : off + l * i.size ≤ L.length) :
      EffR P C ρ o m (.int .i64 (Nat.min (lenV (ρ y)) l)) (m.put b (.own (setN L off (cs.take (Nat.min (lenV (ρ y)) l * i.size))) e))

  /-- an entry of a map is set -/
  | mapUpdate (xt : TypeId) (x kx vx : Operand) (u kt vt : TypeId) (b : Nat) (L kc vc : List Value) (E E' : List (List Value × List Value)) (good : Value → Prop) (h : o.op = .mapUpdate xt x kx vx ∨ o.op = .insert xt x kx vx)
      (hxt : P.underlying xt = some (.map kt vt)) (hu : P.underlying u = some (.map kt vt)) (hx : ρ x = .map (some b)) (hm : m.blk b = .map L u) (hE : EntL (P.cellsOf kt) (P.cellsOf vt) L E) (hks : 0 < P.cellsOf kt)
      (K : Keyed P kt good) (hkc : ρ kx = cellV (tyAgg P kt) kc) (hkl : kc.length = P.cellsOf kt) (hkf : kc.all flat0 = true) (hf : flat (ρ kx) = true) (hk : good (ρ kx)) (hg : ∀ p ∈ E, good (cellV (tyAgg P kt) p.1))
      (hvs : storable (ρ vx) = true) (hvc : ρ vx = cellV (tyAgg P vt) vc) (hvl : vc.length = P.cellsOf vt) (hvv : ∀ v ∈ vc, v ∈ (ρ vx).cells.toList) (hup : Upd (tyAgg P kt) kc vc E E') :
      EffR P C ρ o m undef (m.put b (.map (E'.flatMap fun p => p.1 ++ p.2) u))

/-- One operation. -/
inductive StepR (P : Program) (C : FuncId → Array Value → Mem → Value → Mem → Prop) (ρ : Operand → Value) (o : Oper) (m : Mem) : Value → Mem → Prop where
  | pure {v : Value} (h : PureR P ρ o v) : StepR P C ρ o m v m
  | read {v : Value} (h : ReadR P ρ o m v) : StepR P C ρ o m v m
  | new {X : Blk} {v : Value} (h : NewR P ρ o m.next X v) : StepR P C ρ o m v (m.push X)
  | eff {v : Value} {m' : Mem} (h : EffR P C ρ o m v m') : StepR P C ρ o m v m'

/-- Does the guard of an operation let it run? -/
def wanted (ops : List Oper) (fr : Nat → Value) (o : Oper) : Bool :=
  match o.guard with
  | none => true
  | some (j, want) =>
    match (ops[j]?).bind (·.dst) with
    | some d => (match fr d with | .bool b => b == want | _ => false)
    | none => false

/-- A region whose operations run in the order of the text. -/
def seqR (P : Program) (C : FuncId → Array Value → Mem → Value → Mem → Prop) (ops : List Oper) : List Oper → (Nat → Value) → Mem → (Nat → Value) → Mem → Prop
  | [], fr, m, fr', m' => fr' = fr ∧ m' = m
  | o :: os, fr, m, fr', m' =>
    if wanted ops fr o = true then ∃ v m1, StepR P C (ev fr) o m v m1 ∧ seqR P C ops os (set fr o.dst v) m1 fr' m'
    else seqR P C ops os (set fr o.dst undef) m fr' m'

def isEff : Op → Bool
  | .store .. | .mapUpdate .. | .insert .. => true
  | .call { callee := .builtin .len, .. } | .call { callee := .builtin .max, .. } | .call { callee := .builtin .min, .. } => false
  | .call _ => true
  | _ => false

/-- Which operations must have run ahead of operation 'i'. -/
def anc (B : Array Nat) (i k : Nat) : Bool := (B.getD i 0).testBit k

/-- What has run so far in a region whose order is open: the reads, the effects with the memory ahead of each. -/
structure Acc where
  reads : List (Nat × (Mem → Prop))
  effs : List (Nat × Mem)
  news : List (Nat × Nat)

/-- A region whose order is open: it runs in the order of the text, and no read would see anything else if it ran elsewhere. -/
def drawR (P : Program) (C : FuncId → Array Value → Mem → Value → Mem → Prop) (ops : List Oper) (B : Array Nat) : Nat → List Oper → Acc → (Nat → Value) → Mem → (Nat → Value) → Mem → Prop
  | _, [], _, fr, m, fr', m' => fr' = fr ∧ m' = m
  | i, o :: os, A, fr, m, fr', m' =>
    if wanted ops fr o = true then
      (∃ v, PureR P (ev fr) o v ∧ drawR P C ops B (i + 1) os A (set fr o.dst v) m fr' m') ∨
      (∃ v, ReadR P (ev fr) o m v ∧ (∀ x ∈ A.effs, anc B i x.1 = false → ReadR P (ev fr) o x.2 v) ∧
        drawR P C ops B (i + 1) os { A with reads := (i, fun m => ReadR P (ev fr) o m v) :: A.reads } (set fr o.dst v) m fr' m') ∨
      (∃ X v, NewR P (ev fr) o m.next X v ∧ drawR P C ops B (i + 1) os { A with news := (i, m.next) :: A.news } (set fr o.dst v) (m.push X) fr' m') ∨
      (∃ v m1, EffR P C (ev fr) o m v m1 ∧ (∀ x ∈ A.reads, anc B i x.1 = false → x.2 m1) ∧ (∀ x ∈ A.news, anc B i x.1 = false → m1.blk x.2 = m.blk x.2) ∧
        drawR P C ops B (i + 1) os { A with effs := (i, m) :: A.effs } (set fr o.dst v) m1 fr' m')
    else drawR P C ops B (i + 1) os A (set fr o.dst undef) m fr' m'

/-- How code is left. -/
inductive AExit where
  | normal
  | exit (id : Nat)
  | ret
  deriving DecidableEq

def codeR (P : Program) (C : FuncId → Array Value → Mem → Value → Mem → Prop) : Nat → Code → (Nat → Value) → Mem → AExit → (Nat → Value) → Mem → Prop
  | 0, _, _, _, _, _, _ => False
  | _ + 1, .skip, fr, m, e, fr', m' => e = .normal ∧ fr' = fr ∧ m' = m
  | _ + 1, .label _, fr, m, e, fr', m' => e = .normal ∧ fr' = fr ∧ m' = m
  | _ + 1, .exit id, fr, m, e, fr', m' => e = .exit id ∧ fr' = fr ∧ m' = m
  | _ + 1, .ret, fr, m, e, fr', m' => e = .ret ∧ fr' = fr ∧ m' = m
  | _ + 1, .region _ ops false, fr, m, e, fr', m' => e = .normal ∧ seqR P C ops.toList ops.toList fr m fr' m'
  | _ + 1, .region _ ops true, fr, m, e, fr', m' => e = .normal ∧ drawR P C ops.toList (Region.before ops) 0 ops.toList ⟨[], [], []⟩ fr m fr' m'
  | n + 1, .seq a b, fr, m, e, fr', m' => ∃ e1 fr1 m1, codeR P C n a fr m e1 fr1 m1 ∧ (if e1 = .normal then codeR P C n b fr1 m1 e fr' m' else e = e1 ∧ fr' = fr1 ∧ m' = m1)
  | n + 1, .cond c a b, fr, m, e, fr', m' => ∃ t, ev fr c = .bool t ∧ codeR P C n (if t then a else b) fr m e fr' m'
  | n + 1, .block id c, fr, m, e, fr', m' => ∃ e1, codeR P C n c fr m e1 fr' m' ∧ e = (if e1 = .exit id then .normal else e1)
  | n + 1, .loop c, fr, m, e, fr', m' => ∃ e1 fr1 m1, codeR P C n c fr m e1 fr1 m1 ∧ (if e1 = .normal then codeR P C n (.loop c) fr1 m1 e fr' m' else e = e1 ∧ fr' = fr1 ∧ m' = m1)
  | _ + 1, _, _, _, _, _, _ => False

/-- What a function hands back. -/
def resultR (P : Program) (fr : Nat → Value) (m : Mem) : ResultVar → Value → Prop
  | .tmp t, v => v = fr t
  | .cell a t, v => ∃ b off, fr a = .pointer (some ⟨b, off, none⟩) ∧ ∃ d, P.underlying t = some d ∧
      (if aggT d = true then ∃ i cs, P.info? t = some i ∧ rdN m b off i.size = some cs ∧ v = .agg cs.toArray else m.load b off = some v)
def resultsR (P : Program) (fr : Nat → Value) (m : Mem) : List ResultVar → List Value → Prop
  | [], [] => True
  | r :: rs, v :: vs => resultR P fr m r v ∧ resultsR P fr m rs vs
  | _, _ => False

/-- Does a value name no block from 'n' on? -/
def lowA (n : Nat) : Option Addr → Prop
  | some a => a.block < n
  | none => True
def low0 (n : Nat) : Value → Prop
  | .pointer a | .slice a _ _ => lowA n a
  | .map (some r) => r < n
  | .chan _ | .func _ _ _ | .iface _ _ | .agg _ | .tuple _ => False
  | _ => True
def low1 (n : Nat) : Value → Prop
  | .agg cs => ∀ v ∈ cs.toList, low0 n v
  | v => low0 n v
def low (n : Nat) : Value → Prop
  | .tuple cs => ∀ v ∈ cs.toList, low1 n v
  | .func _ a b => (∀ v ∈ a.toList, low1 n v) ∧ ∀ v ∈ b.toList, low1 n v
  | v => low1 n v
def lowB (n : Nat) : Blk → Prop
  | .own L _ | .map L _ => ∀ v ∈ L, low0 n v
  | .ro rd => ∀ i v, rd i = some v → low0 n v
  | .dead => True

/-- Does an operand of the code name nothing but temporaries, values without addresses, and functions? -/
def okX : Operand → Bool
  | .tmp _ | .func _ => true
  | .const v => flat v
  | .global _ => false

/-- The temporaries that an operation looks at or writes. -/
def slotsOf (ops : Array Oper) (o : Oper) : List Nat :=
  (o.op.operands.toList.filterMap fun | .tmp t => some t | _ => none) ++
  (match o.guard with | some (g, _) => ((ops[g]?).bind (·.dst)).toList | none => []) ++ o.dst.toList

def clash (ops : Array Oper) (x o : Oper) : Bool :=
  (match x.dst with | some d => (slotsOf ops o).contains d | none => false) || (match o.dst with | some d => (slotsOf ops x).contains d | none => false) || (isEff x.op && isEff o.op)

/-- A region whose order is open is of this form: whatever touches one temporary is ordered, and so are the effects. -/
def drawOk (ops : Array Oper) : Bool :=
  (List.range ops.size).all fun i =>
    match ops[i]? with
    | none => true
    | some o => (o.after.toList.all fun e => !Region.binds .any e || decide (e.on < i)) &&
      (List.range i).all fun x => match ops[x]? with | none => true | some y => !clash ops y o || anc (Region.before ops) i x

/-- The form of code over 'n' temporaries. -/
def okCode (n : Nat) : Code → Bool
  | .region _ ops draw => (ops.toList.all fun o => o.op.operands.toList.all okX && (match o.dst with | some d => decide (d < n) | none => true)) && (!draw || drawOk ops)
  | .seq a b => okCode n a && okCode n b
  | .cond c a b => okX c && okCode n a && okCode n b
  | .block _ c => okCode n c
  | .loop c => okCode n c
  | _ => true

/-- The form of a function. -/
def okFn (P : Program) (f : FuncId) : Bool :=
  match P.funcs[f]? with
  | some fn => !(fn.name == "runtime.NumGoroutine") && (match fn.body with | some c => okCode fn.ntmps c | none => false)
  | none => false

/-- Several results are one value. -/
def pack : List Value → Value
  | [x] => x
  | vs => .tuple vs.toArray

/-- What a call does; behind it the blocks that it made may be forgotten if nothing names them. -/
def callR (P : Program) : Nat → FuncId → Array Value → Mem → Value → Mem → Prop
  | 0, _, _, _, _, _ => False
  | n + 1, f, args, m, v, m' => ∃ fn c e fr m1 vs, P.funcs[f]? = some fn ∧ fn.body = some c ∧ okFn P f = true ∧ args.size ≤ fn.ntmps ∧
      codeR P (callR P n) n c (fun i => (args ++ Array.replicate (fn.ntmps - args.size) undef).getD i undef) m e fr m1 ∧ (e = .normal ∨ e = .ret) ∧
      resultsR P fr m1 fn.results.toList vs ∧ v = pack vs ∧ (vs.length = 1 ∨ ∀ x ∈ vs, storable x = true) ∧
      (m' = m1 ∨ (m' = m1.trunc m.next ∧ low m.next v ∧ ∀ b, b < m.next → m1.blk b = m.blk b ∨ lowB m.next (m1.blk b)))

end Go.AM
