/- Rules as a program that writes proofs uses them. -/
import Derived.Test.YtaoioacomnnhdaaAmOps3
set_option linter.unusedSimpArgs false
set_option linter.unusedVariables false
namespace Go.AM

/-- A piece of code, by its place. -/
def sub : Code → List Nat → Code
  | c, [] => c
  | .seq a b, 0 :: p => sub a p
  | .seq a b, _ :: p => sub b p
  | .cond _ a b, 0 :: p => sub a p
  | .cond _ a b, _ :: p => sub b p
  | .block _ c, _ :: p => sub c p
  | .loop c, _ :: p => sub c p
  | c, _ => c
def bodyOf (f : Func) : Code := f.body.getD .skip

/-! ### What code does not write -/

def dsts (ops : Array Oper) : List Nat := ops.toList.filterMap (·.dst)
def writes : Code → List Nat
  | .region _ ops _ => dsts ops
  | .seq a b => writes a ++ writes b
  | .cond _ a b => writes a ++ writes b
  | .block _ c => writes c
  | .loop c => writes c
  | _ => []

theorem set_ne {fr : Nat → Value} {d : Option Tmp} {v : Value} {i : Nat} (h : d ≠ some i) : set fr d v i = fr i := by
  cases d with
  | none => rfl
  | some t => simp only [set]; rw [if_neg]; rintro rfl; exact h rfl

theorem seqR_keep {P : Program} {C : FuncId → Array Value → Mem → Value → Mem → Prop} {ops : List Oper} {i : Nat} : ∀ (l : List Oper) (fr fr' : Nat → Value) (m m' : Mem), (∀ o ∈ l, o.dst ≠ some i) → seqR P C ops l fr m fr' m' → fr' i = fr i
  | [], fr, fr', m, m', _, h => by rw [h.1]
  | o :: l, fr, fr', m, m', hw, h => by
    have hw' : ∀ o ∈ l, o.dst ≠ some i := fun o ho => hw o (by simp [ho])
    simp only [seqR] at h
    split at h
    · obtain ⟨v, m1, _, h⟩ := h
      rw [seqR_keep l _ _ _ _ hw' h]; exact set_ne (hw o (by simp))
    · rw [seqR_keep l _ _ _ _ hw' h]; exact set_ne (hw o (by simp))

theorem drawR_keep {P : Program} {C : FuncId → Array Value → Mem → Value → Mem → Prop} {ops : List Oper} {B : Array Nat} {i : Nat} : ∀ (l : List Oper) (n : Nat) (A : Acc) (fr fr' : Nat → Value) (m m' : Mem), (∀ o ∈ l, o.dst ≠ some i) → drawR P C ops B n l A fr m fr' m' → fr' i = fr i
  | [], n, A, fr, fr', m, m', _, h => by rw [h.1]
  | o :: l, n, A, fr, fr', m, m', hw, h => by
    have hw' : ∀ o ∈ l, o.dst ≠ some i := fun o ho => hw o (by simp [ho])
    have h1 := hw o (by simp)
    simp only [drawR] at h
    split at h
    · rcases h with ⟨v, _, h⟩ | ⟨v, _, _, h⟩ | ⟨X, v, _, h⟩ | ⟨v, m1, _, _, _, h⟩ <;> (rw [drawR_keep l _ _ _ _ _ _ hw' h]; exact set_ne h1)
    · rw [drawR_keep l _ _ _ _ _ _ hw' h]; exact set_ne h1

theorem dsts_no {ops : Array Oper} {i : Nat} (h : (dsts ops).contains i = false) : ∀ o ∈ ops.toList, o.dst ≠ some i := by
  intro o ho he
  have : i ∈ dsts ops := List.mem_filterMap.2 ⟨o, ho, he⟩
  simp [this] at h

theorem contains_app {a b : List Nat} {i : Nat} (h : (a ++ b).contains i = false) : a.contains i = false ∧ b.contains i = false := by
  simpa using h

theorem codeR_keep {P : Program} {C : FuncId → Array Value → Mem → Value → Mem → Prop} {i : Nat} : ∀ (n : Nat) (c : Code) (fr fr' : Nat → Value) (m m' : Mem) (e : AExit), (writes c).contains i = false → codeR P C n c fr m e fr' m' → fr' i = fr i := by
  intro n
  induction n with
  | zero => intro c fr fr' m m' e _ h; exact h.elim
  | succ n ih =>
    intro c fr fr' m m' e hw h
    cases c with
    | skip => rw [h.2.1]
    | label l => rw [h.2.1]
    | exit id => rw [h.2.1]
    | ret => rw [h.2.1]
    | region id ops d =>
      cases d with
      | false => exact seqR_keep _ _ _ _ _ (dsts_no hw) h.2
      | true => exact drawR_keep _ _ _ _ _ _ _ (dsts_no hw) h.2
    | seq a b =>
      obtain ⟨h1, h2⟩ := contains_app hw
      obtain ⟨e1, fr1, m1, g1, g2⟩ := h
      have k1 := ih _ _ _ _ _ _ h1 g1
      split at g2
      · rw [ih _ _ _ _ _ _ h2 g2, k1]
      · rw [g2.2.1, k1]
    | cond c a b =>
      obtain ⟨h1, h2⟩ := contains_app hw
      obtain ⟨t, _, g⟩ := h
      cases t with
      | false => exact ih _ _ _ _ _ _ h2 g
      | true => exact ih _ _ _ _ _ _ h1 g
    | block id c =>
      obtain ⟨e1, g, _⟩ := h
      exact ih c _ _ _ _ _ hw g
    | loop c =>
      obtain ⟨e1, fr1, m1, g1, g2⟩ := h
      have k1 := ih c _ _ _ _ _ hw g1
      split at g2
      · rw [ih (.loop c) _ _ _ _ _ hw g2, k1]
      · rw [g2.2.1, k1]
    | rangeFunc f ps x y => exact h.elim
    | scope c => exact h.elim
    | goto l => exact h.elim
    | refuse s => exact h.elim

section
variable {P : Program} {Q Q' : AExit → (Nat → Value) → Mem → Prop} {fr : Nat → Value} {m : Mem}

/-- Code that ends so leaves alone what it does not write. -/
theorem W.keep {c : Code} (h : W P c Q fr m) (hq : ∀ e fr' m', (∀ i, (writes c).contains i = false → fr' i = fr i) → Q e fr' m' → Q' e fr' m') : W P c Q' fr m :=
  let ⟨n, e, fr', m', h1, h2⟩ := h
  ⟨n, e, fr', m', h1, hq _ _ _ (fun _ hi => codeR_keep _ _ _ _ _ _ _ hi h1) h2⟩

theorem W.condT {c : Operand} {a b : Code} {t : Bool} (ht : ev fr c = .bool t) (he : t = true) (h : W P a Q fr m) : W P (.cond c a b) Q fr m := W.cond (t := true) (by rw [ht, he]) h
theorem W.condF {c : Operand} {a b : Code} {t : Bool} (ht : ev fr c = .bool t) (he : t = false) (h : W P b Q fr m) : W P (.cond c a b) Q fr m := W.cond (t := false) (by rw [ht, he]) h

theorem thenQ.n {next : (Nat → Value) → Mem → Prop} (h : next fr m) : thenQ next Q .normal fr m := h
theorem thenQ.x {next : (Nat → Value) → Mem → Prop} {i : Nat} (h : Q (.exit i) fr m) : thenQ next Q (.exit i) fr m := h
theorem thenQ.r {next : (Nat → Value) → Mem → Prop} (h : Q .ret fr m) : thenQ next Q .ret fr m := h
theorem blockQ.n {i : Nat} (h : Q .normal fr m) : blockQ i Q .normal fr m := h
theorem blockQ.hit {i : Nat} (h : Q .normal fr m) : blockQ i Q (.exit i) fr m := by simp only [blockQ, if_true]; exact h
theorem blockQ.miss {i j : Nat} (hij : (j == i) = false) (h : Q (.exit j) fr m) : blockQ i Q (.exit j) fr m := by
  have : j ≠ i := by intro h; simp [h] at hij
  simp only [blockQ, if_neg this]; exact h
theorem blockQ.r {i : Nat} (h : Q .ret fr m) : blockQ i Q .ret fr m := h

theorem SeqW.done {ops : List Oper} {K : (Nat → Value) → Mem → Prop} (h : ∀ fr', fr' = fr → K fr' m) : SeqW P ops [] K fr m := SeqW.nil (h fr rfl)
theorem SeqW.mono {ops l : List Oper} {K K' : (Nat → Value) → Mem → Prop} (h : SeqW P ops l K fr m) (hk : ∀ fr m, K fr m → K' fr m) : SeqW P ops l K' fr m :=
  let ⟨n, fr', m', h1, h2⟩ := h; ⟨n, fr', m', h1, hk _ _ h2⟩
theorem StepW.of {o : Oper} {ρ : Operand → Value} {R : Value → Mem → Prop} {v : Value} {m' : Mem} {n : Nat} (h : StepR P (callR P n) ρ o m v m') (hk : R v m') : StepW P ρ o m R := ⟨n, v, m', h, hk⟩
end

/-! ### The state -/

/-- More is frozen, none of it among the first 'n' blocks. -/
structure Zx (n : Nat) (z z' : Nat → Blk) : Prop where
  le : Zle z z'
  low : ∀ b, b < n → z' b = z b
theorem Zx.refl {n : Nat} (z : Nat → Blk) : Zx n z z := ⟨Zle.refl z, fun _ _ => rfl⟩
theorem Zx.trans {n : Nat} {a b c : Nat → Blk} (h : Zx n a b) (k : Zx n b c) : Zx n a c := ⟨h.le.trans k.le, fun i hi => by rw [k.low i hi, h.low i hi]⟩
theorem Zx.anti {n n' : Nat} {a b : Nat → Blk} (h : Zx n a b) (hn : n' ≤ n) : Zx n' a b := ⟨h.le, fun i hi => h.low i (by omega)⟩

/-- A variable in memory. -/
structure Bx (z : Nat → Blk) (e m : Mem) (k : Option Nat) (b : Nat) (cs : List Value) (t : TypeId) : Prop where
  blk : m.blk b = .own cs t
  lt : b < m.next
  dead : z b = .dead
  fresh : e.next ≤ b ∨ k = some b

/-- A slice made in this call. -/
structure OwF {α : Type} (T : Ty α) (z : Nat → Blk) (e m : Mem) (k : Option Nat) (xs : List α) (v : Value) : Prop where
  ow : Ow T z m xs v
  fresh : ∀ b, blkOf v = some b → e.next ≤ b

section
variable {α : Type} {T : Ty α} {z z' : Nat → Blk} {e m m' : Mem} {k q : Option Nat} {xs : List α} {v : Value} {b : Nat} {cs : List Value} {t : TypeId}

theorem OwF.same (h : OwF T z e m k xs v) (s : Same m m' q) (ap : Ap (blkOf v) q) : OwF T z e m' k xs v := ⟨h.ow.same s ap, h.fresh⟩
theorem Bx.same (h : Bx z e m k b cs t) (s : Same m m' q) (ap : Ap (some b) q) : Bx z e m' k b cs t := by
  have := own_same h.blk h.lt s (ap b rfl)
  exact ⟨this.1, this.2, h.dead, h.fresh⟩
theorem OwF.lt (h : OwF T z e m k xs v) : ∀ b, blkOf v = some b → b < m.next := fun b hb => (h.ow.lt b hb).1
theorem Bx.lt' (h : Bx z e m k b cs t) : ∀ c, some b = some c → c < m.next := fun c hc => by cases hc; exact h.lt

theorem Ow.zle (h : Ow T z m xs v) (hz : Zle z z') (hb : ∀ b, blkOf v = some b → z' b = z b) : Ow T z' m xs v := by
  rcases h with h | ⟨b, L, c, rfl, h1, h2, h3, h4, h5, h6⟩
  · exact .inl h
  · refine .inr ⟨b, L, c, rfl, h1, h2, by rw [hb b rfl]; exact h3, h4, h5, fun i x hi => ?_⟩
    obtain ⟨cs, g1, g2⟩ := h6 i x hi
    exact ⟨cs, T.mono _ _ hz _ _ g1, g2⟩
theorem OwF.zle (h : OwF T z e m k xs v) (hz : Zle z z') (hb : ∀ b, blkOf v = some b → z' b = z b) : OwF T z' e m k xs v := ⟨h.ow.zle hz hb, h.fresh⟩
theorem Bx.zle (h : Bx z e m k b cs t) (hb : ∀ c, some b = some c → z' c = z c) : Bx z' e m k b cs t := ⟨h.blk, h.lt, by rw [hb b rfl]; exact h.dead, h.fresh⟩

/-- A slice is frozen for good. -/
theorem OwF.freeze (h : OwF T z e m k xs v) (st : St z e m k) : ∃ z', Zx e.next z z' ∧ St z' e m k ∧ SlR T z' xs v ∧ ∀ p, Ap p (blkOf v) → ∀ b, p = some b → z' b = z b := by
  refine ⟨frz z m (blkOf v), ⟨frz_le fun b hb => (h.ow.lt b hb).2, fun b hb => ?_⟩, ⟨frz_fz st.fz h.lt, st.dead, st.dead0, st.next, st.kept⟩, h.ow.toR, fun p hp b hb => ?_⟩
  · unfold frz
    rw [if_neg]
    intro hb'
    have := h.fresh b hb'
    omega
  · unfold frz
    rw [if_neg (hp b hb)]

/-- Behind a call. -/
theorem St.call (st : St z e m k) (hx : Zx m.next z z') (hf : Fz z' m') (s : Same m m' q) (hq : ∀ b, q = some b → z b = .dead ∧ (e.next ≤ b ∨ k = some b)) : St z' e m' k := by
  have h := st.same s hq
  exact ⟨hf, h.dead, h.dead0, h.next, h.kept⟩
theorem Zx.here (st : St z e m k) (hx : Zx m.next z z') : Zx e.next z z' := hx.anti st.next
theorem OwF.call (h : OwF T z e m k xs v) (hx : Zx m.next z z') (s : Same m m' q) (ap : Ap (blkOf v) q) : OwF T z' e m' k xs v :=
  (h.zle hx.le fun b hb => hx.low b (h.lt b hb)).same s ap
theorem Bx.call (h : Bx z e m k b cs t) (hx : Zx m.next z z') (s : Same m m' q) (ap : Ap (some b) q) : Bx z' e m' k b cs t :=
  (h.zle fun c hc => hx.low c (h.lt' c hc)).same s ap

theorem Bx.hq (h : Bx z e m k b cs t) : ∀ c, some b = some c → z c = .dead ∧ (e.next ≤ c ∨ k = some c) := fun c hc => by cases hc; exact ⟨h.dead, h.fresh⟩
theorem OwF.hq (h : OwF T z e m k xs v) : ∀ c, blkOf v = some c → z c = .dead ∧ (e.next ≤ c ∨ k = some c) := fun c hc => ⟨(h.ow.lt c hc).2, .inl (h.fresh c hc)⟩
theorem no_hq : ∀ c, (none : Option Nat) = some c → z c = .dead ∧ (e.next ≤ c ∨ k = some c) := fun c hc => by cases hc

theorem OwF.nil : OwF T z e m k [] (.slice none 0 0) := ⟨.nil, fun b hb => by cases hb⟩

/-! ### Steps -/

variable {P : Program} {C : FuncId → Array Value → Mem → Value → Mem → Prop} {ρ : Operand → Value} {o : Oper} {w : Value} {ys : List α} {x y : Operand} {u : TypeId} {i : TypeInfo}

theorem gAppend (h : o.op = .call { callee := .builtin .append, args := #[x, y], argTypes := #[t, u] }) (ht : P.underlying t = some (.slice T.tid)) (hi : P.info? T.tid = some i) {zv : Value} (hzv : i.zero = some zv) (hzf : zv.cells.toList.all flat0 = true) (hzs : zv.cells.size = i.size)
    (hsz : i.size = T.sz) (hpos : 0 < T.sz) (hby : i.bytes ≤ 32768) (hu : (∃ e', P.underlying u = some (.slice e')) ∨ P.underlying u = some .string) (hx : ρ x = v) (hs : OwF T z e m k xs v) (hy : ρ y = w) (hsrc : Src T z m ys w)
    (st : St z e m k) {r : List α} (hr : appI xs ys = some r) :
    ∃ v' m', EffR P C ρ o m v' m' ∧ St z e m' k ∧ OwF T z e m' k r v' ∧ Same m m' (blkOf v) ∧ ∀ p, (∀ b, p = some b → b < m.next) → Ap p (blkOf v) → Ap p (blkOf v') := by
  obtain ⟨v', m', h1, h2, h3, h4⟩ := eAppend (C := C) h ht hi hzv hzf hzs hsz hpos hby hu hx hs.ow hy hsrc st.fz st.dead hr
  refine ⟨v', m', h1, st.same h3 hs.hq, ⟨h2, fun b hb => ?_⟩, h3, fun p hp ha b hb hb' => ?_⟩
  · rcases h4 b hb with h4 | h4
    · exact hs.fresh b h4
    · have := st.next; omega
  · rcases h4 b hb' with h4 | h4
    · exact ha b hb h4
    · have := hp b hb; omega

theorem gOwn {L : List Value} {v' : Value} {ys : List α} (st : St z e m k) (h : Ow T z (m.push (.own L t)) ys v') (hb : blkOf v' = some m.next) :
    St z e (m.push (.own L t)) k ∧ OwF T z e (m.push (.own L t)) k ys v' ∧ Same m (m.push (.own L t)) none ∧ ∀ p, (∀ b, p = some b → b < m.next) → Ap p (blkOf v') :=
  ⟨st.push _, ⟨h, fun b hb' => by rw [hb] at hb'; cases hb'; exact st.next⟩, same_push st.dead, fun p hp b hb' hb2 => by rw [hb] at hb2; cases hb2; have := hp _ hb'; omega⟩

theorem gMake {x0 : α} {k1 k2 : IntKind} {n : Int} (h : o.op = .makeSlice t x y) (ht : P.underlying t = some (.slice T.tid)) (hi : P.info? T.tid = some i) {zv : Value} (hzv : i.zero = some zv) (hzf : zv.cells.toList.all flat0 = true) (hzs : zv.cells.size = i.size) (hsz : i.size = T.sz) (hby : i.bytes ≤ 32768)
    (hrd : T.rd z x0 zv.cells.toList) (hx : ρ x = .int k1 n) (hy : ρ y = .int k2 n) (st : St z e m k) {r : List α} (hr : mkI x0 n = some r) :
    ∃ v' m' L t', NewR P ρ o m.next (.own L t') v' ∧ m' = m.push (.own L t') ∧ St z e m' k ∧ OwF T z e m' k r v' ∧ Same m m' none ∧ ∀ p, (∀ b, p = some b → b < m.next) → Ap p (blkOf v') := by
  obtain ⟨L, v', h1, h2, h3⟩ := nMake (n' := n) h ht hi hzv hzf hzs hsz hby hrd hx hy st.fz hr
  exact ⟨v', _, _, _, h1, rfl, gOwn st h2 h3⟩
theorem gBuild {ps : Array (Nat × Operand)} {l : Nat} {as : List α} {css : List (List Value)} (h : o.op = .buildSlice t l ps) (ht : P.underlying t = some (.slice T.tid)) (hi : P.info? T.tid = some i) {zv : Value} (hzv : i.zero = some zv) (hzf : zv.cells.toList.all flat0 = true) (hzs : zv.cells.size = i.size) (hsz : i.size = T.sz)
    (hl : as.length = l) (h24 : l * T.sz ≤ 16777216) (hl63 : l < 9223372036854775808) (hb : BuildOk T z ρ ps.toList 0 as css) (st : St z e m k) :
    ∃ v' m' L t', NewR P ρ o m.next (.own L t') v' ∧ m' = m.push (.own L t') ∧ St z e m' k ∧ OwF T z e m' k as v' ∧ Same m m' none ∧ ∀ p, (∀ b, p = some b → b < m.next) → Ap p (blkOf v') := by
  obtain ⟨L, v', h1, h2, h3⟩ := nBuild h ht hi hzv hzf hzs hsz hl h24 hl63 hb st.fz
  exact ⟨v', _, _, _, h1, rfl, gOwn st h2 h3⟩
theorem gBytes {s : List UInt8} {tid : TypeId} (h : o.op = .convert u t x) (hu : P.underlying u = some .string) (ht : P.underlying t = some (.slice tid)) (he : P.underlying tid = some (.int .u8)) (hi : P.info? tid = some i) (hi1 : i.size = 1) (hx : ρ x = str s) (hl : s.length < 9223372036854775807) (st : St z e m k) :
    ∃ v' m' L t', NewR P ρ o m.next (.own L t') v' ∧ m' = m.push (.own L t') ∧ St z e m' k ∧ OwF (TU8 tid) z e m' k s v' ∧ Same m m' none ∧ ∀ p, (∀ b, p = some b → b < m.next) → Ap p (blkOf v') := by
  obtain ⟨L, v', h1, h2, h3⟩ := nBytes h hu ht he hi hi1 hx hl st.fz
  exact ⟨v', _, _, _, h1, rfl, gOwn st h2 h3⟩
theorem gBoxed {L : List Value} (st : St z e m k) : St z e (m.push (.own L t)) k ∧ Bx z e (m.push (.own L t)) k m.next L t ∧ Same m (m.push (.own L t)) none ∧ ∀ p, (∀ b, p = some b → b < m.next) → Ap p (some m.next) := by
  refine ⟨st.push _, ⟨by simp [Mem.push], Nat.lt_succ_self _, ?_, .inl st.next⟩, same_push st.dead, fun p hp b hb' hb2 => by cases hb2; have := hp _ hb'; omega⟩
  cases hzz : z m.next with
  | dead => rfl
  | ro rd => have := (st.fz m.next (by rw [hzz]; simp)).2; omega
  | own L t => have := (st.fz m.next (by rw [hzz]; simp)).2; omega
  | map L t => have := (st.fz m.next (by rw [hzz]; simp)).2; omega
theorem gAlloc (h : o.op = .alloc t) (hi : P.info? t = some i) {zv : Value} (hz : i.zero = some zv) (hzf : zv.cells.toList.all flat0 = true) (hs : zv.cells.size = i.size) (hc : zv.cells.toList = cs) (st : St z e m k) :
    ∃ b m' L t', NewR P ρ o m.next (.own L t') (.pointer (some ⟨b, 0, none⟩)) ∧ m' = m.push (.own L t') ∧ St z e m' k ∧ Bx z e m' k b cs t ∧ Same m m' none ∧ ∀ p, (∀ c, p = some c → c < m.next) → Ap p (some b) := by
  subst hc
  exact ⟨_, _, _, _, (.alloc t i zv h hi hz hzf hs), rfl, gBoxed st⟩
theorem gBox (h : o.op = .box t x) (hi : P.info? t = some i) (hx : ρ x = v) (hv : storable v = true) (hc : v.cells.toList = cs) (hs : cs.length = i.size) (st : St z e m k) :
    ∃ b m' L t', NewR P ρ o m.next (.own L t') (.pointer (some ⟨b, 0, none⟩)) ∧ m' = m.push (.own L t') ∧ St z e m' k ∧ Bx z e m' k b cs t ∧ Same m m' none ∧ ∀ p, (∀ c, p = some c → c < m.next) → Ap p (some b) := by
  subst hx hc
  exact ⟨_, _, _, _, (.box t x i h hi hv (by simpa using hs)), rfl, gBoxed st⟩

/-- A store into a variable. -/
theorem gPut {off : Nat} {new cs' : List Value} {te : TypeId} (h : o.op = .store t x y) (hi : P.info? t = some i) (hx : ρ x = .pointer (some ⟨b, off, none⟩)) (hy : ρ y = w) (hv : storable w = true) (hn : w.cells.toList = new) (hs : new.length = i.size) (hb : Bx z e m k b cs te) (hl : off + new.length ≤ cs.length) (hcs : setN cs off new = cs') (st : St z e m k) :
    ∃ m', EffR P C ρ o m undef m' ∧ St z e m' k ∧ Bx z e m' k b cs' te ∧ Same m m' (some b) := by
  subst hy hcs
  have hs' := same_put (x := .own (setN cs off new) te) st.dead hb.lt
  exact ⟨_, (eStore h hi hx hb.blk hv hn hs hl), st.same hs' hb.hq, ⟨by simp [Mem.put], hb.lt, hb.dead, hb.fresh⟩, hs'⟩

/-- A store to an element (or to a part of it). -/
theorem gSet {off n f l c : Nat} {new ecs ecs' : List Value} {a a' : α} (h : o.op = .store t x y) (hi : P.info? t = some i) (hx : ρ x = .pointer (some ⟨b, off, none⟩)) (hoff : off = n * T.sz + f) (hy : ρ y = w) (hv : storable w = true) (hn : w.cells.toList = new) (hs : new.length = i.size)
    (ho : OwF T z e m k xs v) (hvb : v = .slice (some ⟨b, 0, none⟩) l c) (ha : xs[n]? = some a) (hr : T.rd z a ecs) (hc : ∀ (i : Nat) (u : Value), ecs[i]? = some u → m.load b (n * T.sz + i) = some u) (hr' : T.rd z a' ecs') (hcs : ecs' = setN ecs f new) (hf : f + new.length ≤ ecs.length) (st : St z e m k) :
    ∃ m', EffR P C ρ o m undef m' ∧ St z e m' k ∧ OwF T z e m' k (xs.set n a') v ∧ Same m m' (blkOf v) := by
  subst hy hoff
  obtain ⟨L, g1, g2, g3, g4⟩ := ho.ow.store st.dead hvb ha hr ⟨b, _, rfl, hc⟩ hr' hcs hf
  have hbv : blkOf v = some b := by rw [hvb]; rfl
  refine ⟨_, (eStore h hi hx g1 hv hn hs g2), st.same g4 (by rw [← hbv]; exact ho.hq), ⟨g3, ho.fresh⟩, by rw [hbv]; exact g4⟩

/-- An element of a slice. -/
theorem gIdxR {k1 : IntKind} {n : Int} {a : α} {te : TypeId} (h : o.op = .indexAddr t x y) (ht : P.underlying t = some (.slice te)) (hi : P.info? te = some i) (hsz : i.size = T.sz) (hx : ρ x = v) (hy : ρ y = .int k1 n) (hs : SlR T z xs v) (hg : getI xs n = some a) :
    ∃ b off cs, PureR P ρ o (.pointer (some ⟨b, off, none⟩)) ∧ T.rd z a cs ∧ cellsAt z b off cs := by
  obtain ⟨p, cs, h1, h2, b, off, rfl, h3⟩ := pIdxR h ht hi hsz hx hy hs hg
  exact ⟨b, off, cs, h1, h2, h3⟩
theorem gIdxO {k1 : IntKind} {n : Int} {a : α} {te : TypeId} (h : o.op = .indexAddr t x y) (ht : P.underlying t = some (.slice te)) (hi : P.info? te = some i) (hsz : i.size = T.sz) (hx : ρ x = v) (hy : ρ y = .int k1 n) (hs : OwF T z e m k xs v) (hg : getI xs n = some a) :
    ∃ b l c cs, PureR P ρ o (.pointer (some ⟨b, n.toNat * T.sz, none⟩)) ∧ v = .slice (some ⟨b, 0, none⟩) l c ∧ T.rd z a cs ∧ ∀ (j : Nat) (u : Value), cs[j]? = some u → m.load b (n.toNat * T.sz + j) = some u := by
  obtain ⟨p, cs, h1, h2, h3, b, l, c, rfl, rfl⟩ := pIdxO h ht hi hsz hx hy hs.ow hg
  obtain ⟨b2, o2, h4, h5⟩ := h3
  cases h4
  exact ⟨b, l, c, cs, h1, rfl, h2, h5⟩

theorem gField {n : Nat} {fs : Array Field} {f : Field} {off : Nat} (h : o.op = .fieldAddr t x n) (ht : P.underlying t = some (.struct fs)) (hf : fs[n]? = some f) (hi : P.info? f.type = some i) (hs : (i.size == 0) = false) (hx : ρ x = .pointer (some ⟨b, off, none⟩)) :
    PureR P ρ o (.pointer (some ⟨b, off + f.offset, none⟩)) := .fieldAddr t x n fs f i b off h ht hf hi (by intro h0; rw [h0] at hs; cases hs) hx

theorem gLoad {off : Nat} {d : TypeDesc} (h : o.op = .load t x) (ht : P.underlying t = some d) (hd : aggT d = false) (hx : ρ x = .pointer (some ⟨b, off, none⟩)) (hv : m.load b off = some v) : ReadR P ρ o m v := .load t x b off d v h hx ht hd hv
theorem gLoadA {off : Nat} {d : TypeDesc} (h : o.op = .load t x) (ht : P.underlying t = some d) (hd : aggT d = true) (hi : P.info? t = some i) (hs : cs.length = i.size) (hx : ρ x = .pointer (some ⟨b, off, none⟩)) (hv : ∀ (j : Nat) (u : Value), cs[j]? = some u → m.load b (off + j) = some u) : ReadR P ρ o m (.agg cs.toArray) :=
  .loadA t x b off d i cs h hx ht hd hi (rdN_of _ _ _ hs hv)
theorem Bx.load (h : Bx z e m k b cs t) {off : Nat} (hv : cs[off]? = some v) : m.load b off = some v := by simp only [Mem.load, h.blk]; exact hv
theorem Bx.loads (h : Bx z e m k b cs t) : ∀ (j : Nat) (u : Value), cs[j]? = some u → m.load b (0 + j) = some u := fun j u hj => by rw [Nat.zero_add]; exact h.load hj
theorem St.loads (st : St z e m k) {off : Nat} (h : cellsAt z b off cs) : ∀ (j : Nat) (u : Value), cs[j]? = some u → m.load b (off + j) = some u := fun j u hj => ldz_load st.fz (h j u hj)

end

/-! ### Calls -/

theorem enter_fr {args : Array Value} {n i : Nat} {v : Value} (h : args.toList[i]? = some v) : (args ++ Array.replicate n undef).getD i undef = v := by
  have h1 : args[i]? = some v := by rw [← Array.getElem?_toList]; exact h
  have hlt := (Array.getElem?_eq_some_iff.1 h1).1
  rw [Array.getD_eq_getD_getElem?, Array.getElem?_append_left hlt, h1]; rfl

theorem low_flat0 {n : Nat} {v : Value} (h : flat0 v = true) : low0 n v := by
  cases v with
  | pointer a => cases a with
    | none => trivial
    | some a => simp [flat0] at h
  | slice a l c => cases a with
    | none => trivial
    | some a => simp [flat0] at h
  | map r => cases r with
    | none => trivial
    | some r => simp [flat0] at h
  | _ => first | trivial | simp [flat0] at h
theorem low_flat1 {n : Nat} {v : Value} (h : flat1 v = true) : low1 n v := by
  cases v with
  | agg cs => intro w hw; simp only [flat1, List.all_eq_true] at h; exact low_flat0 (h w hw)
  | pointer a => exact low_flat0 (v := .pointer a) h
  | slice a l c => exact low_flat0 (v := .slice a l c) h
  | map r => exact low_flat0 (v := .map r) h
  | _ => first | trivial | simp [flat1, flat0] at h
theorem low_flat {n : Nat} {v : Value} (h : flat v = true) : low n v := by
  cases v with
  | tuple cs => intro w hw; simp only [flat, List.all_eq_true] at h; exact low_flat1 (h w hw)
  | func a b c => simp [flat, flat1, flat0] at h
  | agg cs => exact low_flat1 (v := .agg cs) h
  | pointer a => exact low_flat1 (v := .pointer a) h
  | slice a l c => exact low_flat1 (v := .slice a l c) h
  | map r => exact low_flat1 (v := .map r) h
  | _ => first | trivial | simp [flat, flat1, flat0] at h

/-- A function whose results hold no address and that writes nothing of its caller's. -/
theorem CallW.flat {P : Program} {f : FuncId} {fn : Func} {c : Code} {args : Array Value} {z : Nat → Blk} {m : Mem} {r : Value} (hf : P.funcs[f]? = some fn) (hb : fn.body = some c) (hok : okFn P f = true) (hsz : args.size ≤ fn.ntmps) (hr : AM.flat r = true)
    (h : ∀ fr, (∀ i v, args.toList[i]? = some v → fr i = v) → W P c (fun e fr m1 => (e = .normal ∨ e = .ret) ∧ ∃ z', St z' m m1 none ∧ ∃ vs, resultsR P fr m1 fn.results.toList vs ∧ (vs.length = 1 ∨ ∀ x ∈ vs, storable x = true) ∧ pack vs = r) fr m) : CallW P f args m fun v m' => v = r ∧ m' = m := by
  refine CallW.enter hf hb hok hsz ((h _ fun i v hi => enter_fr hi).mono ?_)
  rintro e fr m1 ⟨he, z', st, vs, h1, h2, h3⟩
  refine ⟨he, vs, h1, h2, .inr ⟨⟨h3, st.trunc_eq⟩, by rw [h3]; exact low_flat hr, fun b hb => .inl (st.kept b hb (by simp))⟩⟩

/-- Any function. -/
theorem CallW.any {P : Program} {f : FuncId} {fn : Func} {c : Code} {args : Array Value} {m : Mem} {R : Value → Mem → Prop} (hf : P.funcs[f]? = some fn) (hb : fn.body = some c) (hok : okFn P f = true) (hsz : args.size ≤ fn.ntmps)
    (h : ∀ fr, (∀ i v, args.toList[i]? = some v → fr i = v) → W P c (fun e fr m1 => (e = .normal ∨ e = .ret) ∧ ∃ vs, resultsR P fr m1 fn.results.toList vs ∧ (vs.length = 1 ∨ ∀ x ∈ vs, storable x = true) ∧ R (pack vs) m1) fr m) : CallW P f args m R := by
  refine CallW.enter hf hb hok hsz ((h _ fun i v hi => enter_fr hi).mono ?_)
  rintro e fr m1 ⟨he, vs, h1, h2, h3⟩
  exact ⟨he, vs, h1, h2, .inl h3⟩

theorem gCallee {o : Oper} {ρ : Operand → Value} {f : FuncId} {as : Array Operand} {ts : Array TypeId} {args : Array Value} (h : o.op = .call { callee := .value (.func f), args := as, argTypes := ts }) (hf : ρ (.func f) = .func (.func f) #[] #[]) (ha : as.map ρ = args) : callee o ρ f args :=
  ⟨_, as, ts, #[], #[], h, hf, by rw [ha]; simp⟩

end Go.AM
