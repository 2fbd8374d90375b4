/- Function values, pointers to cells that are frozen, whether a slice is nil. -/
import Derived.Test.YtaoioacomnnhdaaAmEq
set_option linter.unusedSimpArgs false
set_option linter.unusedVariables false
namespace Go.AM

theorem cellsAt.mono {z z' : Nat → Blk} {b off : Nat} {cs : List Value} (hc : cellsAt z b off cs) (h : Zle z z') : cellsAt z' b off cs := cellsAt_mono h hc

/-- A part of a list of cells. -/
theorem part_get {cs a d c : List Value} {n : Nat} (h1 : cs = a ++ (d ++ c)) (h2 : a.length = n) : ∀ (j : Nat) (u : Value), d[j]? = some u → cs[n + j]? = some u := by
  subst h1 h2
  intro j u hj
  have hlt := (List.getElem?_eq_some_iff.1 hj).1
  rw [List.getElem?_append_right (by omega), Nat.add_sub_cancel_left, List.getElem?_append_left hlt]
  exact hj
theorem cellsAt.part {z : Nat → Blk} {b off n : Nat} {cs : List Value} (hc : cellsAt z b off cs) (a d c : List Value) (h1 : cs = a ++ (d ++ c)) (h2 : a.length = n) : cellsAt z b (off + n) d := fun j u hj => by
  rw [Nat.add_assoc]; exact hc _ u (part_get h1 h2 j u hj)
theorem loads_part {m : Mem} {b off n : Nat} {cs : List Value} (hc : ∀ (j : Nat) (u : Value), cs[j]? = some u → m.load b (off + j) = some u) (a d c : List Value) (h1 : cs = a ++ (d ++ c)) (h2 : a.length = n) : ∀ (j : Nat) (u : Value), d[j]? = some u → m.load b (off + n + j) = some u := fun j u hj => by
  rw [Nat.add_assoc]; exact hc _ u (part_get h1 h2 j u hj)

section
variable {z : Nat → Blk} {e m : Mem} {k : Option Nat} {b n : Nat} {cs : List Value} {t : TypeId} {v : Value}
variable {P : Program} {ρ : Operand → Value} {o : Oper} {x : Operand} {i : TypeInfo} {D : Tag → Value → Mem → Prop}

theorem Bx.part (h : Bx z e m k b cs t) (a d c : List Value) (h1 : cs = a ++ (d ++ c)) (h2 : a.length = n) : ∀ (j : Nat) (u : Value), d[j]? = some u → m.load b (n + j) = some u := fun j u hj => h.load (part_get h1 h2 j u hj)

/-- A variable that is not written any more. -/
theorem Bx.lend (h : Bx z e m k b cs t) (st : St z e m k) : ∃ z', Zle z z' ∧ St z' e m k ∧ cellsAt z' b 0 cs ∧ ∀ p, Ap p (some b) → ∀ c, p = some c → z' c = z c := by
  refine ⟨frz z m (some b), frz_le fun c hc => by cases hc; exact h.dead, ⟨frz_fz st.fz (fun c hc => by cases hc; exact h.lt), st.dead, st.dead0, st.next, st.kept⟩, fun j u hj => ?_, fun p hp c hc => ?_⟩
  · simp only [ldz, frz, if_true, h.blk, Nat.zero_add]; exact hj
  · unfold frz
    rw [if_neg (hp c hc)]
theorem Bx.freeze (h : Bx z e m k b cs t) (hn : e.next ≤ b) (st : St z e m k) : ∃ z', Zx e.next z z' ∧ St z' e m k ∧ cellsAt z' b 0 cs ∧ ∀ p, Ap p (some b) → ∀ c, p = some c → z' c = z c := by
  obtain ⟨z', h1, h2, h3, h4⟩ := h.lend st
  refine ⟨frz z m (some b), ⟨frz_le fun c hc => by cases hc; exact h.dead, fun c hc => ?_⟩, ⟨frz_fz st.fz (fun c hc => by cases hc; exact h.lt), st.dead, st.dead0, st.next, st.kept⟩, fun j u hj => ?_, fun p hp c hc => ?_⟩
  · unfold frz
    rw [if_neg (by intro hb; cases hb; omega)]
  · simp only [ldz, frz, if_true, h.blk, Nat.zero_add]; exact hj
  · unfold frz
    rw [if_neg (hp c hc)]

theorem kAllocN (h : o.op = .alloc t) (hi : P.info? t = some i) {zv : Value} (hz : i.zero = some zv) (hzf : zv.cells.toList.all flat0 = true) (hs : zv.cells.size = i.size) (cs : List Value) (hc : zv.cells.toList = cs) (st : St z e m k)
    (hk : ∀ b m', e.next ≤ b → St z e m' k → Bx z e m' k b cs t → Same m m' none → (∀ p, (∀ c, p = some c → c < m.next) → Ap p (some b)) → D .new (.pointer (some ⟨b, 0, none⟩)) m') : StepX P ρ o m D := by
  subst hc
  obtain ⟨h2, h3, h4, h5⟩ := gBoxed (L := zv.cells.toList) (t := t) st
  exact StepX.new (.alloc t i zv h hi hz hzf hs) (hk _ _ st.next h2 h3 h4 h5)
theorem kBoxN (h : o.op = .box t x) (hi : P.info? t = some i) (hx : ρ x = v) (hv : storable v = true) (cs : List Value) (hc : v.cells.toList = cs) (hs : cs.length = i.size) (st : St z e m k)
    (hk : ∀ b m', e.next ≤ b → St z e m' k → Bx z e m' k b cs t → Same m m' none → (∀ p, (∀ c, p = some c → c < m.next) → Ap p (some b)) → D .new (.pointer (some ⟨b, 0, none⟩)) m') : StepX P ρ o m D := by
  subst hx hc
  obtain ⟨h2, h3, h4, h5⟩ := gBoxed (L := (ρ x).cells.toList) (t := t) st
  exact StepX.new (.box t x i h hi hv (by simpa using hs)) (hk _ _ st.next h2 h3 h4 h5)

theorem pFunc {fn : Fn} {cap : Array Operand} {caps : Array Value} (h : o.op = .makeFunc fn #[] cap) (hc : cap.map ρ = caps) (hs : caps.toList.all storable = true) : PureR P ρ o (.func fn #[] caps) := by
  subst hc
  have := PureR.func (P := P) (ρ := ρ) (o := o) fn #[] cap h (fun x hx => by
    simp only [List.nil_append] at hx
    have := List.all_eq_true.1 hs (ρ x) (by simp only [Array.toList_map]; exact List.mem_map_of_mem (by simpa using hx))
    exact this)
  simpa using this

theorem gCalleeV {f : FuncId} {y : Operand} {as : Array Operand} {ts : Array TypeId} {args caps all : Array Value} (h : o.op = .call { callee := .value y, args := as, argTypes := ts }) (hf : ρ y = .func (.func f) #[] caps) (ha : as.map ρ = args) (hall : args ++ caps = all) : callee o ρ f all :=
  ⟨_, as, ts, #[], caps, h, hf, by rw [ha, ← hall]; simp⟩
end

/-! ### Is a slice nil? -/
open Classical in
/-- What follows is the same whether an empty slice is nil or not. -/
noncomputable def nilT {α β : Type} (xs : List α) (f : Bool → Option β) : Option β := if xs = [] then (if f true = f false then f true else none) else f false
theorem nilT_some {α β : Type} {xs : List α} {f : Bool → Option β} {r : β} (h : nilT xs f = some r) (t : Bool) (ht : t = true → xs = []) : f t = some r := by
  unfold nilT at h
  by_cases hx : xs = []
  · rw [if_pos hx] at h
    split at h
    · cases t
      · rename_i he; rw [← he]; exact h
      · exact h
    · cases h
  · rw [if_neg hx] at h
    cases t
    · exact h
    · exact absurd (ht rfl) hx
theorem nilT_of {α β : Type} {xs : List α} {f : Bool → Option β} {r : β} (h : ∀ t, (t = true → xs = []) → f t = some r) : nilT xs f = some r := by
  unfold nilT
  by_cases hx : xs = []
  · rw [if_pos hx, if_pos (by rw [h true fun _ => hx, h false (by simp)])]; exact h true fun _ => hx
  · rw [if_neg hx]; exact h false (by simp)

section
variable {α β : Type} {T : Ty α} {z : Nat → Blk} {e m : Mem} {k : Option Nat} {xs : List α} {v : Value} {t u : TypeId} {f : Bool → Option β} {r : β}
variable {P : Program} {ρ : Operand → Value} {o : Oper} {x y : Operand} {te : TypeId}

theorem pEqNil0 (neq : Bool) (h : o.op = .binOp (if neq then .neq else .eql) t x y u) (ht : P.underlying t = some (.slice te)) (hx : ρ x = .slice none 0 0) (hy : ρ y = .slice none 0 0) : PureR P ρ o (.bool (!neq)) := by
  refine flat2 (x := x) (y := y) (by rw [h]; rfl) (by rw [h]; intros; simp) (by rw [hx]; rfl) (by rw [hy]; rfl) rfl fun w => ?_
  have hg : (eqGuard (if neq then .neq else .eql) t x y (.slice none 0 0) (.slice none 0 0)).run P w = .ok () w := by
    cases neq <;> simp [eqGuard]
  have hb : (binOp (if neq then .neq else .eql) t (.slice none 0 0) (.slice none 0 0)).run P w = .ok (.bool (!neq)) w := by
    cases neq
    · exact Lib.run_eql_slice_nil w t te none 0 0 0 0 ht
    · exact run_neq_slice_nil_any w t te none 0 0 0 0 ht
  simp only [execOp, h, hx, hy, Sem.run_bind, hg, hb, Result.andThen_ok, Sem.run_pure]

theorem kNil {D : Tag → Value → Mem → Prop} (neq : Bool) (h : o.op = .binOp (if neq then .neq else .eql) t x y u) (ht : P.underlying t = some (.slice te)) (hx : ρ x = v) (hy : ρ y = .slice none 0 0) (hs : (v = .slice none 0 0 ∧ xs = []) ∨ ∃ a l c, v = .slice (some a) l c) (hr : nilT xs f = some r)
    (hk : ∀ t, f t = some r → D .pure (.bool (if neq then !t else t)) m) : StepX P ρ o m D := by
  rcases hs with ⟨rfl, rfl⟩ | ⟨a, l, c, rfl⟩
  · have := hk true (nilT_some hr true fun _ => rfl)
    exact StepX.pure (pEqNil0 neq h ht hx hy) (by cases neq <;> exact this)
  · have := hk false (nilT_some hr false (by simp))
    refine StepX.pure (.eqNil neq x y t u te a l c h ht hx hy) (by cases neq <;> exact this)
theorem SlR.nilOr (h : SlR T z xs v) : (v = .slice none 0 0 ∧ xs = []) ∨ ∃ a l c, v = .slice (some a) l c := by
  rcases h with h | ⟨b, off, c, rfl, _⟩
  · exact .inl h
  · exact .inr ⟨_, _, _, rfl⟩
theorem Ow.nilOr (h : Ow T z m xs v) : (v = .slice none 0 0 ∧ xs = []) ∨ ∃ a l c, v = .slice (some a) l c := by
  rcases h with h | ⟨b, L, c, rfl, _⟩
  · exact .inl h
  · exact .inr ⟨_, _, _, rfl⟩
end
end Go.AM
