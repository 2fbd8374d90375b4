/- Shifts by literals, equality of structs, keys that are structs. -/
import Derived.Test.YtaoioacomnnhdaaAmMap
import Derived.Laws.StructEq
set_option linter.unusedSimpArgs false
set_option linter.unusedVariables false
namespace Go.AM

section
variable {P : Program} {ρ : Operand → Value} {o : Oper} {x y : Operand} {t u : TypeId} {k yk : IntKind} {a : Int}

theorem pShlL {n : Nat} {p : Int} (h : o.op = .binOp .shl t x y u) (hx : ρ x = .int k a) (hy : ρ y = .int yk n) (hn : Nat.ble n k.bits = true) (hp : (2 : Int) ^ n = p) : PureR P ρ o (.int k (k.wrap (a * p))) := by
  have := pShift (P := P) h hx hy (by omega) (.inl rfl)
  rw [if_pos rfl, Int.toNat_natCast, Nat.min_eq_left (Nat.le_of_ble_eq_true hn), hp] at this
  exact this
theorem pShrL {n : Nat} {p : Int} (h : o.op = .binOp .shr t x y u) (hx : ρ x = .int k a) (hy : ρ y = .int yk n) (hn : Nat.ble n k.bits = true) (hp : (2 : Int) ^ n = p) : PureR P ρ o (.int k (a.fdiv p)) := by
  have := pShift (P := P) h hx hy (by omega) (.inr rfl)
  rw [if_neg (by simp), Int.toNat_natCast, Nat.min_eq_left (Nat.le_of_ble_eq_true hn), hp] at this
  exact this

noncomputable instance valueDec : DecidableEq Value := fun _ _ => Classical.propDecidable _

/-- Two cells of a kind that is compared as it stands. -/
def Scal (P : Program) (t : TypeId) (x y : Value) : Prop :=
  (∃ k k' a b, P.underlying t = some (.int k') ∧ x = .int k a ∧ y = .int k b) ∨ (∃ a b, P.underlying t = some .bool ∧ x = .bool a ∧ y = .bool b) ∨ (∃ a b, P.underlying t = some .string ∧ x = str a ∧ y = str b)

def ScalF (P : Program) : List Field → Nat → List Value → List Value → Prop
  | [], _, [], [] => True
  | f :: fs, i, x :: xs, y :: ys => f.offset = i ∧ f.name ≠ "_" ∧ Scal P f.type x y ∧ ScalF P fs (i + 1) xs ys
  | _, _, _, _ => False

theorem run_scal {t : TypeId} {x y : Value} (h : Scal P t x y) (d : Nat) (w : World) : (Op.equalIn (d + 1) t x y).run P w = .ok (decide (x = y)) w := by
  rcases h with ⟨k, k', a, b, h, rfl, rfl⟩ | ⟨a, b, h, rfl, rfl⟩ | ⟨a, b, h, rfl, rfl⟩
  · rw [run_equalIn_int w d t k k' a b h]
    congr 1
    rw [Bool.eq_iff_iff]; simp
  · rw [run_equalIn_bool' w d t a b h]
    congr 1
    rw [Bool.eq_iff_iff]; simp
  · rw [str, str, run_equalIn_string w d t _ _ h]
    congr 1
    rw [Bool.eq_iff_iff]
    simp [ByteArray.toList_eq]

theorem scal_noAgg {t : TypeId} {x y : Value} (h : Scal P t x y) : tyAgg P t = false := by
  rcases h with ⟨k, k', a, b, h, _⟩ | ⟨a, b, h, _⟩ | ⟨a, b, h, _⟩ <;> simp [tyAgg, h, aggT]

theorem run_part {t : TypeId} {cs : Array Value} {i : Nat} {v : Value} (ha : tyAgg P t = false) {d : TypeDesc} (hd : P.underlying t = some d) (hv : cs[i]? = some v) (w : World) : (part t cs i).run P w = .ok v w := by
  have : aggT d = false := by simpa [tyAgg, hd] using ha
  simp [part, run_ia hd, this, hv]

theorem scal_und {t : TypeId} {x y : Value} (h : Scal P t x y) : ∃ d, P.underlying t = some d := by
  rcases h with ⟨k, k', a, b, h, _⟩ | ⟨a, b, h, _⟩ | ⟨a, b, h, _⟩ <;> exact ⟨_, h⟩

theorem run_fields {pre pre' : List Value} (d : Nat) (w : World) : ∀ {fs : List Field} {i : Nat} {xs ys : List Value}, ScalF P fs i xs ys → pre.length = i → pre'.length = i → (Op.eqFields (d + 1) (pre ++ xs).toArray (pre' ++ ys).toArray fs).run P w = .ok (decide (xs = ys)) w
  | [], i, [], [], _, _, _ => by simp [Op.eqFields]
  | f :: fs, i, x :: xs, y :: ys, ⟨h1, h2, h3, h4⟩, hp, hp' => by
    obtain ⟨dd, hd⟩ := scal_und h3
    have ha := scal_noAgg h3
    have g1 := run_part (P := P) (cs := (pre ++ x :: xs).toArray) (i := f.offset) (v := x) ha hd (by rw [h1, ← hp]; simp) w
    have g2 := run_part (P := P) (cs := (pre' ++ y :: ys).toArray) (i := f.offset) (v := y) ha hd (by rw [h1, ← hp']; simp) w
    have ih := run_fields (pre := pre ++ [x]) (pre' := pre' ++ [y]) d w h4 (by simp [hp]) (by simp [hp'])
    simp only [List.append_assoc, List.singleton_append] at ih
    simp only [Op.eqFields]
    rw [if_pos h2]
    simp only [Sem.run_bind, g1, g2, Result.andThen_ok, run_scal h3 d w]
    by_cases hxy : x = y
    · simp only [hxy, decide_true, Bool.not_true, Bool.false_eq_true, if_false]
      rw [← hxy] at ih ⊢
      rw [hxy] at ih ⊢
      rw [ih]
      simp
    · simp [hxy]
  | [], _, _ :: _, _, h, _, _ => h.elim
  | [], _, [], _ :: _, h, _, _ => h.elim
  | _ :: _, _, [], _, h, _, _ => h.elim
  | _ :: _, _, _ :: _, [], h, _, _ => h.elim

theorem run_eqA {fs : Array Field} {xs ys : List Value} (ht : P.underlying t = some (.struct fs)) (hp : P.stoodInHeld t = false) (h : ScalF P fs.toList 0 xs ys) (w : World) : (Op.equalIn 10000 t (.agg xs.toArray) (.agg ys.toArray)).run P w = .ok (decide (xs = ys)) w := by
  have hf : P.fieldsOf t = fs := by simp [Program.fieldsOf, ht]
  rw [show (10000 : Nat) = 9998 + 1 + 1 from rfl, run_equalIn_struct w _ t _ _ (by rw [hf]; exact ht) hp, hf]
  have := run_fields (P := P) (pre := []) (pre' := []) 9998 w h rfl rfl
  simpa using this

theorem ScalF.flat : ∀ {fs : List Field} {i : Nat} {xs ys : List Value}, ScalF P fs i xs ys → xs.all flat0 = true ∧ ys.all flat0 = true
  | [], i, [], [], _ => ⟨rfl, rfl⟩
  | f :: fs, i, x :: xs, y :: ys, ⟨_, _, h3, h4⟩ => by
    obtain ⟨g1, g2⟩ := ScalF.flat h4
    have : flat0 x = true ∧ flat0 y = true := by rcases h3 with ⟨k, k', a, b, h, rfl, rfl⟩ | ⟨a, b, h, rfl, rfl⟩ | ⟨a, b, h, rfl, rfl⟩ <;> exact ⟨rfl, rfl⟩
    simp [this.1, this.2, g1, g2]
  | [], _, _ :: _, _, h => h.elim
  | [], _, [], _ :: _, h => h.elim
  | _ :: _, _, [], _, h => h.elim
  | _ :: _, _, _ :: _, [], h => h.elim

theorem pEqA {fs : Array Field} {xs ys : List Value} {r : Bool} (neq : Bool) (h : o.op = .binOp (if neq then .neq else .eql) t x y u) (ht : P.underlying t = some (.struct fs)) (hp : P.stoodInHeld t = false) (hg : P.eqGuardType P.depth t = false) (hs : ScalF P fs.toList 0 xs ys)
    (hx : ρ x = .agg xs.toArray) (hy : ρ y = .agg ys.toArray) (hr : r = true ↔ xs = ys) : PureR P ρ o (.bool (if neq then !r else r)) := by
  have hfl := hs.flat
  refine flat2 (x := x) (y := y) (by rw [h]; rfl) (by rw [h]; intros; simp) (by rw [hx]; simpa [flat, flat1] using hfl.1) (by rw [hy]; simpa [flat, flat1] using hfl.2) rfl fun w => ?_
  have he := run_eqA ht hp hs w
  have hrd : decide (xs = ys) = r := by
    by_cases hxy : xs = ys
    · simp [hxy, hr.2 hxy]
    · have : r = false := by
        cases r with
        | false => rfl
        | true => exact absurd (hr.1 rfl) hxy
      simp [hxy, this]
  rw [hrd] at he
  cases neq with
  | false => simp [execOp, h, hx, hy, run_eqGuard_agg w _ _ _ _ _ _ hg, run_eql_struct, he]
  | true => simp [execOp, h, hx, hy, run_eqGuard_agg w _ _ _ _ _ _ hg, run_neq_struct, he]

end

/-! ### The first elements of a slice of the call's own -/
section
variable {α : Type} {T : Ty α} {z : Nat → Blk} {e m : Mem} {k : Option Nat} {xs : List α} {v : Value} {t : TypeId}
variable {P : Program} {ρ : Operand → Value} {o : Oper} {x : Operand} {i : TypeInfo} {D : Tag → Value → Mem → Prop}

theorem kCutO {lo hi : Option Operand} {b : Int} {r : List α} (h : o.op = .slice t x lo hi none) (ht : P.underlying t = some (.slice T.tid)) (hi' : P.info? T.tid = some i) (hsz : i.size = T.sz) (hx : ρ x = v)
    (hlo : lowI ρ lo 0) (hhi : highI ρ hi xs.length b) (hs : OwF T z e m k xs v) (hr : cutI xs 0 b = some r) (hk : ∀ v' I, OwF T z e m k r v' → blkOf v' = blkOf v → D (.read I) v' m) : StepX P ρ o m D := by
  obtain ⟨h0, h1, h2, rfl⟩ := cutI_some hr
  obtain ⟨b', rfl⟩ := Int.eq_ofNat_of_zero_le h1
  have h2' : b' ≤ xs.length := by omega
  simp only [Int.toNat_natCast, Int.toNat_zero, List.drop_zero] at hk
  have hlo' : lowIs ρ lo 0 := lowI_is (n := 0) hlo
  have hhi' := highI_is hhi
  have hlen : (xs.take b').length = b' := by simp; omega
  obtain ⟨how, hfr⟩ := hs
  rcases how with ⟨rfl, rfl⟩ | ⟨bl, L, c, rfl, g1, g2, g3, g4, g5, g6⟩
  · have hb0 : b' = 0 := by simpa using h2'
    subst hb0
    refine StepX.pureR (I := fun _ => True) (.sliceNil t x lo hi T.tid i h ht hi' hx hlo' hhi') (hk _ _ ⟨.inl ⟨rfl, by simp⟩, hfr⟩ rfl)
  · have hel : ∀ (k : Nat) (w : α), (xs.take b')[k]? = some w → ∃ cs, T.rd z w cs ∧ cellsIn L (k * T.sz) cs := by
      intro k w hk
      rw [List.getElem?_take] at hk
      split at hk
      · exact g6 k w hk
      · cases hk
    have hle : b' * T.sz ≤ L.length := Nat.le_trans (Nat.mul_le_mul_right _ h2') g4
    rcases g5 with rfl | ⟨hc, hcl, hcL⟩
    · refine StepX.read (.slice t x lo hi T.tid i L bl 0 xs.length 0 b' h ht hi' hx g1 hlo' hhi' (Nat.zero_le _) h2' (by rw [Nat.zero_add, hsz]; exact g4)) (hk _ _ ⟨.inr ⟨bl, L, BIG, ?_, g1, g2, g3, by rw [hlen]; exact hle, .inl rfl, hel⟩, fun b hb => ?_⟩ rfl)
      · simp [hlen]
      · exact hfr b hb
    · refine StepX.pureR (I := fun _ => True) (.slice t x lo hi T.tid i bl 0 xs.length c 0 b' h ht hi' hx (by simp only [BIG] at hc ⊢; omega) hlo' hhi' (Nat.zero_le _) (by omega) (fun _ => trivial)) (hk _ _ ⟨.inr ⟨bl, L, c, ?_, g1, g2, g3, by rw [hlen]; exact hle, .inr ⟨hc, by rw [hlen]; omega, hcL⟩, hel⟩, fun b hb => ?_⟩ rfl)
      · simp [hlen]
      · exact hfr b hb
end

/-! ### Keys that are structs -/

theorem run_checkA {P : Program} {t : TypeId} {fs : Array Field} {xs : List Value} (ht : P.underlying t = some (.struct fs)) (h : ScalF P fs.toList 0 xs xs) (em : Bool) (w : World) : (Instr.checkKey em 10000 t (.agg xs.toArray)).run P w = .ok () w := by
  have key : ∀ {fs : List Field} {i : Nat} {ys pre : List Value}, ScalF P fs i ys ys → pre.length = i → ∀ w,
      (forIn fs PUnit.unit fun f _ => (do
        if f.name ≠ "_" then Instr.checkKey em 9999 f.type (← part f.type (pre ++ ys).toArray f.offset)
        pure (ForInStep.yield PUnit.unit) : Sem (ForInStep PUnit))).run P w = .ok PUnit.unit w := by
    intro fs
    induction fs with
    | nil => intro i ys pre h hp w; simp
    | cons f fs ih =>
      intro i ys pre h hp w
      cases ys with
      | nil => exact h.elim
      | cons y ys =>
        obtain ⟨h1, h2, h3, h4⟩ := h
        obtain ⟨dd, hd⟩ := scal_und h3
        have g1 := run_part (P := P) (cs := (pre ++ y :: ys).toArray) (i := f.offset) (v := y) (scal_noAgg h3) hd (by rw [h1, ← hp]; simp) w
        have g2 : (Instr.checkKey em 9999 f.type y).run P w = .ok () w := by
          have hq : ∀ n : Nat, (Instr.checkKey em (n + 1) f.type y).run P w = .ok () w := by
            intro n
            rcases h3 with ⟨k, k', a, b, h, rfl, _⟩ | ⟨a, b, h, rfl, _⟩ | ⟨a, b, h, rfl, _⟩ <;> simp [Instr.checkKey, run_u h, str]
          exact hq 9998
        have ih := ih (pre := pre ++ [y]) h4 (by simp [hp]) w
        simp only [List.append_assoc, List.singleton_append] at ih
        simp only [List.forIn_cons, if_pos h2, Sem.run_bind, g1, Result.andThen_ok, g2, Sem.run_pure]
        exact ih
  have := key (pre := []) h rfl w
  simp only [List.nil_append] at this
  have hq : ∀ n : Nat, n = 9999 → (Instr.checkKey em (n + 1) t (.agg xs.toArray)).run P w = .ok () w := by
    rintro n rfl
    rw [Instr.checkKey]
    simp only [Sem.run_bind, run_u ht, Result.andThen_ok, ← Array.forIn_toList]
    erw [this]
    rfl
  exact hq 9999 rfl

theorem flat0_bits {v : Value} (n : Nat) (h : (∃ k a, v = .int k a) ∨ (∃ a, v = .bool a) ∨ ∃ a, v = str a) : Instr.sameBits n v v = true := by
  rcases h with ⟨k, a, rfl⟩ | ⟨a, rfl⟩ | ⟨a, rfl⟩
  · cases n <;> simp [Instr.sameBits]
  · cases n <;> simp [Instr.sameBits]
  · cases n <;> simp [Instr.sameBits, str, MapKept.bytes_beq]

theorem ScalF.mem {P : Program} : ∀ {fs : List Field} {i : Nat} {xs ys : List Value}, ScalF P fs i xs ys → ∀ v ∈ xs, (∃ k a, v = .int k a) ∨ (∃ a, v = .bool a) ∨ ∃ a, v = str a
  | [], i, [], [], _, v, hv => by simp at hv
  | f :: fs, i, x :: xs, y :: ys, ⟨_, _, h3, h4⟩, v, hv => by
    rcases List.mem_cons.1 hv with rfl | hv
    · rcases h3 with ⟨k, k', a, b, h, rfl, rfl⟩ | ⟨a, b, h, rfl, rfl⟩ | ⟨a, b, h, rfl, rfl⟩
      · exact .inl ⟨_, _, rfl⟩
      · exact .inr (.inl ⟨_, rfl⟩)
      · exact .inr (.inr ⟨_, rfl⟩)
    · exact ScalF.mem h4 v hv
  | [], _, _ :: _, _, h, _, _ => h.elim
  | [], _, [], _ :: _, h, _, _ => h.elim
  | _ :: _, _, [], _, h, _, _ => h.elim
  | _ :: _, _, _ :: _, [], h, _, _ => h.elim

/-- Keys that are structs of plain cells. -/
theorem keyStruct {P : Program} {kt : TypeId} {fs : Array Field} {i : TypeInfo} {α : Type} {kc : α → List Value} (ht : P.underlying kt = some (.struct fs)) (hi : P.info? kt = some i) (hp : P.stoodInHeld kt = false) (hpos : (i.size == 0) = false) (hlen : ∀ a, (kc a).length = i.size)
    (hs : ∀ a b, ScalF P fs.toList 0 (kc a) (kc b)) (hinj : ∀ a b, kc a = kc b → a = b) : KeyOk P kt kc where
  len := fun a => by rw [hlen]; simp [Program.cellsOf, hi]
  pos := by
    have : i.size ≠ 0 := by intro h; rw [h] at hpos; cases hpos
    simp [Program.cellsOf, hi]; omega
  flat := fun a => (hs a a).flat.1
  flatV := fun a => by
    have := (hs a a).flat.1
    simpa [tyAgg, ht, aggT, cellV, AM.flat, flat1] using this
  inj := fun a b hab => by
    simp only [tyAgg, ht, aggT, cellV] at hab
    injection hab with hab
    exact hinj a b (by simpa using hab)
  keyed := by
    have hagg : ∀ a, cellV (tyAgg P kt) (kc a) = .agg (kc a).toArray := fun a => by simp [tyAgg, ht, aggT, cellV]
    refine ⟨?_, ?_, ?_⟩
    · rintro em v w ⟨a, rfl⟩
      rw [hagg]
      exact run_checkA ht (hs a a) em w
    · rintro v es w ⟨a, rfl⟩ hes
      rw [hagg] at *
      have now : Instr.findNow (.struct fs) (.agg (kc a).toArray) es 0 = (match es with | [] => some none | _ :: _ => none) := by
        cases es with
        | nil => rfl
        | cons e es => simp [Instr.findNow, Instr.sameNow]
      have asking : ∀ (es : List MapEntry) (n : Nat), (∀ x ∈ es, ∃ b, x.key = cellV (tyAgg P kt) (kc b)) → (Instr.findAsking kt (.agg (kc a).toArray) es n).run P w = .ok (findV (.agg (kc a).toArray) es n) w := by
        intro es
        induction es with
        | nil => intro n _; simp [Instr.findAsking, findV]
        | cons e es ih =>
          intro n hes
          obtain ⟨b, hb⟩ := hes e (by simp)
          have he := run_eqA ht hp (hs a b) w
          have he' : (Op.equal kt (.agg (kc a).toArray) e.key).run P w = .ok (decide (kc a = kc b)) w := by
            rw [hb, hagg]; exact he
          have ih := ih (n + 1) fun x hx => hes x (by simp [hx])
          simp only [Instr.findAsking, Sem.run_bind, he', Result.andThen_ok]
          by_cases hab : kc a = kc b
          · have : e.key = .agg (kc a).toArray := by rw [hb, hagg, hab]
            simp [hab, findV, this]
          · have : ¬ e.key = .agg (kc a).toArray := by
              rw [hb, hagg]
              intro h
              injection h with h
              exact hab (by simpa using h.symm)
            simp [hab, findV, this, ih]
      simp only [Instr.findKey, Sem.run_bind, run_u ht, Result.andThen_ok, now]
      cases es with
      | nil => simp [findV]
      | cons e es => exact asking (e :: es) 0 hes
    · rintro v w ⟨a, rfl⟩
      rw [hagg]
      have hb : Instr.sameBits 10000 (.agg (kc a).toArray) (.agg (kc a).toArray) = true := by
        have hm := (hs a a).mem
        show (Instr.sameBits (9999 + 1) _ _) = true
        simp only [Instr.sameBits, beq_self_eq_true, Bool.true_and, List.all_eq_true]
        rintro ⟨p, q⟩ hpq
        have : p = q ∧ p ∈ kc a := by
          have h1 := List.of_mem_zip hpq
          have : ∀ l : List Value, (p, q) ∈ l.zip l → p = q := by
            intro l
            induction l with
            | nil => intro h; simp at h
            | cons z l ih =>
              intro h
              simp at h
              rcases h with ⟨rfl, rfl⟩ | h
              · rfl
              · exact ih h
          exact ⟨this _ (by simpa using hpq), by simpa using h1.1⟩
        obtain ⟨rfl, h2⟩ := this
        exact flat0_bits _ (hm p h2)
      simp [Instr.keyThatStays, hb]

/-! ### Short names, for the printed proofs -/
@[reducible] def vI (n : Int) : Value := .int .i64 n
@[reducible] def vB (b : Bool) : Value := .bool b
@[reducible] def vP (b : Nat) : Value := .pointer (some ⟨b, 0, none⟩)
section
variable {P : Program} {ops l : List Oper} {K : (Nat → Value) → Mem → Prop} {fr : Nat → Value} {m : Mem} {o : Oper} {v : Value}
theorem sx (hg : wanted ops fr o = true) (h : PureR P (ev fr) o v) (hk : SeqW P ops l K (set fr o.dst v) m) : SeqW P ops (o :: l) K fr m := SeqW.consX hg (StepX.pure h hk)
theorem kx {j d : Nat} {want bb : Bool} (hg : o.guard = some (j, want)) (hd : (ops[j]?).bind (·.dst) = some d) (hv : fr d = .bool bb) (hb : bb = !want) (h : SeqW P ops l K (set fr o.dst undef) m) : SeqW P ops (o :: l) K fr m := SeqW.skipG hg hd hv hb h
end

/-- An append within the memory, of bytes. -/
def appB {α : Type} (xs ys : List α) : Option (List α) := if xs.length + ys.length ≤ 140737488355328 then some (xs ++ ys) else none

/-! ### A slice of the caller's, written to by a function it calls -/
structure OwK {α : Type} (T : Ty α) (z : Nat → Blk) (e m : Mem) (k : Option Nat) (xs : List α) (v : Value) : Prop where
  ow : Ow T z m xs v
  fresh : ∀ b, blkOf v = some b → e.next ≤ b ∨ k = some b
section
variable {α : Type} {T : Ty α} {z z' : Nat → Blk} {e m m' : Mem} {k q : Option Nat} {xs : List α} {v v0 : Value} {t : TypeId}
theorem OwK.same (h : OwK T z e m k xs v) (s : Same m m' q) (ap : Ap (blkOf v) q) : OwK T z e m' k xs v := ⟨h.ow.same s ap, h.fresh⟩
theorem OwK.lt (h : OwK T z e m k xs v) : ∀ b, blkOf v = some b → b < m.next := fun b hb => (h.ow.lt b hb).1
theorem OwK.hq (h : OwK T z e m k xs v) : ∀ c, blkOf v = some c → z c = .dead ∧ (e.next ≤ c ∨ k = some c) := fun c hc => ⟨(h.ow.lt c hc).2, h.fresh c hc⟩
theorem OwK.stor (h : OwK T z e m k xs v) : storable v = true ∧ v.cells.toList = [v] := by
  obtain ⟨a, c, rfl⟩ := h.ow.len
  exact ⟨rfl, rfl⟩
theorem St.zle {k : Option Nat} (h : St z' e m k) (hz : Zle z z') : St z e m k := ⟨h.fz.le hz, h.dead, h.dead0, h.next, h.kept⟩
theorem OwF.K (h : OwF T z e m k xs v) : OwK T z e m k xs v := ⟨h.ow, fun b hb => .inl (h.fresh b hb)⟩
theorem Ow.K (h : Ow T z m xs v) : OwK T z m m (blkOf v) xs v := ⟨h, fun b hb => .inr hb⟩

/-- The caller has it back. -/
theorem OwF.back {r : List α} (h0 : OwF T z e m k xs v0) (st : St z e m k) (hx : Zx m.next z z') (st' : St z' m m' (blkOf v0)) (h : OwK T z' m m' (blkOf v0) r v) :
    St z' e m' k ∧ OwF T z' e m' k r v ∧ Same m m' (blkOf v0) ∧ ∀ p, (∀ b, p = some b → b < m.next) → Ap p (blkOf v0) → Ap p (blkOf v) := by
  refine ⟨st.call hx st'.fz st'.toSame h0.hq, ⟨h.ow, fun b hb => ?_⟩, st'.toSame, fun p hp ha b hb hb' => ?_⟩
  · rcases h.fresh b hb with h1 | h1
    · exact Nat.le_trans st.next h1
    · exact h0.fresh b h1
  · rcases h.fresh b hb' with h1 | h1
    · have := hp b hb; omega
    · exact ha b hb h1

/-- What was lent to a call is the caller's own again. -/
theorem OwF.unlend {k : Option Nat} {z2 : Nat → Blk} {r : List α} {w : Value} (hT : ∀ (z z' : Nat → Blk) (x : α) (cs : List Value), T.rd z x cs → T.rd z' x cs) (st : St z e m k) (hx : Zx m.next z2 z') (fz : Fz z' m') (sm : Same m m' none) (h : OwF T z' m m' none r w) :
    ∃ z'', Zx m.next z z'' ∧ Fz z'' m' ∧ OwF T z'' m m' none r w := by
  refine ⟨fun b => if b < m.next then z b else z' b, ⟨fun b hb => if_pos (st.fz b hb).2, fun b hb => if_pos hb⟩, fun b hb => ?_, ⟨?_, h.fresh⟩⟩
  · by_cases hlt : b < m.next
    · simp only [if_pos hlt] at hb ⊢
      obtain ⟨h1, h2⟩ := st.fz b hb
      exact ⟨by rw [sm.blk b hlt (by simp)]; exact h1, Nat.lt_of_lt_of_le h2 sm.next⟩
    · simp only [if_neg hlt] at hb ⊢
      exact fz b hb
  · rcases h.ow with h0 | ⟨b, L, c, rfl, h1, h2, h3, h4, h5, h6⟩
    · exact .inl h0
    · have hb := h.fresh b rfl
      exact .inr ⟨b, L, c, rfl, h1, h2, by simp only [if_neg (show ¬ b < m.next by omega)]; exact h3, h4, h5, fun i x hi => by
        obtain ⟨cs, g1, g2⟩ := h6 i x hi
        exact ⟨cs, hT _ _ _ _ g1, g2⟩⟩

variable {P : Program} {ρ : Operand → Value} {o : Oper} {w : Value} {ys : List α} {x y : Operand} {u : TypeId} {i : TypeInfo} {K : Value → Mem → Prop} {D : Tag → Value → Mem → Prop}
theorem kAppendK (h : o.op = .call { callee := .builtin .append, args := #[x, y], argTypes := #[t, u] }) (ht : P.underlying t = some (.slice T.tid)) (hi : P.info? T.tid = some i) {zv : Value} (hzv : i.zero = some zv) (hzf : zv.cells.toList.all flat0 = true) (hzs : zv.cells.size = i.size)
    (hsz : i.size = T.sz) (hpos : (T.sz == 0) = false) (hby : Nat.ble i.bytes 32768 = true) (hu : (∃ e', P.underlying u = some (.slice e')) ∨ P.underlying u = some .string) (hx : ρ x = v) (hs : OwK T z e m k xs v) (hy : ρ y = w) (hsrc : Src T z m ys w)
    (st : St z e m k) {r : List α} (hr : appI xs ys = some r)
    (hk : ∀ v' m', St z e m' k → OwK T z e m' k r v' → Same m m' (blkOf v) → (∀ p, (∀ b, p = some b → b < m.next) → Ap p (blkOf v) → Ap p (blkOf v')) → D .eff v' m') : StepX P ρ o m D := by
  obtain ⟨v', m', h1, h2, h3, h4⟩ := eAppend (C := callR P 0) h ht hi hzv hzf hzs hsz (Nat.pos_of_ne_zero fun h0 => by rw [h0] at hpos; cases hpos) (Nat.le_of_ble_eq_true hby) hu hx hs.ow hy hsrc st.fz st.dead hr
  refine StepX.eff h1 (hk _ _ (st.same h3 hs.hq) ⟨h2, fun b hb => ?_⟩ h3 fun p hp ha b hb hb' => ?_)
  · rcases h4 b hb with h4 | h4
    · exact hs.fresh b h4
    · have := st.next; omega
  · rcases h4 b hb' with h4 | h4
    · exact ha b hb h4
    · have := hp b hb; omega

/-- An append of bytes, as long as there is memory. -/
theorem kAppendB (h : o.op = .call { callee := .builtin .append, args := #[x, y], argTypes := #[t, u] }) (ht : P.underlying t = some (.slice T.tid)) (hi : P.info? T.tid = some i) {zv : Value} (hzv : i.zero = some zv) (hzf : zv.cells.toList.all flat0 = true) (hzs : zv.cells.size = i.size)
    (hsz : i.size = T.sz) (hpos : (T.sz == 0) = false) (hby : Nat.ble i.bytes 1 = true) (hu : (∃ e', P.underlying u = some (.slice e')) ∨ P.underlying u = some .string) (hx : ρ x = v) (hs : OwF T z e m k xs v) (hy : ρ y = w) (hsrc : Src T z m ys w)
    (st : St z e m k) {r : List α} (hr : appB xs ys = some r)
    (hk : ∀ v' m', St z e m' k → OwF T z e m' k r v' → Same m m' (blkOf v) → (∀ p, (∀ b, p = some b → b < m.next) → Ap p (blkOf v) → Ap p (blkOf v')) → D .eff v' m') : StepX P ρ o m D := by
  unfold appB at hr
  split at hr
  · rename_i hlim
    cases hr
    have hb : (xs.length + ys.length) * i.bytes ≤ (xs.length + ys.length) * 1 := Nat.mul_le_mul (Nat.le_refl _) (Nat.le_of_ble_eq_true hby)
    obtain ⟨v', m', h1, h2, h3, h4⟩ := eAppendG (C := callR P 0) h ht hi hzv hzf hzs hsz (Nat.pos_of_ne_zero fun h0 => by rw [h0] at hpos; cases hpos) (by omega) hlim hu hx hs.ow hy hsrc st.fz st.dead
    refine StepX.eff h1 (hk _ _ (st.same h3 hs.hq) ⟨h2, fun b hb => ?_⟩ h3 fun p hp ha b hb hb' => ?_)
    · rcases h4 b hb with h4 | h4
      · exact hs.fresh b h4
      · have := st.next; omega
    · rcases h4 b hb' with h4 | h4
      · exact ha b hb h4
      · have := hp b hb; omega
  · cases hr
end
end Go.AM
