/- The steps of the abstract machine, one lemma an operation, as a program that writes proofs uses them. -/
import Derived.Test.YtaoioacomnnhdaaAmTy
set_option linter.unusedSimpArgs false
set_option linter.unusedVariables false
namespace Go.AM

section
variable {P : Program} {ρ : Operand → Value} {o : Oper}

theorem flat2 {x y : Operand} (h : o.op.operands = #[x, y]) {v : Value} (hs : ∀ cs b, o.op ≠ .select cs b) (hx : flat (ρ x) = true) (hy : flat (ρ y) = true) (hv : flat v = true) (hr : ∀ w, (execOp ρ o).run P w = .ok (.value v) w) : PureR P ρ o v := by
  refine .flat v hs (fun z hz => ?_) hv hr
  rw [h] at hz
  simp only [List.mem_toArray, List.mem_cons, List.not_mem_nil, or_false] at hz
  rcases hz with rfl | rfl
  · exact hx
  · exact hy
theorem flat1' {x : Operand} (h : o.op.operands = #[x]) {v : Value} (hs : ∀ cs b, o.op ≠ .select cs b) (hx : flat (ρ x) = true) (hv : flat v = true) (hr : ∀ w, (execOp ρ o).run P w = .ok (.value v) w) : PureR P ρ o v := by
  refine .flat v hs (fun z hz => ?_) hv hr
  rw [h] at hz
  simp only [List.mem_toArray, List.mem_cons, List.not_mem_nil, or_false] at hz
  subst hz
  exact hx

theorem pMove {x : Operand} {v : Value} (h : o.op = .move x) (hx : ρ x = v) : PureR P ρ o v := hx ▸ .move x (.inl h)
theorem pAssign {x : Operand} {v : Value} (h : o.op = .assign x) (hx : ρ x = v) : PureR P ρ o v := hx ▸ .move x (.inr h)
theorem pPick {c a b : Operand} {t : Bool} {v : Value} (h : o.op = .pick c a b) (hc : ρ c = .bool t) (hv : (if t then ρ a else ρ b) = v) : PureR P ρ o v := hv ▸ .pick c a b t h hc
theorem pExtract {x : Operand} {i : Nat} {vs : List Value} {v : Value} (h : o.op = .extract x i) (hx : ρ x = .tuple vs.toArray) (hv : vs[i]? = some v) : PureR P ρ o v := .extract x i _ v h hx (by simpa using hv)

section
variable {x y : Operand} {t u : TypeId} {k : IntKind} {a b : Int}

theorem run_int2 {op : BinOp} (h : o.op = .binOp op t x y u) (hx : ρ x = .int k a) (hy : ρ y = .int k b) {v : Value} (hop : ∀ w, (binOp op t (.int k a) (.int k b)).run P w = .ok v w) (hv : flat v = true) : PureR P ρ o v := by
  refine flat2 (x := x) (y := y) (by rw [h]; rfl) (by rw [h]; intros; simp) (by rw [hx]; rfl) (by rw [hy]; rfl) hv fun w => ?_
  have hg : (eqGuard op t x y (.int k a) (.int k b)).run P w = .ok () w := by cases op <;> rfl
  simp only [execOp, h, hx, hy, Sem.run_bind, hg, hop, Result.andThen_ok, Sem.run_pure]

theorem binOp_int {op : BinOp} (h1 : op ≠ .shl) (h2 : op ≠ .shr) (w : World) : (binOp op t (.int k a) (.int k b)).run P w = (match op with
      | .add | .sub | .mul => Op.intArith op k a b
      | .quo | .rem => Op.intDiv op k a b
      | .and | .or | .xor | .andNot => Op.intBits op k a b
      | _ => Op.intCmp op a b).run P w := by
  cases op <;> first | exact absurd rfl h1 | exact absurd rfl h2 | (simp only [binOp, ne_eq, not_true_eq_false, if_false])

theorem pAdd (h : o.op = .binOp .add t x y u) (hx : ρ x = .int k a) (hy : ρ y = .int k b) : PureR P ρ o (.int k (k.wrap (a + b))) := run_int2 h hx hy (fun w => by rw [binOp_int (by simp) (by simp)]; rfl) rfl
theorem pSub (h : o.op = .binOp .sub t x y u) (hx : ρ x = .int k a) (hy : ρ y = .int k b) : PureR P ρ o (.int k (k.wrap (a - b))) := run_int2 h hx hy (fun w => by rw [binOp_int (by simp) (by simp)]; rfl) rfl
theorem pMul (h : o.op = .binOp .mul t x y u) (hx : ρ x = .int k a) (hy : ρ y = .int k b) : PureR P ρ o (.int k (k.wrap (a * b))) := run_int2 h hx hy (fun w => by rw [binOp_int (by simp) (by simp)]; rfl) rfl
theorem pQuo (h : o.op = .binOp .quo t x y u) (hx : ρ x = .int k a) (hy : ρ y = .int k b) (hb : b ≠ 0) : PureR P ρ o (.int k (k.wrap (a.tdiv b))) := run_int2 h hx hy (fun w => by rw [binOp_int (by simp) (by simp)]; simp [Op.intDiv, hb]) rfl
theorem pRem (h : o.op = .binOp .rem t x y u) (hx : ρ x = .int k a) (hy : ρ y = .int k b) (hb : b ≠ 0) : PureR P ρ o (.int k (a.tmod b)) := run_int2 h hx hy (fun w => by rw [binOp_int (by simp) (by simp)]; simp [Op.intDiv, hb]) rfl
/-- Bit by bit. -/
def bitsV (op : BinOp) (k : IntKind) (x y : Int) : Int :=
  let a := BitVec.ofInt k.bits x
  let b := BitVec.ofInt k.bits y
  match op with
  | .and => k.wrap (a &&& b).toNat
  | .or => k.wrap (a ||| b).toNat
  | .xor => k.wrap (a ^^^ b).toNat
  | _ => k.wrap (a &&& ~~~b).toNat
theorem pAnd (h : o.op = .binOp .and t x y u) (hx : ρ x = .int k a) (hy : ρ y = .int k b) : PureR P ρ o (.int k (bitsV .and k a b)) := run_int2 h hx hy (fun w => by rw [binOp_int (by simp) (by simp)]; rfl) rfl
theorem pOr (h : o.op = .binOp .or t x y u) (hx : ρ x = .int k a) (hy : ρ y = .int k b) : PureR P ρ o (.int k (bitsV .or k a b)) := run_int2 h hx hy (fun w => by rw [binOp_int (by simp) (by simp)]; rfl) rfl
theorem pXor (h : o.op = .binOp .xor t x y u) (hx : ρ x = .int k a) (hy : ρ y = .int k b) : PureR P ρ o (.int k (bitsV .xor k a b)) := run_int2 h hx hy (fun w => by rw [binOp_int (by simp) (by simp)]; rfl) rfl
theorem pAndNot (h : o.op = .binOp .andNot t x y u) (hx : ρ x = .int k a) (hy : ρ y = .int k b) : PureR P ρ o (.int k (bitsV .andNot k a b)) := run_int2 h hx hy (fun w => by rw [binOp_int (by simp) (by simp)]; rfl) rfl
theorem pEql (h : o.op = .binOp .eql t x y u) (hx : ρ x = .int k a) (hy : ρ y = .int k b) : PureR P ρ o (.bool (a == b)) := run_int2 h hx hy (fun w => by rw [binOp_int (by simp) (by simp)]; rfl) rfl
theorem pNeq (h : o.op = .binOp .neq t x y u) (hx : ρ x = .int k a) (hy : ρ y = .int k b) : PureR P ρ o (.bool (a != b)) := run_int2 h hx hy (fun w => by rw [binOp_int (by simp) (by simp)]; rfl) rfl
theorem pLss (h : o.op = .binOp .lss t x y u) (hx : ρ x = .int k a) (hy : ρ y = .int k b) : PureR P ρ o (.bool (decide (a < b))) := run_int2 h hx hy (fun w => by rw [binOp_int (by simp) (by simp)]; rfl) rfl
theorem pLeq (h : o.op = .binOp .leq t x y u) (hx : ρ x = .int k a) (hy : ρ y = .int k b) : PureR P ρ o (.bool (decide (a ≤ b))) := run_int2 h hx hy (fun w => by rw [binOp_int (by simp) (by simp)]; rfl) rfl
theorem pGtr (h : o.op = .binOp .gtr t x y u) (hx : ρ x = .int k a) (hy : ρ y = .int k b) : PureR P ρ o (.bool (decide (b < a))) := run_int2 h hx hy (fun w => by rw [binOp_int (by simp) (by simp)]; rfl) rfl
theorem pGeq (h : o.op = .binOp .geq t x y u) (hx : ρ x = .int k a) (hy : ρ y = .int k b) : PureR P ρ o (.bool (decide (b ≤ a))) := run_int2 h hx hy (fun w => by rw [binOp_int (by simp) (by simp)]; rfl) rfl

theorem pShift {op : BinOp} {yk : IntKind} (h : o.op = .binOp op t x y u) (hx : ρ x = .int k a) (hy : ρ y = .int yk b) (hb : 0 ≤ b) (hop : op = .shl ∨ op = .shr) :
    PureR P ρ o (.int k (if op = .shl then k.wrap (a * 2 ^ (min b.toNat k.bits)) else a.fdiv (2 ^ (min b.toNat k.bits)))) := by
  refine flat2 (x := x) (y := y) (by rw [h]; rfl) (by rw [h]; intros; simp) (by rw [hx]; rfl) (by rw [hy]; rfl) rfl fun w => ?_
  have hn : ¬ b < 0 := by omega
  rcases hop with rfl | rfl
  · simp [execOp, h, hx, hy, eqGuard, binOp, Op.shift, hn]
  · simp [execOp, h, hx, hy, eqGuard, binOp, Op.shift, hn]

theorem pNot {b : Bool} (h : o.op = .unOp .not t x) (hx : ρ x = .bool b) : PureR P ρ o (.bool (!b)) :=
  flat1' (x := x) (by rw [h]; rfl) (by rw [h]; intros; simp) (by rw [hx]; rfl) rfl fun w => by simp only [execOp, h, hx]; rfl
theorem pNeg (h : o.op = .unOp .neg t x) (hx : ρ x = .int k a) : PureR P ρ o (.int k (k.wrap (0 - a))) :=
  flat1' (x := x) (by rw [h]; rfl) (by rw [h]; intros; simp) (by rw [hx]; rfl) rfl fun w => by simp only [execOp, h, hx]; rfl
theorem pConv {d : TypeDesc} {k' : IntKind} (h : o.op = .convert t u x) (ht : P.underlying t = some d) (hu : P.underlying u = some (.int k')) (hx : ρ x = .int k a) : PureR P ρ o (.int k' (k'.wrap a)) :=
  flat1' (x := x) (by rw [h]; rfl) (by rw [h]; intros; simp) (by rw [hx]; rfl) rfl fun w => by simp [execOp, h, hx, convert, run_u ht, run_u hu, Conv.intToInt]

theorem maxI (k : IntKind) (a b : Int) (w : World) : (Builtin.max2 (.int k a) (.int k b)).run P w = .ok (.int k (if b > a then b else a)) w := rfl
theorem pMax2 {ts : Array TypeId} (h : o.op = .call { callee := .builtin .max, args := #[x, y], argTypes := ts }) (hx : ρ x = .int k a) (hy : ρ y = .int k b) : PureR P ρ o (.int k (max a b)) := by
  refine flat2 (x := x) (y := y) (by rw [h]; rfl) (by rw [h]; intros; simp) (by rw [hx]; rfl) (by rw [hy]; rfl) rfl fun w => ?_
  have : (Value.int k (if b > a then b else a)) = .int k (max a b) := by congr 1; split <;> omega
  rw [← this]
  simp [execOp, h, hx, hy, resolve, invoke, builtin, Builtin.max_, List.foldlM, Builtin.max2]
theorem pMin2 {ts : Array TypeId} (h : o.op = .call { callee := .builtin .min, args := #[x, y], argTypes := ts }) (hx : ρ x = .int k a) (hy : ρ y = .int k b) : PureR P ρ o (.int k (min a b)) := by
  refine flat2 (x := x) (y := y) (by rw [h]; rfl) (by rw [h]; intros; simp) (by rw [hx]; rfl) (by rw [hy]; rfl) rfl fun w => ?_
  have : (Value.int k (if b < a then b else a)) = .int k (min a b) := by congr 1; split <;> omega
  rw [← this]
  simp [execOp, h, hx, hy, resolve, invoke, builtin, Builtin.min_, List.foldlM, Builtin.min2]

end

/-! ### Strings -/
section
variable {x y : Operand} {t u : TypeId} {s r : List UInt8}

theorem str_size : (⟨s.toArray⟩ : ByteArray).size = s.length := by simp [ByteArray.size]
theorem pLenS {ts : Array TypeId} (h : o.op = .call { callee := .builtin .len, args := #[x], argTypes := ts }) (hts : ts[0]? = some t) (ht : P.underlying t = some .string) (hx : ρ x = str s) : PureR P ρ o (.int .i64 s.length) :=
  flat1' (x := x) (by rw [h]; rfl) (by rw [h]; intros; simp) (by rw [hx]; rfl) rfl fun w => by
    simp [execOp, h, hx, resolve, invoke, builtin, Builtin.len_, hts, str, run_u ht, goInt, str_size]
theorem pIndexS {k : IntKind} {n : Int} {c : UInt8} (h : o.op = .index t x y) (ht : P.underlying t = some .string) (hx : ρ x = str s) (hy : ρ y = .int k n) (h0 : 0 ≤ n) (hc : s[n.toNat]? = some c) : PureR P ρ o (.int .u8 c.toNat) := by
  refine flat2 (x := x) (y := y) (by rw [h]; rfl) (by rw [h]; intros; simp) (by rw [hx]; rfl) (by rw [hy]; rfl) rfl fun w => ?_
  have hg : (⟨s.toArray⟩ : ByteArray)[n.toNat]? = some c := by
    have hlt := (List.getElem?_eq_some_iff.1 hc).1
    have h2 := (List.getElem?_eq_some_iff.1 hc).2
    rw [getElem?_pos (h := by rw [str_size]; exact hlt)]
    congr 1
  simp [execOp, h, hx, hy, Instr.index, asIntOf, run_u ht, str, h0, hg]
theorem str_extract (i k : Nat) : (⟨s.toArray⟩ : ByteArray).extract i k = ⟨((s.take k).drop i).toArray⟩ := by
  have : ((⟨s.toArray⟩ : ByteArray).extract i k).data = ((s.take k).drop i).toArray := by
    rw [ByteArray.data_extract]
    simp [List.extract_eq_drop_take']
  cases hb : (⟨s.toArray⟩ : ByteArray).extract i k
  rw [hb] at this
  simp only at this
  rw [this]
theorem pSliceS {lo hi : Option Operand} {a b : Nat} (h : o.op = .slice t x lo hi none) (ht : P.underlying t = some .string) (hx : ρ x = str s) (hlo : lowIs ρ lo a) (hhi : highIs ρ hi s.length b)
    (h1 : a ≤ b) (h2 : b ≤ s.length) : PureR P ρ o (str ((s.take b).drop a)) := by
  refine .flat _ (by rw [h]; intros; simp) (fun z hz => ?_) rfl fun w => ?_
  · rw [h] at hz
    cases lo with
    | none => cases hi with
      | none => simp [Op.operands] at hz; subst hz; rw [hx]; rfl
      | some y =>
        obtain ⟨k, hy⟩ := hhi
        simp [Op.operands] at hz
        rcases hz with rfl | rfl
        · rw [hx]; rfl
        · rw [hy]; rfl
    | some q =>
      obtain ⟨k', hq⟩ := hlo
      cases hi with
      | none =>
        simp [Op.operands] at hz
        rcases hz with rfl | rfl
        · rw [hx]; rfl
        · rw [hq]; rfl
      | some y =>
        obtain ⟨k, hy⟩ := hhi
        simp [Op.operands] at hz
        rcases hz with rfl | rfl | rfl
        · rw [hx]; rfl
        · rw [hq]; rfl
        · rw [hy]; rfl
  · have hbnd : (Instr.sliceBounds false s.length s.length (lo.map ρ) (hi.map ρ) none).run P w = .ok (a, b, s.length) w := by
      cases lo with
      | none =>
        simp only [lowIs] at hlo
        subst hlo
        cases hi with
        | none => simp only [highIs] at hhi; subst hhi; simp [Instr.sliceBounds]
        | some y => obtain ⟨k, hy⟩ := hhi; simp [Instr.sliceBounds, hy, Instr.sliceBound, asIntOf, h2]
      | some q =>
        obtain ⟨k', hq⟩ := hlo
        cases hi with
        | none => simp only [highIs] at hhi; subst hhi; simp [Instr.sliceBounds, hq, Instr.sliceBound, asIntOf, h1]
        | some y => obtain ⟨k, hy⟩ := hhi; simp [Instr.sliceBounds, hy, hq, Instr.sliceBound, asIntOf, h1, h2]
    simp only [execOp, h, Instr.sliceAt, Sem.run_bind, run_u ht, Result.andThen_ok, Option.map_none, Instr.slice, hx, str, Option.isSome_none, Bool.false_eq_true, if_false, Sem.run_pure, str_size, hbnd, str_extract]

theorem str_eq : ((⟨s.toArray⟩ : ByteArray).toList == (⟨r.toArray⟩ : ByteArray).toList) = (s == r) := by
  have h : ∀ l : List UInt8, (⟨l.toArray⟩ : ByteArray).toList = l := fun l => by rw [Go.ByteArray.toList_eq]
  rw [h, h]

theorem run_str2 {op : BinOp} (h : o.op = .binOp op t x y u) (hx : ρ x = str s) (hy : ρ y = str r) (hsh : op ≠ .shl ∧ op ≠ .shr) {v : Value} (hop : ∀ w, (Op.stringOp op ⟨s.toArray⟩ ⟨r.toArray⟩).run P w = .ok v w) (hv : flat v = true) : PureR P ρ o v := by
  refine flat2 (x := x) (y := y) (by rw [h]; rfl) (by rw [h]; intros; simp) (by rw [hx]; rfl) (by rw [hy]; rfl) hv fun w => ?_
  have hg : (eqGuard op t x y (str s) (str r)).run P w = .ok () w := by cases op <;> rfl
  have hb : (binOp op t (str s) (str r)).run P w = .ok v w := by
    rw [← hop w]
    cases op <;> first | exact absurd rfl hsh.1 | exact absurd rfl hsh.2 | rfl
  simp only [execOp, h, hx, hy, Sem.run_bind, hg, hb, Result.andThen_ok, Sem.run_pure]
/-- Is one string ahead of another? -/
def strLt (s r : List UInt8) : Bool := Op.bytesLess s r
theorem toL (l : List UInt8) : (⟨l.toArray⟩ : ByteArray).toList = l := by rw [Go.ByteArray.toList_eq]
theorem pEqlS (h : o.op = .binOp .eql t x y u) (hx : ρ x = str s) (hy : ρ y = str r) : PureR P ρ o (.bool (s == r)) := run_str2 h hx hy (by simp) (fun w => by simp only [Op.stringOp, toL]; rfl) rfl
theorem pNeqS (h : o.op = .binOp .neq t x y u) (hx : ρ x = str s) (hy : ρ y = str r) : PureR P ρ o (.bool (!(s == r))) := run_str2 h hx hy (by simp) (fun w => by simp only [Op.stringOp, toL]; rfl) rfl
theorem pLssS (h : o.op = .binOp .lss t x y u) (hx : ρ x = str s) (hy : ρ y = str r) : PureR P ρ o (.bool (strLt s r)) := run_str2 h hx hy (by simp) (fun w => by simp only [Op.stringOp, toL]; rfl) rfl
theorem pLeqS (h : o.op = .binOp .leq t x y u) (hx : ρ x = str s) (hy : ρ y = str r) : PureR P ρ o (.bool (strLt s r || (s == r))) := run_str2 h hx hy (by simp) (fun w => by simp only [Op.stringOp, toL]; rfl) rfl
theorem pGtrS (h : o.op = .binOp .gtr t x y u) (hx : ρ x = str s) (hy : ρ y = str r) : PureR P ρ o (.bool (!(strLt s r || (s == r)))) := run_str2 h hx hy (by simp) (fun w => by simp only [Op.stringOp, toL]; rfl) rfl
theorem pGeqS (h : o.op = .binOp .geq t x y u) (hx : ρ x = str s) (hy : ρ y = str r) : PureR P ρ o (.bool (!strLt s r)) := run_str2 h hx hy (by simp) (fun w => by simp only [Op.stringOp, toL]; rfl) rfl
theorem str_app : (⟨s.toArray⟩ : ByteArray) ++ (⟨r.toArray⟩ : ByteArray) = ⟨(s ++ r).toArray⟩ := by
  have : ((⟨s.toArray⟩ : ByteArray) ++ (⟨r.toArray⟩ : ByteArray)).data = (s ++ r).toArray := by
    rw [ByteArray.data_append]; simp
  cases hb : (⟨s.toArray⟩ : ByteArray) ++ (⟨r.toArray⟩ : ByteArray)
  rw [hb] at this
  simp only at this
  rw [this]
theorem pAddS (h : o.op = .binOp .add t x y u) (hx : ρ x = str s) (hy : ρ y = str r) (hl : s.length + r.length ≤ 9223372036854775807) : PureR P ρ o (str (s ++ r)) := run_str2 h hx hy (by simp) (fun w => by
  simp only [Op.stringOp, str_size, Nat.not_lt.2 hl]
  rw [if_neg (by show ¬ _ > (9223372036854775807 : Int); omega), str_app]; rfl) rfl
theorem run_bool2 {op : BinOp} {a b : Bool} (h : o.op = .binOp op t x y u) (ht : P.underlying t = some .bool) (hx : ρ x = .bool a) (hy : ρ y = .bool b) (hop : op = .eql ∨ op = .neq) : PureR P ρ o (.bool (if op = .eql then a == b else !(a == b))) := by
  refine flat2 (x := x) (y := y) (by rw [h]; rfl) (by rw [h]; intros; simp) (by rw [hx]; rfl) (by rw [hy]; rfl) rfl fun w => ?_
  have he : (Op.equal t (.bool a) (.bool b)).run P w = .ok (a == b) w := by
    have hd : ∀ d : Nat, (Op.equalIn (d + 1) t (.bool a) (.bool b)).run P w = .ok (a == b) w := fun d => by
      simp only [Op.equalIn, Sem.run_bind, run_u ht, Result.andThen_ok, Sem.run_pure]
    exact hd 9999
  have hg : (eqGuard op t x y (.bool a) (.bool b)).run P w = .ok () w := by rcases hop with rfl | rfl <;> rfl
  have hb : (binOp op t (.bool a) (.bool b)).run P w = .ok (.bool (if op = .eql then a == b else !(a == b))) w := by
    rcases hop with rfl | rfl
    · show (do pure (Value.bool (← Op.equal t (.bool a) (.bool b))) : Sem Value).run P w = _
      simp only [Sem.run_bind, he, Result.andThen_ok, Sem.run_pure, if_true]
    · show (do pure (Value.bool (!(← Op.equal t (.bool a) (.bool b)))) : Sem Value).run P w = _
      simp only [Sem.run_bind, he, Result.andThen_ok, Sem.run_pure]
      rfl
  simp only [execOp, h, hx, hy, Sem.run_bind, hg, hb, Result.andThen_ok, Sem.run_pure]
theorem pEqlB {a b : Bool} (h : o.op = .binOp .eql t x y u) (ht : P.underlying t = some .bool) (hx : ρ x = .bool a) (hy : ρ y = .bool b) : PureR P ρ o (.bool (a == b)) := run_bool2 h ht hx hy (.inl rfl)
theorem pNeqB {a b : Bool} (h : o.op = .binOp .neq t x y u) (ht : P.underlying t = some .bool) (hx : ρ x = .bool a) (hy : ρ y = .bool b) : PureR P ρ o (.bool (!(a == b))) := run_bool2 h ht hx hy (.inr rfl)

end
end
end Go.AM
