/- AmX3 AmX4 AmX5 AmX6 AmX7 AmXG AmX8 AmX9 AmXA AmXB AmXC -/
import Derived.Test.YtkbomolgmgeogaaMb
section
set_option linter.unusedSimpArgs false
set_option linter.unusedVariables false
namespace Go.AM
section
variable {P : Program} {D : Nat → Type} {X : Ev P D} {ρ : Type} {z z' : Nat → Blk} {e m m' : Mem} {k : Option Nat} {vs : List Value} {fr : Nat → Value} {E : List (Nat × SV D)} {O : List (Ob D)} {o : Oper} {r : ρ}
/-- What a step leads to. -/
def Nxt (X : Ev P D) (O : List (Ob D)) (z : Nat → Blk) (e : Mem) (k : Option Nat) (vs : List Value) (K : SV D → List (Ob D) → Option ρ) (r : ρ) (v : Value) (m' : Mem) : Prop :=
  ∃ z' vs' sv O', Inv O O' ∧ Zx e.next z z' ∧ (∀ (i : Nat) (u : Value), vs[i]? = some u → vs'[i]? = some u) ∧ Mm X.G O' z' e m' k vs' ∧ rel X.G z' vs' sv v ∧ K sv O' = some r
theorem Nxt.here {K : SV D → List (Ob D) → Option ρ} {sv : SV D} {v : Value} (hM : Mm X.G O z e m k vs) (hv : rel X.G z vs sv v) (hK : K sv O = some r) : Nxt X O z e k vs K r v m := ⟨z, vs, sv, O, Inv.refl O, Zx.refl z, fun _ _ h => h, hM, hv, hK⟩
theorem Nxt.from {K : SV D → List (Ob D) → Option ρ} {v : Value} {z1 : Nat → Blk} {O1 : List (Ob D)} (hi : Inv O O1) (hz : Zx e.next z z1) (h : Nxt X O1 z1 e k vs K r v m') : Nxt X O z e k vs K r v m' := by
  obtain ⟨z', vs', sv, O', h0, h1, h2, h3, h4, h5⟩ := h
  exact ⟨z', vs', sv, O', hi.trans h0, hz.trans h1, h2, h3, h4, h5⟩
theorem look_rel (hE : ∀ d, rel X.G z vs (lkE E d) (fr d)) (x : Operand) : rel X.G z vs (sop E x) (ev fr x) := by
  cases x with
  | tmp t => exact hE t
  | func f => exact ⟨[], rfl, trivial⟩
  | global g => trivial
  | const v =>
    show rel X.G z vs (ofV v) v
    unfold ofV
    split <;> first | trivial | rfl
/-! ### Freezing -/
theorem frzO_ok {i : Nat} {c : CV D} {O' : List (Ob D)} {v : Value} (hM : Mm X.G O z e m k vs) (h : frzO O i = some (c, O')) (hv : vs[i]? = some v) : ∃ z', Inv O O' ∧ Zx e.next z z' ∧ Mm X.G O' z' e m k vs ∧ rel0 X.G z' vs c v := by
  unfold frzO at h
  split at h
  · rename_i t xs fz w ho
    cases h
    have hob := hM.obj i _ v ho hv
    cases fz with
    | true =>
      have : O.set i (.sl t xs true w) = O := by
        apply List.ext_getElem? 
        intro j
        rw [List.getElem?_set]
        split
        · rename_i hij; subst hij; rw [ho, if_pos (List.getElem?_eq_some_iff.1 ho).1]
        · rfl
      rw [this]
      exact ⟨z, Inv.refl O, Zx.refl z, hM, hob⟩
    | false =>
      have hob : OwF (X.G.T t) z e m k xs v := hob
      obtain ⟨z', h1, h2, h3, h4⟩ := hob.freeze hM.st
      have hb : blkV v = blkOf v := blkV_of (by obtain ⟨a, c, rfl⟩ := hob.ow.len; intro r; simp)
      exact ⟨z', Inv.set O i (.inl rfl), h1, hM.frz ho hv rfl rfl h1.le h2 (by rw [hb]; exact h4) h3, h3⟩
  · rename_i t kt vt es fz w ho
    cases h
    have hob := hM.obj i _ v ho hv
    cases fz with
    | true =>
      have : O.set i (.map t kt vt es true w) = O := by
        apply List.ext_getElem?
        intro j
        rw [List.getElem?_set]
        split
        · rename_i hij; subst hij; rw [ho, if_pos (List.getElem?_eq_some_iff.1 ho).1]
        · rfl
      rw [this]
      exact ⟨z, Inv.refl O, Zx.refl z, hM, hob⟩
    | false =>
      have hob : OwM (X.G.M t kt vt) z e m k es v := hob
      obtain ⟨z', h1, h2, h3, h4⟩ := hob.freeze hM.st
      have hb : blkV v = mapOf v := by obtain ⟨r, rfl, _⟩ := hob.ow; rfl
      exact ⟨z', Inv.set O i (.inl rfl), h1, hM.frz ho hv rfl rfl h1.le h2 (by rw [hb]; exact h4) h3, h3⟩
  · cases h
theorem frzC_ok {c c' : CV D} {O' : List (Ob D)} {v : Value} (hM : Mm X.G O z e m k vs) (h : frzC O c = some (c', O')) (hv : rel0 X.G z vs c v) : ∃ z', Inv O O' ∧ Zx e.next z z' ∧ Mm X.G O' z' e m k vs ∧ rel0 X.G z' vs c' v := by
  cases c with
  | own i => exact frzO_ok hM h hv.1
  | _ => cases h; exact ⟨z, Inv.refl O, Zx.refl z, hM, hv⟩
theorem frzL_ok : ∀ {cs cs' : List (CV D)} {O O' : List (Ob D)} {ds : List Value} {z : Nat → Blk}, Mm X.G O z e m k vs → frzL O cs = some (cs', O') → L2 (rel0 X.G z vs) cs ds → ∃ z', Inv O O' ∧ Zx e.next z z' ∧ Mm X.G O' z' e m k vs ∧ L2 (rel0 X.G z' vs) cs' ds
  | [], cs', O, O', [], z, hM, h, _ => by cases h; exact ⟨z, Inv.refl _, Zx.refl z, hM, trivial⟩
  | c :: cs, cs', O, O', d :: ds, z, hM, h, ⟨h1, h2⟩ => by
    unfold frzL at h
    split at h
    · rename_i c' O1 hc
      split at h
      · rename_i cs1 O2 hcs
        cases h
        obtain ⟨z1, g0, g1, g2, g3⟩ := frzC_ok hM hc h1
        obtain ⟨z2, k0, k1, k2, k3⟩ := frzL_ok g2 hcs (rels.mono h2 g1.le fun _ _ h => h)
        exact ⟨z2, g0.trans k0, g1.trans k1, k2, rel0.mono g3 k1.le fun _ _ h => h, k3⟩
      · cases h
    · cases h
  | [], _, _, _, _ :: _, _, _, _, h => h.elim
  | _ :: _, _, _, _, [], _, _, _, h => h.elim
theorem cells_rel {s : SV D} {cs : List (CV D)} {v : Value} (h : cellsS s = some cs) (hv : rel X.G z vs s v) : storable v = true ∧ L2 (rel0 X.G z vs) cs v.cells.toList := by
  cases s with
  | c c =>
    cases h
    have := rel0.stor hv
    rw [this.2]
    exact ⟨this.1, hv, trivial⟩
  | agg t cs' =>
    cases h
    obtain ⟨ds, rfl, h2⟩ := hv
    exact ⟨rfl, h2⟩
  | _ => cases h
theorem frzS_ok {s : SV D} {cs : List (CV D)} {O' : List (Ob D)} {v : Value} (hM : Mm X.G O z e m k vs) (h : frzS O s = some (cs, O')) (hv : rel X.G z vs s v) : ∃ z', Inv O O' ∧ Zx e.next z z' ∧ Mm X.G O' z' e m k vs ∧ storable v = true ∧ L2 (rel0 X.G z' vs) cs v.cells.toList := by
  unfold frzS at h
  split at h
  · rename_i cs0 hc
    obtain ⟨h1, h2⟩ := cells_rel hc hv
    obtain ⟨z', g0, g1, g2, g3⟩ := frzL_ok hM h h2
    exact ⟨z', g0, g1, g2, h1, g3⟩
  · cases h
/-! ### Scalars -/
variable {x y : Operand} {t u : TypeId}
theorem binI_ok {op : BinOp} {kk : IntKind} {a b : Int} {K : CV D → Option ρ} (ho : o.op = .binOp op t x y u) (hx : ev fr x = .int kk a) (hy : ev fr y = .int kk b) (h : binI op y kk a b K = some r) : ∃ c v, K c = some r ∧ PureR P (ev fr) o v ∧ rel0 X.G z vs c v := by
  have lit : litNZ y = true → b ≠ 0 := fun hl hb => by
    unfold litNZ at hl
    split at hl
    · rename_i kk' n
      have : Value.int kk' n = .int kk b := hy
      cases this
      simp [hb] at hl
    · cases hl
  cases op with
  | add => exact ⟨_, _, h, pAdd ho hx hy, rfl⟩
  | sub => exact ⟨_, _, h, pSub ho hx hy, rfl⟩
  | mul => exact ⟨_, _, h, pMul ho hx hy, rfl⟩
  | and => exact ⟨_, _, h, pAnd ho hx hy, rfl⟩
  | or => exact ⟨_, _, h, pOr ho hx hy, rfl⟩
  | xor => exact ⟨_, _, h, pXor ho hx hy, rfl⟩
  | andNot => exact ⟨_, _, h, pAndNot ho hx hy, rfl⟩
  | eql => exact ⟨_, _, h, pEql ho hx hy, rfl⟩
  | neq => exact ⟨_, _, h, pNeq ho hx hy, rfl⟩
  | lss => exact ⟨_, _, h, pLss ho hx hy, rfl⟩
  | leq => exact ⟨_, _, h, pLeq ho hx hy, rfl⟩
  | gtr => exact ⟨_, _, h, pGtr ho hx hy, rfl⟩
  | geq => exact ⟨_, _, h, pGeq ho hx hy, rfl⟩
  | quo =>
    simp only [binI] at h
    split at h
    · rename_i hl
      exact ⟨_, _, h, pQuo ho hx hy (lit hl), rfl⟩
    · obtain ⟨c, hc, h⟩ := bind_some h
      obtain ⟨h1, rfl⟩ := divI_some hc
      exact ⟨_, _, h, pQuo ho hx hy h1, rfl⟩
  | rem =>
    simp only [binI] at h
    split at h
    · rename_i hl
      exact ⟨_, _, h, pRem ho hx hy (lit hl), rfl⟩
    · obtain ⟨c, hc, h⟩ := bind_some h
      obtain ⟨h1, rfl⟩ := modI_some hc
      exact ⟨_, _, h, pRem ho hx hy h1, rfl⟩
  | shl => cases h
  | shr => cases h
theorem binS_ok {op : BinOp} {s q : List UInt8} {K : CV D → Option ρ} (ho : o.op = .binOp op t x y u) (hx : ev fr x = str s) (hy : ev fr y = str q) (h : binS op s q K = some r) : ∃ c v, K c = some r ∧ PureR P (ev fr) o v ∧ rel0 X.G z vs c v := by
  cases op with
  | add =>
    obtain ⟨c, hc, h⟩ := bind_some h
    obtain ⟨h1, rfl⟩ := appI_some hc
    exact ⟨_, _, h, pAddS ho hx hy (by simp only [LIM] at h1; omega), rfl⟩
  | eql => exact ⟨_, _, h, pEqlS ho hx hy, rfl⟩
  | neq => exact ⟨_, _, h, pNeqS ho hx hy, rfl⟩
  | lss => exact ⟨_, _, h, pLssS ho hx hy, rfl⟩
  | leq => exact ⟨_, _, h, pLeqS ho hx hy, rfl⟩
  | gtr => exact ⟨_, _, h, pGtrS ho hx hy, rfl⟩
  | geq => exact ⟨_, _, h, pGeqS ho hx hy, rfl⟩
  | _ => cases h
theorem binB_ok {op : BinOp} {a b : Bool} {K : CV D → Option ρ} (ho : o.op = .binOp op t x y u) (ht : P.underlying t = some .bool) (hx : ev fr x = .bool a) (hy : ev fr y = .bool b) (h : binB op a b K = some r) : ∃ c v, K c = some r ∧ PureR P (ev fr) o v ∧ rel0 X.G z vs c v := by
  cases op with
  | eql => exact ⟨_, _, h, pEqlB ho ht hx hy, rfl⟩
  | neq => exact ⟨_, _, h, pNeqB ho ht hx hy, rfl⟩
  | _ => cases h
/-- A slice that may be read as it is. -/
theorem lookS_ok {s : SV D} {v : Value} {p : (t : Nat) × List (D t)} (hM : Mm X.G O z e m k vs) (h : lookS O s = some p) (hv : rel X.G z vs s v) : SlR (X.G.T p.1) z p.2 v ∨ ∃ (w : Value) , OwF (X.G.T p.1) z e m k p.2 v := by
  unfold lookS at h
  split at h
  · cases h; exact .inl hv
  · rename_i i
    split at h
    · rename_i t xs fz w ho
      cases h
      have hob := hM.obj i _ v ho hv.1
      cases fz with
      | true => exact .inl hob
      | false => exact .inr ⟨v, hob⟩
    · cases h
  · cases h
theorem lookS_len {s : SV D} {v : Value} {p : (t : Nat) × List (D t)} (hM : Mm X.G O z e m k vs) (h : lookS O s = some p) (hv : rel X.G z vs s v) : ∃ a c, v = .slice a p.2.length c := by
  rcases lookS_ok hM h hv with h | ⟨_, h⟩
  · exact h.len
  · exact h.ow.len
theorem lookS_nil {s : SV D} {v : Value} {p : (t : Nat) × List (D t)} (hM : Mm X.G O z e m k vs) (h : lookS O s = some p) (hv : rel X.G z vs s v) : (v = .slice none 0 0 ∧ p.2 = []) ∨ ∃ a l c, v = .slice (some a) l c := by
  rcases lookS_ok hM h hv with h | ⟨_, h⟩
  · exact h.nilOr
  · exact h.ow.nilOr
theorem lookS_src {s : SV D} {v : Value} {p : (t : Nat) × List (D t)} (hM : Mm X.G O z e m k vs) (h : lookS O s = some p) (hv : rel X.G z vs s v) : Src (X.G.T p.1) z m p.2 v := by
  rcases lookS_ok hM h hv with h | ⟨_, h⟩
  · exact h.src hM.st.fz
  · exact h.ow.src
theorem CutV.slr {α : Type} {T : Ty α} {z' : Nat → Blk} {xs : List α} {lo n : Nat} {w v : Value} (hc : CutV T.sz lo n w v) (h : SlR T z' xs w) : SlR T z' ((xs.take n).drop lo) v := by
  rcases hc with ⟨rfl, rfl, rfl, rfl⟩ | ⟨b, f0, l, c, off, c', rfl, rfl, h1, h2, h3, h4⟩
  · exact .inl ⟨rfl, by simp⟩
  · rcases h with ⟨h, _⟩ | ⟨b', off', c2, g1, g2, g3, g4⟩
    · cases h
    · cases g1
      have hl : ((xs.take n).drop lo).length = n - lo := by simp; omega
      refine .inr ⟨b, off, c', by rw [hl], g2, ?_, fun i x hi => ?_⟩
      · rw [hl]
        rcases g3 with ⟨k1, L, k2, k3⟩ | ⟨k1, k2⟩
        · rcases h4 with ⟨_, h5⟩ | ⟨h5, _⟩
          · refine .inl ⟨h5, L, k2, ?_⟩
            have e1 : n * T.sz ≤ xs.length * T.sz := Nat.mul_le_mul_right _ h2
            rcases h3 with h3 | ⟨h3, h3'⟩
            · rw [h3, Nat.add_assoc, ← Nat.add_mul, show lo + (n - lo) = n by omega]; omega
            · rw [h3', show n - lo = 0 by omega]; omega
          · omega
        · rcases h4 with ⟨h5, _⟩ | ⟨h5, h6⟩
          · omega
          · exact .inr ⟨by omega, by omega⟩
      · obtain ⟨cs, k1, k2⟩ := g4 _ x (cut_get hi)
        refine ⟨cs, k1, ?_⟩
        rcases h3 with h3 | ⟨h3, h3'⟩
        · rw [h3, Nat.add_assoc, ← Nat.add_mul]; exact k2
        · have := (List.getElem?_eq_some_iff.1 hi).1
          omega
theorem CutV.owd {α : Type} {T : Ty α} {z' : Nat → Blk} {m' : Mem} {xs : List α} {lo n : Nat} {w v : Value} (hc : CutV T.sz lo n w v) (h : Ow T z' m' xs w) : Ow T z' m' ((xs.take n).drop lo) v := by
  rcases hc with ⟨rfl, rfl, _, rfl⟩ | ⟨b, f0, l, c, off, c', rfl, rfl, h1, h2, h3, h4⟩
  · exact .inl ⟨rfl, by simp⟩
  · rcases h with ⟨h, _⟩ | ⟨b', f1, L, c2, g1, g2, g3, g4, g5, g6, g7⟩
    · cases h
    · cases g1
      have hl : ((xs.take n).drop lo).length = n - lo := by simp; omega
      have e1 : n * T.sz ≤ xs.length * T.sz := Nat.mul_le_mul_right _ h2
      have e2 : lo * T.sz + (n - lo) * T.sz = n * T.sz := by rw [← Nat.add_mul, show lo + (n - lo) = n by omega]
      have e3 : n ≤ lo → (n - lo) * T.sz = 0 := fun h => by rw [show n - lo = 0 by omega, Nat.zero_mul]
      refine .inr ⟨b, off, L, c', by rw [hl], g2, g3, g4, ?_, ?_, fun i x hi => ?_⟩
      · rw [hl]
        rcases h3 with h3 | ⟨h3, h3'⟩
        · omega
        · have := e3 h3; omega
      · rw [hl]
        rcases h4 with ⟨_, h5⟩ | ⟨h5, h6⟩
        · exact .inl h5
        · rcases g6 with g6 | ⟨k1, k2, k3⟩
          · omega
          · subst h6
            have e4 : lo * T.sz + (c - lo) * T.sz = c * T.sz := by rw [← Nat.add_mul, show lo + (c - lo) = c by omega]
            refine .inr ⟨by omega, by omega, ?_⟩
            rcases h3 with h3 | ⟨h3, h3'⟩ <;> omega
      · obtain ⟨cs, k1, k2⟩ := g7 _ x (cut_get hi)
        refine ⟨cs, k1, ?_⟩
        rcases h3 with h3 | ⟨h3, h3'⟩
        · rw [h3, Nat.add_assoc, ← Nat.add_mul]; exact k2
        · have := (List.getElem?_eq_some_iff.1 hi).1
          omega
theorem CutV.ow {α : Type} {T : Ty α} {z' : Nat → Blk} {m' : Mem} {xs : List α} {n : Nat} {w v : Value} (hc : CutV T.sz 0 n w v) (h : Ow T z' m' xs w) : Ow T z' m' (xs.take n) v := by simpa using hc.owd h
theorem CutV.src {α : Type} {T : Ty α} {z' : Nat → Blk} {m' : Mem} {xs : List α} {lo n : Nat} {w v : Value} (hc : CutV T.sz lo n w v) (h : Ow T z' m' xs w) : Src T z' m' ((xs.take n).drop lo) v := by
  rcases hc with ⟨rfl, rfl, rfl, rfl⟩ | ⟨b, f0, l, c, off, c', rfl, rfl, h1, h2, h3, h4⟩
  · simpa using (Ow.nil (T := T) (z := z') (m := m')).src
  · rcases h with ⟨h, _⟩ | ⟨b', f1, L, c2, g1, g2, g3, g4, g5, g6, g7⟩
    · cases h
    · cases g1
      have hl : ((xs.take n).drop lo).length = n - lo := by simp; omega
      rw [← hl]
      refine src_of fun i y hy => ?_
      obtain ⟨cs, k1, k2⟩ := g7 _ y (cut_get hy)
      refine ⟨cs, k1, fun k u hk => ?_⟩
      have := (List.getElem?_eq_some_iff.1 hy).1
      have ho : off = f0 + lo * T.sz := by
        rcases h3 with h3 | ⟨h3, _⟩
        · exact h3
        · omega
      rw [ho, Nat.add_assoc f0, ← Nat.add_mul]
      simp only [Mem.load, g2]
      exact k2 k u hk
theorem CutV.blk {sz lo n : Nat} {w v : Value} (hc : CutV sz lo n w v) : blkV v = blkV w := by
  rcases hc with ⟨rfl, rfl, _, _⟩ | ⟨b, f0, l, c, off, c', rfl, rfl, _⟩ <;> rfl
theorem lookB_src {s : SV D} {v : Value} {p : (t : Nat) × List (D t)} (hM : Mm X.G O z e m k vs) (h : lookB O s = some p) (hv : rel X.G z vs s v) : Src (X.G.T p.1) z m p.2 v := by
  unfold lookB at h
  split at h
  · obtain ⟨w, h1, h2⟩ := hv
    split at h
    · rename_i e' xs w1 hO
      split at h
      · rename_i he
        subst he
        cases h
        have hob : OwF _ z e m k xs w := hM.obj _ _ _ hO h1.1
        exact h2.src hob.ow
      · cases h
    · cases h
  · exact lookS_src hM h hv
theorem isNil_ok (h : isNil y = true) : ev fr y = .slice none 0 0 := by
  unfold isNil at h
  split at h
  · rfl
  · cases h
theorem shX_ok {op : BinOp} {left : Bool} {kk kk' : IntKind} {a b : Int} {K : CV D → Option ρ} (ho : o.op = .binOp op t x y u) (ha : ev fr x = .int kk a) (hb : ev fr y = .int kk' b) (hop : (op = .shl ∧ left = true) ∨ (op = .shr ∧ left = false)) (h : shX left y kk a b K = some r) : ∃ c v, K c = some r ∧ PureR P (ev fr) o v ∧ rel0 X.G z vs c v := by
  have fin : ∀ {n : Nat}, 0 ≤ b → min b.toNat kk.bits = n → PureR P (ev fr) o (.int kk (shV left kk a n)) := by
    intro n hb0 hn
    have := pShift (P := P) (op := op) ho ha hb hb0 (by rcases hop with ⟨h, _⟩ | ⟨h, _⟩ <;> simp [h])
    rw [hn] at this
    have e : (if op = .shl then kk.wrap (a * 2 ^ n) else a.fdiv (2 ^ n)) = shV left kk a n := by
      rcases hop with ⟨rfl, rfl⟩ | ⟨rfl, rfl⟩ <;> simp [shV, Int.natCast_pow]
    rw [← e]; exact this
  unfold shX at h
  split at h
  · rename_i n hn
    obtain ⟨hl, h⟩ : Nat.ble n kk.bits = true ∧ K (.int kk (shV left kk a n)) = some r := by
      split at h
      · exact ⟨‹_›, h⟩
      · cases h
    have hbn : b = n := by
      unfold litNat at hn
      split at hn
      · cases hn
        have hb : Value.int _ (Int.ofNat n) = .int kk' b := hb
        cases hb; rfl
      · cases hn
    exact ⟨_, _, h, fin (by omega) (by rw [hbn, Int.toNat_natCast]; exact Nat.min_eq_left (Nat.le_of_ble_eq_true hl)), rfl⟩
  · obtain ⟨n, hn, h⟩ := bind_some h
    unfold shN at hn
    split at hn
    · rename_i hb0
      cases hn
      exact ⟨_, _, h, fin hb0 rfl, rfl⟩
    · cases hn
theorem eqA_ok {op : BinOp} {t1 t2 : Nat} {c1 c2 : List (CV D)} {K : CV D → Option ρ} (ho : o.op = .binOp op t x y u) (ha : rel X.G z vs (.agg t1 c1) (ev fr x)) (hb : rel X.G z vs (.agg t2 c2) (ev fr y)) (h : eqA X op t t1 c1 t2 c2 K = some r) : ∃ c v, K c = some r ∧ PureR P (ev fr) o v ∧ rel0 X.G z vs c v := by
  unfold eqA at h
  split at h
  · rename_i ti qi hti hqi
    split at h
    · rename_i a b h1 h2
      obtain ⟨ds, hx, hr1⟩ := ha
      obtain ⟨ds', hy, hr2⟩ := hb
      have e1 := qi.hv z a ds (ti.pkl z vs c1 a ds h1 hr1)
      have e2 := qi.hv z b ds' (ti.pkl z vs c2 b ds' h2 hr2)
      rw [e1] at hx
      rw [e2] at hy
      split at h
      · exact ⟨_, _, h, pEqA false (by simpa using ho) qi.ht qi.hp qi.hg (qi.hs a b) hx hy (qi.he a b), rfl⟩
      · exact ⟨_, _, h, pEqA true (by simpa using ho) qi.ht qi.hp qi.hg (qi.hs a b) hx hy (qi.he a b), rfl⟩
      · cases h
    · cases h
  · cases h
theorem binX_ok {op : BinOp} {a b : SV D} {K : CV D → Option ρ} (ho : o.op = .binOp op t x y u) (hM : Mm X.G O z e m k vs) (ha : rel X.G z vs a (ev fr x)) (hb : rel X.G z vs b (ev fr y)) (h : binX (P := P) op t y O a b K = some r) : ∃ c v, K c = some r ∧ PureR P (ev fr) o v ∧ rel0 X.G z vs c v := by
  unfold binX at h
  split at h
  · split at h
    · exact shX_ok ho ha hb (.inl ⟨rfl, rfl⟩) h
    · exact shX_ok ho ha hb (.inr ⟨rfl, rfl⟩) h
    · split at h
      · rename_i hk; subst hk
        exact binI_ok ho ha hb h
      · cases h
  · exact binS_ok ho ha hb h
  · split at h
    · rename_i ht
      exact binB_ok ho ht ha hb h
    · cases h
  · split at h
    · rename_i te ht hn
      have hy := isNil_ok (fr := fr) hn
      split at h
      · exact ⟨_, _, h, pEqNil0 false ho ht ha hy, rfl⟩
      · split at h
        · rename_i t' xs hl
          rcases lookS_nil hM hl ha with ⟨hv, hxs⟩ | ⟨a', l', c', hv⟩
          · exact ⟨_, _, nilT_some h true fun _ => hxs, pEqNil0 false ho ht hv hy, rfl⟩
          · exact ⟨_, _, nilT_some h false (by simp), .eqNil false x y t u te a' l' c' ho ht hv hy, rfl⟩
        · cases h
    · rename_i te ht hn
      have hy := isNil_ok (fr := fr) hn
      split at h
      · exact ⟨_, _, h, pEqNil0 true ho ht ha hy, rfl⟩
      · split at h
        · rename_i t' xs hl
          rcases lookS_nil hM hl ha with ⟨hv, hxs⟩ | ⟨a', l', c', hv⟩
          · exact ⟨_, _, nilT_some h true fun _ => hxs, pEqNil0 true ho ht hv hy, rfl⟩
          · exact ⟨_, _, nilT_some h false (by simp), .eqNil true x y t u te a' l' c' ho ht hv hy, rfl⟩
        · cases h
    · cases h
end
end Go.AM
end
section
set_option linter.unusedSimpArgs false
set_option linter.unusedVariables false
namespace Go.AM
section
variable {P : Program} {D : Nat → Type} {X : Ev P D} {ρ : Type} {z z' : Nat → Blk} {e m m' : Mem} {k : Option Nat} {vs : List Value} {fr : Nat → Value} {E : List (Nat × SV D)} {O : List (Ob D)} {o : Oper} {r : ρ}
variable {x y : Operand} {t u : TypeId} {K : SV D → List (Ob D) → Option ρ}
theorem pt_here {sv : SV D} {v : Value} (hM : Mm X.G O z e m k vs) (hK : K sv O = some r) (h : PureR P (ev fr) o v) (hv : rel X.G z vs sv v) : StepX P (ev fr) o m fun _ v m' => Nxt X O z e k vs K r v m' :=
  StepX.pure h (Nxt.here hM hv hK)
theorem idx_R {tt : Nat} {ti : TI P X.G tt} {xs : List (D tt)} {n : Int} {kk : IntKind} {a : D tt} (ho : o.op = .indexAddr t x y) (ht : P.underlying t = some (.slice tt)) (hM : Mm X.G O z e m k vs) (hs : SlR (X.G.T tt) z xs (ev fr x)) (hy : ev fr y = .int kk n) (hg : getI xs n = some a)
    (h : K (.rp tt (ti.lv a) 0) O = some r) : StepX P (ev fr) o m fun _ v m' => Nxt X O z e k vs K r v m' := by
  refine kIdxR ho ht ti.hi ti.hsz rfl hy hs hg fun b off cs hrd hc => ?_
  exact Nxt.here (sv := .rp tt (ti.lv a) 0) hM ⟨b, off, cs, rfl, hc, ti.rdl _ _ _ _ hrd⟩ h
theorem opIdx_ok {a b : SV D} (ho : o.op = .indexAddr t x y) (hM : Mm X.G O z e m k vs) (ha : rel X.G z vs a (ev fr x)) (hb : rel X.G z vs b (ev fr y)) (h : opIdx X t a b O K = some r) : StepX P (ev fr) o m fun _ v m' => Nxt X O z e k vs K r v m' := by
  unfold opIdx at h
  split at h
  · rename_i kk n
    have hy : ev fr y = .int kk n := hb
    split at h
    · rename_i i
      split at h
      · rename_i t1 u1 n1 xs w1 hO
        split at h
        · rename_i ti l e' hI ht
          split at h
          · rename_i heq
            obtain ⟨rfl, rfl⟩ := heq
            obtain ⟨a, hg, h⟩ := bind_some h
            obtain ⟨b, l2, hv, hx⟩ := ha
            obtain ⟨⟨b', he⟩, hob⟩ := hM.obj i _ _ hO hv
            cases he
            refine kIdxA ho ht ti.hi (T := (X.G.T e').as u1) ti.hsz hx hy hob hg fun cs hrd hg2 hc => ?_
            exact Nxt.here (sv := .el i e' n 0) hM ⟨b, 0, _, _, hv, by simp; rfl⟩ h
          · cases h
        · cases h
      · cases h
    · rename_i e1 xs
      split at h
      · rename_i ti e' hI ht
        split at h
        · rename_i heq
          subst heq
          obtain ⟨a, hg, h⟩ := bind_some h
          exact idx_R (ti := ti) ho ht hM ha hy hg h
        · cases h
      · cases h
    · rename_i i
      split at h
      · rename_i t1 xs fz w1 hO
        split at h
        · rename_i ti e' hI ht
          split at h
          · rename_i heq
            subst heq
            obtain ⟨a, hg, h⟩ := bind_some h
            have hob := hM.obj i _ _ hO ha.1
            cases fz with
            | true => exact idx_R (ti := ti) ho ht hM hob hy hg h
            | false =>
              have hob : OwF (X.G.T e') z e m k xs (ev fr x) := hob
              refine kIdxO ho ht ti.hi ti.hsz rfl hy hob hg fun b f0 l c cs hv hrd hg2 hc => ?_
              exact Nxt.here (sv := .el i e' n 0) hM ⟨b, f0, l, c, by rw [← hv]; exact ha.1, rfl⟩ h
          · cases h
        · cases h
      · cases h
    · cases h
  · cases h
theorem opFld_ok {n : Nat} {a : SV D} (ho : o.op = .fieldAddr t x n) (hM : Mm X.G O z e m k vs) (ha : rel X.G z vs a (ev fr x)) (h : opFld (P := P) t n a O K = some r) : StepX P (ev fr) o m fun _ v m' => Nxt X O z e k vs K r v m' := by
  unfold opFld at h
  split at h
  · rename_i fs ht
    split at h
    · rename_i f hf
      split at h
      · rename_i i hi
        split at h
        · cases h
        · rename_i hs
          have hs' : (i.size == 0) = false := by simpa using hs
          split at h
          · obtain ⟨b, hv, hx⟩ := ha
            exact pt_here hM h (gField ho ht hf hi hs' hx) ⟨b, hv, rfl⟩
          · obtain ⟨b, o1, ds, hx, hc, hr⟩ := ha
            exact pt_here hM h (gField ho ht hf hi hs' hx) ⟨b, o1, ds, by rw [Nat.add_assoc], hc, hr⟩
          · obtain ⟨b, f0, l, c, hv, hx⟩ := ha
            exact pt_here hM h (gField ho ht hf hi hs' hx) ⟨b, f0, l, c, hv, by rw [Nat.add_assoc]⟩
          · cases h
      · cases h
    · cases h
  · cases h
/-- What is loaded from cells. -/
theorem loadC_ok {b off : Nat} {cs : List (CV D)} {ds : List Value} {K : SV D → Option ρ} (ho : o.op = .load t x) (hx : ev fr x = .pointer (some ⟨b, off, none⟩)) {c0 : Nat} (hc : ∀ (j : Nat) (w : Value), ds[j]? = some w → m.load b (c0 + j) = some w) {n : Nat} (hoff : off = c0 + n) (hr : L2 (rel0 X.G z vs) cs ds)
    (h : loadC (P := P) t cs n K = some r) : ∃ sv v, K sv = some r ∧ rel X.G z vs sv v ∧ ReadR P (ev fr) o m v := by
  subst hoff
  unfold loadC at h
  split at h
  · cases h
  · rename_i d hd
    split at h
    · rename_i hag
      split at h
      · cases h
      · rename_i i hi
        split at h
        · rename_i hlen
          have hr' : L2 (rel0 X.G z vs) ((cs.drop n).take i.size) ((ds.drop n).take i.size) := L2.take _ (L2.drop _ hr)
          have hl2 : ((ds.drop n).take i.size).length = i.size := by rw [← hr'.length]; exact hlen
          refine ⟨_, .agg ((ds.drop n).take i.size).toArray, h, ⟨_, rfl, hr'⟩, gLoadA ho hd hag hi hl2 hx fun j w hj => ?_⟩
          rw [List.getElem?_take] at hj
          split at hj
          · rw [List.getElem?_drop] at hj
            rw [Nat.add_assoc]; exact hc _ w hj
          · cases hj
        · cases h
    · rename_i hag
      split at h
      · rename_i c hcs
        obtain ⟨w, hw, hrw⟩ := hr.get n c hcs
        exact ⟨_, w, h, hrw, gLoad ho hd (by simpa using hag) hx (hc n w hw)⟩
      · cases h
theorem opLoad_ok {a : SV D} (ho : o.op = .load t x) (hM : Mm X.G O z e m k vs) (ha : rel X.G z vs a (ev fr x)) (h : opLoad X t a O K = some r) : StepX P (ev fr) o m fun _ v m' => Nxt X O z e k vs K r v m' := by
  have fin : ∀ {b off : Nat} {cs : List (CV D)} {ds : List Value} {c0 n : Nat}, ev fr x = .pointer (some ⟨b, off, none⟩) → (∀ (j : Nat) (w : Value), ds[j]? = some w → m.load b (c0 + j) = some w) → off = c0 + n → L2 (rel0 X.G z vs) cs ds → loadC (P := P) t cs n (fun v => K v O) = some r → StepX P (ev fr) o m fun _ v m' => Nxt X O z e k vs K r v m' := by
    intro b off cs ds c0 n hx hc hoff hr h
    obtain ⟨sv, v, h1, h2, h3⟩ := loadC_ok ho hx hc hoff hr h
    exact StepX.read h3 (Nxt.here hM h2 h1)
  unfold opLoad at h
  split at h
  · obtain ⟨b, o1, ds, hx, hc, hr⟩ := ha
    exact fin hx (hM.st.loads hc) rfl hr h
  · rename_i i off
    obtain ⟨b, hv, hx⟩ := ha
    split at h
    · rename_i u cs fz w1 hO
      have hob := hM.obj i _ _ hO hv
      cases fz with
      | true =>
        obtain ⟨b', ds, he, hc, hr⟩ := hob
        cases he
        exact fin hx (hM.st.loads hc) (Nat.zero_add _).symm hr h
      | false =>
        obtain ⟨b', ds, he, hb, _, hr⟩ := hob
        cases he
        exact fin hx hb.loads (Nat.zero_add _).symm hr h
    · rename_i u cs w1 hO
      obtain ⟨b', ds, he, hb, hr⟩ := hM.obj i _ _ hO hv
      cases he
      exact fin hx hb.loads (Nat.zero_add _).symm hr h
    · cases h
  · rename_i i e1 ix off
    obtain ⟨b, f0, l, c, hv, hx⟩ := ha
    split at h
    · rename_i e2 xs fz w1 ti hO hI
      split at h
      · rename_i heq
        subst heq
        obtain ⟨a, hg, h⟩ := bind_some h
        have hob := hM.obj i _ _ hO hv
        cases fz with
        | true =>
          have hob : SlR (X.G.T e2) z xs _ := hob
          obtain ⟨g0, g1, g2⟩ := getI_some hg
          rcases hob with ⟨he, _⟩ | ⟨b', o', c', he, _, _, h4⟩
          · cases he
          · cases he
            obtain ⟨cs, hrd, hc⟩ := h4 _ a g2
            exact fin hx (hM.st.loads hc) rfl (ti.rdl _ _ _ _ hrd) h
        | false =>
          have hob : OwF (X.G.T e2) z e m k xs _ := hob
          obtain ⟨cs, hrd, _, hc⟩ := hob.elem rfl hg
          exact fin hx hc rfl (ti.rdl _ _ _ _ hrd) h
      · cases h
    · rename_i e2 u n xs w1 ti hO hI
      split at h
      · rename_i heq
        subst heq
        obtain ⟨a, hg, h⟩ := bind_some h
        obtain ⟨_, hob⟩ := hM.obj i _ _ hO hv
        obtain ⟨cs, hrd, _, hc⟩ := hob.elem rfl hg
        exact fin hx hc rfl (ti.rdl _ _ _ _ hrd) h
      · cases h
    · cases h
  · cases h
end
end Go.AM
end
section
set_option linter.unusedSimpArgs false
set_option linter.unusedVariables false
namespace Go.AM
section
variable {P : Program} {D : Nat → Type} {X : Ev P D} {ρ : Type} {z z' : Nat → Blk} {e m m' : Mem} {k : Option Nat} {vs : List Value} {fr : Nat → Value} {E : List (Nat × SV D)} {O : List (Ob D)} {o : Oper} {r : ρ}
variable {x y : Operand} {t u : TypeId} {K : SV D → List (Ob D) → Option ρ}
theorem L2.set {α β : Type} {R : α → β → Prop} : ∀ {l : List α} {k : List β} (i : Nat) {a : α} {b : β}, L2 R l k → R a b → L2 R (l.set i a) (k.set i b)
  | [], [], i, a, b, _, _ => by simp [L2]
  | x :: l, y :: k, 0, a, b, ⟨_, h2⟩, hab => ⟨hab, h2⟩
  | x :: l, y :: k, i + 1, a, b, ⟨h1, h2⟩, hab => ⟨h1, L2.set i h2 hab⟩
  | [], _ :: _, _, _, _, h, _ => h.elim
  | _ :: _, [], _, _, _, h, _ => h.elim
theorem setC_rel : ∀ {new : List (CV D)} {nds : List Value} {cs : List (CV D)} {ds : List Value} (off : Nat), L2 (rel0 X.G z vs) cs ds → L2 (rel0 X.G z vs) new nds → L2 (rel0 X.G z vs) (setC cs off new) (setN ds off nds)
  | [], [], cs, ds, off, h, _ => h
  | c :: new, d :: nds, cs, ds, off, h, ⟨h1, h2⟩ => setC_rel (off + 1) (h.set off h1) h2
  | [], _ :: _, _, _, _, _, h => h.elim
  | _ :: _, [], _, _, _, _, h => h.elim
theorem ble_of {a b : Nat} (h : a ≤ b) : Nat.ble a b = true := by rw [Nat.ble_eq]; exact h
theorem Mm.kill (h : Mm X.G O z e m k vs) (i : Nat) : Mm X.G (O.set i .dead) z e m k vs := by
  refine ⟨h.st, by rw [List.length_set]; exact h.len, fun j p w hj hw => ?_, fun a b p q' u w hab ha hb la lb hu hw => ?_⟩
  · rw [List.getElem?_set] at hj
    split at hj
    · split at hj
      · cases hj; trivial
      · cases hj
    · exact h.obj j p w hj hw
  · have key : ∀ (a : Nat) (p : Ob D), (O.set i .dead)[a]? = some p → p.live = true → O[a]? = some p := by
      intro a p ha hp
      rw [List.getElem?_set] at ha
      split at ha
      · split at ha
        · cases ha; cases hp
        · cases ha
      · exact ha
    exact h.ap a b p q' u w hab (key a p ha la) (key b q' hb lb) la lb hu hw
/-- A new object that nothing was given up for. -/
theorem push_nxt {ob : Ob D} {sv : SV D} {v w : Value} (hM : Mm X.G O z e m k vs) (st : St z e m' k) (s : Same m m' none) (hap : ∀ p, (∀ b, p = some b → b < m.next) → Ap p (blkV v)) (hK : K sv (O ++ [ob]) = some r) (hob : ObOk X.G z e m' k (vs ++ [v]) ob v) (hv : rel X.G z (vs ++ [v]) sv w) : Nxt X O z e k vs K r w m' :=
  ⟨z, vs ++ [v], sv, O ++ [ob], Inv.push O ob, Zx.refl z, ext_get, hM.push s st (fun _ _ _ _ _ _ => Ap.none') hob fun p hp _ => hap p hp, hv, hK⟩
theorem turn_nxt {i : Nat} {ob ob' : Ob D} {v : Value} (hM : Mm X.G O z e m k vs) (hK : K .undef (O.set i ob') = some r) (hO : O[i]? = some ob) (hv : vs[i]? = some v) (hl : ob.live = true) (ht : ob'.tch = true) (s : Same m m' (blkV v)) (st : St z e m' k) (hn : ObOk X.G z e m' k vs ob' v) : Nxt X O z e k vs K r undef m' :=
  ⟨z, vs, .undef, _, Inv.set O i (.inr ht), Zx.refl z, fun _ _ h => h, hM.turn hO hv hl s st hn, rfl, hK⟩
theorem new_at (hM : Mm X.G O z e m k vs) (v : Value) : (vs ++ [v])[O.length]? = some v := by
  rw [← hM.len]; simp
theorem own_rel {v : Value} {l : Nat} (hM : Mm X.G O z e m k vs) (hv : ∃ a c, v = .slice a l c) : rel X.G z (vs ++ [v]) (.c (.own O.length)) v := by
  obtain ⟨a, c, rfl⟩ := hv
  exact ⟨new_at hM _, rfl, rfl⟩
theorem opStore_ok {a b : SV D} (ho : o.op = .store t x y) (hM : Mm X.G O z e m k vs) (ha : rel X.G z vs a (ev fr x)) (hb : rel X.G z vs b (ev fr y)) (h : opStore X t a b O K = some r) : StepX P (ev fr) o m fun _ v m' => Nxt X O z e k vs K r v m' := by
  unfold opStore at h
  split at h
  · cases h
  · rename_i i hi
    split at h
    · rename_i j off
      split at h
      · cases h
      · rename_i new hn
        obtain ⟨hst, hnr⟩ := cells_rel hn hb
        split at h
        · rename_i hsz
          have hsz' : (ev fr y).cells.toList.length = i.size := by rw [← hnr.length]; exact hsz
          obtain ⟨b1, hv, hx⟩ := ha
          split at h
          · rename_i u cs w1 hO
            split at h
            · rename_i hle
              obtain ⟨b2, ds, he, hbx, hfr, hr⟩ := hM.obj j _ _ hO hv
              cases he
              refine kPut ho hi hx rfl hst rfl hsz' hbx (ble_of (by rw [← hr.length, ← hnr.length]; exact hle)) _ rfl hM.st fun m' st' bx' sm => ?_
              exact turn_nxt hM h hO hv rfl rfl sm st' ⟨b1, _, rfl, bx', hfr, setC_rel off hr hnr⟩
            · cases h
          · rename_i u cs w1 hO
            split at h
            · rename_i hle
              obtain ⟨b2, ds, he, hbx, hr⟩ := hM.obj j _ _ hO hv
              cases he
              refine kPut ho hi hx rfl hst rfl hsz' hbx (ble_of (by rw [← hr.length, ← hnr.length]; exact hle)) _ rfl hM.st fun m' st' bx' sm => ?_
              exact turn_nxt hM h hO hv rfl rfl sm st' ⟨b1, _, rfl, bx', setC_rel off hr hnr⟩
            · cases h
          · cases h
        · cases h
    · rename_i j e1 ix off
      split at h
      · cases h
      · rename_i new O1 hn
        obtain ⟨z1, hi1, hz1, hM1, hst, hnr⟩ := frzS_ok hM hn hb
        obtain ⟨b1, f0, l, c, hv, hx⟩ := ha
        split at h
        · rename_i hsz
          have hsz' : (ev fr y).cells.toList.length = i.size := by rw [← hnr.length]; exact hsz
          split at h
          · rename_i e2 xs w1 ti hO hI
            split at h
            · rename_i heq
              subst heq
              obtain ⟨a, hg, h⟩ := bind_some h
              split at h
              · rename_i hle
                obtain ⟨a', hp, h⟩ := bind_some h
                have hob : OwF (X.G.T e2) z1 e m k xs _ := hM1.obj j _ _ hO hv
                obtain ⟨cs, hrd, hg2, hc⟩ := hob.elem rfl hg
                have hr := ti.rdl z1 vs a cs hrd
                refine kSet (T := X.G.T e2) ho hi hx rfl rfl hst rfl hsz' hob rfl hg2 hrd hc (ti.pkl z1 vs _ a' _ hp (setC_rel off hr hnr)) rfl (ble_of (by rw [← hr.length, ← hnr.length]; exact hle)) hM1.st fun m' st' ow' sm => ?_
                exact Nxt.from hi1 hz1 (turn_nxt hM1 h hO hv rfl rfl sm st' ow')
              · cases h
            · cases h
          · rename_i e2 u n xs w1 ti hO hI
            split at h
            · rename_i heq
              subst heq
              obtain ⟨a, hg, h⟩ := bind_some h
              split at h
              · rename_i hle
                obtain ⟨a', hp, h⟩ := bind_some h
                obtain ⟨⟨b2, he⟩, hob⟩ := hM1.obj j _ _ hO hv
                obtain ⟨cs, hrd, hg2, hc⟩ := hob.elem rfl hg
                have hr := ti.rdl z1 vs a cs hrd
                refine kSet (T := (X.G.T e2).as u) ho hi hx rfl rfl hst rfl hsz' hob rfl hg2 hrd hc (ti.pkl z1 vs _ a' _ hp (setC_rel off hr hnr)) rfl (ble_of (by rw [← hr.length, ← hnr.length]; exact hle)) hM1.st fun m' st' ow' sm => ?_
                exact Nxt.from hi1 hz1 (turn_nxt hM1 h hO hv rfl rfl sm st' ⟨⟨b2, he⟩, ow'⟩)
              · cases h
            · cases h
          · cases h
        · cases h
    · cases h
/-! ### New objects -/
theorem opAlloc_ok (ho : o.op = .alloc t) (hM : Mm X.G O z e m k vs)
    (h : (match X.A t with
    | some ai => K (.arr O.length) (O ++ [.arr ai.e t ai.n (List.replicate ai.n ai.ti.x0) false])
    | none => match X.I t with | some ti => K (.box O.length 0) (O ++ [.box t ti.zc false false]) | none => none) = some r) : StepX P (ev fr) o m fun _ v m' => Nxt X O z e k vs K r v m' := by
  split at h
  · rename_i ai hA
    refine kAllocA (T := X.G.T ai.e) (x0 := ai.ti.x0) ho ai.hi ai.hz ai.hzf ai.hzs ai.hzc (ai.ti.rd0 z) ai.hn hM.st fun b m' st' ow sm hap => ?_
    exact push_nxt (v := .slice (some ⟨b, 0, none⟩) ai.n ai.n) hM st' sm hap h ⟨⟨b, rfl⟩, ow⟩ ⟨b, ai.n, new_at hM _, rfl⟩
  · split at h
    · rename_i ti hI
      refine kAllocN ho ti.hi ti.hz ti.hzf ti.hzs _ rfl hM.st fun b m' hn st' bx sm hap => ?_
      exact push_nxt (v := .pointer (some ⟨b, 0, none⟩)) hM st' sm hap h ⟨b, _, rfl, bx, hn, ti.hzc _ _⟩ ⟨b, new_at hM _, rfl⟩
    · cases h
theorem opBox_ok {i : TypeInfo} {cs : List (CV D)} (ho : o.op = .box t x) (hM : Mm X.G O z e m k vs) (hE : rel X.G z vs (sop E x) (ev fr x)) (hi : P.info? t = some i) (hc : cellsS (sop E x) = some cs) (hl : cs.length = i.size)
    (h : K (.box O.length 0) (O ++ [.box t cs false false]) = some r) : StepX P (ev fr) o m fun _ v m' => Nxt X O z e k vs K r v m' := by
  obtain ⟨hst, hr⟩ := cells_rel hc hE
  refine kBoxN ho hi rfl hst _ rfl (by rw [← hr.length]; exact hl) hM.st fun b m' hn st' bx sm hap => ?_
  exact push_nxt (v := .pointer (some ⟨b, 0, none⟩)) hM st' sm hap h ⟨b, _, rfl, bx, hn, rels.mono hr (Zle.refl z) ext_get⟩ ⟨b, new_at hM _, rfl⟩
theorem sameX_ok {kk : IntKind} {n : Int} (h : sameX x y = true) (hx : ev fr x = .int kk n) : ∃ k2, ev fr y = .int k2 n := by
  unfold sameX at h
  split at h
  · rename_i a b
    have : a = b := Nat.eq_of_beq_eq_true h
    subst this
    exact ⟨kk, hx⟩
  · rename_i k1 a k2 b
    have hx' : Value.int k1 a = .int kk n := hx
    cases hx'
    have : n = b := by simpa using h
    subst this
    exact ⟨k2, rfl⟩
  · cases h
theorem opMake_ok {tt : Nat} {ti : TI P X.G tt} {kk : IntKind} {n : Int} (ho : o.op = .makeSlice t x y) (ht : P.underlying t = some (.slice tt)) (hM : Mm X.G O z e m k vs) (hx : ev fr x = .int kk n) (hxy : sameX x y = true)
    (h : (Option.bind (mkI ti.x0 n) fun r => K (.c (.own O.length)) (O ++ [.sl tt r false false])) = some r) : StepX P (ev fr) o m fun _ v m' => Nxt X O z e k vs K r v m' := by
  obtain ⟨xs, hm, h⟩ := bind_some h
  have hy := sameX_ok hxy hx
  obtain ⟨k2, hy⟩ := hy
  refine kMake (T := X.G.T tt) ho (by rw [ti.tid]; exact ht) (by rw [ti.tid]; exact ti.hi) ti.hz ti.hzf ti.hzs ti.hsz ti.hby (ti.rd0 z) hx hy hM.st hm fun v' m' st' ow sm hap => ?_
  have hb : blkV v' = blkOf v' := blkV_of (by obtain ⟨a, c, rfl⟩ := ow.ow.len; intro r; simp)
  exact push_nxt (v := v') hM st' sm (by rw [hb]; exact hap) h ow (own_rel hM ow.ow.len)
theorem mkAll_ok {tt : Nat} {ti : TI P X.G tt} : ∀ {ps : List (Nat × Operand)} {n : Nat} {O : List (Ob D)} {z : Nat → Blk} {K : List (D tt) → List (Ob D) → Option ρ}, Mm X.G O z e m k vs → (∀ x, rel X.G z vs (sop E x) (ev fr x)) → mkAll X ti E n ps O K = some r →
    ∃ z' O' as css, Inv O O' ∧ Zx e.next z z' ∧ Mm X.G O' z' e m k vs ∧ BuildOk (X.G.T tt) z' (ev fr) ps n as css ∧ K as O' = some r
  | [], n, O, z, K, hM, hE, h => ⟨z, O, [], [], Inv.refl O, Zx.refl z, hM, trivial, h⟩
  | (j, x) :: ps, n, O, z, K, hM, hE, h => by
    unfold mkAll at h
    split at h
    · rename_i hj
      split at h
      · rename_i cs O1 hc
        obtain ⟨a, ha, h⟩ := bind_some h
        obtain ⟨z1, hi1, hz1, hM1, hst, hr⟩ := frzS_ok hM hc (hE x)
        obtain ⟨z2, O2, as, css, g0, g1, g2, g3, g4⟩ := mkAll_ok hM1 (fun x => (hE x).mono hz1.le fun _ _ h => h) h
        exact ⟨z2, O2, a :: as, (ev fr x).cells.toList :: css, hi1.trans g0, hz1.trans g1, g2, ⟨hj, hst, rfl, (X.G.T tt).mono _ _ g1.le _ _ (ti.pkl _ _ _ _ _ ha hr), g3⟩, g4⟩
      · cases h
    · cases h
theorem opBuild_ok {tt l : Nat} {ti : TI P X.G tt} {ps : Array (Nat × Operand)} (ho : o.op = .buildSlice t l ps) (ht : P.underlying t = some (.slice tt)) (hM : Mm X.G O z e m k vs) (hE : ∀ x, rel X.G z vs (sop E x) (ev fr x))
    (h : (mkAll X ti E 0 ps.toList O fun as O => if as.length = l ∧ Nat.ble (l * (X.G.T tt).sz) 16777216 = true then K (.c (.own O.length)) (O ++ [.sl tt as false false]) else none) = some r) : StepX P (ev fr) o m fun _ v m' => Nxt X O z e k vs K r v m' := by
  obtain ⟨z1, O1, as, css, g0, g1, g2, g3, g4⟩ := mkAll_ok hM hE h
  split at g4
  · rename_i hl
    have hpos : 0 < (X.G.T tt).sz := Nat.pos_of_ne_zero fun h0 => by have := ti.hpos; rw [h0] at this; cases this
    have h24 := Nat.le_of_ble_eq_true hl.2
    have hll : l ≤ l * (X.G.T tt).sz := Nat.le_mul_of_pos_right _ hpos
    refine kBuild (T := X.G.T tt) ho (by rw [ti.tid]; exact ht) (by rw [ti.tid]; exact ti.hi) ti.hz ti.hzf ti.hzs ti.hsz as css hl.1 hl.2 (ble_of (show l + 1 ≤ 9223372036854775808 by omega)) g3 g2.st fun v' m' st' ow sm hap => ?_
    have hb : blkV v' = blkOf v' := blkV_of (by obtain ⟨a, c, rfl⟩ := ow.ow.len; intro r; simp)
    exact Nxt.from g0 g1 (push_nxt (v := v') g2 st' sm (by rw [hb]; exact hap) g4 ow (own_rel g2 ow.ow.len))
  · cases g4
theorem fill_ok {pl : List (Option (Nat × Nat))} (hE : ∀ x, rel X.G z vs (sop E x) (ev fr x)) : ∀ {ps : List (Nat × Operand)} {cs cs' : List (CV D)} {ds : List Value}, fillC pl E ps cs = some cs' → L2 (rel0 X.G z vs) cs ds →
    ∃ ds', fillL (fun k => (pl[k]?).join) ds (ps.map fun p => (p.1, ev fr p.2)) = some ds' ∧ L2 (rel0 X.G z vs) cs' ds'
  | [], cs, cs', ds, h, hr => by cases h; exact ⟨ds, rfl, hr⟩
  | (i, x) :: ps, cs, cs', ds, h, hr => by
    unfold fillC at h
    split at h
    · rename_i off size new hp hc
      split at h
      · rename_i hcond
        obtain ⟨hst, hnr⟩ := cells_rel hc (hE x)
        obtain ⟨ds', g1, g2⟩ := fill_ok hE h (setC_rel off hr hnr)
        refine ⟨ds', ?_, g2⟩
        have hsz : (ev fr x).cells.size = size := by
          have h1 : new.length = (ev fr x).cells.toList.length := hnr.length
          have h2 : (ev fr x).cells.toList.length = (ev fr x).cells.size := Array.length_toList
          have h3 : new.length = size := hcond.1
          omega
        simp only [List.map_cons, fillL, hp]
        rw [if_pos ⟨hst, hsz, by rw [← hr.length]; exact hcond.2⟩]
        exact g1
      · cases h
    · cases h
theorem opStruct_ok {ti : TI P X.G t} {fs : Array Field} {ps : Array (Nat × Operand)} {cs : List (CV D)} (ho : o.op = .build t ps) (ht : P.underlying t = some (.struct fs)) (hM : Mm X.G O z e m k vs) (hE : ∀ x, rel X.G z vs (sop E x) (ev fr x)) (hp : (places P fs).all Option.isSome = true)
    (hc : fillC (places P fs) E ps.toList ti.zc = some cs) (h : K (.agg t cs) O = some r) : StepX P (ev fr) o m fun _ v m' => Nxt X O z e k vs K r v m' := by
  obtain ⟨ds, g1, g2⟩ := fill_ok hE hc (ti.hzc z vs)
  exact kBuildS _ ds ho ht ti.hi ti.hz ti.hzf rfl hp rfl g1 (Nxt.here (sv := .agg t cs) hM ⟨ds, rfl, g2⟩ h)
end
end Go.AM
end
section
set_option linter.unusedSimpArgs false
set_option linter.unusedVariables false
namespace Go.AM
section
variable {P : Program} {D : Nat → Type} {X : Ev P D} {ρ : Type} {z z' : Nat → Blk} {e m m' : Mem} {k : Option Nat} {vs : List Value} {fr : Nat → Value} {E : List (Nat × SV D)} {O : List (Ob D)} {o : Oper} {r : ρ}
variable {x y : Operand} {t u : TypeId} {K : SV D → List (Ob D) → Option ρ}
theorem lowX_ok {lo : Option Operand} {a : Int} (hE : ∀ x, rel X.G z vs (sop E x) (ev fr x)) (h : lowX E lo = some a) : lowI (ev fr) lo a := by
  cases lo with
  | none => cases h; rfl
  | some y =>
    simp only [lowX] at h
    split at h
    · rename_i kk n hs
      cases h
      have := hE y
      rw [hs] at this
      exact ⟨kk, this⟩
    · cases h
theorem highX_ok {hi : Option Operand} {a : Int} {l : Nat} (hE : ∀ x, rel X.G z vs (sop E x) (ev fr x)) (h : highX E (l : Int) hi = some a) : highI (ev fr) hi l a := by
  cases hi with
  | none => cases h; rfl
  | some y =>
    simp only [highX] at h
    split at h
    · rename_i kk n hs
      cases h
      have := hE y
      rw [hs] at this
      exact ⟨kk, this⟩
    · cases h
theorem opCut_ok {a : SV D} {lo hi : Option Operand} (ho : o.op = .slice t x lo hi none) (hM : Mm X.G O z e m k vs) (hE : ∀ x, rel X.G z vs (sop E x) (ev fr x)) (ha : rel X.G z vs a (ev fr x)) (h : opCut X t a E lo hi O K = some r) : StepX P (ev fr) o m fun _ v m' => Nxt X O z e k vs K r v m' := by
  unfold opCut at h
  split at h
  · split at h
    · rename_i s x1 y1 ht hlo hhi
      obtain ⟨q, hq, h⟩ := bind_some h
      exact kCutS ho ht ha (lowX_ok hE hlo) (highX_ok hE hhi) hq (Nxt.here (sv := .c (.str q)) hM rfl h)
    · cases h
  · rename_i c hns
    split at h
    · rename_i e1 xs O1 hc
      obtain ⟨z1, hi1, hz1, hM1, hr⟩ := frzC_ok hM hc ha
      split at h
      · rename_i e2 ti x1 y1 ht hI hlo hhi
        split at h
        · rename_i heq
          subst heq
          obtain ⟨q, hq, h⟩ := bind_some h
          refine kCut (T := X.G.T e2) ho (by rw [ti.tid]; exact ht) (by rw [ti.tid]; exact ti.hi) ti.hsz rfl (lowX_ok hE hlo) (highX_ok hE hhi) hr hM1.st hq fun v' I _ hs => ?_
          exact Nxt.from hi1 hz1 (Nxt.here (sv := .c (.sl e2 q)) hM1 hs h)
        · cases h
      · cases h
    · cases h
  · cases h
/-- A part of an own slice. -/
theorem oCut {α : Type} {T : Ty α} {xs : List α} {v : Value} {lo hi : Option Operand} {a n : Nat} {i : TypeInfo} {ρ : Operand → Value} (h : o.op = .slice t x lo hi none) (ht : P.underlying t = some (.slice T.tid)) (hi' : P.info? T.tid = some i) (hsz : i.size = T.sz) (hx : ρ x = v) (hlo : lowIs ρ lo a) (hhi : highIs ρ hi xs.length n)
    (hs : Ow T z m xs v) (ha : a ≤ n) (hn : n ≤ xs.length) : ∃ v', (PureR P ρ o v' ∨ ReadR P ρ o m v') ∧ CutV T.sz a n v v' := by
  rcases hs with ⟨rfl, rfl⟩ | ⟨b, f0, L, c, rfl, g1, g2, g3, g4, g5, g6⟩
  · have hn0 : n = 0 := by simpa using hn
    subst hn0
    obtain rfl : a = 0 := by omega
    exact ⟨.slice none 0 0, .inl (.sliceNil t x lo hi T.tid i h ht hi' hx hlo hhi), .inl ⟨rfl, rfl, rfl, rfl⟩⟩
  · rcases g5 with rfl | ⟨hc, h1, h2⟩
    · refine ⟨_, .inr (.slice t x lo hi T.tid i L b f0 xs.length a n h ht hi' hx g1 hlo hhi ha hn (by rw [hsz]; exact g4)), .inr ⟨b, f0, xs.length, BIG, _, BIG, rfl, rfl, ha, hn, .inl (by rw [hsz]), .inl ⟨rfl, rfl⟩⟩⟩
    · refine ⟨_, .inl (.slice t x lo hi T.tid i b f0 xs.length c a n h ht hi' hx (by simp only [BIG] at hc ⊢; omega) hlo hhi ha (by omega) (fun _ => trivial)), .inr ⟨b, f0, xs.length, c, _, _, rfl, rfl, ha, hn, ?_, .inr ⟨hc, rfl⟩⟩⟩
      by_cases hca : c = a
      · exact .inr ⟨by omega, if_pos hca⟩
      · exact .inl (by rw [if_neg hca, hsz])
theorem opCut'_ok {a : SV D} {lo hi : Option Operand} (ho : o.op = .slice t x lo hi none) (hM : Mm X.G O z e m k vs) (hE : ∀ x, rel X.G z vs (sop E x) (ev fr x)) (ha : rel X.G z vs a (ev fr x)) (h : opCut' X t x a E lo hi O K = some r) : StepX P (ev fr) o m fun _ v m' => Nxt X O z e k vs K r v m' := by
  unfold opCut' at h
  split at h
  · exact opCut_ok ho hM hE ha h
  · rename_i md hmd
    split at h
    · rename_i i
      have ha : rel0 X.G z vs (.own i) (ev fr x) := ha
      split at h
      · rename_i e1 xs w e2 hO hu
        split at h
        · rename_i ti p q hti hlo hhi
          by_cases heq : e2 = e1
          case neg => rw [if_neg heq] at h; cases h
          rw [if_pos heq] at h
          subst heq
          obtain ⟨rr, hr, h⟩ := bind_some h
          obtain ⟨c0, c1, c2, rfl⟩ := cutI_some hr
          obtain ⟨p, rfl⟩ := Int.eq_ofNat_of_zero_le c0
          obtain ⟨q, rfl⟩ := Int.eq_ofNat_of_zero_le (Int.le_trans c0 c1)
          simp only [Int.toNat_natCast] at h
          have hob : OwF (X.G.T e2) z e m k xs (ev fr x) := hM.obj i _ _ hO ha.1
          obtain ⟨v', h1, h2⟩ := oCut (T := X.G.T e2) ho (by rw [ti.tid]; exact hu) (by rw [ti.tid]; exact ti.hi) ti.hsz rfl (lowI_is (lowX_ok hE hlo)) (highI_is (highX_ok hE hhi)) hob.ow (by omega) (by omega)
          have hk : Nxt X O z e k vs K r v' m := by
            by_cases hmo : Nat.beq md 0 = true
            · rw [if_pos hmo] at h
              exact Nxt.here (sv := .cut i e2 p q) hM ⟨_, ha, h2⟩ h
            · rw [if_neg hmo] at h
              have ow : OwF (X.G.T e2) z e m k ((xs.take q).drop p) v' := ⟨h2.owd hob.ow, fun b hb => hob.fresh b (by
                have hbx : blkV (ev fr x) = blkOf (ev fr x) := blkV_of (by obtain ⟨a, c, hh⟩ := hob.ow.len; intro r; rw [hh]; simp)
                have hbv : blkV v' = blkOf v' := blkV_of (by obtain ⟨a, c, hh⟩ := (h2.owd hob.ow).len; intro r; rw [hh]; simp)
                rw [← hbx, ← h2.blk, hbv]; exact hb)⟩
              have hbk : blkV v' = blkV (ev fr x) := h2.blk
              have hap := fun j p' w hij hj hl hw => hM.ap j i p' _ w _ hij hj hO hl rfl hw ha.1
              exact ⟨z, vs ++ [v'], .c (.own O.length), O.set i .dead ++ [.sl e2 ((xs.take q).drop p) false false], (Inv.set O i (.inl rfl)).trans (Inv.push _ _), Zx.refl z, ext_get,
                (hM.kill i).push (q := blkV (ev fr x)) (o' := .sl e2 ((xs.take q).drop p) false false) ⟨Nat.le_refl _, hM.st.dead, fun _ _ _ => rfl⟩ hM.st (fun j p w hj hw hl => by
                  rw [List.getElem?_set] at hj
                  split at hj
                  · split at hj
                    · cases hj; cases hl
                    · cases hj
                  · rename_i hij
                    exact hap j p w (fun e => hij e.symm) hj hl hw) ow (fun p hp ha2 => by rw [hbk]; exact ha2), own_rel hM (by obtain ⟨a, c, hh⟩ := ow.ow.len; exact ⟨a, c, hh⟩), h⟩
          rcases h1 with h1 | h1
          · exact StepX.pureR (D := fun _ v m' => Nxt X O z e k vs K r v m') (I := fun _ => True) h1 hk
          · exact StepX.read (D := fun _ v m' => Nxt X O z e k vs K r v m') h1 hk
        · cases h
      · cases h
    · cases h
theorem opCut3_ok {y mx : Operand} (ho : o.op = .slice t x none (some y) (some mx)) (hM : Mm X.G O z e m k vs) (hE : ∀ x, rel X.G z vs (sop E x) (ev fr x)) (h : opCut3 X t (sop E x) (sop E y) (sop E mx) O K = some r) : StepX P (ev fr) o m fun _ v m' => Nxt X O z e k vs K r v m' := by
  unfold opCut3 at h
  have ite_some : ∀ {α : Type} {p : Prop} [Decidable p] {x : Option α} {r : α}, (if p then x else none) = some r → p ∧ x = some r := by
    intro α p _ x r h
    split at h
    · exact ⟨‹_›, h⟩
    · cases h
  split at h
  · rename_i e' k1 p k2 q ht hp hq
    have hy := hE y
    rw [hp] at hy
    have hy : ev fr y = .int k1 p := hy
    have hmx := hE mx
    rw [hq] at hmx
    have hmx : ev fr mx = .int k2 q := hmx
    have ha := hE x
    split at h
    · rename_i c hx
      rw [hx] at ha
      split at h
      · rename_i e2 xs O1 hf
        split at h
        · rename_i ti hI
          obtain ⟨he, h⟩ := ite_some h
          subst he
          obtain ⟨rr, hr, h⟩ := bind_some h
          unfold cut3I at hr
          obtain ⟨hcc0, hr2⟩ := ite_some hr
          obtain ⟨h0, h1, h2, hpq⟩ := hcc0
          subst hpq
          cases hr2
          obtain ⟨z1, g0, g1, g2, g3⟩ := frzC_ok hM hf ha
          obtain ⟨n, rfl⟩ := Int.eq_ofNat_of_zero_le h0
          have hn : n ≤ xs.length := by omega
          have hnB : n < BIG := by simp only [BIG]; omega
          have key : ∃ v, PureR P (ev fr) o v ∧ rel X.G z1 vs (.full e' (xs.take n)) v := by
            rcases (g3 : SlR (X.G.T e') z1 xs (ev fr x)) with ⟨hv, rfl⟩ | ⟨b, off, c', hv, k1', k2', k3'⟩
            · have hn0 : n = 0 := by simpa using hn
              subst hn0
              exact ⟨_, .slice3Nil t x mx (some y) e' ti.i k2 ho ht ti.hi hv ⟨y, k1, rfl, hy⟩ hmx, .inl ⟨rfl, by simp⟩, by simp [BIG], none, by simp⟩
            · have hcc : (c' ≠ BIG ∧ n ≤ c') ∨ (c' = BIG ∧ n ≤ xs.length) := by
                rcases k2' with ⟨hc, _⟩ | ⟨hc, hl⟩
                · exact .inr ⟨hc, hn⟩
                · exact .inl ⟨by omega, by omega⟩
              have hlen : (xs.take n).length = n := by rw [List.length_take]; omega
              refine ⟨_, .slice3 t x mx (some y) e' ti.i b off xs.length c' n n k2 ho ht ti.hi hv hcc ⟨y, k1, rfl, hy⟩ hmx (Nat.le_refl _), ?_⟩
              refine ⟨.inr ⟨b, off, n, by rw [hlen], k1', .inr ⟨hnB, by rw [hlen]; exact Nat.le_refl _⟩, fun i a hi => ?_⟩, by rw [hlen]; exact hnB, some ⟨b, off, none⟩, by rw [hlen]⟩
              rw [List.getElem?_take] at hi
              split at hi
              · exact k3' i a hi
              · cases hi
          obtain ⟨v, hv, hr2⟩ := key
          exact StepX.pure hv (Nxt.from g0 g1 (Nxt.here g2 hr2 h))
        · cases h
      · cases h
    · cases h
  · cases h
theorem lookS_cs {a : SV D} {v : Value} {t : Nat} {xs : List (D t)} (hM : Mm X.G O z e m k vs) (h : lookS O a = some ⟨t, xs⟩) (hv : rel X.G z vs a v) : SlR (X.G.T t) z xs v ∨ OwF (X.G.T t) z e m k xs v := by
  unfold lookS at h
  split at h
  · cases h; exact .inl hv
  · split at h
    · rename_i t' xs' fz w1 ho
      cases h
      have hob := hM.obj _ _ v ho hv.1
      cases fz with
      | true => exact .inl hob
      | false => exact .inr hob
    · cases h
  · cases h
theorem opConv_ok {a : SV D} (ho : o.op = .convert u t x) (hM : Mm X.G O z e m k vs) (ha : rel X.G z vs a (ev fr x)) (h : opConv X u t a O K = some r) : StepX P (ev fr) o m fun _ v m' => Nxt X O z e k vs K r v m' := by
  unfold opConv at h
  split at h
  · rename_i k1 k2 hu ht
    split at h
    · exact pt_here hM h (pConv ho hu ht ha) rfl
    · cases h
  · rename_i te hu ht
    split at h
    · rename_i s bi hB
      obtain ⟨s', hs, h⟩ := bind_some h
      refine kBytes ho hu ht bi.hu bi.hi bi.hi1 ha hs hM.st ?_
      intro v' m' st ow s0 hap
      have ow' := bi.hb _ _ _ _ _ _ ow
      have hb : blkV v' = blkOf v' := blkV_of (by obtain ⟨a, c, rfl⟩ := ow.ow.len; intro r; simp)
      refine ⟨z, vs ++ [v'], .c (.own O.length), _, Inv.push O _, Zx.refl z, ext_get, hM.push (q := none) s0 st (fun _ _ _ _ _ _ => Ap.none') ?_ (fun p hp _ => by rw [hb]; exact hap p hp), ?_, h⟩
      · exact ow'
      · refine ⟨?_, ?_⟩
        · rw [← hM.len]; simp
        · obtain ⟨a, c, rfl⟩ := ow.ow.len; exact ⟨rfl, rfl⟩
    · cases h
  · rename_i te hu ht
    split at h
    · rename_i e' xs bi hl hB
      split at h
      · rename_i he
        subst he
        rcases lookS_cs hM hl ha with hs | hs
        · exact kStrR ho hu bi.hu ht rfl (bi.hr _ _ _ hs) hM.st (Nxt.here (sv := .c (.str (bi.to xs))) hM rfl h)
        · exact kStrO ho hu bi.hu ht rfl (bi.ho _ _ _ _ _ _ hs) (Nxt.here (sv := .c (.str (bi.to xs))) hM rfl h)
      · cases h
    · cases h
  · cases h
theorem opLen_ok {a : SV D} {ts : Array TypeId} (ho : o.op = .call { callee := .builtin .len, args := #[x], argTypes := #[t] }) (hM : Mm X.G O z e m k vs) (ha : rel X.G z vs a (ev fr x)) (h : opLen (P := P) t a O K = some r) : StepX P (ev fr) o m fun _ v m' => Nxt X O z e k vs K r v m' := by
  unfold opLen at h
  split at h
  · rename_i s ht
    exact pt_here hM h (pLenS ho rfl ht ha) rfl
  · rename_i te ht
    have hv : ev fr x = .slice none 0 0 := ha
    exact pt_here hM h (pLenG (xs := ([] : List Int)) ho ht rfl ⟨none, 0, hv⟩) rfl
  · rename_i te hn1 ht
    split at h
    · rename_i e1 xs hl
      exact pt_here hM h (pLenG ho ht rfl (lookS_len hM hl ha)) rfl
    · cases h
  · cases h
/-- An append behind a slice without room: a new block. -/
theorem kAppendF {α : Type} {T : Ty α} {Dg : Tag → Value → Mem → Prop} {xs ys : List α} {w : Value} {a : Option Addr} {ρ : Operand → Value} {i : TypeInfo} (h : o.op = .call { callee := .builtin .append, args := #[x, y], argTypes := #[t, u] }) (ht : P.underlying t = some (.slice T.tid)) (hi : P.info? T.tid = some i) {zv : Value} (hzv : i.zero = some zv) (hzf : zv.cells.toList.all flat0 = true) (hzs : zv.cells.size = i.size)
    (hsz : i.size = T.sz) (hpos : (T.sz == 0) = false) (hby : Nat.ble i.bytes 32768 = true) (hu : (∃ e', P.underlying u = some (.slice e')) ∨ P.underlying u = some .string) (hx : ρ x = .slice a xs.length xs.length) (hs : Src T z m xs (.slice a xs.length xs.length)) (hy : ρ y = w) (hsrc : Src T z m ys w) (hne : ys.isEmpty = false)
    (st : St z e m k) {r : List α} (hr : appI xs ys = some r)
    (hk : ∀ v' m', St z e m' k → OwF T z e m' k r v' → Same m m' none → (∀ p, (∀ b, p = some b → b < m.next) → Ap p (blkOf v')) → Dg .eff v' m') : StepX P ρ o m Dg := by
  obtain ⟨hlim, rfl⟩ := appI_some hr
  simp only [LIM] at hlim
  have hby := Nat.le_of_ble_eq_true hby
  have hp : 0 < T.sz := by rcases Nat.eq_zero_or_pos T.sz with h0 | h0; · rw [h0] at hpos; cases hpos
                           · exact h0
  obtain ⟨hlen, cs, hel, hcl, hrd⟩ := hsrc
  obtain ⟨hlx, os, hex, hol, hro⟩ := hs
  have hlw : lenV (ρ y) = ys.length := by rw [hy]; exact hlen
  have hy0 : 0 < ys.length := by cases ys with
    | nil => cases hne
    | cons _ _ => simp
  have hmul : (xs.length + ys.length) * i.bytes ≤ 4294967296 * 32768 := Nat.mul_le_mul hlim hby
  have hnz : z m.next = .dead := by
    have hz := st.fz
    cases hzz : z m.next with
    | dead => rfl
    | ro rd => have := (hz m.next (by rw [hzz]; simp)).2; omega
    | own L t => have := (hz m.next (by rw [hzz]; simp)).2; omega
    | map L t => have := (hz m.next (by rw [hzz]; simp)).2; omega
  have hE : EffR P (callR P 0) ρ o m (.slice (some ⟨m.next, 0, none⟩) (xs.length + lenV (ρ y)) BIG) (m.push (.own (os ++ cs) T.tid)) :=
    .appendNew x y t u T.tid i zv a xs.length xs.length os cs h ht hi hzv hzf hzs (by rw [hsz]; exact hp) hu hx (by rw [hlw]; omega) (by rw [hx, hsz]; exact hex) (by rw [hsz]; exact hol) (by rw [hy, hsz]; exact hel) (by rw [hlw, hsz]; exact hcl) (by rw [hlw]; omega) (by rw [hlw]; omega)
  rw [hlw] at hE
  have how : Ow T z (m.push (.own (os ++ cs) T.tid)) (xs ++ ys) (.slice (some ⟨m.next, 0, none⟩) (xs.length + ys.length) BIG) := by
    refine Ow.at0 ⟨m.next, os ++ cs, BIG, by simp, by simp [Mem.push], by simp [Mem.push], hnz, by simp [hol, hcl, Nat.add_mul], .inl rfl, fun n q ha => ?_⟩
    rw [List.getElem?_append] at ha
    split at ha
    · obtain ⟨c, g1, g2⟩ := hro n q ha
      refine ⟨c, g1, fun k q hk => ?_⟩
      have := g2 k q hk
      rw [List.getElem?_append_left (List.getElem?_eq_some_iff.1 this).1]
      exact this
    · rename_i hge
      obtain ⟨c, g1, g2⟩ := hrd _ q ha
      refine ⟨c, g1, fun k q hk => ?_⟩
      have := g2 k q hk
      have h1 : n * T.sz = os.length + (n - xs.length) * T.sz := by
        rw [hol, ← Nat.add_mul]; congr 1; omega
      rw [h1, Nat.add_assoc, List.getElem?_append_right (by omega), Nat.add_sub_cancel_left]
      exact this
  obtain ⟨g1, g2, g3, g4⟩ := gOwn (k := k) st how rfl
  exact StepX.eff hE (hk _ _ g1 g2 g3 g4)
theorem opApp_ok {a b : SV D} (ho : o.op = .call { callee := .builtin .append, args := #[x, y], argTypes := #[t, u] }) (hM : Mm X.G O z e m k vs) (ha : rel X.G z vs a (ev fr x)) (hb : rel X.G z vs b (ev fr y)) (h : opApp X t u a b O K = some r) : StepX P (ev fr) o m fun _ v m' => Nxt X O z e k vs K r v m' := by
  unfold opApp at h
  split at h
  · rename_i tt uu ht hu
    split at h
    · cases h
    · rename_i ti hI
      dsimp only at h
      split at h
      · cases h
      · rename_i ys hys
        have hsrc : Src (X.G.T tt) z m ys (ev fr y) := by
          split at hys
          · cases hys
            have hv : ev fr y = .slice none 0 0 := hb
            rw [hv]
            exact (SlR.nil (T := X.G.T tt)).src hM.st.fz
          · split at hys
            · rename_i e2 ys2 hl
              split at hys
              · rename_i heq
                subst heq
                cases hys
                exact lookB_src hM hl hb
              · cases hys
            · cases hys
        have ht' : P.underlying t = some (.slice (X.G.T tt).tid) := by rw [ti.tid]; exact ht
        have hi' : P.info? (X.G.T tt).tid = some ti.i := by rw [ti.tid]; exact ti.hi
        split at h
        · obtain ⟨q, hq, h⟩ := bind_some h
          have hv : ev fr x = .slice none 0 0 := ha
          refine kAppend (T := X.G.T tt) (z := z) ho ht' hi' ti.hz ti.hzf ti.hzs ti.hsz ti.hpos ti.hby (.inl ⟨_, hu⟩) hv OwF.nil rfl hsrc hM.st hq fun v' m' st' ow sm hap => ?_
          have hbv : blkV v' = blkOf v' := blkV_of (by obtain ⟨a, c, rfl⟩ := ow.ow.len; intro r; simp)
          exact push_nxt (v := v') hM st' sm (fun p hp => by rw [hbv]; exact hap p hp Ap.none') h ow (own_rel hM ow.ow.len)
        · rename_i e2 xs
          by_cases heq : e2 = tt
          case neg => rw [dif_neg heq] at h; cases h
          rw [dif_pos heq] at h
          subst heq
          by_cases hne : ys.isEmpty = true
          case pos => rw [if_pos hne] at h; cases h
          rw [if_neg hne] at h
          obtain ⟨q, hq, h⟩ := bind_some h
          obtain ⟨f1, f2, a0, f3⟩ := ha
          refine kAppendF (T := X.G.T e2) (z := z) ho ht' hi' ti.hz ti.hzf ti.hzs ti.hsz ti.hpos ti.hby (.inl ⟨_, hu⟩) f3 (by rw [← f3]; exact SlR.src f1 hM.st.fz) rfl hsrc (by simpa using hne) hM.st hq fun v' m' st' ow sm hap => ?_
          have hbv : blkV v' = blkOf v' := blkV_of (by obtain ⟨a, c, rfl⟩ := ow.ow.len; intro r; simp)
          exact push_nxt (v := v') hM st' sm (fun p hp => by rw [hbv]; exact hap p hp) h ow (own_rel hM ow.ow.len)
        · rename_i i
          split at h
          · rename_i e2 xs w1 hO
            split at h
            · rename_i heq
              subst heq
              obtain ⟨q, hq, h⟩ := bind_some h
              have hob : OwF (X.G.T e2) z e m k xs (ev fr x) := hM.obj i _ _ hO ha.1
              refine kAppend (T := X.G.T e2) ho ht' hi' ti.hz ti.hzf ti.hzs ti.hsz ti.hpos ti.hby (.inl ⟨_, hu⟩) rfl hob rfl hsrc hM.st hq fun v' m' st' ow sm hap => ?_
              have hbv : blkV v' = blkOf v' := blkV_of (by obtain ⟨a, c, rfl⟩ := ow.ow.len; intro r; simp)
              have hbx : blkV (ev fr x) = blkOf (ev fr x) := blkV_of (by obtain ⟨a, c, hh⟩ := hob.ow.len; intro r; rw [hh]; simp)
              have hM1 := hM.kill i
              have hlen : (O.set i .dead).length = O.length := List.length_set
              refine ⟨z, vs ++ [v'], .c (.own O.length), O.set i .dead ++ [.sl e2 q false false], (Inv.set O i (.inl rfl)).trans (Inv.push _ _), Zx.refl z, ext_get, hM1.push (o' := .sl e2 q false false) sm st' (fun j p w hj hw hl => ?_) ow (fun p hp ha2 => by rw [hbv]; exact hap p hp ha2), ?_, h⟩
              · rw [List.getElem?_set] at hj
                split at hj
                · split at hj
                  · cases hj; cases hl
                  · cases hj
                · rename_i hij
                  rw [← hbx]
                  exact hM.ap j i p _ w _ (fun e => hij e.symm) hj hO hl rfl hw ha.1
              · exact own_rel hM ow.ow.len
            · cases h
          · cases h
        · rename_i i e1 lo n
          by_cases hlo : Nat.beq lo 0 = true
          case neg => rw [if_neg hlo] at h; cases h
          rw [if_pos hlo] at h
          obtain rfl := Nat.eq_of_beq_eq_true hlo
          by_cases he1 : e1 = tt
          case neg => rw [if_neg he1] at h; cases h
          rw [if_pos he1] at h
          subst he1
          split at h
          · rename_i e2 xs w1 hO
            split at h
            · rename_i heq
              subst heq
              obtain ⟨q, hq, h⟩ := bind_some h
              obtain ⟨wv, hw1, hcv⟩ := ha
              have hob0 : OwF (X.G.T e2) z e m k xs wv := hM.obj i _ _ hO hw1.1
              have hbx0 : blkV wv = blkOf wv := blkV_of (by obtain ⟨a, c, hh⟩ := hob0.ow.len; intro r; rw [hh]; simp)
              have how := hcv.ow hob0.ow
              have hbx : blkV (ev fr x) = blkOf (ev fr x) := blkV_of (by obtain ⟨a, c, hh⟩ := how.len; intro r; rw [hh]; simp)
              have hob : OwF (X.G.T e2) z e m k (xs.take n) (ev fr x) := ⟨how, fun b hb => hob0.fresh b (by rw [← hbx0, ← hcv.blk, hbx]; exact hb)⟩
              refine kAppend (T := X.G.T e2) ho ht' hi' ti.hz ti.hzf ti.hzs ti.hsz ti.hpos ti.hby (.inl ⟨_, hu⟩) rfl hob rfl hsrc hM.st hq fun v' m' st' ow sm hap => ?_
              have hbv : blkV v' = blkOf v' := blkV_of (by obtain ⟨a, c, rfl⟩ := ow.ow.len; intro r; simp)
              have hM1 := hM.kill i
              refine ⟨z, vs ++ [v'], .c (.own O.length), O.set i .dead ++ [.sl e2 q false false], (Inv.set O i (.inl rfl)).trans (Inv.push _ _), Zx.refl z, ext_get, hM1.push (o' := .sl e2 q false false) sm st' (fun j p w hj hw hl => ?_) ow (fun p hp ha2 => by rw [hbv]; exact hap p hp ha2), ?_, h⟩
              · rw [List.getElem?_set] at hj
                split at hj
                · split at hj
                  · cases hj; cases hl
                  · cases hj
                · rename_i hij
                  rw [← hbx, hcv.blk]
                  exact hM.ap j i p _ w _ (fun e => hij e.symm) hj hO hl rfl hw hw1.1
              · exact own_rel hM ow.ow.len
            · cases h
          · cases h
        · cases h
  · cases h
/-! ### Maps -/
theorem opMap_ok {kt vt : Nat} (ho : o.op = .makeMap t none) (ht : P.underlying t = some (.map kt vt)) (hM : Mm X.G O z e m k vs) (h : K (.c (.own O.length)) (O ++ [.map t kt vt [] false false]) = some r) : StepX P (ev fr) o m fun _ v m' => Nxt X O z e k vs K r v m' := by
  refine kMakeMap (X.G.M t kt vt) ho ht rfl hM.st fun v' m' st' ow sm hap => ?_
  obtain ⟨q, rfl, hq⟩ := ow.ow
  exact push_nxt (v := .map (some q)) hM st' sm hap h ow ⟨new_at hM _, rfl, rfl⟩
theorem opLook_ok {u kt vt : Nat} {es : List (D kt × D vt)} {a : D kt} {mi : MI P X.G kt vt} {ok : Bool} {c : SV D} (ho : o.op = .lookup t x y ok) (ht : P.underlying t = some (.map kt vt)) (hu : P.underlying u = some (.map kt vt)) (hM : Mm X.G O z e m k vs)
    (hx : MpR (X.G.M u kt vt) z es (ev fr x) ∨ OwM (X.G.M u kt vt) z e m k es (ev fr x)) (hy : rel X.G z vs c (ev fr y)) (hk : mi.kget c = some a)
    (h : (AM.lt (@mpGet _ _ mi.dec es a) fun y => if ok = true then K (.tup [.inl (mi.vput (y.getD mi.z0)), .inl (.bool y.isSome)]) O else K (.c (mi.vput (y.getD mi.z0))) O) = some r) : StepX P (ev fr) o m fun _ v m' => Nxt X O z e k vs K r v m' := by
  letI hd := mi.dec
  obtain ⟨w, hw, h⟩ := lt_some h
  have hkv := mi.hkg z vs c a _ hk hy
  have hvp := mi.hvp z vs (w.getD mi.z0)
  cases ok with
  | true =>
    rw [if_pos rfl] at h
    have hrel : rel X.G z vs (.tup [.inl (mi.vput (w.getD mi.z0)), .inl (.bool w.isSome)]) (.tuple #[cellV (tyAgg P vt) (X.G.kc vt (w.getD mi.z0)), .bool w.isSome]) := ⟨[_, _], rfl, hvp, rfl, trivial⟩
    rcases hx with hx | hx
    · exact kLookR (M := X.G.M u kt vt) (a := a) (z0 := mi.z0) ho ht hu mi.K mi.V mi.hi mi.hz rfl hx hM.st rfl hkv hw (if_pos rfl) (Nxt.here hM hrel h)
    · exact kLookO (M := X.G.M u kt vt) (a := a) (z0 := mi.z0) ho ht hu mi.K mi.V mi.hi mi.hz rfl hx rfl hkv hw (if_pos rfl) (Nxt.here hM hrel h)
  | false =>
    rw [if_neg (by simp)] at h
    have hrel : rel X.G z vs (.c (mi.vput (w.getD mi.z0))) (cellV (tyAgg P vt) (X.G.kc vt (w.getD mi.z0))) := hvp
    rcases hx with hx | hx
    · exact kLookR (M := X.G.M u kt vt) (a := a) (z0 := mi.z0) ho ht hu mi.K mi.V mi.hi mi.hz rfl hx hM.st rfl hkv hw (if_neg (by simp)) (Nxt.here hM hrel h)
    · exact kLookO (M := X.G.M u kt vt) (a := a) (z0 := mi.z0) ho ht hu mi.K mi.V mi.hi mi.hz rfl hx rfl hkv hw (if_neg (by simp)) (Nxt.here hM hrel h)
theorem opUpd_ok {u kt vt i : Nat} {es : List (D kt × D vt)} {a : D kt} {b : D vt} {mi : MI P X.G kt vt} {c : SV D} {d : CV D} {w : Operand} (ho : o.op = .mapUpdate t x y w ∨ o.op = .insert t x y w) (ht : P.underlying t = some (.map kt vt)) (hu : P.underlying u = some (.map kt vt)) (hM : Mm X.G O z e m k vs)
    {w1 : Bool} (hO : O[i]? = some (.map u kt vt es false w1)) (hx : vs[i]? = some (ev fr x)) (hy : rel X.G z vs c (ev fr y)) (hw : rel0 X.G z vs d (ev fr w)) (hk : mi.kget c = some a) (hv : mi.vget d = some b)
    (h : (AM.lt (@mpSet _ _ mi.dec es a b) fun es' => K .undef (O.set i (.map u kt vt es' false true))) = some r) : StepX P (ev fr) o m fun _ v m' => Nxt X O z e k vs K r v m' := by
  letI hd := mi.dec
  obtain ⟨es', hes, h⟩ := lt_some h
  have hob : OwM (X.G.M u kt vt) z e m k es (ev fr x) := hM.obj i _ _ hO hx
  refine kMapSet (M := X.G.M u kt vt) (a := a) (b := b) ho ht hu mi.K mi.V rfl hob rfl (mi.hkg z vs c a _ hk hy) rfl (mi.hvg z vs d b _ hv hw) hM.st hes fun m' st' ow sm => ?_
  have hbv : blkV (ev fr x) = mapOf (ev fr x) := by obtain ⟨q, hq, _⟩ := hob.ow; rw [hq]; rfl
  exact turn_nxt hM h hO hx rfl rfl (by rw [hbv]; exact sm) st' ow
/-! ### Function values -/
theorem capOf_ok {s : SV D} {g : Value} {c : Nat × List (CV D)} {O' : List (Ob D)} (hM : Mm X.G O z e m k vs) (hs : rel X.G z vs s g) (h : capOf O s = some (c, O')) : ∃ z', Inv O O' ∧ Zx e.next z z' ∧ Mm X.G O' z' e m k vs ∧ relP X.G z' vs c.2 0 g := by
  cases s with
  | rp t cs off =>
    simp only [capOf] at h
    split at h
    · rename_i h0; subst h0; cases h; exact ⟨z, Inv.refl _, Zx.refl z, hM, hs⟩
    · cases h
  | box i off =>
    simp only [capOf] at h
    obtain ⟨b, hv, hg⟩ := hs
    split at h
    · rename_i t cs fz w1 hO
      split at h
      · rename_i h0
        obtain ⟨h0, _⟩ := h0
        subst h0
        cases h
        have hob := hM.obj i _ _ hO hv
        rw [hg]
        cases fz with
        | true =>
          obtain ⟨b2, ds, he, hc, hr⟩ := hob
          cases he
          have : O.set i (.box t cs true w1) = O := by
            apply List.ext_getElem?
            intro j
            rw [List.getElem?_set]
            split
            · rename_i hij; subst hij; rw [hO, if_pos (List.getElem?_eq_some_iff.1 hO).1]
            · rfl
          rw [this]
          exact ⟨z, Inv.refl _, Zx.refl z, hM, b, 0, ds, rfl, hc, hr⟩
        | false =>
          obtain ⟨b2, ds, he, hbx, hfr, hr⟩ := hob
          cases he
          obtain ⟨z1, k1, k2, k3, k4⟩ := hbx.freeze hfr hM.st
          have hr1 := rels.mono hr k1.le fun _ _ h => h
          exact ⟨z1, Inv.set O i (.inl rfl), k1, hM.frz hO hv rfl rfl k1.le k2 k4 ⟨b, ds, rfl, k3, hr1⟩, b, 0, ds, rfl, k3, hr1⟩
      · cases h
    · cases h
  | _ => cases h
theorem capsOf_ok : ∀ {l : List (SV D)} {gs : List Value} {caps : List (Nat × List (CV D))} {O O' : List (Ob D)} {z : Nat → Blk}, Mm X.G O z e m k vs → L2 (rel X.G z vs) l gs → capsOf l O = some (caps, O') → ∃ z', Inv O O' ∧ Zx e.next z z' ∧ Mm X.G O' z' e m k vs ∧ L2 (fun c g => relP X.G z' vs c.2 0 g) caps gs
  | [], [], caps, O, O', z, hM, _, h => by cases h; exact ⟨z, Inv.refl _, Zx.refl z, hM, trivial⟩
  | s :: l, g :: gs, caps, O, O', z, hM, ⟨h1, h2⟩, h => by
    unfold capsOf at h
    split at h
    · rename_i c O1 hc
      split at h
      · rename_i r O2 hr
        cases h
        obtain ⟨z1, k0, k1, k2, k3⟩ := capOf_ok hM h1 hc
        obtain ⟨z2, g0, g1, g2, g3⟩ := capsOf_ok k2 (L2.mono (fun _ _ h => rel.mono h k1.le fun _ _ h => h) h2) hr
        exact ⟨z2, k0.trans g0, k1.trans g1, g2, relP.mono k3 g1.le fun _ _ h => h, g3⟩
      · cases h
    · cases h
  | [], _ :: _, _, _, _, _, _, h, _ => h.elim
  | _ :: _, [], _, _, _, _, _, h, _ => h.elim
theorem map_rel {xs : List Operand} (hE : ∀ x, rel X.G z vs (sop E x) (ev fr x)) : L2 (rel X.G z vs) (xs.map (sop E)) (xs.map (ev fr)) := by
  induction xs with
  | nil => trivial
  | cons x xs ih => exact ⟨hE x, ih⟩
theorem opFn_ok {f : FuncId} {first cap : Array Operand} {caps : List (Nat × List (CV D))} {O' : List (Ob D)} (ho : o.op = .makeFunc (.func f) first cap) (hf : first.toList = []) (hM : Mm X.G O z e m k vs) (hE : ∀ x, rel X.G z vs (sop E x) (ev fr x)) (hc : capsOf (cap.toList.map (sop E)) O = some (caps, O')) (h : K (.fn f caps) O' = some r) :
    StepX P (ev fr) o m fun _ v m' => Nxt X O z e k vs K r v m' := by
  obtain ⟨z1, g0, g1, g2, g3⟩ := capsOf_ok hM (map_rel hE) hc
  have hf' : first = #[] := by cases first; simp at hf; subst hf; rfl
  subst hf'
  have hst : (cap.map (ev fr)).toList.all storable = true := by
    rw [List.all_eq_true]
    intro v hv
    rw [Array.toList_map] at hv
    have : ∀ (cs : List (Nat × List (CV D))) (gs : List Value), L2 (fun c g => relP X.G z1 vs c.2 0 g) cs gs → ∀ v ∈ gs, storable v = true := by
      intro cs
      induction cs with
      | nil => intro gs hg v hv; cases gs with
        | nil => cases hv
        | cons _ _ => exact hg.elim
      | cons c cs ih => intro gs hg v hv; cases gs with
        | nil => cases hv
        | cons g gs =>
          rcases List.mem_cons.1 hv with rfl | hv
          · obtain ⟨b, o1, ds, he, _⟩ := hg.1; rw [he]; rfl
          · exact ih gs hg.2 v hv
    exact this _ _ g3 v hv
  refine StepX.pure (pFunc ho rfl hst) (Nxt.from g0 g1 (Nxt.here (sv := .fn f caps) g2 ⟨cap.toList.map (ev fr), ?_, g3⟩ h))
  congr 1
  apply Array.ext'
  simp
end
end Go.AM
end
section
set_option linter.unusedSimpArgs false
set_option linter.unusedVariables false
namespace Go.AM
section
variable {P : Program} {D : Nat → Type} {X : Ev P D} {ρ : Type} {z z' : Nat → Blk} {e m m' : Mem} {k : Option Nat} {vs : List Value} {fr : Nat → Value} {E : List (Nat × SV D)} {O : List (Ob D)} {o : Oper} {r : ρ}
variable {x y : Operand} {t u : TypeId} {K : SV D → List (Ob D) → Option ρ}
/-- Memory is changed in one block at most. -/
def Chg (m m' : Mem) (q : Option Nat) : Prop := m.next ≤ m'.next ∧ ∀ b, b < m.next → q ≠ some b → m'.blk b = m.blk b
/-- It is the block of one of these objects, if any. -/
def TgtQ (vs : List Value) (ts : List Nat) (q : Option Nat) : Prop := q = none ∨ ∃ i, i ∈ ts ∧ ∃ v, vs[i]? = some v ∧ q = blkV v
/-- What is asked of the table of calls. -/
def COk (X : Ev P D) : Prop := ∀ (f : Nat) (svs : List (SV D)) (O : List (Ob D)) {ρ : Type} (K : SV D → List (Ob D) → Option ρ) (r : ρ) {z : Nat → Blk} {e m : Mem} {k : Option Nat} {vs : List Value} (args : List Value),
  Mm X.G O z e m k vs → L2 (rel X.G z vs) svs args → X.C f svs O K = some r → CallW P f args.toArray m fun v m' => Nxt X O z e k vs K r v m' ∧ (X.F f svs O = true → m' = m) ∧ ∃ q, Chg m m' q ∧ TgtQ vs (boxesOf svs) q
theorem L2.caps {caps : List (Nat × List (CV D))} {gs : List Value} (h : L2 (fun c g => relP X.G z vs c.2 0 g) caps gs) : L2 (rel X.G z vs) (caps.map fun p => SV.rp p.1 p.2 0) gs := by
  induction caps generalizing gs with
  | nil => cases gs with
    | nil => trivial
    | cons _ _ => exact h.elim
  | cons c caps ih => cases gs with
    | nil => exact h.elim
    | cons g gs => exact ⟨h.1, ih h.2⟩
theorem flat_cells {α : Type} {T : Ty α} {va : α → List Value} (hv : ∀ z x ds, T.rd z x ds → ds = va x) {L : List Value} : ∀ {xs : List α} {o : Nat}, (∀ (i : Nat) (x : α), xs[i]? = some x → ∃ cs, T.rd z x cs ∧ cellsIn L (o + i * T.sz) cs) → (∀ x ∈ xs, (va x).length = T.sz) →
    ∀ (i : Nat) (v : Value), (xs.flatMap va)[i]? = some v → L[o + i]? = some v
  | [], o, _, _, i, v, h => by simp at h
  | x :: xs, o, h, hl, i, v, hi => by
    obtain ⟨cs, h1, h2⟩ := h 0 x rfl
    have := hv _ _ _ h1
    subst this
    have hlx := hl x List.mem_cons_self
    rw [List.flatMap_cons, List.getElem?_append] at hi
    split at hi
    · have := h2 i v hi
      rwa [Nat.zero_mul, Nat.add_zero] at this
    · rename_i hge
      have := flat_cells hv (xs := xs) (o := o + T.sz) (L := L) (fun j y hj => by
        obtain ⟨cs, g1, g2⟩ := h (j + 1) y (by simpa using hj)
        exact ⟨cs, g1, by rw [Nat.add_mul, Nat.one_mul] at g2; rw [show o + T.sz + j * T.sz = o + (j * T.sz + T.sz) by omega]; exact g2⟩) (fun y hy => hl y (List.mem_cons_of_mem _ hy)) _ v hi
      rw [hlx] at this hge
      rw [show o + i = o + T.sz + (i - T.sz) by omega]
      exact this
theorem flat_at {α : Type} {va : α → List Value} {n : Nat} : ∀ {xs : List α}, (∀ x ∈ xs, (va x).length = n) → ∀ (i j : Nat) (x : α) (v : Value), xs[i]? = some x → (va x)[j]? = some v → (xs.flatMap va)[i * n + j]? = some v
  | [], _, i, j, x, v, h, _ => by simp at h
  | y :: xs, hl, 0, j, x, v, h, hj => by
    simp at h
    subst h
    rw [List.flatMap_cons, Nat.zero_mul, Nat.zero_add, List.getElem?_append_left (List.getElem?_eq_some_iff.1 hj).1]
    exact hj
  | y :: xs, hl, i + 1, j, x, v, h, hj => by
    have hy := hl y List.mem_cons_self
    rw [List.flatMap_cons, Nat.add_mul, Nat.one_mul, List.getElem?_append_right (by omega), show i * n + n + j - (va y).length = i * n + j by omega]
    exact flat_at (fun x hx => hl x (List.mem_cons_of_mem _ hx)) i j x v (by simpa using h) hj
theorem flat_len {α : Type} {va : α → List Value} {n : Nat} : ∀ {xs : List α}, (∀ x ∈ xs, (va x).length = n) → (xs.flatMap va).length = xs.length * n
  | [], _ => by simp
  | x :: xs, h => by
    rw [List.flatMap_cons, List.length_append, h x List.mem_cons_self, flat_len fun y hy => h y (List.mem_cons_of_mem _ hy), List.length_cons, Nat.add_mul]; omega
theorem sortG_ok {svs : List (SV D)} {n : Nat} (h : sgB (sortG svs) n = true) : ∃ s, svs = [s, .fn n []] := by
  unfold sortG at h
  split at h
  · rename_i s g
    obtain rfl := Nat.eq_of_beq_eq_true h
    exact ⟨s, rfl⟩
  · cases h
theorem findS_ok {f : Nat} {caps : List (Nat × List (CV D))} {svs : List (SV D)} {si : SI P X.G} : ∀ {l : List (SI P X.G)}, findS X l f caps svs = some si → si.f = f ∧ caps = [] ∧ ∃ s, svs = [s, .fn si.g []]
  | [], h => by cases h
  | s :: l, h => by
    unfold findS at h
    by_cases hc : (Nat.beq s.f f && (caps.isEmpty && sgB (sortG svs) s.g)) = true
    · rw [if_pos hc] at h
      cases h
      simp only [Bool.and_eq_true] at hc
      exact ⟨Nat.eq_of_beq_eq_true hc.1, by simpa using hc.2.1, sortG_ok hc.2.2⟩
    · rw [if_neg hc] at h
      exact findS_ok h
/-- A sort. -/
theorem opSort_ok {f : Nat} {svs : List (SV D)} {si : SI P X.G} {args : List Value} {caps : List (Nat × List (CV D))} (hf : findS X X.S f caps svs = some si) (hM : Mm X.G O z e m k vs) (hL : L2 (rel X.G z vs) svs args) (h : opSort X si svs O K = some r) :
    CallW P f args.toArray m fun v m' => Nxt X O z e k vs K r v m' ∧ ∃ q, Chg m m' q ∧ TgtQ vs (ownsOf svs) q := by
  obtain ⟨rfl, _, s, rfl⟩ := findS_ok hf
  match args, hL with
  | [a1, a2], ⟨h1, ⟨gs, h2, h3⟩, _⟩ =>
    have hgs : gs = [] := by cases gs with
      | nil => rfl
      | cons _ _ => exact h3.elim
    subst hgs
    subst h2
    unfold opSort at h
    split at h
    · rename_i s' l hs
      cases hs
      have h1 : a1 = .slice none 0 0 := h1
      subst h1
      exact CallW.sort si.ok (.none none 0 si.g si.h0 rfl) ⟨Nxt.here (sv := .tup []) hM ⟨[], rfl, trivial⟩ h, none, ⟨Nat.le_refl _, fun _ _ _ => rfl⟩, .inl rfl⟩
    · rename_i i l hs
      cases hs
      split at h
      · rename_i t xs w ho
        split at h
        · rename_i he
          subst he
          obtain ⟨ys, hy, h⟩ := bind_some h
          have hob : OwF (X.G.T si.e) z e m k xs a1 := hM.obj i _ a1 ho h1.1
          have hvl : ∀ x ∈ xs, (si.va x).length = (X.G.T si.e).sz := fun x _ => (X.G.T si.e).len z x _ (si.hr z x)
          have hvl2 : ∀ x ∈ ys, (si.va x).length = (X.G.T si.e).sz := fun x _ => (X.G.T si.e).len z x _ (si.hr z x)
          have hn := si.hn xs ys hy
          have hfl : ∀ l : List (D si.e), (l.flatMap si.va).all flat0 = true := fun l => by
            rw [List.all_eq_true]
            intro v hv
            obtain ⟨x, _, hx⟩ := List.mem_flatMap.1 hv
            exact List.all_eq_true.1 (si.hf x) v hx
          rcases hob.ow with ⟨rfl, rfl⟩ | ⟨b, f0, L, c, rfl, g1, g2, g3, g4, g5, g6⟩
          · have hy0 : ys = [] := List.eq_nil_of_length_eq_zero (by rw [hn]; rfl)
            subst hy0
            refine CallW.sort si.ok (.none none 0 si.g si.h0 rfl) ⟨⟨z, vs, .tup [], _, Inv.set O i (.inr rfl), Zx.refl z, fun _ _ h => h, ?_, ⟨[], rfl, trivial⟩, h⟩, none, ⟨Nat.le_refl _, fun _ _ _ => rfl⟩, .inl rfl⟩
            exact hM.turn (m' := m) ho h1.1 rfl ⟨Nat.le_refl _, hM.st.dead, fun _ _ _ => rfl⟩ hM.st hob
          · by_cases hl0 : xs.length = 0
            · have hx0 : xs = [] := List.eq_nil_of_length_eq_zero hl0
              subst hx0
              have hy0 : ys = [] := List.eq_nil_of_length_eq_zero (by rw [hn]; rfl)
              subst hy0
              refine CallW.sort si.ok (.none _ c si.g si.h0 rfl) ⟨⟨z, vs, .tup [], _, Inv.set O i (.inr rfl), Zx.refl z, fun _ _ h => h, ?_, ⟨[], rfl, trivial⟩, h⟩, none, ⟨Nat.le_refl _, fun _ _ _ => rfl⟩, .inl rfl⟩
              exact hM.turn (m' := m) ho h1.1 rfl ⟨Nat.le_refl _, hM.st.dead, fun _ _ _ => rfl⟩ hM.st hob
            · have hlF := flat_len hvl
              have hlF' := flat_len hvl2
              have hlen : (setN L f0 (ys.flatMap si.va)).length = L.length := setN_length _ _ _
              have hq := hob.hq b rfl
              have hsame : Same m (m.put b (.own (setN L f0 (ys.flatMap si.va)) (X.G.T si.e).tid)) (some b) := by
                refine ⟨Nat.le_refl _, fun c hc => ?_, fun c hc hk => ?_⟩
                · have hc : m.next ≤ c := hc
                  simp only [Mem.put]
                  rw [if_neg (by omega)]
                  exact hM.st.dead c hc
                · simp only [Mem.put]
                  rw [if_neg (fun hcb => hk (by rw [hcb]))]
              refine CallW.sort si.ok (.row b f0 xs.length c si.g L (X.G.T si.e).tid (xs.flatMap si.va) (ys.flatMap si.va) (si.hs xs ys hy (by omega)) rfl (by omega) g1 ?_ (by rw [hlF]; exact g4) (by rw [hlF, hlF', hn]) (hfl _) (hfl _)) ⟨⟨z, vs, .tup [], _, Inv.set O i (.inr rfl), Zx.refl z, fun _ _ h => h, ?_, ⟨[], rfl, trivial⟩, h⟩, some b, ⟨Nat.le_refl _, hsame.blk⟩, .inr ⟨i, by simp [ownsOf], _, h1.1, rfl⟩⟩
              · refine List.ext_getElem? fun j => ?_
                rw [List.getElem?_take]
                split
                · rename_i hj
                  rw [List.getElem?_drop]
                  have hv := List.getElem?_eq_getElem hj
                  rw [hv]
                  exact flat_cells si.hv (fun i x hx => g6 i x hx) hvl j _ hv
                · rename_i hj
                  rw [List.getElem?_eq_none (by omega)]
              · refine hM.turn ho h1.1 rfl hsame (hM.st.put _ g3 g2 hq.2) ⟨.inr ⟨b, f0, setN L f0 (ys.flatMap si.va), c, by rw [hn], by simp [Mem.put], g2, g3, by rw [hn, hlen]; exact g4, by rw [hn, hlen]; exact g5, fun i x hx => ?_⟩, hob.fresh⟩
                refine ⟨si.va x, si.hr z x, fun j v hj => ?_⟩
                have hk := flat_at hvl2 i j x v hx hj
                rw [setN_get _ _ _ _ (by rw [hlF', hn]; exact g4)]
                have hlt := (List.getElem?_eq_some_iff.1 hk).1
                rw [if_pos (by omega), show f0 + i * (X.G.T si.e).sz + j - f0 = i * (X.G.T si.e).sz + j by omega]
                exact hk
        · cases h
      · cases h
    · cases h
  | [], h => exact h.elim
  | [_], ⟨_, h⟩ => exact h.elim
  | _ :: _ :: _ :: _, ⟨_, _, h⟩ => exact h.elim
theorem opCall_ok (hC : COk X) {c : Call} (ho : o.op = .call c) (hM : Mm X.G O z e m k vs) (hE : ∀ x, rel X.G z vs (sop E x) (ev fr x)) (h : opCall X c E O K = some r) : StepX P (ev fr) o m fun _ v m' => Nxt X O z e k vs K r v m' := by
  obtain ⟨ce, as, ts⟩ := c
  cases ce with
  | invoke r m => cases h
  | value f =>
    simp only [opCall] at h
    split at h
    · rename_i f' caps hf
      have hfr := hE f
      rw [hf] at hfr
      obtain ⟨gs, hfv, hg⟩ := hfr
      split at h
      · rename_i si hsi
        have hcaps : caps = [] := (findS_ok hsi).2.1
        subst hcaps
        have hgs : gs = [] := by cases gs with
          | nil => rfl
          | cons _ _ => exact hg.elim
        subst hgs
        refine StepX.call (gCalleeV (args := (as.toList.map (ev fr)).toArray) (caps := #[]) ho hfv (by apply Array.ext'; simp) rfl) ?_
        have := (opSort_ok hsi hM (map_rel hE) h).mono fun _ _ h => h.1
        simpa using this
      refine StepX.call (gCalleeV (args := (as.toList.map (ev fr)).toArray) (caps := gs.toArray) ho hfv (by apply Array.ext'; simp) rfl) ?_
      have := (hC f' _ O K r (as.toList.map (ev fr) ++ gs) hM ((map_rel hE).append hg.caps) h).mono fun _ _ h => h.1
      simpa using this
    · cases h
  | builtin b =>
    cases b with
    | len =>
      simp only [opCall] at h
      split at h
      · rename_i x t ha ht
        have ha' : as = #[x] := by cases as; simp at ha; subst ha; rfl
        have ht' : ts = #[t] := by cases ts; simp at ht; subst ht; rfl
        subst ha' ht'
        exact opLen_ok (ts := #[t]) ho hM (hE x) h
      · cases h
    | append =>
      simp only [opCall] at h
      split at h
      · rename_i x y t u ha ht
        have ha' : as = #[x, y] := by cases as; simp at ha; subst ha; rfl
        have ht' : ts = #[t, u] := by cases ts; simp at ht; subst ht; rfl
        subst ha' ht'
        exact opApp_ok ho hM (hE x) (hE y) h
      · cases h
    | max =>
      simp only [opCall] at h
      split at h
      · rename_i x y ha
        have ha' : as = #[x, y] := by cases as; simp at ha; subst ha; rfl
        subst ha'
        have hx := hE x
        have hy := hE y
        split at h
        · rename_i k1 a k2 b h1 h2
          rw [h1] at hx
          rw [h2] at hy
          split at h
          · rename_i hk
            subst hk
            exact pt_here hM h (pMax2 ho hx hy) rfl
          · cases h
        · cases h
      · cases h
    | min =>
      simp only [opCall] at h
      split at h
      · rename_i x y ha
        have ha' : as = #[x, y] := by cases as; simp at ha; subst ha; rfl
        subst ha'
        have hx := hE x
        have hy := hE y
        split at h
        · rename_i k1 a k2 b h1 h2
          rw [h1] at hx
          rw [h2] at hy
          split at h
          · rename_i hk
            subst hk
            exact pt_here hM h (pMin2 ho hx hy) rfl
          · cases h
        · cases h
      · cases h
    | _ => cases h
theorem lookM_ok {s : SV D} {v : Value} {p : LM D} (hM : Mm X.G O z e m k vs) (h : lookM O s = some p) (hv : rel X.G z vs s v) : MpR (X.G.M p.u p.kt p.vt) z p.es v ∨ OwM (X.G.M p.u p.kt p.vt) z e m k p.es v := by
  unfold lookM at h
  split at h
  · cases h; exact .inl hv
  · split at h
    · rename_i u kt vt es fz w1 ho
      cases h
      have hob := hM.obj _ _ v ho hv.1
      cases fz with
      | true => exact .inl hob
      | false => exact .inr hob
    · cases h
  · cases h
theorem op1_ok (hC : COk X) {op : Op} (ho : o.op = op) (hM : Mm X.G O z e m k vs) (hE : ∀ x, rel X.G z vs (sop E x) (ev fr x)) (h : op1 X op E O K = some r) : StepX P (ev fr) o m fun _ v m' => Nxt X O z e k vs K r v m' := by
  cases op with
  | move x => exact pt_here hM h (pMove ho rfl) (hE x)
  | assign x => exact pt_here hM h (pAssign ho rfl) (hE x)
  | nilCheck x =>
    have hx := hE x
    simp only [op1] at h
    split at h
    · rename_i i off hs
      have hx' := hx
      rw [hs] at hx'
      obtain ⟨b, _, hv⟩ := hx'
      exact pt_here hM h (by rw [hv]; exact .nilCheck x _ ho hv) hx
    · rename_i i hs
      have hx' := hx
      rw [hs] at hx'
      obtain ⟨b, l, _, hv⟩ := hx'
      exact pt_here hM h (by rw [hv]; exact .nilCheck x _ ho hv) hx
    · rename_i i e1 ix off hs
      have hx' := hx
      rw [hs] at hx'
      obtain ⟨b, f0, l, c, _, hv⟩ := hx'
      exact pt_here hM h (by rw [hv]; exact .nilCheck x _ ho hv) hx
    · rename_i t cs off hs
      have hx' := hx
      rw [hs] at hx'
      obtain ⟨b, o1, ds, hv, _⟩ := hx'
      exact pt_here hM h (by rw [hv]; exact .nilCheck x _ ho hv) hx
    · cases h
  | extract x i =>
    have hx := hE x
    simp only [op1] at h
    split at h
    · rename_i l hs
      rw [hs] at hx
      obtain ⟨ds, hv, hl⟩ := hx
      split at h
      · rename_i c hc
        obtain ⟨w, hw, hr⟩ := hl.get i _ hc
        exact pt_here hM h (pExtract ho hv hw) hr
      · rename_i p hc
        obtain ⟨w, hw, hr⟩ := hl.get i _ hc
        exact pt_here hM h (pExtract ho hv hw) hr
      · cases h
    · cases h
  | pick c a b =>
    have hc := hE c
    simp only [op1] at h
    split at h
    · rename_i hs
      rw [hs] at hc
      exact pt_here hM h (pPick (t := true) ho hc (if_pos rfl)) (hE a)
    · rename_i hs
      rw [hs] at hc
      exact pt_here hM h (pPick (t := false) ho hc (if_neg (by simp))) (hE b)
    · cases h
  | binOp op t x y u =>
    simp only [op1] at h
    have hx := hE x
    have hy := hE y
    split at h
    · rename_i t1 c1 t2 c2 h1 h2
      rw [h1] at hx
      rw [h2] at hy
      obtain ⟨c, v, hK, hp, hr⟩ := eqA_ok ho hx hy h
      exact pt_here hM hK hp hr
    · obtain ⟨c, v, hK, hp, hr⟩ := binX_ok ho hM hx hy h
      exact pt_here hM hK hp hr
  | unOp op t x =>
    have hx := hE x
    cases op with
    | not =>
      simp only [op1] at h
      split at h
      · rename_i b hs
        rw [hs] at hx
        exact pt_here hM h (pNot ho hx) rfl
      · cases h
    | neg =>
      simp only [op1] at h
      split at h
      · rename_i kk a hs
        rw [hs] at hx
        exact pt_here hM h (pNeg ho hx) rfl
      · cases h
    | _ => simp [op1] at h
  | convert s t x => exact opConv_ok ho hM (hE x) h
  | indexAddr t x y => exact opIdx_ok ho hM (hE x) (hE y) h
  | fieldAddr t x n => exact opFld_ok ho hM (hE x) h
  | load t x => exact opLoad_ok ho hM (hE x) h
  | store t x y => exact opStore_ok ho hM (hE x) (hE y) h
  | alloc t => exact opAlloc_ok ho hM h
  | box t x =>
    simp only [op1] at h
    split at h
    · rename_i i cs hi hc
      split at h
      · rename_i hl
        exact opBox_ok ho hM (hE x) hi hc hl h
      · cases h
    · cases h
  | makeSlice t x y =>
    have hx := hE x
    simp only [op1] at h
    split at h
    · rename_i tt kk n ht hs
      rw [hs] at hx
      split at h
      · rename_i ti hI hxy
        exact opMake_ok ho ht hM hx hxy h
      · cases h
    · cases h
  | buildSlice t l ps =>
    simp only [op1] at h
    split at h
    · rename_i tt ht
      split at h
      · rename_i ti hI
        exact opBuild_ok ho ht hM hE h
      · cases h
    · cases h
  | build t ps =>
    simp only [op1] at h
    split at h
    · rename_i fs ti ht hI
      split at h
      · rename_i hp
        split at h
        · rename_i cs hc
          exact opStruct_ok ho ht hM hE hp hc h
        · cases h
      · cases h
    · cases h
  | slice t x lo hi mx =>
    cases mx with
    | none => exact opCut'_ok ho hM hE (hE x) h
    | some mx =>
      cases lo with
      | some _ => simp [op1] at h
      | none =>
        cases hi with
        | none => simp [op1] at h
        | some y => exact opCut3_ok ho hM hE h
  | index t x y =>
    have hx := hE x
    have hy := hE y
    simp only [op1] at h
    split at h
    · rename_i s kk n ht h1 h2
      rw [h1] at hx
      rw [h2] at hy
      obtain ⟨c, hc, h⟩ := bind_some h
      exact kIndexS ho ht hx hy hc (Nxt.here (sv := .c (.int .u8 (UInt8.toNat c : Int))) hM rfl h)
    · cases h
  | makeFunc fn first cap =>
    cases fn with
    | func f =>
      simp only [op1] at h
      split at h
      · rename_i caps O1 hf hc
        exact opFn_ok ho hf hM hE hc h
      · cases h
    | _ => simp [op1] at h
  | makeMap t rs =>
    cases rs with
    | none =>
      simp only [op1] at h
      split at h
      · rename_i kt vt ht
        exact opMap_ok ho ht hM h
      · cases h
    | some _ => simp [op1] at h
  | lookup t x y ok =>
    have hx := hE x
    have hy := hE y
    simp only [op1] at h
    split at h
    · rename_i u kt vt es hl
      have hm := lookM_ok hM hl hx
      split at h
      · rename_i k1 v1 k2 v2 ht hu
        split at h
        · rename_i heq
          obtain ⟨rfl, rfl, rfl, rfl⟩ := heq
          split at h
          · rename_i mi hJ
            split at h
            · rename_i a ha
              exact opLook_ok ho ht hu hM hm hy ha h
            · cases h
          · cases h
        · cases h
      · cases h
    · cases h
  | mapUpdate t x y w =>
    have hx := hE x
    have hy := hE y
    have hw := hE w
    simp only [op1] at h
    split at h
    · rename_i i d h1 h3
      rw [h1] at hx
      rw [h3] at hw
      split at h
      · rename_i u kt vt es w1 hO
        split at h
        · rename_i k1 v1 k2 v2 ht hu
          split at h
          · rename_i heq
            obtain ⟨rfl, rfl, rfl, rfl⟩ := heq
            split at h
            · rename_i mi hJ
              split at h
              · rename_i a b ha hb
                exact opUpd_ok (.inl ho) ht hu hM hO hx.1 hy hw ha hb h
              · cases h
            · cases h
          · cases h
        · cases h
      · cases h
    · cases h
  | insert t x y w =>
    have hx := hE x
    have hy := hE y
    have hw := hE w
    simp only [op1] at h
    split at h
    · rename_i i d h1 h3
      rw [h1] at hx
      rw [h3] at hw
      split at h
      · rename_i u kt vt es w1 hO
        split at h
        · rename_i k1 v1 k2 v2 ht hu
          split at h
          · rename_i heq
            obtain ⟨rfl, rfl, rfl, rfl⟩ := heq
            split at h
            · rename_i mi hJ
              split at h
              · rename_i a b ha hb
                exact opUpd_ok (.inr ho) ht hu hM hO hx.1 hy hw ha hb h
              · cases h
            · cases h
          · cases h
        · cases h
      · cases h
    · cases h
  | call c => exact opCall_ok hC ho hM hE h
  | _ => simp [op1] at h
end
end Go.AM
end
section
set_option linter.unusedSimpArgs false
set_option linter.unusedVariables false
namespace Go.AM
section
variable {P : Program} {D : Nat → Type} {X : Ev P D} {ρ : Type} {z z' : Nat → Blk} {e m m' : Mem} {k : Option Nat} {vs vs' : List Value} {fr : Nat → Value} {E : List (Nat × SV D)} {O O' : List (Ob D)} {o : Oper} {r : ρ}
theorem ite_some {α : Type} {p : Prop} [Decidable p] {a : Option α} {x : α} (h : (if p then a else none) = some x) : p ∧ a = some x := by
  split at h
  · exact ⟨‹_›, h⟩
  · cases h
theorem Chg.refl (m : Mem) : Chg m m none := ⟨Nat.le_refl _, fun _ _ _ => rfl⟩
theorem Chg.push (m : Mem) (Y : Blk) : Chg m (m.push Y) none := ⟨Nat.le_succ _, fun b hb _ => if_neg (by omega)⟩
theorem Chg.put (m : Mem) (c : Nat) (Y : Blk) : Chg m (m.put c Y) (some c) := ⟨Nat.le_refl _, fun b hb hn => if_neg (fun h => hn (by rw [h]))⟩
theorem Chg.any (h : Chg m m' none) (q : Option Nat) : Chg m m' q := ⟨h.1, fun b hb _ => h.2 b hb (by simp)⟩
/-- A step, with what is known of it. -/
theorem StepX.monoE {ρ : Operand → Value} {K K' : Tag → Value → Mem → Prop} (h : StepX P ρ o m K)
    (h1 : ∀ v, PureR P ρ o v → (∃ t, K t v m) → K' .pure v m) (h2 : ∀ v, ReadR P ρ o m v → K (.read fun m => ReadR P ρ o m v) v m → K' (.read fun m => ReadR P ρ o m v) v m)
    (h3 : ∀ Y v, NewR P ρ o m.next Y v → K .new v (m.push Y) → K' .new v (m.push Y)) (h4 : ∀ n v m', EffR P (callR P n) ρ o m v m' → K .eff v m' → K' .eff v m') : StepX P ρ o m K' := by
  rcases h with ⟨v, h, g⟩ | ⟨v, I, h, g⟩ | ⟨v, h, g⟩ | ⟨Y, v, h, g⟩ | ⟨n, v, m', h, g⟩
  · exact .inl ⟨v, h, h1 v h ⟨_, g⟩⟩
  · exact .inl ⟨v, h, h1 v h ⟨_, g⟩⟩
  · exact .inr (.inr (.inl ⟨v, h, h2 v h g⟩))
  · exact .inr (.inr (.inr (.inl ⟨Y, v, h, h3 Y v h g⟩)))
  · exact .inr (.inr (.inr (.inr ⟨n, v, m', h, h4 n v m' h g⟩)))
/-! ### Effects -/
/-- The block that an effect changes. -/
theorem eff_chg {C : FuncId → Array Value → Mem → Value → Mem → Prop} {v : Value} (hE : ∀ x, rel X.G z vs (sop E x) (ev fr x)) (h : EffR P C (ev fr) o m v m') {ts : List Nat} (ht : tgtOf X E o.op = some ts)
    (hv : ∀ x as tys, o.op ≠ .call { callee := .value x, args := as, argTypes := tys }) : ∃ q, Chg m m' q ∧ TgtQ vs ts q := by
  cases h with
  | store t x y b off i L e h hx hi hm hv hs hl =>
    simp only [tgtOf, h] at ht
    have hr := hE x
    split at ht
    · rename_i j p hs
      cases ht
      rw [hs] at hr
      obtain ⟨b', g1, g2⟩ := hr
      rw [hx] at g2; cases g2
      exact ⟨_, Chg.put m b _, .inr ⟨j, by simp, _, g1, rfl⟩⟩
    · rename_i j u ix p hs
      cases ht
      rw [hs] at hr
      obtain ⟨b', f0, l, c, g1, g2⟩ := hr
      rw [hx] at g2; cases g2
      exact ⟨_, Chg.put m b _, .inr ⟨j, by simp, _, g1, rfl⟩⟩
    · cases ht
  | call f args v m' h hC =>
    obtain ⟨x, as, tys, first, cap, h, _⟩ := h
    exact absurd h (hv x as tys)
  | appendNone x y t u e i a l c h _ _ _ _ _ _ _ _ => exact ⟨none, Chg.refl _, .inl rfl⟩
  | appendNew x y t u e i z a l c old new h _ _ _ _ _ _ _ _ _ _ _ _ _ _ _ => exact ⟨none, Chg.push _ _, .inl rfl⟩
  | appendIn x y t u e i b off l c L new h _ _ _ hx _ hcl hmL _ hnl _ =>
    simp only [tgtOf, h] at ht
    have hr := hE x
    split at ht
    · rename_i hs
      rw [hs] at hr
      have hr : ev fr x = .slice none 0 0 := hr
      rw [hx] at hr; cases hr
    · rename_i j hs
      cases ht
      rw [hs] at hr
      exact ⟨_, Chg.put m b _, .inr ⟨j, by simp, _, hr.1, by rw [hx]; rfl⟩⟩
    · rename_i j _ _ _ hs
      cases ht
      rw [hs] at hr
      obtain ⟨w, g1, g2⟩ := hr
      exact ⟨_, Chg.put m b _, .inr ⟨j, by simp, _, g1.1, by rw [← g2.blk, hx]; rfl⟩⟩
    · rename_i hs
      cases ht
      rw [hs] at hr
      obtain ⟨_, _, a, ha⟩ := hr
      rw [hx] at ha
      cases ha
      have h0 : lenV (ev fr y) = 0 := by omega
      have hnil : new = [] := List.eq_nil_of_length_eq_zero (by rw [hnl, h0, Nat.zero_mul])
      subst hnil
      refine ⟨none, ⟨Nat.le_refl _, fun c _ _ => ?_⟩, .inl rfl⟩
      simp only [Mem.put, setN]
      split
      · rename_i hcb; rw [hcb, hmL]
      · rfl
    · cases ht
  | append x y t u e i z b off l L new h _ _ _ _ _ _ _ hx _ _ _ _ _ _ =>
    simp only [tgtOf, h] at ht
    have hr := hE x
    have hc : Chg m ((m.put b .dead).push (.own ((L.drop off).take (l * i.size) ++ new) e)) (some b) := by
      have := Chg.put m b .dead
      exact ⟨Nat.le_succ _, fun c hc hn => by rw [show ((m.put b .dead).push _).blk c = (m.put b .dead).blk c from if_neg (by show c ≠ m.next; omega)]; exact this.2 c hc hn⟩
    split at ht
    · rename_i hs
      rw [hs] at hr
      have hr : ev fr x = .slice none 0 0 := hr
      rw [hx] at hr; cases hr
    · rename_i j hs
      cases ht
      rw [hs] at hr
      exact ⟨_, hc, .inr ⟨j, by simp, _, hr.1, by rw [hx]; rfl⟩⟩
    · rename_i j _ _ _ hs
      cases ht
      rw [hs] at hr
      obtain ⟨w, g1, g2⟩ := hr
      exact ⟨_, hc, .inr ⟨j, by simp, _, g1.1, by rw [← g2.blk, hx]; rfl⟩⟩
    · rename_i hs
      cases ht
      rw [hs] at hr
      obtain ⟨_, hB, a, ha⟩ := hr
      rw [hx] at ha
      injection ha with _ h1 h2
      rw [← h2] at hB
      exact absurd hB (Nat.lt_irrefl _)
    · cases ht
  | copy x y t u e i b off l c L cs h _ _ _ _ _ _ _ => simp [tgtOf, h] at ht
  | mapUpdate xt x kx vx u kt vt b L kc vc F F' good h _ _ hx _ _ _ _ _ _ _ _ _ _ _ _ _ _ _ =>
    have hr := hE x
    have ht : (match sop E x with | .c (.own j) => some [j] | _ => none) = some ts := by rcases h with h | h <;> (rw [h] at ht; exact ht)
    split at ht
    · rename_i j hs
      cases ht
      rw [hs] at hr
      exact ⟨_, Chg.put m b _, .inr ⟨j, by simp, _, hr.1, by rw [hx]; rfl⟩⟩
    · cases ht
theorem boxesOf_rp {caps : List (Nat × List (CV D))} : ∀ {l : List (SV D)}, boxesOf (l ++ caps.map fun p => SV.rp p.1 p.2 0) = boxesOf l
  | [] => by
    induction caps with
    | nil => rfl
    | cons c caps ih => exact ih
  | s :: l => by
    cases s <;> simp only [List.cons_append, boxesOf, boxesOf_rp (l := l)]
theorem opT_ok (hC : COk X) {K : SV D → List (Ob D) → Option ρ} (hM : Mm X.G O z e m k vs) (hE : ∀ x, rel X.G z vs (sop E x) (ev fr x)) (hef : isEff o.op = true) {ts : List Nat} (ht : tgtOf X E o.op = some ts) (h : op1 X o.op E O K = some r) :
    StepX P (ev fr) o m fun _ v m' => Nxt X O z e k vs K r v m' ∧ (quietOf X E O o.op = true → m' = m) ∧ ∃ q, Chg m m' q ∧ TgtQ vs ts q := by
  have nq : (∀ x as tys, o.op ≠ .call { callee := .value x, args := as, argTypes := tys }) → ∀ {p : Prop}, quietOf X E O o.op = true → p := fun hv p hq => by
    unfold quietOf at hq
    split at hq
    · rename_i c hc
      split at hq
      · rename_i f hf
        obtain ⟨ce, as, ts⟩ := c
        exact absurd (by rw [hc]; simp only at hf; rw [hf]) (hv f as ts)
      · cases hq
    · cases hq
  have gen : (∀ x as tys, o.op ≠ .call { callee := .value x, args := as, argTypes := tys }) → StepX P (ev fr) o m fun _ v m' => Nxt X O z e k vs K r v m' ∧ (quietOf X E O o.op = true → m' = m) ∧ ∃ q, Chg m m' q ∧ TgtQ vs ts q := fun hv =>
    (op1_ok hC rfl hM hE h).monoE (fun v _ ⟨_, hk⟩ => ⟨hk, fun _ => rfl, none, Chg.refl _, .inl rfl⟩) (fun v _ hk => ⟨hk, fun _ => rfl, none, Chg.refl _, .inl rfl⟩) (fun Y v _ hk => ⟨hk, nq hv, none, Chg.push _ _, .inl rfl⟩) fun n v m' he hk => ⟨hk, nq hv, eff_chg hE he ht hv⟩
  by_cases hv : ∀ x as tys, o.op ≠ .call { callee := .value x, args := as, argTypes := tys }
  · exact gen hv
  · simp only [Classical.not_forall, ne_eq, Classical.not_not] at hv
    obtain ⟨f, as, tys, ho⟩ := hv
    rw [ho] at h ht
    simp only [tgtOf] at ht
    have h : opCall X { callee := .value f, args := as, argTypes := tys } E O K = some r := h
    simp only [opCall] at h
    split at h
    · rename_i f' caps hf
      rw [hf] at ht
      simp only at ht
      have hfr := hE f
      rw [hf] at hfr
      obtain ⟨gs, hfv, hg⟩ := hfr
      split at h
      · rename_i si hsi
        rw [hsi] at ht
        cases ht
        have hcaps : caps = [] := (findS_ok hsi).2.1
        subst hcaps
        have hgs : gs = [] := by cases gs with
          | nil => rfl
          | cons _ _ => exact hg.elim
        subst hgs
        refine StepX.call (gCalleeV (args := (as.toList.map (ev fr)).toArray) (caps := #[]) ho hfv (by apply Array.ext'; simp) rfl) ?_
        have hq : quietOf X E O o.op = false := by
          rw [ho]
          simp only [quietOf, hf, hsi]
        rw [hq]
        have := (opSort_ok hsi hM (map_rel hE) h).mono fun v m' (h : _ ∧ _) => (⟨h.1, fun hh => Bool.noConfusion hh, h.2⟩ : Nxt X O z e k vs K r v m' ∧ (false = true → m' = m) ∧ ∃ q, Chg m m' q ∧ TgtQ vs (ownsOf (as.toList.map (sop E))) q)
        simpa using this
      rename_i hsn
      rw [hsn] at ht
      cases ht
      refine StepX.call (gCalleeV (args := (as.toList.map (ev fr)).toArray) (caps := gs.toArray) ho hfv (by apply Array.ext'; simp) rfl) ?_
      have := hC f' _ O K r (as.toList.map (ev fr) ++ gs) hM ((map_rel hE).append hg.caps) h
      rw [boxesOf_rp] at this
      have hq : quietOf X E O o.op = X.F f' (as.toList.map (sop E) ++ caps.map fun p => .rp p.1 p.2 0) O := by
        rw [ho]
        simp only [quietOf, hf, hsn]
      rw [hq]
      simpa using this
    · cases h
/-! ### Reads -/
/-- A read that depends on one block at most. -/
def Stb (m : Mem) (I : Mem → Prop) (ob : Option Nat) : Prop := ∀ m', (∀ b, ob = some b → m'.blk b = m.blk b) → I m'
theorem load_stb {b off : Nat} {v : Value} (h : m.load b off = some v) (hb : m'.blk b = m.blk b) : m'.load b off = some v := by
  unfold Mem.load at h ⊢
  rw [hb]; exact h
theorem rdN_stb {b : Nat} (hb : m'.blk b = m.blk b) : ∀ (n off : Nat), rdN m' b off n = rdN m b off n
  | 0, _ => rfl
  | n + 1, off => by
    have : ∀ o, m'.load b o = m.load b o := fun o => by unfold Mem.load; rw [hb]
    simp only [rdN, this, rdN_stb hb n]
/-- What is known of a read's block. -/
def SrcAt (z : Nat → Blk) (vs : List Value) (ob : Option Nat) : RdS → Prop
  | .nr => False
  | .lost => False
  | .fz => ∀ b, ob = some b → z b ≠ .dead
  | .ob j => ∀ b, ob = some b → ∃ u, vs[j]? = some u ∧ blkV u = some b
def SrcB (z : Nat → Blk) (vs : List Value) (b : Nat) : RdS → Prop
  | .nr => False
  | .lost => False
  | .fz => z b ≠ .dead
  | .ob j => ∃ u, vs[j]? = some u ∧ blkV u = some b
theorem SrcB.at {b : Nat} {s : RdS} (h : SrcB z vs b s) : SrcAt z vs (some b) s := by
  cases s with
  | nr => exact h
  | lost => exact h
  | fz => intro c hc; cases hc; exact h
  | ob j => intro c hc; cases hc; exact h
theorem src_ok {s : RdS} {v : Value} (hM : Mm X.G O z e m k vs) (hE : ∀ x, rel X.G z vs (sop E x) (ev fr x)) (hs : srcOf E o.op = some s) (h : ReadR P (ev fr) o m v) :
    ∃ ob, Stb m (fun m => ReadR P (ev fr) o m v) ob ∧ SrcAt z vs ob s := by
  have fzl : ∀ {t : Nat} {c : CV D} {cs : List (CV D)} {off b off' : Nat}, rel X.G z vs (.rp t (c :: cs) off) (.pointer (some ⟨b, off', none⟩)) → z b ≠ .dead := by
    rintro t c cs off b off' ⟨b', o', ds, h1, h2, h3⟩
    cases h1
    cases ds with
    | nil => exact h3.elim
    | cons d ds =>
      have := h2 0 d rfl
      intro hd
      unfold ldz at this
      rw [hd] at this
      cases this
  have ptr : ∀ {x : Operand} {b off : Nat}, ev fr x = .pointer (some ⟨b, off, none⟩) → (match sop E x with | .rp _ (_ :: _) _ => some RdS.fz | .box j _ => some (.ob j) | .el j _ _ _ => some (.ob j) | _ => none) = some s → SrcB z vs b s := by
    intro x b off hx hs
    have hr := hE x
    split at hs
    · rename_i h1
      cases hs
      rw [h1, hx] at hr
      exact fzl hr
    · rename_i h1
      cases hs
      rw [h1, hx] at hr
      obtain ⟨b', g1, g2⟩ := hr
      cases g2
      exact ⟨_, g1, rfl⟩
    · rename_i h1
      cases hs
      rw [h1, hx] at hr
      obtain ⟨b', f0, l, c, g1, g2⟩ := hr
      cases g2
      exact ⟨_, g1, rfl⟩
    · cases hs
  have sl : ∀ {t : Nat} {xs : List (D t)} {b off l c : Nat}, SlR (X.G.T t) z xs (.slice (some ⟨b, off, none⟩) l c) → z b ≠ .dead := by
    rintro t xs b off l c (⟨h1, _⟩ | ⟨b', o', c', h1, h2, _⟩)
    · cases h1
    · cases h1; exact h2
  cases h with
  | load t x b off d v h hx ht hd hv =>
    simp only [srcOf, h] at hs
    exact ⟨some b, fun m' hm => .load t x b off d v h hx ht hd (load_stb hv (hm b rfl)), (ptr hx hs).at⟩
  | loadA t x b off d i cs h hx ht hd hi hv =>
    simp only [srcOf, h] at hs
    exact ⟨some b, fun m' hm => .loadA t x b off d i cs h hx ht hd hi (by rw [rdN_stb (hm b rfl)]; exact hv), (ptr hx hs).at⟩
  | slice t x lo hi e' i L b off l n h' h ht hi' hx hm hlo hhi h1 h2 h3 =>
    simp only [srcOf, h] at hs
    refine ⟨some b, fun m' hm' => .slice t x lo hi e' i L b off l n h' h ht hi' hx (by rw [hm' b rfl]; exact hm) hlo hhi h1 h2 h3, SrcB.at ?_⟩
    have hr := hE x
    split at hs
    · rename_i g
      rw [g, hx] at hr
      cases hr
    · rename_i g
      cases hs
      rw [g, hx] at hr
      exact sl hr
    · rename_i g
      cases hs
      rw [g, hx] at hr
      exact ⟨_, hr.1, rfl⟩
    · cases hs
  | str s' t x e' b off l c cs h hs' he ht hx hv =>
    simp only [srcOf, h] at hs
    refine ⟨some b, fun m' hm' => .str s' t x e' b off l c cs h hs' he ht hx (by rw [rdN_stb (hm' b rfl)]; exact hv), SrcB.at ?_⟩
    have hr := hE x
    split at hs
    · rename_i g
      cases hs
      rw [g, hx] at hr
      exact sl hr
    · rename_i g
      cases hs
      rw [g, hx] at hr
      exact ⟨_, hr.1, rfl⟩
    · rename_i g
      rw [g, hx] at hr
      cases hr
    · rename_i g
      rw [g, hx] at hr
      cases hr
    · cases hs
  | strNil s' t x e' l c h hs' he ht hx =>
    simp only [srcOf, h] at hs
    refine ⟨none, fun m' hm' => .strNil s' t x e' l c h hs' he ht hx, ?_⟩
    have hr := hE x
    split at hs
    · cases hs; intro b hb; cases hb
    · cases hs; intro b hb; cases hb
    · rename_i g
      rw [g, hx] at hr
      cases hr
    · rename_i g
      rw [g, hx] at hr
      cases hr
    · cases hs
  | lookup xt x ix ok u kt vt b L F i z' v0 t good h hxt hu hx hks hv1 K' hf hk hg hi hz hzf hl =>
    simp only [srcOf, h] at hs
    rcases hx with ⟨hx, hm, hE'⟩ | ⟨hx, hE'⟩
    · refine ⟨some b, fun m' hm' => .lookup xt x ix ok u kt vt b L F i z' v0 t good h hxt hu (.inl ⟨hx, by rw [hm' b rfl]; exact hm, hE'⟩) hks hv1 K' hf hk hg hi hz hzf hl, SrcB.at ?_⟩
      have hr := hE x
      split at hs
      · rename_i g
        cases hs
        rw [g, hx] at hr
        rcases hr with ⟨h1, _⟩ | ⟨r, h1, h2⟩
        · cases h1
        · cases h1
          intro hd
          rw [hd] at h2; cases h2
      · rename_i g
        cases hs
        rw [g, hx] at hr
        exact ⟨_, hr.1, rfl⟩
      · cases hs
    · refine ⟨none, fun m' hm' => .lookup xt x ix ok u kt vt b L F i z' v0 t good h hxt hu (.inr ⟨hx, hE'⟩) hks hv1 K' hf hk hg hi hz hzf hl, ?_⟩
      split at hs
      · cases hs; intro b hb; cases hb
      · cases hs; intro b hb; cases hb
      · cases hs
/-! ### What has run so far -/
def RdI (z : Nat → Blk) (m : Mem) (vs : List Value) (I : Mem → Prop) (s : RdS) : Prop :=
  s = .lost ∨ ∃ ob, Stb m I ob ∧ (∀ b, ob = some b → b < m.next) ∧ SrcAt z vs ob s
structure LgOk (z : Nat → Blk) (m : Mem) (vs : List Value) (A : Acc) (L : Lg) : Prop where
  rd : ∀ x ∈ A.reads, ∃ y ∈ L.rd, y.1 = x.1 ∧ RdI z m vs x.2 y.2
  ef : ∀ x ∈ A.effs, ∃ y ∈ L.ef, y.1 = x.1 ∧ (y.2.1 = true → m = x.2) ∧ ∀ j ∈ y.2.2, ∃ v, vs[j]? = some v ∧ ∀ b, blkV v = some b → b < m.next ∧ m.blk b = x.2.blk b
  nw : ∀ x ∈ A.news, ∃ y ∈ L.nw, y.1 = x.1 ∧ x.2 < m.next ∧ ∃ v, vs[y.2]? = some v ∧ blkV v = some x.2
theorem Stb.step {I : Mem → Prop} {ob q : Option Nat} (h : Stb m I ob) (hb : ∀ b, ob = some b → b < m.next) (hc : Chg m m' q) (hq : ∀ b, ob = some b → q ≠ some b) : Stb m' I ob := fun m2 hm => h m2 fun b hb' => by
  rw [hm b hb', hc.2 b (hb b hb') (hq b hb')]
theorem SrcAt.mono {ob : Option Nat} {s : RdS} (h : SrcAt z vs ob s) (hz : Zle z z') (hv : ∀ (i : Nat) (u : Value), vs[i]? = some u → vs'[i]? = some u) : SrcAt z' vs' ob s := by
  cases s with
  | nr => exact h
  | lost => exact h
  | fz => intro b hb; rw [hz b (h b hb)]; exact h b hb
  | ob j => intro b hb; obtain ⟨u, g1, g2⟩ := h b hb; exact ⟨u, hv _ _ g1, g2⟩
theorem LgOk.step {A : Acc} {L : Lg} {q : Option Nat} (h : LgOk z m vs A L) (hz : Zle z z') (hv : ∀ (i : Nat) (u : Value), vs[i]? = some u → vs'[i]? = some u) (hc : Chg m m' q)
    (L' : Lg) (hr : ∀ y ∈ L.rd, ∃ y' ∈ L'.rd, y'.1 = y.1 ∧ (y'.2 = .lost ∨ y'.2 = y.2 ∧ ∀ ob, SrcAt z vs ob y.2 → ∀ b, ob = some b → q ≠ some b))
    (he : ∀ y ∈ L.ef, ∃ y' ∈ L'.ef, y'.1 = y.1 ∧ (y'.2.1 = true → y.2.1 = true ∧ m' = m) ∧ ∀ j ∈ y'.2.2, j ∈ y.2.2 ∧ ∀ v b, vs[j]? = some v → blkV v = some b → q ≠ some b) (hn : ∀ y ∈ L.nw, y ∈ L'.nw) : LgOk z' m' vs' A L' where
  rd := fun x hx => by
    obtain ⟨y, hy, h1, h2⟩ := h.rd x hx
    obtain ⟨y', hy', g1, g2⟩ := hr y hy
    refine ⟨y', hy', by rw [g1, h1], ?_⟩
    rcases g2 with g2 | ⟨g2, g3⟩
    · exact .inl g2
    · rcases h2 with h2 | ⟨ob, k1, k2, k3⟩
      · exact .inl (by rw [g2, h2])
      · exact .inr ⟨ob, k1.step k2 hc (g3 ob k3), fun b hb => Nat.lt_of_lt_of_le (k2 b hb) hc.1, by rw [g2]; exact k3.mono hz hv⟩
  ef := fun x hx => by
    obtain ⟨y, hy, h1, h0, h2⟩ := h.ef x hx
    obtain ⟨y', hy', g1, g0, g2⟩ := he y hy
    refine ⟨y', hy', by rw [g1, h1], fun hf => by rw [(g0 hf).2]; exact h0 (g0 hf).1, fun j hj => ?_⟩
    obtain ⟨g3, g4⟩ := g2 j hj
    obtain ⟨v, k1, k2⟩ := h2 j g3
    refine ⟨v, hv _ _ k1, fun b hb => ?_⟩
    obtain ⟨k3, k4⟩ := k2 b hb
    exact ⟨Nat.lt_of_lt_of_le k3 hc.1, by rw [hc.2 b k3 (g4 v b k1 hb)]; exact k4⟩
  nw := fun x hx => by
    obtain ⟨y, hy, h1, h2, v, h3, h4⟩ := h.nw x hx
    exact ⟨y, hn y hy, h1, Nat.lt_of_lt_of_le h2 hc.1, v, hv _ _ h3, h4⟩
theorem LgOk.quiet {A : Acc} {L : Lg} (h : LgOk z m vs A L) (hz : Zle z z') (hv : ∀ (i : Nat) (u : Value), vs[i]? = some u → vs'[i]? = some u) (hm : m' = m) : LgOk z' m' vs' A L :=
  h.step (q := none) hz hv (by rw [hm]; exact Chg.refl m) L (fun y hy => ⟨y, hy, rfl, .inr ⟨rfl, fun _ _ _ _ => by simp⟩⟩) (fun y hy => ⟨y, hy, rfl, fun h => ⟨h, hm⟩, fun j hj => ⟨hj, fun _ _ _ _ => by simp⟩⟩) fun y hy => hy
theorem good_at {j : Nat} (hM : Mm X.G O z e m k vs) (h : goodAt O j = true) : ∃ v, vs[j]? = some v ∧ ∀ b, blkV v = some b → b < m.next ∧ (z b ≠ .dead ∨ ∃ o, O[j]? = some o ∧ o.live = true) := by
  unfold goodAt at h
  have fin : ∀ {o : Ob D}, O[j]? = some o → o ≠ .dead → (∀ t w, o ≠ .box t [] true w) → ∃ v, vs[j]? = some v ∧ ∀ b, blkV v = some b → b < m.next ∧ (z b ≠ .dead ∨ ∃ o, O[j]? = some o ∧ o.live = true) := by
    intro o ho hd hbx
    obtain ⟨v, hv, hob⟩ := hM.at ho
    refine ⟨v, hv, fun b hb => ?_⟩
    cases hl : o.live with
    | true => exact ⟨(hob.lt hl b hb).1, .inr ⟨o, ho, hl⟩⟩
    | false =>
      have hz : z b ≠ .dead := by
        cases o with
        | dead => exact absurd rfl hd
        | sl t xs fz w =>
          cases fz with
          | false => cases hl
          | true =>
            rcases (hob : SlR (X.G.T t) z xs v) with ⟨rfl, _⟩ | ⟨b', o', c', rfl, h2, _⟩
            · cases hb
            · cases hb; exact h2
        | box t cs fz w =>
          cases fz with
          | false => cases hl
          | true =>
            obtain ⟨b', ds, rfl, h2, h3⟩ := hob
            cases hb
            cases cs with
            | nil => exact absurd rfl (hbx t w)
            | cons c cs =>
              cases ds with
              | nil => exact h3.elim
              | cons d ds =>
                have := h2 0 d rfl
                intro hd
                unfold ldz at this
                rw [hd] at this
                cases this
        | recv t cs w => cases hl
        | arr _ _ _ _ _ => cases hl
        | map t kt vt es fz w =>
          cases fz with
          | false => cases hl
          | true =>
            rcases (hob : MpR (X.G.M t kt vt) z es v) with ⟨rfl, _⟩ | ⟨r, rfl, h2⟩
            · cases hb
            · cases hb
              intro hd
              rw [hd] at h2; cases h2
      refine ⟨?_, .inl hz⟩
      exact (hM.st.fz b hz).2
  split at h
  · cases h
  · cases h
  · rename_i o h1 h2 ho
    exact fin ho (fun hh => h1 hh) fun t w hh => h2 t w hh
  · cases h
theorem any_beq {l : List Nat} {j : Nat} : l.any (Nat.beq j) = true ↔ j ∈ l := by
  simp only [List.any_eq_true]
  constructor
  · rintro ⟨x, hx, h⟩
    have := Nat.eq_of_beq_eq_true h
    subst this; exact hx
  · intro h; exact ⟨j, h, by simp⟩
theorem live_at {j : Nat} (h : liveAt O j = true) : ∃ o, O[j]? = some o ∧ o.live = true := by
  unfold liveAt at h
  split at h
  · exact ⟨_, ‹_›, h⟩
  · cases h
/-- An object apart from the targets. -/
theorem apart_ok {ts : List Nat} {q : Option Nat} (hM : Mm X.G O z e m k vs) (hl : ts.all (liveAt O) = true) (hq : TgtQ vs ts q) {j : Nat} (h : apartB O ts j = true) {v : Value} {b : Nat} (hv : vs[j]? = some v) (hb : blkV v = some b) : q ≠ some b := by
  simp only [apartB, Bool.and_eq_true, Bool.not_eq_true'] at h
  rcases hq with rfl | ⟨i, hi, w, hw, rfl⟩
  · simp
  · intro hqb
    have hij : i ≠ j := by
      rintro rfl
      rw [any_beq.2 hi] at h; cases h.2
    obtain ⟨o, ho, hol⟩ := live_at (List.all_eq_true.1 hl i hi)
    have hd := ((hM.obj i o w ho hw).lt hol b hqb).2.1
    obtain ⟨v', hv', h1⟩ := good_at hM h.1
    rw [hv] at hv'; cases hv'
    rcases (h1 b hb).2 with h2 | ⟨p, hp, hpl⟩
    · exact h2 hd
    · exact hM.ap i j o p w v hij ho hp hol hpl hw hv b hqb hb
theorem fz_apart {ts : List Nat} {q : Option Nat} (hM : Mm X.G O z e m k vs) (hl : ts.all (liveAt O) = true) (hq : TgtQ vs ts q) {b : Nat} (hz : z b ≠ .dead) : q ≠ some b := by
  rcases hq with rfl | ⟨i, hi, w, hw, rfl⟩
  · simp
  · intro hqb
    obtain ⟨o, ho, hol⟩ := live_at (List.all_eq_true.1 hl i hi)
    exact hz ((hM.obj i o w ho hw).lt hol b hqb).2.1
theorem src_apart {ts : List Nat} {q : Option Nat} (hM : Mm X.G O z e m k vs) (hl : ts.all (liveAt O) = true) (hq : TgtQ vs ts q) {s : RdS} (h : srcB O ts s = true) {ob : Option Nat} (hs : SrcAt z vs ob s) : ∀ b, ob = some b → q ≠ some b := by
  intro b hb
  cases s with
  | nr => exact hs.elim
  | lost => exact hs.elim
  | fz => exact fz_apart hM hl hq (hs b hb)
  | ob j =>
    obtain ⟨u, g1, g2⟩ := hs b hb
    exact apart_ok hM hl hq h g1 g2
theorem liveIdx_at : ∀ {l : List (Ob D)} {i j : Nat}, j ∈ liveIdx O i l → ∃ n o, j = i + n ∧ l[n]? = some o ∧ o.live = true
  | [], i, j, h => by simp [liveIdx] at h
  | o :: l, i, j, h => by
    simp only [liveIdx] at h
    have tail : j ∈ liveIdx O (i + 1) l → ∃ n p, j = i + n ∧ (o :: l)[n]? = some p ∧ p.live = true := fun h => by
      obtain ⟨n, p, h1, h2, h3⟩ := liveIdx_at h
      exact ⟨n + 1, p, by omega, h2, h3⟩
    split at h
    · rename_i ho
      rcases List.mem_cons.1 h with rfl | h
      · exact ⟨0, o, rfl, rfl, ho⟩
      · exact tail h
    · exact tail h
/-- An effect. -/
theorem LgOk.eff {A : Acc} {L : Lg} {q : Option Nat} {B : Array Nat} {i : Nat} {ts : List Nat} {qt : Bool} (h : LgOk z m vs A L) (hM : Mm X.G O z e m k vs) (hz : Zle z z') (hv : ∀ (i : Nat) (u : Value), vs[i]? = some u → vs'[i]? = some u) (hc : Chg m m' q) (hq : TgtQ vs ts q) (hqt : qt = true → m' = m)
    (hk : efChk B i O L ts = true) : obl B i A m .eff m' ∧ LgOk z' m' vs' (accT A i m .eff) (efLg i O ts qt L) := by
  simp only [efChk, Bool.and_eq_true, List.all_eq_true, Bool.or_eq_true] at hk
  obtain ⟨hl, hk1, hk2⟩ := hk
  have hl : ts.all (liveAt O) = true := List.all_eq_true.2 hl
  refine ⟨⟨fun x hx ha => ?_, fun x hx ha => ?_⟩, ?_⟩
  · obtain ⟨y, hy, h1, h2⟩ := h.rd x hx
    have := hk1 y hy
    rw [h1, ha] at this
    have hs : srcB O ts y.2 = true := by simpa using this
    rcases h2 with h2 | ⟨ob, k1, k2, k3⟩
    · rw [h2] at hs; cases hs
    · exact k1 m' fun b hb => hc.2 b (k2 b hb) (src_apart hM hl hq hs k3 b hb)
  · obtain ⟨y, hy, h1, h2, v, h3, h4⟩ := h.nw x hx
    have := hk2 y hy
    rw [h1, ha] at this
    have hs : apartB O ts y.2 = true := by simpa using this
    exact hc.2 _ h2 (apart_ok hM hl hq hs h3 h4)
  · have st := h.step (L' := efLg i O ts qt L) hz hv hc (fun y hy => ?_) (fun y hy => ?_) fun y hy => hy
    · refine ⟨st.rd, fun x hx => ?_, st.nw⟩
      rcases List.mem_cons.1 hx with rfl | hx
      · refine ⟨(i, true && qt, (liveIdx O 0 O).filter (apartB O ts)), by simp [efLg], rfl, fun hf => hqt (by simpa using hf), fun j hj => ?_⟩
        obtain ⟨hj1, hj2⟩ := List.mem_filter.1 hj
        obtain ⟨n, o, g1, g2, g3⟩ := liveIdx_at hj1
        rw [Nat.zero_add] at g1
        subst g1
        obtain ⟨v, g4, g5⟩ := hM.at g2
        refine ⟨v, hv _ _ g4, fun b hb => ?_⟩
        have hlt := (g5.lt g3 b hb).1
        exact ⟨Nat.lt_of_lt_of_le hlt hc.1, hc.2 b hlt (apart_ok hM hl hq hj2 g4 hb)⟩
      · exact st.ef x hx
    · refine ⟨if srcB O ts y.2 = true then y else (y.1, .lost), List.mem_map.2 ⟨y, hy, rfl⟩, by split <;> rfl, ?_⟩
      split
      · rename_i hs
        exact .inr ⟨rfl, fun ob ho => src_apart hM hl hq hs ho⟩
      · exact .inl rfl
    · refine ⟨(y.1, y.2.1 && qt, y.2.2.filter (apartB O ts)), List.mem_map.2 ⟨y, List.mem_cons_of_mem _ hy, rfl⟩, rfl, fun hf => by simp only [Bool.and_eq_true] at hf; exact ⟨hf.1, hqt hf.2⟩, fun j hj => ?_⟩
      obtain ⟨hj1, hj2⟩ := List.mem_filter.1 hj
      exact ⟨hj1, fun v b h1 h2 => apart_ok hM hl hq hj2 h1 h2⟩
theorem LgOk.sup {A : Acc} {L : Lg} (h : LgOk z m vs A L) (i : Nat) (s : RdS) (n : Option Nat) : LgOk z m vs A (rdLg i s n L) where
  rd := fun x hx => by
    obtain ⟨y, hy, h1, h2⟩ := h.rd x hx
    refine ⟨y, ?_, h1, h2⟩
    unfold rdLg
    cases s <;> first | exact hy | exact List.mem_cons_of_mem _ hy
  ef := fun x hx => by
    obtain ⟨y, hy, h1, h2, h3⟩ := h.ef x hx
    cases n with
    | none => exact ⟨y, hy, h1, h2, h3⟩
    | some j => exact ⟨(y.1, false, y.2.2), List.mem_map.2 ⟨y, hy, rfl⟩, h1, (by simp), h3⟩
  nw := fun x hx => by
    obtain ⟨y, hy, h1⟩ := h.nw x hx
    refine ⟨y, ?_, h1⟩
    unfold rdLg
    cases n with
    | none => exact hy
    | some j => exact List.mem_cons_of_mem _ hy
/-- What was there at a region's start ('n0': how many blocks). -/
structure Lg2 (n0 : Nat) (fr : Nat → Value) (E : List (Nat × SV D)) (m : Mem) (A : Acc) (L : Lg) : Prop where
  n : n0 ≤ m.next
  fl : ∀ x ∈ A.effs, ∃ y ∈ L.fl, y.1 = x.1 ∧ (y.2 = true → ∀ b, b < n0 → m.blk b = x.2.blk b)
  old : ∀ d, (L.yn.any (Nat.beq d)) = false → isFz (lkE E d) = true → ∀ b, blkV (fr d) = some b → b < n0
theorem Lg2.at {n0 : Nat} {A : Acc} {L : Lg} (h : Lg2 n0 fr E m A L) {x : Operand} (hx : oldS E L x = true) : ∀ b, blkV (ev fr x) = some b → b < n0 := by
  unfold oldS at hx
  split at hx
  · rename_i d
    simp only [Bool.and_eq_true, Bool.not_eq_true'] at hx
    exact h.old d hx.1 hx.2
  · cases hx
theorem Lg2.read {n0 : Nat} {A : Acc} {L : Lg} {B : Array Nat} {i : Nat} {v : Value} (h : Lg2 n0 fr E m A L) (hl : ldS E L o.op = true) (hf : ∀ y ∈ L.fl, anc B i y.1 = false → y.2 = true) (hr : ReadR P (ev fr) o m v) : ∀ x ∈ A.effs, anc B i x.1 = false → ReadR P (ev fr) o x.2 v := by
  intro x hx ha
  obtain ⟨y, hy, h1, h2⟩ := h.fl x hx
  have hb := h2 (hf y hy (by rw [h1]; exact ha))
  cases hr with
  | load t q b off d v h' hq ht hd hv =>
    rw [h'] at hl
    have := h.at hl b (by rw [hq]; rfl)
    exact .load t q b off d v h' hq ht hd (load_stb hv (hb b this).symm)
  | loadA t q b off d i cs h' hq ht hd hi hv =>
    rw [h'] at hl
    have := h.at hl b (by rw [hq]; rfl)
    exact .loadA t q b off d i cs h' hq ht hd hi (by rw [rdN_stb (hb b this).symm]; exact hv)
  | slice t q lo hi e' i L' b off l n h' h0 ht hi' hq hm hlo hhi g1 g2 g3 => rw [h0] at hl; cases hl
  | str s' t q e' b off l c cs h0 hs' he ht hq hv => rw [h0] at hl; cases hl
  | strNil s' t q e' l c h0 hs' he ht hq => rw [h0] at hl; cases hl
  | lookup xt q ix ok u kt vt b L' F i z' v0 t good h0 hxt hu hq hks hv1 K' hf hk hg hi hz hzf hl' => rw [h0] at hl; cases hl
theorem pure_drv {L : Lg} {v : Value} {n0 : Nat} {A : Acc} (h : Lg2 n0 fr E m A L) (hd : drvS E L o.op = true) (hp : PureR P (ev fr) o v) : ∀ b, blkV v = some b → b < n0 := by
  have fl : ∀ {w : Value}, flat w = true → ∀ b, blkV w = some b → b < n0 := by
    intro w hw b hb
    cases w with
    | pointer a => cases a with
      | none => cases hb
      | some a => cases hw
    | slice a l c => cases a with
      | none => cases hb
      | some a => cases hw
    | map r => cases r with
      | none => cases hb
      | some r => cases hw
    | _ => cases hb
  cases hp with
  | flat v hs hx hv hr => exact fl hv
  | move x ho =>
    rcases ho with ho | ho
    · rw [ho] at hd; exact h.at hd
    · rw [ho] at hd; exact h.at hd
  | nilCheck x a ho hx =>
    rw [ho] at hd
    intro b hb
    exact h.at hd b (by rw [hx]; exact hb)
  | fieldAddr t x i fs f k b off ho ht hf hk hs hx =>
    rw [ho] at hd
    intro c hc
    exact h.at hd c (by rw [hx]; exact hc)
  | indexAddr t x y e i b off l c k n ho ht hi hx hy h0 h1 =>
    rw [ho] at hd
    intro c hc
    exact h.at hd c (by rw [hx]; exact hc)
  | indexAddrA t x y e i b off l k n ho ht hi hx hy h0 h1 =>
    rw [ho] at hd
    intro c hc
    exact h.at hd c (by rw [hx]; exact hc)
  | pick c a b t ho hc => rw [ho] at hd; cases hd
  | extract x i us v ho hx hv => rw [ho] at hd; cases hd
  | field t x i fs f d cs v ho _ _ _ _ _ => rw [ho] at hd; cases hd
  | build t ps fs i z cs ho _ _ _ _ _ _ => rw [ho] at hd; cases hd
  | buildA t ps n e i k z cs ho _ _ _ _ _ _ => rw [ho] at hd; cases hd
  | slice t x lo hi e i b off l c n h' ho _ _ _ _ _ _ _ _ _ => rw [ho] at hd; cases hd
  | sliceNil t x lo hi e i ho _ _ _ _ _ => rw [ho] at hd; cases hd
  | slice3 t x mx hi e i b off l c h' k' km ho _ _ _ _ _ _ _ => rw [ho] at hd; cases hd
  | slice3Nil t x mx hi e i km ho _ _ _ _ _ => rw [ho] at hd; cases hd
  | len x t e a l c ho _ _ => rw [ho] at hd; cases hd
  | eqNil neq x y t u e a l c ho _ _ _ => rw [ho] at hd; cases neq <;> cases hd
  | func fn first captured ho _ => rw [ho] at hd; cases hd
/-- The slots, with one more. -/
theorem Lg2.put {n0 : Nat} {A : Acc} {L : Lg} {v : Value} {sv : SV D} (h : Lg2 n0 fr E m A L) (hv : drvS E L o.op = true → ∀ b, blkV v = some b → b < n0) : Lg2 n0 (set fr o.dst v) (putE E o.dst sv) m A (ynLg E o L) := by
  cases hd : o.dst with
  | none =>
    have e : ynLg E o L = L := by unfold ynLg; rw [hd]
    rw [e]
    exact ⟨h.n, h.fl, h.old⟩
  | some d =>
    have fl : (ynLg E o L).fl = L.fl := by unfold ynLg; rw [hd]; dsimp only; split <;> rfl
    refine ⟨h.n, by rw [fl]; exact h.fl, fun c hc hf b hb => ?_⟩
    by_cases hcd : c = d
    · subst hcd
      simp only [set, if_true] at hb
      by_cases hdv : drvS E L o.op = true
      · exact hv hdv b hb
      · have e : (ynLg E o L).yn = c :: L.yn := by unfold ynLg; rw [hd]; dsimp only; rw [if_neg hdv]
        rw [e] at hc
        simp at hc
    · simp only [set, if_neg hcd] at hb
      have hl : lkE (putE E (some d) sv) c = lkE E c := by
        simp only [putE, lkE]
        rw [if_neg]
        intro hh
        exact hcd (Nat.eq_of_beq_eq_true hh).symm
      rw [hl] at hf
      refine h.old c ?_ hf b hb
      unfold ynLg at hc
      rw [hd] at hc
      dsimp only at hc
      split at hc
      · rw [List.any_eq_false] at hc ⊢
        intro y hy hyc
        have hyc := Nat.eq_of_beq_eq_true hyc
        subst hyc
        refine hc c (List.mem_filter.2 ⟨hy, ?_⟩) (by simp)
        simp only [Bool.not_eq_true']
        cases hq : Nat.beq d c with
        | false => rfl
        | true => exact absurd (Nat.eq_of_beq_eq_true hq).symm hcd
      · simp only [List.any_cons, Bool.or_eq_false_iff] at hc
        exact hc.2
theorem Lg2.log {n0 : Nat} {A A' : Acc} {L L' : Lg} (h : Lg2 n0 fr E m A L) (hA : A'.effs = A.effs) (hf : L'.fl = L.fl) (hy : L'.yn = L.yn) : Lg2 n0 fr E m A' L' := ⟨h.n, by rw [hA, hf]; exact h.fl, by rw [hy]; exact h.old⟩
theorem Lg2.grow {n0 : Nat} {A : Acc} {L : Lg} (h : Lg2 n0 fr E m A L) (hc : Chg m m' none) : Lg2 n0 fr E m' A L := ⟨Nat.le_trans h.n hc.1, fun x hx => by
  obtain ⟨y, h1, h2, h3⟩ := h.fl x hx
  exact ⟨y, h1, h2, fun hy b hb => by rw [hc.2 b (Nat.lt_of_lt_of_le hb h.n) (by simp)]; exact h3 hy b hb⟩, h.old⟩
theorem Lg2.eff {n0 i : Nat} {A : Acc} {L : Lg} {q : Option Nat} {ts : List Nat} {qt : Bool} (h : Lg2 n0 fr E m A L) (hc : Chg m m' q) (hq : TgtQ vs ts q) : Lg2 n0 fr E m' (accT A i m .eff) (efLg i O ts qt L) := by
  have key : ts.isEmpty = true → ∀ b, b < n0 → m'.blk b = m.blk b := by
    intro ht b hb
    have hq0 : q = none := by
      rcases hq with hq | ⟨i, hi, _⟩
      · exact hq
      · rw [List.isEmpty_iff.1 ht] at hi; simp at hi
    exact hc.2 b (Nat.lt_of_lt_of_le hb h.n) (by rw [hq0]; simp)
  refine ⟨Nat.le_trans h.n hc.1, fun x hx => ?_, h.old⟩
  rcases List.mem_cons.1 hx with rfl | hx
  · exact ⟨(i, ts.isEmpty), List.mem_cons_self, rfl, key⟩
  · obtain ⟨y, h1, h2, h3⟩ := h.fl x hx
    refine ⟨(y.1, y.2 && ts.isEmpty), List.mem_cons_of_mem _ (List.mem_map.2 ⟨y, h1, rfl⟩), h2, fun hy b hb => ?_⟩
    simp only [Bool.and_eq_true] at hy
    rw [key hy.2 b hb]
    exact h3 hy.1 b hb
theorem Lg2.start {E : List (Nat × SV D)} (hM : Mm X.G O z e m k vs) (hE : ∀ d, rel X.G z vs (lkE E d) (fr d)) : Lg2 m.next fr E m ⟨[], [], []⟩ ⟨[], [], [], [], []⟩ := by
  refine ⟨Nat.le_refl _, by simp, fun d _ hf b hb => ?_⟩
  have hr := hE d
  unfold isFz at hf
  split at hf
  · rename_i e1 xs hs
    rw [hs] at hr
    rcases (hr : SlR (X.G.T e1) z xs (fr d)) with ⟨h1, _⟩ | ⟨b', o', c', h1, h2, _⟩
    · rw [h1] at hb; cases hb
    · rw [h1] at hb; cases hb
      exact (hM.st.fz _ h2).2
  · rename_i t c cs off hs
    rw [hs] at hr
    obtain ⟨b, o', ds, h1, h2, h3⟩ := hr
    rw [h1] at hb; cases hb
    cases ds with
    | nil => exact h3.elim
    | cons d ds =>
      have h4 := h2 0 d rfl
      have hz : z b ≠ .dead := fun hd => by
        unfold ldz at h4
        rw [hd] at h4
        cases h4
      exact (hM.st.fz _ hz).2
  · cases hf
theorem ynLg_ok {A : Acc} {L : Lg} {E : List (Nat × SV D)} (h : LgOk z m vs A L) : LgOk z m vs A (ynLg E o L) := by
  unfold ynLg
  split
  · exact h
  · split <;> exact ⟨h.rd, h.ef, h.nw⟩
/-- A read. -/
theorem LgOk.read {A : Acc} {L : Lg} {B : Array Nat} {i : Nat} {s : RdS} {v : Value} {n : Option Nat} (h : LgOk z m vs A L) (hM : Mm X.G O z e m k vs) (hE : ∀ x, rel X.G z vs (sop E x) (ev fr x)) (hz : Zle z z') (hv : ∀ (i : Nat) (u : Value), vs[i]? = some u → vs'[i]? = some u)
    {n0 : Nat} (hs : srcOf E o.op = some s) (hk : (rdChk B i O L s || oldChk B i E L s o.op) = true) (hr : ReadR P (ev fr) o m v) (hg : Lg2 (D := D) n0 fr E m A L) :
    obl B i A m (.read fun m => ReadR P (ev fr) o m v) m ∧ LgOk z' m vs' (accT A i m (.read fun m => ReadR P (ev fr) o m v)) (rdLg i s n L) := by
  obtain ⟨ob, h1, h2⟩ := src_ok hM hE hs hr
  rw [Bool.or_eq_true] at hk
  have lt : ∀ b, ob = some b → b < m.next := by
    intro b hb
    cases s with
    | nr => exact h2.elim
    | lost => exact h2.elim
    | fz =>
      have hz := h2 b hb
      exact (hM.st.fz b hz).2
    | ob j =>
      have hk : rdChk B i O L (.ob j) = true := hk.resolve_right (by simp [oldChk, fzB])
      simp only [rdChk, Bool.and_eq_true] at hk
      obtain ⟨u, g1, g2⟩ := h2 b hb
      obtain ⟨v', g3, g4⟩ := good_at hM hk.1
      rw [g1] at g3; cases g3
      exact (g4 b g2).1
  refine ⟨fun x hx ha => ?_, ?_⟩
  · rcases hk with hk | hk
    case inr =>
      simp only [oldChk, Bool.and_eq_true, List.all_eq_true, Bool.or_eq_true] at hk
      exact hg.read hk.2.1 (fun y hy hya => (hk.2.2 y hy).resolve_left (by rw [hya]; simp)) hr x hx ha
    obtain ⟨y, hy, k1, k0, k2⟩ := h.ef x hx
    refine h1 x.2 fun b hb => ?_
    cases s with
    | nr => exact h2.elim
    | lost => exact h2.elim
    | fz =>
      simp only [rdChk, List.all_eq_true] at hk
      have := hk y hy
      rw [k1, ha, Bool.false_or] at this
      rw [k0 this]
    | ob j =>
      simp only [rdChk, Bool.and_eq_true, List.all_eq_true, Bool.or_eq_true] at hk
      have := hk.2 y hy
      rw [k1, ha] at this
      have hj : y.2.1 = true ∨ j ∈ y.2.2 := by
        rcases this with h | h | h
        · cases h
        · exact .inl h
        · exact .inr (any_beq.1 h)
      rcases hj with hj | hj
      · rw [k0 hj]
      obtain ⟨v', g1, g2⟩ := k2 j hj
      obtain ⟨u, g3, g4⟩ := h2 b hb
      rw [g3] at g1; cases g1
      exact (g2 b g4).2.symm
  · have st := ((h.quiet (Zle.refl z) (fun _ _ h => h) rfl).sup i s n).quiet (m' := m) hz hv rfl
    refine ⟨fun x hx => ?_, st.ef, st.nw⟩
    rcases List.mem_cons.1 hx with rfl | hx
    · refine ⟨(i, s), ?_, rfl, .inr ⟨ob, h1, lt, h2.mono hz hv⟩⟩
      unfold rdLg
      cases s <;> first | exact h2.elim | exact List.mem_cons_self
    · exact st.rd x hx
theorem new_of {Y : Blk} {v : Value} {sv : SV D} {n : Option Nat} {N : Nat} (h : NewR P (ev fr) o N Y v) (hr : rel X.G z vs sv v) (hn : newOf sv = some n) : ∃ j, n = some j ∧ ∃ u, vs[j]? = some u ∧ blkV u = some N := by
  have hv : blkV v = some N := by cases h <;> rfl
  unfold newOf at hn
  split at hn
  · cases hn; exact ⟨_, rfl, v, hr.1, hv⟩
  · cases hn
    obtain ⟨b, g1, rfl⟩ := hr
    exact ⟨_, rfl, _, g1, hv⟩
  · cases hn
    obtain ⟨b, l, g1, rfl⟩ := hr
    exact ⟨_, rfl, _, g1, hv⟩
  · have hr : v = .int _ _ := hr
    rw [hr] at hv; cases hv
  · have hr : v = AM.str _ := hr
    rw [hr] at hv; cases hv
  · cases hn
/-- A new block. -/
theorem LgOk.new {A : Acc} {L : Lg} {i : Nat} {s : RdS} {j : Nat} {Y : Blk} (h : LgOk z m vs A L) (hz : Zle z z') (hv : ∀ (i : Nat) (u : Value), vs[i]? = some u → vs'[i]? = some u) (hj : ∃ u, vs'[j]? = some u ∧ blkV u = some m.next) :
    LgOk z' (m.push Y) vs' (accT A i m .new) (rdLg i s (some j) L) := by
  have st := h.step (m' := m.push Y) (q := none) hz hv (Chg.push m Y) (rdLg i s (some j) L) (fun y hy => ⟨y, by unfold rdLg; cases s <;> first | exact hy | exact List.mem_cons_of_mem _ hy, rfl, .inr ⟨rfl, fun _ _ _ _ => by simp⟩⟩)
    (fun y hy => ⟨(y.1, false, y.2.2), List.mem_map.2 ⟨y, hy, rfl⟩, rfl, by simp, fun j hj => ⟨hj, fun _ _ _ _ => by simp⟩⟩) fun y hy => List.mem_cons_of_mem _ hy
  refine ⟨st.rd, st.ef, fun x hx => ?_⟩
  rcases List.mem_cons.1 hx with rfl | hx
  · obtain ⟨u, g1, g2⟩ := hj
    exact ⟨(i, j), by simp [rdLg], rfl, Nat.lt_succ_self _, u, g1, g2⟩
  · exact st.nw x hx
end
end Go.AM
end
section
set_option linter.unusedSimpArgs false
set_option linter.unusedVariables false
namespace Go.AM
section
variable {P : Program} {D : Nat → Type} {X : Ev P D} {ρ : Type} {z z' : Nat → Blk} {e m m' : Mem} {k : Option Nat} {vs : List Value} {fr : Nat → Value} {E : List (Nat × SV D)} {O : List (Ob D)} {o : Oper} {r : ρ}
/-- The slots. -/
def Rl (X : Ev P D) (z : Nat → Blk) (vs : List Value) (E : List (Nat × SV D)) (fr : Nat → Value) : Prop := ∀ d, rel X.G z vs (lkE E d) (fr d)
theorem Rl.mono (h : Rl X z vs E fr) {vs' : List Value} (hz : Zle z z') (hv : ∀ (i : Nat) (u : Value), vs[i]? = some u → vs'[i]? = some u) : Rl X z' vs' E fr := fun d => rel.mono (h d) hz hv
theorem Rl.cons (h : Rl X z vs E fr) {d : Nat} {s : SV D} (hs : rel X.G z vs s (fr d)) : Rl X z vs ((d, s) :: E) fr := fun i => by
  simp only [lkE]
  split
  · rename_i hi
    have : d = i := Nat.eq_of_beq_eq_true hi
    subst this; exact hs
  · exact h i
theorem Rl.put (h : Rl X z vs E fr) {d : Option Nat} {s : SV D} {v : Value} (hs : rel X.G z vs s v) : Rl X z vs (putE E d s) (set fr d v) := by
  cases d with
  | none => exact h
  | some d =>
    intro i
    simp only [putE, lkE, set]
    split
    · rename_i hi
      have : d = i := Nat.eq_of_beq_eq_true hi
      subst this; rw [if_pos rfl]; exact hs
    · rename_i hi
      rw [if_neg]
      · exact h i
      · intro hh; subst hh; simp at hi
/-- What code leads to. -/
def Nx (X : Ev P D) (O : List (Ob D)) (z : Nat → Blk) (e : Mem) (k : Option Nat) (vs : List Value) (K : List (Nat × SV D) → List (Ob D) → Option ρ) (r : ρ) (fr' : Nat → Value) (m' : Mem) : Prop :=
  ∃ z' vs' E' O', Inv O O' ∧ Zx e.next z z' ∧ (∀ (i : Nat) (u : Value), vs[i]? = some u → vs'[i]? = some u) ∧ Mm X.G O' z' e m' k vs' ∧ Rl X z' vs' E' fr' ∧ K E' O' = some r
theorem Nx.from {K : List (Nat × SV D) → List (Ob D) → Option ρ} {fr' : Nat → Value} {z1 : Nat → Blk} {vs1 : List Value} {O1 : List (Ob D)} (hi : Inv O O1) (hz : Zx e.next z z1) (hv : ∀ (i : Nat) (u : Value), vs[i]? = some u → vs1[i]? = some u) (h : Nx X O1 z1 e k vs1 K r fr' m') : Nx X O z e k vs K r fr' m' := by
  obtain ⟨z', vs', sv, O', h0, h1, h2, h3, h4, h5⟩ := h
  exact ⟨z', vs', sv, O', hi.trans h0, hz.trans h1, fun i u hu => h2 i u (hv i u hu), h3, h4, h5⟩
theorem Nx.here {K : List (Nat × SV D) → List (Ob D) → Option ρ} (hM : Mm X.G O z e m k vs) (hE : Rl X z vs E fr) (hK : K E O = some r) : Nx X O z e k vs K r fr m := ⟨z, vs, E, O, Inv.refl O, Zx.refl z, fun _ _ h => h, hM, hE, hK⟩
/-- A truth is made known. -/
theorem splitE_ok {d : Nat} {K : List (Nat × SV D) → Option ρ} (hE : Rl X z vs E fr) (h : splitE E d K = some r) : ∃ E', Rl X z vs E' fr ∧ K E' = some r := by
  unfold splitE at h
  have hd := hE d
  split at h
  · rename_i b hs
    rw [hs] at hd
    cases b with
    | true => rw [if_pos rfl] at h; exact ⟨_, hE.cons (s := .c (.bool true)) hd, h⟩
    | false => rw [if_neg (by simp)] at h; exact ⟨_, hE.cons (s := .c (.bool false)) hd, h⟩
  · exact ⟨_, hE, h⟩
  · cases h
theorem StepX.mono {ρ : Operand → Value} {K K' : Tag → Value → Mem → Prop} (h : StepX P ρ o m K) (hk : ∀ t v m', K t v m' → K' t v m') : StepX P ρ o m K' := by
  rcases h with ⟨v, h, g⟩ | ⟨v, I, h, g⟩ | ⟨v, h, g⟩ | ⟨Y, v, h, g⟩ | ⟨n, v, m', h, g⟩
  · exact .inl ⟨v, h, hk _ _ _ g⟩
  · exact .inr (.inl ⟨v, I, h, hk _ _ _ g⟩)
  · exact .inr (.inr (.inl ⟨v, h, hk _ _ _ g⟩))
  · exact .inr (.inr (.inr (.inl ⟨Y, v, h, hk _ _ _ g⟩)))
  · exact .inr (.inr (.inr (.inr ⟨n, v, m', h, hk _ _ _ g⟩)))
theorem opP_ok (hC : COk X) {K : List (Nat × SV D) → List (Ob D) → Option ρ} (hM : Mm X.G O z e m k vs) (hE : Rl X z vs E fr) (h : opP X o E O K = some r) : StepX P (ev fr) o m fun _ v m' => Nx X O z e k vs K r (set fr o.dst v) m' := by
  have go : ∀ {E : List (Nat × SV D)}, Rl X z vs E fr → op1 X o.op E O (fun v O => K (putE E o.dst v) O) = some r → StepX P (ev fr) o m fun _ v m' => Nx X O z e k vs K r (set fr o.dst v) m' := by
    intro E hE h
    refine StepX.mono (op1_ok hC rfl hM (look_rel hE) h) ?_
    rintro t v m' ⟨z', vs', sv, O', h0, h1, h2, h3, h4, h5⟩
    exact ⟨z', vs', _, O', h0, h1, h2, h3, (hE.mono h1.le h2).put h4, h5⟩
  unfold opP at h
  split at h
  · obtain ⟨E', hE', h⟩ := splitE_ok hE h
    exact go hE' h
  · exact go hE h
theorem runL_ok (hC : COk X) {ops : List Oper} {K : List (Nat × SV D) → List (Ob D) → Option ρ} : ∀ {l : List Oper} {E : List (Nat × SV D)} {O : List (Ob D)} {z : Nat → Blk} {vs : List Value} {m : Mem} {fr : Nat → Value}, Mm X.G O z e m k vs → Rl X z vs E fr → runL X ops l E O K = some r → SeqW P ops l (Nx X O z e k vs K r) fr m
  | [], E, O, z, vs, m, fr, hM, hE, h => SeqW.nil (Nx.here hM hE h)
  | o :: l, E, O, z, vs, m, fr, hM, hE, h => by
    unfold runL at h
    have step : ∀ {E : List (Nat × SV D)}, Rl X z vs E fr → (opP X o E O fun E O => runL X ops l E O K) = some r → StepX P (ev fr) o m fun _ v m1 => SeqW P ops l (Nx X O z e k vs K r) (set fr o.dst v) m1 := by
      intro E hE h
      refine StepX.mono (opP_ok hC hM hE h) ?_
      rintro t v m1 ⟨z', vs', E', O', h0, h1, h2, h3, h4, h5⟩
      exact SeqW.mono (runL_ok hC h3 h4 h5) fun _ _ hn => hn.from h0 h1 h2
    split at h
    · rename_i hg
      exact SeqW.consX (by simp only [wanted, hg]) (step hE h)
    · rename_i j want hg
      split at h
      · cases h
      · rename_i d hd
        obtain ⟨E1, hE1, h⟩ := splitE_ok hE h
        have hv := hE1 d
        split at h
        · rename_i b hs
          rw [hs] at hv
          split at h
          · rename_i hb
            exact SeqW.consG hg hd hv hb (step hE1 h)
          · rename_i hb
            exact SeqW.skipG hg hd hv (by cases b <;> cases want <;> simp at hb ⊢) (runL_ok hC hM (hE1.put (s := .undef) rfl) h)
        · rename_i hs
          rw [hs] at hv
          exact SeqW.skipU hg hd hv (runL_ok hC hM (hE1.put (s := .undef) rfl) h)
        · cases h
/-! ### Regions whose order is open -/
theorem splitE_ok2 {d : Nat} {K : List (Nat × SV D) → Option ρ} (hE : Rl X z vs E fr) (h : splitE E d K = some r) : ∃ E', Rl X z vs E' fr ∧ (∀ c, lkE E' c = lkE E c ∨ isFz (lkE E' c) = false) ∧ K E' = some r := by
  have hd := hE d
  have nz : ∀ {b : Bool} (c : Nat), lkE ((d, .c (.bool b)) :: E) c = lkE E c ∨ isFz (lkE ((d, .c (.bool b)) :: E) c) = false := by
    intro b c
    simp only [lkE]
    split
    · exact .inr rfl
    · exact .inl rfl
  unfold splitE at h
  split at h
  · rename_i b hb
    rw [hb] at hd
    have hd : fr d = .bool b := hd
    split at h
    · rename_i ht
      exact ⟨_, hE.cons (by rw [hd, ht]; exact rfl), nz, h⟩
    · rename_i ht
      exact ⟨_, hE.cons (by rw [hd]; cases b with | true => exact absurd rfl ht | false => exact rfl), nz, h⟩
  · exact ⟨E, hE, fun _ => .inl rfl, h⟩
  · cases h
theorem Lg2.split {n0 : Nat} {A : Acc} {L : Lg} {E' : List (Nat × SV D)} (h : Lg2 n0 fr E m A L) (hq : ∀ c, lkE E' c = lkE E c ∨ isFz (lkE E' c) = false) : Lg2 n0 fr E' m A L := ⟨h.n, h.fl, fun d hd hf => by
  rcases hq d with hq | hq
  · rw [hq] at hf; exact h.old d hd hf
  · rw [hq] at hf; cases hf⟩
theorem Lg2.skip {n0 : Nat} {A : Acc} {L : Lg} {dst : Option Nat} (h : Lg2 n0 fr E m A L) : Lg2 n0 (set fr dst undef) (putE E dst .undef) m A L := by
  cases dst with
  | none => exact h
  | some d =>
    refine ⟨h.n, h.fl, fun c hc hf b hb => ?_⟩
    simp only [putE, lkE] at hf
    split at hf
    · cases hf
    · rename_i hcd
      have : c ≠ d := by rintro rfl; simp at hcd
      simp only [set, if_neg this] at hb
      exact h.old c hc hf b hb
theorem opD1_ok (hC : COk X) {B : Array Nat} {ops l : List Oper} {i : Nat} {A : Acc} {L : Lg} {n0 : Nat} {Q : (Nat → Value) → Mem → Prop} {K : Lg → List (Nat × SV D) → List (Ob D) → Option ρ} (hM : Mm X.G O z e m k vs) (hE : Rl X z vs E fr) (hL : LgOk z m vs A L) (hg : Lg2 n0 fr E m A L) (h : opD1 X B i o L E O K = some r)
    (hk : ∀ {z' : Nat → Blk} {vs' : List Value} {m' : Mem} {A' : Acc} {L' : Lg} {E' : List (Nat × SV D)} {O' : List (Ob D)} {v : Value}, Inv O O' → Zx e.next z z' → (∀ (i : Nat) (u : Value), vs[i]? = some u → vs'[i]? = some u) → Mm X.G O' z' e m' k vs' → Rl X z' vs' E' (set fr o.dst v) → LgOk z' m' vs' A' L' → Lg2 n0 (set fr o.dst v) E' m' A' L' → K L' E' O' = some r → DrawW P ops B (i + 1) l A' Q (set fr o.dst v) m') :
    StepX P (ev fr) o m fun t v m1 => obl B i A m t m1 ∧ DrawW P ops B (i + 1) l (accT A i m t) Q (set fr o.dst v) m1 := by
  have hR := look_rel hE
  unfold opD1 at h
  split at h
  · rename_i hef
    split at h
    · rename_i ts ht
      obtain ⟨hchk, h⟩ := ite_some h
      have clash : ∀ {v : Value}, ReadR P (ev fr) o m v → False := fun hr => by
        have := read_looks hr
        revert this hef
        cases o.op <;> simp [isEff, looks]
      have clash' : ∀ {Y : Blk} {v : Value}, NewR P (ev fr) o m.next Y v → False := fun hr => by
        have := new_makes hr
        revert this hef
        cases o.op <;> simp [isEff, makes]
      have nd : drvS E L o.op = true → False := fun hd => by
        revert hd hef
        cases o.op <;> simp [isEff, drvS]
      refine (opT_ok hC hM hR hef ht h).monoE (fun v _ hh => ?_) (fun v hr _ => (clash hr).elim) (fun Y v hr _ => (clash' hr).elim) fun n v m' he hh => ?_
      · obtain ⟨_, ⟨z', vs', sv, O', h0, h1, h2, h3, h4, h5⟩, hqt, q, hc, hq⟩ := hh
        obtain ⟨g1, g2⟩ := hL.eff (B := B) (qt := quietOf X E O o.op) hM h1.le h2 (Chg.any (Chg.refl m) none) (.inl rfl) (fun _ => rfl) hchk
        have e2 := (hg.eff (O := O) (i := i) (qt := quietOf X E O o.op) (Chg.refl m) (.inl rfl : TgtQ vs ts none))
        exact ⟨trivial, hk h0 h1 h2 h3 ((hE.mono h1.le h2).put h4) (ynLg_ok ⟨g2.rd, fun x hx => g2.ef x (List.mem_cons_of_mem _ hx), g2.nw⟩) (Lg2.put ⟨e2.n, fun x hx => e2.fl x (List.mem_cons_of_mem _ hx), e2.old⟩ fun hd => (nd hd).elim) h5⟩
      · obtain ⟨⟨z', vs', sv, O', h0, h1, h2, h3, h4, h5⟩, hqt, q, hc, hq⟩ := hh
        obtain ⟨g1, g2⟩ := hL.eff (B := B) hM h1.le h2 hc hq hqt hchk
        exact ⟨g1, hk h0 h1 h2 h3 ((hE.mono h1.le h2).put h4) (ynLg_ok g2) (Lg2.put (hg.eff hc hq) fun hd => (nd hd).elim) h5⟩
    · cases h
  · rename_i hef
    split at h
    · rename_i s hs
      obtain ⟨hchk, h⟩ := ite_some h
      refine (op1_ok hC rfl hM hR h).monoE (fun v hp hh => ?_) (fun v hr hh => ?_) (fun Y v hr hh => ?_) fun n v m' he _ => absurd (eff_isEff he) hef
      · obtain ⟨_, z', vs', sv, O', h0, h1, h2, h3, h4, h5⟩ := hh
        dsimp only at h5
        split at h5
        · rename_i n hn
          exact ⟨trivial, hk h0 h1 h2 h3 ((hE.mono h1.le h2).put h4) (ynLg_ok ((hL.quiet h1.le h2 rfl).sup i s n)) (Lg2.put (L := rdLg i s n L) (hg.log rfl rfl rfl) fun hd => pure_drv hg hd hp) h5⟩
        · cases h5
      · obtain ⟨z', vs', sv, O', h0, h1, h2, h3, h4, h5⟩ := hh
        dsimp only at h5
        split at h5
        · rename_i n hn
          obtain ⟨g1, g2⟩ := hL.read (n := n) (B := B) (i := i) hM hR h1.le h2 hs hchk hr hg
          exact ⟨g1, hk h0 h1 h2 h3 ((hE.mono h1.le h2).put h4) (ynLg_ok g2) (Lg2.put (L := rdLg i s n L) (hg.log rfl rfl rfl) fun hd => (by
            have := read_looks hr
            revert this hd
            cases o.op <;> simp [drvS, looks])) h5⟩
        · cases h5
      · obtain ⟨z', vs', sv, O', h0, h1, h2, h3, h4, h5⟩ := hh
        dsimp only at h5
        split at h5
        · rename_i n hn
          rw [nwOf, if_pos (new_makes hr)] at hn
          obtain ⟨j, rfl, hj⟩ := new_of hr h4 hn
          exact ⟨trivial, hk h0 h1 h2 h3 ((hE.mono h1.le h2).put h4) (ynLg_ok (hL.new (i := i) (s := s) (Y := Y) h1.le h2 hj)) (Lg2.put (L := rdLg i s (some j) L) ((hg.grow (Chg.push m Y)).log rfl rfl rfl) fun hd => (by
            have := new_makes hr
            revert this hd
            cases o.op <;> simp [drvS, makes])) h5⟩
        · cases h5
    · cases h
theorem opD_ok (hC : COk X) {B : Array Nat} {ops l : List Oper} {i : Nat} {A : Acc} {L : Lg} {n0 : Nat} {Q : (Nat → Value) → Mem → Prop} {K : Lg → List (Nat × SV D) → List (Ob D) → Option ρ} (hM : Mm X.G O z e m k vs) (hE : Rl X z vs E fr) (hL : LgOk z m vs A L) (hg : Lg2 n0 fr E m A L) (h : opD X B i o L E O K = some r)
    (hk : ∀ {z' : Nat → Blk} {vs' : List Value} {m' : Mem} {A' : Acc} {L' : Lg} {E' : List (Nat × SV D)} {O' : List (Ob D)} {v : Value}, Inv O O' → Zx e.next z z' → (∀ (i : Nat) (u : Value), vs[i]? = some u → vs'[i]? = some u) → Mm X.G O' z' e m' k vs' → Rl X z' vs' E' (set fr o.dst v) → LgOk z' m' vs' A' L' → Lg2 n0 (set fr o.dst v) E' m' A' L' → K L' E' O' = some r → DrawW P ops B (i + 1) l A' Q (set fr o.dst v) m') :
    StepX P (ev fr) o m fun t v m1 => obl B i A m t m1 ∧ DrawW P ops B (i + 1) l (accT A i m t) Q (set fr o.dst v) m1 := by
  unfold opD at h
  split at h
  · rename_i dd hpd
    obtain ⟨E', hE', hq, h⟩ := splitE_ok2 hE h
    have hg' := hg.split hq
    exact opD1_ok hC hM hE' hL hg' h hk
  · exact opD1_ok hC hM hE hL hg h hk
theorem DrawW.mono {ops l : List Oper} {B : Array Nat} {i : Nat} {A : Acc} {K K' : (Nat → Value) → Mem → Prop} (h : DrawW P ops B i l A K fr m) (hk : ∀ fr m, K fr m → K' fr m) : DrawW P ops B i l A K' fr m :=
  let ⟨n, fr', m', h1, h2⟩ := h; ⟨n, fr', m', h1, hk _ _ h2⟩
theorem runD_ok (hC : COk X) {B : Array Nat} {ops : List Oper} {n0 : Nat} {K : List (Nat × SV D) → List (Ob D) → Option ρ} : ∀ {l : List Oper} {i : Nat} {A : Acc} {L : Lg} {E : List (Nat × SV D)} {O : List (Ob D)} {z : Nat → Blk} {vs : List Value} {m : Mem} {fr : Nat → Value}, Mm X.G O z e m k vs → Rl X z vs E fr → LgOk z m vs A L → Lg2 n0 fr E m A L → runD X B ops i l L E O K = some r → DrawW P ops B i l A (Nx X O z e k vs K r) fr m
  | [], i, A, L, E, O, z, vs, m, fr, hM, hE, hL, hG, h => DrawW.done fun fr' hf => by rw [hf]; exact Nx.here hM hE h
  | o :: l, i, A, L, E, O, z, vs, m, fr, hM, hE, hL, hG, h => by
    unfold runD at h
    have step : ∀ {E : List (Nat × SV D)}, Rl X z vs E fr → Lg2 n0 fr E m A L → (opD X B i o L E O fun L E O => runD X B ops (i + 1) l L E O K) = some r → StepX P (ev fr) o m fun t v m1 => obl B i A m t m1 ∧ DrawW P ops B (i + 1) l (accT A i m t) (Nx X O z e k vs K r) (set fr o.dst v) m1 := by
      intro E hE hg h
      refine opD_ok hC hM hE hL hg h ?_
      intro z' vs' m' A' L' E' O' v h0 h1 h2 h3 h4 h5 h7 h6
      exact DrawW.mono (runD_ok hC h3 h4 h5 h7 h6) fun _ _ hn => hn.from h0 h1 h2
    split at h
    · rename_i hg
      exact DrawW.cons (by simp only [wanted, hg]) (step hE hG h)
    · rename_i j want hg
      split at h
      · cases h
      · rename_i d hd
        obtain ⟨E1, hE1, hq1, h⟩ := splitE_ok2 hE h
        have hg1 := hG.split hq1
        have hv := hE1 d
        split at h
        · rename_i b hs
          rw [hs] at hv
          split at h
          · rename_i hb
            exact DrawW.consG hg hd hv hb (step hE1 hg1 h)
          · rename_i hb
            exact DrawW.skipG hg hd hv (by cases b <;> cases want <;> simp at hb ⊢) (runD_ok hC hM (hE1.put (s := .undef) rfl) hL hg1.skip h)
        · rename_i hs
          rw [hs] at hv
          exact DrawW.skipU hg hd hv (runD_ok hC hM (hE1.put (s := .undef) rfl) hL hg1.skip h)
        · cases h
theorem LgOk.start : LgOk z m vs ⟨[], [], []⟩ ⟨[], [], [], [], []⟩ := ⟨by simp, by simp, by simp⟩
/-! ### Code -/
/-- A piece does what it says. -/
def PcOk (X : Ev P D) (B : Code) (u : Pc D) : Prop := ∀ {ρ : Type} (E : List (Nat × SV D)) (O : List (Ob D)) (K : AExit → List (Nat × SV D) → List (Ob D) → Option ρ) (r : ρ) {z : Nat → Blk} {e m : Mem} {k : Option Nat} {vs : List Value} {fr : Nat → Value},
  u.fits E O = true → Mm X.G O z e m k vs → Rl X z vs E fr → u.run E O K = some r → W P (sub B u.path) (fun x => Nx X O z e k vs (K x) r) fr m
theorem sub_app : ∀ (c : Code) (p q : List Nat), sub (sub c p) q = sub c (p ++ q) := by
  intro c p
  induction p generalizing c with
  | nil => intro q; cases c <;> rfl
  | cons i p ih =>
    intro q
    cases c with
    | seq a b => cases i with
      | zero => exact ih a q
      | succ i => exact ih b q
    | cond x a b => cases i with
      | zero => exact ih a q
      | succ i => exact ih b q
    | block n c => cases i with
      | zero => exact ih c q
      | succ i => exact ih c q
    | loop c => cases i with
      | zero => exact ih c q
      | succ i => exact ih c q
    | _ => rcases q with _ | ⟨_ | j, q⟩ <;> cases i <;> rfl
theorem sub_snoc {B c : Code} {p : List Nat} {i : Nat} (h : sub B p.reverse = c) : sub B (i :: p).reverse = sub c [i] := by rw [List.reverse_cons, ← sub_app, h]
theorem sub_nil (c : Code) : sub c [] = c := by cases c <;> rfl
theorem eqP_eq : ∀ {p q : List Nat}, eqP p q = true → p = q
  | [], [], _ => rfl
  | a :: p, b :: q, h => by
    simp only [eqP, Bool.and_eq_true] at h
    rw [Nat.eq_of_beq_eq_true h.1, eqP_eq h.2]
  | [], _ :: _, h => by cases h
  | _ :: _, [], h => by cases h
theorem findP_some {us : List (Pc D)} {p : List Nat} {u : Pc D} (h : findP us p E O = some u) : u ∈ us ∧ u.path = p ∧ u.fits E O = true := by
  induction us with
  | nil => cases h
  | cons w us ih =>
    simp only [findP] at h
    split at h
    · rename_i hw
      cases h
      simp only [Bool.and_eq_true] at hw
      exact ⟨List.mem_cons_self, eqP_eq hw.1, hw.2⟩
    · obtain ⟨h1, h2⟩ := ih h
      exact ⟨List.mem_cons_of_mem _ h1, h2⟩
theorem exC_ok (hC : COk X) {B : Code} {us : List (Pc D)} {L : Nat} (hus : ∀ u ∈ us, L < u.path.length → PcOk X B u) :
    ∀ (c : Code) (top : Bool) (p : List Nat) (E : List (Nat × SV D)) (O : List (Ob D)) (K : AExit → List (Nat × SV D) → List (Ob D) → Option ρ) (r : ρ) {z : Nat → Blk} {vs : List Value} {m : Mem} {fr : Nat → Value},
      sub B p.reverse = c → L ≤ p.length → (top = false → L < p.length) → Mm X.G O z e m k vs → Rl X z vs E fr → exC X us calm top p c E O K = some r → W P c (fun x => Nx X O z e k vs (K x) r) fr m := by
  intro c
  have piece : ∀ {c : Code} {top : Bool} {p : List Nat} {E : List (Nat × SV D)} {O : List (Ob D)} {K : AExit → List (Nat × SV D) → List (Ob D) → Option ρ} {r : ρ} {z : Nat → Blk} {vs : List Value} {m : Mem} {fr : Nat → Value} {u : Pc D},
      sub B p.reverse = c → (top = false → L < p.length) → Mm X.G O z e m k vs → Rl X z vs E fr → (if top = true then none else findP us p.reverse E O) = some u → u.run E O K = some r → W P c (fun x => Nx X O z e k vs (K x) r) fr m := by
    intro c top p E O K r z vs m fr u hp ht hM hE hu h
    cases top with
    | true => cases hu
    | false =>
      obtain ⟨h1, h2, h3⟩ := findP_some hu
      have := hus u h1 (by rw [h2, List.length_reverse]; exact ht rfl) E O K r h3 hM hE h
      rw [h2, hp] at this
      exact this
  induction c with
  | seq a b iha ihb =>
    intro top p E O K r z vs m fr hp hL ht hM hE h
    simp only [exC] at h
    split at h
    · rename_i u hu
      exact piece hp ht hM hE hu h
    · refine W.seq ((iha false (0 :: p) E O _ r (by rw [sub_snoc hp]; exact sub_nil a) (by simp; omega) (fun _ => by simp; omega) hM hE h).mono ?_)
      rintro x fr1 m1 ⟨z1, vs1, E1, O1, h0, h1, h2, h3, h4, h5⟩
      cases x with
      | normal =>
        have h5 := (if_pos rfl).symm.trans h5
        exact (ihb false (1 :: p) E1 O1 K r (by rw [sub_snoc hp]; exact sub_nil b) (by simp; omega) (fun _ => by simp; omega) h3 h4 h5).mono fun _ _ _ hn => hn.from h0 h1 h2
      | exit i => exact ⟨z1, vs1, E1, O1, h0, h1, h2, h3, h4, (if_neg (by simp)).symm.trans h5⟩
      | ret => exact ⟨z1, vs1, E1, O1, h0, h1, h2, h3, h4, (if_neg (by simp)).symm.trans h5⟩
  | cond x a b iha ihb =>
    intro top p E O K r z vs m fr hp hL ht hM hE h
    simp only [exC] at h
    split at h
    · rename_i u hu
      exact piece hp ht hM hE hu h
    · split at h
      · rename_i t hs
        have hx := look_rel hE x
        rw [hs] at hx
        cases t with
        | true =>
          rw [if_pos rfl] at h
          exact W.condT hx rfl (iha false (0 :: p) E O K r (by rw [sub_snoc hp]; exact sub_nil a) (by simp; omega) (fun _ => by simp; omega) hM hE h)
        | false =>
          rw [if_neg (by simp)] at h
          exact W.condF hx rfl (ihb false (1 :: p) E O K r (by rw [sub_snoc hp]; exact sub_nil b) (by simp; omega) (fun _ => by simp; omega) hM hE h)
      · cases h
  | block i c ih =>
    intro top p E O K r z vs m fr hp hL ht hM hE h
    simp only [exC] at h
    split at h
    · rename_i u hu
      exact piece hp ht hM hE hu h
    · refine W.block ((ih false (0 :: p) E O _ r (by rw [sub_snoc hp]; exact sub_nil c) (by simp; omega) (fun _ => by simp; omega) hM hE h).mono ?_)
      rintro x fr1 m1 hn
      obtain ⟨z1, vs1, E1, O1, h0, h1, h2, h3, h4, h5⟩ := hn
      cases x with
      | normal => exact ⟨z1, vs1, E1, O1, h0, h1, h2, h3, h4, by simpa using h5⟩
      | exit j =>
        by_cases hij : j = i
        · subst hij; exact blockQ.hit ⟨z1, vs1, E1, O1, h0, h1, h2, h3, h4, by simpa using h5⟩
        · exact blockQ.miss (by simpa using hij) ⟨z1, vs1, E1, O1, h0, h1, h2, h3, h4, by simpa [hij] using h5⟩
      | ret => exact ⟨z1, vs1, E1, O1, h0, h1, h2, h3, h4, by simpa using h5⟩
  | region id ops d =>
    intro top p E O K r z vs m fr hp hL ht hM hE h
    simp only [exC] at h
    split at h
    · rename_i u hu
      exact piece hp ht hM hE hu h
    · cases d with
      | true =>
        rw [if_pos rfl] at h
        split at h
        · rename_i hc
          exact W.calm hc (runL_ok hC hM hE h)
        · exact W.draw (runD_ok hC hM hE LgOk.start (Lg2.start hM hE) h)
      | false =>
        rw [if_neg (by simp)] at h
        exact W.region (runL_ok hC hM hE h)
  | loop c ih =>
    intro top p E O K r z vs m fr hp hL ht hM hE h
    simp only [exC] at h
    split at h
    · rename_i u hu
      exact piece hp ht hM hE hu h
    · cases h
  | skip => intro top p E O K r z vs m fr hp hL ht hM hE h; exact W.skip (Nx.here hM hE h)
  | label l => intro top p E O K r z vs m fr hp hL ht hM hE h; exact W.label (Nx.here hM hE h)
  | exit i => intro top p E O K r z vs m fr hp hL ht hM hE h; exact W.exit (Nx.here hM hE h)
  | ret => intro top p E O K r z vs m fr hp hL ht hM hE h; exact W.ret (Nx.here hM hE h)
  | _ => intro top p E O K r z vs m fr hp hL ht hM hE h; simp [exC] at h
end
end Go.AM
end
section
set_option linter.unusedSimpArgs false
set_option linter.unusedVariables false
namespace Go.AM
/-- Values. -/
inductive Cl where
  | int (k : IntKind) | bool | str
  | sl (e : Nat) | mp (t kt vt : Nat)
  | agg (t : Nat) | rp (t : Nat)
  | fn (f : Nat) (ts : List Nat)
/-- Objects. -/
inductive OC where
  | sl (e : Nat) | box (t : Nat) | recv (t : Nat) | arr (e t n : Nat) | map (t kt vt : Nat)
  /-- a variable some of whose cells are slices of the call's own: their places, the objects' numbers -/
  | bx (t : Nat) (l : List (Nat × Nat))
/-- What goes in and out: the value of a slot; the object of a slot; an object that stays in its place. -/
inductive It where
  | v (d : Nat) (c : Cl)
  | o (d : Nat) (c : OC)
  | u (j : Nat) (c : OC)
noncomputable section
section
variable {P : Program} {D : Nat → Type}
def inDs (D : Nat → Type) : List Nat → Type
  | [] => Unit
  | t :: ts => D t × inDs D ts
def Cl.ty (D : Nat → Type) : Cl → Type
  | .int _ => Int
  | .bool => Bool
  | .str => List UInt8
  | .sl e => List (D e)
  | .mp _ kt vt => List (D kt × D vt)
  | .agg t => D t
  | .rp t => D t
  | .fn _ ts => inDs D ts
def OC.ty (D : Nat → Type) : OC → Type
  | .sl e => List (D e)
  | .box t => D t
  | .recv t => D t
  | .arr e _ _ => List (D e)
  | .map _ kt vt => List (D kt × D vt)
  | .bx t _ => D t
def It.ty (D : Nat → Type) : It → Type
  | .v _ c => c.ty D
  | .o _ c => c.ty D
  | .u _ c => c.ty D
def inT (D : Nat → Type) : List It → Type
  | [] => Unit
  | i :: is => i.ty D × inT D is
variable (X : Ev P D)
def lvX (t : Nat) (x : D t) : List (CV D) := match X.I t with | some ti => ti.lv x | none => []
def pkX (t : Nat) (cs : List (CV D)) : Option (D t) := match X.I t with | some ti => ti.pk cs | none => none
def mkCaps : (ts : List Nat) → inDs D ts → List (Nat × List (CV D))
  | [], _ => []
  | t :: ts, x => (t, lvX X t x.1) :: mkCaps ts x.2
def gtCaps : (ts : List Nat) → List (Nat × List (CV D)) → Option (inDs D ts)
  | [], [] => some ()
  | t :: ts, p :: l => if p.1 = t then (match pkX X t p.2, gtCaps ts l with | some a, some b => some (a, b) | _, _ => none) else none
  | _, _ => none
def Cl.mk : (c : Cl) → c.ty D → SV D
  | .int k, n => .c (.int k n)
  | .bool, b => .c (.bool b)
  | .str, s => .c (.str s)
  | .sl e, xs => .c (.sl e xs)
  | .mp t kt vt, es => .c (.mp t kt vt es)
  | .agg t, x => .agg t (lvX X t x)
  | .rp t, x => .rp t (lvX X t x) 0
  | .fn f ts, x => .fn f (mkCaps X ts x)
def Cl.get : (c : Cl) → SV D → Option (c.ty D)
  | .int k, .c (.int k' n) => if k' = k then some n else none
  | .bool, .c (.bool b) => some b
  | .str, .c (.str s) => some s
  | .sl e, .c .nilS => some []
  | .mp t kt vt, .c .nilM => some []
  | .sl e, .c (.sl e' xs) => if h : e' = e then some (h ▸ xs) else none
  | .mp t kt vt, .c (.mp t' kt' vt' es) => if h : kt' = kt ∧ vt' = vt then (if t' = t then some (h.1 ▸ h.2 ▸ es) else none) else none
  | .agg t, .agg t' cs => if t' = t then pkX X t cs else none
  | .rp t, .rp t' cs off => if t' = t ∧ off = 0 then pkX X t cs else none
  | .fn f ts, .fn f' l => if f' = f then gtCaps X ts l else none
  | _, _ => none
def fndN : List (Nat × Nat) → Nat → Option Nat
  | [], _ => none
  | p :: l, i => if Nat.beq p.1 i = true then some p.2 else fndN l i
def ownG (τ : Nat → Nat) (l : List (Nat × Nat)) : Nat → List (CV D) → List (CV D)
  | _, [] => []
  | i, c :: cs => (match fndN l i with | some n => .own (τ n) | none => c) :: ownG τ l (i + 1) cs
def nilG (l : List (Nat × Nat)) : Nat → List (CV D) → List (CV D)
  | _, [] => []
  | i, c :: cs => (match fndN l i with | some _ => .nilS | none => c) :: nilG l (i + 1) cs
def OC.mkr (τ : Nat → Nat) : (c : OC) → c.ty D → Bool → Ob D
  | .sl e, xs, w => .sl e xs false w
  | .box t, x, w => .box t (lvX X t x) false w
  | .recv t, x, w => .recv t (lvX X t x) w
  | .arr e t n, xs, w => .arr e t n xs w
  | .map t kt vt, es, w => .map t kt vt es false w
  | .bx t l, x, w => .box t (ownG τ l 0 (lvX X t x)) false w
def OC.mk (c : OC) (x : c.ty D) (w : Bool) : Ob D := OC.mkr X (fun n => n) c x w
def OC.nums : OC → List Nat
  | .bx _ l => l.map Prod.snd
  | _ => []
def optB (a : Option Nat) (i : Nat) : Bool := match a with | some j => Nat.beq j i | none => false
def linkB (σ : List Nat) (cs : List (CV D)) : List (Nat × Nat) → Bool
  | [] => true
  | p :: l => (match cs[p.1]? with | some (.own i) => optB (σ[p.2]?) i | _ => false) && linkB σ cs l
def OC.get (σ : List Nat) : (c : OC) → Ob D → Option (c.ty D)
  | .sl e, .sl e' xs false _ => if h : e' = e then some (h ▸ xs) else none
  | .box t, .box t' cs false _ => if t' = t then pkX X t cs else none
  | .recv t, .recv t' cs _ => if t' = t then pkX X t cs else none
  | .arr e t n, .arr e' t' n' xs _ => if h : e' = e then (if t' = t ∧ n' = n then some (h ▸ xs) else none) else none
  | .map t kt vt, .map t' kt' vt' es false _ => if h : kt' = kt ∧ vt' = vt then (if t' = t then some (h.1 ▸ h.2 ▸ es) else none) else none
  | .bx t l, .box t' cs false _ => if t' = t ∧ linkB σ cs l = true then pkX X t (nilG l 0 cs) else none
  | _, _ => none
def Ob.clean : Ob D → Bool
  | .box _ cs _ _ => cs.all noNil
  | .recv _ cs _ => cs.all noNil
  | _ => true
/-- Values that are read for good. -/
def frzV (O : List (Ob D)) : SV D → Option (SV D × List (Ob D))
  | .c c => (match frzC O c with | some (c', O') => some (.c c', O') | none => none)
  | .agg t cs => (match frzL O cs with | some (cs', O') => some (.agg t cs', O') | none => none)
  | .cut i e lo n => (match frzO O i with | some (.sl e' xs, O') => if e' = e then some (.c (.sl e' ((xs.take n).drop lo)), O') else none | _ => none)
  | s => some (s, O)
def frzA (E : List (Nat × SV D)) : List It → List (Ob D) → Option (List (SV D) × List (Ob D))
  | [], O => some ([], O)
  | .v d _ :: its, O =>
    match frzV O (lkE E d) with
    | some (s, O') => (match frzA E its O' with | some (l, O'') => some (s :: l, O'') | none => none)
    | none => none
  | _ :: its, O => match frzA E its O with | some (l, O') => some (.un :: l, O') | none => none
/-- The object a value points at. -/
def idxOf : SV D → Option Nat
  | .c (.own i) => some i
  | .box i _ => some i
  | .arr i => some i
  | .el i _ _ _ => some i
  | _ => none
/-- Own slices in the cells of a variable that are not named by its class are frozen. -/
def unl (l : List (Nat × Nat)) : Nat → List (CV D) → Bool
  | _, [] => false
  | i, c :: cs => (match c with | .own _ => (match fndN l i with | none => true | _ => false) | _ => false) || unl l (i + 1) cs
def frzG (l : List (Nat × Nat)) : Nat → List (CV D) → List (Ob D) → Option (List (CV D) × List (Ob D))
  | _, [], O => some ([], O)
  | i, c :: cs, O =>
    match (match fndN l i with | some _ => some (c, O) | none => frzC O c) with
    | some (c', O') => (match frzG l (i + 1) cs O' with | some (cs', O'') => some (c' :: cs', O'') | none => none)
    | none => none
def frzX (l : List (Nat × Nat)) (O : List (Ob D)) (i : Nat) : Option (List (Ob D)) :=
  match O[i]? with
  | some (.box t cs false _) => if unl l 0 cs = true then (match frzG l 0 cs O with | some (cs', O') => some (O'.set i (.box t cs' false true)) | none => none) else some O
  | _ => some O
/-- Where an object of an item is found: in a slot; in a cell of the variable that a slot points at. -/
def VC : Nat := 2000000
def anch (E : List (Nat × SV D)) (O : List (Ob D)) (d : Nat) : Option Nat :=
  if Nat.blt d VC = true then idxOf (lkE E d)
  else match lkE E ((d - VC) / 1000) with
    | .box i 0 => (match O[i]? with | some (.box _ cs _ _) => (match cs[(d - VC) % 1000]? with | some (.own n) => some n | _ => none) | _ => none)
    | _ => none
def ancs (E : List (Nat × SV D)) (O : List (Ob D)) : List It → Option (List Nat)
  | [] => some []
  | .o d _ :: its => (match anch E O d, ancs E O its with | some i, some l => some (i :: l) | _, _ => none)
  | _ :: its => ancs E O its
def frzB (E : List (Nat × SV D)) : List It → List (Ob D) → Option (List (Ob D))
  | [], O => some O
  | .o d (.box _) :: its, O => (match anch E O d with | some i => (match frzX [] O i with | some O' => frzB E its O' | none => none) | none => none)
  | .o d (.bx _ l) :: its, O => (match anch E O d with | some i => (match frzX l O i with | some O' => frzB E its O' | none => none) | none => none)
  | .u j (.box _) :: its, O => (match frzX [] O j with | some O' => frzB E its O' | none => none)
  | .u j (.bx _ l) :: its, O => (match frzX l O j with | some O' => frzB E its O' | none => none)
  | _ :: its, O => frzB E its O
def rdB (σ0 : List Nat) (O : List (Ob D)) : (its : List It) → List (SV D) → List Nat → Option (inT D its)
  | [], _, [] => some ()
  | .v d c :: its, s :: l, σ => (match Cl.get X c s, rdB σ0 O its l σ with | some x, some y => some (x, y) | _, _ => none)
  | .o d c :: its, _ :: l, i :: σ =>
    match O[i]? with
    | some o => (match OC.get X σ0 c o, rdB σ0 O its l σ with | some x, some y => some (x, y) | _, _ => none)
    | none => none
  | .u j c :: its, _ :: l, σ =>
    match O[j]? with
    | some o => (match OC.get X σ0 c o, rdB σ0 O its l σ with | some x, some y => some (x, y) | _, _ => none)
    | none => none
  | _, _, _ => none
def mkO : (its : List It) → inT D its → List (Ob D)
  | [], _ => []
  | .o _ c :: its, x => OC.mk X c x.1 false :: mkO its x.2
  | .v _ _ :: its, x => mkO its x.2
  | .u _ _ :: its, x => mkO its x.2
def mkE : (its : List It) → inT D its → List (Nat × SV D)
  | [], _ => []
  | .v d c :: its, x => (d, Cl.mk X c x.1) :: mkE its x.2
  | .o _ _ :: its, x => mkE its x.2
  | .u _ _ :: its, x => mkE its x.2
/-- Values without contents: 'σ' says what the objects' numbers are. -/
def fxT (σ : List Nat) : SV D → SV D → Bool
  | .c (.own j), .c (.own i) => optB (σ[j]?) i
  | .box j o, .box i p => optB (σ[j]?) i && Nat.beq o p
  | .arr j, .arr i => optB (σ[j]?) i
  | .c .nilS, .c .nilS => true
  | .c .nilP, .c .nilP => true
  | .c .nilM, .c .nilM => true
  | .undef, .undef => true
  | .un, _ => true
  | .c (.int k n), .c (.int k' n') => decide (k = k') && (n == n')
  | .c (.bool b), .c (.bool b') => b == b'
  | .fn f [], .fn f' [] => Nat.beq f f'
  | _, _ => false
def rnS (τ : Nat → Nat) : SV D → SV D
  | .c (.own j) => .c (.own (τ j))
  | .box j o => .box (τ j) o
  | .arr j => .arr (τ j)
  | s => s
def nodupB : List Nat → Bool
  | [] => true
  | i :: l => !(l.any fun j => Nat.beq j i) && nodupB l
def tchAt (O : List (Ob D)) (i : Nat) : Bool := match O[i]? with | some o => o.tch || !o.clean | none => true
def nrm (σ0 : List Nat) : (its : List It) → inT D its → List Nat → List (Ob D) → List (Ob D)
  | .o _ c :: its, x, i :: σ, O => nrm σ0 its x.2 σ (O.set i (OC.mkr X (fun n => σ0.getD n 0) c x.1 (tchAt O i)))
  | .v _ _ :: its, x, σ, O => nrm σ0 its x.2 σ O
  | .u _ _ :: its, x, σ, O => nrm σ0 its x.2 σ O
  | _, _, _, O => O
/-- What goes in is read: contents, the objects' numbers, the objects afterwards. -/
def rdIn0 (its : List It) (fx : List (Nat × SV D)) (E : List (Nat × SV D)) (O : List (Ob D)) : Option (inT D its × List Nat × List (Ob D)) :=
  match frzA E its O, ancs E O its with
  | some (svs, O1), some σ =>
    if (nodupB σ && fx.all fun p => fxT σ p.2 (lkE E p.1)) = true then
      match rdB X σ O1 its svs σ with
      | some x => some (x, σ, nrm X σ its x σ O1)
      | none => none
    else none
  | _, _ => none
def rdIn (its : List It) (fx : List (Nat × SV D)) (E : List (Nat × SV D)) (O : List (Ob D)) : Option (inT D its × List Nat × List (Ob D)) :=
  match frzB E its O with
  | some O0 => rdIn0 X its fx E O0
  | none => none
end
/-! ### Cells written down for good -/
section
variable {P : Program} {D : Nat → Type} {X : Ev P D} {z z' : Nat → Blk} {e m m' : Mem} {k : Option Nat} {vs vs' : List Value} {fr : Nat → Value} {E : List (Nat × SV D)} {O O' : List (Ob D)}
theorem lvX_vs {t : Nat} {x : D t} {ds : List Value} (h : L2 (rel0 X.G z vs) (lvX X t x) ds) : L2 (rel0 X.G z vs') (lvX X t x) ds := by
  unfold lvX at h ⊢
  split at h
  · rename_i ti _
    exact ti.rdl z vs' x ds (ti.pkl z vs _ x ds (ti.pklv x) h)
  · exact L2.mono (fun _ _ h => h) (by cases ds with | nil => trivial | cons _ _ => exact h.elim)
theorem pkX_lv {t : Nat} {x : D t} {cs : List (CV D)} {ds : List Value} (hp : pkX X t cs = some x) (h : L2 (rel0 X.G z vs) cs ds) : L2 (rel0 X.G z vs') (lvX X t x) ds := by
  unfold pkX at hp
  unfold lvX
  split at hp
  · rename_i ti hI
    exact ti.rdl z vs' x ds (ti.pkl z vs cs x ds hp h)
  · cases hp
theorem pkX_n {t : Nat} {x : D t} {cs : List (CV D)} (hp : pkX X t cs = some x) (h : cs.all noNil = true) : cs = lvX X t x := by
  unfold pkX at hp
  unfold lvX
  split at hp
  · rename_i ti hI
    exact ti.pkn cs x hp h
  · cases hp
theorem mkCaps_vs : ∀ {ts : List Nat} {x : inDs D ts} {gs : List Value}, L2 (fun c g => relP X.G z vs c.2 0 g) (mkCaps X ts x) gs → L2 (fun c g => relP X.G z vs' c.2 0 g) (mkCaps X ts x) gs
  | [], _, [], _ => trivial
  | [], _, _ :: _, h => h.elim
  | t :: ts, x, [], h => h.elim
  | t :: ts, x, g :: gs, ⟨⟨b, o, ds, h1, h2, h3⟩, h4⟩ => ⟨⟨b, o, ds, h1, h2, lvX_vs h3⟩, mkCaps_vs h4⟩
theorem gtCaps_ok : ∀ {ts : List Nat} {l : List (Nat × List (CV D))} {x : inDs D ts} {gs : List Value}, gtCaps X ts l = some x → L2 (fun c g => relP X.G z vs c.2 0 g) l gs → L2 (fun c g => relP X.G z vs' c.2 0 g) (mkCaps X ts x) gs
  | [], [], _, [], _, _ => trivial
  | [], [], _, _ :: _, _, h => h.elim
  | [], _ :: _, _, _, h, _ => by cases h
  | _ :: _, [], _, _, h, _ => by cases h
  | t :: ts, p :: l, x, [], _, h => h.elim
  | t :: ts, p :: l, x, g :: gs, h, ⟨⟨b, o, ds, h1, h2, h3⟩, h4⟩ => by
    simp only [gtCaps] at h
    split at h
    · split at h
      · rename_i a b' ha hb
        cases h
        exact ⟨⟨b, o, ds, h1, h2, pkX_lv ha h3⟩, gtCaps_ok hb h4⟩
      · cases h
    · cases h
theorem Cl.mk_vs {c : Cl} {x : c.ty D} {v : Value} (h : rel X.G z vs (Cl.mk X c x) v) : rel X.G z vs' (Cl.mk X c x) v := by
  cases c with
  | agg t => obtain ⟨ds, h1, h2⟩ := h; exact ⟨ds, h1, lvX_vs h2⟩
  | rp t => obtain ⟨b, o, ds, h1, h2, h3⟩ := h; exact ⟨b, o, ds, h1, h2, lvX_vs h3⟩
  | fn f ts => obtain ⟨gs, h1, h2⟩ := h; exact ⟨gs, h1, mkCaps_vs h2⟩
  | _ => exact h
theorem Cl.get_ok {c : Cl} {x : c.ty D} {s : SV D} {v : Value} (hg : Cl.get X c s = some x) (h : rel X.G z vs s v) : rel X.G z vs' (Cl.mk X c x) v := by
  unfold Cl.get at hg
  split at hg
  · split at hg
    · rename_i hk; cases hg; subst hk; exact h
    · cases hg
  · cases hg; exact h
  · cases hg; exact h
  · cases hg; exact .inl ⟨h, rfl⟩
  · cases hg; exact .inl ⟨h, rfl⟩
  · split at hg
    · rename_i hk; cases hg; subst hk; exact h
    · cases hg
  · split at hg
    · rename_i hk
      split at hg
      · rename_i ht
        obtain ⟨h1, h2⟩ := hk
        subst h1 h2 ht
        cases hg; exact h
      · cases hg
    · cases hg
  · obtain ⟨_, hg⟩ := ite_some hg
    obtain ⟨ds, h1, h2⟩ := h
    exact ⟨ds, h1, pkX_lv hg h2⟩
  · obtain ⟨hk, hg⟩ := ite_some hg
    obtain ⟨b, o, ds, h1, h2, h3⟩ := h
    exact ⟨b, o, ds, by rw [h1, hk.2], h2, pkX_lv hg h3⟩
  · obtain ⟨hk, hg⟩ := ite_some hg
    subst hk
    obtain ⟨gs, h1, h2⟩ := h
    exact ⟨gs, h1, gtCaps_ok hg h2⟩
  · cases hg
theorem OC.mkr_live {τ : Nat → Nat} {c : OC} {x : c.ty D} {w : Bool} : (OC.mkr X τ c x w).live = true := by cases c <;> rfl
theorem OC.mkr_tch {τ : Nat → Nat} {c : OC} {x : c.ty D} {w : Bool} : (OC.mkr X τ c x w).tch = w := by cases c <;> rfl
theorem OC.mk_live {c : OC} {x : c.ty D} {w : Bool} : (OC.mk X c x w).live = true := OC.mkr_live
/-- Relations by places. -/
theorem L2_iff {α β : Type} {R : α → β → Prop} : ∀ {l : List α} {k : List β}, L2 R l k ↔ l.length = k.length ∧ ∀ (i : Nat) (a : α) (b : β), l[i]? = some a → k[i]? = some b → R a b
  | [], [] => by simp [L2]
  | [], _ :: _ => by simp [L2]
  | _ :: _, [] => by simp [L2]
  | a :: l, b :: k => by
    simp only [L2, L2_iff (l := l) (k := k), List.length_cons]
    constructor
    · rintro ⟨h1, h2, h3⟩
      refine ⟨by omega, fun i x y hx hy => ?_⟩
      cases i with
      | zero => simp at hx hy; subst hx hy; exact h1
      | succ i => exact h3 i x y (by simpa using hx) (by simpa using hy)
    · rintro ⟨h1, h2⟩
      exact ⟨h2 0 a b rfl rfl, by omega, fun i x y hx hy => h2 (i + 1) x y (by simpa using hx) (by simpa using hy)⟩
theorem ownG_get {τ : Nat → Nat} {l : List (Nat × Nat)} : ∀ {cs : List (CV D)} {i0 i : Nat}, (ownG τ l i0 cs)[i]? = (cs[i]?).map fun c => match fndN l (i0 + i) with | some n => .own (τ n) | none => c
  | [], i0, i => by simp [ownG]
  | c :: cs, i0, 0 => by simp [ownG]
  | c :: cs, i0, i + 1 => by
    simp only [ownG, List.getElem?_cons_succ]
    rw [ownG_get (cs := cs), show i0 + 1 + i = i0 + (i + 1) by omega]
theorem nilG_get {l : List (Nat × Nat)} : ∀ {cs : List (CV D)} {i0 i : Nat}, (nilG l i0 cs)[i]? = (cs[i]?).map fun c => match fndN l (i0 + i) with | some _ => .nilS | none => c
  | [], i0, i => by simp [nilG]
  | c :: cs, i0, 0 => by simp [nilG]
  | c :: cs, i0, i + 1 => by
    simp only [nilG, List.getElem?_cons_succ]
    rw [nilG_get (cs := cs), show i0 + 1 + i = i0 + (i + 1) by omega]
theorem ownG_len {τ : Nat → Nat} {l : List (Nat × Nat)} : ∀ {cs : List (CV D)} {i0 : Nat}, (ownG τ l i0 cs).length = cs.length
  | [], _ => rfl
  | c :: cs, i0 => by simp [ownG, ownG_len (cs := cs)]
theorem nilG_len {l : List (Nat × Nat)} : ∀ {cs : List (CV D)} {i0 : Nat}, (nilG l i0 cs).length = cs.length
  | [], _ => rfl
  | c :: cs, i0 => by simp [nilG, nilG_len (cs := cs)]
theorem fndN_mem : ∀ {l : List (Nat × Nat)} {i n : Nat}, fndN l i = some n → (i, n) ∈ l
  | [], _, _, h => by cases h
  | p :: l, i, n, h => by
    simp only [fndN] at h
    split at h
    · rename_i hp
      cases h
      have := Nat.eq_of_beq_eq_true hp
      subst this
      exact List.mem_cons_self
    · exact List.mem_cons_of_mem _ (fndN_mem h)
theorem linkB_at {σ : List Nat} {cs : List (CV D)} : ∀ {l : List (Nat × Nat)}, linkB σ cs l = true → ∀ p ∈ l, ∃ i, cs[p.1]? = some (.own i) ∧ σ[p.2]? = some i
  | [], _, _, h => by simp at h
  | q :: l, h, p, hp => by
    simp only [linkB, Bool.and_eq_true] at h
    rcases List.mem_cons.1 hp with rfl | hp
    · have h1 := h.1
      split at h1
      · rename_i i hi
        refine ⟨i, hi, ?_⟩
        unfold optB at h1
        split at h1
        · rename_i j hj; rw [hj, Nat.eq_of_beq_eq_true h1]
        · cases h1
      · cases h1
    · exact linkB_at h.2 p hp
theorem lvX_own {t : Nat} {x : D t} : (lvX X t x).all nOwn = true := by
  unfold lvX
  split
  · rename_i ti _; exact ti.lvo x
  · rfl
theorem rel0_nOwn {c : CV D} {v : Value} (hc : nOwn c = true) (h : rel0 X.G z vs c v) : rel0 X.G z vs' c v := by
  cases c <;> first | exact h | cases hc
/-- The cells of an object, under other numbers. -/
def OwnIn (i : Nat) : Ob D → Prop
  | .box _ cs _ _ => .own i ∈ cs
  | _ => False
theorem OC.mkr_okC {τ τ' : Nat → Nat} {c : OC} {x : c.ty D} {v : Value} {w : Bool} (w' : Bool) (h : ObOk X.G z e m k vs (OC.mkr X τ c x w) v) (hv : ∀ n ∈ c.nums, OwnIn (τ n) (OC.mkr X τ c x w) → ∀ u, vs[τ n]? = some u → vs'[τ' n]? = some u) : ObOk X.G z e m k vs' (OC.mkr X τ' c x w') v := by
  cases c with
  | box t => obtain ⟨b, ds, h1, h2, h3, h4⟩ := h; exact ⟨b, ds, h1, h2, h3, lvX_vs h4⟩
  | recv t => obtain ⟨b, ds, h1, h2, h4⟩ := h; exact ⟨b, ds, h1, h2, lvX_vs h4⟩
  | bx t l =>
    obtain ⟨b, ds, h1, h2, h3, h4⟩ := h
    refine ⟨b, ds, h1, h2, h3, L2_iff.2 ⟨?_, fun i a d ha hd => ?_⟩⟩
    · have := (L2_iff.1 h4).1
      rw [ownG_len] at this ⊢; exact this
    · rw [ownG_get] at ha
      obtain ⟨a0, h0, ha⟩ := Option.map_eq_some_iff.1 ha
      have hr := (L2_iff.1 h4).2 i _ d (by rw [ownG_get, h0]; rfl) hd
      rw [Nat.zero_add] at ha hr
      cases hf : fndN l i with
      | none =>
        rw [hf] at ha hr
        subst ha
        exact rel0_nOwn (List.all_eq_true.1 lvX_own a0 (List.mem_of_getElem? h0)) hr
      | some n =>
        rw [hf] at ha hr
        subst ha
        exact ⟨hv n (List.mem_map.2 ⟨_, fndN_mem hf, rfl⟩) (List.mem_of_getElem? (i := i) (by rw [ownG_get, h0, Nat.zero_add, Option.map_some, hf])) d hr.1, hr.2⟩
  | _ => exact h
theorem OC.mkr_ok {τ τ' : Nat → Nat} {c : OC} {x : c.ty D} {v : Value} {w : Bool} (w' : Bool) (h : ObOk X.G z e m k vs (OC.mkr X τ c x w) v) (hv : ∀ n ∈ c.nums, ∀ u, vs[τ n]? = some u → vs'[τ' n]? = some u) : ObOk X.G z e m k vs' (OC.mkr X τ' c x w') v := OC.mkr_okC w' h fun n hn _ => hv n hn
/-- What is read of an object, written down under other numbers. -/
theorem OC.get_ok {σ : List Nat} {τ : Nat → Nat} {c : OC} {x : c.ty D} {o : Ob D} {v : Value} (hg : OC.get X σ c o = some x) (h : ObOk X.G z e m k vs o v) (hv : ∀ n i u, σ[n]? = some i → vs[i]? = some u → vs'[τ n]? = some u) (w : Bool) : ObOk X.G z e m k vs' (OC.mkr X τ c x w) v := by
  unfold OC.get at hg
  split at hg
  · split at hg
    · rename_i hk; cases hg; subst hk; exact h
    · cases hg
  · obtain ⟨hk, hg⟩ := ite_some hg
    subst hk
    obtain ⟨b, ds, h1, h2, h3, h4⟩ := h
    exact ⟨b, ds, h1, h2, h3, pkX_lv hg h4⟩
  · obtain ⟨hk, hg⟩ := ite_some hg
    subst hk
    obtain ⟨b, ds, h1, h2, h4⟩ := h
    exact ⟨b, ds, h1, h2, pkX_lv hg h4⟩
  · split at hg
    · rename_i hk
      split at hg
      · rename_i ht
        obtain ⟨h1, h2⟩ := ht
        subst hk h1 h2
        cases hg; exact h
      · cases hg
    · cases hg
  · split at hg
    · rename_i hk
      split at hg
      · rename_i ht
        obtain ⟨h1, h2⟩ := hk
        subst h1 h2 ht
        cases hg; exact h
      · cases hg
    · cases hg
  · rename_i t l t' cs w0
    obtain ⟨hk, hg⟩ := ite_some hg
    obtain ⟨rfl, hl⟩ := hk
    obtain ⟨b, ds, h1, h2, h3, h4⟩ := h
    have hlen := (L2_iff.1 h4).1
    -- the cells, nil in the places of the own ones
    have hn : L2 (rel0 X.G z vs) (nilG l 0 cs) ((List.range ds.length).map fun i => match fndN l i with | some _ => Value.slice none 0 0 | none => ds.getD i undef) := by
      refine L2_iff.2 ⟨by rw [nilG_len]; simp [hlen], fun i a d ha hd => ?_⟩
      rw [nilG_get] at ha
      obtain ⟨a0, h0, ha⟩ := Option.map_eq_some_iff.1 ha
      rw [Nat.zero_add] at ha
      have hi : i < ds.length := by rw [← hlen]; exact (List.getElem?_eq_some_iff.1 h0).1
      rw [List.getElem?_map, List.getElem?_range hi] at hd
      have hd := Option.some.inj hd
      cases hf : fndN l i with
      | none =>
        rw [hf] at ha
        simp only [hf] at hd
        subst ha hd
        exact (L2_iff.1 h4).2 i a0 _ h0 (by simp [List.getD, List.getElem?_eq_getElem hi])
      | some n =>
        rw [hf] at ha
        simp only [hf] at hd
        subst ha hd
        exact rfl
    have hn := pkX_lv (vs' := vs') hg hn
    refine ⟨b, ds, h1, h2, h3, L2_iff.2 ⟨by rw [ownG_len, (L2_iff.1 hn).1]; simp, fun i a d ha hd => ?_⟩⟩
    rw [ownG_get] at ha
    obtain ⟨a0, h0, ha⟩ := Option.map_eq_some_iff.1 ha
    rw [Nat.zero_add] at ha
    have hi : i < ds.length := (List.getElem?_eq_some_iff.1 hd).1
    cases hf : fndN l i with
    | none =>
      rw [hf] at ha
      subst ha
      have := (L2_iff.1 hn).2 i a0 d h0 (by rw [List.getElem?_map, List.getElem?_range hi]; simp only [Option.map_some, hf]; simp [List.getD, hd])
      exact this
    | some n =>
      rw [hf] at ha
      subst ha
      obtain ⟨i0, g1, g2⟩ := linkB_at hl _ (fndN_mem hf)
      have hr := (L2_iff.1 h4).2 i _ d g1 hd
      exact ⟨hv n i0 d g2 hr.1, hr.2⟩
  · cases hg
theorem OC.get_nums {σ : List Nat} {c : OC} {x : c.ty D} {o : Ob D} (hg : OC.get X σ c o = some x) : ∀ n ∈ c.nums, ∃ i, σ[n]? = some i := by
  intro n hn
  unfold OC.get at hg
  split at hg
  · simp [OC.nums] at hn
  · simp [OC.nums] at hn
  · simp [OC.nums] at hn
  · simp [OC.nums] at hn
  · simp [OC.nums] at hn
  · obtain ⟨⟨_, hl⟩, _⟩ := ite_some hg
    obtain ⟨p, hp, rfl⟩ := List.mem_map.1 hn
    obtain ⟨i, _, h⟩ := linkB_at hl p hp
    exact ⟨i, h⟩
  · cases hg
theorem OC.get_live {σ : List Nat} {c : OC} {x : c.ty D} {o : Ob D} (hg : OC.get X σ c o = some x) : o.live = true := by
  unfold OC.get at hg
  split at hg <;> first | rfl | cases hg
theorem OC.get_clean {σ : List Nat} {τ : Nat → Nat} {c : OC} {x : c.ty D} {o : Ob D} (hg : OC.get X σ c o = some x) (h : o.clean = true) (hc : c.nums = []) : o = OC.mkr X τ c x o.tch := by
  unfold OC.get at hg
  split at hg
  · split at hg
    · rename_i hk; cases hg; subst hk; rfl
    · cases hg
  · obtain ⟨hk, hg⟩ := ite_some hg
    subst hk
    simp only [OC.mkr, Ob.tch]
    rw [← pkX_n hg h]
  · obtain ⟨hk, hg⟩ := ite_some hg
    subst hk
    simp only [OC.mkr, Ob.tch]
    rw [← pkX_n hg h]
  · split at hg
    · rename_i hk
      split at hg
      · rename_i ht
        obtain ⟨h1, h2⟩ := ht
        subst hk h1 h2
        cases hg; rfl
      · cases hg
    · cases hg
  · split at hg
    · rename_i hk
      split at hg
      · rename_i ht
        obtain ⟨h1, h2⟩ := hk
        subst h1 h2 ht
        cases hg; rfl
      · cases hg
    · cases hg
  · rename_i t l t' cs w0
    obtain ⟨⟨rfl, hl⟩, hg⟩ := ite_some hg
    have hl0 : l = [] := List.map_eq_nil_iff.1 hc
    subst hl0
    have e1 : ∀ (cs : List (CV D)) (i : Nat), nilG [] i cs = cs := by
      intro cs
      induction cs with
      | nil => intro i; rfl
      | cons c cs ih => intro i; show c :: nilG [] (i + 1) cs = _; rw [ih]
    have e2 : ∀ (cs : List (CV D)) (i : Nat), ownG τ [] i cs = cs := by
      intro cs
      induction cs with
      | nil => intro i; rfl
      | cons c cs ih => intro i; show c :: ownG τ [] (i + 1) cs = _; rw [ih]
    rw [e1] at hg
    simp only [OC.mkr, Ob.tch, e2]
    rw [← pkX_n hg h]
  · cases hg
end
end
end Go.AM
end
section
set_option linter.unusedSimpArgs false
set_option linter.unusedVariables false
namespace Go.AM
section
variable {P : Program} {D : Nat → Type} {X : Ev P D} {z z' : Nat → Blk} {e m m' : Mem} {k : Option Nat} {vs vs' : List Value} {fr : Nat → Value} {E : List (Nat × SV D)} {O O' : List (Ob D)}
/-- Some objects of a call, under other numbers. -/
theorem Mm.sel (h : Mm X.G O z e m k vs) (len : vs'.length = O'.length) (φ : Nat → Nat)
    (hl : ∀ (i : Nat) (o : Ob D), O'[i]? = some o → o.live = true → ∃ p v, O[φ i]? = some p ∧ p.live = true ∧ vs[φ i]? = some v ∧ vs'[i]? = some v ∧ ObOk X.G z e m k vs' o v)
    (hf : ∀ (i : Nat) (o : Ob D) (v : Value), O'[i]? = some o → o.live = false → vs'[i]? = some v → ObOk X.G z e m k vs' o v)
    (inj : ∀ (i j : Nat) (o p : Ob D), O'[i]? = some o → O'[j]? = some p → o.live = true → p.live = true → φ i = φ j → i = j) : Mm X.G O' z e m k vs' where
  st := h.st
  len := len
  obj := fun i o v ho hv => by
    cases hL : o.live with
    | false => exact hf i o v ho hL hv
    | true =>
      obtain ⟨p, w, _, _, _, h4, h5⟩ := hl i o ho hL
      rw [hv] at h4; cases h4; exact h5
  ap := fun i j o p v w hij ho hp lo lp hv hw => by
    obtain ⟨p1, v1, g1, g2, g3, g4, _⟩ := hl i o ho lo
    obtain ⟨p2, v2, k1, k2, k3, k4, _⟩ := hl j p hp lp
    rw [hv] at g4; cases g4
    rw [hw] at k4; cases k4
    exact h.ap (φ i) (φ j) p1 p2 v w (fun hh => hij (inj i j o p ho hp lo lp hh)) g1 k1 g2 k2 g3 k3
theorem ObOk.frozen {o : Ob D} {v : Value} (hl : o.live = false) (h : ObOk X.G z e m k vs o v) (hz : Zle z z') (hv : ∀ (i : Nat) (u : Value), vs[i]? = some u → vs'[i]? = some u) : ObOk X.G z' e m' k vs' o v := by
  cases o with
  | dead => trivial
  | sl t xs fz _ => cases fz with
    | true => exact SlR.mono hz h
    | false => cases hl
  | box t cs fz _ => cases fz with
    | true => obtain ⟨b, ds, h1, h2, h3⟩ := h; exact ⟨b, ds, h1, cellsAt_mono hz h2, rels.mono h3 hz hv⟩
    | false => cases hl
  | map t kt vt es fz _ => cases fz with
    | true => exact MpR.mono h hz
    | false => cases hl
  | _ => cases hl
theorem Rl_of (h : ∀ p ∈ E, rel X.G z vs p.2 (fr p.1)) : Rl X z vs E fr := by
  induction E with
  | nil => intro d; trivial
  | cons p E ih => exact (ih fun q hq => h q (List.mem_cons_of_mem _ hq)).cons (h p List.mem_cons_self)
/-! ### Freezing -/
theorem frzV_ok {s s' : SV D} {v : Value} (hM : Mm X.G O z e m k vs) (h : frzV O s = some (s', O')) (hv : rel X.G z vs s v) : ∃ z', Inv O O' ∧ Zx e.next z z' ∧ Mm X.G O' z' e m k vs ∧ rel X.G z' vs s' v := by
  unfold frzV at h
  split at h
  · split at h
    · rename_i c c' O1 hc
      cases h
      exact frzC_ok hM hc hv
    · cases h
  · split at h
    · rename_i t cs cs' O1 hc
      cases h
      obtain ⟨ds, h1, h2⟩ := hv
      obtain ⟨z', g0, g1, g2, g3⟩ := frzL_ok hM hc h2
      exact ⟨z', g0, g1, g2, ds, h1, g3⟩
    · cases h
  · split at h
    · rename_i e1 xs O1 hc
      split at h
      · rename_i he
        subst he
        cases h
        obtain ⟨w, h1, h2⟩ := hv
        obtain ⟨z', g0, g1, g2, g3⟩ := frzC_ok (c := .own _) hM hc h1
        exact ⟨z', g0, g1, g2, h2.slr g3⟩
      · cases h
    · cases h
  · cases h
    exact ⟨z, Inv.refl _, Zx.refl z, hM, hv⟩
theorem frzO_box {i j t : Nat} {c : CV D} {cs : List (CV D)} {fz w : Bool} (h : frzO O j = some (c, O')) (hi : O[i]? = some (.box t cs fz w)) : O'[i]? = some (.box t cs fz w) := by
  unfold frzO at h
  split at h
  · rename_i ho
    cases h
    rw [List.getElem?_set]
    split
    · rename_i hj; subst hj; rw [ho] at hi; cases hi
    · exact hi
  · rename_i ho
    cases h
    rw [List.getElem?_set]
    split
    · rename_i hj; subst hj; rw [ho] at hi; cases hi
    · exact hi
  · cases h
theorem frzC_box {i t : Nat} {c c' : CV D} {cs : List (CV D)} {fz w : Bool} (h : frzC O c = some (c', O')) (hi : O[i]? = some (.box t cs fz w)) : O'[i]? = some (.box t cs fz w) := by
  unfold frzC at h
  split at h
  · exact frzO_box h hi
  · cases h; exact hi
theorem frzG_ok {l : List (Nat × Nat)} : ∀ {cs cs' : List (CV D)} {n : Nat} {O O' : List (Ob D)} {ds : List Value} {z : Nat → Blk}, Mm X.G O z e m k vs → frzG l n cs O = some (cs', O') → L2 (rel0 X.G z vs) cs ds →
    ∃ z', Inv O O' ∧ Zx e.next z z' ∧ Mm X.G O' z' e m k vs ∧ L2 (rel0 X.G z' vs) cs' ds ∧ ∀ (i t : Nat) (bs : List (CV D)) (fz w : Bool), O[i]? = some (.box t bs fz w) → O'[i]? = some (.box t bs fz w)
  | [], cs', n, O, O', [], z, hM, h, _ => by cases h; exact ⟨z, Inv.refl _, Zx.refl z, hM, trivial, fun _ _ _ _ _ h => h⟩
  | c :: cs, cs', n, O, O', d :: ds, z, hM, h, ⟨h1, h2⟩ => by
    unfold frzG at h
    split at h
    · rename_i c' O1 hc
      split at h
      · rename_i cs1 O2 hcs
        cases h
        have step : ∃ z1, Inv O O1 ∧ Zx e.next z z1 ∧ Mm X.G O1 z1 e m k vs ∧ rel0 X.G z1 vs c' d ∧ ∀ (i t : Nat) (bs : List (CV D)) (fz w : Bool), O[i]? = some (.box t bs fz w) → O1[i]? = some (.box t bs fz w) := by
          split at hc
          · cases hc; exact ⟨z, Inv.refl _, Zx.refl z, hM, h1, fun _ _ _ _ _ h => h⟩
          · obtain ⟨z1, g0, g1, g2, g3⟩ := frzC_ok hM hc h1
            exact ⟨z1, g0, g1, g2, g3, fun _ _ _ _ _ h => frzC_box hc h⟩
        obtain ⟨z1, g0, g1, g2, g3, g4⟩ := step
        obtain ⟨z2, k0, k1, k2, k3, k4⟩ := frzG_ok g2 hcs (rels.mono h2 g1.le fun _ _ h => h)
        exact ⟨z2, g0.trans k0, g1.trans k1, k2, ⟨rel0.mono g3 k1.le fun _ _ h => h, k3⟩, fun _ _ _ _ _ h => k4 _ _ _ _ _ (g4 _ _ _ _ _ h)⟩
      · cases h
    · cases h
  | [], _, _, _, _, _ :: _, _, _, _, h => h.elim
  | _ :: _, _, _, _, _, [], _, _, _, h => h.elim
theorem frzX_ok {l : List (Nat × Nat)} {i : Nat} (hM : Mm X.G O z e m k vs) (h : frzX l O i = some O') : ∃ z', Inv O O' ∧ Zx e.next z z' ∧ Mm X.G O' z' e m k vs := by
  unfold frzX at h
  split at h
  · rename_i t cs w ho
    split at h
    · split at h
      · rename_i cs' O1 hf
        cases h
        obtain ⟨v, hv, b, ds, h1, h2, h3, h4⟩ := hM.at ho
        obtain ⟨z1, g0, g1, g2, g3, g4⟩ := frzG_ok hM hf h4
        have ho1 := g4 _ _ _ _ _ ho
        obtain ⟨b', ds', q1, q2, q3, q4⟩ := g2.obj i _ v ho1 hv
        have hbx : Bx z1 e m k b ds t := by
          rw [h1] at q1; cases q1
          exact ⟨h2.blk, q2.lt, q2.dead, q2.fresh⟩
        refine ⟨z1, g0.trans (Inv.set O1 i (.inr rfl)), g1, g2.turn (m' := m) ho1 hv rfl ⟨Nat.le_refl _, g2.st.dead, fun _ _ _ => rfl⟩ g2.st ⟨b, ds, h1, hbx, h3, g3⟩⟩
      · cases h
    · cases h; exact ⟨z, Inv.refl _, Zx.refl z, hM⟩
  · cases h; exact ⟨z, Inv.refl _, Zx.refl z, hM⟩
theorem frzB_ok : ∀ {its : List It} {O O' : List (Ob D)} {z : Nat → Blk}, Mm X.G O z e m k vs → frzB E its O = some O' → ∃ z', Inv O O' ∧ Zx e.next z z' ∧ Mm X.G O' z' e m k vs
  | [], O, O', z, hM, h => by cases h; exact ⟨z, Inv.refl _, Zx.refl z, hM⟩
  | it :: its, O, O', z, hM, h => by
    have go : ∀ {l : List (Nat × Nat)} {i : Nat}, (match frzX l O i with | some O' => frzB E its O' | none => none) = some O' → ∃ z', Inv O O' ∧ Zx e.next z z' ∧ Mm X.G O' z' e m k vs := by
      intro l i h
      split at h
      · rename_i O1 hf
        obtain ⟨z1, g0, g1, g2⟩ := frzX_ok hM hf
        obtain ⟨z2, k0, k1, k2⟩ := frzB_ok g2 h
        exact ⟨z2, g0.trans k0, g1.trans k1, k2⟩
      · cases h
    cases it with
    | v d c => exact frzB_ok (its := its) hM h
    | o d c =>
      cases c with
      | box t =>
        simp only [frzB] at h
        split at h
        · exact go h
        · cases h
      | bx t l =>
        simp only [frzB] at h
        split at h
        · exact go h
        · cases h
      | _ => exact frzB_ok (its := its) hM h
    | u j c =>
      cases c with
      | box t => simp only [frzB] at h; exact go h
      | bx t l => simp only [frzB] at h; exact go h
      | _ => exact frzB_ok (its := its) hM h
/-- The values read. -/
def AOk (X : Ev P D) (z : Nat → Blk) (vs : List Value) (fr : Nat → Value) : List It → List (SV D) → Prop
  | [], [] => True
  | .v d _ :: its, s :: l => rel X.G z vs s (fr d) ∧ AOk X z vs fr its l
  | .o _ _ :: its, _ :: l => AOk X z vs fr its l
  | .u _ _ :: its, _ :: l => AOk X z vs fr its l
  | _, _ => False
theorem frzA_ok : ∀ {its : List It} {O O' : List (Ob D)} {l : List (SV D)} {z : Nat → Blk}, Mm X.G O z e m k vs → Rl X z vs E fr → frzA E its O = some (l, O') → ∃ z', Inv O O' ∧ Zx e.next z z' ∧ Mm X.G O' z' e m k vs ∧ AOk X z' vs fr its l
  | [], O, O', l, z, hM, hE, h => by cases h; exact ⟨z, Inv.refl _, Zx.refl z, hM, trivial⟩
  | .v d c :: its, O, O', l, z, hM, hE, h => by
    simp only [frzA] at h
    split at h
    · rename_i s O1 hs
      split at h
      · rename_i l1 O2 hl
        cases h
        obtain ⟨z1, g0, g1, g2, g3⟩ := frzV_ok hM hs (hE d)
        obtain ⟨z2, k0, k1, k2, k3⟩ := frzA_ok g2 (hE.mono g1.le fun _ _ h => h) hl
        exact ⟨z2, g0.trans k0, g1.trans k1, k2, rel.mono g3 k1.le fun _ _ h => h, k3⟩
      · cases h
    · cases h
  | .o d c :: its, O, O', l, z, hM, hE, h => by
    simp only [frzA] at h
    split at h
    · rename_i l1 O2 hl
      cases h
      exact frzA_ok (its := its) hM hE hl
    · cases h
  | .u d c :: its, O, O', l, z, hM, hE, h => by
    simp only [frzA] at h
    split at h
    · rename_i l1 O2 hl
      cases h
      exact frzA_ok (its := its) hM hE hl
    · cases h
/-! ### Reading -/
/-- An object: its class, what it holds. -/
structure CO (D : Nat → Type) where
  c : OC
  x : c.ty D
def cos : (its : List It) → inT D its → List (CO D)
  | [], _ => []
  | .o _ c :: its, x => ⟨c, x.1⟩ :: cos its x.2
  | .v _ _ :: its, x => cos its x.2
  | .u _ _ :: its, x => cos its x.2
theorem mkO_cos : ∀ {its : List It} {x : inT D its}, mkO X its x = (cos its x).map fun q => OC.mk X q.c q.x false
  | [], _ => rfl
  | .o d c :: its, x => by
    show OC.mk X c x.1 false :: mkO X its x.2 = OC.mk X c x.1 false :: (cos its x.2).map _
    rw [mkO_cos]
  | .v d c :: its, x => mkO_cos (its := its)
  | .u d c :: its, x => mkO_cos (its := its)
/-- The objects read. -/
def Ox (X : Ev P D) (σ0 : List Nat) (O : List (Ob D)) : List Nat → List (CO D) → Prop := L2 fun i q => ∃ o, O[i]? = some o ∧ OC.get X σ0 q.c o = some q.x
theorem rdB_v {σ0 : List Nat} : ∀ {its : List It} {l : List (SV D)} {σ : List Nat} {x : inT D its}, rdB X σ0 O its l σ = some x → AOk X z vs fr its l → ∀ p ∈ mkE X its x, rel X.G z vs' p.2 (fr p.1)
  | [], _, _, _, _, _ => by simp [mkE]
  | .v d c :: its, [], _, _, _, h => h.elim
  | .o d c :: its, [], _, _, _, h => h.elim
  | .u d c :: its, [], _, _, _, h => h.elim
  | .v d c :: its, s :: l, σ, x, h, ha => by
    simp only [rdB] at h
    split at h
    · rename_i a b h1 h2
      cases h
      intro p hp
      simp only [mkE, List.mem_cons] at hp
      rcases hp with rfl | hp
      · exact Cl.get_ok h1 ha.1
      · exact rdB_v h2 ha.2 p hp
    · cases h
  | .o d c :: its, s :: l, [], x, h, ha => by cases h
  | .o d c :: its, s :: l, i :: σ, x, h, ha => by
    simp only [rdB] at h
    split at h
    · split at h
      · rename_i a b h1 h2
        cases h
        intro p hp
        exact rdB_v h2 ha p hp
      · cases h
    · cases h
  | .u d c :: its, s :: l, σ, x, h, ha => by
    simp only [rdB] at h
    split at h
    · split at h
      · rename_i a b h1 h2
        cases h
        intro p hp
        exact rdB_v h2 ha p hp
      · cases h
    · cases h
theorem rdB_o {σ0 : List Nat} : ∀ {its : List It} {l : List (SV D)} {σ : List Nat} {x : inT D its}, rdB X σ0 O its l σ = some x → Ox X σ0 O σ (cos its x)
  | [], [], [], _, _ => trivial
  | [], _ :: _, [], _, _ => trivial
  | [], _, _ :: _, _, h => by simp [rdB] at h
  | .v d c :: its, [], _, _, h => by simp [rdB] at h
  | .o d c :: its, [], _, _, h => by simp [rdB] at h
  | .u d c :: its, [], _, _, h => by simp [rdB] at h
  | .v d c :: its, s :: l, σ, x, h => by
    simp only [rdB] at h
    split at h
    · rename_i a b h1 h2
      cases h
      show Ox X σ0 O σ (cos its b)
      exact rdB_o h2
    · cases h
  | .o d c :: its, s :: l, [], x, h => by cases h
  | .o d c :: its, s :: l, i :: σ, x, h => by
    simp only [rdB] at h
    split at h
    · rename_i o ho
      split at h
      · rename_i a b h1 h2
        cases h
        exact ⟨⟨o, ho, h1⟩, rdB_o h2⟩
      · cases h
    · cases h
  | .u d c :: its, s :: l, σ, x, h => by
    simp only [rdB] at h
    split at h
    · split at h
      · rename_i a b h1 h2
        cases h
        show Ox X σ0 O σ (cos its b)
        exact rdB_o h2
      · cases h
    · cases h
/-! ### Numbers -/
theorem nodupB_cons {i : Nat} {l : List Nat} (h : nodupB (i :: l) = true) : i ∉ l ∧ nodupB l = true := by
  simp only [nodupB, Bool.and_eq_true, Bool.not_eq_true', List.any_eq_false] at h
  refine ⟨fun hi => ?_, h.2⟩
  exact h.1 i hi (by simp)
theorem nodupB_get : ∀ {l : List Nat}, nodupB l = true → ∀ (a b i : Nat), l[a]? = some i → l[b]? = some i → a = b
  | [], _, a, b, i, h, _ => by simp at h
  | x :: l, h, a, b, i, ha, hb => by
    obtain ⟨h1, h2⟩ := nodupB_cons h
    cases a with
    | zero =>
      cases b with
      | zero => rfl
      | succ b =>
        simp at ha hb
        subst ha
        exact absurd (List.mem_of_getElem? hb) h1
    | succ a =>
      cases b with
      | zero =>
        simp at ha hb
        subst hb
        exact absurd (List.mem_of_getElem? ha) h1
      | succ b =>
        simp at ha hb
        rw [nodupB_get h2 a b i ha hb]
/-- The objects, written down anew. -/
def Oy (X : Ev P D) (σ0 : List Nat) (O : List (Ob D)) : List Nat → List (CO D) → Prop := L2 fun i q => ∃ w, O[i]? = some (OC.mkr X (fun n => σ0.getD n 0) q.c q.x w)
theorem mm_set {σ0 : List Nat} (hM : Mm X.G O z e m k vs) {i : Nat} {o : Ob D} {c : OC} {x : c.ty D} (ho : O[i]? = some o) (hg : OC.get X σ0 c o = some x) (w : Bool) : Mm X.G (O.set i (OC.mkr X (fun n => σ0.getD n 0) c x w)) z e m k vs := by
  obtain ⟨v, hv, hob⟩ := hM.at ho
  have hi := (List.getElem?_eq_some_iff.1 ho).1
  refine hM.sel (by rw [List.length_set]; exact hM.len) id (fun j p hp hl => ?_) (fun j p u hp hl hu => ?_) (fun i j _ _ _ _ _ _ h => h)
  · rw [List.getElem?_set] at hp
    split at hp
    · rename_i hij
      subst hij
      cases hp
      exact ⟨o, v, ho, OC.get_live hg, hv, hv, OC.get_ok hg hob (fun n i u h1 h2 => by simpa [List.getD, h1] using h2) w⟩
    · obtain ⟨u, hu, hp'⟩ := hM.at hp
      exact ⟨p, u, hp, hl, hu, hu, hp'⟩
  · rw [List.getElem?_set] at hp
    split at hp
    · cases hp; rw [OC.mkr_live] at hl; cases hl
    · exact hM.obj j p u hp hu
theorem gt_set {σ0 : List Nat} {i : Nat} {p : Ob D} : ∀ {σ : List Nat} {C : List (CO D)}, Ox X σ0 O σ C → i ∉ σ → Ox X σ0 (O.set i p) σ C
  | [], [], _, _ => trivial
  | j :: σ, q :: C, ⟨⟨o, h1, h2⟩, h3⟩, hi => by
    refine ⟨⟨o, ?_, h2⟩, gt_set h3 fun h => hi (List.mem_cons_of_mem _ h)⟩
    rw [List.getElem?_set_ne]
    · exact h1
    · rintro rfl; exact hi List.mem_cons_self
  | [], _ :: _, h, _ => h.elim
  | _ :: _, [], h, _ => h.elim
theorem clean_nums {σ0 : List Nat} {c : OC} {x : c.ty D} {o : Ob D} (hg : OC.get X σ0 c o = some x) (h : o.clean = true) : c.nums = [] := by
  unfold OC.get at hg
  split at hg
  · rfl
  · rfl
  · rfl
  · rfl
  · rfl
  · rename_i t l t' cs w0
    obtain ⟨⟨_, hl⟩, _⟩ := ite_some hg
    cases l with
    | nil => rfl
    | cons p l =>
      obtain ⟨i, g1, _⟩ := linkB_at hl p List.mem_cons_self
      have := List.all_eq_true.1 (h : cs.all noNil = true) _ (List.mem_of_getElem? g1)
      cases this
  · cases hg
theorem set_same {α : Type} {l : List α} {i : Nat} {a : α} (h : l[i]? = some a) : l.set i a = l := by
  apply List.ext_getElem?
  intro j
  rw [List.getElem?_set]
  have hi := (List.getElem?_eq_some_iff.1 h).1
  by_cases hij : i = j
  · subst hij; rw [if_pos rfl, if_pos hi, h]
  · simp [hij]
theorem nrm_ok {σ0 : List Nat} : ∀ {its : List It} {x : inT D its} {σ : List Nat} {O : List (Ob D)}, Mm X.G O z e m k vs → Ox X σ0 O σ (cos its x) → nodupB σ = true →
    Inv O (nrm X σ0 its x σ O) ∧ Mm X.G (nrm X σ0 its x σ O) z e m k vs ∧ Oy X σ0 (nrm X σ0 its x σ O) σ (cos its x) ∧ ∀ i, i ∉ σ → (nrm X σ0 its x σ O)[i]? = O[i]?
  | [], x, [], O, hM, _, _ => ⟨Inv.refl _, hM, trivial, fun _ _ => rfl⟩
  | [], x, _ :: _, O, hM, h, _ => h.elim
  | .v d c :: its, x, σ, O, hM, h, hn => by
    have := nrm_ok (its := its) (x := x.2) (σ := σ) hM h hn
    simpa only [nrm, cos] using this
  | .u d c :: its, x, σ, O, hM, h, hn => by
    have := nrm_ok (its := its) (x := x.2) (σ := σ) hM h hn
    simpa only [nrm, cos] using this
  | .o d c :: its, x, [], O, hM, h, hn => h.elim
  | .o d c :: its, x, i :: σ, O, hM, ⟨⟨o, h1, h2⟩, h3⟩, hn => by
    obtain ⟨n1, n2⟩ := nodupB_cons hn
    have hM1 := mm_set hM h1 h2 (tchAt O i)
    obtain ⟨g1, g2, g3, g4⟩ := nrm_ok (its := its) (x := x.2) (σ := σ) hM1 (gt_set h3 n1) n2
    have hi := (List.getElem?_eq_some_iff.1 h1).1
    refine ⟨Inv.trans ?_ g1, g2, ⟨⟨tchAt O i, ?_⟩, g3⟩, fun j hj => ?_⟩
    · cases ht : tchAt O i with
      | true => exact Inv.set O i (.inr OC.mkr_tch)
      | false =>
        have hc : o.tch = false ∧ o.clean = true := by
          simp only [tchAt, h1, Bool.or_eq_false_iff, Bool.not_eq_false'] at ht
          exact ht
        have k3 := OC.get_clean (τ := fun n => σ0.getD n 0) h2 hc.2 (clean_nums h2 hc.2)
        rw [hc.1] at k3
        have : O.set i (OC.mkr X (fun n => σ0.getD n 0) c x.1 false) = O := set_same (by rw [h1]; exact congrArg some k3)
        rw [this]
        exact Inv.refl O
    · show (nrm X σ0 its x.2 σ (O.set i (OC.mkr X _ c x.1 (tchAt O i))))[i]? = _
      rw [g4 i n1, List.getElem?_set]
      simp [hi]
    · show (nrm X σ0 its x.2 σ (O.set i (OC.mkr X _ c x.1 (tchAt O i))))[j]? = _
      rw [g4 j fun h => hj (List.mem_cons_of_mem _ h), List.getElem?_set_ne]
      rintro rfl; exact hj List.mem_cons_self
/-! ### Values without contents -/
theorem optB_eq {a : Option Nat} {i : Nat} (h : optB a i = true) : a = some i := by
  unfold optB at h
  split at h
  · rw [Nat.eq_of_beq_eq_true h]
  · cases h
theorem fxT_ok {σ : List Nat} {s s' : SV D} {v : Value} (τ : Nat → Nat) (h : fxT σ s s' = true) (hr : rel X.G z vs s' v) (hv : ∀ (j i : Nat) (u : Value), σ[j]? = some i → vs[i]? = some u → vs'[τ j]? = some u) : rel X.G z vs' (rnS τ s) v := by
  unfold fxT at h
  split at h
  · exact ⟨hv _ _ _ (optB_eq h) hr.1, hr.2⟩
  · simp only [Bool.and_eq_true] at h
    obtain ⟨b, h1, h2⟩ := hr
    have := Nat.eq_of_beq_eq_true h.2
    subst this
    exact ⟨b, hv _ _ _ (optB_eq h.1) h1, h2⟩
  · obtain ⟨b, l, h1, h2⟩ := hr
    exact ⟨b, l, hv _ _ _ (optB_eq h) h1, h2⟩
  · exact hr
  · exact hr
  · exact hr
  · exact hr
  · trivial
  · simp only [Bool.and_eq_true, decide_eq_true_eq, beq_iff_eq] at h
    obtain ⟨rfl, rfl⟩ := h
    exact hr
  · have := eq_of_beq h
    subst this
    exact hr
  · have := Nat.eq_of_beq_eq_true h
    subst this
    obtain ⟨gs, h1, h2⟩ := hr
    refine ⟨gs, h1, ?_⟩
    cases gs with
    | nil => trivial
    | cons _ _ => exact h2.elim
  · cases h
theorem rnS_id (s : SV D) : rnS id s = s := by
  cases s with
  | c c => cases c <;> rfl
  | _ => rfl
/-! ### Going in -/
structure Ent (X : Ev P D) (its : List It) (fx : List (Nat × SV D)) (x : inT D its) (σ : List Nat) (O2 : List (Ob D)) (z : Nat → Blk) (e m : Mem) (k : Option Nat) (vs vs0 : List Value) (fr : Nat → Value) : Prop where
  mm : Mm X.G O2 z e m k vs
  mm0 : Mm X.G (mkO X its x) z e m k vs0
  rl : Rl X z vs0 (mkE X its x ++ fx) fr
  nd : nodupB σ = true
  oy : Oy X σ O2 σ (cos its x)
  len : vs0.length = σ.length
  nv : ∀ (j i : Nat), σ[j]? = some i → ∃ u, vs0[j]? = some u ∧ vs[i]? = some u
  gt : ∀ q ∈ cos its x, ∀ n ∈ q.c.nums, ∃ i, σ[n]? = some i
theorem entry0 {its : List It} {fx : List (Nat × SV D)} {x : inT D its} {σ : List Nat} {O2 : List (Ob D)} (hM : Mm X.G O z e m k vs) (hE : Rl X z vs E fr) (h : rdIn0 X its fx E O = some (x, σ, O2)) :
    ∃ z' vs0, Inv O O2 ∧ Zx e.next z z' ∧ Ent X its fx x σ O2 z' e m k vs vs0 fr := by
  unfold rdIn0 at h
  split at h
  · rename_i svs O1 σ' hf ha
    split at h
    · rename_i hc
      simp only [Bool.and_eq_true] at hc
      split at h
      · rename_i x' hb
        cases h
        obtain ⟨z1, g0, g1, g2, g3⟩ := frzA_ok hM hE hf
        have ox := rdB_o hb
        obtain ⟨n1, n2, n3, n4⟩ := nrm_ok g2 ox hc.1
        have hv0 : ∀ (j i : Nat), σ[j]? = some i → ∃ u, (σ.map fun i => vs.getD i undef)[j]? = some u ∧ vs[i]? = some u := by
          intro j i hj
          obtain ⟨q, _, w, hw⟩ := n3.get j i hj
          obtain ⟨v, hv, _⟩ := n2.at hw
          refine ⟨v, ?_, hv⟩
          rw [List.getElem?_map, hj]
          simp [hv]
        have hlen : (mkO X its x).length = σ.length := by rw [mkO_cos, List.length_map]; exact n3.length.symm
        have hgt : ∀ (j : Nat) (o0 : Ob D), (mkO X its x)[j]? = some o0 → ∃ i q, q ∈ cos its x ∧ o0 = OC.mk X q.c q.x false ∧ σ[j]? = some i ∧ ∃ w, (nrm X σ its x σ O1)[i]? = some (OC.mkr X (fun n => σ.getD n 0) q.c q.x w) := by
          intro j o0 hj
          have hlt := (List.getElem?_eq_some_iff.1 hj).1
          have hs : σ[j]? = some (σ[j]'(by omega)) := List.getElem?_eq_getElem (by omega)
          obtain ⟨q, k3, w, k4⟩ := n3.get j _ hs
          rw [mkO_cos, List.getElem?_map, k3] at hj
          exact ⟨_, q, List.mem_of_getElem? k3, (Option.some.inj hj).symm, hs, w, k4⟩
        have hnum : ∀ q ∈ cos its x, ∀ n ∈ q.c.nums, ∃ i, σ[n]? = some i := by
          intro q hq
          obtain ⟨j, hj, he⟩ := List.mem_iff_getElem.1 hq
          have hj' : (cos its x)[j]? = some q := by rw [List.getElem?_eq_getElem hj, he]
          have hs : σ[j]? = some (σ[j]'(by rw [ox.length]; exact hj)) := List.getElem?_eq_getElem _
          obtain ⟨q', k1, o, _, k2⟩ := ox.get j _ hs
          rw [hj'] at k1; cases k1
          exact OC.get_nums k2
        refine ⟨z1, σ.map fun i => vs.getD i undef, g0.trans n1, g1, n2, ?_, ?_, hc.1, n3, by simp, hv0, hnum⟩
        · refine n2.sel (by rw [List.length_map]; exact hlen.symm) (fun j => σ.getD j 0) (fun j o0 hj hl => ?_) (fun j o0 u hj hl hu => ?_) (fun i j o p hi hj _ _ hij => ?_)
          · obtain ⟨i, q, hq, rfl, hs, w, hw⟩ := hgt j o0 hj
            obtain ⟨u, hu1, hu2⟩ := hv0 j i hs
            have hd : σ.getD j 0 = i := by simp [List.getD, hs]
            refine ⟨_, u, by rw [hd]; exact hw, OC.mkr_live, by rw [hd]; exact hu2, hu1, ?_⟩
            have := n2.obj i _ u hw hu2
            refine OC.mkr_ok false this fun n hn u' hu' => ?_
            obtain ⟨i', hi'⟩ := hnum q hq n hn
            have hd' : σ.getD n 0 = i' := by simp [List.getD, hi']
            rw [hd'] at hu'
            obtain ⟨u2, h1, h2⟩ := hv0 n i' hi'
            rw [hu'] at h2; cases h2; exact h1
          · obtain ⟨i, q, _, rfl, hs, w, hw⟩ := hgt j o0 hj
            rw [OC.mk_live] at hl
            cases hl
          · obtain ⟨a, _, _, _, ha, _⟩ := hgt i o hi
            obtain ⟨b, _, _, _, hb, _⟩ := hgt j p hj
            have e1 : σ.getD i 0 = a := by simp [List.getD, ha]
            have e2 : σ.getD j 0 = b := by simp [List.getD, hb]
            have : a = b := by rw [← e1, ← e2]; exact hij
            subst this
            exact nodupB_get hc.1 i j a ha hb
        · refine Rl_of fun p hp => ?_
          rcases List.mem_append.1 hp with hp | hp
          · exact rdB_v hb g3 p hp
          · have ht := List.all_eq_true.1 hc.2 p hp
            have := fxT_ok (X := X) (z := z1) (vs := vs) (vs' := σ.map fun i => vs.getD i undef) id ht ((hE.mono g1.le fun _ _ h => h) p.1) fun j i u hj hu => by
              obtain ⟨u', h1, h2⟩ := hv0 j i hj
              rw [hu] at h2; cases h2; exact h1
            rwa [rnS_id] at this
      · cases h
    · cases h
  · cases h
theorem entry {its : List It} {fx : List (Nat × SV D)} {x : inT D its} {σ : List Nat} {O2 : List (Ob D)} (hM : Mm X.G O z e m k vs) (hE : Rl X z vs E fr) (h : rdIn X its fx E O = some (x, σ, O2)) :
    ∃ z' vs0, Inv O O2 ∧ Zx e.next z z' ∧ Ent X its fx x σ O2 z' e m k vs vs0 fr := by
  unfold rdIn at h
  split at h
  · rename_i O0 hf
    obtain ⟨z1, g0, g1, g2⟩ := frzB_ok hM hf
    obtain ⟨z2, vs0, k0, k1, k2⟩ := entry0 g2 (hE.mono g1.le fun _ _ h => h) h
    exact ⟨z2, vs0, g0.trans k0, g1.trans k1, k2⟩
  · cases h
/-! ### A nil slice that is to be owned -/
/-- The variable and the cell of a place, if there is nil there. -/
def nilAt (E : List (Nat × SV D)) (O : List (Ob D)) (q off : Nat) : Option (Nat × Nat × List (CV D) × Bool) :=
  match lkE E q with
  | .box i 0 => (match O[i]? with | some (.box t cs false w) => (match cs[off]? with | some .nilS => some (i, t, cs, w) | _ => none) | _ => none)
  | _ => none
def ownA : List It → List (Nat × SV D) → List (Ob D) → List (Nat × SV D) × List (Ob D)
  | .o d (.sl t) :: its, E, O =>
    if Nat.blt d VC = true then (match lkE E d with | .c .nilS => ownA its ((d, .c (.own O.length)) :: E) (O ++ [.sl t [] false false]) | _ => ownA its E O)
    else (match nilAt E O ((d - VC) / 1000) ((d - VC) % 1000) with | some (i, u, cs, _) => ownA its E (O.set i (.box u (cs.set ((d - VC) % 1000) (.own O.length)) false true) ++ [.sl t [] false false]) | none => ownA its E O)
  | _ :: its, E, O => ownA its E O
  | [], E, O => (E, O)
theorem ownA_ok : ∀ {its : List It} {E : List (Nat × SV D)} {O : List (Ob D)} {vs : List Value}, Mm X.G O z e m k vs → Rl X z vs E fr → ∃ vs', Inv O (ownA its E O).2 ∧ (∀ (i : Nat) (u : Value), vs[i]? = some u → vs'[i]? = some u) ∧ Mm X.G (ownA its E O).2 z e m k vs' ∧ Rl X z vs' (ownA its E O).1 fr
  | [], E, O, vs, hM, hE => ⟨vs, Inv.refl _, fun _ _ h => h, hM, hE⟩
  | .v _ _ :: its, E, O, vs, hM, hE => ownA_ok (its := its) hM hE
  | .u _ _ :: its, E, O, vs, hM, hE => ownA_ok (its := its) hM hE
  | .o _ (.box _) :: its, E, O, vs, hM, hE => ownA_ok (its := its) hM hE
  | .o _ (.recv _) :: its, E, O, vs, hM, hE => ownA_ok (its := its) hM hE
  | .o _ (.arr _ _ _) :: its, E, O, vs, hM, hE => ownA_ok (its := its) hM hE
  | .o _ (.map _ _ _) :: its, E, O, vs, hM, hE => ownA_ok (its := its) hM hE
  | .o _ (.bx _ _) :: its, E, O, vs, hM, hE => ownA_ok (its := its) hM hE
  | .o d (.sl t) :: its, E, O, vs, hM, hE => by
    have hMp : ∀ {O : List (Ob D)}, Mm X.G O z e m k vs → Mm X.G (O ++ [.sl t [] false false]) z e m k (vs ++ [.slice none 0 0]) := fun {O} hM => by
      refine hM.push (q := none) ⟨Nat.le_refl _, hM.st.dead, fun _ _ _ => rfl⟩ hM.st (fun _ _ _ _ _ _ => Ap.none') ?_ fun _ _ _ => Ap.none'
      exact (⟨.inl ⟨rfl, rfl⟩, fun b hb => by cases hb⟩ : OwF (X.G.T t) z e m k [] (.slice none 0 0))
    unfold ownA
    split
    · split
      · rename_i hs
        have hd := hE d
        rw [hs] at hd
        have hd : fr d = .slice none 0 0 := hd
        obtain ⟨vs', g1, g2, g3, g4⟩ := ownA_ok (its := its) (E := (d, .c (.own O.length)) :: E) (hMp hM) ((hE.mono (Zle.refl z) ext_get).cons ⟨by rw [hd, ← hM.len]; simp, by rw [hd]; rfl, by rw [hd]; rfl⟩)
        exact ⟨vs', (Inv.push O _).trans g1, fun i u hu => g2 i u (ext_get i u hu), g3, g4⟩
      · exact ownA_ok (its := its) hM hE
    · generalize (d - VC) / 1000 = q
      generalize (d - VC) % 1000 = off
      split
      · rename_i i u cs w hn
        have hb : O[i]? = some (.box u cs false w) ∧ cs[off]? = some .nilS := by
          unfold nilAt at hn
          split at hn
          · split at hn
            · split at hn
              · rename_i h2 _ h3
                cases hn; exact ⟨h2, h3⟩
              · cases hn
            · cases hn
          · cases hn
        obtain ⟨v, hv, b, ds, h1, h2, h3, h4⟩ := hM.at hb.1
        have hM2 := hMp hM
        have hi := (List.getElem?_eq_some_iff.1 hb.1).1
        have hset : O.set i (.box u (cs.set off (.own O.length)) false true) ++ [(.sl t [] false false : Ob D)] = (O ++ [(.sl t [] false false : Ob D)]).set i (.box u (cs.set off (.own O.length)) false true) := by
          rw [List.set_append_left _ _ hi]
        have hM3 : Mm X.G (O.set i (.box u (cs.set off (.own O.length)) false true) ++ [.sl t [] false false]) z e m k (vs ++ [.slice none 0 0]) := by
          rw [hset]
          refine hM2.turn (m' := m) (v := v) (o := .box u cs false w) (by rw [List.getElem?_append_left hi]; exact hb.1) (ext_get _ _ hv) rfl ⟨Nat.le_refl _, hM.st.dead, fun _ _ _ => rfl⟩ hM.st ?_
          refine ⟨b, ds, h1, h2, h3, L2_iff.2 ⟨by rw [List.length_set]; exact (L2_iff.1 h4).1, fun j a d ha hd => ?_⟩⟩
          rw [List.getElem?_set] at ha
          split at ha
          · rename_i hj
            split at ha
            · cases ha
              subst hj
              have hr : d = .slice none 0 0 := (L2_iff.1 h4).2 off _ d hb.2 hd
              exact ⟨by rw [hr, ← hM.len]; simp, by rw [hr]; rfl, by rw [hr]; rfl⟩
            · cases ha
          · exact rel0.mono ((L2_iff.1 h4).2 j a d ha hd) (Zle.refl z) ext_get
        obtain ⟨vs', g1, g2, g3, g4⟩ := ownA_ok (its := its) (E := E) hM3 (hE.mono (Zle.refl z) ext_get)
        exact ⟨vs', ((Inv.set O i (.inr rfl)).trans (Inv.push _ _)).trans g1, fun i u hu => g2 i u (ext_get i u hu), g3, g4⟩
      · exact ownA_ok (its := its) hM hE
end
end Go.AM
end
section
set_option linter.unusedSimpArgs false
set_option linter.unusedVariables false
namespace Go.AM
/-- An exit: what comes out. -/
structure Ex (D : Nat → Type) where
  ex : AExit
  outs : List It
  fx : List (Nat × SV D)
noncomputable section
section
variable {P : Program} {D : Nat → Type}
def outT (D : Nat → Type) : List It → Type
  | [] => Unit
  | [i] => i.ty D
  | i :: j :: is => i.ty D × outT D (j :: is)
def toOut : (its : List It) → inT D its → outT D its
  | [], _ => ()
  | [_], x => x.1
  | _ :: j :: is, x => (x.1, toOut (j :: is) x.2)
def ofOut : (its : List It) → outT D its → inT D its
  | [], _ => ()
  | [_], y => (y, ())
  | _ :: j :: is, y => (y.1, ofOut (j :: is) y.2)
def sumT : List (Ex D) → Type
  | [] => Empty
  | [x] => outT D x.outs
  | x :: y :: xs => outT D x.outs ⊕ sumT (y :: xs)
def atEx {α : Type} : (exs : List (Ex D)) → sumT exs → ((x : Ex D) → outT D x.outs → α) → α
  | [], e, _ => nomatch (e : Empty)
  | [x], y, k => k x y
  | x :: y :: xs, r, k => match (r : outT D x.outs ⊕ sumT (y :: xs)) with | .inl a => k x a | .inr b => atEx (y :: xs) b k
variable (X : Ev P D)
def refsB (n : Nat) : Ob D → Bool
  | .box _ cs _ _ => cs.all fun c => match c with | .own i => Nat.blt i n | _ => true
  | _ => true
def keptB (n : Nat) (O : List (Ob D)) : Nat → List Nat → Bool
  | _, [] => true
  | j, k :: ks => (if k = 1 then (match O[j]? with | some o => o.live && !o.tch && refsB n o | none => false) else true) && keptB n O (j + 1) ks
/-- What comes out is read. -/
def rdXI (n : Nat) (ks : List Nat) (x : Ex D) (E : List (Nat × SV D)) (O : List (Ob D)) : Option (outT D x.outs) :=
  match frzA E x.outs O, ancs E O x.outs with
  | some (svs, O1), some σ =>
    if (nodupB σ && (σ.all fun i => Nat.ble n i || Nat.beq (ks.getD i 0) 0) && keptB n O1 0 ks && x.fx.all fun p => fxT (List.range n ++ σ) p.2 (lkE E p.1)) = true then
      match rdB X (List.range n ++ σ) O1 x.outs svs σ with
      | some y => some (toOut x.outs y)
      | none => none
    else none
  | _, _ => none
def rdX (n : Nat) (ks : List Nat) (x : Ex D) (E : List (Nat × SV D)) (O : List (Ob D)) : Option (outT D x.outs) :=
  match frzB (ownA x.outs E O).1 x.outs (ownA x.outs E O).2 with
  | some O' => rdXI X n ks x (ownA x.outs E O).1 O'
  | none => none
def rdEx (n : Nat) (ks : List Nat) : (exs : List (Ex D)) → AExit → List (Nat × SV D) → List (Ob D) → Option (sumT exs)
  | [], _, _, _ => none
  | [x], e, E, O => if e = x.ex then rdX X n ks x E O else none
  | x :: y :: xs, e, E, O => if e = x.ex then (match rdX X n ks x E O with | some a => some (Sum.inl a) | none => none) else (match rdEx n ks (y :: xs) e E O with | some b => some (Sum.inr b) | none => none)
/-- What an object has turned to. -/
def updOf (τ : Nat → Nat) : (its : List It) → inT D its → Nat → Ob D
  | .u i c :: its, x, j => if Nat.beq i j = true then OC.mkr X τ c x.1 true else updOf τ its x.2 j
  | .v _ _ :: its, x, j => updOf τ its x.2 j
  | .o _ _ :: its, x, j => updOf τ its x.2 j
  | [], _, _ => .dead
def idN (n : Nat) : Nat := n
def pO (outs : List It) (y : inT D outs) : Nat → List Nat → List (Ob D) → List (Ob D)
  | i, k :: ks, o :: O => (if k = 1 then o else if k = 2 then updOf X idN outs y i else .dead) :: pO outs y (i + 1) ks O
  | i, [], o :: O => .dead :: pO outs y (i + 1) [] O
  | _, _, [] => []
def postO (ks : List Nat) (O0 : List (Ob D)) (outs : List It) (y : inT D outs) : List (Ob D) := pO X outs y 0 ks O0 ++ mkO X outs y
end
section
variable {P : Program} {D : Nat → Type} {X : Ev P D} {z z' : Nat → Blk} {e m m' : Mem} {k : Option Nat} {vs vs' : List Value} {fr : Nat → Value} {E : List (Nat × SV D)} {O O' : List (Ob D)}
theorem of_to : ∀ {its : List It} (x : inT D its), ofOut its (toOut its x) = x
  | [], _ => rfl
  | [_], _ => rfl
  | _ :: j :: is, x => by
    show (x.1, ofOut (j :: is) (toOut (j :: is) x.2)) = x
    rw [of_to (its := j :: is) x.2]
    rfl
theorem rdEx_some {n : Nat} {ks : List Nat} {ex : AExit} : ∀ {exs : List (Ex D)} {res : sumT exs}, rdEx X n ks exs ex E O = some res → ∃ x y, x ∈ exs ∧ ex = x.ex ∧ rdX X n ks x E O = some y ∧ ∀ {α : Type} (K : (x : Ex D) → outT D x.outs → α), atEx exs res K = K x y
  | [], _, h => by cases h
  | [x], res, h => by
    obtain ⟨h1, h2⟩ := ite_some h
    exact ⟨x, res, List.mem_cons_self, h1, h2, fun _ => rfl⟩
  | x :: y :: xs, res, h => by
    simp only [rdEx] at h
    split at h
    · rename_i hx
      split at h
      · rename_i a ha
        cases h
        exact ⟨x, a, List.mem_cons_self, hx, ha, fun _ => rfl⟩
      · cases h
    · split at h
      · rename_i b hb
        cases h
        obtain ⟨x', y', h1, h2, h3, h4⟩ := rdEx_some hb
        exact ⟨x', y', List.mem_cons_of_mem _ h1, h2, h3, fun K => h4 K⟩
      · cases h
theorem updOf_ok {σ0 : List Nat} {n : Nat} : ∀ {its : List It} {l : List (SV D)} {σ : List Nat} {x : inT D its} {j : Nat}, rdB X σ0 O its l σ = some x → (∀ τ, updOf X τ its x j = .dead) ∨ ∃ c y o, O[j]? = some o ∧ OC.get X σ0 c o = some y ∧ ∀ τ, updOf X τ its x j = OC.mkr X τ c y true
  | [], _, _, _, _, _ => .inl fun _ => rfl
  | .v d c :: its, [], _, _, _, h => by simp [rdB] at h
  | .o d c :: its, [], _, _, _, h => by simp [rdB] at h
  | .u d c :: its, [], _, _, _, h => by simp [rdB] at h
  | .v d c :: its, s :: l, σ, x, j, h => by
    simp only [rdB] at h
    split at h
    · rename_i a b h1 h2
      cases h
      exact updOf_ok (n := n) (its := its) h2
    · cases h
  | .o d c :: its, s :: l, [], x, j, h => by cases h
  | .o d c :: its, s :: l, i :: σ, x, j, h => by
    simp only [rdB] at h
    split at h
    · split at h
      · rename_i a b h1 h2
        cases h
        exact updOf_ok (n := n) (its := its) h2
      · cases h
    · cases h
  | .u d c :: its, s :: l, σ, x, j, h => by
    simp only [rdB] at h
    split at h
    · rename_i o ho
      split at h
      · rename_i a b h1 h2
        cases h
        by_cases hd : Nat.beq d j = true
        · have := Nat.eq_of_beq_eq_true hd
          subst this
          refine .inr ⟨c, a, o, ho, h1, fun τ => ?_⟩
          show (if Nat.beq d d = true then OC.mkr X τ c a true else _) = _
          rw [if_pos hd]
        · have e1 : ∀ τ, updOf X τ (.u d c :: its) (a, b) j = updOf X τ its b j := fun τ => by
            show (if Nat.beq d j = true then OC.mkr X τ c a true else _) = _
            rw [if_neg hd]
          simp only [e1]
          exact updOf_ok (n := n) (its := its) (j := j) h2
      · cases h
    · cases h
/-- The numbers that an item's class names. -/
def It.nums : It → List Nat
  | .v _ _ => []
  | .o _ c => c.nums
  | .u _ c => c.nums
/-- Objects written down. -/
theorem updOf_mk : ∀ {its : List It} {x : inT D its} {j : Nat}, (∀ τ, updOf X τ its x j = .dead) ∨ ∃ d c y, It.u d c ∈ its ∧ ∀ τ, updOf X τ its x j = OC.mkr X τ c y true
  | [], _, _ => .inl fun _ => rfl
  | .v d c :: its, x, j => by
    rcases updOf_mk (its := its) (x := x.2) (j := j) with h | ⟨d, c, y, h1, h2⟩
    · exact .inl h
    · exact .inr ⟨d, c, y, List.mem_cons_of_mem _ h1, h2⟩
  | .o d c :: its, x, j => by
    rcases updOf_mk (its := its) (x := x.2) (j := j) with h | ⟨d, c, y, h1, h2⟩
    · exact .inl h
    · exact .inr ⟨d, c, y, List.mem_cons_of_mem _ h1, h2⟩
  | .u d c :: its, x, j => by
    by_cases hd : Nat.beq d j = true
    · exact .inr ⟨d, c, x.1, List.mem_cons_self, fun τ => if_pos hd⟩
    · have e1 : ∀ τ, updOf X τ (.u d c :: its) x j = updOf X τ its x.2 j := fun τ => if_neg hd
      simp only [e1]
      rcases updOf_mk (its := its) (x := x.2) (j := j) with h | ⟨d, c, y, h1, h2⟩
      · exact .inl h
      · exact .inr ⟨d, c, y, List.mem_cons_of_mem _ h1, h2⟩
theorem mkO_mk : ∀ {its : List It} {x : inT D its} {o : Ob D}, o ∈ mkO X its x → ∃ d c y, It.o d c ∈ its ∧ o = OC.mk X c y false
  | [], _, _, h => by simp [mkO] at h
  | .v d c :: its, x, o, h => let ⟨d, c, y, h1, h2⟩ := mkO_mk (its := its) (x := x.2) h; ⟨d, c, y, List.mem_cons_of_mem _ h1, h2⟩
  | .u d c :: its, x, o, h => let ⟨d, c, y, h1, h2⟩ := mkO_mk (its := its) (x := x.2) h; ⟨d, c, y, List.mem_cons_of_mem _ h1, h2⟩
  | .o d c :: its, x, o, h => by
    simp only [mkO, List.mem_cons] at h
    rcases h with rfl | h
    · exact ⟨d, c, x.1, List.mem_cons_self, rfl⟩
    · obtain ⟨d, c, y, h1, h2⟩ := mkO_mk (its := its) (x := x.2) h
      exact ⟨d, c, y, List.mem_cons_of_mem _ h1, h2⟩
theorem mkE_mk : ∀ {its : List It} {x : inT D its} {p : Nat × SV D}, p ∈ mkE X its x → ∃ c y, p.2 = Cl.mk X c y
  | [], _, _, h => by simp [mkE] at h
  | .o d c :: its, x, o, h => mkE_mk (its := its) (x := x.2) h
  | .u d c :: its, x, o, h => mkE_mk (its := its) (x := x.2) h
  | .v d c :: its, x, o, h => by
    simp only [mkE, List.mem_cons] at h
    rcases h with rfl | h
    · exact ⟨c, x.1, rfl⟩
    · exact mkE_mk (its := its) (x := x.2) h
theorem pO_len {outs : List It} {y : inT D outs} : ∀ {i : Nat} {ks : List Nat} {O : List (Ob D)}, (pO X outs y i ks O).length = O.length
  | i, [], [] => rfl
  | i, _ :: _, [] => rfl
  | i, k :: ks, o :: O => by simp [pO, pO_len]
  | i, [], o :: O => by simp [pO, pO_len]
theorem pO_get {outs : List It} {y : inT D outs} : ∀ {i : Nat} {ks : List Nat} {O : List (Ob D)} {j : Nat} {o : Ob D}, O[j]? = some o → (pO X outs y i ks O)[j]? = some (if ks.getD j 0 = 1 then o else if ks.getD j 0 = 2 then updOf X idN outs y (i + j) else .dead)
  | i, ks, [], j, o, h => by simp at h
  | i, k :: ks, p :: O, 0, o, h => by simp at h; subst h; simp [pO]
  | i, k :: ks, p :: O, j + 1, o, h => by
    simp only [List.getElem?_cons_succ] at h
    have := pO_get (outs := outs) (y := y) (i := i + 1) (ks := ks) h
    simp only [pO, List.getElem?_cons_succ, this, List.getD_cons_succ]
    rw [Nat.add_assoc, Nat.add_comm 1 j]
  | i, [], p :: O, 0, o, h => by simp [pO]
  | i, [], p :: O, j + 1, o, h => by
    simp only [List.getElem?_cons_succ] at h
    have := pO_get (outs := outs) (y := y) (i := i + 1) (ks := []) h
    simp only [pO, List.getElem?_cons_succ, this]
    simp
theorem refsB_ok {n : Nat} {o : Ob D} (h : refsB n o = true) : ∀ i, OwnIn i o → i < n := by
  intro i hi
  cases o with
  | box t cs fz w =>
    have := List.all_eq_true.1 h _ hi
    simpa [Nat.blt_eq] using this
  | _ => exact hi.elim
theorem keptB_ok {n : Nat} : ∀ {ks : List Nat} {i j : Nat}, keptB n O i ks = true → ks.getD j 0 = 1 → ∃ o, O[i + j]? = some o ∧ o.live = true ∧ o.tch = false ∧ ∀ i, OwnIn i o → i < n
  | [], i, j, _, h => by simp at h
  | k :: ks, i, 0, hk, h => by
    simp only [keptB, Bool.and_eq_true] at hk
    simp at h
    subst h
    have h1 := hk.1
    rw [if_pos rfl] at h1
    split at h1
    · rename_i o ho
      simp only [Bool.and_eq_true, Bool.not_eq_true'] at h1
      exact ⟨o, ho, h1.1.1, h1.1.2, refsB_ok h1.2⟩
    · cases h1
  | k :: ks, i, j + 1, hk, h => by
    simp only [keptB, Bool.and_eq_true] at hk
    simp only [List.getD_cons_succ] at h
    obtain ⟨o, h1, h2⟩ := keptB_ok hk.2 h
    exact ⟨o, by rw [← h1]; congr 1; omega, h2⟩
/-- What comes out, under the piece's own numbers. -/
theorem post_ofI {ins : List It} {ks : List Nat} {x : inT D ins} {xx : Ex D} {y : outT D xx.outs} {vs0 : List Value} (hi : Inv (mkO X ins x) O) (hv : ∀ (i : Nat) (u : Value), vs0[i]? = some u → vs[i]? = some u) (hl0 : vs0.length = (mkO X ins x).length)
    (hM : Mm X.G O z e m k vs) (hE : Rl X z vs E fr) (h : rdXI X vs0.length ks xx E O = some y) :
    ∃ z' nv, Zx e.next z z' ∧ Mm X.G (postO X ks (mkO X ins x) xx.outs (ofOut _ y)) z' e m k (vs0 ++ nv) ∧ ∀ p ∈ mkE X xx.outs (ofOut _ y) ++ xx.fx, rel X.G z' (vs0 ++ nv) p.2 (fr p.1) := by
  unfold rdXI at h
  split at h
  · rename_i svs O1 σ hf ha
    split at h
    · rename_i hc
      simp only [Bool.and_eq_true] at hc
      obtain ⟨⟨⟨c1, c2⟩, c3⟩, c4⟩ := hc
      split at h
      · rename_i y' hb
        cases h
        rw [of_to]
        obtain ⟨z1, g0, g1, g2, g3⟩ := frzA_ok hM hE hf
        have ox := rdB_o hb
        have hi1 := hi.trans g0
        have hnv : ∀ (j i : Nat), σ[j]? = some i → ∃ u, (σ.map fun i => vs.getD i undef)[j]? = some u ∧ vs[i]? = some u := by
          intro j i hj
          obtain ⟨q, _, o, ho, _⟩ := ox.get j i hj
          obtain ⟨v, hv, _⟩ := g2.at ho
          exact ⟨v, by rw [List.getElem?_map, hj]; simp [hv], hv⟩
        have hlen : (mkO X xx.outs y').length = σ.length := by rw [mkO_cos, List.length_map]; exact ox.length.symm
        have hcv : ∀ (j : Nat) (o : Ob D), (postO X ks (mkO X ins x) xx.outs y')[j]? = some o →
            (j < vs0.length ∧ ∃ o0, (mkO X ins x)[j]? = some o0 ∧ o = (if ks.getD j 0 = 1 then o0 else if ks.getD j 0 = 2 then updOf X idN xx.outs y' j else .dead)) ∨
            (vs0.length ≤ j ∧ (mkO X xx.outs y')[j - vs0.length]? = some o) := by
          intro j o hj
          unfold postO at hj
          by_cases hlt : j < vs0.length
          · refine .inl ⟨hlt, ?_⟩
            rw [List.getElem?_append_left (by rw [pO_len]; omega)] at hj
            have hs : (mkO X ins x)[j]? = some ((mkO X ins x)[j]'(by omega)) := List.getElem?_eq_getElem (by omega)
            have := pO_get (X := X) (outs := xx.outs) (y := y') (i := 0) (ks := ks) hs
            rw [hj] at this
            refine ⟨_, hs, ?_⟩
            have := Option.some.inj this
            rw [Nat.zero_add] at this
            exact this
          · refine .inr ⟨by omega, ?_⟩
            rw [List.getElem?_append_right (by rw [pO_len]; omega), pO_len, ← hl0] at hj
            exact hj
        have hleft : ∀ (j : Nat) (u : Value), j < vs0.length → vs[j]? = some u → (vs0 ++ σ.map fun i => vs.getD i undef)[j]? = some u := by
          intro j u hj hu
          rw [List.getElem?_append_left hj]
          have : vs0[j]? = some vs0[j] := List.getElem?_eq_getElem hj
          have := hv j _ this
          rw [hu] at this
          cases this
          exact List.getElem?_eq_getElem hj
        have hnum : ∀ (n i : Nat) (u : Value), (List.range vs0.length ++ σ)[n]? = some i → vs[i]? = some u → (vs0 ++ σ.map fun i => vs.getD i undef)[n]? = some u := by
          intro n i u hn hu
          by_cases hlt : n < vs0.length
          · rw [List.getElem?_append_left (by simpa using hlt), List.getElem?_range hlt] at hn
            cases hn
            exact hleft n u hlt hu
          · rw [List.getElem?_append_right (by simpa using hlt), List.length_range] at hn
            obtain ⟨u', h1, h2⟩ := hnv _ _ hn
            rw [hu] at h2; cases h2
            rw [List.getElem?_append_right (by omega)]
            exact h1
        refine ⟨z1, σ.map fun i => vs.getD i undef, g1, ?_, ?_⟩
        · refine g2.sel ?_ (fun j => if j < vs0.length then j else σ.getD (j - vs0.length) 0) (fun j o hj hl => ?_) (fun j o u hj hl hu => ?_) (fun i j o p hi' hj hli hlj hij => ?_)
          · unfold postO
            rw [List.length_append, List.length_append, pO_len, hlen, List.length_map, hl0]
          · rcases hcv j o hj with ⟨hlt, o0, ho0, ho⟩ | ⟨hge, ho⟩
            · simp only [if_pos hlt]
              by_cases k1 : ks.getD j 0 = 1
              · rw [if_pos k1] at ho
                subst ho
                obtain ⟨p, p1, p2, p3, p4⟩ := keptB_ok c3 k1
                rw [Nat.zero_add] at p1
                have := hi1.old j p (by omega) p1 p2 p3
                rw [ho0] at this; cases this
                obtain ⟨v, v1, v2⟩ := g2.at p1
                obtain ⟨_, c, w, _, rfl⟩ := mkO_mk (List.mem_of_getElem? ho0)
                exact ⟨_, v, p1, p2, v1, hleft j v hlt v1, OC.mkr_okC false v2 fun n _ ho u hu => hleft n u (p4 n ho) hu⟩
              · rw [if_neg k1] at ho
                by_cases k2 : ks.getD j 0 = 2
                · rw [if_pos k2] at ho
                  rcases updOf_ok (n := 0) (j := j) hb with hd | ⟨c, w, p, p1, p2, p3⟩
                  · rw [ho, hd] at hl; cases hl
                  · obtain ⟨v, v1, v2⟩ := g2.at p1
                    refine ⟨p, v, p1, OC.get_live p2, v1, hleft j v hlt v1, ?_⟩
                    rw [ho, p3]
                    exact OC.get_ok p2 v2 hnum true
                · rw [if_neg k2] at ho
                  rw [ho] at hl; cases hl
            · have hn : ¬ j < vs0.length := by omega
              simp only [if_neg hn]
              have hlt := (List.getElem?_eq_some_iff.1 ho).1
              have hs : σ[j - vs0.length]? = some (σ[j - vs0.length]'(by omega)) := List.getElem?_eq_getElem (by omega)
              obtain ⟨q, q1, p, p1, p2⟩ := ox.get _ _ hs
              rw [mkO_cos, List.getElem?_map, q1] at ho
              have ho := (Option.some.inj ho).symm
              subst ho
              obtain ⟨u, u1, u2⟩ := hnv _ _ hs
              obtain ⟨v, v1, v2⟩ := g2.at p1
              rw [u2] at v1; cases v1
              have hd : σ.getD (j - vs0.length) 0 = σ[j - vs0.length]'(by omega) := by simp [List.getD, hs]
              refine ⟨p, u, by rw [hd]; exact p1, OC.get_live p2, by rw [hd]; exact u2, ?_, ?_⟩
              · rw [List.getElem?_append_right hge]; exact u1
              · exact OC.get_ok p2 v2 hnum false
          · rcases hcv j o hj with ⟨hlt, o0, ho0, ho⟩ | ⟨hge, ho⟩
            · by_cases k1 : ks.getD j 0 = 1
              · rw [if_pos k1] at ho
                subst ho
                obtain ⟨_, c, w, _, rfl⟩ := mkO_mk (List.mem_of_getElem? ho0)
                rw [OC.mk_live] at hl; cases hl
              · rw [if_neg k1] at ho
                by_cases k2 : ks.getD j 0 = 2
                · rw [if_pos k2] at ho
                  rcases updOf_mk (X := X) (its := xx.outs) (x := y') (j := j) with hd | ⟨_, c, w, _, hd⟩
                  · rw [ho, hd]; trivial
                  · rw [ho, hd, OC.mkr_live] at hl; cases hl
                · rw [if_neg k2] at ho
                  rw [ho]; trivial
            · obtain ⟨_, c, w, _, rfl⟩ := mkO_mk (List.mem_of_getElem? ho)
              rw [OC.mk_live] at hl; cases hl
          · have dead : ∀ (i j : Nat) (o p : Ob D), i < vs0.length → vs0.length ≤ j → (postO X ks (mkO X ins x) xx.outs y')[i]? = some o → (postO X ks (mkO X ins x) xx.outs y')[j]? = some p → o.live = true → i = σ.getD (j - vs0.length) 0 → False := by
              intro i j o p hi2 hj2 ho hp hlo hij
              rcases hcv j p hp with ⟨hlt, _⟩ | ⟨_, hp'⟩
              · omega
              · have hlt := (List.getElem?_eq_some_iff.1 hp').1
                have hs : σ[j - vs0.length]? = some (σ[j - vs0.length]'(by omega)) := List.getElem?_eq_getElem (by omega)
                have hd : σ.getD (j - vs0.length) 0 = σ[j - vs0.length]'(by omega) := by simp [List.getD, hs]
                have hm : i ∈ σ := by rw [hij, hd]; exact List.getElem_mem _
                have := List.all_eq_true.1 c2 i hm
                simp only [Bool.or_eq_true] at this
                have hks : ks.getD i 0 = 0 := by
                  rcases this with h1 | h1
                  · have := Nat.le_of_ble_eq_true h1; omega
                  · exact Nat.eq_of_beq_eq_true h1
                rcases hcv i o ho with ⟨_, o0, _, ho'⟩ | ⟨hge, _⟩
                · rw [hks] at ho'
                  simp at ho'
                  rw [ho'] at hlo; cases hlo
                · omega
            by_cases h1 : i < vs0.length
            · by_cases h2 : j < vs0.length
              · simpa [h1, h2] using hij
              · simp only [if_pos h1, if_neg h2] at hij
                exact (dead i j o p h1 (by omega) hi' hj hli hij).elim
            · by_cases h2 : j < vs0.length
              · simp only [if_neg h1, if_pos h2] at hij
                exact (dead j i p o h2 (by omega) hj hi' hlj hij.symm).elim
              · simp only [if_neg h1, if_neg h2] at hij
                rcases hcv i o hi' with ⟨hlt, _⟩ | ⟨_, hi2⟩
                · omega
                · rcases hcv j p hj with ⟨hlt, _⟩ | ⟨_, hj2⟩
                  · omega
                  · have hlt1 := (List.getElem?_eq_some_iff.1 hi2).1
                    have hlt2 := (List.getElem?_eq_some_iff.1 hj2).1
                    have s1 : σ[i - vs0.length]? = some (σ.getD (i - vs0.length) 0) := by rw [List.getElem?_eq_getElem (by omega)]; simp [List.getD, List.getElem?_eq_getElem (show i - vs0.length < σ.length by omega)]
                    have s2 : σ[j - vs0.length]? = some (σ.getD (j - vs0.length) 0) := by rw [List.getElem?_eq_getElem (by omega)]; simp [List.getD, List.getElem?_eq_getElem (show j - vs0.length < σ.length by omega)]
                    rw [hij] at s1
                    have := nodupB_get c1 _ _ _ s1 s2
                    omega
        · intro p hp
          rcases List.mem_append.1 hp with hp | hp
          · exact rdB_v hb g3 p hp
          · have ht := List.all_eq_true.1 c4 p hp
            have := fxT_ok (X := X) (z := z1) (vs := vs) (vs' := vs0 ++ σ.map fun i => vs.getD i undef) id ht ((hE.mono g1.le fun _ _ h => h) p.1) fun j i u hj hu => by
              by_cases hlt : j < vs0.length
              · rw [List.getElem?_append_left (by simpa using hlt)] at hj
                rw [List.getElem?_range hlt] at hj
                cases hj
                exact hleft j u hlt hu
              · rw [List.getElem?_append_right (by simpa using hlt)] at hj
                rw [List.length_range] at hj
                obtain ⟨u', h1, h2⟩ := hnv _ _ hj
                rw [hu] at h2; cases h2
                show (vs0 ++ _)[j]? = _
                rw [List.getElem?_append_right (by omega)]
                exact h1
            rwa [rnS_id] at this
      · cases h
    · cases h
  · cases h
theorem post_of {ins : List It} {ks : List Nat} {x : inT D ins} {xx : Ex D} {y : outT D xx.outs} {vs0 : List Value} (hi : Inv (mkO X ins x) O) (hv : ∀ (i : Nat) (u : Value), vs0[i]? = some u → vs[i]? = some u) (hl0 : vs0.length = (mkO X ins x).length)
    (hM : Mm X.G O z e m k vs) (hE : Rl X z vs E fr) (h : rdX X vs0.length ks xx E O = some y) :
    ∃ z' nv, Zx e.next z z' ∧ Mm X.G (postO X ks (mkO X ins x) xx.outs (ofOut _ y)) z' e m k (vs0 ++ nv) ∧ ∀ p ∈ mkE X xx.outs (ofOut _ y) ++ xx.fx, rel X.G z' (vs0 ++ nv) p.2 (fr p.1) := by
  obtain ⟨vs', g1, g2, g3, g4⟩ := ownA_ok (its := xx.outs) hM hE
  unfold rdX at h
  split at h
  · rename_i O0 hf
    obtain ⟨z1, k0, k1, k2⟩ := frzB_ok g3 hf
    obtain ⟨z2, nv, q0, q1, q2⟩ := post_ofI ((hi.trans g1).trans k0) (fun i u hu => g2 i u (hv i u hu)) hl0 k2 (g4.mono k1.le fun _ _ h => h) h
    exact ⟨z2, nv, k1.trans q0, q1, q2⟩
  · cases h
end
end
end Go.AM
end
section
set_option linter.unusedSimpArgs false
set_option linter.unusedVariables false
namespace Go.AM
/-- A piece of code, as data. -/
structure PD (D : Nat → Type) where
  path : List Nat
  ins : List It
  fx : List (Nat × SV D)
  ks : List Nat
  exs : List (Ex D)
  keep : List Nat
noncomputable section
section
variable {P : Program} {D : Nat → Type}
def PD.F (p : PD D) : Type := inT D p.ins → Option (sumT p.exs)
def nO : List It → Nat
  | [] => 0
  | .o _ _ :: its => nO its + 1
  | _ :: its => nO its
/-- A value without contents; the object it names. -/
def simpS : SV D → Bool
  | .c (.own _) | .box _ _ | .arr _ | .c .nilS | .c .nilP | .c .nilM | .undef | .un | .c (.int _ _) | .c (.bool _) | .fn _ [] => true
  | _ => false
def refS : SV D → Option Nat
  | .c (.own j) | .box j _ | .arr j => some j
  | _ => none
def fxOk (n : Nat) (ks : List Nat) (s : SV D) : Bool := simpS s && match refS s with | some j => Nat.ble n j || !Nat.beq (ks.getD j 0) 0 | none => true
def posOf : List Nat → Nat → Option Nat
  | [], _ => none
  | a :: σ, i => if Nat.beq a i = true then some 0 else (match posOf σ i with | some j => some (j + 1) | none => none)
variable (X : Ev P D)
def turnO (τ : Nat → Nat) (σ ks : List Nat) (outs : List It) (y : inT D outs) : Nat → List (Ob D) → List (Ob D)
  | _, [] => []
  | i, o :: O => (match posOf σ i with | some j => (if ks.getD j 0 = 1 then o else if ks.getD j 0 = 2 then updOf X τ outs y j else .dead) | none => if o.live = true then .dead else o) :: turnO τ σ ks outs y (i + 1) O
def mkOr (τ : Nat → Nat) : (its : List It) → inT D its → List (Ob D)
  | [], _ => []
  | .o _ c :: its, x => OC.mkr X τ c x.1 false :: mkOr τ its x.2
  | .v _ _ :: its, x => mkOr τ its x.2
  | .u _ _ :: its, x => mkOr τ its x.2
def num (σ : List Nat) (n N : Nat) (j : Nat) : Nat := if Nat.blt j n = true then σ.getD j 0 else N + (j - n)
/-- The slots, the objects after a piece. -/
def actE (p : PD D) (σ : List Nat) (N : Nat) (xx : Ex D) (y : inT D xx.outs) (E : List (Nat × SV D)) : List (Nat × SV D) :=
  mkE X xx.outs y ++ ((xx.fx.map fun q => (q.1, rnS (num σ (nO p.ins) N) q.2)) ++ p.keep.map fun d => (d, lkE E d))
def actO (p : PD D) (σ : List Nat) (O2 : List (Ob D)) (xx : Ex D) (y : inT D xx.outs) : List (Ob D) := turnO X (num σ (nO p.ins) O2.length) σ p.ks xx.outs y 0 O2 ++ mkOr X (num σ (nO p.ins) O2.length) xx.outs y
def PD.runI (p : PD D) (F : p.F) (E : List (Nat × SV D)) (O : List (Ob D)) {ρ : Type} (K : AExit → List (Nat × SV D) → List (Ob D) → Option ρ) : Option ρ :=
  match rdIn X p.ins p.fx E O with
  | some (x, σ, O2) => Option.bind (F x) fun res => atEx p.exs res fun xx y => K xx.ex (actE X p σ O2.length xx (ofOut _ y) E) (actO X p σ O2 xx (ofOut _ y))
  | none => none
def PD.run (p : PD D) (F : p.F) (E : List (Nat × SV D)) (O : List (Ob D)) {ρ : Type} (K : AExit → List (Nat × SV D) → List (Ob D) → Option ρ) : Option ρ := p.runI X F (ownA p.ins E O).1 (ownA p.ins E O).2 K
def PD.pc (p : PD D) (F : p.F) : Pc D where
  path := p.path
  fits := fun E O => (rdIn X p.ins p.fx (ownA p.ins E O).1 (ownA p.ins E O).2).isSome
  run := fun E O {_} K => p.run X F E O K
def okN (n : Nat) (ks : List Nat) (r : Nat) : Bool := Nat.ble n r || !Nat.beq (ks.getD r 0) 0
def kInsOk (n : Nat) (ks : List Nat) : Nat → List It → Bool
  | _, [] => true
  | j, .o _ c :: its => (!Nat.beq (ks.getD j 0) 1 || c.nums.all (okN n ks)) && kInsOk n ks (j + 1) its
  | j, _ :: its => kInsOk n ks j its
/-- What is looked at once. -/
def PD.chk (B : Code) (p : PD D) : Bool := ((p.exs.all fun xx => xx.outs.all fun i => i.nums.all (okN (nO p.ins) p.ks)) && kInsOk (nO p.ins) p.ks 0 p.ins) && (p.exs.all (fun xx => xx.fx.all fun q => fxOk (nO p.ins) p.ks q.2) && p.keep.all fun d => !(writes (sub B p.path)).contains d)
def lpOk : Nat → List Nat → List Nat → List (Ob D) → Bool
  | _, [], _, _ => true
  | j, k :: ks, σ, O => (if k = 0 then true else optB (σ[j]?) j && (if k = 1 then (match O[j]? with | some o => !o.tch | none => false) else true)) && lpOk (j + 1) ks σ O
def loopK (p : PD D) (F : p.F) (ex : AExit) (E : List (Nat × SV D)) (O : List (Ob D)) : Option (sumT p.exs) :=
  if ex = .normal then
    match rdIn X p.ins p.fx (ownA p.ins E O).1 (ownA p.ins E O).2 with
    | some (x, σ, O2) => if lpOk 0 p.ks σ O2 = true then F x else none
    | none => none
  else rdEx X (nO p.ins) p.ks p.exs ex E O
end
section
variable {P : Program} {D : Nat → Type} {X : Ev P D} {z z' : Nat → Blk} {e m m' : Mem} {k : Option Nat} {vs vs' : List Value} {fr : Nat → Value} {E : List (Nat × SV D)} {O O' : List (Ob D)}
theorem okN_ok {n : Nat} {ks : List Nat} {r : Nat} (h : okN n ks r = true) : n ≤ r ∨ ks.getD r 0 ≠ 0 := by
  simp only [okN, Bool.or_eq_true, Bool.not_eq_true'] at h
  rcases h with h | h
  · exact .inl (Nat.le_of_ble_eq_true h)
  · refine .inr fun hh => ?_
    rw [hh] at h; cases h
theorem kInsOk_ok {n : Nat} {ks : List Nat} : ∀ {its : List It} {x : inT D its} {i j : Nat} {q : CO D}, kInsOk n ks i its = true → (cos its x)[j]? = some q → ks.getD (i + j) 0 = 1 → ∀ r ∈ q.c.nums, n ≤ r ∨ ks.getD r 0 ≠ 0
  | [], _, _, _, _, _, h, _ => by simp [cos] at h
  | .v d c :: its, x, i, j, q, hk, h, h1 => kInsOk_ok (its := its) (x := x.2) hk h h1
  | .u d c :: its, x, i, j, q, hk, h, h1 => kInsOk_ok (its := its) (x := x.2) hk h h1
  | .o d c :: its, x, i, 0, q, hk, h, h1 => by
    simp only [cos, List.getElem?_cons_zero] at h
    cases h
    simp only [kInsOk, Bool.and_eq_true] at hk
    intro r hr
    have h2 := hk.1
    rw [Nat.add_zero] at h1
    rw [h1] at h2
    exact okN_ok (List.all_eq_true.1 (by simpa using h2) r hr)
  | .o d c :: its, x, i, j + 1, q, hk, h, h1 => by
    simp only [cos, List.getElem?_cons_succ] at h
    simp only [kInsOk, Bool.and_eq_true] at hk
    exact kInsOk_ok (its := its) (x := x.2) hk.2 h (by rw [← h1]; congr 1; omega)
theorem ownG_ext {τ τ' : Nat → Nat} {l : List (Nat × Nat)} (h : ∀ p ∈ l, τ p.2 = τ' p.2) : ∀ {cs : List (CV D)} {i : Nat}, ownG τ l i cs = ownG τ' l i cs
  | [], _ => rfl
  | c :: cs, i => by
    simp only [ownG, ownG_ext h (cs := cs)]
    congr 1
    cases hf : fndN l i with
    | none => rfl
    | some n => simp only; rw [h _ (fndN_mem hf)]
theorem mkr_ext {τ τ' : Nat → Nat} {c : OC} {x : c.ty D} {w : Bool} (h : ∀ r ∈ c.nums, τ r = τ' r) : OC.mkr X τ c x w = OC.mkr X τ' c x w := by
  cases c with
  | bx t l =>
    simp only [OC.mkr]
    rw [ownG_ext fun p hp => h p.2 (List.mem_map.2 ⟨p, hp, rfl⟩)]
  | _ => rfl
theorem mkOr_cos {τ : Nat → Nat} : ∀ {its : List It} {x : inT D its}, mkOr X τ its x = (cos its x).map fun q => OC.mkr X τ q.c q.x false
  | [], _ => rfl
  | .o d c :: its, x => by
    show OC.mkr X τ c x.1 false :: mkOr X τ its x.2 = OC.mkr X τ c x.1 false :: (cos its x.2).map _
    rw [mkOr_cos]
  | .v d c :: its, x => mkOr_cos (its := its)
  | .u d c :: its, x => mkOr_cos (its := its)
theorem mkO_len : ∀ {its : List It} {x : inT D its}, (mkO X its x).length = nO its
  | [], _ => rfl
  | .v _ _ :: its, x => mkO_len (its := its)
  | .u _ _ :: its, x => mkO_len (its := its)
  | .o _ _ :: its, x => by
    show ((mkO X its x.2).length + 1) = nO its + 1
    rw [mkO_len]
/-- What a piece leads to, under its own numbers. -/
def PostC (X : Ev P D) (p : PD D) (x : inT D p.ins) (res : sumT p.exs) (z : Nat → Blk) (e : Mem) (k : Option Nat) (vs0 : List Value) (ex : AExit) (fr' : Nat → Value) (m' : Mem) : Prop :=
  ∃ z' nv xx y, xx ∈ p.exs ∧ ex = xx.ex ∧ (∀ {α : Type} (K : (x : Ex D) → outT D x.outs → α), atEx p.exs res K = K xx y) ∧ Zx e.next z z' ∧
    Mm X.G (postO X p.ks (mkO X p.ins x) xx.outs (ofOut _ y)) z' e m' k (vs0 ++ nv) ∧ ∀ q ∈ mkE X xx.outs (ofOut _ y) ++ xx.fx, rel X.G z' (vs0 ++ nv) q.2 (fr' q.1)
def CC (X : Ev P D) (B : Code) (p : PD D) (F : p.F) : Prop := ∀ (x : inT D p.ins) (res : sumT p.exs) {z : Nat → Blk} {e m : Mem} {k : Option Nat} {vs0 : List Value} {fr : Nat → Value},
  F x = some res → Mm X.G (mkO X p.ins x) z e m k vs0 → Rl X z vs0 (mkE X p.ins x ++ p.fx) fr → W P (sub B p.path) (PostC X p x res z e k vs0) fr m
/-- A piece by its equation. -/
theorem CC.of (hC : COk X) {B : Code} {us : List (Pc D)} {p : PD D} {F : p.F} (hus : ∀ u ∈ us, p.path.length < u.path.length → PcOk X B u)
    (heq : ∀ x, exC X us calm true p.path.reverse (sub B p.path) (mkE X p.ins x ++ p.fx) (mkO X p.ins x) (rdEx X (nO p.ins) p.ks p.exs) = F x) : CC X B p F := by
  intro x res z e m k vs0 fr hF hM hE
  have h := heq x
  rw [hF] at h
  have hn : vs0.length = nO p.ins := by rw [hM.len, mkO_len]
  refine (exC_ok hC (L := p.path.length) hus (sub B p.path) true p.path.reverse _ _ _ res (by rw [List.reverse_reverse]) (by simp) (by simp) hM hE h).mono ?_
  rintro ex fr1 m1 ⟨z1, vs1, E1, O1, h0, h1, h2, h3, h4, h5⟩
  obtain ⟨xx, y, g1, g2, g3, g4⟩ := rdEx_some h5
  obtain ⟨z2, nv, k1, k2, k3⟩ := post_of (ks := p.ks) (x := x) h0 h2 hM.len h3 h4 (by rw [hn]; exact g3)
  exact ⟨z2, nv, xx, y, g1, g2, g4, h1.trans k1, k2, k3⟩
theorem rn_ok {s : SV D} {v : Value} {τ : Nat → Nat} (h : simpS s = true) (hr : rel X.G z vs s v) (hv : ∀ (j : Nat) (u : Value), refS s = some j → vs[j]? = some u → vs'[τ j]? = some u) : rel X.G z vs' (rnS τ s) v := by
  unfold simpS at h
  split at h
  · exact ⟨hv _ _ rfl hr.1, hr.2⟩
  · obtain ⟨b, h1, h2⟩ := hr; exact ⟨b, hv _ _ rfl h1, h2⟩
  · obtain ⟨b, l, h1, h2⟩ := hr; exact ⟨b, l, hv _ _ rfl h1, h2⟩
  · exact hr
  · exact hr
  · exact hr
  · exact hr
  · exact hr
  · exact hr
  · exact hr
  · obtain ⟨gs, h1, h2⟩ := hr
    refine ⟨gs, h1, ?_⟩
    cases gs with
    | nil => trivial
    | cons _ _ => exact h2.elim
  · cases h
theorem fxOk_ok {n : Nat} {ks : List Nat} {s : SV D} (h : fxOk n ks s = true) : simpS s = true ∧ ∀ j, refS s = some j → n ≤ j ∨ ks.getD j 0 ≠ 0 := by
  simp only [fxOk, Bool.and_eq_true] at h
  refine ⟨h.1, fun j hj => ?_⟩
  have h2 := h.2
  rw [hj] at h2
  simp only [Bool.or_eq_true, Bool.not_eq_true'] at h2
  rcases h2 with h2 | h2
  · exact .inl (Nat.le_of_ble_eq_true h2)
  · refine .inr fun hh => ?_
    rw [hh] at h2; cases h2
theorem lpOk_ok : ∀ {ks : List Nat} {i j : Nat} {σ : List Nat}, lpOk i ks σ O = true → ks.getD j 0 ≠ 0 → σ[i + j]? = some (i + j) ∧ (ks.getD j 0 = 1 → ∃ o, O[i + j]? = some o ∧ o.tch = false)
  | [], i, j, σ, _, h => by simp at h
  | k :: ks, i, 0, σ, hk, h => by
    simp only [lpOk, Bool.and_eq_true] at hk
    simp only [List.getD_cons_zero] at h ⊢
    have h1 := hk.1
    rw [if_neg h] at h1
    simp only [Bool.and_eq_true] at h1
    refine ⟨optB_eq h1.1, fun k1 => ?_⟩
    have h2 := h1.2
    rw [if_pos k1] at h2
    split at h2
    · rename_i o ho
      exact ⟨o, ho, by simpa using h2⟩
    · cases h2
  | k :: ks, i, j + 1, σ, hk, h => by
    simp only [lpOk, Bool.and_eq_true] at hk
    simp only [List.getD_cons_succ] at h ⊢
    have := lpOk_ok hk.2 h
    rw [show i + (j + 1) = i + 1 + j by omega]
    exact this
theorem pO_eq {outs : List It} {y : inT D outs} {ks : List Nat} {A B : List (Ob D)} (hl : A.length = B.length) (h : ∀ j, ks.getD j 0 = 1 → A[j]? = B[j]?) : pO X outs y 0 ks A = pO X outs y 0 ks B := by
  apply List.ext_getElem?
  intro j
  by_cases hj : j < A.length
  · have a : A[j]? = some A[j] := List.getElem?_eq_getElem hj
    have b : B[j]? = some (B[j]'(by omega)) := List.getElem?_eq_getElem (by omega)
    rw [pO_get a, pO_get b]
    by_cases k1 : ks.getD j 0 = 1
    · have e := h j k1
      rw [a, b] at e
      rw [if_pos k1, if_pos k1, Option.some.inj e]
    · rw [if_neg k1, if_neg k1]
  · rw [List.getElem?_eq_none (by rw [pO_len]; omega), List.getElem?_eq_none (by rw [pO_len]; omega)]
/-- A loop by its equation. -/
theorem CC.loop (hC : COk X) {B c : Code} {us : List (Pc D)} {p : PD D} {F : Nat → p.F} (hB : sub B p.path = .loop c) (hk : p.chk B = true) (hus : ∀ u ∈ us, p.path.length + 1 < u.path.length → PcOk X B u) (h0 : ∀ x, F 0 x = none)
    (heq : ∀ n x, exC X us calm true (0 :: p.path.reverse) c (mkE X p.ins x ++ p.fx) (mkO X p.ins x) (loopK X p (F n)) = F (n + 1) x) : ∀ n, CC X B p (F n) := by
  intro n
  induction n with
  | zero => intro x res z e m k vs0 fr hF; rw [h0] at hF; cases hF
  | succ n ih =>
    intro x res z e m k vs0 fr hF hM hE
    have h := heq n x
    rw [hF] at h
    rw [hB]
    have hn : vs0.length = nO p.ins := by rw [hM.len, mkO_len]
    refine W.loop1 ((exC_ok hC (L := p.path.length + 1) hus c true (0 :: p.path.reverse) _ _ _ res (by rw [List.reverse_cons, List.reverse_reverse, ← sub_app, hB]; exact sub_nil c) (by simp) (by simp) hM hE h).mono ?_)
    rintro ex fr1 m1 ⟨z1, vs1, E1, O1, h0, h1, h2, h3, h4, h5⟩
    have other : rdEx X (nO p.ins) p.ks p.exs ex E1 O1 = some res → PostC X p x res z e k vs0 ex fr1 m1 := by
      intro h5
      obtain ⟨xx, y, g1, g2, g3, g4⟩ := rdEx_some h5
      obtain ⟨z2, nv, k1, k2, k3⟩ := post_of (ks := p.ks) (x := x) h0 h2 hM.len h3 h4 (by rw [hn]; exact g3)
      exact ⟨z2, nv, xx, y, g1, g2, g4, h1.trans k1, k2, k3⟩
    cases ex with
    | exit i => exact other h5
    | ret => exact other h5
    | normal =>
      show W P (.loop c) _ fr1 m1
      have h5 : (match rdIn X p.ins p.fx (ownA p.ins E1 O1).1 (ownA p.ins E1 O1).2 with
        | some (x, σ, O2) => if lpOk 0 p.ks σ O2 = true then F n x else none
        | none => none) = some res := h5
      split at h5
      · rename_i x' σ O2 hr
        obtain ⟨hlp, hF'⟩ := ite_some h5
        obtain ⟨vs1', w1, w2, w3, w4⟩ := ownA_ok (its := p.ins) h3 h4
        obtain ⟨z2, vs2, i1, i2, en⟩ := entry w3 w4 hr
        have i1 := w1.trans i1
        have h2 : ∀ (i : Nat) (u : Value), vs0[i]? = some u → vs1'[i]? = some u := fun i u hu => w2 i u (h2 i u hu)
        have hgo := ih x' res hF' en.mm0 en.rl
        rw [hB] at hgo
        refine hgo.mono ?_
        rintro ex fr2 m2 ⟨z3, nv, xx, y, g1, g2, g3, g4, g5, g6⟩
        have same : ∀ j, p.ks.getD j 0 ≠ 0 → ∀ u, vs2[j]? = some u → vs0[j]? = some u := by
          intro j hj u hu
          obtain ⟨s1, _⟩ := lpOk_ok hlp hj
          rw [Nat.zero_add] at s1
          obtain ⟨u', t1, t2⟩ := en.nv _ _ s1
          rw [hu] at t1; cases t1
          have hlt : j < vs0.length := by
            have := (List.getElem?_eq_some_iff.1 hu).1
            rw [en.len, en.oy.length, ← List.length_map (f := fun q => OC.mk X q.c q.x false), ← mkO_cos, mkO_len] at this
            omega
          have := h2 j _ (List.getElem?_eq_getElem hlt)
          rw [t2] at this; cases this
          exact List.getElem?_eq_getElem hlt
        have hl2 : vs2.length = vs0.length := by rw [en.len, en.oy.length, ← List.length_map (f := fun q => OC.mk X q.c q.x false), ← mkO_cos, mkO_len, hn]
        have same' : ∀ (j : Nat) (u : Value), nO p.ins ≤ j ∨ p.ks.getD j 0 ≠ 0 → (vs2 ++ nv)[j]? = some u → (vs0 ++ nv)[j]? = some u := by
          intro j u hj hu
          by_cases hlt : j < vs0.length
          · rw [List.getElem?_append_left (by omega)] at hu ⊢
            rcases hj with hj | hj
            · omega
            · exact same j hj u hu
          · rw [List.getElem?_append_right (by omega)] at hu ⊢
            rw [hl2] at hu; exact hu
        have hk0 := hk
        simp only [PD.chk, Bool.and_eq_true] at hk0
        have hko := hk0.1.1
        have hki := hk0.1.2
        have hpo : pO X xx.outs (ofOut _ y) 0 p.ks (mkO X p.ins x') = pO X xx.outs (ofOut _ y) 0 p.ks (mkO X p.ins x) := by
          refine pO_eq (by rw [mkO_len, mkO_len]) fun j hj => ?_
          obtain ⟨s1, s2⟩ := lpOk_ok hlp (show p.ks.getD j 0 ≠ 0 by rw [hj]; simp)
          obtain ⟨o, o1, o2⟩ := s2 hj
          rw [Nat.zero_add] at s1 o1
          obtain ⟨q, q1, w, q2⟩ := en.oy.get j j s1
          rw [o1] at q2
          have q2 := Option.some.inj q2
          subst q2
          rw [OC.mkr_tch] at o2
          subst o2
          have q1' : (mkO X p.ins x')[j]? = some (OC.mk X q.c q.x false) := by rw [mkO_cos, List.getElem?_map, q1]; rfl
          have hjl : j < (mkO X p.ins x).length := by rw [mkO_len, ← mkO_len (X := X) (x := x')]; exact (List.getElem?_eq_some_iff.1 q1').1
          have old := (h0.trans i1).old j _ hjl o1 OC.mkr_live OC.mkr_tch
          rw [q1', old]
          refine congrArg some (mkr_ext fun r hr => ?_)
          obtain ⟨ir, hir⟩ := en.gt q (List.mem_of_getElem? q1) r hr
          have hrl : r < nO p.ins := by
            have := (List.getElem?_eq_some_iff.1 hir).1
            rw [en.oy.length, ← List.length_map (f := fun q => OC.mk X q.c q.x false), ← mkO_cos, mkO_len] at this
            exact this
          rcases kInsOk_ok (i := 0) hki q1 (by rw [Nat.zero_add]; exact hj) r hr with h | h
          · omega
          · obtain ⟨s3, _⟩ := lpOk_ok hlp h
            rw [Nat.zero_add] at s3
            simp [List.getD, s3]
        have hfx : ∀ q ∈ xx.fx, fxOk (nO p.ins) p.ks q.2 = true := by
          exact fun q hq => List.all_eq_true.1 (List.all_eq_true.1 hk0.2.1 xx g1) q hq
        have hout : ∀ i ∈ xx.outs, ∀ r ∈ i.nums, nO p.ins ≤ r ∨ p.ks.getD r 0 ≠ 0 := fun i hi r hr => okN_ok (List.all_eq_true.1 (List.all_eq_true.1 (List.all_eq_true.1 hko xx g1) i hi) r hr)
        refine ⟨z3, nv, xx, y, g1, g2, g3, (h1.trans i2).trans g4, ?_, fun q hq => ?_⟩
        · have hpost : postO X p.ks (mkO X p.ins x') xx.outs (ofOut _ y) = postO X p.ks (mkO X p.ins x) xx.outs (ofOut _ y) := by rw [postO, postO, hpo]
          rw [hpost] at g5
          have key : ∀ (i : Nat) (o : Ob D), (postO X p.ks (mkO X p.ins x) xx.outs (ofOut _ y))[i]? = some o → o.live = true → (nO p.ins ≤ i ∨ p.ks.getD i 0 ≠ 0) := by
            intro i o ho hl
            by_cases hlt : i < nO p.ins
            · refine .inr fun hks => ?_
              unfold postO at ho
              rw [List.getElem?_append_left (by rw [pO_len, mkO_len]; exact hlt)] at ho
              have hs : (mkO X p.ins x)[i]? = some ((mkO X p.ins x)[i]'(by rw [mkO_len]; exact hlt)) := List.getElem?_eq_getElem _
              rw [pO_get hs, hks] at ho
              simp at ho
              subst ho; cases hl
            · exact .inl (by omega)
          have mk : ∀ (i : Nat) (o : Ob D), (postO X p.ks (mkO X p.ins x) xx.outs (ofOut _ y))[i]? = some o → o = .dead ∨ ∃ c a w, o = OC.mk X c a w ∧ ∀ r ∈ c.nums, nO p.ins ≤ r ∨ p.ks.getD r 0 ≠ 0 := by
            intro i o ho
            unfold postO at ho
            by_cases hlt : i < nO p.ins
            · rw [List.getElem?_append_left (by rw [pO_len, mkO_len]; exact hlt)] at ho
              have hs : (mkO X p.ins x)[i]? = some ((mkO X p.ins x)[i]'(by rw [mkO_len]; exact hlt)) := List.getElem?_eq_getElem _
              rw [pO_get hs] at ho
              have ho := (Option.some.inj ho).symm
              by_cases k1 : p.ks.getD i 0 = 1
              · rw [if_pos k1] at ho
                have hs' : (mkO X p.ins x)[i]? = some o := by rw [ho]; exact hs
                rw [mkO_cos, List.getElem?_map] at hs'
                obtain ⟨q, hq, he⟩ := Option.map_eq_some_iff.1 hs'
                exact .inr ⟨q.c, q.x, false, he.symm, kInsOk_ok (i := 0) hki hq (by rw [Nat.zero_add]; exact k1)⟩
              · rw [if_neg k1] at ho
                by_cases k2 : p.ks.getD i 0 = 2
                · rw [if_pos k2] at ho
                  rcases updOf_mk (X := X) (its := xx.outs) (x := ofOut _ y) (j := 0 + i) with hd | ⟨d, c, a, hd, he⟩
                  · exact .inl (by rw [ho, hd])
                  · exact .inr ⟨c, a, true, by rw [ho, he]; rfl, hout _ hd⟩
                · rw [if_neg k2] at ho; exact .inl ho
            · rw [List.getElem?_append_right (by rw [pO_len, mkO_len]; omega)] at ho
              obtain ⟨d, c, a, hd, hh⟩ := mkO_mk (List.mem_of_getElem? ho)
              exact .inr ⟨c, a, false, hh, hout _ hd⟩
          refine g5.sel (by rw [← g5.len]; simp [hl2]) id (fun i o ho hl => ?_) (fun i o u ho hl hu => ?_) (fun i j _ _ _ _ _ _ h => h)
          · obtain ⟨v, v1, v2⟩ := g5.at ho
            refine ⟨o, v, ho, hl, v1, same' i v (key i o ho hl) v1, ?_⟩
            rcases mk i o ho with rfl | ⟨c, a, w, rfl, hr⟩
            · trivial
            · exact OC.mkr_ok w v2 fun r hr' u hu => same' r u (hr r hr') hu
          · rcases mk i o ho with rfl | ⟨c, a, w, rfl, _⟩
            · trivial
            · rw [OC.mk_live] at hl; cases hl
        · have hr := g6 q hq
          rcases List.mem_append.1 hq with hq | hq
          · obtain ⟨c, a, hc⟩ := mkE_mk hq
            rw [hc] at hr ⊢
            exact Cl.mk_vs hr
          · obtain ⟨s1, s2⟩ := fxOk_ok (hfx q hq)
            have := rn_ok (X := X) (τ := id) (vs' := vs0 ++ nv) s1 hr fun j u hj hu => same' j u (s2 j hj) hu
            rwa [rnS_id] at this
      · cases h5
theorem posOf_some : ∀ {σ : List Nat} {i j : Nat}, posOf σ i = some j → σ[j]? = some i
  | [], _, _, h => by cases h
  | a :: σ, i, j, h => by
    simp only [posOf] at h
    split at h
    · rename_i ha
      cases h
      rw [Nat.eq_of_beq_eq_true ha]; rfl
    · split at h
      · rename_i j' hj
        cases h
        rw [List.getElem?_cons_succ]
        exact posOf_some hj
      · cases h
theorem turnO_len {τ : Nat → Nat} {σ ks : List Nat} {outs : List It} {y : inT D outs} : ∀ {i : Nat} {O : List (Ob D)}, (turnO X τ σ ks outs y i O).length = O.length
  | i, [] => rfl
  | i, o :: O => by simp [turnO, turnO_len]
theorem turnO_get {τ : Nat → Nat} {σ ks : List Nat} {outs : List It} {y : inT D outs} : ∀ {i : Nat} {O : List (Ob D)} {a : Nat} {o : Ob D}, O[a]? = some o → (turnO X τ σ ks outs y i O)[a]? = some (match posOf σ (i + a) with | some j => (if ks.getD j 0 = 1 then o else if ks.getD j 0 = 2 then updOf X τ outs y j else .dead) | none => if o.live = true then .dead else o)
  | i, [], a, o, h => by simp at h
  | i, p :: O, 0, o, h => by simp at h; subst h; simp [turnO]
  | i, p :: O, a + 1, o, h => by
    simp only [List.getElem?_cons_succ] at h
    have := turnO_get (τ := τ) (σ := σ) (ks := ks) (outs := outs) (y := y) (i := i + 1) h
    simp only [turnO, List.getElem?_cons_succ, this]
    rw [show i + (a + 1) = i + 1 + a by omega]
/-- A piece does what its data say. -/
theorem CC.pcI {B : Code} {p : PD D} {F : p.F} (h : CC X B p F) (hk : p.chk B = true) {ρ : Type} (E : List (Nat × SV D)) (O : List (Ob D)) (K : AExit → List (Nat × SV D) → List (Ob D) → Option ρ) (r : ρ) {z : Nat → Blk} {e m : Mem} {k : Option Nat} {vs : List Value} {fr : Nat → Value}
    (hM : Mm X.G O z e m k vs) (hE : Rl X z vs E fr) (hr : p.runI X F E O K = some r) : W P (sub B p.path) (fun x => Nx X O z e k vs (K x) r) fr m := by
  unfold PD.runI at hr
  split at hr
  · rename_i x σ O2 hi
    obtain ⟨res, hF, hr⟩ := bind_some hr
    obtain ⟨z1, vs0, i1, i2, en⟩ := entry hM hE hi
    simp only [PD.chk, Bool.and_eq_true] at hk
    have hn : σ.length = nO p.ins := by rw [← mkO_len (X := X) (x := x), mkO_cos, List.length_map]; exact en.oy.length
    have hn0 : vs0.length = nO p.ins := by rw [en.len, hn]
    refine (h x res hF en.mm0 en.rl).keep ?_
    rintro ex fr1 m1 hkeep ⟨z2, nv, xx, y, g1, g2, g3, g4, g5, g6⟩
    rw [g3] at hr
    subst g2
    have hnl : nv.length = (mkO X xx.outs (ofOut _ y)).length := by
      have := g5.len
      unfold postO at this
      rw [List.length_append, List.length_append, pO_len, mkO_len] at this
      omega
    have hN : vs.length = O2.length := en.mm.len
    have hext : ∀ (i : Nat) (u : Value), vs[i]? = some u → (vs ++ nv)[i]? = some u := ext_get
    have hnum : ∀ (j : Nat) (u : Value), (vs0 ++ nv)[j]? = some u → (vs ++ nv)[num σ (nO p.ins) O2.length j]? = some u := by
      intro j u hu
      unfold num
      by_cases hlt : j < nO p.ins
      · have hb : Nat.blt j (nO p.ins) = true := by simpa [Nat.blt_eq] using hlt
        rw [if_pos hb]
        rw [List.getElem?_append_left (by omega)] at hu
        have hs : σ[j]? = some (σ.getD j 0) := by rw [List.getElem?_eq_getElem (by omega)]; simp [List.getD, List.getElem?_eq_getElem (show j < σ.length by omega)]
        obtain ⟨u', t1, t2⟩ := en.nv _ _ hs
        rw [hu] at t1; cases t1
        exact hext _ _ t2
      · have hb : ¬ Nat.blt j (nO p.ins) = true := by simpa [Nat.blt_eq] using hlt
        rw [if_neg hb]
        rw [List.getElem?_append_right (by omega), hn0] at hu
        rw [List.getElem?_append_right (by omega), hN]
        rw [show O2.length + (j - nO p.ins) - O2.length = j - nO p.ins by omega]
        exact hu
    -- the objects
    have hcv : ∀ (i : Nat) (o : Ob D), (actO X p σ O2 xx (ofOut _ y))[i]? = some o →
        (i < O2.length ∧ ∃ o2, O2[i]? = some o2 ∧ o = (match posOf σ i with | some j => (if p.ks.getD j 0 = 1 then o2 else if p.ks.getD j 0 = 2 then updOf X (num σ (nO p.ins) O2.length) xx.outs (ofOut _ y) j else .dead) | none => if o2.live = true then .dead else o2)) ∨
        (O2.length ≤ i ∧ (mkOr X (num σ (nO p.ins) O2.length) xx.outs (ofOut _ y))[i - O2.length]? = some o) := by
      intro i o ho
      unfold actO at ho
      by_cases hlt : i < O2.length
      · refine .inl ⟨hlt, ?_⟩
        rw [List.getElem?_append_left (by rw [turnO_len]; exact hlt)] at ho
        have hs : O2[i]? = some O2[i] := List.getElem?_eq_getElem hlt
        rw [turnO_get hs, Nat.zero_add] at ho
        exact ⟨_, hs, (Option.some.inj ho).symm⟩
      · refine .inr ⟨by omega, ?_⟩
        rw [List.getElem?_append_right (by rw [turnO_len]; omega), turnO_len] at ho
        exact ho
    have hpost : ∀ (j : Nat) (o0 : Ob D), (mkO X p.ins x)[j]? = some o0 → (postO X p.ks (mkO X p.ins x) xx.outs (ofOut _ y))[j]? = some (if p.ks.getD j 0 = 1 then o0 else if p.ks.getD j 0 = 2 then updOf X idN xx.outs (ofOut _ y) j else .dead) := by
      intro j o0 hj
      unfold postO
      rw [List.getElem?_append_left (by rw [pO_len]; exact (List.getElem?_eq_some_iff.1 hj).1)]
      have := pO_get (X := X) (outs := xx.outs) (y := ofOut _ y) (i := 0) (ks := p.ks) hj
      rw [Nat.zero_add] at this
      exact this
    have hpost2 : ∀ (i : Nat) (o : Ob D), (mkO X xx.outs (ofOut _ y))[i]? = some o → (postO X p.ks (mkO X p.ins x) xx.outs (ofOut _ y))[nO p.ins + i]? = some o := by
      intro i o ho
      unfold postO
      rw [List.getElem?_append_right (by rw [pO_len, mkO_len]; omega), pO_len, mkO_len, show nO p.ins + i - nO p.ins = i by omega]
      exact ho
    -- what an object that lives was
    have hlv : ∀ (i : Nat) (o : Ob D), (actO X p σ O2 xx (ofOut _ y))[i]? = some o → o.live = true →
        (∃ j, posOf σ i = some j ∧ ((p.ks.getD j 0 = 1 ∧ O2[i]? = some o) ∨ (p.ks.getD j 0 ≠ 1 ∧ p.ks.getD j 0 = 2 ∧ o = updOf X (num σ (nO p.ins) O2.length) xx.outs (ofOut _ y) j))) ∨ (O2.length ≤ i ∧ (mkOr X (num σ (nO p.ins) O2.length) xx.outs (ofOut _ y))[i - O2.length]? = some o) := by
      intro i o ho hl
      rcases hcv i o ho with ⟨hlt, o2, h2, h3⟩ | h
      · left
        cases hp : posOf σ i with
        | some j =>
          rw [hp] at h3
          dsimp only at h3
          refine ⟨j, rfl, ?_⟩
          by_cases k1 : p.ks.getD j 0 = 1
          · rw [if_pos k1] at h3
            exact .inl ⟨k1, by rw [h2, h3]⟩
          · rw [if_neg k1] at h3
            by_cases k2 : p.ks.getD j 0 = 2
            · rw [if_pos k2] at h3; exact .inr ⟨k1, k2, h3⟩
            · rw [if_neg k2] at h3; rw [h3] at hl; cases hl
        | none =>
          rw [hp] at h3
          dsimp only at h3
          by_cases h4 : o2.live = true
          · rw [if_pos h4] at h3; rw [h3] at hl; cases hl
          · rw [if_neg h4] at h3; rw [h3] at hl; exact absurd hl h4
      · exact .inr h
    refine ⟨z2, vs ++ nv, _, _, i1.trans ?_, i2.trans g4, hext, ?_, Rl_of ?_, hr⟩
    · refine ⟨?_, fun i o hi ho hl ht => ?_⟩
      · unfold actO
        rw [List.length_append, turnO_len]
        omega
      · rcases hlv i o ho hl with ⟨j, _, h | ⟨_, _, h⟩⟩ | h
        · exact h.2
        · rcases updOf_mk (X := X) (its := xx.outs) (x := ofOut _ y) (j := j) with hd | ⟨_, c, a, _, hd⟩
          · rw [h, hd] at hl; cases hl
          · rw [h, hd, OC.mkr_tch] at ht; cases ht
        · omega
    · refine g5.sel ?_ (fun i => if i < O2.length then (posOf σ i).getD 0 else nO p.ins + (i - O2.length)) (fun i o ho hl => ?_) (fun i o u ho hl hu => ?_) (fun i j o q hi' hj hli hlj hij => ?_)
      · unfold actO
        rw [List.length_append, List.length_append, turnO_len, hnl, hN, mkOr_cos, mkO_cos, List.length_map, List.length_map]
      · rcases hlv i o ho hl with ⟨j, hp, hc⟩ | ⟨hge, hc⟩
        · have hs := posOf_some hp
          obtain ⟨q, q1', w, q2⟩ := en.oy.get j i hs
          have q1 : (mkO X p.ins x)[j]? = some (OC.mk X q.c q.x false) := by rw [mkO_cos, List.getElem?_map, q1']; rfl
          obtain ⟨u, t1, t2⟩ := en.nv _ _ hs
          have hlt : i < O2.length := (List.getElem?_eq_some_iff.1 q2).1
          simp only [if_pos hlt, hp, Option.getD_some]
          have hpj := hpost j _ q1
          have hu0 : (vs0 ++ nv)[j]? = some u := ext_get _ _ t1
          rcases hc with ⟨k1, hc⟩ | ⟨k1, k2, hc⟩
          · rw [if_pos k1] at hpj
            rw [q2] at hc
            have hc := Option.some.inj hc
            subst hc
            have hob := g5.obj j _ u hpj hu0
            refine ⟨_, u, hpj, OC.mk_live, hu0, hext _ _ t2, OC.mkr_ok w hob fun r hr u' hu' => ?_⟩
            obtain ⟨ir, hir⟩ := en.gt q (List.mem_of_getElem? q1') r hr
            have hlr : r < nO p.ins := by rw [← hn]; exact (List.getElem?_eq_some_iff.1 hir).1
            have := hnum r u' hu'
            unfold num at this
            rwa [if_pos (by simpa [Nat.blt_eq] using hlr)] at this
          · rw [if_neg k1, if_pos k2] at hpj
            have hob := g5.obj j _ u hpj hu0
            rcases updOf_mk (X := X) (its := xx.outs) (x := ofOut _ y) (j := j) with hd | ⟨_, c, a, _, hd⟩
            · rw [hc, hd] at hl; cases hl
            · rw [hd] at hob
              refine ⟨_, u, hpj, by rw [hd]; exact OC.mkr_live, hu0, hext _ _ t2, ?_⟩
              rw [hc, hd]
              exact OC.mkr_ok true hob fun r _ u' hu' => hnum r u' hu'
        · have hnlt : ¬ i < O2.length := by omega
          simp only [if_neg hnlt]
          rw [mkOr_cos, List.getElem?_map] at hc
          obtain ⟨q, hq, rfl⟩ := Option.map_eq_some_iff.1 hc
          have hpj := hpost2 (i - O2.length) (OC.mk X q.c q.x false) (by rw [mkO_cos, List.getElem?_map, hq]; rfl)
          obtain ⟨u, u1, u2⟩ := g5.at hpj
          refine ⟨_, u, hpj, OC.mk_live, u1, ?_, ?_⟩
          · rw [List.getElem?_append_right (by omega), hn0, show nO p.ins + (i - O2.length) - nO p.ins = i - O2.length by omega] at u1
            rw [List.getElem?_append_right (by omega), hN]
            exact u1
          · exact OC.mkr_ok false u2 fun r _ u' hu' => hnum r u' hu'
      · rcases hcv i o ho with ⟨hlt, o2, h2, h3⟩ | ⟨_, h⟩
        · cases hp : posOf σ i with
          | some j =>
            rw [hp] at h3
            dsimp only at h3
            have hs := posOf_some hp
            obtain ⟨q, q1, w, q2⟩ := en.oy.get j i hs
            rw [h2] at q2
            by_cases k1 : p.ks.getD j 0 = 1
            · rw [if_pos k1] at h3
              rw [h3, Option.some.inj q2, OC.mkr_live] at hl; cases hl
            · rw [if_neg k1] at h3
              by_cases k2 : p.ks.getD j 0 = 2
              · rw [if_pos k2] at h3
                rcases updOf_mk (X := X) (its := xx.outs) (x := ofOut _ y) (j := j) with hd | ⟨_, c, a, _, hd⟩
                · rw [h3, hd]; trivial
                · rw [h3, hd, OC.mkr_live] at hl; cases hl
              · rw [if_neg k2] at h3; rw [h3]; trivial
          | none =>
            rw [hp] at h3
            dsimp only at h3
            by_cases h4 : o2.live = true
            · rw [if_pos h4] at h3; rw [h3]; trivial
            · rw [if_neg h4] at h3
              subst h3
              rw [List.getElem?_append_left (by omega)] at hu
              exact (en.mm.obj i o u h2 hu).frozen hl g4.le hext
        · rw [mkOr_cos, List.getElem?_map] at h
          obtain ⟨q, hq, rfl⟩ := Option.map_eq_some_iff.1 h
          rw [OC.mkr_live] at hl; cases hl
      · have one : ∀ (i : Nat) (o : Ob D), (actO X p σ O2 xx (ofOut _ y))[i]? = some o → o.live = true → (i < O2.length ∧ ∃ j, posOf σ i = some j ∧ j < nO p.ins) ∨ O2.length ≤ i := by
          intro i o ho hl
          rcases hlv i o ho hl with ⟨j, hp, _⟩ | ⟨hge, _⟩
          · have hs := posOf_some hp
            obtain ⟨o0, q1, w, q2⟩ := en.oy.get j i hs
            exact .inl ⟨(List.getElem?_eq_some_iff.1 q2).1, j, hp, by have := (List.getElem?_eq_some_iff.1 hs).1; omega⟩
          · exact .inr hge
        rcases one i o hi' hli with ⟨a1, a2, a3, a4⟩ | a1
        · rcases one j q hj hlj with ⟨b1, b2, b3, b4⟩ | b1
          · simp only [if_pos a1, if_pos b1, a3, b3, Option.getD_some] at hij
            subst hij
            have s1 := posOf_some a3
            have s2 := posOf_some b3
            rw [s1] at s2
            exact Option.some.inj s2
          · have hb : ¬ j < O2.length := by omega
            simp only [if_pos a1, if_neg hb, a3, Option.getD_some] at hij
            omega
        · have ha : ¬ i < O2.length := by omega
          rcases one j q hj hlj with ⟨b1, b2, b3, b4⟩ | b1
          · simp only [if_neg ha, if_pos b1, b3, Option.getD_some] at hij
            omega
          · have hb : ¬ j < O2.length := by omega
            simp only [if_neg ha, if_neg hb] at hij
            omega
    · intro q hq
      unfold actE at hq
      rcases List.mem_append.1 hq with hq | hq
      · obtain ⟨c, a, hc⟩ := mkE_mk hq
        have := g6 q (List.mem_append.2 (.inl hq))
        rw [hc] at this ⊢
        exact Cl.mk_vs this
      · rcases List.mem_append.1 hq with hq | hq
        · obtain ⟨q0, hq0, rfl⟩ := List.mem_map.1 hq
          have := g6 q0 (List.mem_append.2 (.inr hq0))
          obtain ⟨s1, _⟩ := fxOk_ok (List.all_eq_true.1 (List.all_eq_true.1 hk.2.1 xx g1) q0 hq0)
          exact rn_ok s1 this fun j u _ hu => hnum j u hu
        · obtain ⟨d, hd, rfl⟩ := List.mem_map.1 hq
          have hw := List.all_eq_true.1 hk.2.2 d hd
          have := hkeep d (by simpa using hw)
          show rel X.G z2 (vs ++ nv) (lkE E d) (fr1 d)
          rw [this]
          exact rel.mono (hE d) (i2.le.trans g4.le) hext
  · cases hr
theorem CC.pc {B : Code} {p : PD D} {F : p.F} (h : CC X B p F) (hk : p.chk B = true) : PcOk X B (p.pc X F) := by
  intro ρ E O K r z e m k vs fr _ hM hE hr
  obtain ⟨vs', g1, g2, g3, g4⟩ := ownA_ok (its := p.ins) hM hE
  exact (h.pcI hk _ _ K r g3 g4 hr).mono fun _ _ _ hn => hn.from g1 (Zx.refl z) g2
end
end
end Go.AM
end
