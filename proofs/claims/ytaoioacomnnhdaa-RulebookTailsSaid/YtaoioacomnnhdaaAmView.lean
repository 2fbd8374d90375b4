/- Views: parts of a slice of the call's own, read only. -/
import Derived.Test.YtaoioacomnnhdaaAmFn
set_option linter.unusedSimpArgs false
set_option linter.unusedVariables false
namespace Go.AM

/-- A part of what lies in the call's own block 'p'. -/
def Vw {α : Type} (T : Ty α) (z : Nat → Blk) (m : Mem) (p : Option Nat) (xs : List α) (v : Value) : Prop :=
  (v = .slice none 0 0 ∧ xs = []) ∨
  ∃ b off c L, v = .slice (some ⟨b, off, none⟩) xs.length c ∧ p = some b ∧ m.blk b = .own L T.tid ∧ z b = .dead ∧ b < m.next ∧ ((c = BIG ∧ off + xs.length * T.sz ≤ L.length) ∨ (c < BIG ∧ xs.length ≤ c)) ∧
    ∀ (i : Nat) (x : α), xs[i]? = some x → ∃ cs, T.rd z x cs ∧ cellsIn L (off + i * T.sz) cs

section
variable {α : Type} {T : Ty α} {z z' : Nat → Blk} {e m m' : Mem} {k p q : Option Nat} {xs r : List α} {v : Value} {t u : TypeId} {b : Nat}
variable {P : Program} {ρ : Operand → Value} {o : Oper} {x y : Operand} {i : TypeInfo} {D : Tag → Value → Mem → Prop} {te : TypeId}

theorem Ow.vw (h : Ow T z m xs v) : Vw T z m (blkOf v) xs v := by
  rcases h with h | ⟨b, L, c, rfl, h1, h2, h3, h4, h5, h6⟩
  · exact .inl h
  · refine .inr ⟨b, 0, c, L, rfl, rfl, h1, h3, h2, ?_, fun i x hi => by rw [Nat.zero_add]; exact h6 i x hi⟩
    rcases h5 with rfl | ⟨h5, h7, h8⟩
    · exact .inl ⟨rfl, by omega⟩
    · exact .inr ⟨h5, h7⟩
theorem Vw.same (h : Vw T z m p xs v) (s : Same m m' q) (ap : Ap p q) : Vw T z m' p xs v := by
  rcases h with h | ⟨b, off, c, L, rfl, hp, h1, h2, h3, h4, h5⟩
  · exact .inl h
  · exact .inr ⟨b, off, c, L, rfl, hp, by rw [s.blk b h3 (ap b hp)]; exact h1, h2, Nat.lt_of_lt_of_le h3 s.next, h4, h5⟩
theorem Vw.zle (h : Vw T z m p xs v) (hz : Zle z z') (hb : ∀ b, p = some b → z' b = z b) : Vw T z' m p xs v := by
  rcases h with h | ⟨b, off, c, L, rfl, hp, h1, h2, h3, h4, h5⟩
  · exact .inl h
  · refine .inr ⟨b, off, c, L, rfl, hp, h1, by rw [hb b hp]; exact h2, h3, h4, fun i x hi => ?_⟩
    obtain ⟨cs, g1, g2⟩ := h5 i x hi
    exact ⟨cs, T.mono _ _ hz _ _ g1, g2⟩
theorem Vw.lt (h : Vw T z m p xs v) (hv : v ≠ .slice none 0 0) : ∃ b, p = some b ∧ b < m.next := by
  rcases h with ⟨h, _⟩ | ⟨b, off, c, L, rfl, hp, h1, h2, h3, h4, h5⟩
  · exact absurd h hv
  · exact ⟨b, hp, h3⟩
theorem Vw.call (h : Vw T z m p xs v) (hx : Zx m.next z z') (s : Same m m' q) (ap : Ap p q) : Vw T z' m' p xs v := by
  rcases h with h | ⟨b, off, c, L, rfl, hp, h1, h2, h3, h4, h5⟩
  · exact .inl h
  · refine .inr ⟨b, off, c, L, rfl, hp, by rw [s.blk b h3 (ap b hp)]; exact h1, by rw [hx.low b h3]; exact h2, Nat.lt_of_lt_of_le h3 s.next, h4, fun i x hi => ?_⟩
    obtain ⟨cs, g1, g2⟩ := h5 i x hi
    exact ⟨cs, T.mono _ _ hx.le _ _ g1, g2⟩
theorem Vw.len (h : Vw T z m p xs v) : ∃ a c, v = .slice a xs.length c := by
  rcases h with ⟨rfl, rfl⟩ | ⟨b, off, c, L, rfl, _⟩
  · exact ⟨_, _, rfl⟩
  · exact ⟨_, _, rfl⟩
theorem Vw.nilOr (h : Vw T z m p xs v) : (v = .slice none 0 0 ∧ xs = []) ∨ ∃ a l c, v = .slice (some a) l c := by
  rcases h with h | ⟨b, off, c, L, rfl, _⟩
  · exact .inl h
  · exact .inr ⟨_, _, _, rfl⟩
theorem Vw.src (h : Vw T z m p xs v) : Src T z m xs v := by
  rcases h with ⟨rfl, rfl⟩ | ⟨b, off, c, L, rfl, hp, hb, _, _, _, h4⟩
  · exact ⟨rfl, [], rfl, by simp, fun i y hy => by simp at hy⟩
  · exact src_of fun i y hy => by
      obtain ⟨cs, g1, g2⟩ := h4 i y hy
      exact ⟨cs, g1, fun k u hk => by simp only [Mem.load, hb]; exact g2 k u hk⟩
/-- When the block is frozen, its parts may be read. -/
theorem Vw.toR (h : Vw T z m p xs v) (hz : ∀ b, p = some b → z b = .dead) : SlR T (frz z m p) xs v := by
  rcases h with h | ⟨b, off, c, L, rfl, rfl, h1, h2, h3, h4, h5⟩
  · exact .inl h
  · have hzb : frz z m (some b) b = .own L T.tid := by simp [frz, h1]
    refine .inr ⟨b, off, c, rfl, by rw [hzb]; simp, ?_, fun i x hi => ?_⟩
    · rcases h4 with ⟨rfl, h4⟩ | ⟨h4, h7⟩
      · exact .inl ⟨rfl, L, hzb, h4⟩
      · exact .inr ⟨h4, h7⟩
    · obtain ⟨cs, g1, g2⟩ := h5 i x hi
      refine ⟨cs, T.mono _ _ (frz_le hz) x cs g1, fun k u hk => ?_⟩
      simp only [ldz, hzb]
      exact g2 k u hk
theorem OwF.freezeV (h : OwF T z e m k xs v) (st : St z e m k) : ∃ z', Zx e.next z z' ∧ St z' e m k ∧ SlR T z' xs v ∧ (∀ p, Ap p (blkOf v) → ∀ b, p = some b → z' b = z b) ∧ ∀ {β : Type} {T' : Ty β} {ys : List β} {w : Value}, Vw T' z m (blkOf v) ys w → SlR T' z' ys w := by
  refine ⟨frz z m (blkOf v), ⟨frz_le fun b hb => (h.ow.lt b hb).2, fun b hb => ?_⟩, ⟨frz_fz st.fz h.lt, st.dead, st.dead0, st.next, st.kept⟩, h.ow.toR, fun p hp b hb => ?_, fun hw => hw.toR fun b hb => (h.ow.lt b hb).2⟩
  · unfold frz
    rw [if_neg]
    intro hb'
    have := h.fresh b hb'
    omega
  · unfold frz
    rw [if_neg (hp b hb)]

theorem kCutV {lo hi : Option Operand} {a b : Int} (h : o.op = .slice t x lo hi none) (ht : P.underlying t = some (.slice T.tid)) (hi' : P.info? T.tid = some i) (hsz : i.size = T.sz) (hx : ρ x = v)
    (hlo : lowI ρ lo a) (hhi : highI ρ hi xs.length b) (hs : Vw T z m p xs v) (hr : cutI xs a b = some r) (hk : ∀ v' I, (∀ m2, m2 = m → I m2) → Vw T z m p r v' → D (.read I) v' m) : StepX P ρ o m D := by
  obtain ⟨h0, h1, h2, rfl⟩ := cutI_some hr
  obtain ⟨a', rfl⟩ := Int.eq_ofNat_of_zero_le h0
  obtain ⟨b', rfl⟩ := Int.eq_ofNat_of_zero_le (Int.le_trans h0 h1)
  have h1' : a' ≤ b' := by omega
  have h2' : b' ≤ xs.length := by omega
  simp only [Int.toNat_natCast] at hk ⊢
  have hlo' := lowI_is hlo
  have hhi' := highI_is hhi
  have hlen : ((xs.take b').drop a').length = b' - a' := by simp; omega
  rcases hs with ⟨rfl, rfl⟩ | ⟨bl, off, c, L, rfl, hp, g1, g2, g3, hcap, hel⟩
  · have hb0 : b' = 0 := by simpa using h2'
    subst hb0
    have ha0 : a' = 0 := by omega
    subst ha0
    exact StepX.pureR (I := fun _ => True) (.sliceNil t x lo hi T.tid i h ht hi' hx hlo' hhi') (hk _ _ (fun _ _ => trivial) (.inl ⟨rfl, by simp⟩))
  · have hel' : ∀ o', o' = off + a' * T.sz → ∀ (k : Nat) (w : α), ((xs.take b').drop a')[k]? = some w → ∃ cs, T.rd z w cs ∧ cellsIn L (o' + k * T.sz) cs := by
      intro o' ho' k w hk
      obtain ⟨cs, g1, g2⟩ := hel _ w (cut_get hk)
      refine ⟨cs, g1, ?_⟩
      rw [ho', Nat.add_assoc, ← Nat.add_mul]; exact g2
    rcases hcap with ⟨rfl, hlL⟩ | ⟨hc, hle⟩
    · have hst : ReadR P ρ o m _ := .slice t x lo hi T.tid i L bl off xs.length a' b' h ht hi' hx g1 hlo' hhi' h1' h2' (by rw [hsz]; exact hlL)
      refine StepX.read hst (hk _ _ (fun m2 he => by rw [he]; exact hst) (.inr ⟨bl, off + a' * T.sz, BIG, L, by rw [hlen, hsz], hp, g1, g2, g3, .inl ⟨rfl, ?_⟩, hel' _ rfl⟩))
      rw [hlen, Nat.add_assoc, ← Nat.add_mul]
      have : (a' + (b' - a')) * T.sz ≤ xs.length * T.sz := Nat.mul_le_mul_right _ (by omega)
      omega
    · refine StepX.pureR (I := fun _ => True) (.slice t x lo hi T.tid i bl off xs.length c a' b' h ht hi' hx (by simp only [BIG] at hc ⊢; omega) hlo' hhi' h1' (by omega) (fun _ => trivial)) (hk _ _ (fun _ _ => trivial) ?_)
      by_cases hcn : c = a'
      · have h00 : b' - a' = 0 := by omega
        refine .inr ⟨bl, off, c - a', L, by simp [hcn, hlen, h00], hp, g1, g2, g3, .inr ⟨by omega, by rw [hlen]; omega⟩, fun k w hk => ?_⟩
        have hlt := (List.getElem?_eq_some_iff.1 hk).1
        omega
      · refine .inr ⟨bl, off + a' * T.sz, c - a', L, by rw [if_neg hcn, hlen, hsz], hp, g1, g2, g3, .inr ⟨by omega, by rw [hlen]; omega⟩, hel' _ rfl⟩

theorem pLenG (h : o.op = .call { callee := .builtin .len, args := #[x], argTypes := #[t] }) (ht : P.underlying t = some (.slice te)) (hx : ρ x = v) (hs : ∃ a c, v = .slice a xs.length c) : PureR P ρ o (.int .i64 xs.length) := by
  obtain ⟨a, c, rfl⟩ := hs
  exact .len x t te a _ c h ht hx
theorem kIdxV {k1 : IntKind} {n : Int} {a : α} (h : o.op = .indexAddr t x y) (ht : P.underlying t = some (.slice te)) (hi : P.info? te = some i) (hsz : i.size = T.sz) (hx : ρ x = v) (hy : ρ y = .int k1 n) (hs : Vw T z m p xs v) (hg : getI xs n = some a)
    (hk : ∀ b off cs, T.rd z a cs → (∀ (j : Nat) (u : Value), cs[j]? = some u → m.load b (off + j) = some u) → D .pure (.pointer (some ⟨b, off, none⟩)) m) : StepX P ρ o m D := by
  obtain ⟨h0, h1, h2⟩ := getI_some hg
  rcases hs with ⟨_, rfl⟩ | ⟨b, off, c, L, rfl, hp, hb, _, _, _, h4⟩
  · simp at h2
  · obtain ⟨cs, g1, g2⟩ := h4 _ a h2
    refine StepX.pure (.indexAddr t x y te i b off _ c k1 n h ht hi hx hy h0 h1) (hk _ _ _ g1 fun j u hj => ?_)
    simp only [Mem.load, hb, hsz]
    exact g2 j u hj

/-- An element of a slice of the call's own. -/
theorem OwF.elem {n : Int} {a : α} {l c : Nat} (h : OwF T z e m k xs v) (hv : v = .slice (some ⟨b, 0, none⟩) l c) (hg : getI xs n = some a) :
    ∃ cs, T.rd z a cs ∧ xs[n.toNat]? = some a ∧ ∀ (j : Nat) (u : Value), cs[j]? = some u → m.load b (n.toNat * T.sz + j) = some u := by
  obtain ⟨h0, h1, h2⟩ := getI_some hg
  rcases h.ow with ⟨_, rfl⟩ | ⟨b', L, c', rfl, hb, _, _, hl, _, h4⟩
  · simp at h2
  · obtain ⟨cs, g1, g2⟩ := h4 _ a h2
    cases hv
    exact ⟨cs, g1, h2, fun j u hj => by simp only [Mem.load, hb]; exact g2 j u hj⟩

/-! ### Arrays in memory: as slices of the call's own -/
def Ty.as (T : Ty α) (t : TypeId) : Ty α := { T with tid := t }

theorem kAllocA {x0 : α} {n : Nat} {c : List Value} (h : o.op = .alloc t) (hi : P.info? t = some i) {zv : Value} (hz : i.zero = some zv) (hzf : zv.cells.toList.all flat0 = true) (hs : zv.cells.size = i.size) (hc : zv.cells.toList = (List.replicate n c).flatten) (hrd : T.rd z x0 c) (hn : Nat.blt n BIG = true) (st : St z e m k)
    (hk : ∀ b m', St z e m' k → OwF (T.as t) z e m' k (List.replicate n x0) (.slice (some ⟨b, 0, none⟩) n n) → Same m m' none → (∀ p, (∀ c, p = some c → c < m.next) → Ap p (some b)) → D .new (.pointer (some ⟨b, 0, none⟩)) m') : StepX P ρ o m D := by
  obtain ⟨h2, h3, h4, h5⟩ := gBoxed (L := zv.cells.toList) (t := t) st
  have hlen := T.len _ _ _ hrd
  have hl : zv.cells.toList.length = n * T.sz := by rw [hc]; simp [hlen]
  have hn' : n < BIG := by simp [Nat.blt] at hn; omega
  refine StepX.new (.alloc t i zv h hi hz hzf hs) (hk _ _ h2 ⟨.inr ⟨m.next, zv.cells.toList, n, by simp, h3.blk, h3.lt, h3.dead, ?_, .inr ⟨hn', by simp, ?_⟩, fun j x hj => ?_⟩, fun b hb => by cases hb; exact st.next⟩ h4 h5)
  · rw [hl]; simp [Ty.as]
  · rw [hl]; simp [Ty.as]
  · obtain ⟨hlt, hx⟩ := List.getElem?_eq_some_iff.1 hj
    simp at hlt hx
    subst hx
    refine ⟨c, hrd, fun q u hq => ?_⟩
    have hq' := (List.getElem?_eq_some_iff.1 hq).1
    rw [hc]
    have key : ∀ (n j : Nat), j < n → (List.replicate n c).flatten[j * T.sz + q]? = some u := by
      intro n
      induction n with
      | zero => intro j hj; omega
      | succ n ih =>
        intro j hj
        rw [List.replicate_succ, List.flatten_cons]
        cases j with
        | zero => rw [Nat.zero_mul, Nat.zero_add, List.getElem?_append_left hq']; exact hq
        | succ j =>
          rw [List.getElem?_append_right (by rw [hlen, Nat.succ_mul]; omega), hlen, show (j + 1) * T.sz + q - T.sz = j * T.sz + q by rw [Nat.succ_mul]; omega]
          exact ih j (by omega)
    exact key n j hlt

theorem kIdxA {k1 : IntKind} {n : Int} {a : α} {l : Nat} (h : o.op = .indexAddr t x y) (ht : P.underlying t = some (.array l te)) (hi : P.info? te = some i) (hsz : i.size = T.sz) (hx : ρ x = .pointer (some ⟨b, 0, none⟩)) (hy : ρ y = .int k1 n) (hs : OwF T z e m k xs (.slice (some ⟨b, 0, none⟩) l l)) (hg : getI xs n = some a)
    (hk : ∀ cs, T.rd z a cs → xs[n.toNat]? = some a → (∀ (j : Nat) (u : Value), cs[j]? = some u → m.load b (n.toNat * T.sz + j) = some u) → D .pure (.pointer (some ⟨b, n.toNat * T.sz, none⟩)) m) : StepX P ρ o m D := by
  obtain ⟨cs, g1, g2, g3⟩ := hs.elem rfl hg
  obtain ⟨h0, h1, h2⟩ := getI_some hg
  have hl : xs.length = l := by
    obtain ⟨a', c', he⟩ := hs.ow.len
    injection he with _ he _
    exact he.symm
  have := PureR.indexAddrA (P := P) (ρ := ρ) (o := o) t x y te i b 0 l k1 n h ht hi hx hy h0 (by rw [← hl]; exact h1)
  rw [Nat.zero_add, hsz] at this
  exact StepX.pure this (hk _ g1 g2 g3)
end
end Go.AM
