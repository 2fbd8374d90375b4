/- Appends, new slices, conversions; regions whose order is open but does not matter; the end of a call. -/
import Derived.Test.YtaoioacomnnhdaaAmOps2
set_option linter.unusedSimpArgs false
set_option linter.unusedVariables false
namespace Go.AM

def LIM : Nat := 4294967296

/-- An append within bounds. -/
def appI {α : Type} (xs ys : List α) : Option (List α) := if xs.length + ys.length ≤ LIM then some (xs ++ ys) else none
theorem appI_some {α : Type} {xs ys r : List α} (h : appI xs ys = some r) : xs.length + ys.length ≤ LIM ∧ r = xs ++ ys := by
  unfold appI at h
  split at h
  · cases h; exact ⟨‹_›, rfl⟩
  · cases h
def mkI {α : Type} (x : α) (n : Int) : Option (List α) := if 0 ≤ n ∧ n ≤ 4294967296 then some (List.replicate n.toNat x) else none
theorem mkI_some {α : Type} {x : α} {n : Int} {r : List α} (h : mkI x n = some r) : 0 ≤ n ∧ n ≤ 4294967296 ∧ r = List.replicate n.toNat x := by
  unfold mkI at h
  split at h
  · rename_i hc; cases h; exact ⟨hc.1, hc.2, rfl⟩
  · cases h
/-- An int that is a byte. -/
def toU8 (n : Int) : Option UInt8 := if 0 ≤ n ∧ n < 256 then some (UInt8.ofNat n.toNat) else none
theorem toU8_some {n : Int} {u : UInt8} (h : toU8 n = some u) : n = u.toNat := by
  unfold toU8 at h
  split at h
  · rename_i hc
    cases h
    simp; omega
  · cases h
def divI (a b : Int) : Option Int := if b = 0 then none else some (a.tdiv b)
def modI (a b : Int) : Option Int := if b = 0 then none else some (a.tmod b)
theorem divI_some {a b r : Int} (h : divI a b = some r) : b ≠ 0 ∧ r = a.tdiv b := by
  unfold divI at h; split at h
  · cases h
  · cases h; exact ⟨‹_›, rfl⟩
theorem modI_some {a b r : Int} (h : modI a b = some r) : b ≠ 0 ∧ r = a.tmod b := by
  unfold modI at h; split at h
  · cases h
  · cases h; exact ⟨‹_›, rfl⟩

/-- A name for a value. -/
def lt {α β : Type} (x : α) (f : α → Option β) : Option β := f x
theorem lt_some {α β : Type} {x : α} {f : α → Option β} {r : β} (h : lt x f = some r) : ∃ y, x = y ∧ f y = some r := ⟨x, rfl, h⟩
theorem bind_some {α β : Type} {x : Option α} {f : α → Option β} {r : β} (h : x.bind f = some r) : ∃ y, x = some y ∧ f y = some r := Option.bind_eq_some_iff.1 h
theorem if_some {β : Type} {c : Bool} {x y : Option β} {r : β} (h : (if c = true then x else y) = some r) : (c = true ∧ x = some r) ∨ (c = false ∧ y = some r) := by
  cases c
  · exact .inr ⟨rfl, by simpa using h⟩
  · exact .inl ⟨rfl, by simpa using h⟩

/-- The bytes of a string or of a []byte. -/
def TU8 (t : TypeId) : Ty UInt8 := Ty.flat t (fun u => .int .u8 u.toNat) fun _ => rfl

section
variable {P : Program} {C : FuncId → Array Value → Mem → Value → Mem → Prop} {ρ : Operand → Value} {o : Oper} {α : Type} {T : Ty α} {z : Nat → Blk} {m : Mem} {xs ys : List α} {v w : Value} {x y : Operand} {t e u : TypeId} {i : TypeInfo} {d : TypeDesc}

/-- What can be appended. -/
def Src (T : Ty α) (z : Nat → Blk) (m : Mem) (ys : List α) (w : Value) : Prop :=
  lenV w = ys.length ∧ ∃ cs, elems m T.sz w = some cs ∧ cs.length = ys.length * T.sz ∧ ∀ (i : Nat) (y : α), ys[i]? = some y → ∃ c, T.rd z y c ∧ cellsIn cs (i * T.sz) c

theorem rdN_get {m : Mem} {b : Nat} : ∀ (n off : Nat) (f : Nat → Value), (∀ i, i < n → m.load b (off + i) = some (f i)) → rdN m b off n = some ((List.range n).map f)
  | 0, off, f, _ => rfl
  | n + 1, off, f, h => by
    have h0 := h 0 (by omega)
    have ih := rdN_get n (off + 1) (fun i => f (i + 1)) fun i hi => by rw [show off + 1 + i = off + (i + 1) by omega]; exact h (i + 1) (by omega)
    simp only [Nat.add_zero] at h0
    simp only [rdN, h0, ih, List.range_succ_eq_map, List.map_cons, List.map_map]
    rfl

theorem src_of {b off c : Nat} (h : ∀ (i : Nat) (y : α), ys[i]? = some y → ∃ cs, T.rd z y cs ∧ ∀ (k : Nat) (u : Value), cs[k]? = some u → m.load b (off + i * T.sz + k) = some u) : Src T z m ys (.slice (some ⟨b, off, none⟩) ys.length c) := by
  have hload : ∀ k, k < ys.length * T.sz → ∃ u, m.load b (off + k) = some u := by
    intro k hk
    have hpos : 0 < T.sz := by
      rcases Nat.eq_zero_or_pos T.sz with h0 | h0
      · rw [h0] at hk; omega
      · exact h0
    have hq : k / T.sz < ys.length := Nat.div_lt_of_lt_mul (by rw [Nat.mul_comm]; exact hk)
    obtain ⟨cs, h1, h2⟩ := h (k / T.sz) ys[k / T.sz] (by simp [hq])
    have hlen := T.len z _ cs h1
    have hr : k % T.sz < cs.length := by rw [hlen]; exact Nat.mod_lt _ hpos
    refine ⟨cs[k % T.sz], ?_⟩
    have := h2 (k % T.sz) _ (List.getElem?_eq_getElem hr)
    rw [Nat.add_assoc, Nat.mul_comm, Nat.div_add_mod] at this
    exact this
  let f : Nat → Value := fun k => (m.load b (off + k)).getD undef
  have hf : ∀ k, k < ys.length * T.sz → m.load b (off + k) = some (f k) := fun k hk => by
    obtain ⟨u, hu⟩ := hload k hk
    simp [f, hu]
  refine ⟨rfl, (List.range (ys.length * T.sz)).map f, rdN_get _ _ _ hf, by simp, fun i y hy => ?_⟩
  obtain ⟨cs, h1, h2⟩ := h i y hy
  refine ⟨cs, h1, fun k u hk => ?_⟩
  have hkl := (List.getElem?_eq_some_iff.1 hk).1
  rw [T.len z y cs h1] at hkl
  have hil := (List.getElem?_eq_some_iff.1 hy).1
  have hlt : i * T.sz + k < ys.length * T.sz := by
    have : (i + 1) * T.sz ≤ ys.length * T.sz := Nat.mul_le_mul_right _ hil
    rw [Nat.add_mul, Nat.one_mul] at this
    omega
  have := h2 k u hk
  rw [Nat.add_assoc, hf _ hlt] at this
  rw [List.getElem?_map, List.getElem?_range hlt]
  simpa using this

theorem SlR.src (h : SlR T z ys w) (hz : Fz z m) : Src T z m ys w := by
  rcases h with ⟨rfl, rfl⟩ | ⟨b, off, c, rfl, _, _, h4⟩
  · exact ⟨rfl, [], rfl, by simp, fun i y hy => by simp at hy⟩
  · exact src_of fun i y hy => by
      obtain ⟨cs, g1, g2⟩ := h4 i y hy
      exact ⟨cs, g1, fun k u hk => ldz_load hz (g2 k u hk)⟩

theorem Ow.src (h : Ow T z m ys w) : Src T z m ys w := by
  rcases h with ⟨rfl, rfl⟩ | ⟨b, L, c, rfl, hb, _, _, _, _, h4⟩
  · exact ⟨rfl, [], rfl, by simp, fun i y hy => by simp at hy⟩
  · exact src_of fun i y hy => by
      obtain ⟨cs, g1, g2⟩ := h4 i y hy
      exact ⟨cs, g1, fun k u hk => by simp only [Mem.load, hb, Nat.zero_add]; exact g2 k u hk⟩

theorem str_src {tid : TypeId} (s : List UInt8) : Src (TU8 tid) z m s (str s) := by
  refine ⟨by simp [lenV, str, str_size], s.map fun u => .int .u8 u.toNat, by simp [elems, str, TU8, Ty.flat], by simp [TU8, Ty.flat], fun i y hy => ?_⟩
  refine ⟨[.int .u8 y.toNat], rfl, fun k u hk => ?_⟩
  cases k with
  | zero => simp at hk; subst hk; simp [TU8, Ty.flat, hy]
  | succ k => simp at hk

theorem Same.kill {b : Nat} {X : Blk} (hd : ∀ b, m.next ≤ b → m.blk b = .dead) (hb : b < m.next) : Same m ((m.put b .dead).push X) (some b) := by
  have h1 := same_put (m := m) (x := .dead) hd hb
  refine ⟨Nat.le_succ _, fun c hc => ?_, fun c hc hk => ?_⟩
  · have e : ((m.put b .dead).push X).blk c = if c = m.next then X else (if c = b then .dead else m.blk c) := rfl
    have hc : m.next + 1 ≤ c := hc
    rw [e, if_neg (by omega)]
    split
    · rfl
    · exact hd c (by omega)
  · have e : ((m.put b .dead).push X).blk c = if c = m.next then X else (if c = b then .dead else m.blk c) := rfl
    rw [e, if_neg (by omega), if_neg (fun h => hk (by rw [h]))]

/-- An append, of what may be as long as there is memory. -/
theorem eAppendG (h : o.op = .call { callee := .builtin .append, args := #[x, y], argTypes := #[t, u] }) (ht : P.underlying t = some (.slice T.tid)) (hi : P.info? T.tid = some i) {zv : Value} (hzv : i.zero = some zv) (hzf : zv.cells.toList.all flat0 = true) (hzs : zv.cells.size = i.size)
    (hsz : i.size = T.sz) (hpos : 0 < T.sz) (hby0 : (xs.length + ys.length) * i.bytes ≤ 140737488355328) (hlim : xs.length + ys.length ≤ 140737488355328) (hu : (∃ e', P.underlying u = some (.slice e')) ∨ P.underlying u = some .string) (hx : ρ x = v) (hs : Ow T z m xs v) (hy : ρ y = w) (hsrc : Src T z m ys w)
    (hz : Fz z m) (hd : ∀ b, m.next ≤ b → m.blk b = .dead) :
    ∃ v' m', EffR P C ρ o m v' m' ∧ Ow T z m' (xs ++ ys) v' ∧ Same m m' (blkOf v) ∧ ∀ b, blkOf v' = some b → blkOf v = some b ∨ m.next ≤ b := by
  obtain ⟨hlen, cs, hel, hcl, hrd⟩ := hsrc
  have hlw : lenV (ρ y) = ys.length := by rw [hy]; exact hlen
  have hel' : elems m i.size (ρ y) = some cs := by rw [hy, hsz]; exact hel
  have hbytes : (xs.length + lenV (ρ y)) * i.bytes ≤ 140737488355328 := by
    rw [hlw]
    exact hby0
  have hmax : xs.length + lenV (ρ y) < 9223372036854775807 := by rw [hlw]; omega
  have hcl' : cs.length = lenV (ρ y) * i.size := by rw [hlw, hsz]; exact hcl
  have hnz : z m.next = .dead := by
    cases hzz : z m.next with
    | dead => rfl
    | ro rd => have := (hz m.next (by rw [hzz]; simp)).2; omega
    | own L t => have := (hz m.next (by rw [hzz]; simp)).2; omega
    | map L t => have := (hz m.next (by rw [hzz]; simp)).2; omega
  -- reading what is there and what comes
  have join : ∀ (old : List Value), old.length = xs.length * T.sz → (∀ (i : Nat) (x : α), xs[i]? = some x → ∃ c, T.rd z x c ∧ cellsIn old (i * T.sz) c) →
      ∀ (i : Nat) (x : α), (xs ++ ys)[i]? = some x → ∃ c, T.rd z x c ∧ cellsIn (old ++ cs) (i * T.sz) c := by
    intro old hol ho i a ha
    rw [List.getElem?_append] at ha
    split at ha
    · rename_i hlt
      obtain ⟨c, g1, g2⟩ := ho i a ha
      refine ⟨c, g1, fun k q hk => ?_⟩
      have := g2 k q hk
      rw [List.getElem?_append_left (List.getElem?_eq_some_iff.1 this).1]
      exact this
    · rename_i hge
      obtain ⟨c, g1, g2⟩ := hrd _ a ha
      refine ⟨c, g1, fun k q hk => ?_⟩
      have := g2 k q hk
      have h1 : i * T.sz = old.length + (i - xs.length) * T.sz := by
        rw [hol, ← Nat.add_mul]; congr 1; omega
      rw [h1, Nat.add_assoc, List.getElem?_append_right (by omega), Nat.add_sub_cancel_left]
      exact this
  rcases hs with ⟨rfl, rfl⟩ | ⟨b, L, c, rfl, hb, hlt, hzb, hl, hcap, hrd0⟩
  · by_cases hy0 : ys.length = 0
    · have hcs0 : cs = [] := List.eq_nil_of_length_eq_zero (by rw [hcl, hy0, Nat.zero_mul])
      have hys0 : ys = [] := List.eq_nil_of_length_eq_zero hy0
      subst hys0
      subst hcs0
      refine ⟨ρ x, m, .appendNone x y t u T.tid i none 0 0 h ht hi hu hx (by simp [BIG]) (Nat.le_refl _) hel' (by rw [hlw]; rfl), ?_, ⟨Nat.le_refl _, hd, fun _ _ _ => rfl⟩, ?_⟩
      · rw [hx]; exact .inl ⟨rfl, rfl⟩
      · intro b hb; rw [hx] at hb; cases hb
    · refine ⟨_, _, .appendNew x y t u T.tid i zv none 0 0 [] cs h ht hi hzv hzf hzs (by rw [hsz]; exact hpos) hu hx (by rw [hlw]; omega) (by rw [hx]; rfl) (by simp) hel' hcl' (by simpa using hbytes) (by simpa using hmax), ?_, same_push hd, ?_⟩
      · refine .inr ⟨m.next, cs, BIG, by simp [hlw], by simp [Mem.push], by simp [Mem.push], hnz, by simp [hcl], .inl rfl, ?_⟩
        have := join [] (by simp) (fun i x hx => by simp at hx)
        simpa using this
      · intro b hb; cases hb; exact .inr (Nat.le_refl _)
  · have hrd1 : ∀ (i : Nat) (x : α), xs[i]? = some x → ∃ c, T.rd z x c ∧ cellsIn (L.take (xs.length * T.sz)) (i * T.sz) c := by
      intro k a ha
      obtain ⟨c, g1, g2⟩ := hrd0 k a ha
      refine ⟨c, g1, fun q q' hq => ?_⟩
      have hql := (List.getElem?_eq_some_iff.1 hq).1
      rw [T.len z a c g1] at hql
      have hkl := (List.getElem?_eq_some_iff.1 ha).1
      have : (k + 1) * T.sz ≤ xs.length * T.sz := Nat.mul_le_mul_right _ hkl
      rw [Nat.add_mul, Nat.one_mul] at this
      rw [List.getElem?_take, if_pos (by omega)]
      exact g2 q q' hq
    have htl : (L.take (xs.length * T.sz)).length = xs.length * T.sz := by rw [List.length_take]; exact Nat.min_eq_left hl
    rcases hcap with rfl | ⟨hc1, hc2, hc3⟩
    · refine ⟨_, _, .append x y t u T.tid i zv b xs.length L cs h ht hi hzv hzf hzs (by rw [hsz]; exact hpos) hu hx hb (by rw [hsz]; exact hl) hel' hcl' hbytes hmax, ?_, Same.kill hd hlt, ?_⟩
      · refine .inr ⟨m.next, L.take (xs.length * T.sz) ++ cs, BIG, by simp [hlw], by simp [Mem.push, Mem.put, hsz], by simp [Mem.push, Mem.put], hnz, ?_, .inl rfl, ?_⟩
        · rw [List.length_append, List.length_append, htl, hcl, Nat.add_mul]
          exact Nat.le_refl _
        · exact join _ htl hrd1
      · intro b' hb'; cases hb'; exact .inr (Nat.le_refl _)
    · by_cases hfit : xs.length + ys.length ≤ c
      · have hL2 : 0 + (xs.length + lenV (ρ y)) * i.size ≤ L.length := by
          rw [hlw, hsz, Nat.zero_add]
          exact Nat.le_trans (Nat.mul_le_mul_right _ hfit) hc3
        refine ⟨_, _, .appendIn x y t u T.tid i b 0 xs.length c L cs h ht hi hu hx (by simp only [BIG] at hc1 ⊢; omega) (by rw [hlw]; exact hfit) hb hel' hcl' hL2, ?_, same_put hd hlt, fun b' hb' => .inl hb'⟩
        have hset : (setN L (0 + xs.length * i.size) cs).length = L.length := setN_length _ _ _
        refine .inr ⟨b, setN L (0 + xs.length * i.size) cs, c, by simp [hlw], by simp [Mem.put], hlt, hzb, ?_, .inr ⟨hc1, ?_, ?_⟩, ?_⟩
        · rw [hset]; rw [hlw, hsz, Nat.zero_add] at hL2; simpa using hL2
        · simpa using hfit
        · rw [hset]; exact hc3
        · intro k a ha
          obtain ⟨c', g1, g2⟩ := join _ htl hrd1 k a ha
          refine ⟨c', g1, fun q q' hq => ?_⟩
          have := g2 q q' hq
          have hlt2 := (List.getElem?_eq_some_iff.1 this).1
          rw [List.length_append, htl, hcl] at hlt2
          rw [hlw, hsz, Nat.zero_add, Nat.add_mul] at hL2
          rw [hsz, Nat.zero_add, setN_get _ _ _ _ (by rw [hcl]; exact hL2)]
          rw [List.getElem?_append, htl] at this
          split at this
          · rename_i hlt3
            rw [if_neg (by omega)]
            rw [List.getElem?_take, if_pos hlt3] at this
            exact this
          · rw [if_pos (by omega)]
            exact this
      · have hel0 : elems m i.size (ρ x) = some (L.take (xs.length * T.sz)) := by
          rw [hx, hsz]
          simp only [elems]
          refine rdN_of _ _ _ htl fun k q hk => ?_
          rw [List.getElem?_take] at hk
          split at hk
          · simp only [Mem.load, hb, Nat.zero_add]; exact hk
          · cases hk
        refine ⟨_, _, .appendNew x y t u T.tid i zv _ xs.length c (L.take (xs.length * T.sz)) cs h ht hi hzv hzf hzs (by rw [hsz]; exact hpos) hu hx (by rw [hlw]; omega) hel0 (by rw [htl, hsz]) hel' hcl' hbytes hmax, ?_, ?_, ?_⟩
        · refine .inr ⟨m.next, L.take (xs.length * T.sz) ++ cs, BIG, by simp [hlw], by simp [Mem.push], by simp [Mem.push], hnz, ?_, .inl rfl, join _ htl hrd1⟩
          rw [List.length_append, List.length_append, htl, hcl, Nat.add_mul]
          exact Nat.le_refl _
        · have := same_push (m := m) (x := .own (L.take (xs.length * T.sz) ++ cs) T.tid) hd
          exact ⟨this.next, this.dead, fun c hc _ => this.blk c hc (by simp)⟩
        · intro b' hb'; cases hb'; exact .inr (Nat.le_refl _)

/-- An append. -/
theorem eAppend (h : o.op = .call { callee := .builtin .append, args := #[x, y], argTypes := #[t, u] }) (ht : P.underlying t = some (.slice T.tid)) (hi : P.info? T.tid = some i) {zv : Value} (hzv : i.zero = some zv) (hzf : zv.cells.toList.all flat0 = true) (hzs : zv.cells.size = i.size)
    (hsz : i.size = T.sz) (hpos : 0 < T.sz) (hby : i.bytes ≤ 32768) (hu : (∃ e', P.underlying u = some (.slice e')) ∨ P.underlying u = some .string) (hx : ρ x = v) (hs : Ow T z m xs v) (hy : ρ y = w) (hsrc : Src T z m ys w)
    (hz : Fz z m) (hd : ∀ b, m.next ≤ b → m.blk b = .dead) {r : List α} (hr : appI xs ys = some r) :
    ∃ v' m', EffR P C ρ o m v' m' ∧ Ow T z m' r v' ∧ Same m m' (blkOf v) ∧ ∀ b, blkOf v' = some b → blkOf v = some b ∨ m.next ≤ b := by
  obtain ⟨hlim, rfl⟩ := appI_some hr
  simp only [LIM] at hlim
  have : (xs.length + ys.length) * i.bytes ≤ 4294967296 * 32768 := Nat.mul_le_mul hlim hby
  exact eAppendG h ht hi hzv hzf hzs hsz hpos (by omega) (by omega) hu hx hs hy hsrc hz hd

/-- A slice that is made. -/
theorem nMake {x0 : α} {k k' : IntKind} {n n' : Int} (h : o.op = .makeSlice t x y) (ht : P.underlying t = some (.slice T.tid)) (hi : P.info? T.tid = some i) {zv : Value} (hzv : i.zero = some zv) (hzf : zv.cells.toList.all flat0 = true) (hzs : zv.cells.size = i.size) (hsz : i.size = T.sz) (hby : i.bytes ≤ 32768)
    (hrd : T.rd z x0 zv.cells.toList) (hx : ρ x = .int k n) (hy : ρ y = .int k' n) (hz : Fz z m) {r : List α} (hr : mkI x0 n = some r) :
    ∃ L v, NewR P ρ o m.next (.own L T.tid) v ∧ Ow T z (m.push (.own L T.tid)) r v ∧ blkOf v = some m.next := by
  obtain ⟨h0, h1, rfl⟩ := mkI_some hr
  obtain ⟨c, rfl⟩ := Int.eq_ofNat_of_zero_le h0
  have hnz : z m.next = .dead := by
    cases hzz : z m.next with
    | dead => rfl
    | ro rd => have := (hz m.next (by rw [hzz]; simp)).2; omega
    | own L t => have := (hz m.next (by rw [hzz]; simp)).2; omega
    | map L t => have := (hz m.next (by rw [hzz]; simp)).2; omega
  have hlen : zv.cells.toList.length = T.sz := by simp [hzs, hsz]
  have hfl : (List.replicate c zv.cells.toList).flatten.length = c * T.sz := by simp [hzs, hsz]
  refine ⟨_, _, .makeSlice t x y c c k k' T.tid i zv h ht hi hzv hzf hzs hx hy (Nat.le_refl _) ?_ (by omega), ?_, rfl⟩
  · have : i.bytes * c ≤ 32768 * 4294967296 := Nat.mul_le_mul hby (by omega)
    omega
  · simp only [Int.toNat_natCast]
    refine .inr ⟨m.next, (List.replicate c zv.cells.toList).flatten, c, by simp, by simp [Mem.push], by simp [Mem.push], hnz, by rw [hfl]; simp, .inr ⟨by simp [BIG]; omega, by simp, by rw [hfl]; exact Nat.le_refl _⟩, fun j a ha => ?_⟩
    have hj := (List.getElem?_eq_some_iff.1 ha).1
    have hax : a = x0 := by have := (List.getElem?_eq_some_iff.1 ha).2; simpa using this.symm
    subst hax
    refine ⟨_, hrd, fun q u hq => ?_⟩
    have hql := (List.getElem?_eq_some_iff.1 hq).1
    rw [hlen] at hql
    have key : ∀ (c j : Nat), j < c → ((List.replicate c zv.cells.toList).flatten)[j * T.sz + q]? = zv.cells.toList[q]? := by
      intro c
      induction c with
      | zero => intro j hj; omega
      | succ c ih =>
        intro j hj
        rw [List.replicate_succ, List.flatten_cons]
        cases j with
        | zero => rw [Nat.zero_mul, Nat.zero_add, List.getElem?_append_left (by rw [hlen]; exact hql)]
        | succ j =>
          rw [Nat.add_mul, Nat.one_mul, List.getElem?_append_right (by rw [hlen]; omega), hlen, show j * T.sz + T.sz + q - T.sz = j * T.sz + q by omega]
          exact ih j (by omega)
    rw [key c j (by simpa using hj)]
    exact hq

/-- The parts of a literal. -/
def BuildOk (T : Ty α) (z : Nat → Blk) (ρ : Operand → Value) : List (Nat × Operand) → Nat → List α → List (List Value) → Prop
  | [], _, [], [] => True
  | (k, x) :: ps, n, a :: as, c :: cs => k = n ∧ storable (ρ x) = true ∧ (ρ x).cells.toList = c ∧ T.rd z a c ∧ BuildOk T z ρ ps (n + 1) as cs
  | _, _, _, _ => False

theorem setN_mid : ∀ (new A B D : List Value), new.length = B.length → setN (A ++ B ++ D) A.length new = A ++ new ++ D
  | [], A, B, D, h => by have : B = [] := List.eq_nil_of_length_eq_zero h.symm
                         subst this; simp [setN]
  | v :: new, A, b :: B, D, h => by
    have e : (A ++ (b :: B) ++ D).set A.length v = (A ++ [v]) ++ B ++ D := by simp
    simp only [setN, e]
    have := setN_mid new (A ++ [v]) B D (by simpa using h)
    simp only [List.length_append, List.length_cons, List.length_nil, Nat.zero_add] at this
    rw [this]; simp
  | _ :: _, A, [], D, h => by simp at h

theorem build_fill : ∀ (ps : List (Nat × Operand)) (n : Nat) (as : List α) (css : List (List Value)) (A D : List Value), BuildOk T z ρ ps n as css → A.length = n * T.sz → D.length = as.length * T.sz →
    fillL (fun k => some (k * T.sz, T.sz)) (A ++ D) (ps.map fun p => (p.1, ρ p.2)) = some (A ++ css.flatten)
  | [], n, [], [], A, D, _, _, hD => by
    have : D = [] := List.eq_nil_of_length_eq_zero (by simpa using hD)
    subst this
    simp [fillL]
  | (k, x) :: ps, n, a :: as, c :: css, A, D, h, hA, hD => by
    obtain ⟨rfl, h1, h2, h3, h4⟩ := h
    have hc := T.len z a c h3
    have hsz : (ρ x).cells.size = T.sz := by rw [← hc, ← h2]; simp
    simp only [List.length_cons, Nat.add_mul, Nat.one_mul] at hD
    simp only [List.map_cons, fillL, h1, hsz, true_and, List.length_append]
    rw [if_pos (by omega), h2, ← hA]
    have hsplit : A ++ D = A ++ D.take T.sz ++ D.drop T.sz := by rw [List.append_assoc, List.take_append_drop]
    rw [hsplit, setN_mid c A (D.take T.sz) (D.drop T.sz) (by rw [hc, List.length_take]; omega)]
    rw [build_fill ps (k + 1) as css (A ++ c) (D.drop T.sz) h4 (by rw [List.length_append, hA, hc, Nat.add_mul, Nat.one_mul]) (by rw [List.length_drop]; omega)]
    simp
  | [], _, _ :: _, _, _, _, h, _, _ => h.elim
  | [], _, [], _ :: _, _, _, h, _, _ => h.elim
  | _ :: _, _, [], _, _, _, h, _, _ => h.elim
  | _ :: _, _, _ :: _, [], _, _, h, _, _ => h.elim

theorem build_len : ∀ (ps : List (Nat × Operand)) (n : Nat) (as : List α) (css : List (List Value)), BuildOk T z ρ ps n as css → css.flatten.length = as.length * T.sz ∧ ∀ (i : Nat) (a : α), as[i]? = some a → ∃ c, T.rd z a c ∧ cellsIn css.flatten (i * T.sz) c
  | [], n, [], [], _ => ⟨by simp, fun i a ha => by simp at ha⟩
  | (k, x) :: ps, n, a :: as, c :: css, h => by
    obtain ⟨rfl, h1, h2, h3, h4⟩ := h
    have hc := T.len z a c h3
    obtain ⟨g1, g2⟩ := build_len ps (k + 1) as css h4
    refine ⟨by simp only [List.flatten_cons, List.length_append, g1, hc, List.length_cons, Nat.add_mul, Nat.one_mul]; omega, fun i b hb => ?_⟩
    cases i with
    | zero =>
      simp at hb
      subst hb
      refine ⟨c, h3, fun q u hq => ?_⟩
      have := (List.getElem?_eq_some_iff.1 hq).1
      rw [List.flatten_cons, Nat.zero_mul, Nat.zero_add, List.getElem?_append_left this]; exact hq
    | succ i =>
      obtain ⟨c', k1, k2⟩ := g2 i b (by simpa using hb)
      refine ⟨c', k1, fun q u hq => ?_⟩
      rw [List.flatten_cons, Nat.add_mul, Nat.one_mul, List.getElem?_append_right (by omega), hc, show i * T.sz + T.sz + q - T.sz = i * T.sz + q by omega]
      exact k2 q u hq
  | [], _, _ :: _, _, h => h.elim
  | [], _, [], _ :: _, h => h.elim
  | _ :: _, _, [], _, h => h.elim
  | _ :: _, _, _ :: _, [], h => h.elim

theorem nBuild {ps : Array (Nat × Operand)} {l : Nat} {as : List α} {css : List (List Value)} (h : o.op = .buildSlice t l ps) (ht : P.underlying t = some (.slice T.tid)) (hi : P.info? T.tid = some i) {zv : Value} (hzv : i.zero = some zv) (hzf : zv.cells.toList.all flat0 = true) (hzs : zv.cells.size = i.size) (hsz : i.size = T.sz)
    (hl : as.length = l) (h24 : l * T.sz ≤ 16777216) (hl63 : l < 9223372036854775808) (hb : BuildOk T z ρ ps.toList 0 as css) (hz : Fz z m) :
    ∃ L v, NewR P ρ o m.next (.own L T.tid) v ∧ Ow T z (m.push (.own L T.tid)) as v ∧ blkOf v = some m.next := by
  have hnz : z m.next = .dead := by
    cases hzz : z m.next with
    | dead => rfl
    | ro rd => have := (hz m.next (by rw [hzz]; simp)).2; omega
    | own L t => have := (hz m.next (by rw [hzz]; simp)).2; omega
    | map L t => have := (hz m.next (by rw [hzz]; simp)).2; omega
  have hf := build_fill ps.toList 0 as css [] (List.replicate l zv.cells.toList).flatten hb (by simp) (by simp [hzs, hsz, hl])
  obtain ⟨g1, g2⟩ := build_len ps.toList 0 as css hb
  refine ⟨css.flatten, _, .buildSlice t l ps T.tid i zv _ h ht hi hzv hzf hzs (by rw [hsz]; exact h24) hl63 (by rw [hsz]; simpa using hf), ?_, rfl⟩
  exact .inr ⟨m.next, css.flatten, l, by rw [hl], by simp [Mem.push], by simp [Mem.push], hnz, by rw [g1]; exact Nat.le_refl _, .inr ⟨by simp only [BIG]; omega, by omega, by rw [g1, hl]; exact Nat.le_refl _⟩, g2⟩

/-! ### Strings and bytes -/

theorem nBytes {s : List UInt8} {tid : TypeId} (h : o.op = .convert u t x) (hu : P.underlying u = some .string) (ht : P.underlying t = some (.slice tid)) (he : P.underlying tid = some (.int .u8)) (hi : P.info? tid = some i) (hi1 : i.size = 1) (hx : ρ x = str s) (hl : s.length < 9223372036854775807) (hz : Fz z m) :
    ∃ L v, NewR P ρ o m.next (.own L tid) v ∧ Ow (TU8 tid) z (m.push (.own L tid)) s v ∧ blkOf v = some m.next := by
  have hnz : z m.next = .dead := by
    cases hzz : z m.next with
    | dead => rfl
    | ro rd => have := (hz m.next (by rw [hzz]; simp)).2; omega
    | own L t => have := (hz m.next (by rw [hzz]; simp)).2; omega
    | map L t => have := (hz m.next (by rw [hzz]; simp)).2; omega
  refine ⟨_, _, .bytes u t x tid i ⟨s.toArray⟩ h hu ht he hi hi1 hx (by rw [str_size]; exact hl), ?_, rfl⟩
  refine .inr ⟨m.next, s.map fun u => .int .u8 u.toNat, BIG, by rw [str_size], by simp [Mem.push, TU8, Ty.flat], by simp [Mem.push], hnz, by simp [TU8, Ty.flat], .inl rfl, fun k a ha => ⟨[.int .u8 a.toNat], rfl, fun q w hq => ?_⟩⟩
  cases q with
  | zero => simp at hq; subst hq; simp [TU8, Ty.flat, ha]
  | succ q => simp at hq

theorem rStr {s : List UInt8} {tid : TypeId} (h : o.op = .convert t u x) (ht : P.underlying t = some (.slice tid)) (he : P.underlying tid = some (.int .u8)) (hu : P.underlying u = some .string) (hx : ρ x = v) (hs : Src (TU8 tid) z m s v) (hv : ∃ a l c, v = .slice a l c) : ReadR P ρ o m (str s) := by
  obtain ⟨a, l, c, rfl⟩ := hv
  obtain ⟨hl, cs, hel, hcl, hrd⟩ := hs
  have hcs : cs = s.map fun u => .int .u8 u.toNat := by
    apply List.ext_getElem?
    intro k
    by_cases hk : k < s.length
    · obtain ⟨c', g1, g2⟩ := hrd k s[k] (by simp [hk])
      have g1 : c' = [.int .u8 s[k].toNat] := g1
      subst g1
      have := g2 0 _ rfl
      simp only [TU8, Ty.flat, Nat.mul_one, Nat.add_zero] at this
      simp [this, hk]
    · have : cs.length ≤ k := by rw [hcl]; simp only [TU8, Ty.flat]; omega
      simp [List.getElem?_eq_none this, hk]
  subst hcs
  simp only [lenV] at hl
  subst hl
  cases a with
  | none =>
    simp only [elems, Option.some.injEq] at hel
    have : s = [] := by simpa using hel.symm
    subst this
    exact .strNil t u x tid _ c h ht he hu hx
  | some a =>
    obtain ⟨b, off, spot⟩ := a
    cases spot with
    | some q => simp [elems] at hel
    | none =>
      simp only [elems, TU8, Ty.flat, Nat.mul_one] at hel
      exact .str t u x tid b off _ c s h ht he hu hx hel

end

/-! ### Regions whose order is open, but does not matter -/

def looks : Op → Bool
  | .load .. | .convert .. | .slice .. | .lookup .. => true
  | _ => false
def makes : Op → Bool
  | .alloc _ | .box .. | .buildSlice .. | .makeSlice .. | .convert .. | .makeMap .. => true
  | _ => false

/-- Each look and each new block is ordered to each effect. -/
def calm (ops : Array Oper) : Bool :=
  (List.range ops.size).all fun e => match ops[e]? with
    | none => true
    | some oe => !isEff oe.op || (List.range ops.size).all fun r => match ops[r]? with
      | none => true
      | some or => (!(looks or.op) || (if r < e then anc (Region.before ops) e r else if e < r then anc (Region.before ops) r e else true)) && (!(makes or.op) || (if r < e then anc (Region.before ops) e r else true))

theorem read_looks {P : Program} {ρ : Operand → Value} {o : Oper} {m : Mem} {v : Value} (h : ReadR P ρ o m v) : looks o.op = true := by
  cases h <;> simp [*, looks]
theorem new_makes {P : Program} {ρ : Operand → Value} {o : Oper} {n : Nat} {X : Blk} {v : Value} (h : NewR P ρ o n X v) : makes o.op = true := by
  cases h <;> simp [*, makes]

theorem calm_look {ops : Array Oper} (h : calm ops = true) {e r : Nat} {oe or : Oper} (he : ops[e]? = some oe) (hr : ops[r]? = some or) (hE : isEff oe.op = true) (hl : looks or.op = true) : (r < e → anc (Region.before ops) e r = true) ∧ (e < r → anc (Region.before ops) r e = true) := by
  simp only [calm, List.all_eq_true, List.mem_range] at h
  have h1 := h e (Array.getElem?_eq_some_iff.1 he).1
  simp only [he, hE, Bool.not_true, Bool.false_or, List.all_eq_true, List.mem_range] at h1
  have h2 := h1 r (Array.getElem?_eq_some_iff.1 hr).1
  simp only [hr, hl, Bool.not_true, Bool.false_or, Bool.and_eq_true] at h2
  refine ⟨fun hlt => ?_, fun hlt => ?_⟩
  · have := h2.1; rw [if_pos hlt] at this; exact this
  · have := h2.1; rw [if_neg (by omega), if_pos hlt] at this; exact this
theorem calm_make {ops : Array Oper} (h : calm ops = true) {e r : Nat} {oe or : Oper} (he : ops[e]? = some oe) (hr : ops[r]? = some or) (hE : isEff oe.op = true) (hl : makes or.op = true) (hlt : r < e) : anc (Region.before ops) e r = true := by
  simp only [calm, List.all_eq_true, List.mem_range] at h
  have h1 := h e (Array.getElem?_eq_some_iff.1 he).1
  simp only [he, hE, Bool.not_true, Bool.false_or, List.all_eq_true, List.mem_range] at h1
  have h2 := h1 r (Array.getElem?_eq_some_iff.1 hr).1
  simp only [hr, hl, Bool.not_true, Bool.false_or, Bool.and_eq_true] at h2
  have := h2.2; rw [if_pos hlt] at this; exact this

theorem draw_of_seq {P : Program} {C : FuncId → Array Value → Mem → Value → Mem → Prop} {ops : Array Oper} (hc : calm ops = true) : ∀ (l pre : List Oper) (A : Acc) (fr fr' : Nat → Value) (m m' : Mem), ops.toList = pre ++ l →
    (∀ x ∈ A.reads, ∃ o, ops[x.1]? = some o ∧ looks o.op = true ∧ x.1 < pre.length) → (∀ x ∈ A.effs, ∃ o, ops[x.1]? = some o ∧ isEff o.op = true ∧ x.1 < pre.length) → (∀ x ∈ A.news, ∃ o, ops[x.1]? = some o ∧ makes o.op = true ∧ x.1 < pre.length) →
    seqR P C ops.toList l fr m fr' m' → drawR P C ops.toList (Region.before ops) pre.length l A fr m fr' m'
  | [], pre, A, fr, fr', m, m', hp, h1, h2, h3, h => h
  | o :: l, pre, A, fr, fr', m, m', hp, h1, h2, h3, h => by
    have ho : ops[pre.length]? = some o := by rw [← Array.getElem?_toList, hp]; simp
    have hp' : ops.toList = (pre ++ [o]) ++ l := by rw [hp]; simp
    have hlen : (pre ++ [o]).length = pre.length + 1 := by simp
    have up : ∀ {β : Type} {p : Oper → Bool} {L : List (Nat × β)}, (∀ x ∈ L, ∃ o, ops[x.1]? = some o ∧ p o = true ∧ x.1 < pre.length) → ∀ x ∈ L, ∃ o, ops[x.1]? = some o ∧ p o = true ∧ x.1 < pre.length + 1 := fun hh x hx => by
      obtain ⟨q, a, b, c⟩ := hh x hx
      exact ⟨q, a, b, by omega⟩
    have rec_ := fun (A : Acc) (fr : Nat → Value) (m : Mem) => draw_of_seq (P := P) (C := C) hc l (pre ++ [o]) A fr fr' m m' hp'
    rw [hlen] at rec_
    simp only [seqR] at h
    simp only [drawR]
    split at h
    · rename_i hw
      rw [if_pos hw]
      obtain ⟨v, m1, hs, hr⟩ := h
      cases hs with
      | pure hq => exact .inl ⟨v, hq, rec_ A _ _ (up (p := fun o => looks o.op) h1) (up (p := fun o => isEff o.op) h2) (up (p := fun o => makes o.op) h3) hr⟩
      | read hq =>
        have hlk := read_looks hq
        refine .inr (.inl ⟨v, hq, fun x hx ha => ?_, rec_ _ _ _ ?_ (up (p := fun o => isEff o.op) h2) (up (p := fun o => makes o.op) h3) hr⟩)
        · obtain ⟨q, g1, g2, g3⟩ := h2 x hx
          have := (calm_look hc g1 ho g2 hlk).2 g3
          rw [ha] at this; cases this
        · intro x hx
          rcases List.mem_cons.1 hx with rfl | hx
          · exact ⟨o, ho, hlk, Nat.lt_succ_self _⟩
          · exact up (p := fun o => looks o.op) h1 x hx
      | new hq =>
        refine .inr (.inr (.inl ⟨_, v, hq, rec_ _ _ _ (up (p := fun o => looks o.op) h1) (up (p := fun o => isEff o.op) h2) ?_ hr⟩))
        intro x hx
        rcases List.mem_cons.1 hx with rfl | hx
        · exact ⟨o, ho, new_makes hq, Nat.lt_succ_self _⟩
        · exact up (p := fun o => makes o.op) h3 x hx
      | eff hq =>
        have hef := eff_isEff hq
        refine .inr (.inr (.inr ⟨v, m1, hq, fun x hx ha => ?_, fun x hx ha => ?_, rec_ _ _ _ (up (p := fun o => looks o.op) h1) ?_ (up (p := fun o => makes o.op) h3) hr⟩))
        · obtain ⟨q, g1, g2, g3⟩ := h1 x hx
          have := (calm_look hc ho g1 hef g2).1 g3
          rw [ha] at this; cases this
        · obtain ⟨q, g1, g2, g3⟩ := h3 x hx
          have := calm_make hc ho g1 hef g2 g3
          rw [ha] at this; cases this
        · intro x hx
          rcases List.mem_cons.1 hx with rfl | hx
          · exact ⟨o, ho, hef, Nat.lt_succ_self _⟩
          · exact up (p := fun o => isEff o.op) h2 x hx
    · rename_i hw
      rw [if_neg hw]
      exact rec_ A _ _ (up (p := fun o => looks o.op) h1) (up (p := fun o => isEff o.op) h2) (up (p := fun o => makes o.op) h3) h

theorem W.calm {P : Program} {id : Nat} {ops : Array Oper} {Q : AExit → (Nat → Value) → Mem → Prop} {fr : Nat → Value} {m : Mem} (hc : AM.calm ops = true) (h : SeqW P ops.toList ops.toList (Q .normal) fr m) : W P (.region id ops true) Q fr m := by
  obtain ⟨n, fr', m', h1, h2⟩ := h
  refine W.draw ⟨n, fr', m', ?_, h2⟩
  have := draw_of_seq (P := P) (C := callR P n) hc ops.toList [] ⟨[], [], []⟩ fr fr' m m' (by simp) (by simp) (by simp) (by simp) h1
  simpa using this

end Go.AM
