/- Writes, appends, copies, calls: each case. -/
import Derived.Test.YtaoioacomnnhdaaAmEff2
set_option linter.unusedSimpArgs false
set_option linter.unusedVariables false
namespace Go.AM

theorem add_addr (b o n : Nat) : ({ block := b, off := o } : Addr).add n = ⟨b, o + n, none⟩ := add_none b o n

theorem setN_rel {j : Emb} {L new : List Value} {cs : Array Value} {ds : List Value} {o : Nat} (h : ∀ (i : Nat) (v : Value), L[i]? = some v → ∃ cv, cs[i]? = some cv ∧ VR0 j v cv) (hd : L2 (VR0 j) new ds) (hl : o + new.length ≤ L.length) (hL : L.length ≤ cs.size) :
    ∀ (i : Nat) (v : Value), (setN L o new)[i]? = some v → ∃ cv, (setN cs.toList o ds).toArray[i]? = some cv ∧ VR0 j v cv := by
  intro i v hi
  have hlen := hd.length
  rw [setN_get _ _ _ _ hl] at hi
  simp only [List.getElem?_toArray]
  rw [setN_get _ _ _ _ (by simp; omega)]
  rw [← hlen]
  split at hi
  · rename_i hin
    rw [if_pos hin]
    exact hd.get _ _ hi
  · rename_i hin
    rw [if_neg hin]
    simpa using h i v hi

theorem setN_size (cs : Array Value) (o : Nat) (ds : List Value) : (setN cs.toList o ds).toArray.size = cs.size := by simp [setN_length]

theorem append_exec {P : Program} {cρ : Operand → Value} {o : Oper} {x y : Operand} {t u : TypeId} (h : o.op = .call { callee := .builtin .append, args := #[x, y], argTypes := #[t, u] }) {w w' : World} {v : Value}
    (hr : (Builtin.append_ #[t, u] o.type #[cρ x, cρ y]).run P w = .ok v w') : (execOp cρ o).run P w = .ok (.value v) w' := by
  simp [execOp, h, resolve, invoke, builtin, hr]

/-- What an effect leaves: the run of the operation, or a call. -/
def EffOut (P : Program) (j : Emb) (m : Mem) (w : World) (cρ : Operand → Value) (o : Oper) (v : Value) (m' : Mem) : Prop :=
  ∃ n cv w' j', (execOp cρ o).run P w = .ok n w' ∧ (n = .value cv ∨ (n = .skip ∧ cv = undef)) ∧ Post P j m w j' m' w' ∧ VR j' v cv

theorem store_sound {P : Program} {j : Emb} {ρ cρ : Operand → Value} {o : Oper} {m : Mem} {w : World} {t : TypeId} {x y : Operand} {b off : Nat} {i : TypeInfo} {L : List Value} {e : TypeId} (h : o.op = .store t x y) (hx : ρ x = .pointer (some ⟨b, off, none⟩)) (hi : P.info? t = some i) (hm : m.blk b = .own L e)
      (hv : storable (ρ y) = true) (hs : (ρ y).cells.size = i.size) (hl : off + i.size ≤ L.length) (hO : OpsR j ρ cρ o) (hR : Rel P j m w) : EffOut P j m w cρ o undef (m.put b (.own (setN L off (ρ y).cells.toList) e)) := by
  have hX := hO x (by simp [h, Op.operands])
  rw [hx] at hX
  obtain ⟨q, _, hj, hc⟩ := hX.ptr
  have hY := VR.storable (hO y (by simp [h, Op.operands])) hv
  have hcell := hY.cells
  obtain ⟨cs, fz, g1, g2, g3, g4, g5, g6⟩ := hR.own b q L e hj hm
  have hn : (cρ y).cells.size = i.size := by have := hcell.length; simp at this; omega
  have hst := run_storeN (P := P) q.blk off e fz (cρ y).cells.toList 0 cs w g1 g2 (by simp; omega) (L2.one hcell)
  simp only [Nat.add_zero] at hst
  refine ⟨.skip, undef, _, j, ?_, .inr ⟨rfl, rfl⟩, hR.write hj hm g1 (setN_size cs off _) (by rw [setN_size, setN_length]; exact g5) (setN_rel g6 hcell (by simp; omega) g5), ?_⟩
  · simp [execOp, h, Instr.storeAt, hc, Instr.sureAddr, storeVar, run_so hi, hn, hst]
  · exact ⟨#[], rfl, True.intro⟩

theorem elems_prefix {P : Program} {j : Emb} {m : Mem} {w : World} (hR : RdOk P j m w) {sz : Nat} {y cy : Value} {new : List Value} (hv : VR j y cy) (h : elems m sz y = some new) (hn : new.length = lenV y * sz) :
    ∃ ds : List Value, L2 (VR0 j) new ds ∧ ∀ w' : World, w'.heap = w.heap → (Builtin.firstCells sz (lenV y) cy).run P w' = .ok ds.toArray w' := by
  obtain ⟨_, ds, hd, hf⟩ := elems_sound hR hv h
  refine ⟨ds, hd, fun w' hw => ?_⟩
  rw [hf hn _ (Nat.le_refl _) w' hw, ← hn, hd.length, List.take_length]

theorem rdOk_heap {P : Program} {j : Emb} {m : Mem} {w w' : World} (h : RdOk P j m w) (hw : w'.heap = w.heap) : RdOk P j m w' :=
  ⟨fun b e o v h1 h2 => by obtain ⟨cv, h3, h4⟩ := h.load b e o v h1 h2; exact ⟨cv, by rw [← h3]; simp only [World.cell?, hw], h4⟩, h.own, fun b e L u h1 h2 => by rw [hw]; exact h.map b e L u h1 h2⟩

theorem drew_rel {P : Program} {j : Emb} {m : Mem} {w w' : World} (h : Rel P j m w) (hw : w'.heap = w.heap) : Rel P j m w' :=
  ⟨fun b e hb => by have := h.lt b e hb; rw [hw]; exact this, fun b e hb => by rw [hw]; exact h.obj b e hb, h.inj⟩

/-- The new row of an append. -/
theorem append_new_sound {P : Program} {j : Emb} {ρ cρ : Operand → Value} {o : Oper} {m m0 : Mem} {w : World} {x y : Operand} {t u e : TypeId} {i : TypeInfo} {z : Value} {base : Option Addr} {l c : Nat} {old new : List Value} {ds dn : List Value}
      (h : o.op = .call { callee := .builtin .append, args := #[x, y], argTypes := #[t, u] })
      (ht : P.underlying t = some (.slice e)) (hi : P.info? e = some i) (hz : i.zero = some z) (hzs : z.cells.size = i.size) (hsz : 0 < i.size)
      (hu : (∃ e', P.underlying u = some (.slice e')) ∨ P.underlying u = some .string) (hx : cρ x = .slice base l c) (hlen : ∀ w, (Builtin.lenOf (cρ y)).run P w = .ok (lenV (ρ y)) w) (hc : c < l + lenV (ρ y))
      (hol : old.length = l * i.size) (hnl : new.length = lenV (ρ y) * i.size) (hd : L2 (VR0 j) old ds) (hdn : L2 (VR0 j) new dn)
      (hfo : ∀ w', w'.heap = w.heap → (Builtin.firstCells i.size l (.slice base l c)).run P w' = .ok ds.toArray w') (hfn : ∀ w', w'.heap = w.heap → (Builtin.firstCells i.size (lenV (ρ y)) (cρ y)).run P w' = .ok dn.toArray w')
      (hb : (l + lenV (ρ y)) * i.bytes ≤ 140737488355328) (hm : l + lenV (ρ y) < 9223372036854775807) (hR : Rel P j m0 w) (hnext : m0.next = m.next) :
    ∃ cv w' j', (execOp cρ o).run P w = .ok (.value cv) w' ∧ Post P j m0 w j' (m0.push (.own (old ++ new) e)) w' ∧ VR j' (.slice (some ⟨m.next, 0, none⟩) (l + lenV (ρ y)) BIG) cv := by
  have hrun := run_append_out (P := P) (ty := o.type) (base := base) (z := z) ht hi hz hu hlen hc hm hb hfo hfn
  let cap := grownCap w (l + lenV (ρ y)) c e
  have hcap : l + lenV (ρ y) ≤ cap := grownCap_ge w _ c e
  have hcapB : cap < BIG := by
    have hlt := Nat.mod_lt (w.tape w.drawn (.appendCap (l + lenV (ρ y)) c e)) (show 0 < 2 ^ 63 - (l + lenV (ρ y)) by omega)
    simp only [cap, grownCap, Question.cut, BIG]
    omega
  let row := ds.toArray ++ dn.toArray ++ Builtin.zeroCells z.cells (cap - (l + lenV (ρ y)))
  have e1 := hd.length
  have e2 := hdn.length
  have hrow : row.size = cap * i.size := by
    simp only [row, Array.size_append, List.size_toArray, size_zeroCells, hzs]
    rw [← e1, ← e2, hol, hnl, ← Nat.add_mul, ← Nat.add_mul]
    congr 1; omega
  have hpost := hR.push (w' := w.drew.alloc (.cells row e)) (X := .own (old ++ new) e) (e := ⟨w.heap.size, cap, i.size⟩) (ob := .cells row e) rfl rfl rfl rfl rfl ⟨row, (0, 0), rfl, nofz', cellsOf_eq hi, hrow,
    (by rw [hrow, List.length_append, hol, hnl, ← Nat.add_mul]; exact Nat.mul_le_mul_right _ hcap),
    (fun k v hk => by
      have hL2 := L2.append hd hdn
      obtain ⟨cv, hcv, hr⟩ := hL2.get k v hk
      refine ⟨cv, ?_, hr⟩
      have hlt : k < (ds ++ dn).length := (List.getElem?_eq_some_iff.1 hcv).1
      simp only [row]
      rw [Array.getElem?_append_left (by simpa using hlt), ← Array.getElem?_toList]
      simpa using hcv)⟩
  refine ⟨.slice (some ⟨w.heap.size, 0, none⟩) (l + lenV (ρ y)) cap, _, _, append_exec h (by rw [hx]; exact hrun), hpost, ⟨⟨w.heap.size, cap, i.size⟩, rfl, by simp [Emb.up, hnext], .inr (.inl ⟨rfl, hsz, ?_, hcapB, ?_, ?_, ?_⟩)⟩⟩
  · simpa using hcap
  · simp
  · simp
  · simp

theorem Upd.find {P : Program} {j : Emb} {kt vt : TypeId} {kc vc : List Value} {E E' : List (List Value × List Value)} {cv : Value} {clock : Nat} (h : Upd (tyAgg P kt) kc vc E E') (hf : kc.all flat0 = true) (hv : VR1 j (cellV (tyAgg P vt) vc) cv) : ∀ {es : List MapEntry} (n : Nat), L2 (EntW P j kt vt) E es →
    (∃ i y, findV (cellV (tyAgg P kt) kc) es n = some (n + i, y.val) ∧ es[i]? = some y ∧ y.key = cellV (tyAgg P kt) kc ∧ L2 (EntW P j kt vt) E' (es.modify i fun e => { e with key := cellV (tyAgg P kt) kc, val := cv })) ∨
    (findV (cellV (tyAgg P kt) kc) es n = none ∧ L2 (EntW P j kt vt) E' (es ++ [{ key := cellV (tyAgg P kt) kc, val := cv, born := clock }])) := by
  induction h with
  | miss =>
    intro es n hE
    cases es with
    | nil => exact .inr ⟨rfl, ⟨rfl, hf, hv⟩, True.intro⟩
    | cons _ _ => exact hE.elim
  | hit p E h =>
    intro es n hE
    cases es with
    | nil => exact hE.elim
    | cons x es =>
      obtain ⟨⟨h1, h2, h3⟩, h4⟩ := hE
      refine .inl ⟨0, x, by rw [findV, if_pos (h1.trans h)]; rfl, rfl, h1.trans h, ?_⟩
      exact ⟨⟨h.symm, h2, hv⟩, h4⟩
  | next p E E' h hE2 ih =>
    intro es n hE
    cases es with
    | nil => exact hE.elim
    | cons x es =>
      obtain ⟨⟨h1, h2, h3⟩, h4⟩ := hE
      have hne : ¬ x.key = cellV (tyAgg P kt) kc := fun hh => h (h1.symm.trans hh)
      rcases ih (n + 1) h4 with ⟨i, y, g1, g2, g3, g4⟩ | ⟨g1, g2⟩
      · refine .inl ⟨i + 1, y, ?_, by simpa using g2, g3, ?_⟩
        · rw [findV, if_neg hne, g1, show n + 1 + i = n + (i + 1) by omega]
        · exact ⟨⟨h1, h2, h3⟩, g4⟩
      · refine .inr ⟨?_, ?_⟩
        · rw [findV, if_neg hne, g1]
        · exact ⟨⟨h1, h2, h3⟩, g2⟩

theorem eff_sound {P : Program} {C : FuncId → Array Value → Mem → Value → Mem → Prop} {j : Emb} {ρ cρ : Operand → Value} {o : Oper} {m m' : Mem} {w : World} {v : Value} (h : EffR P C ρ o m v m') (hO : OpsR j ρ cρ o) (hR : Rel P j m w) :
    EffOut P j m w cρ o v m' ∨ ∃ f args, callee o ρ f args ∧ C f args m v m' := by
  cases h with
  | store t x y b off i L e h hx hi hm hv hs hl => exact .inl (store_sound h hx hi hm hv hs hl hO hR)
  | call f args v m' h hC => exact .inr ⟨f, args, h, hC⟩
  | appendNone x y t u e i a l c h ht hi hu hx hc hlc hy hy' =>
    left
    have hX := hO x (by simp [h, Op.operands, Call.operands])
    rw [hx] at hX
    have hY := hO y (by simp [h, Op.operands, Call.operands])
    obtain ⟨hlen, _⟩ := elems_sound hR.rdOk hY hy
    obtain ⟨ds, hd, hf⟩ := elems_prefix hR.rdOk hY hy (by simp [hy'])
    have hds : ds = [] := by have := hd.length; simpa using this.symm
    subst hds
    rw [hy'] at hlen hf
    have hf := hf w rfl
    have hcx : ∃ a', cρ x = .slice a' l c ∧ VR j (.slice a l c) (.slice a' l c) := by
      cases a with
      | none => exact ⟨none, hX.sliceNil, rfl⟩
      | some a =>
        obtain ⟨q, hs, hj, hcc⟩ := hX.slice
        rcases hcc with ⟨hlt, hcc⟩ | ⟨hcc, _⟩ | ⟨hcc, _⟩ | ⟨hc0, hl0, a', hcc⟩
        · exact ⟨_, hcc, ⟨q, hs, hj, .inl ⟨hlt, rfl⟩⟩⟩
        · exact absurd hcc hc
        · exact absurd hcc hc
        · subst hc0; subst hl0; exact ⟨_, hcc, ⟨q, hs, hj, .inr (.inr (.inr ⟨rfl, rfl, a', rfl⟩))⟩⟩
    obtain ⟨a', hcx, hvr⟩ := hcx
    refine ⟨.value (.slice a' l c), .slice a' l c, w, j, append_exec h ?_, .inl rfl, Post.refl hR, by rw [hx]; exact hvr⟩
    rw [hcx, run_append_in ht hi hu hlen (by omega) hf]
    cases a' <;> simp [storeCells]
  | appendNew x y t u e i z a l c old new h ht hi hz hzf hzs hsz hu hx hc ho hol hy hn hb hm =>
    left
    have hX := hO x (by simp [h, Op.operands, Call.operands])
    have hY := hO y (by simp [h, Op.operands, Call.operands])
    obtain ⟨hlen, _⟩ := elems_sound hR.rdOk hY hy
    have hlen' : ∀ w : World, (Builtin.lenOf (cρ y)).run P w = .ok (lenV (ρ y)) w := fun w' => by
      have := hlen
      cases hcy : cρ y <;> simp [hcy, Builtin.lenOf] at this ⊢ <;> exact this
    have hlx : lenV (ρ x) = l := by rw [hx]; rfl
    have hcx : ∃ a', cρ x = .slice a' l c := by
      rw [hx] at hX
      cases a with
      | none => exact ⟨none, hX.sliceNil⟩
      | some a =>
        obtain ⟨q, hs, hj, hcc⟩ := hX.slice
        rcases hcc with ⟨hlt, hcc⟩ | ⟨hcc, _⟩ | ⟨hcc, _⟩ | ⟨hc0, hl0, a', hcc⟩
        · exact ⟨_, hcc⟩
        · simp only [BIG] at hcc; omega
        · simp only [BIG] at hcc; omega
        · subst hc0; subst hl0; exact ⟨_, hcc⟩
    obtain ⟨a', hcx⟩ := hcx
    obtain ⟨ds, hd, hfo0⟩ := elems_prefix hR.rdOk hX ho (by rw [hol, hlx])
    obtain ⟨dn, hdn, hfn⟩ := elems_prefix hR.rdOk hY hy hn
    have hfo : ∀ w' : World, w'.heap = w.heap → (Builtin.firstCells i.size l (.slice a' l c)).run P w' = .ok ds.toArray w' := by
      rw [hcx, hlx] at hfo0; exact hfo0
    obtain ⟨cv, w', j', h1, h2, h3⟩ := append_new_sound (m := m) h ht hi hz hzs hsz hu hcx hlen' hc hol hn hd hdn hfo hfn hb hm hR rfl
    exact ⟨.value cv, cv, w', j', h1, .inl rfl, h2, h3⟩
  | appendIn x y t u e i b off l c L new h ht hi hu hx hcb hc hm hy hn hl =>
    left
    have hX := hO x (by simp [h, Op.operands, Call.operands])
    rw [hx] at hX
    have hY := hO y (by simp [h, Op.operands, Call.operands])
    obtain ⟨hlen, _⟩ := elems_sound hR.rdOk hY hy
    obtain ⟨dn, hdn, hfn⟩ := elems_prefix hR.rdOk hY hy hn
    obtain ⟨q, _, hj, hcc⟩ := hX.slice
    rcases hcc with ⟨hlt, hcx⟩ | ⟨hcc, _⟩ | ⟨hcc, _⟩ | ⟨hc0, hl0, a', hcx⟩
    rotate_left 3
    · -- nothing is put there
      subst hc0; subst hl0
      have hy0 : lenV (ρ y) = 0 := by omega
      have hn0 : new = [] := by rw [hy0, Nat.zero_mul] at hn; exact List.length_eq_zero_iff.1 hn
      subst hn0
      have hdn0 : dn = [] := by have := hdn.length; simpa using this.symm
      subst hdn0
      obtain ⟨cs, fz, g1, g2, g3, g4, g5, g6⟩ := hR.own b q L e hj hm
      have hw := hR.write (L' := L) hj hm g1 (cs' := cs) rfl g5 g6
      rw [reset_same g1] at hw
      refine ⟨.value _, _, _, j, append_exec h (v := .slice (some a') (0 + lenV (ρ y)) 0) ?_, .inl rfl, hw, ⟨q, rfl, hj, .inr (.inr (.inr ⟨rfl, by omega, a', by rw [hy0]⟩))⟩⟩
      rw [hcx, run_append_in ht hi hu hlen hc (hfn w rfl)]
      simp [storeCells]
    · obtain ⟨cs, fz, g1, g2, g3, g4, g5, g6⟩ := hR.own b q L e hj hm
      rw [Nat.add_mul, ← hn, ← Nat.add_assoc] at hl
      have hst := run_storeN (P := P) q.blk (off + l * i.size) e fz dn 0 cs w g1 g2 (by rw [← hdn.length]; omega) (L2.one hdn)
      simp only [Nat.add_zero] at hst
      refine ⟨.value _, _, _, j, append_exec h (v := .slice (some ⟨q.blk, off, none⟩) (l + lenV (ρ y)) c) ?_, .inl rfl, hR.write hj hm g1 (setN_size cs _ _) (by rw [setN_size, setN_length]; exact g5) (setN_rel g6 hdn hl g5),
        ⟨q, rfl, hj, .inl ⟨hlt, rfl⟩⟩⟩
      rw [hcx, run_append_in ht hi hu hlen hc (hfn w rfl)]
      simp only [add_none, hst, Result.andThen_ok]
    · exact absurd hcc hcb
    · exact absurd hcc hcb
  | append x y t u e i z b l L new h ht hi hz hzf hzs hsz hu hx hmb hlL hy hn hb hm =>
    left
    have hX := hO x (by simp [h, Op.operands, Call.operands])
    have hX0 := hX
    rw [hx] at hX
    have hY := hO y (by simp [h, Op.operands, Call.operands])
    obtain ⟨hlen, _⟩ := elems_sound hR.rdOk hY hy
    have hlen' : ∀ w : World, (Builtin.lenOf (cρ y)).run P w = .ok (lenV (ρ y)) w := fun w' => by
      have := hlen
      cases hcy : cρ y <;> simp [hcy, Builtin.lenOf] at this ⊢ <;> exact this
    obtain ⟨dn, hdn, hfn⟩ := elems_prefix hR.rdOk hY hy hn
    obtain ⟨q, _, hj, hcc⟩ := hX.slice
    have hj : j b = some q := hj
    obtain ⟨cs, fz, g1, g2, g3, g4, g5, g6⟩ := hR.own b q L e hj hmb
    have hes : i.size = q.es := by rw [← g3, cellsOf_eq hi]
    have htl : (L.take (l * i.size)).length = l * i.size := by rw [List.length_take]; exact Nat.min_eq_left hlL
    have htake : ∀ (k : Nat) (v : Value), (L.take (l * i.size))[k]? = some v → ∃ cv, (cs.toList.take (l * i.size))[k]? = some cv ∧ VR0 j v cv := by
      intro k v hk
      rw [List.getElem?_take] at hk ⊢
      split at hk
      · rename_i hlt
        rw [if_pos hlt]
        simpa using g6 k v hk
      · cases hk
    have hold2 : L2 (VR0 j) (L.take (l * i.size)) (cs.toList.take (l * i.size)) := L2.of_get (by rw [htl, List.length_take]; simp; omega) (fun k a b' ha hb' => by
      obtain ⟨cv, h1, h2⟩ := htake k a ha
      rw [h1] at hb'; cases hb'; exact h2)
    -- a new block
    have out : ∀ (o' c' : Nat), cρ x = .slice (some ⟨q.blk, o', none⟩) l c' → (o' = 0 ∨ l = 0) → c' < l + lenV (ρ y) → EffOut P j m w cρ o (.slice (some ⟨m.next, 0, none⟩) (l + lenV (ρ y)) BIG) ((m.put b .dead).push (.own (L.take (l * i.size) ++ new) e)) := by
      intro o' c' hcx ho hc
      have hk := hR.kill b
      have hfo : ∀ w' : World, w'.heap = w.heap → (Builtin.firstCells i.size l (.slice (some ⟨q.blk, o', none⟩) l c')).run P w' = .ok (cs.toList.take (l * i.size)).toArray w' := by
        intro w' hw
        simp only [Builtin.firstCells]
        rcases ho with rfl | ho
        · refine run_cells (by rw [List.length_take]; simp; omega) (fun k u hu => ?_)
          rw [List.getElem?_take] at hu
          split at hu
          · simp only [World.cell?, hw, g1, Nat.zero_add]; simpa using hu
          · cases hu
        · subst ho
          simp only [Nat.zero_mul, List.take_zero]
          exact run_cells (ds := []) rfl (fun k u hu => by simp at hu)
      obtain ⟨cv, w', j', h1, h2, h3⟩ := append_new_sound (m := m) (m0 := m.put b .dead) h ht hi hz hzs hsz hu hcx hlen' hc htl hn hold2 hdn hfo hfn hb hm hk.rel rfl
      exact ⟨.value cv, cv, w', j', h1, .inl rfl, Post.trans hk h2, h3⟩
    rcases hcc with ⟨hlt, _⟩ | ⟨_, hpos, hle, hcap, hmod, hdiv, hcx⟩ | ⟨_, hl0, o', hcx⟩ | ⟨hc0, _⟩
    rotate_left 3
    · simp [BIG] at hc0
    · exact absurd hlt (Nat.lt_irrefl _)
    · simp only [Nat.zero_div, Nat.sub_zero] at hcx hle
      by_cases hfit : l + lenV (ρ y) ≤ q.cap
      · have hsz' : (l + lenV (ρ y)) * i.size ≤ cs.size := by rw [g4, hes]; exact Nat.mul_le_mul_right _ hfit
        have hsz'' : l * i.size + new.length ≤ cs.size := by rw [hn, ← Nat.add_mul]; exact hsz'
        have hst := run_storeN (P := P) q.blk (l * i.size) e fz dn 0 cs w g1 g2 (by rw [← hdn.length]; omega) (L2.one hdn)
        simp only [Nat.add_zero] at hst
        refine ⟨.value _, _, _, j.up m.next q, append_exec h (v := .slice (some ⟨q.blk, 0, none⟩) (l + lenV (ρ y)) q.cap) ?_, .inl rfl,
          hR.reuse (L' := L.take (l * i.size) ++ new) hj hmb g1 (setN_size cs (l * i.size) dn) (by rw [setN_size, List.length_append, htl]; exact hsz'') ?_,
          ⟨q, rfl, by simp [Emb.up], .inr (.inl ⟨rfl, hpos, by simpa using hfit, hcap, by simp, by simp, by simp⟩)⟩⟩
        · rw [hcx, run_append_in ht hi hu hlen hfit (hfn w rfl)]
          simp only [add_none, Nat.zero_add, hst, Result.andThen_ok]
        · intro k v hk
          simp only [List.getElem?_toArray]
          rw [setN_get _ _ _ _ (by rw [← hdn.length]; simpa using hsz'')]
          rw [List.getElem?_append, htl] at hk
          split at hk
          · rename_i hlt
            rw [if_neg (by omega)]
            obtain ⟨cv, h1, h2⟩ := htake k v hk
            rw [List.getElem?_take, if_pos hlt] at h1
            exact ⟨cv, h1, h2⟩
          · rename_i hge
            obtain ⟨cv, h1, h2⟩ := hdn.get _ _ hk
            have := (List.getElem?_eq_some_iff.1 h1).1
            rw [if_pos (by omega)]
            exact ⟨cv, h1, h2⟩
      · exact out 0 q.cap hcx (.inl rfl) (by omega)
    · by_cases hfit : l + lenV (ρ y) ≤ 0
      · have hy0 : lenV (ρ y) = 0 := by omega
        have hnil : new = [] := by have : new.length = 0 := by rw [hn, hy0, Nat.zero_mul]
                                   exact List.eq_nil_of_length_eq_zero this
        subst hnil
        subst hl0
        have hdnn : dn = [] := by have := hdn.length; exact List.eq_nil_of_length_eq_zero this.symm
        subst hdnn
        have hre := hR.reuse (L' := L.take (0 * i.size) ++ []) hj hmb g1 (cs' := cs) rfl (by simp) (fun k v hk => by simp at hk)
        rw [reset_same g1] at hre
        refine ⟨.value (.slice (some ⟨q.blk, o', none⟩) 0 0), _, w, j.up m.next q, append_exec h ?_, .inl rfl, hre, ⟨q, rfl, by simp [Emb.up], .inr (.inr (.inl ⟨rfl, by omega, o', rfl⟩))⟩⟩
        have hf0 := hfn w rfl
        rw [hy0] at hf0 hlen
        rw [hcx, run_append_in ht hi hu hlen (by omega) hf0]
        simp [storeCells]
      · exact out o' 0 (by rw [hcx, hl0]) (.inr hl0) (by omega)
  | copy x y t u e i b off l c L cs h ht hi hx hm hy hn hl =>
    left
    have hX := hO x (by simp [h, Op.operands, Call.operands])
    rw [hx] at hX
    have hY := hO y (by simp [h, Op.operands, Call.operands])
    obtain ⟨hlen, dn0, hdn0, hf⟩ := elems_sound hR.rdOk hY hy
    have hmin : Nat.min (lenV (ρ y)) l ≤ lenV (ρ y) := Nat.min_le_left _ _
    have hf := hf hn _ hmin w rfl
    have hdn := hdn0.take (Nat.min (lenV (ρ y)) l * i.size)
    obtain ⟨q, _, hj, hcc⟩ := hX.slice
    have hj : j b = some q := hj
    obtain ⟨ds, fz, g1, g2, g3, g4, g5, g6⟩ := hR.own b q L e hj hm
    have hl' : off + (cs.take (Nat.min (lenV (ρ y)) l * i.size)).length ≤ L.length := by
      rw [List.length_take]
      have : Nat.min (lenV (ρ y)) l * i.size ≤ l * i.size := Nat.mul_le_mul_right _ (Nat.min_le_right _ _)
      omega
    have key : ∀ (a' : Addr) (c' : Nat), cρ x = .slice (some a') l c' → (a' = ⟨q.blk, off, none⟩ ∨ l = 0) → EffOut P j m w cρ o (.int .i64 (Nat.min (lenV (ρ y)) l)) (m.put b (.own (setN L off (cs.take (Nat.min (lenV (ρ y)) l * i.size))) e)) := by
      intro a' c' hcx ho
      rcases ho with rfl | ho
      · have hst := run_storeN (P := P) q.blk off e fz _ 0 ds w g1 g2 (by rw [← hdn.length]; omega) (L2.one hdn)
        simp only [Nat.add_zero] at hst
        refine ⟨.value _, .int .i64 (Nat.min (lenV (ρ y)) l), _, j, ?_, .inl rfl, hR.write hj hm g1 (setN_size ds _ _) (by rw [setN_size, setN_length]; exact g5) (setN_rel g6 hdn hl' g5), rfl⟩
        simp only [execOp, h, resolve, invoke, builtin, Sem.run_bind, Sem.run_pure, Result.andThen_ok, List.map_toArray, List.map_cons, List.map_nil, Builtin.copy_, List.getElem?_toArray, List.getElem?_cons_zero, List.getElem?_cons_succ, run_u ht, hcx, hlen, run_so hi, hf, hst, goInt]
      · subst ho
        have h0 : Nat.min (lenV (ρ y)) 0 = 0 := Nat.min_zero _
        simp only [h0, Nat.zero_mul, List.take_zero, setN] at hf hl' ⊢
        have hw := hR.write (L' := L) hj hm g1 (cs' := ds) rfl g5 g6
        rw [reset_same g1] at hw
        refine ⟨.value _, .int .i64 (0 : Nat), w, j, ?_, .inl rfl, hw, rfl⟩
        have h0' : Nat.min (lenV (ρ y)) 0 = 0 := Nat.min_zero _
        simp only [execOp, h, resolve, invoke, builtin, Sem.run_bind, Sem.run_pure, Result.andThen_ok, List.map_toArray, List.map_cons, List.map_nil, Builtin.copy_, List.getElem?_toArray, List.getElem?_cons_zero, List.getElem?_cons_succ, run_u ht, hcx, hlen, run_so hi, h0', hf, goInt, storeCells]
    rcases hcc with ⟨_, hcx⟩ | ⟨_, _, _, _, _, _, hcx⟩ | ⟨_, hl0, o', hcx⟩ | ⟨_, hl0, a', hcx⟩
    · exact key _ _ hcx (.inl rfl)
    · exact key _ _ hcx (.inl rfl)
    · exact key _ 0 (by rw [hcx, hl0]) (.inr hl0)
    · exact key a' 0 (by rw [hcx, hl0]) (.inr hl0)
  | mapUpdate xt x kx vx u kt vt b L kc vc E E' good h hxt hu hx hmb hE hks K hkc hkl hkf hf hk hg hvs hvc hvl hvv hup =>
    left
    have hm3 : ∀ y ∈ ([x, kx, vx] : List Operand), y ∈ o.op.operands := by
      intro y hy
      rcases h with h | h <;> (simp [h, Op.operands]; simpa using hy)
    have hX := hO x (hm3 x (by simp))
    rw [hx] at hX
    obtain ⟨q, hj, hc⟩ : ∃ q, j b = some q ∧ cρ x = .map (some q.blk) := hX
    have hck := flat_eq hf (hO kx (hm3 kx (by simp)))
    have hcv := VR.storable (hO vx (hm3 vx (by simp))) hvs
    have hmap := hR.obj b q hj
    rw [hmb] at hmap
    obtain ⟨kt', vt', cs, clock, E0, g1, g2, g3, g4⟩ := hmap
    have hkv : kt' = kt ∧ vt' = vt := by rw [hu] at g2; simpa using g2.symm
    obtain ⟨rfl, rfl⟩ := hkv
    have := EntL.uniq hks hE g3
    subst this
    have hfind := K.find (ρ kx) cs.toList w hk (good_keys g4 hg)
    have hchk := K.check false (ρ kx) w hk
    have hlen' : EntL (P.cellsOf kt') (P.cellsOf vt') (E'.flatMap fun p => p.1 ++ p.2) E' := by
      refine ⟨rfl, ?_⟩
      have := hE.len
      clear hE g3 g4 hg
      induction hup with
      | miss => intro p hp; simp at hp; subst hp; exact ⟨hkl, hvl⟩
      | hit p E h =>
        intro r hr
        rcases List.mem_cons.1 hr with rfl | hr
        · exact ⟨(this p (by simp)).1, hvl⟩
        · exact this r (by simp [hr])
      | next p E E' h hE2 ih =>
        intro r hr
        rcases List.mem_cons.1 hr with rfl | hr
        · exact this r (by simp)
        · exact ih (fun r hr => this r (by simp [hr])) r hr
    have key := hup.find (j := j) (cv := cρ vx) (clock := clock) hkf (by rw [← hvc]; exact hcv) 0 g4
    rw [← hkc] at key
    have fin : ∀ (cs' : Array MapEntry) (clock' : Nat), L2 (EntW P j kt' vt') E' cs'.toList → (execOp cρ o).run P w = .ok .skip (setO w q.blk (.map cs' clock')) →
        EffOut P j m w cρ o undef (m.put b (.map (E'.flatMap fun p => p.1 ++ p.2) u)) := by
      intro cs' clock' hl2 hrun
      refine ⟨.skip, undef, _, j, hrun, .inr ⟨rfl, rfl⟩, hR.turn hj (by rw [hmb]; rfl) ⟨kt', vt', cs', clock', E', rfl, hu, hlen', hl2⟩ rfl, ⟨#[], rfl, True.intro⟩⟩
    have hex : ∀ w', (Instr.mapUpdate xt (cρ x) (cρ kx) (cρ vx)).run P w = .ok () w' → (execOp cρ o).run P w = .ok .skip w' := by
      intro w' hw'
      rcases h with h | h <;> simp [execOp, h, hw']
    rcases key with ⟨i, y, h1, h2, h3, h4⟩ | ⟨h1, h2⟩
    · refine fin (cs.modify i fun e => { e with key := ρ kx, val := cρ vx }) clock ?_ (hex _ ?_)
      · simpa [Array.toList_modify] using h4
      · have hst := K.stays (ρ kx) w hk
        rw [h1] at hfind
        have hg2 : cs[i]? = some y := by simpa using h2
        simp [Instr.mapUpdate, run_u hxt, hc, run_gm g1, hck, hchk, hfind, hg2, h3, hst, run_sm _ g1, setO]
    · refine fin (cs.push { key := ρ kx, val := cρ vx, born := clock }) (clock + 1) ?_ (hex _ ?_)
      · simpa using h2
      · rw [h1] at hfind
        simp [Instr.mapUpdate, run_u hxt, hc, run_gm g1, hck, hchk, hfind, run_sm _ g1, setO]

end Go.AM
