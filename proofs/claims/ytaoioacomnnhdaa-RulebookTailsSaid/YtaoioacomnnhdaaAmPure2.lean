/- Operations without effects, continued: each case. -/
import Derived.Test.YtaoioacomnnhdaaAmPure
import Derived.WalkSpells
set_option linter.unusedSimpArgs false
set_option linter.unusedVariables false
namespace Go.AM

theorem pure_flat {P : Program} {j : Emb} {ρ cρ : Operand → Value} {o : Oper} {v : Value} (hs : ∀ cs b, o.op ≠ .select cs b) (h : ∀ x ∈ o.op.operands, flat (ρ x) = true) (hr : ∀ w, (execOp ρ o).run P w = .ok (.value v) w)
    (hv : OpsR j ρ cρ o) (w : World) : (execOp cρ o).run P w = .ok (.value v) w := by
  rw [← hr w]
  congr 1
  exact execOp_congr o hs fun x hx => flat_eq (h x hx) (hv x hx)

theorem L2.extract {α β : Type} {R : α → β → Prop} {A : Array α} {B : Array β} (h : L2 R A.toList B.toList) (i k : Nat) : L2 R (A.extract i k).toList (B.extract i k).toList := by
  simp only [Array.toList_extract, List.extract_eq_drop_take']
  exact (h.take k).drop i

theorem L2.size {α β : Type} {R : α → β → Prop} {A : Array α} {B : Array β} (h : L2 R A.toList B.toList) : A.size = B.size := by simpa using h.length

theorem L2.getA {α β : Type} {R : α → β → Prop} {A : Array α} {B : Array β} (h : L2 R A.toList B.toList) (i : Nat) (a : α) (ha : A[i]? = some a) : ∃ b, B[i]? = some b ∧ R a b := by
  have := h.get i a (by simpa using ha)
  simpa using this

theorem L2.map {α β γ : Type} {R : β → γ → Prop} (f : α → β) (g : α → γ) : ∀ (l : List α), (∀ x ∈ l, R (f x) (g x)) → L2 R (l.map f) (l.map g)
  | [], _ => True.intro
  | x :: l, h => ⟨h x (by simp), L2.map f g l fun y hy => h y (by simp [hy])⟩

theorem VR1.up {j : Emb} {v cv : Value} (h : VR1 j v cv) : VR j v cv := VR.of1 h

theorem eqNil_run {P : Program} {cρ : Operand → Value} {o : Oper} (neq : Bool) (x y : Operand) (t u e : TypeId) (a : Addr) (l c : Nat) (h : o.op = .binOp (if neq then .neq else .eql) t x y u) (ht : P.underlying t = some (.slice e))
      (hx : cρ x = .slice (some a) l c) (hy : cρ y = .slice none 0 0) (w : World) : (execOp cρ o).run P w = .ok (.value (.bool neq)) w := by
  have hg : (eqGuard (if neq then .neq else .eql) t x y (.slice (some a) l c) (.slice none 0 0)).run P w = .ok () w := by
    cases neq <;> simp [eqGuard]
  have hb : (binOp (if neq then .neq else .eql) t (.slice (some a) l c) (.slice none 0 0)).run P w = .ok (.bool neq) w := by
    cases neq
    · exact Lib.run_eql_slice_nil w t e (some a) l c 0 0 ht
    · exact run_neq_slice_nil_any w t e (some a) l c 0 0 ht
  simp only [execOp, h, hx, hy, Sem.run_bind, hg, hb, Result.andThen_ok, Sem.run_pure]

theorem pure_sound {P : Program} {j : Emb} {ρ cρ : Operand → Value} {o : Oper} {v : Value} (h : PureR P ρ o v) (hO : OpsR j ρ cρ o) (w : World) : ∃ cv, (execOp cρ o).run P w = .ok (.value cv) w ∧ VR j v cv := by
  cases h with
  | flat v hs h hv hr => exact ⟨v, pure_flat hs h hr hO w, flat_self hv⟩
  | move x h =>
    refine ⟨cρ x, ?_, hO x ?_⟩
    · rcases h with h | h <;> simp [execOp, h]
    · rcases h with h | h <;> simp [h, Op.operands]
  | pick c a b t h hc =>
    have h1 := hO c (by simp [h, Op.operands])
    rw [hc] at h1
    have h2 := h1.bool
    have ha := hO a (by simp [h, Op.operands])
    have hb := hO b (by simp [h, Op.operands])
    refine ⟨if t then cρ a else cρ b, ?_, ?_⟩
    · simp only [execOp, h, h2]; cases t <;> simp [asBool]
    · cases t <;> simpa
  | extract x i vs v h hx hv =>
    have h1 := hO x (by simp [h, Op.operands])
    rw [hx] at h1
    obtain ⟨ds, hd, h2⟩ := h1
    obtain ⟨b, hb, hr⟩ := h2.getA i v hv
    exact ⟨b, by simp [execOp, h, Instr.extract, hd, hb], hr.up⟩
  | field t x i fs f d cs v h ht hf hd hx hv =>
    have h1 := hO x (by simp [h, Op.operands])
    rw [hx] at h1
    obtain ⟨ds, hds, h2⟩ := h1
    by_cases ha : aggT d = true
    · rw [if_pos ha] at hv
      obtain ⟨k, hk, hle, rfl⟩ := hv
      refine ⟨.agg (ds.extract f.offset (f.offset + k.size)), ?_, ⟨_, rfl, h2.extract _ _⟩⟩
      simp [execOp, h, Instr.field, run_u ht, hf, hds, asAgg, part, run_ia hd, ha, run_so hk]
    · rw [if_neg ha] at hv
      obtain ⟨b, hb, hr⟩ := h2.getA _ _ hv
      refine ⟨b, ?_, VR.of0 hr⟩
      simp [execOp, h, Instr.field, run_u ht, hf, hds, asAgg, part, run_ia hd, ha, hb]
  | build t ps fs i z cs h ht hi hz hzf hp hc =>
    have h2 := OpsR.map2 (j := j) (ρ := ρ) (cρ := cρ) (o := o) ps.toList (fun p hp => hO p.2 (by
      simp only [h, Op.operands]; simp only [List.mem_toArray, List.mem_map]; exact ⟨p, hp, rfl⟩))
    obtain ⟨ds, hds, hr⟩ := fillL_sound (j := j) _ _ _ z.cells cs h2 (L2.self (fun a => flat0_self) hzf) hc
    refine ⟨.agg ds, ?_, ⟨_, rfl, by simpa using hr⟩⟩
    have hpl := run_places (P := P) w fs.toList (by simpa [places] using hp)
    have hpl' : (fs.mapM (m := Sem) fun f => do pure (f.offset, ← sizeOf f.type)).run P w = .ok (fs.map fun f => (f.offset, ((P.info? f.type).map (·.size)).getD 0)) w := by
      rw [Array.mapM_eq_mapM_toList]
      simp only [Sem.run_map, hpl, Result.andThen_ok]
      congr 1
      apply Array.ext'
      simp
    have hfe : (fun k : Nat => (fs.map fun f => (f.offset, ((P.info? f.type).map (·.size)).getD 0))[k]?) = (fun k : Nat => ((places P fs)[k]?).join) := by
      funext k
      simp only [places, Array.getElem?_map, List.getElem?_map, Array.getElem?_toList]
      cases hk : fs[k]? with
      | none => simp
      | some f =>
        have hm : f ∈ fs.toList := by
          have := Array.mem_of_getElem? hk
          simpa using this
        have := hp ((P.info? f.type).map fun i => (f.offset, i.size)) (by simp only [places, List.mem_map]; exact ⟨f, hm, rfl⟩)
        simp only [Option.isSome_map] at this
        obtain ⟨q, hq⟩ := Option.isSome_iff_exists.1 this
        simp [hq]
    have hpp : (ps.map fun (i, x) => (i, cρ x)).toList = ps.toList.map fun p => (p.1, cρ p.2) := by simp
    simp only [execOp, h, Instr.build, Sem.run_bind, run_zv hi hz, Result.andThen_ok, run_u ht, hpl', hfe, hpp, hds, Sem.run_pure]
  | buildA t ps n e i k z cs h ht hi hz hzf he hc =>
    have h2 := OpsR.map2 (j := j) (ρ := ρ) (cρ := cρ) (o := o) ps.toList (fun p hp => hO p.2 (by
      simp only [h, Op.operands]; simp only [List.mem_toArray, List.mem_map]; exact ⟨p, hp, rfl⟩))
    obtain ⟨ds, hds, hr⟩ := fillL_sound (j := j) _ _ _ z.cells cs h2 (L2.self (fun a => flat0_self) hzf) hc
    refine ⟨.agg ds, ?_, ⟨_, rfl, by simpa using hr⟩⟩
    have hpp : (ps.map fun (i, x) => (i, cρ x)).toList = ps.toList.map fun p => (p.1, cρ p.2) := by simp
    simp only [execOp, h, Instr.build, Sem.run_bind, run_zv hi hz, Result.andThen_ok, run_u ht, run_so he, hpp, hds, Sem.run_pure]
  | nilCheck x a h hx =>
    have h1 := hO x (by simp [h, Op.operands])
    rw [hx] at h1
    obtain ⟨e, hs, hj, hc⟩ := h1.ptr
    exact ⟨_, by simp [execOp, h, hc], ⟨e, hs, hj, rfl⟩⟩
  | fieldAddr t x i fs f k b off h ht hf hk hs hx =>
    have h1 := hO x (by simp [h, Op.operands])
    rw [hx] at h1
    obtain ⟨e, _, hj, hc⟩ := h1.ptr
    refine ⟨.pointer (some ⟨e.blk, off + f.offset, none⟩), ?_, ⟨e, rfl, hj, rfl⟩⟩
    simp [execOp, h, Instr.fieldAt, run_u ht, hf, hc, Instr.sureAddr, fieldPlace, run_so hk, hs, add_none]
  | indexAddr t x y e i b off l c k n h ht hi hx hy h0 h1 =>
    have hX := hO x (by simp [h, Op.operands])
    have hY := hO y (by simp [h, Op.operands])
    rw [hx] at hX
    rw [hy] at hY
    have hcy := hY.int
    obtain ⟨q, _, hj, hc⟩ := hX.slice
    have hcx : ∃ c', cρ x = .slice (some ⟨q.blk, off, none⟩) l c' := by
      rcases hc with ⟨_, hc⟩ | ⟨_, _, _, _, _, _, hc⟩ | ⟨_, hl, _, hc⟩ | ⟨_, hl, _⟩
      · exact ⟨_, hc⟩
      · exact ⟨_, hc⟩
      · omega
      · omega
    obtain ⟨c', hcx⟩ := hcx
    refine ⟨.pointer (some ⟨q.blk, off + n.toNat * i.size, none⟩), ?_, ⟨q, rfl, hj, rfl⟩⟩
    simp [execOp, h, Instr.indexAt, hcy, asIntOf, run_u ht, hcx, h0, h1, run_so hi, add_none]
  | indexAddrA t x y e i b off l k n h ht hi hx hy h0 h1 =>
    have hX := hO x (by simp [h, Op.operands])
    have hY := hO y (by simp [h, Op.operands])
    rw [hx] at hX
    rw [hy] at hY
    have hcy := hY.int
    obtain ⟨q, _, hj, hc⟩ := hX.ptr
    refine ⟨.pointer (some ⟨q.blk, off + n.toNat * i.size, none⟩), ?_, ⟨q, rfl, hj, rfl⟩⟩
    simp [execOp, h, Instr.indexAt, hcy, asIntOf, run_u ht, hc, Instr.sureAddr, h0, h1, run_so hi, add_none]
  | slice t x lo hi e i b off l c n h' h ht hi' hx hb hlo hhi h1 h2 h3 =>
    have hX := hO x (by simp [h, Op.operands])
    rw [hx] at hX
    obtain ⟨q, _, hj, hc⟩ := hX.slice
    have hex : ∃ a' : Addr, cρ x = .slice (some a') l c ∧ ((c < BIG ∧ a' = ⟨q.blk, off, none⟩) ∨ (c = 0 ∧ l = 0)) := by
      rcases hc with ⟨hlt, hc⟩ | ⟨hc, _⟩ | ⟨hc, _⟩ | ⟨hc, hl, a', ha⟩
      · exact ⟨_, hc, .inl ⟨hlt, rfl⟩⟩
      · exact absurd hc hb
      · exact absurd hc hb
      · subst hc; subst hl; exact ⟨a', ha, .inr ⟨rfl, rfl⟩⟩
    obtain ⟨a', hcx, hor⟩ := hex
    have hbnd : (Instr.sliceBounds true l c (lo.map cρ) (hi.map cρ) none).run P w = .ok (n, h', c) w := by
      cases lo with
      | none =>
        simp only [lowIs] at hlo
        subst hlo
        cases hi with
        | none => simp only [highIs] at hhi; subst hhi; simp [Instr.sliceBounds]
        | some y =>
          obtain ⟨k, hy⟩ := hhi
          have := OpsR.nums (hO y (by simp [h, Op.operands])) hy
          simp [Instr.sliceBounds, this, Instr.sliceBound, asIntOf, h2]
      | some u =>
        obtain ⟨k, hu⟩ := hlo
        have hu' := OpsR.nums (hO u (by simp [h, Op.operands])) hu
        cases hi with
        | none => simp only [highIs] at hhi; subst hhi; simp [Instr.sliceBounds, hu', Instr.sliceBound, asIntOf, h1]
        | some y =>
          obtain ⟨k', hy⟩ := hhi
          have := OpsR.nums (hO y (by simp [h, Op.operands])) hy
          simp [Instr.sliceBounds, this, hu', Instr.sliceBound, asIntOf, h1, h2]
    refine ⟨.slice (some (if c = n then a' else a'.add (n * i.size))) (h' - n) (c - n), ?_, ?_⟩
    · simp only [execOp, h, Instr.sliceAt, Sem.run_bind, run_u ht, Result.andThen_ok, Option.map_none, Instr.slice, hcx, hbnd, run_so hi', Sem.run_pure]
      congr 3
      split <;> simp
    · refine ⟨q, rfl, hj, ?_⟩
      rcases hor with ⟨hlt, rfl⟩ | ⟨rfl, rfl⟩
      · refine .inl ⟨Nat.lt_of_le_of_lt (Nat.sub_le c n) hlt, ?_⟩
        congr 2
        split <;> simp [add_none]
      · have hn : n = 0 := by omega
        have hh : h' = 0 := by omega
        subst hn; subst hh
        exact .inr (.inr (.inr ⟨rfl, rfl, _, rfl⟩))
  | sliceNil t x lo hi e i h ht hi' hx hlo hhi =>
    have hX := hO x (by simp [h, Op.operands])
    rw [hx] at hX
    have hcx := hX.sliceNil
    refine ⟨.slice none 0 0, ?_, rfl⟩
    have hbnd : (Instr.sliceBounds true 0 0 (lo.map cρ) (hi.map cρ) none).run P w = .ok (0, 0, 0) w := by
      cases lo with
      | none =>
        cases hi with
        | none => simp [Instr.sliceBounds]
        | some y =>
          obtain ⟨k, hy⟩ := hhi
          have := OpsR.nums (hO y (by simp [h, Op.operands])) hy
          simp [Instr.sliceBounds, this, Instr.sliceBound, asIntOf]
      | some u =>
        obtain ⟨k, hu⟩ := hlo
        have hu' := OpsR.nums (hO u (by simp [h, Op.operands])) hu
        cases hi with
        | none => simp [Instr.sliceBounds, hu', Instr.sliceBound, asIntOf]
        | some y =>
          obtain ⟨k', hy⟩ := hhi
          have := OpsR.nums (hO y (by simp [h, Op.operands])) hy
          simp [Instr.sliceBounds, this, hu', Instr.sliceBound, asIntOf]
    simp [execOp, h, Instr.sliceAt, run_u ht, Instr.slice, hcx, hbnd, run_so hi']
  | len x t e a l c h ht hx =>
    have hX := hO x (by simp [h, Op.operands, Call.operands])
    rw [hx] at hX
    have hcx : ∃ a' c', cρ x = .slice a' l c' := by
      cases a with
      | none => exact ⟨_, _, hX.sliceNil⟩
      | some a =>
        obtain ⟨q, _, hj, hc⟩ := hX.slice
        rcases hc with ⟨_, hc⟩ | ⟨_, _, _, _, _, _, hc⟩ | ⟨_, hl, _, hc⟩ | ⟨_, hl, _, hc⟩
        · exact ⟨_, _, hc⟩
        · exact ⟨_, _, hc⟩
        · subst hl; exact ⟨_, _, hc⟩
        · subst hl; exact ⟨_, _, hc⟩
    obtain ⟨a', c', hcx⟩ := hcx
    exact ⟨.int .i64 l, by simp [execOp, h, resolve, invoke, builtin, Builtin.len_, run_u ht, hcx, goInt], rfl⟩
  | eqNil neq x y t u e a l c h ht hx hy =>
    have hX := hO x (by simp [h, Op.operands])
    rw [hx] at hX
    have hY := hO y (by simp [h, Op.operands])
    rw [hy] at hY
    have hcy := hY.sliceNil
    have hcx : ∃ a' c', cρ x = .slice (some a') l c' := by
      obtain ⟨q, _, hj, hc⟩ := hX.slice
      rcases hc with ⟨_, hc⟩ | ⟨_, _, _, _, _, _, hc⟩ | ⟨_, hl, _, hc⟩ | ⟨_, hl, _, hc⟩
      · exact ⟨_, _, hc⟩
      · exact ⟨_, _, hc⟩
      · subst hl; exact ⟨_, _, hc⟩
      · subst hl; exact ⟨_, _, hc⟩
    obtain ⟨a', c', hcx⟩ := hcx
    refine ⟨.bool neq, ?_, rfl⟩
    exact eqNil_run neq x y t u e a' l c' h ht hcx hcy w
  | func fn first captured h hf =>
    refine ⟨.func fn (first.map cρ) (captured.map cρ), by simp [execOp, h, Instr.makeFunc], ⟨_, _, rfl, ?_, ?_⟩⟩
    · simp only [Array.toList_map]
      exact L2.map _ _ _ fun x hx => VR.storable (hO x (by simp [h, Op.operands]; exact .inl (by simpa using hx))) (hf x (by simp [hx]))
    · simp only [Array.toList_map]
      exact L2.map _ _ _ fun x hx => VR.storable (hO x (by simp [h, Op.operands]; exact .inr (by simpa using hx))) (hf x (by simp [hx]))

end Go.AM
