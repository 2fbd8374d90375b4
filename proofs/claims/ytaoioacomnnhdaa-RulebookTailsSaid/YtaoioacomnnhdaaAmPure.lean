/- The abstract machine's operations without effects are those of the model. -/
import Derived.Test.YtaoioacomnnhdaaAmSem
import Derived.WalkKit
set_option linter.unusedSimpArgs false
set_option linter.unusedVariables false
namespace Go.AM

theorem flat0_eq {j : Emb} {v cv : Value} (h : flat0 v = true) (hv : VR0 j v cv) : cv = v := by
  cases v with
  | pointer a => cases a with
    | none => exact hv
    | some a => simp [flat0] at h
  | slice a l c => cases a with
    | none => exact hv
    | some a => simp [flat0] at h
  | map r => cases r with
    | none => exact hv
    | some r => simp [flat0] at h
  | chan _ => simp [flat0] at h
  | func _ _ _ => simp [flat0] at h
  | iface _ _ => simp [flat0] at h
  | agg _ => simp [flat0] at h
  | tuple _ => simp [flat0] at h
  | _ => exact hv

theorem flat0_self {j : Emb} {v : Value} (h : flat0 v = true) : VR0 j v v := by
  cases v with
  | pointer a => cases a with
    | none => exact rfl
    | some a => simp [flat0] at h
  | slice a l c => cases a with
    | none => exact rfl
    | some a => simp [flat0] at h
  | map r => cases r with
    | none => exact rfl
    | some r => simp [flat0] at h
  | chan _ => simp [flat0] at h
  | func _ _ _ => simp [flat0] at h
  | iface _ _ => simp [flat0] at h
  | agg _ => simp [flat0] at h
  | tuple _ => simp [flat0] at h
  | _ => exact rfl

theorem L2.eq_of {α : Type} {R : α → α → Prop} {p : α → Bool} (h : ∀ a b, p a = true → R a b → b = a) : ∀ {l k : List α}, l.all p = true → L2 R l k → k = l
  | [], [], _, _ => rfl
  | a :: l, b :: k, hp, ⟨h1, h2⟩ => by
    simp only [List.all_cons, Bool.and_eq_true] at hp
    rw [h a b hp.1 h1, L2.eq_of h hp.2 h2]
  | [], _ :: _, _, hh => hh.elim
  | _ :: _, [], _, hh => hh.elim

theorem L2.self {α : Type} {R : α → α → Prop} {p : α → Bool} (h : ∀ a, p a = true → R a a) : ∀ {l : List α}, l.all p = true → L2 R l l
  | [], _ => True.intro
  | a :: l, hp => by
    simp only [List.all_cons, Bool.and_eq_true] at hp
    exact ⟨h a hp.1, L2.self h hp.2⟩

theorem flat1_eq {j : Emb} {v cv : Value} (h : flat1 v = true) (hv : VR1 j v cv) : cv = v := by
  cases v with
  | agg cs =>
    obtain ⟨ds, rfl, h2⟩ := hv
    have := L2.eq_of (fun a b => flat0_eq (j := j)) h h2
    rw [Array.ext' this]
  | _ => exact flat0_eq (j := j) h (by simpa only [VR1] using hv)

theorem flat1_self {j : Emb} {v : Value} (h : flat1 v = true) : VR1 j v v := by
  cases v with
  | agg cs => exact ⟨cs, rfl, L2.self (fun a => flat0_self) h⟩
  | _ => simp only [VR1]; exact flat0_self h

theorem flat_eq {j : Emb} {v cv : Value} (h : flat v = true) (hv : VR j v cv) : cv = v := by
  cases v with
  | tuple cs =>
    obtain ⟨ds, rfl, h2⟩ := hv
    have := L2.eq_of (fun a b => flat1_eq (j := j)) h h2
    rw [Array.ext' this]
  | func _ _ _ => simp [flat, flat1, flat0] at h
  | _ => exact flat1_eq (j := j) h (by simpa only [VR] using hv)

theorem flat_self {j : Emb} {v : Value} (h : flat v = true) : VR j v v := by
  cases v with
  | tuple cs => exact ⟨cs, rfl, L2.self (fun a => flat1_self) h⟩
  | func _ _ _ => simp [flat, flat1, flat0] at h
  | _ => simp only [VR]; exact flat1_self h

theorem VR.storable {j : Emb} {v cv : Value} (h : VR j v cv) (hs : storable v = true) : VR1 j v cv := by
  cases v <;> first | (simp [AM.storable] at hs; done) | exact h

theorem VR.int {j : Emb} {k : IntKind} {n : Int} {cv : Value} (h : VR j (.int k n) cv) : cv = .int k n := h
theorem VR.bool {j : Emb} {b : Bool} {cv : Value} (h : VR j (.bool b) cv) : cv = .bool b := h
theorem VR.str {j : Emb} {b : ByteArray} {cv : Value} (h : VR j (.string b) cv) : cv = .string b := h
theorem VR.sliceNil {j : Emb} {l c : Nat} {cv : Value} (h : VR j (.slice none l c) cv) : cv = .slice none l c := h
theorem VR.ptr {j : Emb} {a : Addr} {cv : Value} (h : VR j (.pointer (some a)) cv) : ∃ e, a.spot = none ∧ j a.block = some e ∧ cv = .pointer (some ⟨e.blk, a.off, none⟩) := h
theorem VR.slice {j : Emb} {a : Addr} {l c : Nat} {cv : Value} (h : VR j (.slice (some a) l c) cv) : ∃ e, a.spot = none ∧ j a.block = some e ∧
      ((c < BIG ∧ cv = .slice (some ⟨e.blk, a.off, none⟩) l c) ∨
       (c = BIG ∧ 0 < e.es ∧ l ≤ e.cap - a.off / e.es ∧ e.cap < BIG ∧ a.off % e.es = 0 ∧ a.off / e.es ≤ e.cap ∧ cv = .slice (some ⟨e.blk, a.off, none⟩) l (e.cap - a.off / e.es)) ∨
       (c = BIG ∧ l = 0 ∧ ∃ o', cv = .slice (some ⟨e.blk, o', none⟩) 0 0) ∨
       (c = 0 ∧ l = 0 ∧ ∃ a', cv = .slice (some a') 0 0)) := h

theorem add_none (b o n : Nat) : (⟨b, o, none⟩ : Addr).add n = ⟨b, o + n, none⟩ := by
  unfold Addr.add
  split <;> simp_all

/-- Filling lists, and filling arrays. -/
theorem setN_length : ∀ (vs L : List Value) (o : Nat), (setN L o vs).length = L.length
  | [], L, o => rfl
  | v :: vs, L, o => by simp [setN, setN_length vs]

theorem setN_get (vs : List Value) : ∀ (L : List Value) (o i : Nat), o + vs.length ≤ L.length → (setN L o vs)[i]? = if o ≤ i ∧ i < o + vs.length then vs[i - o]? else L[i]? := by
  induction vs with
  | nil => intro L o i h; simp [setN]; intro h1 h2; omega
  | cons v vs ih =>
    intro L o i h
    simp only [List.length_cons] at h
    simp only [setN, List.length_cons]
    rw [ih (L.set o v) (o + 1) i (by simp; omega)]
    by_cases h1 : o + 1 ≤ i ∧ i < o + 1 + vs.length
    · rw [if_pos h1, if_pos (by omega), show i - o = (i - (o + 1)) + 1 by omega]; simp
    · rw [if_neg h1]
      by_cases h2 : o = i
      · subst h2
        rw [if_pos (by omega), List.getElem?_set_self (by omega)]
        simp
      · rw [if_neg (by omega), List.getElem?_set_ne h2]

theorem foldl_set (vs : List Value) : ∀ (A : Array Value) (o k : Nat), ((vs.zipIdx k).foldl (fun cs (c, j) => cs.setIfInBounds (o + j) c) A).toList = setN A.toList (o + k) vs := by
  induction vs with
  | nil => intro A o k; simp [setN]
  | cons v vs ih =>
    intro A o k
    simp only [List.zipIdx_cons, List.foldl_cons, setN]
    rw [ih]
    simp [Nat.add_assoc]

theorem fillL_sound {j : Emb} {place : Nat → Option (Nat × Nat)} : ∀ (ps cps : List (Nat × Value)) (L : List Value) (A : Array Value) (cs : List Value), L2 (fun p q => p.1 = q.1 ∧ VR j p.2 q.2) ps cps → L2 (VR0 j) L A.toList → fillL place L ps = some cs →
    ∃ ds, Instr.fill place A cps = some ds ∧ L2 (VR0 j) cs ds.toList
  | [], [], L, A, cs, _, hL, h => by simp only [fillL, Option.some.injEq] at h; subst h; exact ⟨A, rfl, hL⟩
  | (i, v) :: ps, (k, cv) :: cps, L, A, cs, ⟨⟨h1, h2⟩, h3⟩, hL, h => by
    simp only at h1 h2
    subst h1
    simp only [fillL] at h
    cases hp : place i with
    | none => simp [hp] at h
    | some q =>
      obtain ⟨off, size⟩ := q
      simp only [hp] at h
      split at h
      · rename_i hc
        obtain ⟨hs, hsz, hl⟩ := hc
        have h1' := VR.storable h2 hs
        have hcc := VR1.cells h1'
        have hlen : cv.cells.size = size := by have := hcc.length; simp at this; omega
        have hLA : L.length = A.size := by have := hL.length; simpa using this
        simp only [Instr.fill, hp, hlen, ne_eq, not_true_eq_false, decide_false, Bool.false_or, decide_eq_true_eq]
        rw [if_neg (by omega)]
        refine fillL_sound ps cps _ _ cs h3 ?_ h
        have hf := foldl_set cv.cells.toList A off 0
        simp only [Nat.add_zero] at hf
        have hzz : (cv.cells.zipIdx.foldl (fun cs (c, j) => cs.setIfInBounds (off + j) c) A) = ((cv.cells.toList.zipIdx).foldl (fun cs (c, j) => cs.setIfInBounds (off + j) c) A) := by
          rw [← Array.foldl_toList, Array.toList_zipIdx]
        rw [hzz, hf]
        refine L2.of_get (by simp [setN_length, hLA]) ?_
        intro i a b ha hb
        rw [setN_get _ _ _ _ (by simp; omega)] at ha
        rw [setN_get _ _ _ _ (by simp; omega)] at hb
        have hll := hcc.length
        rw [hll] at ha
        split at ha
        · rename_i hin
          rw [if_pos hin] at hb
          obtain ⟨b', hb', hr⟩ := hcc.get _ _ ha
          rw [hb'] at hb; cases hb; exact hr
        · rename_i hin
          rw [if_neg hin] at hb
          obtain ⟨b', hb', hr⟩ := hL.get _ _ ha
          rw [hb'] at hb; cases hb; exact hr
      · simp at h
  | [], _ :: _, _, _, _, h, _, _ => h.elim
  | _ :: _, [], _, _, _, h, _, _ => h.elim

/-- Operands that are related. -/
def OpsR (j : Emb) (ρ cρ : Operand → Value) (o : Oper) : Prop := ∀ x ∈ o.op.operands, VR j (ρ x) (cρ x)

theorem run_u {P : Program} {t : TypeId} {d : TypeDesc} (h : P.underlying t = some d) (w : World) : (underlying t).run P w = .ok d w := run_underlying h w

theorem run_ti {P : Program} {t : TypeId} {i : TypeInfo} (h : P.info? t = some i) (w : World) : (typeInfo t).run P w = .ok i w := by simp [typeInfo, h]
theorem run_so {P : Program} {t : TypeId} {i : TypeInfo} (h : P.info? t = some i) (w : World) : (sizeOf t).run P w = .ok i.size w := by simp [sizeOf, run_ti h]
theorem run_zv {P : Program} {t : TypeId} {i : TypeInfo} {z : Value} (h : P.info? t = some i) (hz : i.zero = some z) (w : World) : (zeroValue t).run P w = .ok z w := by simp [zeroValue, run_ti h, hz]
theorem run_ia {P : Program} {t : TypeId} {d : TypeDesc} (h : P.underlying t = some d) (w : World) : (isAgg t).run P w = .ok (aggT d) w := by
  simp only [isAgg, Sem.run_bind, run_u h, Result.andThen_ok]
  cases d <;> simp [aggT]

theorem OpsR.map2 {j : Emb} {ρ cρ : Operand → Value} {o : Oper} (ps : List (Nat × Operand)) (h : ∀ p ∈ ps, VR j (ρ p.2) (cρ p.2)) : L2 (fun (p q : Nat × Value) => p.1 = q.1 ∧ VR j p.2 q.2) (ps.map fun p => (p.1, ρ p.2)) (ps.map fun p => (p.1, cρ p.2)) := by
  induction ps with
  | nil => exact True.intro
  | cons p ps ih => exact ⟨⟨rfl, h p (by simp)⟩, ih fun q hq => h q (by simp [hq])⟩

theorem run_places {P : Program} (w : World) : ∀ (fs : List Field), (∀ x ∈ fs.map (fun f => (P.info? f.type).map fun i => (f.offset, i.size)), x.isSome = true) →
    (fs.mapM (m := Sem) fun f => do pure (f.offset, ← sizeOf f.type)).run P w = .ok (fs.map fun f => (f.offset, ((P.info? f.type).map (·.size)).getD 0)) w
  | [], _ => by simp
  | f :: fs, h => by
    have h0 := h _ (by simp; exact .inl rfl)
    simp only [Option.isSome_map] at h0
    obtain ⟨i, hi⟩ := Option.isSome_iff_exists.1 h0
    have ih := run_places w fs (fun x hx => h x (by simp only [List.map_cons, List.mem_cons]; exact .inr hx))
    simp only [List.mapM_cons, Sem.run_bind, run_so hi, Result.andThen_ok, Sem.run_pure, ih, List.map_cons, hi, Option.map_some, Option.getD_some]

theorem OpsR.nums {j : Emb} {ρ cρ : Operand → Value} {y : Operand} {k : IntKind} {n : Int} (h : VR j (ρ y) (cρ y)) (hy : ρ y = .int k n) : cρ y = .int k n := by
  rw [hy] at h; exact h.int

end Go.AM
