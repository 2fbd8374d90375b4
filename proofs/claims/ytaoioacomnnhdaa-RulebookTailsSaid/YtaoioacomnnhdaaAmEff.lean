/- The abstract machine's operations that make or write memory are those of the model. -/
import Derived.Test.YtaoioacomnnhdaaAmNew
set_option linter.unusedSimpArgs false
set_option linter.unusedVariables false
namespace Go.AM

/-- What a new block is in the world. -/
structure NewOk (P : Program) (j : Emb) (w w' : World) (X : Blk) (e : Emb1) (ob : Obj) : Prop where
  heap : w'.heap = w.heap.push ob
  os : w'.os = w.os
  tape : w'.tape = w.tape
  output : w'.output = w.output
  blk : e.blk = w.heap.size
  obj : ObjR P j e (some ob) X
  own : X.isOwn = true

theorem NewOk.cells {P : Program} {j : Emb} {w w' : World} {L : List Value} {t : TypeId} {e : Emb1} {cs : Array Value} {fz : Nat × Nat} (h1 : w'.heap = w.heap.push (.cells cs t fz)) (h2 : w'.os = w.os) (h3 : w'.tape = w.tape) (h4 : w'.output = w.output) (h5 : e.blk = w.heap.size)
    (h6 : ∀ i : Nat, i < cs.size → ¬ (fz.1 ≤ i ∧ i < fz.2)) (h7 : P.cellsOf t = e.es) (h8 : cs.size = e.cap * e.es) (h9 : L.length ≤ cs.size) (h10 : ∀ (i : Nat) (v : Value), L[i]? = some v → ∃ cv, cs[i]? = some cv ∧ VR0 j v cv) : NewOk P j w w' (.own L t) e (.cells cs t fz) :=
  ⟨h1, h2, h3, h4, h5, ⟨cs, fz, rfl, h6, h7, h8, h9, h10⟩, rfl⟩

theorem L2.vals {R : Value → Value → Prop} {L : List Value} {cs : Array Value} (h : L2 R L cs.toList) : L.length = cs.size ∧ ∀ (i : Nat) (v : Value), L[i]? = some v → ∃ cv, cs[i]? = some cv ∧ R v cv :=
  ⟨by simpa using h.length, fun i v hi => by obtain ⟨b, hb, hr⟩ := h.get i v hi; exact ⟨b, by simpa using hb, hr⟩⟩

theorem nofz {n : Nat} : ∀ i : Nat, i < n → ¬ ((0, 0) : Nat × Nat).1 ≤ i ∨ ¬ i < ((0, 0) : Nat × Nat).2 := fun i _ => .inr (Nat.not_lt_zero i)
theorem nofz' {n : Nat} : ∀ i : Nat, i < n → ¬ (((0, 0) : Nat × Nat).1 ≤ i ∧ i < ((0, 0) : Nat × Nat).2) := fun i _ h => absurd h.2 (Nat.not_lt_zero i)

theorem cellsOf_eq {P : Program} {t : TypeId} {i : TypeInfo} (h : P.info? t = some i) : P.cellsOf t = i.size := by simp [Program.cellsOf, h]

theorem range0 : Array.range 0 = #[] := by apply Array.ext'; simp

theorem rep_list (z : Array Value) (l : Nat) : ((Array.range (l * z.size)).map (fun k => z[k % z.size]!)).toList = (List.replicate l z.toList).flatten := by
  induction l with
  | zero => simp
  | succ l ih =>
    have e : Array.range ((l + 1) * z.size) = Array.range (l * z.size) ++ ((Array.range z.size).map (l * z.size + ·)) := by
      rw [Nat.add_mul, Nat.one_mul, Array.range_add]
    rw [e, Array.map_append, Array.toList_append, ih, List.replicate_succ', List.flatten_append]
    congr 1
    simp only [List.flatten_cons, List.flatten_nil, List.append_nil, Array.map_map]
    apply List.ext_getElem?
    intro i
    simp only [Array.toList_map, List.getElem?_map, Array.toList_range, List.getElem?_range]
    by_cases hi : i < z.size
    · simp [hi, Nat.mod_eq_of_lt hi, Nat.mul_add_mod_self_right]
    · simp [hi]

theorem flat0_L2 {j : Emb} {L : List Value} (h : L.all flat0 = true) : L2 (VR0 j) L L := L2.self (fun _ => flat0_self) h

theorem rep_flat {z : List Value} (h : z.all flat0 = true) (l : Nat) : (List.replicate l z).flatten.all flat0 = true := by
  simp only [List.all_eq_true] at h ⊢
  intro x hx
  simp only [List.mem_flatten, List.mem_replicate] at hx
  obtain ⟨l', ⟨_, rfl⟩, hx⟩ := hx
  exact h x hx

theorem new_run {P : Program} {j : Emb} {ρ cρ : Operand → Value} {o : Oper} {n : Nat} {X : Blk} {v : Value} (h : NewR P ρ o n X v) (hO : OpsR j ρ cρ o) (w : World) :
    ∃ cv w' e ob, (execOp cρ o).run P w = .ok (.value cv) w' ∧ NewOk P j w w' X e ob ∧ ∀ j' : Emb, j' n = some e → VR j' v cv := by
  cases h with
  | alloc t i z h hi hz hzf hs =>
    have hl2 := (flat0_L2 (j := j) hzf).vals
    refine ⟨.pointer (some ⟨w.heap.size, 0, none⟩), w.alloc (.cells z.cells t), ⟨w.heap.size, 1, i.size⟩, _, ?_,
      .cells rfl rfl rfl rfl rfl nofz' (cellsOf_eq hi) (by simp [hs]) (by simp) hl2.2, fun j' hj => ⟨_, rfl, hj, rfl⟩⟩
    simp [execOp, h, Instr.alloc, run_zv hi hz, newVar, newRow]
  | box t x i h hi hv hs =>
    have hX := VR.storable (hO x (by simp [h, Op.operands])) hv
    have hl2 := hX.cells.vals
    refine ⟨.pointer (some ⟨w.heap.size, 0, none⟩), w.alloc (.cells (cρ x).cells t), ⟨w.heap.size, 1, i.size⟩, _, ?_,
      .cells rfl rfl rfl rfl rfl nofz' (cellsOf_eq hi) ?_ ?_ hl2.2, fun j' hj => ⟨_, rfl, hj, rfl⟩⟩
    · simp [execOp, h, Instr.box, newVar, newRow]
    · have := hl2.1; simp at this; simp; omega
    · exact Nat.le_of_eq hl2.1
  | buildSlice t l ps e i z cs h ht hi hz hzf hzs h24 hl63 hc =>
    have h2 := OpsR.map2 (j := j) (ρ := ρ) (cρ := cρ) (o := o) ps.toList (fun p hp => hO p.2 (by
      simp only [h, Op.operands]; simp only [List.mem_toArray, List.mem_map]; exact ⟨p, hp, rfl⟩))
    have hbase : L2 (VR0 j) (List.replicate l z.cells.toList).flatten ((Array.range (l * i.size)).map (fun k => z.cells[k % z.cells.size]!)).toList := by
      rw [← hzs, rep_list]
      exact flat0_L2 (rep_flat hzf l)
    obtain ⟨ds, hds, hr⟩ := fillL_sound (j := j) _ _ _ _ cs h2 hbase hc
    have hl2 := hr.vals
    have hlen : cs.length = l * i.size := by
      have : ∀ (ps : List (Nat × Value)) (L cs : List Value) (pl : Nat → Option (Nat × Nat)), fillL pl L ps = some cs → cs.length = L.length := by
        intro ps
        induction ps with
        | nil => intro L cs pl hh; simp only [fillL, Option.some.injEq] at hh; rw [hh]
        | cons p ps ih =>
          intro L cs pl hh
          obtain ⟨a, b⟩ := p
          simp only [fillL] at hh
          cases hp : pl a with
          | none => simp [hp] at hh
          | some q =>
            simp only [hp] at hh
            split at hh
            · rw [ih _ _ _ hh, setN_length]
            · cases hh
      rw [this _ _ _ _ hc]
      have hb := hbase.length
      simpa using hb
    have hpp : (ps.map fun (i, x) => (i, cρ x)).toList = ps.toList.map fun p => (p.1, cρ p.2) := by simp
    refine ⟨.slice (some ⟨w.heap.size, 0, none⟩) l l, w.alloc (.cells ds e), ⟨w.heap.size, l, i.size⟩, _, ?_,
      .cells rfl rfl rfl rfl rfl nofz' (cellsOf_eq hi) (by rw [← hl2.1, hlen]) (Nat.le_of_eq hl2.1) hl2.2, fun j' hj => ⟨_, rfl, hj, .inl ⟨hl63, rfl⟩⟩⟩
    by_cases hz0 : l * i.size = 0
    · have hdd : Instr.fill (fun k => some (k * i.size, i.size)) ((Array.range 0).map (fun k => (#[] : Array Value)[k % 0]!)) (ps.toList.map fun p => (p.1, cρ p.2)) = some ds := by
        rw [hz0, range0] at hds; rw [range0]; simpa using hds
      simp only [execOp, h, Instr.buildSlice, Sem.run_bind, run_u ht, Result.andThen_ok, run_so hi]
      simp only [hz0]
      simp [range0] at hdd
      simp [hdd, hpp, newRow, range0]
    · simp only [execOp, h, Instr.buildSlice, Sem.run_bind, run_u ht, Result.andThen_ok, run_so hi]
      rw [if_neg (by omega)]
      simp only [hz0, if_false, Sem.run_bind, run_zv hi hz, Result.andThen_ok, Sem.run_pure, hpp, hds]
      simp [newRow]
  | makeSlice t x y l c k k' e i z h ht hi hz hzf hzs hx hy hlc hb hc =>
    have hX := hO x (by simp [h, Op.operands])
    rw [hx] at hX
    have hcx := hX.int
    have hY := hO y (by simp [h, Op.operands])
    rw [hy] at hY
    have hcy := hY.int
    have hl2 := (flat0_L2 (j := j) (rep_flat hzf c)).length
    have hwl : IntKind.i64.wrap (l : Int) = (l : Int) := IntWalk.i64_in _ (by omega)
    have hwc : IntKind.i64.wrap (c : Int) = (c : Int) := IntWalk.i64_in _ (by omega)
    have hbi : (i.bytes : Int) * (c : Int) ≤ 140737488355328 := by
      have : ((i.bytes * c : Nat) : Int) ≤ 140737488355328 := by omega
      rwa [Int.natCast_mul] at this
    refine ⟨.slice (some ⟨w.heap.size, 0, none⟩) l c, w.alloc (.cells ((Array.range (c * i.size)).map (fun k => z.cells[k % z.cells.size]!)) e), ⟨w.heap.size, c, i.size⟩, _, ?_,
      .cells rfl rfl rfl rfl rfl nofz' (cellsOf_eq hi) (by simp) ?_ ?_, fun j' hj => ⟨_, rfl, hj, .inl ⟨hc, rfl⟩⟩⟩
    · have htl : ∀ q : Int, 0 ≤ q → q ≤ c → (decide (q < 0) || decide ((i.bytes : Int) * q > 2 ^ 48)) = false := by
        intro q h0 h1
        have : (i.bytes : Int) * q ≤ (i.bytes : Int) * c := Int.mul_le_mul_of_nonneg_left h1 (by omega)
        simp
        omega
      have hs : (Instr.makeSlice t (.int k l) (.int k' c)).run P w = .ok (.slice (some ⟨w.heap.size, 0, none⟩) l c) (w.alloc (.cells ((Array.range (c * i.size)).map (fun k => z.cells[k % z.cells.size]!)) e)) := by
        simp only [Instr.makeSlice, Sem.run_bind, run_u ht, Result.andThen_ok, asInt, asIntOf, Sem.run_pure, run_ti hi, hwl, hwc]
        rw [htl c (by omega) (by omega)]
        have h1 : ¬ ((l : Int) < 0) := by omega
        have h2 : ¬ ((l : Int) > (c : Int)) := by omega
        simp only [h1, h2, decide_false, Bool.or_self, Bool.false_eq_true, if_false, Sem.run_bind, run_askRoom, Result.andThen_ok, Int.toNat_natCast, run_so hi, Sem.run_pure]
        by_cases hz0 : c * i.size = 0
        · simp [hz0, newRow, range0]
        · simp [hz0, run_zv hi hz, newRow]
      simp [execOp, h, hcx, hcy, hs]
    · simp [hzs]
    · intro a v ha
      refine ⟨v, ?_, ?_⟩
      · have := rep_list z.cells c
        rw [hzs] at this
        rw [← Array.getElem?_toList, hzs, this]
        exact ha
      · have := rep_flat hzf c
        simp only [List.all_eq_true] at this
        exact flat0_self (this v (List.mem_of_getElem? ha))
  | bytes s t x e i b h hs ht he hi hi1 hx hb =>
    have hX := hO x (by simp [h, Op.operands])
    rw [hx] at hX
    have hcx := hX.str
    let cap := (Question.appendCap b.size 0 e).cut (w.tape w.drawn (.appendCap b.size 0 e))
    have hcap : b.size ≤ cap ∧ cap < BIG := by
      have hlt := Nat.mod_lt (w.tape w.drawn (.appendCap b.size 0 e)) (show 0 < 2 ^ 63 - b.size by omega)
      simp only [cap, Question.cut, BIG]
      omega
    let row : Array Value := b.data.map (fun u => .int .u8 u.toNat) ++ Array.replicate (cap - b.size) (.int .u8 0)
    have hrow : row.size = cap := by simp [row]; have : b.data.size = b.size := rfl; omega
    refine ⟨.slice (some ⟨w.heap.size, 0, none⟩) b.size cap, (w.drew.alloc (.cells row e)).freeze { block := w.heap.size, off := cap } 1, ⟨w.heap.size, cap, 1⟩, Obj.cells row e (cap, cap + 1), ?_,
      .cells ?_ ?_ ?_ ?_ rfl ?_ (by rw [cellsOf_eq hi, hi1]) (by simp [hrow]) ?_ ?_, fun j' hj => ⟨_, rfl, hj, .inr (.inl ⟨rfl, Nat.one_pos, ?_, hcap.2, ?_, ?_, ?_⟩)⟩⟩
    · have hsb : (Conv.stringToBytes e b).run P w = .ok (.slice (some ⟨w.heap.size, 0, none⟩) b.size cap) ((w.drew.alloc (.cells row e)).freeze { block := w.heap.size, off := cap } 1) := by
        simp only [Conv.stringToBytes, Sem.run_bind, run_choose, Question.forced, Bool.false_eq_true, if_false, Result.andThen_ok, newRow, run_newObj, Sem.run_pure, markStringish, run_shape]
        have hsh0 : (w.drew.alloc (.cells row e)).heap[w.heap.size]? = some (.cells row e) := by
          show (w.heap.push (Obj.cells row e))[w.heap.size]? = _
          simp
        have hsh : ((w.drew.alloc (.cells row e)).shape? w.heap.size) = some (e, row.size) := by simp only [World.shape?, hsh0]
        show (Result.andThen (Sem.run P (match (w.drew.alloc (.cells row e)).shape? w.heap.size with | some (_, n) => freeze { block := w.heap.size, off := n } 1 | _ => pure ()) (w.drew.alloc (.cells row e))) _) = _
        rw [hsh]
        simp [hrow]
        rfl
      simp [execOp, h, convert, run_u hs, run_u ht, hcx, run_u he, hsb]
    · simp only [World.freeze, Nat.one_ne_zero, if_false, World.alloc, World.drew]
      apply Array.ext_getElem?
      intro k
      simp only [Array.getElem?_modify, Array.getElem?_push]
      by_cases hk : w.heap.size = k
      · subst hk; simp
      · simp [hk, Ne.symm hk]
    · unfold World.freeze; rw [if_neg (by decide)]; rfl
    · unfold World.freeze; rw [if_neg (by decide)]; rfl
    · unfold World.freeze; rw [if_neg (by decide)]; rfl
    · intro k hk hh; simp only at hh; omega
    · simp [hrow]; have : b.data.size = b.size := rfl; omega
    · intro a v ha
      refine ⟨v, ?_, ?_⟩
      · simp only [row]
        have hlt : a < b.data.size := by
          have := (List.getElem?_eq_some_iff.1 ha).1
          simpa using this
        rw [Array.getElem?_append_left (by simpa using hlt)]
        simp only [List.getElem?_map, Array.getElem?_toList] at ha
        simpa using ha
      · simp only [List.getElem?_map] at ha
        cases hq : b.data.toList[a]? with
        | none => simp [hq] at ha
        | some u => simp [hq] at ha; subst ha; rfl
    · simp; omega
    · simp
    · simp
    · simp
  | makeMap t kt vt h ht =>
    refine ⟨.map (some w.heap.size), w.alloc (.map #[] 0), ⟨w.heap.size, 0, 0⟩, _, ?_, ⟨rfl, rfl, rfl, rfl, rfl, ⟨kt, vt, #[], 0, [], rfl, ht, ⟨rfl, fun p hp => by simp at hp⟩, True.intro⟩, rfl⟩, fun j' hj => ⟨_, hj, rfl⟩⟩
    simp [execOp, h, Instr.makeMap]

theorem new_sound {P : Program} {j : Emb} {ρ cρ : Operand → Value} {o : Oper} {m : Mem} {w : World} {X : Blk} {v : Value} (h : NewR P ρ o m.next X v) (hO : OpsR j ρ cρ o) (hR : Rel P j m w) :
    ∃ cv w' j', (execOp cρ o).run P w = .ok (.value cv) w' ∧ Post P j m w j' (m.push X) w' ∧ VR j' v cv := by
  obtain ⟨cv, w', e, ob, hr, hn, hv⟩ := new_run h hO w
  exact ⟨cv, w', j.up m.next e, hr, hR.push hn.heap hn.os hn.tape hn.output hn.blk hn.obj, hv _ (by simp [Emb.up])⟩

end Go.AM
