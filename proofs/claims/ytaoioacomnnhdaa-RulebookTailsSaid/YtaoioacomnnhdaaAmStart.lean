/- The data that a law is given, as the abstract machine finds it. -/
import Derived.Test.YtaoioacomnnhdaaAmEq
import Derived.Below
import Derived.Deep.Slices
set_option linter.unusedVariables false
set_option linter.unusedSimpArgs false
namespace Go.AM

theorem mem0_dead (w : World) : ∀ b, (mem0 w).next ≤ b → (mem0 w).blk b = .dead := (mem0_wf w).dead
theorem mem0_fz (w : World) : Fz (mem0 w).blk (mem0 w) := fun b hb => ⟨rfl, by
  by_cases h : b < (mem0 w).next
  · exact h
  · exact absurd (mem0_dead w b (by omega)) hb⟩
theorem mem0_live {w : World} {b : Nat} (h : b < w.heap.size) : (mem0 w).blk b ≠ .dead := by
  simp [mem0, h]
theorem ldz0 {w : World} {b o : Nat} {v : Value} (h : (mem0 w).load b o = some v) : ldz (mem0 w).blk b o = some v := by
  unfold Mem.load at h
  unfold ldz
  exact h

open Classical in
/-- A cell of block 'b', as the machine sees it. -/
noncomputable def seen (w : World) (b : Nat) (c : Value) : Value := if VR0 (emb0 w) c c then c else (seen0 b c).getD c

theorem seen_self {w : World} {b : Nat} {c : Value} (h : VR0 (emb0 w) c c) : seen w b c = c := by simp [seen, h]

/-- A cell that the machine can see. -/
def okc (w : World) (c : Value) : Prop := VR0 (emb0 w) c c ∨ ∃ a, c = .slice (some a) 0 0

theorem okc_flat {w : World} {c : Value} (h : flat0 c = true) : okc w c := .inl (flat0_self h)
theorem seen_flat {w : World} {b : Nat} {c : Value} (h : flat0 c = true) : seen w b c = c := seen_self (flat0_self h)

theorem okc_seen {w : World} {b : Nat} {c : Value} (h : okc w c) (hb : b < w.heap.size) : VR0 (emb0 w) (seen w b c) c := by
  by_cases hv : VR0 (emb0 w) c c
  · rw [seen_self hv]; exact hv
  · rcases h with h | ⟨a, rfl⟩
    · exact absurd h hv
    · simp only [seen, hv, if_false, seen0, Option.getD_some]
      exact ⟨⟨b, 0, 0⟩, rfl, by simp [emb0, hb], .inr (.inr (.inr ⟨rfl, rfl, a, rfl⟩))⟩

theorem okc_load {w : World} {b o : Nat} {c : Value} (h : okc w c) (hc : w.cell? ⟨b, o, none⟩ = some c) : (mem0 w).load b o = some (seen w b c) := by
  have hlt : b < w.heap.size := World.block_lt_of_cell? w ⟨b, o, none⟩ hc
  by_cases hv : VR0 (emb0 w) c c
  · rw [seen_self hv]; exact mem0_load hc hv
  · rcases h with h | ⟨a, rfl⟩
    · exact absurd h hv
    · simp [Mem.load, mem0, hlt, hc, hv, seen0, seen]

theorem cell_spot {w : World} {a : Addr} {v : Value} (h : w.cell? a = some v) : a.spot = none ∧ a.block < w.heap.size := by
  refine ⟨?_, World.block_lt_of_cell? w a h⟩
  simp only [World.cell?] at h
  split at h
  · split at h
    · cases h
    · rename_i hs; simpa using hs
  · cases h

/-- Data of a type that came in can be read as the model says. -/
structure Opn (P : Program) {α : Type} (T : Ty α) (G : α → Prop) : Prop where
  sz : P.cellsOf T.tid = T.sz
  pos : 0 < T.sz
  rd : ∀ {H : Type} {enc : TypeId × Value → H} {w : World} {fuel : Nat} {cs : List Value} {x : DataW H × List MemPlace}, DataW.trod enc P w 0 (fun _ => true) true fuel T.tid cs = some x →
    (∀ c ∈ cs, okc w c) ∧ ∀ b, (b < w.heap.size ∨ ∀ c ∈ cs, VR0 (emb0 w) c c) → ∃ a, T.rd (mem0 w).blk a (cs.map (seen w b)) ∧ G a

/-- What is known of data that came in. -/
def gInt (k : IntKind) (n : Int) : Prop := k.min ≤ n ∧ n ≤ k.max
def gStr (s : List UInt8) : Prop := s.length ≤ maxLen
def gAny {α : Type} (_ : α) : Prop := True
def gSl {α : Type} (G : α → Prop) (xs : List α) : Prop := xs.length ≤ maxLen ∧ ∀ x ∈ xs, G x

theorem opn_int {P : Program} {t : TypeId} {k : IntKind} {i : TypeInfo} (ht : P.underlying t = some (.int k)) (hi : P.info? t = some i) (hs : i.size = 1) : Opn P (TInt t k) (gInt k) where
  sz := by simp [TInt, Ty.flat, Program.cellsOf, hi, hs]
  pos := by simp [TInt, Ty.flat]
  rd := fun h => by
    obtain ⟨n, rfl, _, hw⟩ := DataW.trod_int ht h
    exact ⟨fun c hc => by simp at hc; subst hc; exact okc_flat rfl, fun b _ => ⟨n, by simp [TInt, Ty.flat, seen_flat (w := _) (b := b) (c := .int k n) rfl], by simpa [Lit.wf, gInt] using hw⟩⟩
theorem opn_u8 {P : Program} {t : TypeId} {i : TypeInfo} (ht : P.underlying t = some (.int .u8)) (hi : P.info? t = some i) (hs : i.size = 1) : Opn P (TU8 t) gAny where
  sz := by simp [TU8, Ty.flat, Program.cellsOf, hi, hs]
  pos := by simp [TU8, Ty.flat]
  rd := fun h => by
    obtain ⟨n, rfl, _, hw⟩ := DataW.trod_int ht h
    refine ⟨fun c hc => by simp at hc; subst hc; exact okc_flat rfl, fun b _ => ⟨UInt8.ofNat n.toNat, ?_, trivial⟩⟩
    simp [Lit.wf, IntKind.min, IntKind.max, IntKind.signed, IntKind.bits] at hw
    have : ((UInt8.ofNat n.toNat).toNat : Int) = n := by simp; omega
    show [Value.int .u8 n].map (seen _ b) = [Value.int .u8 ((UInt8.ofNat n.toNat).toNat : Int)]
    rw [this]
    simp [seen_flat (w := _) (b := b) (c := .int .u8 n) rfl]
theorem opn_bool {P : Program} {t : TypeId} {i : TypeInfo} (ht : P.underlying t = some .bool) (hi : P.info? t = some i) (hs : i.size = 1) : Opn P (TBool t) gAny where
  sz := by simp [TBool, Ty.flat, Program.cellsOf, hi, hs]
  pos := by simp [TBool, Ty.flat]
  rd := fun h => by
    obtain ⟨n, rfl, _⟩ := DataW.trod_bool ht h
    exact ⟨fun c hc => by simp at hc; subst hc; exact okc_flat rfl, fun b _ => ⟨n, by simp [TBool, Ty.flat, seen_flat (w := _) (b := b) (c := .bool n) rfl], trivial⟩⟩
theorem opn_str {P : Program} {t : TypeId} {i : TypeInfo} (ht : P.underlying t = some .string) (hi : P.info? t = some i) (hs : i.size = 1) : Opn P (TStr t) gStr where
  sz := by simp [TStr, Ty.flat, Program.cellsOf, hi, hs]
  pos := by simp [TStr, Ty.flat]
  rd := fun h => by
    obtain ⟨n, rfl, _, hs⟩ := DataW.trod_string ht h
    exact ⟨fun c hc => by simp at hc; subst hc; exact okc_flat rfl, fun b _ => ⟨n.data.toList, by simp [TStr, Ty.flat, str, seen_flat (w := _) (b := b) (c := .string n) rfl], by simpa [gStr] using hs⟩⟩

/-- A slice that came in, in one cell. -/
theorem opn_slr {P : Program} {α : Type} {T : Ty α} {G : α → Prop} {t : TypeId} (hT : Opn P T G) (ht : P.underlying t = some (.slice T.tid)) {H : Type} {enc : TypeId × Value → H} {w : World} {fuel : Nat} {cs : List Value} {x : DataW H × List MemPlace}
    (h : DataW.trod enc P w 0 (fun _ => true) true fuel t cs = some x) : ∃ c, cs = [c] ∧ okc w c ∧ ∀ b, (b < w.heap.size ∨ VR0 (emb0 w) c c) → ∃ xs, SlR T (mem0 w).blk xs (seen w b c) ∧ gSl G xs := by
  rcases Deep.open_slice ht h with ⟨rfl, _⟩ | ⟨a, len, cap, m, n, D, Pl, rfl, _, hl, hm, hmm, _, hx⟩
  · exact ⟨_, rfl, okc_flat rfl, fun b _ => ⟨[], by rw [seen_flat rfl]; exact .nil, by simp [gSl]⟩⟩
  · simp only [if_true] at hmm
    subst hmm
    refine ⟨_, rfl, ?_⟩
    rcases Nat.eq_zero_or_pos m with h0 | hpos
    · subst h0
      have hl0 : len = 0 := by omega
      subst hl0
      refine ⟨.inr ⟨a, rfl⟩, fun b hb => ⟨[], ?_, by simp [gSl]⟩⟩
      by_cases hv : VR0 (emb0 w) (.slice (some a) 0 0) (.slice (some a) 0 0)
      · rw [seen_self hv]
        obtain ⟨e, h1, h2, _⟩ := hv
        obtain ⟨blk, off, spot⟩ := a
        simp only at h1 h2
        subst h1
        exact .inr ⟨blk, off, 0, rfl, mem0_live (emb0_lt h2).1, .inr ⟨by simp [BIG], Nat.le_refl _⟩, fun i x hi => by simp at hi⟩
      · have hb : b < w.heap.size := by
          rcases hb with hb | hb
          · exact hb
          · exact absurd hb hv
        simp only [seen, hv, if_false, seen0, Option.getD_some]
        exact .inr ⟨b, 0, 0, rfl, mem0_live hb, .inr ⟨by simp [BIG], Nat.le_refl _⟩, fun i x hi => by simp at hi⟩
    · have hs := hT.sz
      have hp := hT.pos
      obtain ⟨cs0, g1, _⟩ := hx 0 hpos
      obtain ⟨_, g2, g3⟩ := World.cells?_some g1
      rw [hs] at g2 g3
      have g4 := g3 0 hp
      obtain ⟨v0, hv0⟩ : ∃ v, cs0[0]? = some v := ⟨cs0[0]'(by omega), by simp [show 0 < cs0.length by omega]⟩
      rw [hv0] at g4
      simp only [Nat.zero_mul] at g4
      have hadd : (a.add 0).add 0 = a := by simp [Addr.add]
      rw [hadd] at g4
      obtain ⟨hsp, hblk⟩ := cell_spot g4
      obtain ⟨blk, off, spot⟩ := a
      simp only at hsp hblk
      subst hsp
      have hv : VR0 (emb0 w) (.slice (some ⟨blk, off, none⟩) len m) (.slice (some ⟨blk, off, none⟩) len m) :=
        ⟨⟨blk, 0, 0⟩, rfl, by simp [emb0, hblk], .inl ⟨by simp only [maxLen] at hm; simp only [BIG]; omega, rfl⟩⟩
      refine ⟨.inl hv, fun b _ => ?_⟩
      rw [seen_self hv]
      have hel : ∀ i, i < len → ∃ y : α, G y ∧ ∃ ds, T.rd (mem0 w).blk y ds ∧ cellsAt (mem0 w).blk blk (off + i * T.sz) ds := by
        intro i hi
        obtain ⟨ci, k1, k2⟩ := hx i (by omega)
        obtain ⟨_, k3, k4⟩ := World.cells?_some k1
        rw [hs] at k3 k4
        obtain ⟨hok, hrd⟩ := hT.rd k2
        obtain ⟨y, hy, hG⟩ := hrd blk (.inl hblk)
        refine ⟨y, hG, _, hy, fun j u hj => ?_⟩
        rw [List.getElem?_map] at hj
        cases hc : ci[j]? with
        | none => rw [hc] at hj; cases hj
        | some c =>
          rw [hc] at hj
          simp at hj
          subst hj
          have hjl := (List.getElem?_eq_some_iff.1 hc).1
          have k5 := k4 j (by omega)
          rw [hc, add_none, add_none] at k5
          exact ldz0 (okc_load (hok c (List.mem_of_getElem? hc)) k5)
      have : ∃ xs : List α, xs.length = len ∧ (∀ y ∈ xs, G y) ∧ ∀ (i : Nat) (y : α), xs[i]? = some y → ∃ ds, T.rd (mem0 w).blk y ds ∧ cellsAt (mem0 w).blk blk (off + i * T.sz) ds := by
        clear hx hl hm hv g1 hpos
        revert hel
        generalize len = l
        induction l with
        | zero => intro _; exact ⟨[], rfl, fun y hy => by simp at hy, fun i y hi => by simp at hi⟩
        | succ l ih =>
          intro hel
          obtain ⟨xs, e1, e0, e2⟩ := ih fun i hi => hel i (by omega)
          obtain ⟨y, hG, hy⟩ := hel l (by omega)
          refine ⟨xs ++ [y], by simp [e1], fun u hu => by rcases List.mem_append.1 hu with hu | hu; exact e0 u hu; simp at hu; subst hu; exact hG, fun i u hi => ?_⟩
          by_cases hil : i < l
          · rw [List.getElem?_append_left (by omega)] at hi
            exact e2 i u hi
          · have hlt := (List.getElem?_eq_some_iff.1 hi).1
            simp at hlt
            have : i = l := by omega
            subst this
            rw [List.getElem?_append_right (by omega)] at hi
            simp [e1] at hi
            subst hi
            exact hy
      obtain ⟨xs, e1, e0, e2⟩ := this
      refine ⟨xs, .inr ⟨blk, off, m, by rw [e1], mem0_live hblk, .inr ⟨by simp only [maxLen] at hm; simp only [BIG]; omega, by rw [e1]; exact hl⟩, e2⟩, by omega, e0⟩

theorem opn_sl {P : Program} {α : Type} {T : Ty α} {G : α → Prop} {t : TypeId} {i : TypeInfo} (hT : Opn P T G) (ht : P.underlying t = some (.slice T.tid)) (hi : P.info? t = some i) (hs : i.size = 1) : Opn P (TSl t T) (gSl G) where
  sz := by simp [TSl, Program.cellsOf, hi, hs]
  pos := by simp [TSl]
  rd := fun h => by
    obtain ⟨c, rfl, h1, h2⟩ := opn_slr hT ht h
    refine ⟨fun d hd => by simp at hd; subst hd; exact h1, fun b hb => ?_⟩
    obtain ⟨xs, hx, hG⟩ := h2 b (hb.imp id fun h => h c (by simp))
    exact ⟨xs, ⟨_, rfl, hx⟩, hG⟩

/-- A law's argument that is a slice: the value itself is seen as it is. -/
theorem arg_slr {P : Program} {α : Type} {T : Ty α} {G : α → Prop} {t : TypeId} (hT : Opn P T G) (ht : P.underlying t = some (.slice T.tid)) {H : Type} {enc : TypeId × Value → H} {w : World} {base : Nat} {v : Value} {d : DataW H} {ps : List MemPlace}
    (hok : Value.okWide P w .any base t v) (h : DataW.Trod enc P w 0 (fun _ => true) true t v d ps) : VR (emb0 w) v v ∧ ∃ xs, SlR T (mem0 w).blk xs v ∧ gSl G xs := by
  obtain ⟨fuel, hf⟩ := h
  obtain ⟨c, hc, h1, h2⟩ := opn_slr hT ht hf
  have hv : VR0 (emb0 w) v v ∧ c = v := by
    simp only [Value.okWide, ht, Cell.okWide, Cell.ok] at hok
    cases v with
    | slice a l cp =>
      have hcv : c = .slice a l cp := by simpa [Value.cells] using hc.symm
      refine ⟨?_, hcv⟩
      cases a with
      | none => exact rfl
      | some a =>
        simp only at hok
        obtain ⟨hl, hm, hh⟩ := hok
        obtain ⟨_, hs, row, cells, hsh, _⟩ := hh
        have hlt : a.block < w.heap.size := by
          by_cases hb : a.block < w.heap.size
          · exact hb
          · simp [World.shape?, Array.getElem?_eq_none (Nat.le_of_not_lt hb)] at hsh
        obtain ⟨blk, off, spot⟩ := a
        simp only at hs hlt
        subst hs
        refine ⟨⟨blk, 0, 0⟩, rfl, by simp [emb0, hlt], .inl ⟨?_, rfl⟩⟩
        simp only [IntKind.max, IntKind.signed, IntKind.bits] at hm
        simp only [BIG]
        simp at hm
        omega
    | _ => simp at hok
  obtain ⟨hv, rfl⟩ := hv
  refine ⟨VR.of0 hv, ?_⟩
  obtain ⟨xs, hx⟩ := h2 0 (.inr hv)
  rw [seen_self hv] at hx
  exact ⟨xs, hx⟩

theorem cell_vr {P : Program} {w : World} {base : Nat} {u : TypeId} {c : Value} (h : Cell.okWide P w .any base u c) (hc : okc w c) : VR0 (emb0 w) c c := by
  rcases hc with hc | ⟨a, rfl⟩
  · exact hc
  · cases hu : P.underlying u with
    | none => simp [Cell.okWide, Cell.ok, hu] at h
    | some d =>
      cases d <;> simp only [Cell.okWide, Cell.ok, hu] at h
      obtain ⟨_, _, _, hs, row, cells, hsh, _⟩ := h
      have hlt : a.block < w.heap.size := by
        by_cases hb : a.block < w.heap.size
        · exact hb
        · simp [World.shape?, Array.getElem?_eq_none (Nat.le_of_not_lt hb)] at hsh
      obtain ⟨blk, off, spot⟩ := a
      simp only at hs hlt
      subst hs
      exact ⟨⟨blk, 0, 0⟩, rfl, by simp [emb0, hlt], .inl ⟨by simp [BIG], rfl⟩⟩

/-- A law's argument that is a struct. -/
theorem arg_agg {P : Program} {α : Type} {T : Ty α} {G : α → Prop} {fs : Array Field} (hT : Opn P T G) (ht : P.underlying T.tid = some (.struct fs)) {H : Type} {enc : TypeId × Value → H} {w : World} {base : Nat} {v : Value} {d : DataW H} {ps : List MemPlace}
    (hok : Value.okWide P w .any base T.tid v) (h : DataW.Trod enc P w 0 (fun _ => true) true T.tid v d ps) : VR (emb0 w) v v ∧ ∃ x cs, v = .agg cs.toArray ∧ T.rd (mem0 w).blk x cs ∧ G x := by
  obtain ⟨fuel, hf⟩ := h
  simp only [Value.okWide, ht] at hok
  obtain ⟨cs, rfl, hsz, ts, hts, _, hcell⟩ := hok
  have hf' : DataW.trod enc P w 0 (fun _ => true) true fuel T.tid cs.toList = some (d, ps) := by simpa [Value.cells] using hf
  obtain ⟨h1, h2⟩ := hT.rd hf'
  have hall : ∀ c ∈ cs.toList, VR0 (emb0 w) c c := by
    intro c hc
    obtain ⟨i, hi⟩ := List.getElem?_of_mem hc
    obtain ⟨u, _, hu⟩ := hcell i c (by simpa using hi)
    exact cell_vr hu (h1 c hc)
  obtain ⟨x, hx, hG⟩ := h2 0 (.inr hall)
  have hmap : cs.toList.map (seen w 0) = cs.toList := by
    have : ∀ l : List Value, (∀ c ∈ l, VR0 (emb0 w) c c) → l.map (seen w 0) = l := by
      intro l
      induction l with
      | nil => intro _; rfl
      | cons c l ih => intro hl; rw [List.map_cons, seen_self (hl c (by simp)), ih fun d hd => hl d (by simp [hd])]
    exact this _ hall
  rw [hmap] at hx
  refine ⟨⟨cs, rfl, ?_⟩, x, cs.toList, by simp, hx, hG⟩
  have : ∀ l : List Value, (∀ c ∈ l, VR0 (emb0 w) c c) → L2 (VR0 (emb0 w)) l l := by
    intro l
    induction l with
    | nil => intro _; exact True.intro
    | cons c l ih => intro hl; exact ⟨hl c (by simp), ih fun d hd => hl d (by simp [hd])⟩
  exact this _ hall

/-- A field of a struct that came in. -/
theorem fld {P : Program} {H : Type} {enc : TypeId × Value → H} {w : World} {n : Nat} {fs : Array Field} {cs : List Value} {xs : List (DataW H × List MemPlace)} (hlen : xs.length = fs.size)
    (hf : ∀ (i : Nat) (f : Field), fs[i]? = some f → DataW.trod enc P w 0 (fun _ => true) true n f.type ((cs.drop f.offset).take (P.cellsOf f.type)) = xs[i]?) (i : Nat) {f : Field} (hi : fs[i]? = some f) :
    ∃ y, DataW.trod enc P w 0 (fun _ => true) true n f.type ((cs.drop f.offset).take (P.cellsOf f.type)) = some y := by
  have hlt := (Array.getElem?_eq_some_iff.1 hi).1
  rw [hf i f hi]
  exact ⟨xs[i]'(by omega), by simp [show i < xs.length by omega]⟩

/-- How long an argument can be: the weights that the frame hands on. -/
theorem arg_len {P : Program} {α : Type} {T : Ty α} {t e : TypeId} (ht : P.underlying t = some (.slice e)) {H : Type} {enc : TypeId × Value → H} {w : World} {v : Value} {d : DataW H} {ps : List MemPlace} {z : Nat → Blk} {xs : List α}
    (h : DataW.Trod enc P w 0 (fun _ => true) true t v d ps) (hs : SlR T z xs v) : xs.length = 0 ∨ ∃ elems spare, d = .slice elems spare ∧ elems.length = xs.length := by
  obtain ⟨fuel, hf⟩ := h
  rcases hs with ⟨rfl, rfl⟩ | ⟨b, off, c, rfl, _⟩
  · exact .inl rfl
  · rcases Deep.open_slice ht hf with ⟨h0, _⟩ | ⟨a, len, cap, m, n, D, Pl, hc, _, _, _, _, hx, _⟩
    · simp [Value.cells] at h0
    · simp only [Value.cells, List.cons.injEq, Value.slice.injEq, and_true] at hc
      obtain ⟨_, h1, _⟩ := hc
      injection hx with hx _
      exact .inr ⟨_, _, hx, by simp [← h1]⟩
end Go.AM
