/- New blocks, and writes: how the relation to the world turns. -/
import Derived.Test.YtaoioacomnnhdaaAmRead
set_option linter.unusedSimpArgs false
set_option linter.unusedVariables false
namespace Go.AM

/-- The embedding with one block more. -/
def Emb.up (j : Emb) (n : Nat) (e : Emb1) : Emb := fun b => if b = n then some e else j b

theorem Rel.none_next {P : Program} {j : Emb} {m : Mem} {w : World} (h : Rel P j m w) : j m.next = none := by
  cases hj : j m.next with
  | none => rfl
  | some e => exact absurd (h.lt _ _ hj).1 (Nat.lt_irrefl _)

theorem Emb.up_le {j : Emb} {n : Nat} {e : Emb1} (hn : j n = none) : ∀ b x, j b = some x → j.up n e b = some x := by
  intro b x hb
  unfold Emb.up
  split
  · rename_i h; subst h; rw [hn] at hb; cases hb
  · exact hb

/-- A new block. -/
theorem Rel.push {P : Program} {j : Emb} {m : Mem} {w w' : World} (h : Rel P j m w) {X : Blk} {e : Emb1} {ob : Obj}
    (hw : w'.heap = w.heap.push ob) (hos : w'.os = w.os) (htp : w'.tape = w.tape) (hout : w'.output = w.output) (he : e.blk = w.heap.size)
    (hX : ObjR P j e (some ob) X) : Post P j m w (j.up m.next e) (m.push X) w' := by
  have hn := h.none_next
  have hle := Emb.up_le (e := e) hn
  have hold : ∀ c, c < w.heap.size → w'.heap[c]? = w.heap[c]? := fun c hc => by rw [hw, Array.getElem?_push, if_neg (by omega)]
  have hsize : w'.heap.size = w.heap.size + 1 := by rw [hw]; simp
  have hnew : w'.heap[w.heap.size]? = some ob := by rw [hw]; simp
  have hblk : ∀ b, b ≠ m.next → (m.push X).blk b = m.blk b := fun b hb => by simp [Mem.push, hb]
  have hself : (m.push X).blk m.next = X := by simp [Mem.push]
  have hup : ∀ b x, j.up m.next e b = some x → b ≠ m.next → j b = some x := fun b x hb hne => by simpa [Emb.up, hne] using hb
  refine ⟨⟨?_, ?_, ?_⟩, ⟨hos, htp, hout, by omega, fun c hc _ => hold c hc⟩, by simp [Mem.push], ?_, ?_, ?_, fun b hb hl' => by rw [hblk b (by omega)] at hl'; exact hl'⟩
  · intro b x hb
    by_cases hbn : b = m.next
    · subst hbn
      have : x = e := by simpa [Emb.up] using hb.symm
      subst this
      exact ⟨by simp [Mem.push], by omega⟩
    · have := h.lt b x (hup b x hb hbn)
      exact ⟨by simp only [Mem.push]; omega, by omega⟩
  · intro b x hb
    by_cases hbn : b = m.next
    · subst hbn
      have : x = e := by simpa [Emb.up] using hb.symm
      subst this
      rw [hself, he, hnew]
      exact hX.mono hle
    · have hjb := hup b x hb hbn
      rw [hblk b hbn, hold _ (h.lt b x hjb).2]
      exact (h.obj b x hjb).mono hle
  · intro b b' x x' hb hb' ho hl' hxx
    by_cases hbn : b = m.next
    · by_cases hbn' : b' = m.next
      · rw [hbn, hbn']
      · have hx : x = e := by subst hbn; simpa [Emb.up] using hb.symm
        have := (h.lt b' x' (hup b' x' hb' hbn')).2
        rw [← hxx, hx, he] at this
        omega
    · have hjb := hup b x hb hbn
      by_cases hbn' : b' = m.next
      · have hx : x' = e := by subst hbn'; simpa [Emb.up] using hb'.symm
        have := (h.lt b x hjb).2
        rw [hxx, hx, he] at this
        omega
      · rw [hblk b hbn] at ho
        rw [hblk b' hbn'] at hl'
        exact h.inj b b' x x' hjb (hup b' x' hb' hbn') ho hl' hxx
  · intro b hb
    simp [Emb.up, show b ≠ m.next by omega]
  · intro b x hb hge
    by_cases hbn : b = m.next
    · have hx : x = e := by subst hbn; simpa [Emb.up] using hb.symm
      exact .inl (by rw [hx, he]; exact Nat.le_refl _)
    · exact absurd (h.lt b x (hup b x hb hbn)).1 (Nat.not_lt.2 hge)
  · intro b hb ho
    rw [hblk b (by omega)] at ho
    exact ho

/-- A block is given up. -/
theorem Rel.kill {P : Program} {j : Emb} {m : Mem} {w : World} (h : Rel P j m w) (b : Nat) : Post P j m w j (m.put b .dead) w := by
  have hblk : ∀ c x, (m.put b .dead).blk c = x → (x ≠ .dead) → m.blk c = x := by
    intro c x hc hx
    simp only [Mem.put] at hc
    split at hc
    · exact absurd hc.symm hx
    · exact hc
  refine ⟨⟨h.lt, ?_, ?_⟩, Frm.refl j m w, Nat.le_refl _, fun _ _ => rfl, ?_, ?_, fun c hc hl' => by
    have e1 : m.blk c = (m.put b .dead).blk c := by
      refine hblk c _ rfl ?_
      intro hd; rw [hd] at hl'; cases hl'
    rw [e1]; exact hl'⟩
  · intro c x hc
    by_cases hd : (m.put b .dead).blk c = .dead
    · rw [hd]; trivial
    · rw [← hblk _ _ rfl hd]; exact h.obj c x hc
  · intro c c' x x' hc hc' ho hl hxx
    have e1 : m.blk c = (m.put b .dead).blk c := by
      refine hblk c _ rfl ?_
      intro hd; rw [hd] at ho; cases ho
    have e2 : m.blk c' = (m.put b .dead).blk c' := by
      refine hblk c' _ rfl ?_
      intro hd; rw [hd] at hl; cases hl
    exact h.inj c c' x x' hc hc' (by rw [e1]; exact ho) (by rw [e2]; exact hl) hxx
  · intro c e hc hn
    exact absurd (h.lt c e hc).1 (Nat.not_lt.2 hn)
  · intro c hc ho
    have e1 : m.blk c = (m.put b .dead).blk c := by
      refine hblk c _ rfl ?_
      intro hd; rw [hd] at ho; cases ho
    rw [e1]; exact ho

/-- The world with another row of cells in one block. -/
def reset (w : World) (c : Nat) (cs : Array Value) (t : TypeId) (fz : Nat × Nat) : World := { w with heap := w.heap.setIfInBounds c (.cells cs t fz) }

theorem reset_get {w : World} {c : Nat} {cs : Array Value} {t : TypeId} {fz : Nat × Nat} {x : Nat} (hx : x ≠ c) : (reset w c cs t fz).heap[x]? = w.heap[x]? := by
  simp only [reset]
  rw [Array.getElem?_setIfInBounds_ne (by omega)]
theorem reset_self {w : World} {c : Nat} {cs : Array Value} {t : TypeId} {fz : Nat × Nat} (hc : c < w.heap.size) : (reset w c cs t fz).heap[c]? = some (.cells cs t fz) := by
  simp [reset, hc]

/-- The world with another object at a place. -/
def setO (w : World) (c : Nat) (o : Obj) : World := { w with heap := w.heap.setIfInBounds c o }
theorem setO_get {w : World} {c : Nat} {o : Obj} {x : Nat} (hx : x ≠ c) : (setO w c o).heap[x]? = w.heap[x]? := by
  simp only [setO]
  rw [Array.getElem?_setIfInBounds_ne (by omega)]
theorem setO_self {w : World} {c : Nat} {o : Obj} (hc : c < w.heap.size) : (setO w c o).heap[c]? = some o := by
  simp [setO, hc]

/-- A block of the machine's own turns. -/
theorem Rel.turn {P : Program} {j : Emb} {m : Mem} {w : World} (h : Rel P j m w) {b : Nat} {e : Emb1} {X : Blk} {ob : Obj} (hj : j b = some e) (hobn : (m.blk b).isOwn = true) (hX : ObjR P j e (some ob) X) (hXo : X.isOwn = true) :
    Post P j m w j (m.put b X) (setO w e.blk ob) := by
  have hlt := (h.lt b e hj).2
  have hlv : (m.blk b).live = true := by cases hb : m.blk b <;> simp [hb, Blk.isOwn, Blk.live] at hobn ⊢
  have hne : ∀ c x, j c = some x → (m.blk c).live = true → c ≠ b → x.blk ≠ e.blk := fun c x hc hl hcb hxe => hcb (h.inj b c e x hj hc hobn hl hxe.symm).symm
  have hblk : ∀ c, c ≠ b → (m.put b X).blk c = m.blk c := fun c hc => by simp [Mem.put, hc]
  have hself : (m.put b X).blk b = X := by simp [Mem.put]
  have hsize : (setO w e.blk ob).heap.size = w.heap.size := by simp [setO]
  refine ⟨⟨?_, ?_, ?_⟩, ⟨rfl, rfl, rfl, by rw [hsize]; exact Nat.le_refl _, ?_⟩, Nat.le_refl _, fun _ _ => rfl, ?_, ?_, fun c hc hl' => by
    by_cases hcb : c = b
    · subst hcb; exact hlv
    · rw [hblk c hcb] at hl'; exact hl'⟩
  · intro c x hc
    have := h.lt c x hc
    exact ⟨this.1, by rw [hsize]; exact this.2⟩
  · intro c x hc
    by_cases hcb : c = b
    · subst hcb
      rw [hj] at hc; cases hc
      rw [hself, setO_self hlt]
      exact hX
    · rw [hblk c hcb]
      cases hl : (m.blk c).live with
      | false =>
        cases hb : m.blk c <;> simp [hb, Blk.live] at hl
        trivial
      | true =>
        rw [setO_get (hne c x hc hl hcb)]
        exact h.obj c x hc
  · intro c c' x x' hc hc' ho hl' hxx
    have e1 : (m.blk c).isOwn = true := by
      by_cases hcb : c = b
      · subst hcb; exact hobn
      · rw [hblk c hcb] at ho; exact ho
    have e2 : (m.blk c').live = true := by
      by_cases hcb : c' = b
      · subst hcb; exact hlv
      · rw [hblk c' hcb] at hl'; exact hl'
    exact h.inj c c' x x' hc hc' e1 e2 hxx
  · intro c hc hn
    exact setO_get (Ne.symm (hn b e hj hobn))
  · intro c x hc hge
    exact absurd (h.lt c x hc).1 (Nat.not_lt.2 hge)
  · intro c hc ho
    by_cases hcb : c = b
    · subst hcb; exact hobn
    · rw [hblk c hcb] at ho; exact ho

/-- A block of the machine's own is written. -/
theorem Rel.write {P : Program} {j : Emb} {m : Mem} {w : World} (h : Rel P j m w) {b : Nat} {e : Emb1} {L L' : List Value} {t : TypeId} {cs cs' : Array Value} {fz : Nat × Nat} (hj : j b = some e) (hb : m.blk b = .own L t)
    (hw : w.heap[e.blk]? = some (.cells cs t fz)) (hs : cs'.size = cs.size) (hl : L'.length ≤ cs'.size) (hv : ∀ (i : Nat) (v : Value), L'[i]? = some v → ∃ cv, cs'[i]? = some cv ∧ VR0 j v cv) :
    Post P j m w j (m.put b (.own L' t)) (reset w e.blk cs' t fz) := by
  obtain ⟨cs0, fz0, g1, g2, g3, g4, g5, g6⟩ := h.own b e L t hj hb
  have hcs : cs0 = cs ∧ fz0 = fz := by rw [hw] at g1; simp at g1; exact ⟨g1.1.symm, g1.2.symm⟩
  obtain ⟨rfl, rfl⟩ := hcs
  exact h.turn hj (by rw [hb]; rfl) ⟨cs', fz0, rfl, by rw [hs]; exact g2, g3, by rw [hs]; exact g4, hl, hv⟩ rfl

/-- A block of the machine's own is written, and goes on under a new number. -/
theorem Rel.reuse {P : Program} {j : Emb} {m : Mem} {w : World} (h : Rel P j m w) {b : Nat} {e : Emb1} {L L' : List Value} {t : TypeId} {cs cs' : Array Value} {fz : Nat × Nat} (hj : j b = some e) (hb : m.blk b = .own L t)
    (hw : w.heap[e.blk]? = some (.cells cs t fz)) (hs : cs'.size = cs.size) (hl : L'.length ≤ cs'.size) (hv : ∀ (i : Nat) (v : Value), L'[i]? = some v → ∃ cv, cs'[i]? = some cv ∧ VR0 j v cv) :
    Post P j m w (j.up m.next e) ((m.put b .dead).push (.own L' t)) (reset w e.blk cs' t fz) := by
  have hlt := (h.lt b e hj).2
  have hn := h.none_next
  have hle := Emb.up_le (e := e) hn
  have hobn : (m.blk b).isOwn = true := by rw [hb]; rfl
  have hne : ∀ c x, j c = some x → (m.blk c).live = true → c ≠ b → x.blk ≠ e.blk := fun c x hc hl hcb hxe => hcb (h.inj b c e x hj hc hobn hl hxe.symm).symm
  have hbn : b < m.next := (h.lt b e hj).1
  have hnext : (m.put b .dead).next = m.next := rfl
  have hblk : ∀ c, c ≠ b → c ≠ m.next → ((m.put b .dead).push (.own L' t)).blk c = m.blk c := fun c hc hc' => by simp [Mem.put, Mem.push, hc, hc']
  have hdead : ((m.put b .dead).push (.own L' t)).blk b = .dead := by simp [Mem.put, Mem.push, show b ≠ m.next by omega]
  have hnewb : ((m.put b .dead).push (.own L' t)).blk m.next = .own L' t := by simp [Mem.put, Mem.push]
  have hup : ∀ b x, j.up m.next e b = some x → b ≠ m.next → j b = some x := fun b x hb hne => by simpa [Emb.up, hne] using hb
  obtain ⟨cs0, fz0, g1, g2, g3, g4, g5, g6⟩ := h.own b e L t hj hb
  have hcs : cs0 = cs ∧ fz0 = fz := by rw [hw] at g1; simp at g1; exact ⟨g1.1.symm, g1.2.symm⟩
  obtain ⟨rfl, rfl⟩ := hcs
  have hsize : (reset w e.blk cs' t fz0).heap.size = w.heap.size := by simp [reset]
  refine ⟨⟨?_, ?_, ?_⟩, ⟨rfl, rfl, rfl, by rw [hsize]; exact Nat.le_refl _, ?_⟩, by simp [Mem.push, hnext], ?_, ?_, ?_, fun c hc hl' => by
    by_cases hcb : c = b
    · subst hcb; rw [hb]; rfl
    · rw [hblk c hcb (by omega)] at hl'; exact hl'⟩
  · intro c x hc
    by_cases hcn : c = m.next
    · subst hcn
      have : x = e := by simpa [Emb.up] using hc.symm
      subst this
      exact ⟨by simp [Mem.push, hnext], by rw [hsize]; exact hlt⟩
    · have := h.lt c x (hup c x hc hcn)
      exact ⟨by simp only [Mem.push, hnext]; omega, by rw [hsize]; exact this.2⟩
  · intro c x hc
    by_cases hcn : c = m.next
    · subst hcn
      have hx : x = e := by simpa [Emb.up] using hc.symm
      subst hx
      rw [hnewb, reset_self hlt]
      refine ⟨cs', fz0, rfl, by rw [hs]; exact g2, g3, by rw [hs]; exact g4, hl, fun i v hi => ?_⟩
      obtain ⟨cv, q1, q2⟩ := hv i v hi
      exact ⟨cv, q1, q2.mono hle⟩
    · by_cases hcb : c = b
      · subst hcb; rw [hdead]; trivial
      · have hjc := hup c x hc hcn
        rw [hblk c hcb hcn]
        cases hlv : (m.blk c).live with
        | false =>
          cases hbb : m.blk c <;> simp [hbb, Blk.live] at hlv
          trivial
        | true =>
          rw [reset_get (hne c x hjc hlv hcb)]
          exact (h.obj c x hjc).mono hle
  · intro c c' x x' hc hc' ho hl' hxx
    have hcb : c ≠ b := by intro hh; subst hh; rw [hdead] at ho; cases ho
    have hcb' : c' ≠ b := by intro hh; subst hh; rw [hdead] at hl'; cases hl'
    by_cases hcn : c = m.next
    · by_cases hcn' : c' = m.next
      · rw [hcn, hcn']
      · have hx : x = e := by subst hcn; simpa [Emb.up] using hc.symm
        rw [hblk c' hcb' hcn'] at hl'
        exact absurd (by rw [← hxx, hx]) (hne c' x' (hup c' x' hc' hcn') hl' hcb')
    · rw [hblk c hcb hcn] at ho
      have hjc := hup c x hc hcn
      by_cases hcn' : c' = m.next
      · have hx : x' = e := by subst hcn'; simpa [Emb.up] using hc'.symm
        have hlv : (m.blk c).live = true := by cases hm : m.blk c <;> simp [hm, Blk.isOwn, Blk.live] at *
        exact absurd (by rw [hxx, hx]) (hne c x hjc hlv hcb)
      · rw [hblk c' hcb' hcn'] at hl'
        exact h.inj c c' x x' hjc (hup c' x' hc' hcn') ho hl' hxx
  · intro c hc hn'
    exact reset_get (Ne.symm (hn' b e hj hobn))
  · intro c hc
    simp [Emb.up, show c ≠ m.next by omega]
  · intro c x hc hge
    by_cases hcn : c = m.next
    · have hx : x = e := by subst hcn; simpa [Emb.up] using hc.symm
      exact .inr ⟨b, e, hj, hobn, by rw [hx]⟩
    · exact absurd (h.lt c x (hup c x hc hcn)).1 (Nat.not_lt.2 hge)
  · intro c hc ho
    by_cases hcb : c = b
    · subst hcb; exact hobn
    · rw [hblk c hcb (by omega)] at ho; exact ho

end Go.AM
