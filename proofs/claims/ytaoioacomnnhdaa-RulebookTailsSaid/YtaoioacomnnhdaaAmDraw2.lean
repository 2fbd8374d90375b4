/- A region whose order is open: how the relation to the world turns. -/
import Derived.Test.YtaoioacomnnhdaaAmDraw
set_option linter.unusedSimpArgs false
set_option linter.unusedVariables false
namespace Go.AM

/-- A new block at a number that is free. -/
theorem Rel.place {P : Program} {j : Emb} {M : Mem} {w w' : World} {b0 : Nat} {X : Blk} {e : Emb1} {ob : Obj} (h : Rel P j M w) (hn : j b0 = none) (hb : b0 < M.next) (N : NewOk P j w w' X e ob) :
    Rel P (j.up b0 e) (M.put b0 X) w' := by
  have hle := Emb.up_le (e := e) hn
  have hold : ∀ c, c < w.heap.size → w'.heap[c]? = w.heap[c]? := fun c hc => by rw [N.heap, Array.getElem?_push, if_neg (by omega)]
  have hsize : w'.heap.size = w.heap.size + 1 := by rw [N.heap]; simp
  have hnew : w'.heap[w.heap.size]? = some ob := by rw [N.heap]; simp
  have hblk : ∀ b, b ≠ b0 → (M.put b0 X).blk b = M.blk b := fun b hb => by simp [Mem.put, hb]
  have hput : (M.put b0 X).blk b0 = X := by simp [Mem.put]
  have hup : ∀ b x, j.up b0 e b = some x → b ≠ b0 → j b = some x := fun b x hb hne => by simpa [Emb.up, hne] using hb
  have hself : ∀ x, j.up b0 e b0 = some x → x = e := fun x hx => by simpa [Emb.up] using hx.symm
  refine ⟨?_, ?_, ?_⟩
  · intro b x hb'
    by_cases hbn : b = b0
    · subst hbn
      have := hself x hb'
      subst this
      exact ⟨hb, by rw [N.blk]; omega⟩
    · have := h.lt b x (hup b x hb' hbn)
      exact ⟨this.1, by omega⟩
  · intro b x hb'
    by_cases hbn : b = b0
    · subst hbn
      have hx := hself x hb'
      subst hx
      rw [hput, N.blk, hnew]
      exact N.obj.mono hle
    · have hjb := hup b x hb' hbn
      rw [hblk b hbn, hold _ (h.lt b x hjb).2]
      exact (h.obj b x hjb).mono hle
  · intro b b' x x' hb1 hb1' ho hl' hxx
    by_cases hbn : b = b0
    · by_cases hbn' : b' = b0
      · rw [hbn, hbn']
      · have hx : x = e := by subst hbn; exact hself x hb1
        have := (h.lt b' x' (hup b' x' hb1' hbn')).2
        rw [← hxx, hx, N.blk] at this
        omega
    · have hjb := hup b x hb1 hbn
      by_cases hbn' : b' = b0
      · have hx : x' = e := by subst hbn'; exact hself x' hb1'
        have := (h.lt b x hjb).2
        rw [hxx, hx, N.blk] at this
        omega
      · rw [hblk b hbn] at ho
        rw [hblk b' hbn'] at hl'
        exact h.inj b b' x x' hjb (hup b' x' hb1' hbn') ho hl' hxx

theorem cellV_below {P : Program} {j : Emb} {n : Nat} {vt : TypeId} {cs : List Value} {cv : Value} (h : VR1 j (cellV (tyAgg P vt) cs) cv) (hl : ∀ c ∈ cs, low0 n c) : VR1 (j.below n) (cellV (tyAgg P vt) cs) cv := by
  refine VR_below.2.1 h ?_
  cases ha : tyAgg P vt with
  | true => simpa [cellV, low1] using hl
  | false =>
    cases cs with
    | nil => rw [ha] at h; exact absurd h (by simp [cellV, VR1, VR0, undef])
    | cons c cs => exact low1_of0 (hl c (by simp))

theorem ObjR.below {P : Program} {j : Emb} {n : Nat} {e : Emb1} {o : Option Obj} {x : Blk} (h : ObjR P j e o x) (hl : lowB n x) : ObjR P (j.below n) e o x := by
  cases x with
  | dead => trivial
  | ro rd =>
    intro i v hi
    obtain ⟨cs, t, fz, cv, h1, h2, h3⟩ := h i v hi
    exact ⟨cs, t, fz, cv, h1, h2, VR_below.1 h3 (hl i v hi)⟩
  | own L t =>
    obtain ⟨cs, fz, h1, h2, h3, h4, h5, h6⟩ := h
    refine ⟨cs, fz, h1, h2, h3, h4, h5, fun i v hi => ?_⟩
    obtain ⟨cv, g1, g2⟩ := h6 i v hi
    exact ⟨cv, g1, VR_below.1 g2 (hl v (List.mem_of_getElem? hi))⟩
  | map L u =>
    obtain ⟨kt, vt, cs, clock, E, h1, h2, h3, h4⟩ := h
    have hE : ∀ p ∈ E, ∀ c ∈ p.2, low0 n c := fun p hp c hc => hl c (by rw [h3.eq]; exact List.mem_flatMap.2 ⟨p, hp, by simp [hc]⟩)
    refine ⟨kt, vt, cs, clock, E, h1, h2, h3, ?_⟩
    clear h1 h3 hl
    generalize cs.toList = cl at h4
    induction E generalizing cl with
    | nil => cases cl with
      | nil => trivial
      | cons _ _ => exact h4.elim
    | cons p E ih =>
      cases cl with
      | nil => exact h4.elim
      | cons x cl => exact ⟨⟨h4.1.1, h4.1.2.1, cellV_below h4.1.2.2 (hE p (by simp))⟩, ih (fun q hq => hE q (by simp [hq])) cl h4.2⟩

/-- The relation, seen from a memory that agrees with it below its end. -/
theorem Rel.below {P : Program} {j : Emb} {M m : Mem} {w : World} (h : Rel P j M w) (hW : WF m) (ha : ∀ b e, j b = some e → b < m.next → M.blk b = m.blk b) : Rel P (j.below m.next) m w := by
  refine ⟨?_, ?_, ?_⟩
  · intro b e hb
    obtain ⟨h1, h2⟩ := below_some hb
    exact ⟨h1, (h.lt b e h2).2⟩
  · intro b e hb
    obtain ⟨h1, h2⟩ := below_some hb
    rw [← ha b e h2 h1]
    exact (h.obj b e h2).below (by rw [ha b e h2 h1]; exact hW.low b)
  · intro b b' e e' hb hb' ho hl hee
    obtain ⟨h1, h2⟩ := below_some hb
    obtain ⟨h1', h2'⟩ := below_some hb'
    exact h.inj b b' e e' h2 h2' (by rw [ha b e h2 h1]; exact ho) (by rw [ha b' e' h2' h1']; exact hl) hee

def Emb.join (j1 : Emb) (n : Nat) (j : Emb) : Emb := fun b => if b < n then j1 b else j b
def Mem.join (m1 : Mem) (M : Mem) : Mem := { next := M.next, blk := fun b => if b < m1.next then m1.blk b else M.blk b }

/-- An effect, run while later blocks are there already. -/
theorem Rel.join {P : Program} {j j1 : Emb} {M m m1 : Mem} {w w' : World} (h : Rel P j M w) (ha : ∀ b e, j b = some e → b < m.next → M.blk b = m.blk b) (p : Post P (j.below m.next) m w j1 m1 w')
    (hg : ∀ b e, j b = some e → b < m.next ∨ m1.next ≤ b) (hbig : m1.next ≤ M.next) :
    Rel P (j1.join m1.next j) (m1.join M) w' ∧ (∀ b e, j b = some e → j1.join m1.next j b = some e) ∧ (∀ b e, j1 b = some e → j1.join m1.next j b = some e) := by
  have hn := p.next
  have up1 : ∀ b e, j1 b = some e → j1.join m1.next j b = some e := fun b e hb => by
    have := (p.rel.lt b e hb).1
    simp [Emb.join, this, hb]
  have lowEq : ∀ b, b < m.next → j1 b = j b := fun b hb => by rw [p.ext b hb]; simp [Emb.below, hb]
  have up : ∀ b e, j b = some e → j1.join m1.next j b = some e := fun b e hb => by
    rcases hg b e hb with h1 | h1
    · simp [Emb.join, show b < m1.next by omega, lowEq b h1, hb]
    · simp [Emb.join, show ¬ b < m1.next by omega, hb]
  have split : ∀ b e, j1.join m1.next j b = some e → (b < m1.next ∧ j1 b = some e) ∨ (m1.next ≤ b ∧ j b = some e) := fun b e hb => by
    unfold Emb.join at hb
    split at hb
    · exact .inl ⟨‹_›, hb⟩
    · exact .inr ⟨by omega, hb⟩
  have blk1 : ∀ b, b < m1.next → (m1.join M).blk b = m1.blk b := fun b hb => by simp [Mem.join, hb]
  have blk2 : ∀ b, m1.next ≤ b → (m1.join M).blk b = M.blk b := fun b hb => by simp [Mem.join, show ¬ b < m1.next by omega]
  -- later blocks are left alone
  have far : ∀ b e, j b = some e → m1.next ≤ b → (M.blk b).live = true → w'.heap[e.blk]? = w.heap[e.blk]? := fun b e hb hge hl => by
    refine p.frm.block e.blk (h.lt b e hb).2 fun b0 e0 hb0 ho he => ?_
    obtain ⟨h1, h2⟩ := below_some hb0
    have := h.inj b0 b e0 e h2 hb (by rw [ha b0 e0 h2 h1]; exact ho) hl he
    omega
  refine ⟨⟨?_, ?_, ?_⟩, up, up1⟩
  · intro b e hb
    rcases split b e hb with ⟨h1, h2⟩ | ⟨h1, h2⟩
    · exact ⟨by simp only [Mem.join]; omega, (p.rel.lt b e h2).2⟩
    · have := h.lt b e h2
      exact ⟨this.1, Nat.lt_of_lt_of_le this.2 p.frm.size⟩
  · intro b e hb
    rcases split b e hb with ⟨h1, h2⟩ | ⟨h1, h2⟩
    · rw [blk1 b h1]
      exact (p.rel.obj b e h2).mono up1
    · rw [blk2 b h1]
      cases hl : (M.blk b).live with
      | false =>
        cases hb : M.blk b <;> simp [hb, Blk.live] at hl
        trivial
      | true =>
        rw [far b e h2 h1 hl]
        exact (h.obj b e h2).mono up
  · -- apart
    have cross : ∀ b b' e e', b < m1.next → j1 b = some e → m1.next ≤ b' → j b' = some e' → (M.blk b').live = true → (((m1.blk b).isOwn = true) ∨ ((M.blk b').isOwn = true ∧ (m1.blk b).live = true)) → e.blk ≠ e'.blk := by
      intro b b' e e' h1 h2 h1' h2' hl' hor hee
      rcases Nat.lt_or_ge b m.next with hlt | hge
      · have hjb : j b = some e := by rw [← lowEq b hlt]; exact h2
        have hbe : b = b' := by
          rcases hor with ho | ⟨ho', hl⟩
          · exact h.inj b b' e e' hjb h2' (by rw [ha b e hjb hlt]; exact p.old b hlt ho) hl' hee
          · exact (h.inj b' b e' e h2' hjb ho' (by rw [ha b e hjb hlt]; exact p.alive b hlt hl) hee.symm).symm
        omega
      · rcases p.fresh b e h2 hge with hf | ⟨b0, e0, hb0, ho0, he0⟩
        · have := (h.lt b' e' h2').2
          omega
        · obtain ⟨g1, g2⟩ := below_some hb0
          have := h.inj b0 b' e0 e' g2 h2' (by rw [ha b0 e0 g2 g1]; exact ho0) hl' (by rw [he0, hee])
          omega
    intro b b' e e' hb hb' ho hl hee
    rcases split b e hb with ⟨h1, h2⟩ | ⟨h1, h2⟩ <;> rcases split b' e' hb' with ⟨h1', h2'⟩ | ⟨h1', h2'⟩
    · rw [blk1 b h1] at ho
      rw [blk1 b' h1'] at hl
      exact p.rel.inj b b' e e' h2 h2' ho hl hee
    · rw [blk1 b h1] at ho
      rw [blk2 b' h1'] at hl
      exact absurd hee (cross b b' e e' h1 h2 h1' h2' hl (.inl ho))
    · rw [blk2 b h1] at ho
      rw [blk1 b' h1'] at hl
      have hlv : (M.blk b).live = true := by cases hm : M.blk b <;> simp [hm, Blk.isOwn, Blk.live] at *
      exact absurd hee.symm (cross b' b e' e h1' h2' h1 h2 hlv (.inr ⟨ho, hl⟩))
    · rw [blk2 b h1] at ho
      rw [blk2 b' h1'] at hl
      exact h.inj b b' e e' h2 h2' ho hl hee

end Go.AM
