/- A region whose order is open: each operation, and the whole. -/
import Derived.Test.YtaoioacomnnhdaaAmDraw3
set_option linter.unusedSimpArgs false
set_option linter.unusedVariables false
namespace Go.AM

theorem getD_set {A : Array Bool} {i x : Nat} (hi : i < A.size) : ((A.setIfInBounds i true).getD x false = true) ↔ (x = i ∨ A.getD x false = true) := by
  simp only [Array.getD, Array.size_setIfInBounds]
  by_cases hx : x < A.size
  · simp only [hx, dite_true]
    by_cases hxi : x = i
    · subst hxi; simp
    · simp [Array.getElem_setIfInBounds, hx, Ne.symm hxi, hxi]
  · simp only [hx, dite_false]
    constructor
    · intro h; cases h
    · rintro (h | h)
      · omega
      · cases h

theorem getD_set_ne {A : Array Bool} {i x : Nat} (hi : i < A.size) (h : (A.setIfInBounds i true).getD x false = false) : x ≠ i ∧ A.getD x false = false := by
  refine ⟨fun hx => ?_, ?_⟩
  · have := (getD_set (A := A) (x := x) hi).2 (.inl hx)
    rw [h] at this; cases this
  · cases hA : A.getD x false with
    | false => rfl
    | true =>
      have := (getD_set (A := A) (x := x) hi).2 (.inr hA)
      rw [h] at this; cases this

theorem put_tmps {a : Act} {d : Option Tmp} {v : Value} : (a.put d v).tmps.size = a.tmps.size ∧ (a.put d v).defers = a.defers := by
  cases d <;> simp [Act.put]
theorem put_get {a : Act} {d t : Nat} {v : Value} (hd : d < a.tmps.size) : (a.put (some d) v).tmps.getD t undef = if t = d then v else a.tmps.getD t undef := by
  simp only [Act.put, Array.getD, Array.size_setIfInBounds]
  by_cases ht : t = d
  · subst ht; simp [hd]
  · by_cases hs : t < a.tmps.size
    · simp [hs, Array.getElem_setIfInBounds, Ne.symm ht, ht]
    · simp [hs, ht]

section
variable {P : Program} {C : FuncId → Array Value → Mem → Value → Mem → Prop} {ops : Array Oper} {N : Nat} {fs : Nat → Nat → Value} {ms : Nat → Mem} {vs : Nat → Value} {kd : Nat → Nat} {j0 : Emb} {w0 : World}
variable {listed : Array Bool} {a : Act} {w : World} {s : Nat} {M : Mem} {j : Emb}

theorem Ready.lt {i : Nat} {o : Oper} (R : Ready ops listed i o) : i < ops.size := (Array.getElem?_eq_some_iff.1 R.at_).1

theorem Mid.closed' (D : Mid P ops N fs ms vs kd j0 w0 listed a w s M j) {i : Nat} {o : Oper} (R : Ready ops listed i o) : Closed ops (fun x => (listed.setIfInBounds i true).getD x false = true) := by
  have hi : i < listed.size := by rw [D.size]; exact R.lt
  intro x p hx hp e he hb
  refine (getD_set hi).2 (.inr ?_)
  rcases (getD_set hi).1 hx with rfl | hx
  · rw [R.at_] at hp; cases hp; exact R.deps e he hb
  · exact D.closed x p hx hp e he hb

theorem Mid.cur' (X : Ctx P C ops N fs ms vs kd j0 w0) (D : Mid P ops N fs ms vs kd j0 w0 listed a w s M j) {i : Nat} {o : Oper} (R : Ready ops listed i o) {j' : Emb} (hup : ∀ b e, j b = some e → j' b = some e) {cv : Value} (hv : VR j' (vs i) cv) :
    ∀ t, (∃ x p, ops[x]? = some p ∧ (listed.setIfInBounds i true).getD x false = true ∧ p.dst = some t ∧ (∀ y q, x < y → ops[y]? = some q → (listed.setIfInBounds i true).getD y false = true → q.dst ≠ some t) ∧ VR j' (vs x) ((a.put o.dst cv).tmps.getD t undef)) ∨
    ((∀ x p, ops[x]? = some p → (listed.setIfInBounds i true).getD x false = true → p.dst ≠ some t) ∧ VR j' (fs 0 t) ((a.put o.dst cv).tmps.getD t undef)) := by
  have hi : i < listed.size := by rw [D.size]; exact R.lt
  have hmem : o ∈ ops.toList := by have := Array.mem_of_getElem? R.at_; simpa using this
  intro t
  by_cases hd : o.dst = some t
  · left
    refine ⟨i, o, R.at_, (getD_set hi).2 (.inl rfl), hd, fun y q hy hq hl hqt => ?_, ?_⟩
    · rcases (getD_set hi).1 hl with h | h
      · omega
      · have ht : t ∈ slotsOf ops o := by simp [slotsOf, hd]
        rcases R.writers X D ht hq hqt with h' | h'
        · have := h'.1 h; omega
        · omega
    · have hlt : t < a.tmps.size := by rw [D.tmps]; exact X.dst o hmem t hd
      rw [hd, put_get hlt, if_pos rfl]; exact hv
  · have hsame : (a.put o.dst cv).tmps.getD t undef = a.tmps.getD t undef := by
      cases hdd : o.dst with
      | none => rfl
      | some d =>
        have hlt : d < a.tmps.size := by rw [D.tmps]; exact X.dst o hmem d hdd
        have : t ≠ d := by intro h; subst h; exact hd hdd
        rw [put_get hlt, if_neg this]
    rw [hsame]
    rcases D.cur t with ⟨x, p, g1, g2, g3, g4, g5⟩ | ⟨g1, g2⟩
    · left
      refine ⟨x, p, g1, (getD_set hi).2 (.inr g2), g3, fun y q hy hq hl => ?_, g5.mono hup⟩
      rcases (getD_set hi).1 hl with h | h
      · subst h; rw [R.at_] at hq; cases hq; exact hd
      · exact g4 y q hy hq h
    · right
      refine ⟨fun y q hq hl => ?_, g2.mono hup⟩
      rcases (getD_set hi).1 hl with h | h
      · subst h; rw [R.at_] at hq; cases hq; exact hd
      · exact g1 y q hq h

/-- An operation that leaves memory alone. -/
theorem Mid.quiet (X : Ctx P C ops N fs ms vs kd j0 w0) (D : Mid P ops N fs ms vs kd j0 w0 listed a w s M j) {i : Nat} {o : Oper} (R : Ready ops listed i o) (hk3 : kd i ≠ 3) (hk4 : kd i ≠ 4) {cv : Value} (hv : VR j (vs i) cv) :
    Mid P ops N fs ms vs kd j0 w0 (listed.setIfInBounds i true) (a.put o.dst cv) w s M j := by
  have hi : i < listed.size := by rw [D.size]; exact R.lt
  refine ⟨by simp [D.size], D.closed' R, D.sle, D.last, ?_, D.rel, D.big, D.agree, ?_, ?_, ?_, by rw [put_tmps.2]; exact D.defers, by rw [put_tmps.1]; exact D.tmps, D.cur' X R (fun _ _ h => h) hv, D.frm, D.ext, D.fresh, D.old, D.alive⟩
  · intro x hx hk
    rw [getD_set hi, ← D.effs x hx hk]
    constructor
    · rintro (h | h)
      · subst h; exact absurd hk hk4
      · exact h
    · exact .inr
  · intro b e hb
    rcases D.dom b e hb with h | ⟨x, h1, h2, h3, h4, h5⟩
    · exact .inl h
    · exact .inr ⟨x, h1, h2, (getD_set hi).2 (.inr h3), h4, h5⟩
  · intro x hx hk hl
    exact D.unl x hx hk (getD_set_ne hi hl).2
  · intro x h1 h2 h3 h4
    rcases (getD_set hi).1 h3 with h | h
    · subst h; exact absurd h4 hk3
    · exact D.flo x h1 h2 h h4

/-- What a new block holds, seen at the effects that have run. -/
theorem Mid.seen (X : Ctx P C ops N fs ms vs kd j0 w0) (D : Mid P ops N fs ms vs kd j0 w0 listed a w s M j) {i : Nat} {o : Oper} (R : Ready ops listed i o) (hk : kd i = 3) {Xb : Blk} (hm : ms (i + 1) = (ms i).push Xb) :
    ∀ n, i < n → n ≤ s → (ms n).blk (ms i).next = Xb := by
  intro n
  induction n with
  | zero => intro h; omega
  | succ n ih =>
    intro h1 h2
    have hs := D.sle
    by_cases hin : n = i
    · subst hin; rw [hm]; simp [Mem.push]
    · have hprev := ih (by omega) (by omega)
      have hn : n < ops.size := by omega
      have ho : ops[n]? = some ops[n] := by simp [hn]
      have hlt : (ms i).next < (ms n).next := Nat.lt_of_lt_of_le (X.new_lt R.lt hk) (X.mono (i + 1) n (by omega) (by omega))
      rcases X.run ho with ⟨_, _, _, hmm⟩ | ⟨_, _, _, hmm⟩ | ⟨_, _, _, hmm⟩ | ⟨_, _, Yb, _, hmm⟩ | ⟨hkn, _, hp⟩
      · rw [hmm]; exact hprev
      · rw [hmm]; exact hprev
      · rw [hmm]; exact hprev
      · rw [hmm]
        simp only [Mem.push]
        rw [if_neg (by omega)]; exact hprev
      · have hln : listed.getD n false = true := (D.effs n hn hkn).2 (by omega)
        have hanc : anc (Region.before ops) n i = false := by
          cases hA : anc (Region.before ops) n i with
          | false => rfl
          | true =>
            have := D.ancIn hln hA
            rw [R.not] at this; cases this
        have := X.T.news i n (by simpa using R.lt) (by simpa using hk) (by simpa using hn) (by simpa using hkn) (by omega) (by simpa using hanc)
        simp only [Nat.zero_add] at this
        rw [this]; exact hprev

/-- An operation that makes a block. -/
theorem Mid.fresh' (X : Ctx P C ops N fs ms vs kd j0 w0) (D : Mid P ops N fs ms vs kd j0 w0 listed a w s M j) {i : Nat} {o : Oper} (R : Ready ops listed i o) (hk : kd i = 3) {Xb : Blk} (hm : ms (i + 1) = (ms i).push Xb)
    {w' : World} {e : Emb1} {ob : Obj} (Nw : NewOk P j w w' Xb e ob) {cv : Value} (hv : VR (j.up (ms i).next e) (vs i) cv) :
    Mid P ops N fs ms vs kd j0 w0 (listed.setIfInBounds i true) (a.put o.dst cv) w' s (M.put (ms i).next Xb) (j.up (ms i).next e) := by
  have hi : i < listed.size := by rw [D.size]; exact R.lt
  have hfree := D.unl i R.lt hk R.not
  have hle := Emb.up_le (e := e) hfree
  have hlt := X.new_lt R.lt hk
  have hbig : (ms i).next < M.next := by
    rw [D.big]
    exact Nat.lt_of_lt_of_le hlt (X.mono (i + 1) ops.size R.lt (Nat.le_refl _))
  have h0 : (ms 0).next ≤ (ms i).next := X.mono 0 i (Nat.zero_le _) (Nat.le_of_lt R.lt)
  have hup : ∀ b x, j.up (ms i).next e b = some x → b ≠ (ms i).next → j b = some x := fun b x hb hne => by simpa [Emb.up, hne] using hb
  have hblk : ∀ b, b ≠ (ms i).next → (M.put (ms i).next Xb).blk b = M.blk b := fun b hb => by simp [Mem.put, hb]
  have distinct : ∀ x, x < ops.size → kd x = 3 → x ≠ i → (ms x).next ≠ (ms i).next := by
    intro x hx hkx hne he
    rcases Nat.lt_or_ge x i with h | h
    · have := X.new_lt hx hkx
      have := X.mono (x + 1) i (by omega) (Nat.le_of_lt R.lt)
      omega
    · have := X.mono (i + 1) x (by omega) (Nat.le_of_lt hx)
      omega
  refine ⟨by simp [D.size], D.closed' R, D.sle, D.last, ?_, D.rel.place hfree hbig Nw, D.big, ?_, ?_, ?_, ?_, by rw [put_tmps.2]; exact D.defers, by rw [put_tmps.1]; exact D.tmps, D.cur' X R hle hv, ?_, ?_, ?_, ?_, ?_⟩
  · intro x hx hkx
    rw [getD_set hi, ← D.effs x hx hkx]
    constructor
    · rintro (h | h)
      · subst h; omega
      · exact h
    · exact .inr
  · intro b hb
    by_cases hbi : b = (ms i).next
    · subst hbi
      have his : i < s := by
        rcases Nat.lt_or_ge i s with h | h
        · exact h
        · have := X.mono s i h (Nat.le_of_lt R.lt); omega
      rw [D.seen X R hk hm s his (Nat.le_refl _)]
      simp [Mem.put]
    · rw [hblk b hbi]; exact D.agree b hb
  · intro b x hb
    by_cases hbi : b = (ms i).next
    · subst hbi
      rcases Nat.lt_or_ge (ms i).next (ms s).next with h | h
      · exact .inl h
      · right
        refine ⟨i, ?_, R.lt, (getD_set hi).2 (.inl rfl), hk, rfl⟩
        rcases Nat.lt_or_ge i s with h' | h'
        · have := X.mono (i + 1) s h' D.sle; omega
        · exact h'
    · rcases D.dom b x (hup b x hb hbi) with h | ⟨y, h1, h2, h3, h4, h5⟩
      · exact .inl h
      · exact .inr ⟨y, h1, h2, (getD_set hi).2 (.inr h3), h4, h5⟩
  · intro x hx hkx hl
    obtain ⟨h1, h2⟩ := getD_set_ne hi hl
    have := distinct x hx hkx h1
    simp only [Emb.up, this, if_false]
    exact D.unl x hx hkx h2
  · intro x h1 h2 h3 h4 Yb hm'
    by_cases hxi : x = i
    · subst hxi
      have hYX : Yb = Xb := by
        have e1 : (ms (x + 1)).blk (ms x).next = Yb := by rw [hm']; simp [Mem.push]
        have e2 : (ms (x + 1)).blk (ms x).next = Xb := by rw [hm]; simp [Mem.push]
        rw [← e1, e2]
      rw [hYX]; simp [Mem.put]
    · rw [hblk _ (distinct x h2 h4 hxi)]
      rcases (getD_set hi).1 h3 with h | h
      · exact absurd h hxi
      · exact D.flo x h1 h2 h h4 Yb hm'
  · have hold : ∀ c, c < w.heap.size → w'.heap[c]? = w.heap[c]? := fun c hc => by rw [Nw.heap, Array.getElem?_push, if_neg (by omega)]
    exact ⟨Nw.os.trans D.frm.os, Nw.tape.trans D.frm.tape, Nw.output.trans D.frm.output, by rw [Nw.heap]; simp; have := D.frm.size; omega, fun c hc hh => by
      rw [hold c (Nat.lt_of_lt_of_le hc D.frm.size)]; exact D.frm.block c hc hh⟩
  · intro b hb
    simp only [Emb.up, show b ≠ (ms i).next by omega, if_false]
    exact D.ext b hb
  · intro b x hb hge
    by_cases hbi : b = (ms i).next
    · subst hbi
      have hx : x = e := by simpa [Emb.up] using hb.symm
      subst hx
      exact .inl (by rw [Nw.blk]; exact D.frm.size)
    · exact D.fresh b x (hup b x hb hbi) hge
  · intro b hb ho
    rw [hblk b (by omega)] at ho
    exact D.old b hb ho
  · intro b hb ho
    rw [hblk b (by omega)] at ho
    exact D.alive b hb ho

/-- An effect. -/
theorem Mid.eff (X : Ctx P C ops N fs ms vs kd j0 w0) (D : Mid P ops N fs ms vs kd j0 w0 listed a w s M j) {i : Nat} {o : Oper} (R : Ready ops listed i o) (hk : kd i = 4) :
    s ≤ i ∧ (∀ e, s ≤ e → e < i → kd e ≠ 4) ∧ Rel P (j.below (ms i).next) (ms i) w ∧
    ∀ {w' : World} {j1 : Emb} {cv : Value}, Post P (j.below (ms i).next) (ms i) w j1 (ms (i + 1)) w' → VR j1 (vs i) cv →
      Mid P ops N fs ms vs kd j0 w0 (listed.setIfInBounds i true) (a.put o.dst cv) w' (i + 1) ((ms (i + 1)).join M) (j1.join (ms (i + 1)).next j) := by
  have hi : i < listed.size := by rw [D.size]; exact R.lt
  have hsi : s ≤ i := by
    rcases Nat.lt_or_ge i s with h | h
    · have := (D.effs i R.lt hk).2 h
      rw [R.not] at this; cases this
    · exact h
  have hord : ∀ e, e < i → kd e = 4 → listed.getD e false = true := by
    intro e he hke
    have hes : e < ops.size := Nat.lt_trans he R.lt
    have hoe : ops[e]? = some ops[e] := by simp [hes]
    refine R.anc D (drawOk_clash X.ok R.at_ hoe he ?_)
    simp [clash, X.isE hoe hke, X.isE R.at_ hk]
  have hne : ∀ e, s ≤ e → e < i → kd e ≠ 4 := by
    intro e h1 h2 hke
    have := (D.effs e (Nat.lt_trans h2 R.lt) hke).1 (hord e h2 hke)
    omega
  have hA := D.agreeZ X hsi (Nat.le_of_lt R.lt) hne
  have hW := (X.wf i (Nat.le_of_lt R.lt)).1
  refine ⟨hsi, hne, D.rel.below hW hA, ?_⟩
  intro w' j1 cv p hv
  have hmono := p.next
  have hdom : ∀ b e, j b = some e → b < (ms i).next ∨ ((ms (i + 1)).next ≤ b ∧ ∃ x, i + 1 ≤ x ∧ x < ops.size ∧ listed.getD x false = true ∧ kd x = 3 ∧ b = (ms x).next) := by
    intro b e hb
    rcases D.dom b e hb with h | ⟨x, h1, h2, h3, h4, h5⟩
    · exact .inl (Nat.lt_of_lt_of_le h (X.mono s i hsi (Nat.le_of_lt R.lt)))
    · subst h5
      rcases Nat.lt_trichotomy x i with h | h | h
      · exact .inl (Nat.lt_of_lt_of_le (X.new_lt h2 h4) (X.mono (x + 1) i h (Nat.le_of_lt R.lt)))
      · subst h; omega
      · exact .inr ⟨X.mono (i + 1) x h (Nat.le_of_lt h2), x, h, h2, h3, h4, rfl⟩
  have hbig : (ms (i + 1)).next ≤ M.next := by rw [D.big]; exact X.mono (i + 1) ops.size R.lt (Nat.le_refl _)
  obtain ⟨hrel, hup, hup1⟩ := D.rel.join hA p (fun b e hb => by rcases hdom b e hb with h | h; exact .inl h; exact .inr h.1) hbig
  have h0i : (ms 0).next ≤ (ms i).next := X.mono 0 i (Nat.zero_le _) (Nat.le_of_lt R.lt)
  have jlow : ∀ b, b < (ms i).next → j1 b = j b := fun b hb => by rw [p.ext b hb]; simp [Emb.below, hb]
  have blkA : ∀ b e, j b = some e → b < (ms i).next → M.blk b = (ms i).blk b := hA
  refine ⟨by simp [D.size], D.closed' R, R.lt, .inr (by simpa using hk), ?_, hrel, D.big, ?_, ?_, ?_, ?_, by rw [put_tmps.2]; exact D.defers, by rw [put_tmps.1]; exact D.tmps, D.cur' X R hup (hv.mono hup1), ?_, ?_, ?_, ?_, ?_⟩
  · intro x hx hkx
    rw [getD_set hi, D.effs x hx hkx]
    constructor
    · rintro (h | h) <;> omega
    · intro h
      rcases Nat.lt_or_ge x i with h' | h'
      · exact .inr ((D.effs x hx hkx).1 (hord x h' hkx))
      · exact .inl (by omega)
  · intro b hb
    simp [Mem.join, hb]
  · intro b e hb
    unfold Emb.join at hb
    split at hb
    · exact .inl ‹_›
    · rcases hdom b e hb with h | ⟨h1, x, h2, h3, h4, h5, h6⟩
      · omega
      · exact .inr ⟨x, h2, h3, (getD_set hi).2 (.inr h4), h5, h6⟩
  · intro x hx hkx hl
    obtain ⟨h1, h2⟩ := getD_set_ne hi hl
    have hjx := D.unl x hx hkx h2
    rcases Nat.lt_or_ge x i with h | h
    · have hxl : (ms x).next < (ms i).next := Nat.lt_of_lt_of_le (X.new_lt hx hkx) (X.mono (x + 1) i h (Nat.le_of_lt R.lt))
      simp only [Emb.join, show (ms x).next < (ms (i + 1)).next by omega, if_true]
      rw [jlow _ hxl]; exact hjx
    · have : (ms (i + 1)).next ≤ (ms x).next := X.mono (i + 1) x (by omega) (Nat.le_of_lt hx)
      simp only [Emb.join, show ¬ (ms x).next < (ms (i + 1)).next by omega, if_false]
      exact hjx
  · intro x h1 h2 h3 h4 Xb hm
    have : (ms (i + 1)).next ≤ (ms x).next := X.mono (i + 1) x h1 (Nat.le_of_lt h2)
    simp only [Mem.join, show ¬ (ms x).next < (ms (i + 1)).next by omega, if_false]
    rcases (getD_set hi).1 h3 with h | h
    · omega
    · exact D.flo x (by omega) h2 h h4 Xb hm
  · refine ⟨p.frm.os.trans D.frm.os, p.frm.tape.trans D.frm.tape, p.frm.output.trans D.frm.output, Nat.le_trans D.frm.size p.frm.size, fun c hc hh => ?_⟩
    rw [p.frm.block c (Nat.lt_of_lt_of_le hc D.frm.size) ?_]
    · exact D.frm.block c hc hh
    · intro b e hb ho he
      obtain ⟨g1, g2⟩ := below_some hb
      rcases Nat.lt_or_ge b (ms 0).next with h | h
      · exact hh b e (by rw [← D.ext b h]; exact g2) (D.old b h (by rw [blkA b e g2 g1]; exact ho)) he
      · rcases D.fresh b e g2 h with hf | ⟨b0, e0, k1, k2, k3⟩
        · omega
        · exact hh b0 e0 k1 k2 (k3.trans he)
  · intro b hb
    simp only [Emb.join, show b < (ms (i + 1)).next by omega, if_true]
    rw [jlow b (by omega)]
    exact D.ext b hb
  · intro b e hb hge
    unfold Emb.join at hb
    split at hb
    · rcases Nat.lt_or_ge b (ms i).next with h | h
      · exact D.fresh b e (by rw [← jlow b h]; exact hb) hge
      · rcases p.fresh b e hb h with hf | ⟨b0, e0, k1, k2, k3⟩
        · exact .inl (Nat.le_trans D.frm.size hf)
        · obtain ⟨g1, g2⟩ := below_some k1
          rcases Nat.lt_or_ge b0 (ms 0).next with h' | h'
          · exact .inr ⟨b0, e0, by rw [← D.ext b0 h']; exact g2, D.old b0 h' (by rw [blkA b0 e0 g2 g1]; exact k2), k3⟩
          · rw [← k3]; exact D.fresh b0 e0 g2 h'
    · exact D.fresh b e hb hge
  · intro b hb ho
    have hbi : b < (ms (i + 1)).next := by omega
    simp only [Mem.join, hbi, if_true] at ho
    have ho' := p.old b (by omega) ho
    -- it is the memory of the text at 's' that tells
    have hg := (trace_grow X.T i hsi (by simpa using Nat.le_of_lt R.lt) hne).1
    have hbs : b < (ms s).next := Nat.lt_of_lt_of_le hb (X.mono 0 s (Nat.zero_le _) D.sle)
    exact D.old b hb (by rw [D.agree b hbs, ← hg b hbs]; exact ho')
  · intro b hb ho
    have hbi : b < (ms (i + 1)).next := by omega
    simp only [Mem.join, hbi, if_true] at ho
    have ho' := p.alive b (by omega) ho
    have hg := (trace_grow X.T i hsi (by simpa using Nat.le_of_lt R.lt) hne).1
    have hbs : b < (ms s).next := Nat.lt_of_lt_of_le hb (X.mono 0 s (Nat.zero_le _) D.sle)
    exact D.alive b hb (by rw [D.agree b hbs, ← hg b hbs]; exact ho')

end
end Go.AM
