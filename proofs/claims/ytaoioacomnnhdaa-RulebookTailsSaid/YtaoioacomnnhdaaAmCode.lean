/- The abstract machine's code and calls are those of the model. -/
import Derived.Test.YtaoioacomnnhdaaAmDraw5
set_option linter.unusedSimpArgs false
set_option linter.unusedVariables false
namespace Go.AM

/-- A frame that is related. -/
structure FR (j : Emb) (N : Nat) (fr : Nat → Value) (a : Act) : Prop where
  val : ∀ t, VR j (fr t) (a.tmps.getD t undef)
  defers : a.defers = []
  size : a.tmps.size = N

theorem FR.put {j j' : Emb} {N : Nat} {fr : Nat → Value} {a : Act} {d : Option Tmp} {v cv : Value} (h : FR j N fr a) (hup : ∀ b e, j b = some e → j' b = some e) (hd : ∀ t, d = some t → t < N) (hv : VR j' v cv) : FR j' N (set fr d v) (a.put d cv) := by
  refine ⟨fun t => ?_, by rw [put_tmps.2]; exact h.defers, by rw [put_tmps.1]; exact h.size⟩
  cases d with
  | none => exact (h.val t).mono hup
  | some x =>
    have hx : x < a.tmps.size := by rw [h.size]; exact hd x rfl
    rw [put_get hx]
    simp only [set]
    split
    · exact hv
    · exact (h.val t).mono hup

theorem FR.ops {j : Emb} {N : Nat} {fr : Nat → Value} {a : Act} (h : FR j N fr a) {o : Oper} (ho : ∀ x ∈ o.op.operands, okX x = true) : OpsR j (ev fr) a.eval o :=
  fun x hx => okX_VR (ho x hx) fun t _ => h.val t

theorem undef_VR (j : Emb) : VR j undef undef := ⟨#[], rfl, True.intro⟩

/-- A region in the order of the text. -/
theorem seq_sound {P : Program} {C : FuncId → Array Value → Mem → Value → Mem → Prop} {ops : Array Oper} {N : Nat} {Q : Exit → Act → World → Prop} (hC : KeepsC C) (hS : SoundC P C) (hdst : ∀ o ∈ ops.toList, ∀ d, o.dst = some d → d < N) :
    ∀ (l : List Oper) (fr fr' : Nat → Value) (m m' : Mem) (j : Emb) (a : Act) (w : World), (∀ o ∈ l, (∀ x ∈ o.op.operands, okX x = true) ∧ ∀ d, o.dst = some d → d < N) → seqR P C ops.toList l fr m fr' m' → Rel P j m w → WF m → FR j N fr a →
      (∀ a' w' j', Post P j m w j' m' w' → FR j' N fr' a' → Q .normal a' w') → wpList P ops Q l a w
  | [], fr, fr', m, m', j, a, w, hl, h, hR, hW, hF, hQ => by
    simp only [seqR] at h
    obtain ⟨rfl, rfl⟩ := h
    exact hQ a w j (Post.refl hR) hF
  | o :: l, fr, fr', m, m', j, a, w, hl, h, hR, hW, hF, hQ => by
    obtain ⟨hx, hd⟩ := hl o (by simp)
    have hl' : ∀ o ∈ l, (∀ x ∈ o.op.operands, okX x = true) ∧ ∀ d, o.dst = some d → d < N := fun p hp => hl p (by simp [hp])
    have hwant : Region.wanted o (yielded ops a.tmps) = wanted ops.toList fr o := wanted_eq hF.size hdst fun g w d hg hd => hF.val d
    unfold wpList
    rw [hwant]
    simp only [seqR] at h
    by_cases hw : wanted ops.toList fr o = true
    · rw [if_pos hw]
      rw [if_pos hw] at h
      obtain ⟨v, m1, hstep, hrest⟩ := h
      have hlow : ∀ t, low m.next (fr t) := fun t => (VR_low fun b e hb => (hR.lt b e hb).1).2.2 (hF.val t)
      have hst := step_low hstep hW hlow hC hx
      have hops := hF.ops hx
      have cont : ∀ cv w' j', Post P j m w j' m1 w' → VR j' v cv → wpList P ops Q l (a.put o.dst cv) w' := fun cv w' j' hp hv =>
        seq_sound hC hS hdst l _ _ _ _ j' _ _ hl' hrest hp.rel hst.2.1 (hF.put (hp.up hR) hd hv) fun a' w'' j'' hp' hF' => hQ a' w'' j'' (hp.trans hp') hF'
      left
      cases hstep with
      | pure h =>
        obtain ⟨cv, hr, hv⟩ := pure_sound h hops w
        unfold Oper.wp
        rw [hr]
        exact cont cv w j (Post.refl hR) hv
      | read h =>
        obtain ⟨cv, hr, hv⟩ := read_sound h hops hR.rdOk
        unfold Oper.wp
        rw [hr]
        exact cont cv w j (Post.refl hR) hv
      | new h =>
        obtain ⟨cv, w', j', hr, hp, hv⟩ := new_sound h hops hR
        unfold Oper.wp
        rw [hr]
        exact cont cv w' j' hp hv
      | eff h => exact eff_wp h hops hR hW hS cont
    · rw [if_neg hw]
      rw [if_neg hw] at h
      exact seq_sound hC hS hdst l _ _ _ _ j _ _ hl' h hR hW (hF.put (fun _ _ h => h) hd (undef_VR j)) hQ

theorem seq_low {P : Program} {C : FuncId → Array Value → Mem → Value → Mem → Prop} {ops : List Oper} (hC : KeepsC C) : ∀ (l : List Oper) (fr fr' : Nat → Value) (m m' : Mem), (∀ o ∈ l, ∀ x ∈ o.op.operands, okX x = true) → seqR P C ops l fr m fr' m' → WF m → (∀ t, low m.next (fr t)) →
    WF m' ∧ (∀ t, low m'.next (fr' t)) ∧ m.next ≤ m'.next
  | [], fr, fr', m, m', hl, h, hW, hf => by
    simp only [seqR] at h
    obtain ⟨rfl, rfl⟩ := h
    exact ⟨hW, hf, Nat.le_refl _⟩
  | o :: l, fr, fr', m, m', hl, h, hW, hf => by
    simp only [seqR] at h
    have hl' : ∀ o ∈ l, ∀ x ∈ o.op.operands, okX x = true := fun p hp => hl p (by simp [hp])
    split at h
    · obtain ⟨v, m1, hstep, hrest⟩ := h
      have hst := step_low hstep hW hf hC (hl o (by simp))
      have := seq_low hC l _ _ _ _ hl' hrest hst.2.1 (set_low (fun t => low_mono hst.2.2 (hf t)) hst.1)
      exact ⟨this.1, this.2.1, Nat.le_trans hst.2.2 this.2.2⟩
    · exact seq_low hC l _ _ _ _ hl' h hW (set_low hf undef_low)

theorem draw_low {P : Program} {C : FuncId → Array Value → Mem → Value → Mem → Prop} {ops : List Oper} {B : Array Nat} (hC : KeepsC C) : ∀ (l : List Oper) (i : Nat) (A : Acc) (fr fr' : Nat → Value) (m m' : Mem), (∀ o ∈ l, ∀ x ∈ o.op.operands, okX x = true) → drawR P C ops B i l A fr m fr' m' → WF m → (∀ t, low m.next (fr t)) →
    WF m' ∧ (∀ t, low m'.next (fr' t)) ∧ m.next ≤ m'.next
  | [], i, A, fr, fr', m, m', hl, h, hW, hf => by
    simp only [drawR] at h
    obtain ⟨rfl, rfl⟩ := h
    exact ⟨hW, hf, Nat.le_refl _⟩
  | o :: l, i, A, fr, fr', m, m', hl, h, hW, hf => by
    simp only [drawR] at h
    have hl' : ∀ o ∈ l, ∀ x ∈ o.op.operands, okX x = true := fun p hp => hl p (by simp [hp])
    have key : ∀ v m1 A', StepR P C (ev fr) o m v m1 → drawR P C ops B (i + 1) l A' (set fr o.dst v) m1 fr' m' → WF m' ∧ (∀ t, low m'.next (fr' t)) ∧ m.next ≤ m'.next := by
      intro v m1 A' hstep hrest
      have hst := step_low hstep hW hf hC (hl o (by simp))
      have := draw_low hC l _ _ _ _ _ _ hl' hrest hst.2.1 (set_low (fun t => low_mono hst.2.2 (hf t)) hst.1)
      exact ⟨this.1, this.2.1, Nat.le_trans hst.2.2 this.2.2⟩
    split at h
    · rcases h with ⟨v, hp, hd⟩ | ⟨v, hp, _, hd⟩ | ⟨X, v, hp, hd⟩ | ⟨v, m1, hp, _, _, hd⟩
      · exact key _ _ _ (.pure hp) hd
      · exact key _ _ _ (.read hp) hd
      · exact key _ _ _ (.new hp) hd
      · exact key _ _ _ (.eff hp) hd
    · exact draw_low hC l _ _ _ _ _ _ hl' h hW (set_low hf undef_low)

theorem okRegion {n id : Nat} {ops : Array Oper} {d : Bool} (h : okCode n (.region id ops d) = true) : (∀ o ∈ ops.toList, (∀ x ∈ o.op.operands, okX x = true) ∧ ∀ d, o.dst = some d → d < n) ∧ (d = true → drawOk ops = true) := by
  simp only [okCode, Bool.and_eq_true, List.all_eq_true, Bool.or_eq_true, Bool.not_eq_true'] at h
  refine ⟨fun o ho => ⟨fun x hx => (h.1 o ho).1 x (by simpa using hx), fun t ht => ?_⟩, fun hd => ?_⟩
  · have := (h.1 o ho).2
    rw [ht] at this
    simpa using this
  · rcases h.2 with h | h
    · rw [hd] at h; cases h
    · exact h

theorem code_low {P : Program} {C : FuncId → Array Value → Mem → Value → Mem → Prop} (hC : KeepsC C) {N : Nat} : ∀ (n : Nat) (c : Code) (fr fr' : Nat → Value) (m m' : Mem) (e : AExit), okCode N c = true → codeR P C n c fr m e fr' m' → WF m → (∀ t, low m.next (fr t)) →
    WF m' ∧ (∀ t, low m'.next (fr' t)) ∧ m.next ≤ m'.next := by
  intro n
  induction n with
  | zero => intro c fr fr' m m' e _ h; exact h.elim
  | succ n ih =>
    intro c fr fr' m m' e hok h hW hf
    cases c with
    | skip => obtain ⟨_, rfl, rfl⟩ := h; exact ⟨hW, hf, Nat.le_refl _⟩
    | label l => obtain ⟨_, rfl, rfl⟩ := h; exact ⟨hW, hf, Nat.le_refl _⟩
    | exit id => obtain ⟨_, rfl, rfl⟩ := h; exact ⟨hW, hf, Nat.le_refl _⟩
    | ret => obtain ⟨_, rfl, rfl⟩ := h; exact ⟨hW, hf, Nat.le_refl _⟩
    | region id ops d =>
      have hr := okRegion hok
      cases d with
      | false => exact seq_low hC _ _ _ _ _ (fun o ho => (hr.1 o ho).1) h.2 hW hf
      | true => exact draw_low hC _ _ _ _ _ _ _ (fun o ho => (hr.1 o ho).1) h.2 hW hf
    | seq a b =>
      simp only [okCode, Bool.and_eq_true] at hok
      obtain ⟨e1, fr1, m1, h1, h2⟩ := h
      obtain ⟨g1, g2, g3⟩ := ih a _ _ _ _ _ hok.1 h1 hW hf
      split at h2
      · obtain ⟨k1, k2, k3⟩ := ih b _ _ _ _ _ hok.2 h2 g1 g2
        exact ⟨k1, k2, Nat.le_trans g3 k3⟩
      · obtain ⟨_, rfl, rfl⟩ := h2; exact ⟨g1, g2, g3⟩
    | cond c a b =>
      simp only [okCode, Bool.and_eq_true] at hok
      obtain ⟨t, _, h1⟩ := h
      cases t
      · exact ih b _ _ _ _ _ hok.2 h1 hW hf
      · exact ih a _ _ _ _ _ hok.1.2 h1 hW hf
    | block id c =>
      obtain ⟨e1, h1, _⟩ := h
      exact ih c _ _ _ _ _ hok h1 hW hf
    | loop c =>
      obtain ⟨e1, fr1, m1, h1, h2⟩ := h
      obtain ⟨g1, g2, g3⟩ := ih c _ _ _ _ _ hok h1 hW hf
      split at h2
      · obtain ⟨k1, k2, k3⟩ := ih (.loop c) _ _ _ _ _ hok h2 g1 g2
        exact ⟨k1, k2, Nat.le_trans g3 k3⟩
      · obtain ⟨_, rfl, rfl⟩ := h2; exact ⟨g1, g2, g3⟩
    | rangeFunc f ps x y => exact h.elim
    | scope c => exact h.elim
    | goto l => exact h.elim
    | refuse s => exact h.elim

def AExit.out : AExit → Exit
  | .normal => .normal
  | .exit id => .exit id
  | .ret => .ret

/-- Code at a given fuel is sound. -/
def CodeOk (P : Program) (C : FuncId → Array Value → Mem → Value → Mem → Prop) (N n : Nat) (c : Code) : Prop :=
  ∀ (fr fr' : Nat → Value) (m m' : Mem) (e : AExit) (j : Emb) (a : Act) (w : World) (Q : Exit → Act → World → Prop),
    okCode N c = true → codeR P C n c fr m e fr' m' → Rel P j m w → WF m → FR j N fr a → (∀ a' w' j', Post P j m w j' m' w' → FR j' N fr' a' → Q e.out a' w') → c.wp P Q a w

theorem FR.low {P : Program} {j : Emb} {N : Nat} {fr : Nat → Value} {a : Act} {m : Mem} {w : World} (hF : FR j N fr a) (hR : Rel P j m w) : ∀ t, low m.next (fr t) := fun t => (VR_low fun b e hb => (hR.lt b e hb).1).2.2 (hF.val t)

theorem loop_inner {P : Program} {C : FuncId → Array Value → Mem → Value → Mem → Prop} (hC : KeepsC C) {N : Nat} {c : Code} (hok : okCode N c = true) : ∀ (n : Nat), (∀ n', n' < n → CodeOk P C N n' c) → ∀ (fr fr' : Nat → Value) (m m' : Mem) (e : AExit) (j : Emb) (a : Act) (w : World) (Q : Exit → Act → World → Prop),
    codeR P C n (.loop c) fr m e fr' m' → Rel P j m w → WF m → FR j N fr a → (∀ a' w' j', Post P j m w j' m' w' → FR j' N fr' a' → Q e.out a' w') →
    ∀ (b : Frame) (k : List Item) (cs : List Frame), ∃ e' a' w', Q e' a' w' ∧ Arrives P (lone (b.at a (.code c :: .inLoop c :: k)) cs w) b k cs e' a' w' := by
  intro n
  induction n with
  | zero => intro _ fr fr' m m' e j a w Q h; exact h.elim
  | succ n ih =>
    intro hA fr fr' m m' e j a w Q h hR hW hF hQ b k cs
    obtain ⟨e1, fr1, m1, h1, h2⟩ := h
    have hl := code_low hC n c _ _ _ _ _ hok h1 hW (hF.low hR)
    by_cases he : e1 = .normal
    · subst he
      rw [if_pos rfl] at h2
      have key : c.wp P (fun e a' w' => e = .normal ∧ ∃ e' a'' w'', Q e' a'' w'' ∧ Arrives P (lone (b.at a' (.code c :: .inLoop c :: k)) cs w') b k cs e' a'' w'') a w :=
        hA n (Nat.lt_succ_self n) _ _ _ _ _ j a w _ hok h1 hR hW hF fun a1 w1 j1 hp hF1 =>
          ⟨rfl, ih (fun n' hn' => hA n' (by omega)) _ _ _ _ _ j1 a1 w1 Q h2 hp.rel hl.1 hF1 (fun a2 w2 j2 hp2 hF2 => hQ a2 w2 j2 (hp.trans hp2) hF2) b k cs⟩
      obtain ⟨e', a1, w1, ⟨rfl, e2, a2, w2, hq2, harr2⟩, harr⟩ := key b (.inLoop c :: k) cs
      exact ⟨e2, a2, w2, hq2, .of_steps (Steps.trans harr (.one step_inLoop)) harr2⟩
    · rw [if_neg he] at h2
      obtain ⟨rfl, rfl, rfl⟩ := h2
      have key : c.wp P (fun e' a' w' => e' ≠ .normal ∧ Q e' a' w') a w :=
        hA n (Nat.lt_succ_self n) _ _ _ _ _ j a w _ hok h1 hR hW hF fun a1 w1 j1 hp hF1 => ⟨by cases e with
          | normal => exact absurd rfl he
          | exit id => simp [AExit.out]
          | ret => simp [AExit.out], hQ a1 w1 j1 hp hF1⟩
      obtain ⟨e', a1, w1, ⟨hne, hq⟩, harr⟩ := key b (.inLoop c :: k) cs
      exact ⟨e', a1, w1, hq, .pass (x := .inLoop c) rfl (fun _ _ => .inl hne) harr⟩

theorem code_sound {P : Program} {C : FuncId → Array Value → Mem → Value → Mem → Prop} (hmix : P.follows .mixedOrders = true) (hC : KeepsC C) (hS : SoundC P C) {N : Nat} : ∀ (n : Nat) (c : Code), CodeOk P C N n c := by
  intro n
  induction n using Nat.strongRecOn with
  | _ n ih =>
  cases n with
  | zero => intro c fr fr' m m' e j a w Q _ h; exact h.elim
  | succ n =>
    intro c fr fr' m m' e j a w Q hok h hR hW hF hQ
    have hlow := hF.low hR
    have ihn := ih n (Nat.lt_succ_self n)
    cases c with
    | skip => obtain ⟨rfl, rfl, rfl⟩ := h; exact wp_skip (hQ a w j (Post.refl hR) hF)
    | label l => obtain ⟨rfl, rfl, rfl⟩ := h; exact wp_label (hQ a w j (Post.refl hR) hF)
    | exit id => obtain ⟨rfl, rfl, rfl⟩ := h; exact wp_exit (hQ a w j (Post.refl hR) hF)
    | ret => obtain ⟨rfl, rfl, rfl⟩ := h; exact wp_ret (hQ a w j (Post.refl hR) hF)
    | region id ops d =>
      have hr := okRegion hok
      have hdst : ∀ o ∈ ops.toList, ∀ d, o.dst = some d → d < N := fun o ho => (hr.1 o ho).2
      cases d with
      | false =>
        obtain ⟨rfl, h⟩ := h
        exact wp_region_list (seq_sound hC hS hdst _ _ _ _ _ j a w hr.1 h hR hW hF hQ)
      | true =>
        obtain ⟨rfl, h⟩ := h
        exact draw_sound hmix h (hr.2 rfl) (fun o ho => (hr.1 o ho).1) (by rw [hF.size]; exact hdst) hC hS hR hW hF.val hF.defers fun a' w' j' hp hv hd hs => hQ a' w' j' hp ⟨hv, hd, by rw [hs]; exact hF.size⟩
    | seq a' b =>
      simp only [okCode, Bool.and_eq_true] at hok
      obtain ⟨e1, fr1, m1, h1, h2⟩ := h
      have hl := code_low hC n a' _ _ _ _ _ hok.1 h1 hW hlow
      refine wp_seq (ihn a' _ _ _ _ _ j a w _ hok.1 h1 hR hW hF fun a1 w1 j1 hp hF1 => ?_)
      split at h2
      · rename_i he
        subst he
        exact ihn b _ _ _ _ _ j1 a1 w1 Q hok.2 h2 hp.rel hl.1 hF1 fun a2 w2 j2 hp2 hF2 => hQ a2 w2 j2 (hp.trans hp2) hF2
      · rename_i he
        obtain ⟨rfl, rfl, rfl⟩ := h2
        cases e with
        | normal => exact absurd rfl he
        | exit id => exact hQ a1 w1 j1 hp hF1
        | ret => exact hQ a1 w1 j1 hp hF1
    | cond c x y =>
      simp only [okCode, Bool.and_eq_true] at hok
      obtain ⟨t, ht, h1⟩ := h
      have hv : VR j (ev fr c) (a.eval c) := okX_VR hok.1.1 fun t _ => hF.val t
      rw [ht] at hv
      refine wp_cond hv.bool ?_
      cases t
      · exact ihn y _ _ _ _ _ j a w Q hok.2 h1 hR hW hF hQ
      · exact ihn x _ _ _ _ _ j a w Q hok.1.2 h1 hR hW hF hQ
    | block id c =>
      obtain ⟨e1, h1, he⟩ := h
      refine wp_block (ihn c _ _ _ _ _ j a w _ hok h1 hR hW hF fun a1 w1 j1 hp hF1 => ?_)
      have := hQ a1 w1 j1 hp hF1
      rw [he] at this
      cases e1 with
      | normal => simp only [AExit.out] at this ⊢; exact this
      | exit id' =>
        by_cases hid : id' = id
        · subst hid
          simp only [if_pos, AExit.out] at this
          simp only [AExit.out, Exit.inBlock, if_pos]
          exact this
        · simp only [AExit.exit.injEq, hid, if_false, AExit.out] at this
          simp only [AExit.out, Exit.inBlock, hid, if_false]
          exact this
      | ret => simp only [AExit.out] at this ⊢; exact this
    | loop c =>
      intro b k cs
      obtain ⟨e', a1, w1, hq, harr⟩ := loop_inner hC (c := c) hok (n + 1) (fun n' hn' => ih n' hn' c) _ _ _ _ _ j a w Q h hR hW hF hQ b k cs
      exact ⟨e', a1, w1, hq, .of_steps (.one step_loop) harr⟩
    | rangeFunc f ps x y => exact h.elim
    | scope c => exact h.elim
    | goto l => exact h.elim
    | refuse s => exact h.elim

/-! ### Results, and calls -/

theorem result_sound {P : Program} {fr : Nat → Value} {m : Mem} {j : Emb} {N : Nat} {a : Act} {w : World} (hR : Rel P j m w) (hF : FR j N fr a) {r : ResultVar} {v : Value} (h : resultR P fr m r v) :
    ∃ cv, (match r with | .tmp t => (pure (a.tmps.getD t undef) : Sem Value) | .cell x t => do loadVar t (← asAddr (a.tmps.getD x undef))).run P w = .ok cv w ∧ VR j v cv := by
  cases r with
  | tmp t =>
    simp only [resultR] at h
    subst h
    exact ⟨_, rfl, hF.val t⟩
  | cell x t =>
    obtain ⟨b, off, hx, d, hd, hv⟩ := h
    have hX := hF.val x
    rw [hx] at hX
    obtain ⟨q, _, hj, hc⟩ := hX.ptr
    by_cases ha : aggT d = true
    · rw [if_pos ha] at hv
      obtain ⟨i, cs, hi, hrd, rfl⟩ := hv
      obtain ⟨ds, hl, hn, hdd⟩ := rdN_sound hR.rdOk hj _ _ _ hrd
      exact ⟨.agg ds.toArray, by simp [hc, asAddr, loadVar, run_ia hd, ha, run_so hi, run_cells hn hdd], ⟨_, rfl, by simpa using hl⟩⟩
    · rw [if_neg ha] at hv
      obtain ⟨cv, hcc, hr⟩ := hR.rdOk.load b q off v hj hv
      exact ⟨cv, by simp [hc, asAddr, loadVar, run_ia hd, ha, hcc], VR.of0 hr⟩

theorem results_sound {P : Program} {fr : Nat → Value} {m : Mem} {j : Emb} {N : Nat} {a : Act} {w : World} (hR : Rel P j m w) (hF : FR j N fr a) : ∀ (rs : List ResultVar) (vs : List Value), resultsR P fr m rs vs →
    ∃ cvs : List Value, (rs.mapM (m := Sem) fun | .tmp t => pure (a.tmps.getD t undef) | .cell x t => do loadVar t (← asAddr (a.tmps.getD x undef))).run P w = .ok cvs w ∧ L2 (VR j) vs cvs
  | [], [], _ => ⟨[], rfl, True.intro⟩
  | r :: rs, v :: vs, ⟨h1, h2⟩ => by
    obtain ⟨cv, hr, hv⟩ := result_sound hR hF h1
    obtain ⟨cvs, hrs, hvs⟩ := results_sound hR hF rs vs h2
    refine ⟨cv :: cvs, ?_, hv, hvs⟩
    simp only [List.mapM_cons, Sem.run_bind, Sem.run_pure]
    cases r with
    | tmp t => simp only [Sem.run_pure] at hr ⊢; rw [hr]; simp only [Result.andThen_ok, hrs]
    | cell x t => simp only [Sem.run_bind] at hr ⊢; rw [hr]; simp only [Result.andThen_ok, hrs]
  | [], _ :: _, h => h.elim
  | _ :: _, [], h => h.elim

theorem L2_storable {j : Emb} : ∀ {vs cvs : List Value}, L2 (VR j) vs cvs → (∀ x ∈ vs, storable x = true) → L2 (VR1 j) vs cvs
  | [], [], _, _ => True.intro
  | v :: vs, c :: cvs, ⟨h1, h2⟩, hs => ⟨VR.storable h1 (hs v (by simp)), L2_storable h2 fun x hx => hs x (by simp [hx])⟩
  | [], _ :: _, h, _ => h.elim
  | _ :: _, [], h, _ => h.elim

theorem args_frame {j : Emb} {args cargs : Array Value} (h : L2 (VR j) args.toList cargs.toList) (n : Nat) : ∀ t, VR j ((args ++ Array.replicate (n - args.size) undef).getD t undef) ((cargs ++ Array.replicate (n - cargs.size) undef).getD t undef) := by
  have hs := h.size
  intro t
  by_cases ht : t < args.size
  · have e1 : (args ++ Array.replicate (n - args.size) undef).getD t undef = args[t] := by
      rw [Array.getD_eq_getD_getElem?, Array.getElem?_append_left ht]; simp [ht]
    have ht' : t < cargs.size := by omega
    have e2 : (cargs ++ Array.replicate (n - cargs.size) undef).getD t undef = cargs[t] := by
      rw [Array.getD_eq_getD_getElem?, Array.getElem?_append_left ht']; simp [ht']
    rw [e1, e2]
    obtain ⟨b, hb, hr⟩ := h.getA t args[t] (by simp [ht])
    rw [Array.getElem?_eq_getElem ht'] at hb
    cases hb; exact hr
  · have e : ∀ (A : Array Value), A.size ≤ t → (A ++ Array.replicate (n - A.size) undef).getD t undef = undef := by
      intro A hA
      rw [Array.getD_eq_getD_getElem?, Array.getElem?_append_right hA]
      by_cases hh : t - A.size < n - A.size
      · simp [hh]
      · simp [hh]
    rw [e args (by omega), e cargs (by omega)]
    exact undef_VR j

theorem okFn_spec {P : Program} {f : FuncId} {fn : Func} {c : Code} (h : okFn P f = true) (hf : P.funcs[f]? = some fn) (hc : fn.body = some c) : (fn.name == "runtime.NumGoroutine") = false ∧ okCode fn.ntmps c = true := by
  simp only [okFn, hf, hc, Bool.and_eq_true, Bool.not_eq_true'] at h
  exact h

theorem WF.trunc {m m1 : Mem} (h : WF m) (hb : ∀ b, b < m.next → m1.blk b = m.blk b ∨ lowB m.next (m1.blk b)) : WF (m1.trunc m.next) where
  dead := fun b hb' => by
    have hb' : m.next ≤ b := hb'
    simp [Mem.trunc, show ¬ b < m.next by omega]
  low := fun b => by
    simp only [Mem.trunc]
    split
    · rename_i hlt
      rcases hb b hlt with h1 | h1
      · rw [h1]; exact h.low b
      · exact h1
    · exact True.intro

theorem calls_sound {P : Program} (hmix : P.follows .mixedOrders = true) : ∀ n, KeepsC (callR P n) ∧ SoundC P (callR P n) := by
  intro n
  induction n with
  | zero => exact ⟨fun f args m v m' h => h.elim, fun f args m v m' h => h.elim⟩
  | succ n ih =>
    obtain ⟨hC, hS⟩ := ih
    refine ⟨?_, ?_⟩
    · intro f args m v m' h hW hl
      obtain ⟨fn, c, e, fr, m1, vs, hf, hb, hokf, hsz, hrun, he, hres, rfl, hst, hm⟩ := h
      have hok := okFn_spec hokf hf hb
      have hfr : ∀ t, low m.next ((args ++ Array.replicate (fn.ntmps - args.size) undef).getD t undef) := by
        intro t
        rw [Array.getD_eq_getD_getElem?]
        cases hq : (args ++ Array.replicate (fn.ntmps - args.size) undef)[t]? with
        | none => exact undef_low
        | some x =>
          have := Array.mem_of_getElem? hq
          simp only [Array.mem_append, Array.mem_replicate] at this
          rcases this with h | ⟨_, rfl⟩
          · exact hl x (by simpa using h)
          · exact undef_low
      obtain ⟨g1, g2, g3⟩ := code_low hC n c _ _ _ _ _ hok.2 hrun hW hfr
      rcases hm with rfl | ⟨rfl, hlow, hblk⟩
      · refine ⟨?_, g1, g3⟩
        have hr : ∀ (rs : List ResultVar) (vs : List Value), resultsR P fr m' rs vs → ∀ x ∈ vs, low m'.next x := by
          intro rs
          induction rs with
          | nil => intro vs h x hx; cases vs with | nil => simp at hx | cons _ _ => exact h.elim
          | cons r rs ih =>
            intro vs h x hx
            cases vs with
            | nil => exact h.elim
            | cons u us =>
              rcases List.mem_cons.1 hx with rfl | hx
              · cases r with
                | tmp t => have := h.1; simp only [resultR] at this; rw [this]; exact g2 t
                | cell q t =>
                  obtain ⟨b, off, _, d, hd, hv⟩ := h.1
                  split at hv
                  · obtain ⟨i, cs, hi, hrd, rfl⟩ := hv
                    simpa [low, low1] using rdN_low g1 _ _ _ hrd
                  · exact low_of0 (load_low g1 hv)
              · exact ih us h.2 x hx
        have hall := hr _ _ hres
        rcases hst with h1 | h1
        · match vs, h1 with
          | [x], _ => exact hall x (by simp)
        · match vs with
          | [] => intro x hx; simp at hx
          | [x] => exact hall x (by simp)
          | x :: y :: l => intro z hz; exact low_storable (hall z (by simpa using hz)) (h1 z (by simpa using hz))
      · exact ⟨hlow, hW.trunc hblk, Nat.le_refl _⟩
    · intro f args m v m' h j w cargs hW hR hargs
      obtain ⟨fn, c, e, fr, m1, vs, hf, hb, hokf, hsz, hrun, he, hres, rfl, hst, hm⟩ := h
      have hok := okFn_spec hokf hf hb
      refine ⟨⟨fn, hf, hok.1, by simp [hb]⟩, ?_⟩
      refine calls_of_wp hf hb ?_
      have hF : FR j fn.ntmps (fun i => (args ++ Array.replicate (fn.ntmps - args.size) undef).getD i undef) { tmps := cargs ++ Array.replicate (fn.ntmps - cargs.size) undef, defers := [] } :=
        ⟨args_frame hargs fn.ntmps, rfl, by have := hargs.size; simp; omega⟩
      have hl := code_low hC n c _ _ _ _ _ hok.2 hrun hW (hF.low hR)
      refine code_sound hmix hC hS n c _ _ _ _ _ j _ w _ hok.2 hrun hR hW hF fun a' w' j' hp hF' => ?_
      obtain ⟨cvs, hcr, hcv⟩ := results_sound hp.rel hF' _ _ hres
      have hlen := hcv.length
      have hrr : (results fn a'.tmps).run P w' = .ok (pack cvs) w' := by
        simp only [results, Sem.run_bind]
        rw [Array.mapM_eq_mapM_toList]
        simp only [Sem.run_map]
        have hcr' := hcr
        refine Eq.trans (congrArg (fun r => Result.andThen (Result.andThen r _) _) hcr') ?_
        simp only [Result.andThen_ok, Sem.run_pure]
        congr 1
        match cvs with
        | [] => rfl
        | [x] => rfl
        | x :: y :: l => simp [pack]
      -- the value, and the world
      have hval : VR j' (pack vs) (pack cvs) := by
        rcases hst with h1 | h1
        · match vs, cvs, h1, hcv with
          | [x], [y], _, hh => exact hh.1
          | [x], [], _, hh => exact hh.elim
          | [x], _ :: _ :: _, _, hh => exact hh.2.elim
        · have h2 := L2_storable hcv h1
          match vs, cvs, hcv, h2 with
          | [x], [y], hh, _ => exact hh.1
          | [], [], _, _ => exact ⟨_, rfl, True.intro⟩
          | x :: y :: l, x' :: y' :: l', _, hh => exact ⟨_, rfl, by simpa using hh⟩
          | [x], [], hh, _ => exact hh.elim
          | [x], _ :: _ :: _, hh, _ => exact hh.2.elim
          | [], _ :: _, hh, _ => exact hh.elim
          | _ :: _ :: _, [], hh, _ => exact hh.elim
          | _ :: _ :: _, [_], hh, _ => exact hh.2.elim
      have hfin : ∃ j'', Post P j m w j'' m' w' ∧ VR j'' (pack vs) (pack cvs) := by
        rcases hm with rfl | ⟨rfl, hlow, hblk⟩
        · exact ⟨j', hp, hval⟩
        · have hWt := hW.trunc hblk
          have hrel : Rel P (j'.below m.next) (m1.trunc m.next) w' := Rel.below (m := m1.trunc m.next) hp.rel hWt (fun b e hb hlt => by
            have hlt : b < m.next := hlt
            simp [Mem.trunc, hlt])
          refine ⟨j'.below m.next, ⟨hrel, hp.frm, Nat.le_refl _, fun b hb => ?_, fun b e hb hge => ?_, fun b hb ho => ?_, fun b hb ho => ?_⟩, VR_below.2.2 hval hlow⟩
          · simp only [Emb.below, hb, if_true]; exact hp.ext b hb
          · have := (below_some hb).1; omega
          · simp only [Mem.trunc, hb, if_true] at ho; exact hp.old b hb ho
          · simp only [Mem.trunc, hb, if_true] at ho; exact hp.alive b hb ho
      obtain ⟨j'', hp'', hv''⟩ := hfin
      rcases he with rfl | rfl
      · exact ⟨hF'.defers, _, hrr, _, j'', rfl, hp'', hv''⟩
      · exact ⟨hF'.defers, _, hrr, _, j'', rfl, hp'', hv''⟩

end Go.AM
