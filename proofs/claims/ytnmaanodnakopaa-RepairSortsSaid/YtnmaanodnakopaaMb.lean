/- AmCode AmMono AmTy AmOps AmOps2 AmOps3 AmGen AmGen2 AmMap AmEq AmStart AmFn AmView AmX1 -/
import Derived.MapKept
import Derived.Laws.StructEq
import Derived.Below
import Derived.Deep.Slices
import Derived.Test.YtnmaanodnakopaaMa
section
set_option linter.unusedSimpArgs false
set_option linter.unusedVariables false
namespace Go.AM
structure FR (j : Emb) (N : Nat) (fr : Nat → Value) (a : Act) : Prop where
  val : ∀ t, VR j (fr t) (a.tmps.getD t undef)
  defers : a.defers = []
  size : a.tmps.size = N
theorem FR.put {j j' : Emb} {N : Nat} {fr : Nat → Value} {a : Act} {d : Option Tmp} {v cv : Value} (h : FR j N fr a) (hup : ∀ b e, j b = some e → j' b = some e) (hd : ∀ t, d = some t → t < N) (hv : VR j' v cv) : FR j' N (set fr d v) (a.put d cv) := by
  refine ⟨fun t => ?_, by rw [put_tmps.2]; exact h.defers, by rw [put_tmps.1]; exact h.size⟩
  cases d with
  | none => exact (h.val t).mono hup
  | some x =>
    have hx : x < a.tmps.size := by rw [h.size]; exact hd x rfl
    rw [put_get hx]
    simp only [set]
    split
    · exact hv
    · exact (h.val t).mono hup
theorem FR.ops {j : Emb} {N : Nat} {fr : Nat → Value} {a : Act} (h : FR j N fr a) {o : Oper} (ho : ∀ x ∈ o.op.operands, okX x = true) : OpsR j (ev fr) a.eval o :=
  fun x hx => okX_VR (ho x hx) fun t _ => h.val t
theorem undef_VR (j : Emb) : VR j undef undef := ⟨#[], rfl, True.intro⟩
theorem seq_sound {P : Program} {C : FuncId → Array Value → Mem → Value → Mem → Prop} {ops : Array Oper} {N : Nat} {Q : Exit → Act → World → Prop} (hC : KeepsC C) (hS : SoundC P C) (hdst : ∀ o ∈ ops.toList, ∀ d, o.dst = some d → d < N) :
    ∀ (l : List Oper) (fr fr' : Nat → Value) (m m' : Mem) (j : Emb) (a : Act) (w : World), (∀ o ∈ l, (∀ x ∈ o.op.operands, okX x = true) ∧ ∀ d, o.dst = some d → d < N) → seqR P C ops.toList l fr m fr' m' → Rel P j m w → WF m → FR j N fr a →
      (∀ a' w' j', Post P j m w j' m' w' → FR j' N fr' a' → Q .normal a' w') → wpList P ops Q l a w
  | [], fr, fr', m, m', j, a, w, hl, h, hR, hW, hF, hQ => by
    simp only [seqR] at h
    obtain ⟨rfl, rfl⟩ := h
    exact hQ a w j (Post.refl hR) hF
  | o :: l, fr, fr', m, m', j, a, w, hl, h, hR, hW, hF, hQ => by
    obtain ⟨hx, hd⟩ := hl o (by simp)
    have hl' : ∀ o ∈ l, (∀ x ∈ o.op.operands, okX x = true) ∧ ∀ d, o.dst = some d → d < N := fun p hp => hl p (by simp [hp])
    have hwant : Region.wanted o (yielded ops a.tmps) = wanted ops.toList fr o := wanted_eq hF.size hdst fun g w d hg hd => hF.val d
    unfold wpList
    rw [hwant]
    simp only [seqR] at h
    by_cases hw : wanted ops.toList fr o = true
    · rw [if_pos hw]
      rw [if_pos hw] at h
      obtain ⟨v, m1, hstep, hrest⟩ := h
      have hlow : ∀ t, low m.next (fr t) := fun t => (VR_low fun b e hb => (hR.lt b e hb).1).2.2 (hF.val t)
      have hst := step_low hstep hW hlow hC hx
      have hops := hF.ops hx
      have cont : ∀ cv w' j', Post P j m w j' m1 w' → VR j' v cv → wpList P ops Q l (a.put o.dst cv) w' := fun cv w' j' hp hv =>
        seq_sound hC hS hdst l _ _ _ _ j' _ _ hl' hrest hp.rel hst.2.1 (hF.put (hp.up hR) hd hv) fun a' w'' j'' hp' hF' => hQ a' w'' j'' (hp.trans hp') hF'
      left
      cases hstep with
      | pure h =>
        obtain ⟨cv, hr, hv⟩ := pure_sound h hops w
        unfold Oper.wp
        rw [hr]
        exact cont cv w j (Post.refl hR) hv
      | read h =>
        obtain ⟨cv, hr, hv⟩ := read_sound h hops hR.rdOk
        unfold Oper.wp
        rw [hr]
        exact cont cv w j (Post.refl hR) hv
      | new h =>
        obtain ⟨cv, w', j', hr, hp, hv⟩ := new_sound h hops hR
        unfold Oper.wp
        rw [hr]
        exact cont cv w' j' hp hv
      | eff h => exact eff_wp h hops hR hW hS cont
    · rw [if_neg hw]
      rw [if_neg hw] at h
      exact seq_sound hC hS hdst l _ _ _ _ j _ _ hl' h hR hW (hF.put (fun _ _ h => h) hd (undef_VR j)) hQ
theorem seq_low {P : Program} {C : FuncId → Array Value → Mem → Value → Mem → Prop} {ops : List Oper} (hC : KeepsC C) : ∀ (l : List Oper) (fr fr' : Nat → Value) (m m' : Mem), (∀ o ∈ l, ∀ x ∈ o.op.operands, okX x = true) → seqR P C ops l fr m fr' m' → WF m → (∀ t, low m.next (fr t)) →
    WF m' ∧ (∀ t, low m'.next (fr' t)) ∧ m.next ≤ m'.next
  | [], fr, fr', m, m', hl, h, hW, hf => by
    simp only [seqR] at h
    obtain ⟨rfl, rfl⟩ := h
    exact ⟨hW, hf, Nat.le_refl _⟩
  | o :: l, fr, fr', m, m', hl, h, hW, hf => by
    simp only [seqR] at h
    have hl' : ∀ o ∈ l, ∀ x ∈ o.op.operands, okX x = true := fun p hp => hl p (by simp [hp])
    split at h
    · obtain ⟨v, m1, hstep, hrest⟩ := h
      have hst := step_low hstep hW hf hC (hl o (by simp))
      have := seq_low hC l _ _ _ _ hl' hrest hst.2.1 (set_low (fun t => low_mono hst.2.2 (hf t)) hst.1)
      exact ⟨this.1, this.2.1, Nat.le_trans hst.2.2 this.2.2⟩
    · exact seq_low hC l _ _ _ _ hl' h hW (set_low hf undef_low)
theorem draw_low {P : Program} {C : FuncId → Array Value → Mem → Value → Mem → Prop} {ops : List Oper} {B : Array Nat} (hC : KeepsC C) : ∀ (l : List Oper) (i : Nat) (A : Acc) (fr fr' : Nat → Value) (m m' : Mem), (∀ o ∈ l, ∀ x ∈ o.op.operands, okX x = true) → drawR P C ops B i l A fr m fr' m' → WF m → (∀ t, low m.next (fr t)) →
    WF m' ∧ (∀ t, low m'.next (fr' t)) ∧ m.next ≤ m'.next
  | [], i, A, fr, fr', m, m', hl, h, hW, hf => by
    simp only [drawR] at h
    obtain ⟨rfl, rfl⟩ := h
    exact ⟨hW, hf, Nat.le_refl _⟩
  | o :: l, i, A, fr, fr', m, m', hl, h, hW, hf => by
    simp only [drawR] at h
    have hl' : ∀ o ∈ l, ∀ x ∈ o.op.operands, okX x = true := fun p hp => hl p (by simp [hp])
    have key : ∀ v m1 A', StepR P C (ev fr) o m v m1 → drawR P C ops B (i + 1) l A' (set fr o.dst v) m1 fr' m' → WF m' ∧ (∀ t, low m'.next (fr' t)) ∧ m.next ≤ m'.next := by
      intro v m1 A' hstep hrest
      have hst := step_low hstep hW hf hC (hl o (by simp))
      have := draw_low hC l _ _ _ _ _ _ hl' hrest hst.2.1 (set_low (fun t => low_mono hst.2.2 (hf t)) hst.1)
      exact ⟨this.1, this.2.1, Nat.le_trans hst.2.2 this.2.2⟩
    split at h
    · rcases h with ⟨v, hp, hd⟩ | ⟨v, hp, _, hd⟩ | ⟨X, v, hp, hd⟩ | ⟨v, m1, hp, _, _, hd⟩
      · exact key _ _ _ (.pure hp) hd
      · exact key _ _ _ (.read hp) hd
      · exact key _ _ _ (.new hp) hd
      · exact key _ _ _ (.eff hp) hd
    · exact draw_low hC l _ _ _ _ _ _ hl' h hW (set_low hf undef_low)
theorem okRegion {n id : Nat} {ops : Array Oper} {d : Bool} (h : okCode n (.region id ops d) = true) : (∀ o ∈ ops.toList, (∀ x ∈ o.op.operands, okX x = true) ∧ ∀ d, o.dst = some d → d < n) ∧ (d = true → drawOk ops = true) := by
  simp only [okCode, Bool.and_eq_true, List.all_eq_true, Bool.or_eq_true, Bool.not_eq_true'] at h
  refine ⟨fun o ho => ⟨fun x hx => (h.1 o ho).1 x (by simpa using hx), fun t ht => ?_⟩, fun hd => ?_⟩
  · have := (h.1 o ho).2
    rw [ht] at this
    simpa using this
  · rcases h.2 with h | h
    · rw [hd] at h; cases h
    · exact h
theorem code_low {P : Program} {C : FuncId → Array Value → Mem → Value → Mem → Prop} (hC : KeepsC C) {N : Nat} : ∀ (n : Nat) (c : Code) (fr fr' : Nat → Value) (m m' : Mem) (e : AExit), okCode N c = true → codeR P C n c fr m e fr' m' → WF m → (∀ t, low m.next (fr t)) →
    WF m' ∧ (∀ t, low m'.next (fr' t)) ∧ m.next ≤ m'.next := by
  intro n
  induction n with
  | zero => intro c fr fr' m m' e _ h; exact h.elim
  | succ n ih =>
    intro c fr fr' m m' e hok h hW hf
    cases c with
    | skip => obtain ⟨_, rfl, rfl⟩ := h; exact ⟨hW, hf, Nat.le_refl _⟩
    | label l => obtain ⟨_, rfl, rfl⟩ := h; exact ⟨hW, hf, Nat.le_refl _⟩
    | exit id => obtain ⟨_, rfl, rfl⟩ := h; exact ⟨hW, hf, Nat.le_refl _⟩
    | ret => obtain ⟨_, rfl, rfl⟩ := h; exact ⟨hW, hf, Nat.le_refl _⟩
    | region id ops d =>
      have hr := okRegion hok
      cases d with
      | false => exact seq_low hC _ _ _ _ _ (fun o ho => (hr.1 o ho).1) h.2 hW hf
      | true => exact draw_low hC _ _ _ _ _ _ _ (fun o ho => (hr.1 o ho).1) h.2 hW hf
    | seq a b =>
      simp only [okCode, Bool.and_eq_true] at hok
      obtain ⟨e1, fr1, m1, h1, h2⟩ := h
      obtain ⟨g1, g2, g3⟩ := ih a _ _ _ _ _ hok.1 h1 hW hf
      split at h2
      · obtain ⟨k1, k2, k3⟩ := ih b _ _ _ _ _ hok.2 h2 g1 g2
        exact ⟨k1, k2, Nat.le_trans g3 k3⟩
      · obtain ⟨_, rfl, rfl⟩ := h2; exact ⟨g1, g2, g3⟩
    | cond c a b =>
      simp only [okCode, Bool.and_eq_true] at hok
      obtain ⟨t, _, h1⟩ := h
      cases t
      · exact ih b _ _ _ _ _ hok.2 h1 hW hf
      · exact ih a _ _ _ _ _ hok.1.2 h1 hW hf
    | block id c =>
      obtain ⟨e1, h1, _⟩ := h
      exact ih c _ _ _ _ _ hok h1 hW hf
    | loop c =>
      obtain ⟨e1, fr1, m1, h1, h2⟩ := h
      obtain ⟨g1, g2, g3⟩ := ih c _ _ _ _ _ hok h1 hW hf
      split at h2
      · obtain ⟨k1, k2, k3⟩ := ih (.loop c) _ _ _ _ _ hok h2 g1 g2
        exact ⟨k1, k2, Nat.le_trans g3 k3⟩
      · obtain ⟨_, rfl, rfl⟩ := h2; exact ⟨g1, g2, g3⟩
    | rangeFunc f ps x y => exact h.elim
    | scope c => exact h.elim
    | goto l => exact h.elim
    | refuse s => exact h.elim
def AExit.out : AExit → Exit
  | .normal => .normal
  | .exit id => .exit id
  | .ret => .ret
def CodeOk (P : Program) (C : FuncId → Array Value → Mem → Value → Mem → Prop) (N n : Nat) (c : Code) : Prop :=
  ∀ (fr fr' : Nat → Value) (m m' : Mem) (e : AExit) (j : Emb) (a : Act) (w : World) (Q : Exit → Act → World → Prop),
    okCode N c = true → codeR P C n c fr m e fr' m' → Rel P j m w → WF m → FR j N fr a → (∀ a' w' j', Post P j m w j' m' w' → FR j' N fr' a' → Q e.out a' w') → c.wp P Q a w
theorem FR.low {P : Program} {j : Emb} {N : Nat} {fr : Nat → Value} {a : Act} {m : Mem} {w : World} (hF : FR j N fr a) (hR : Rel P j m w) : ∀ t, low m.next (fr t) := fun t => (VR_low fun b e hb => (hR.lt b e hb).1).2.2 (hF.val t)
theorem loop_inner {P : Program} {C : FuncId → Array Value → Mem → Value → Mem → Prop} (hC : KeepsC C) {N : Nat} {c : Code} (hok : okCode N c = true) : ∀ (n : Nat), (∀ n', n' < n → CodeOk P C N n' c) → ∀ (fr fr' : Nat → Value) (m m' : Mem) (e : AExit) (j : Emb) (a : Act) (w : World) (Q : Exit → Act → World → Prop),
    codeR P C n (.loop c) fr m e fr' m' → Rel P j m w → WF m → FR j N fr a → (∀ a' w' j', Post P j m w j' m' w' → FR j' N fr' a' → Q e.out a' w') →
    ∀ (b : Frame) (k : List Item) (cs : List Frame), ∃ e' a' w', Q e' a' w' ∧ Arrives P (lone (b.at a (.code c :: .inLoop c :: k)) cs w) b k cs e' a' w' := by
  intro n
  induction n with
  | zero => intro _ fr fr' m m' e j a w Q h; exact h.elim
  | succ n ih =>
    intro hA fr fr' m m' e j a w Q h hR hW hF hQ b k cs
    obtain ⟨e1, fr1, m1, h1, h2⟩ := h
    have hl := code_low hC n c _ _ _ _ _ hok h1 hW (hF.low hR)
    by_cases he : e1 = .normal
    · subst he
      rw [if_pos rfl] at h2
      have key : c.wp P (fun e a' w' => e = .normal ∧ ∃ e' a'' w'', Q e' a'' w'' ∧ Arrives P (lone (b.at a' (.code c :: .inLoop c :: k)) cs w') b k cs e' a'' w'') a w :=
        hA n (Nat.lt_succ_self n) _ _ _ _ _ j a w _ hok h1 hR hW hF fun a1 w1 j1 hp hF1 =>
          ⟨rfl, ih (fun n' hn' => hA n' (by omega)) _ _ _ _ _ j1 a1 w1 Q h2 hp.rel hl.1 hF1 (fun a2 w2 j2 hp2 hF2 => hQ a2 w2 j2 (hp.trans hp2) hF2) b k cs⟩
      obtain ⟨e', a1, w1, ⟨rfl, e2, a2, w2, hq2, harr2⟩, harr⟩ := key b (.inLoop c :: k) cs
      exact ⟨e2, a2, w2, hq2, .of_steps (Steps.trans harr (.one step_inLoop)) harr2⟩
    · rw [if_neg he] at h2
      obtain ⟨rfl, rfl, rfl⟩ := h2
      have key : c.wp P (fun e' a' w' => e' ≠ .normal ∧ Q e' a' w') a w :=
        hA n (Nat.lt_succ_self n) _ _ _ _ _ j a w _ hok h1 hR hW hF fun a1 w1 j1 hp hF1 => ⟨by cases e with
          | normal => exact absurd rfl he
          | exit id => simp [AExit.out]
          | ret => simp [AExit.out], hQ a1 w1 j1 hp hF1⟩
      obtain ⟨e', a1, w1, ⟨hne, hq⟩, harr⟩ := key b (.inLoop c :: k) cs
      exact ⟨e', a1, w1, hq, .pass (x := .inLoop c) rfl (fun _ _ => .inl hne) harr⟩
theorem code_sound {P : Program} {C : FuncId → Array Value → Mem → Value → Mem → Prop} (hmix : P.follows .mixedOrders = true) (hC : KeepsC C) (hS : SoundC P C) {N : Nat} : ∀ (n : Nat) (c : Code), CodeOk P C N n c := by
  intro n
  induction n using Nat.strongRecOn with
  | _ n ih =>
  cases n with
  | zero => intro c fr fr' m m' e j a w Q _ h; exact h.elim
  | succ n =>
    intro c fr fr' m m' e j a w Q hok h hR hW hF hQ
    have hlow := hF.low hR
    have ihn := ih n (Nat.lt_succ_self n)
    cases c with
    | skip => obtain ⟨rfl, rfl, rfl⟩ := h; exact wp_skip (hQ a w j (Post.refl hR) hF)
    | label l => obtain ⟨rfl, rfl, rfl⟩ := h; exact wp_label (hQ a w j (Post.refl hR) hF)
    | exit id => obtain ⟨rfl, rfl, rfl⟩ := h; exact wp_exit (hQ a w j (Post.refl hR) hF)
    | ret => obtain ⟨rfl, rfl, rfl⟩ := h; exact wp_ret (hQ a w j (Post.refl hR) hF)
    | region id ops d =>
      have hr := okRegion hok
      have hdst : ∀ o ∈ ops.toList, ∀ d, o.dst = some d → d < N := fun o ho => (hr.1 o ho).2
      cases d with
      | false =>
        obtain ⟨rfl, h⟩ := h
        exact wp_region_list (seq_sound hC hS hdst _ _ _ _ _ j a w hr.1 h hR hW hF hQ)
      | true =>
        obtain ⟨rfl, h⟩ := h
        exact draw_sound hmix h (hr.2 rfl) (fun o ho => (hr.1 o ho).1) (by rw [hF.size]; exact hdst) hC hS hR hW hF.val hF.defers fun a' w' j' hp hv hd hs => hQ a' w' j' hp ⟨hv, hd, by rw [hs]; exact hF.size⟩
    | seq a' b =>
      simp only [okCode, Bool.and_eq_true] at hok
      obtain ⟨e1, fr1, m1, h1, h2⟩ := h
      have hl := code_low hC n a' _ _ _ _ _ hok.1 h1 hW hlow
      refine wp_seq (ihn a' _ _ _ _ _ j a w _ hok.1 h1 hR hW hF fun a1 w1 j1 hp hF1 => ?_)
      split at h2
      · rename_i he
        subst he
        exact ihn b _ _ _ _ _ j1 a1 w1 Q hok.2 h2 hp.rel hl.1 hF1 fun a2 w2 j2 hp2 hF2 => hQ a2 w2 j2 (hp.trans hp2) hF2
      · rename_i he
        obtain ⟨rfl, rfl, rfl⟩ := h2
        cases e with
        | normal => exact absurd rfl he
        | exit id => exact hQ a1 w1 j1 hp hF1
        | ret => exact hQ a1 w1 j1 hp hF1
    | cond c x y =>
      simp only [okCode, Bool.and_eq_true] at hok
      obtain ⟨t, ht, h1⟩ := h
      have hv : VR j (ev fr c) (a.eval c) := okX_VR hok.1.1 fun t _ => hF.val t
      rw [ht] at hv
      refine wp_cond hv.bool ?_
      cases t
      · exact ihn y _ _ _ _ _ j a w Q hok.2 h1 hR hW hF hQ
      · exact ihn x _ _ _ _ _ j a w Q hok.1.2 h1 hR hW hF hQ
    | block id c =>
      obtain ⟨e1, h1, he⟩ := h
      refine wp_block (ihn c _ _ _ _ _ j a w _ hok h1 hR hW hF fun a1 w1 j1 hp hF1 => ?_)
      have := hQ a1 w1 j1 hp hF1
      rw [he] at this
      cases e1 with
      | normal => simp only [AExit.out] at this ⊢; exact this
      | exit id' =>
        by_cases hid : id' = id
        · subst hid
          simp only [if_pos, AExit.out] at this
          simp only [AExit.out, Exit.inBlock, if_pos]
          exact this
        · simp only [AExit.exit.injEq, hid, if_false, AExit.out] at this
          simp only [AExit.out, Exit.inBlock, hid, if_false]
          exact this
      | ret => simp only [AExit.out] at this ⊢; exact this
    | loop c =>
      intro b k cs
      obtain ⟨e', a1, w1, hq, harr⟩ := loop_inner hC (c := c) hok (n + 1) (fun n' hn' => ih n' hn' c) _ _ _ _ _ j a w Q h hR hW hF hQ b k cs
      exact ⟨e', a1, w1, hq, .of_steps (.one step_loop) harr⟩
    | rangeFunc f ps x y => exact h.elim
    | scope c => exact h.elim
    | goto l => exact h.elim
    | refuse s => exact h.elim
theorem result_sound {P : Program} {fr : Nat → Value} {m : Mem} {j : Emb} {N : Nat} {a : Act} {w : World} (hR : Rel P j m w) (hF : FR j N fr a) {r : ResultVar} {v : Value} (h : resultR P fr m r v) :
    ∃ cv, (match r with | .tmp t => (pure (a.tmps.getD t undef) : Sem Value) | .cell x t => do loadVar t (← asAddr (a.tmps.getD x undef))).run P w = .ok cv w ∧ VR j v cv := by
  cases r with
  | tmp t =>
    simp only [resultR] at h
    subst h
    exact ⟨_, rfl, hF.val t⟩
  | cell x t =>
    obtain ⟨b, off, hx, d, hd, hv⟩ := h
    have hX := hF.val x
    rw [hx] at hX
    obtain ⟨q, _, hj, hc⟩ := hX.ptr
    by_cases ha : aggT d = true
    · rw [if_pos ha] at hv
      obtain ⟨i, cs, hi, hrd, rfl⟩ := hv
      obtain ⟨ds, hl, hn, hdd⟩ := rdN_sound hR.rdOk hj _ _ _ hrd
      exact ⟨.agg ds.toArray, by simp [hc, asAddr, loadVar, run_ia hd, ha, run_so hi, run_cells hn hdd], ⟨_, rfl, by simpa using hl⟩⟩
    · rw [if_neg ha] at hv
      obtain ⟨cv, hcc, hr⟩ := hR.rdOk.load b q off v hj hv
      exact ⟨cv, by simp [hc, asAddr, loadVar, run_ia hd, ha, hcc], VR.of0 hr⟩
theorem results_sound {P : Program} {fr : Nat → Value} {m : Mem} {j : Emb} {N : Nat} {a : Act} {w : World} (hR : Rel P j m w) (hF : FR j N fr a) : ∀ (rs : List ResultVar) (vs : List Value), resultsR P fr m rs vs →
    ∃ cvs : List Value, (rs.mapM (m := Sem) fun | .tmp t => pure (a.tmps.getD t undef) | .cell x t => do loadVar t (← asAddr (a.tmps.getD x undef))).run P w = .ok cvs w ∧ L2 (VR j) vs cvs
  | [], [], _ => ⟨[], rfl, True.intro⟩
  | r :: rs, v :: vs, ⟨h1, h2⟩ => by
    obtain ⟨cv, hr, hv⟩ := result_sound hR hF h1
    obtain ⟨cvs, hrs, hvs⟩ := results_sound hR hF rs vs h2
    refine ⟨cv :: cvs, ?_, hv, hvs⟩
    simp only [List.mapM_cons, Sem.run_bind, Sem.run_pure]
    cases r with
    | tmp t => simp only [Sem.run_pure] at hr ⊢; rw [hr]; simp only [Result.andThen_ok, hrs]
    | cell x t => simp only [Sem.run_bind] at hr ⊢; rw [hr]; simp only [Result.andThen_ok, hrs]
  | [], _ :: _, h => h.elim
  | _ :: _, [], h => h.elim
theorem L2_storable {j : Emb} : ∀ {vs cvs : List Value}, L2 (VR j) vs cvs → (∀ x ∈ vs, storable x = true) → L2 (VR1 j) vs cvs
  | [], [], _, _ => True.intro
  | v :: vs, c :: cvs, ⟨h1, h2⟩, hs => ⟨VR.storable h1 (hs v (by simp)), L2_storable h2 fun x hx => hs x (by simp [hx])⟩
  | [], _ :: _, h, _ => h.elim
  | _ :: _, [], h, _ => h.elim
theorem args_frame {j : Emb} {args cargs : Array Value} (h : L2 (VR j) args.toList cargs.toList) (n : Nat) : ∀ t, VR j ((args ++ Array.replicate (n - args.size) undef).getD t undef) ((cargs ++ Array.replicate (n - cargs.size) undef).getD t undef) := by
  have hs := h.size
  intro t
  by_cases ht : t < args.size
  · have e1 : (args ++ Array.replicate (n - args.size) undef).getD t undef = args[t] := by
      rw [Array.getD_eq_getD_getElem?, Array.getElem?_append_left ht]; simp [ht]
    have ht' : t < cargs.size := by omega
    have e2 : (cargs ++ Array.replicate (n - cargs.size) undef).getD t undef = cargs[t] := by
      rw [Array.getD_eq_getD_getElem?, Array.getElem?_append_left ht']; simp [ht']
    rw [e1, e2]
    obtain ⟨b, hb, hr⟩ := h.getA t args[t] (by simp [ht])
    rw [Array.getElem?_eq_getElem ht'] at hb
    cases hb; exact hr
  · have e : ∀ (A : Array Value), A.size ≤ t → (A ++ Array.replicate (n - A.size) undef).getD t undef = undef := by
      intro A hA
      rw [Array.getD_eq_getD_getElem?, Array.getElem?_append_right hA]
      by_cases hh : t - A.size < n - A.size
      · simp [hh]
      · simp [hh]
    rw [e args (by omega), e cargs (by omega)]
    exact undef_VR j
theorem okFn_spec {P : Program} {f : FuncId} {fn : Func} {c : Code} (h : okFn P f = true) (hf : P.funcs[f]? = some fn) (hc : fn.body = some c) : (fn.name == "runtime.NumGoroutine") = false ∧ okCode fn.ntmps c = true := by
  simp only [okFn, hf, hc, Bool.and_eq_true, Bool.not_eq_true'] at h
  exact h
theorem WF.trunc {m m1 : Mem} (h : WF m) (hb : ∀ b, b < m.next → m1.blk b = m.blk b ∨ lowB m.next (m1.blk b)) : WF (m1.trunc m.next) where
  dead := fun b hb' => by
    have hb' : m.next ≤ b := hb'
    simp [Mem.trunc, show ¬ b < m.next by omega]
  low := fun b => by
    simp only [Mem.trunc]
    split
    · rename_i hlt
      rcases hb b hlt with h1 | h1
      · rw [h1]; exact h.low b
      · exact h1
    · exact True.intro
theorem calls_sound {P : Program} (hmix : P.follows .mixedOrders = true) : ∀ n, KeepsC (callR P n) ∧ SoundC P (callR P n) := by
  intro n
  induction n with
  | zero => exact ⟨fun f args m v m' h => h.elim, fun f args m v m' h => h.elim⟩
  | succ n ih =>
    obtain ⟨hC, hS⟩ := ih
    refine ⟨?_, ?_⟩
    · intro f args m v m' h hW hl
      rcases h with ⟨_, h⟩ | h
      · exact sort_keeps h hW
      obtain ⟨fn, c, e, fr, m1, vs, hf, hb, hokf, hsz, hrun, he, hres, rfl, hst, hm⟩ := h
      have hok := okFn_spec hokf hf hb
      have hfr : ∀ t, low m.next ((args ++ Array.replicate (fn.ntmps - args.size) undef).getD t undef) := by
        intro t
        rw [Array.getD_eq_getD_getElem?]
        cases hq : (args ++ Array.replicate (fn.ntmps - args.size) undef)[t]? with
        | none => exact undef_low
        | some x =>
          have := Array.mem_of_getElem? hq
          simp only [Array.mem_append, Array.mem_replicate] at this
          rcases this with h | ⟨_, rfl⟩
          · exact hl x (by simpa using h)
          · exact undef_low
      obtain ⟨g1, g2, g3⟩ := code_low hC n c _ _ _ _ _ hok.2 hrun hW hfr
      rcases hm with rfl | ⟨rfl, hlow, hblk⟩
      · refine ⟨?_, g1, g3⟩
        have hr : ∀ (rs : List ResultVar) (vs : List Value), resultsR P fr m' rs vs → ∀ x ∈ vs, low m'.next x := by
          intro rs
          induction rs with
          | nil => intro vs h x hx; cases vs with | nil => simp at hx | cons _ _ => exact h.elim
          | cons r rs ih =>
            intro vs h x hx
            cases vs with
            | nil => exact h.elim
            | cons u us =>
              rcases List.mem_cons.1 hx with rfl | hx
              · cases r with
                | tmp t => have := h.1; simp only [resultR] at this; rw [this]; exact g2 t
                | cell q t =>
                  obtain ⟨b, off, _, d, hd, hv⟩ := h.1
                  split at hv
                  · obtain ⟨i, cs, hi, hrd, rfl⟩ := hv
                    simpa [low, low1] using rdN_low g1 _ _ _ hrd
                  · exact low_of0 (load_low g1 hv)
              · exact ih us h.2 x hx
        have hall := hr _ _ hres
        rcases hst with h1 | h1
        · match vs, h1 with
          | [x], _ => exact hall x (by simp)
        · match vs with
          | [] => intro x hx; simp at hx
          | [x] => exact hall x (by simp)
          | x :: y :: l => intro z hz; exact low_storable (hall z (by simpa using hz)) (h1 z (by simpa using hz))
      · exact ⟨hlow, hW.trunc hblk, Nat.le_refl _⟩
    · intro f args m v m' h j w cargs hW hR hargs
      rcases h with ⟨hokf, h⟩ | h
      · refine ⟨?_, sort_sound h hR hargs⟩
        cases hf : P.funcs[f]? with
        | none => simp [okFn, hf] at hokf
        | some fn =>
          cases hb : fn.body with
          | none => simp [okFn, hf, hb] at hokf
          | some c => exact ⟨fn, rfl, (okFn_spec hokf hf hb).1, by simp [hb]⟩
      obtain ⟨fn, c, e, fr, m1, vs, hf, hb, hokf, hsz, hrun, he, hres, rfl, hst, hm⟩ := h
      have hok := okFn_spec hokf hf hb
      refine ⟨⟨fn, hf, hok.1, by simp [hb]⟩, ?_⟩
      refine calls_of_wp hf hb ?_
      have hF : FR j fn.ntmps (fun i => (args ++ Array.replicate (fn.ntmps - args.size) undef).getD i undef) { tmps := cargs ++ Array.replicate (fn.ntmps - cargs.size) undef, defers := [] } :=
        ⟨args_frame hargs fn.ntmps, rfl, by have := hargs.size; simp; omega⟩
      have hl := code_low hC n c _ _ _ _ _ hok.2 hrun hW (hF.low hR)
      refine code_sound hmix hC hS n c _ _ _ _ _ j _ w _ hok.2 hrun hR hW hF fun a' w' j' hp hF' => ?_
      obtain ⟨cvs, hcr, hcv⟩ := results_sound hp.rel hF' _ _ hres
      have hlen := hcv.length
      have hrr : (results fn a'.tmps).run P w' = .ok (pack cvs) w' := by
        simp only [results, Sem.run_bind]
        rw [Array.mapM_eq_mapM_toList]
        simp only [Sem.run_map]
        have hcr' := hcr
        refine Eq.trans (congrArg (fun r => Result.andThen (Result.andThen r _) _) hcr') ?_
        simp only [Result.andThen_ok, Sem.run_pure]
        congr 1
        match cvs with
        | [] => rfl
        | [x] => rfl
        | x :: y :: l => simp [pack]
      -- the value, and the world
      have hval : VR j' (pack vs) (pack cvs) := by
        rcases hst with h1 | h1
        · match vs, cvs, h1, hcv with
          | [x], [y], _, hh => exact hh.1
          | [x], [], _, hh => exact hh.elim
          | [x], _ :: _ :: _, _, hh => exact hh.2.elim
        · have h2 := L2_storable hcv h1
          match vs, cvs, hcv, h2 with
          | [x], [y], hh, _ => exact hh.1
          | [], [], _, _ => exact ⟨_, rfl, True.intro⟩
          | x :: y :: l, x' :: y' :: l', _, hh => exact ⟨_, rfl, by simpa using hh⟩
          | [x], [], hh, _ => exact hh.elim
          | [x], _ :: _ :: _, hh, _ => exact hh.2.elim
          | [], _ :: _, hh, _ => exact hh.elim
          | _ :: _ :: _, [], hh, _ => exact hh.elim
          | _ :: _ :: _, [_], hh, _ => exact hh.2.elim
      have hfin : ∃ j'', Post P j m w j'' m' w' ∧ VR j'' (pack vs) (pack cvs) := by
        rcases hm with rfl | ⟨rfl, hlow, hblk⟩
        · exact ⟨j', hp, hval⟩
        · have hWt := hW.trunc hblk
          have hrel : Rel P (j'.below m.next) (m1.trunc m.next) w' := Rel.below (m := m1.trunc m.next) hp.rel hWt (fun b e hb hlt => by
            have hlt : b < m.next := hlt
            simp [Mem.trunc, hlt])
          refine ⟨j'.below m.next, ⟨hrel, hp.frm, Nat.le_refl _, fun b hb => ?_, fun b e hb hge => ?_, fun b hb ho => ?_, fun b hb ho => ?_⟩, VR_below.2.2 hval hlow⟩
          · simp only [Emb.below, hb, if_true]; exact hp.ext b hb
          · have := (below_some hb).1; omega
          · simp only [Mem.trunc, hb, if_true] at ho; exact hp.old b hb ho
          · simp only [Mem.trunc, hb, if_true] at ho; exact hp.alive b hb ho
      obtain ⟨j'', hp'', hv''⟩ := hfin
      rcases he with rfl | rfl
      · exact ⟨hF'.defers, _, hrr, _, j'', rfl, hp'', hv''⟩
      · exact ⟨hF'.defers, _, hrr, _, j'', rfl, hp'', hv''⟩
end Go.AM
end
section
set_option linter.unusedSimpArgs false
set_option linter.unusedVariables false
namespace Go.AM
def CLe (C C' : FuncId → Array Value → Mem → Value → Mem → Prop) : Prop := ∀ f args m v m', C f args m v m' → C' f args m v m'
theorem EffR.mono {P : Program} {C C' : FuncId → Array Value → Mem → Value → Mem → Prop} (hC : CLe C C') {ρ : Operand → Value} {o : Oper} {m m' : Mem} {v : Value} (h : EffR P C ρ o m v m') : EffR P C' ρ o m v m' := by
  cases h with
  | store t x y b off i L e h hx hi hm hv hs hl => exact .store t x y b off i L e h hx hi hm hv hs hl
  | call f args v m' h hC' => exact .call f args v m' h (hC _ _ _ _ _ hC')
  | appendNone x y t u e i a l c h ht hi hx hc hlc hy => exact .appendNone x y t u e i a l c h ht hi hx hc hlc hy
  | appendNew x y t u e i z a l c n old new h ht hi hz hzf hzs hsz hx hc ho hol hy hn hb hm => exact .appendNew x y t u e i z a l c n old new h ht hi hz hzf hzs hsz hx hc ho hol hy hn hb hm
  | appendIn x y t u e i b off l c n L new h ht hi hx hcb hc hm hy hn hl => exact .appendIn x y t u e i b off l c n L new h ht hi hx hcb hc hm hy hn hl
  | append x y t u e i z b off l n L new h ht hi hz hzf hzs hsz hx hmb hlL hy hn hb hm => exact .append x y t u e i z b off l n L new h ht hi hz hzf hzs hsz hx hmb hlL hy hn hb hm
  | copy x y t u e i b off l c L cs h ht hi hx hm hy hn hl => exact .copy x y t u e i b off l c L cs h ht hi hx hm hy hn hl
  | mapUpdate xt x kx vx u kt vt b L kc vc E E' good h hxt hu hx hmb hE hks K hkc hkl hkf hf hk hg hvs hvc hvl hvv hup => exact .mapUpdate xt x kx vx u kt vt b L kc vc E E' good h hxt hu hx hmb hE hks K hkc hkl hkf hf hk hg hvs hvc hvl hvv hup
theorem StepR.mono {P : Program} {C C' : FuncId → Array Value → Mem → Value → Mem → Prop} (hC : CLe C C') {ρ : Operand → Value} {o : Oper} {m m' : Mem} {v : Value} (h : StepR P C ρ o m v m') : StepR P C' ρ o m v m' := by
  cases h with
  | pure h => exact .pure h
  | read h => exact .read h
  | new h => exact .new h
  | eff h => exact .eff (h.mono hC)
theorem seqR_mono {P : Program} {C C' : FuncId → Array Value → Mem → Value → Mem → Prop} (hC : CLe C C') {ops : List Oper} : ∀ (l : List Oper) (fr fr' : Nat → Value) (m m' : Mem), seqR P C ops l fr m fr' m' → seqR P C' ops l fr m fr' m'
  | [], fr, fr', m, m', h => h
  | o :: l, fr, fr', m, m', h => by
    simp only [seqR] at h ⊢
    split at h
    · rename_i hw
      rw [if_pos hw]
      obtain ⟨v, m1, h1, h2⟩ := h
      exact ⟨v, m1, h1.mono hC, seqR_mono hC l _ _ _ _ h2⟩
    · rename_i hw
      rw [if_neg hw]
      exact seqR_mono hC l _ _ _ _ h
theorem drawR_mono {P : Program} {C C' : FuncId → Array Value → Mem → Value → Mem → Prop} (hC : CLe C C') {ops : List Oper} {B : Array Nat} : ∀ (l : List Oper) (i : Nat) (A : Acc) (fr fr' : Nat → Value) (m m' : Mem), drawR P C ops B i l A fr m fr' m' → drawR P C' ops B i l A fr m fr' m'
  | [], i, A, fr, fr', m, m', h => h
  | o :: l, i, A, fr, fr', m, m', h => by
    simp only [drawR] at h ⊢
    split at h
    · rename_i hw
      rw [if_pos hw]
      rcases h with ⟨v, hp, hd⟩ | ⟨v, hp, ho, hd⟩ | ⟨X, v, hp, hd⟩ | ⟨v, m1, hp, h1, h2, hd⟩
      · exact .inl ⟨v, hp, drawR_mono hC l _ _ _ _ _ _ hd⟩
      · exact .inr (.inl ⟨v, hp, ho, drawR_mono hC l _ _ _ _ _ _ hd⟩)
      · exact .inr (.inr (.inl ⟨X, v, hp, drawR_mono hC l _ _ _ _ _ _ hd⟩))
      · exact .inr (.inr (.inr ⟨v, m1, hp.mono hC, h1, h2, drawR_mono hC l _ _ _ _ _ _ hd⟩))
    · rename_i hw
      rw [if_neg hw]
      exact drawR_mono hC l _ _ _ _ _ _ h
theorem codeR_mono {P : Program} {C C' : FuncId → Array Value → Mem → Value → Mem → Prop} (hC : CLe C C') : ∀ (n n' : Nat), n ≤ n' → ∀ (c : Code) (fr fr' : Nat → Value) (m m' : Mem) (e : AExit), codeR P C n c fr m e fr' m' → codeR P C' n' c fr m e fr' m' := by
  intro n
  induction n with
  | zero => intro n' _ c fr fr' m m' e h; exact h.elim
  | succ n ih =>
    intro n' hn c fr fr' m m' e h
    cases n' with
    | zero => omega
    | succ n' =>
      have hn' : n ≤ n' := by omega
      cases c with
      | skip => exact h
      | label l => exact h
      | exit id => exact h
      | ret => exact h
      | region id ops d =>
        cases d with
        | false => exact ⟨h.1, seqR_mono hC _ _ _ _ _ h.2⟩
        | true => exact ⟨h.1, drawR_mono hC _ _ _ _ _ _ _ h.2⟩
      | seq a b =>
        obtain ⟨e1, fr1, m1, h1, h2⟩ := h
        refine ⟨e1, fr1, m1, ih n' hn' _ _ _ _ _ _ h1, ?_⟩
        split at h2
        · rename_i he; rw [if_pos he]; exact ih n' hn' _ _ _ _ _ _ h2
        · rename_i he; rw [if_neg he]; exact h2
      | cond c a b =>
        obtain ⟨t, ht, h1⟩ := h
        exact ⟨t, ht, ih n' hn' _ _ _ _ _ _ h1⟩
      | block id c =>
        obtain ⟨e1, h1, he⟩ := h
        exact ⟨e1, ih n' hn' _ _ _ _ _ _ h1, he⟩
      | loop c =>
        obtain ⟨e1, fr1, m1, h1, h2⟩ := h
        refine ⟨e1, fr1, m1, ih n' hn' _ _ _ _ _ _ h1, ?_⟩
        split at h2
        · rename_i he; rw [if_pos he]; exact ih n' hn' _ _ _ _ _ _ h2
        · rename_i he; rw [if_neg he]; exact h2
      | rangeFunc f ps x y => exact h.elim
      | scope c => exact h.elim
      | goto l => exact h.elim
      | refuse s => exact h.elim
theorem callR_mono {P : Program} : ∀ (n n' : Nat), n ≤ n' → CLe (callR P n) (callR P n') := by
  intro n
  induction n with
  | zero => intro n' _ f args m v m' h; exact h.elim
  | succ n ih =>
    intro n' hn f args m v m' h
    cases n' with
    | zero => omega
    | succ n' =>
      rcases h with h | h
      · exact .inl h
      obtain ⟨fn, c, e, fr, m1, vs, hf, hb, hok, hsz, hrun, rest⟩ := h
      exact .inr ⟨fn, c, e, fr, m1, vs, hf, hb, hok, hsz, codeR_mono (ih n' (by omega)) n n' (by omega) _ _ _ _ _ _ hrun, rest⟩
def CallW (P : Program) (f : FuncId) (args : Array Value) (m : Mem) (R : Value → Mem → Prop) : Prop := ∃ n v m', callR P n f args m v m' ∧ R v m'
def W (P : Program) (c : Code) (Q : AExit → (Nat → Value) → Mem → Prop) (fr : Nat → Value) (m : Mem) : Prop := ∃ n e fr' m', codeR P (callR P n) n c fr m e fr' m' ∧ Q e fr' m'
def StepW (P : Program) (ρ : Operand → Value) (o : Oper) (m : Mem) (K : Value → Mem → Prop) : Prop := ∃ n v m', StepR P (callR P n) ρ o m v m' ∧ K v m'
def SeqW (P : Program) (ops l : List Oper) (K : (Nat → Value) → Mem → Prop) (fr : Nat → Value) (m : Mem) : Prop := ∃ n fr' m', seqR P (callR P n) ops l fr m fr' m' ∧ K fr' m'
def DrawW (P : Program) (ops : List Oper) (B : Array Nat) (i : Nat) (l : List Oper) (A : Acc) (K : (Nat → Value) → Mem → Prop) (fr : Nat → Value) (m : Mem) : Prop := ∃ n fr' m', drawR P (callR P n) ops B i l A fr m fr' m' ∧ K fr' m'
section
variable {P : Program} {Q Q' : AExit → (Nat → Value) → Mem → Prop} {fr : Nat → Value} {m : Mem}
theorem CallW.mono {f : FuncId} {args : Array Value} {R R' : Value → Mem → Prop} (h : CallW P f args m R) (hr : ∀ v m', R v m' → R' v m') : CallW P f args m R' :=
  let ⟨n, v, m', h1, h2⟩ := h; ⟨n, v, m', h1, hr _ _ h2⟩
theorem W.mono {c : Code} (h : W P c Q fr m) (hq : ∀ e fr m, Q e fr m → Q' e fr m) : W P c Q' fr m :=
  let ⟨n, e, fr', m', h1, h2⟩ := h; ⟨n, e, fr', m', h1, hq _ _ _ h2⟩
theorem W.skip (h : Q .normal fr m) : W P .skip Q fr m := ⟨1, _, _, _, ⟨rfl, rfl, rfl⟩, h⟩
theorem W.label {l : Nat} (h : Q .normal fr m) : W P (.label l) Q fr m := ⟨1, _, _, _, ⟨rfl, rfl, rfl⟩, h⟩
theorem W.exit {id : Nat} (h : Q (.exit id) fr m) : W P (.exit id) Q fr m := ⟨1, _, _, _, ⟨rfl, rfl, rfl⟩, h⟩
theorem W.ret (h : Q .ret fr m) : W P .ret Q fr m := ⟨1, _, _, _, ⟨rfl, rfl, rfl⟩, h⟩
def thenQ (next : (Nat → Value) → Mem → Prop) (Q : AExit → (Nat → Value) → Mem → Prop) : AExit → (Nat → Value) → Mem → Prop
  | .normal, fr, m => next fr m
  | e, fr, m => Q e fr m
def blockQ (id : Nat) (Q : AExit → (Nat → Value) → Mem → Prop) : AExit → (Nat → Value) → Mem → Prop
  | .exit id', fr, m => if id' = id then Q .normal fr m else Q (.exit id') fr m
  | e, fr, m => Q e fr m
theorem codeUp {n N k : Nat} (h : n ≤ N) (hk : n ≤ k) {c : Code} {fr fr' : Nat → Value} {m m' : Mem} {e : AExit} (hc : codeR P (callR P n) n c fr m e fr' m') : codeR P (callR P N) k c fr m e fr' m' := codeR_mono (callR_mono n N h) n k hk _ _ _ _ _ _ hc
theorem W.seq {a b : Code} (h : W P a (thenQ (W P b Q) Q) fr m) : W P (.seq a b) Q fr m := by
  obtain ⟨n, e, fr1, m1, h1, h2⟩ := h
  cases e with
  | normal =>
    obtain ⟨n2, e2, fr2, m2, h3, h4⟩ := h2
    exact ⟨max n n2 + 1, e2, fr2, m2, ⟨_, _, _, codeUp (by omega) (by omega) h1, by rw [if_pos rfl]; exact codeUp (by omega) (by omega) h3⟩, h4⟩
  | exit id => exact ⟨n + 1, _, fr1, m1, ⟨_, _, _, codeUp (by omega) (by omega) h1, by rw [if_neg (by simp)]; exact ⟨rfl, rfl, rfl⟩⟩, h2⟩
  | ret => exact ⟨n + 1, _, fr1, m1, ⟨_, _, _, codeUp (by omega) (by omega) h1, by rw [if_neg (by simp)]; exact ⟨rfl, rfl, rfl⟩⟩, h2⟩
theorem W.cond {c : Operand} {a b : Code} {t : Bool} (ht : ev fr c = .bool t) (h : W P (if t then a else b) Q fr m) : W P (.cond c a b) Q fr m := by
  obtain ⟨n, e, fr1, m1, h1, h2⟩ := h
  exact ⟨n + 1, e, fr1, m1, ⟨t, ht, codeUp (by omega) (by omega) h1⟩, h2⟩
theorem W.block {id : Nat} {c : Code} (h : W P c (blockQ id Q) fr m) : W P (.block id c) Q fr m := by
  obtain ⟨n, e, fr1, m1, h1, h2⟩ := h
  refine ⟨n + 1, _, fr1, m1, ⟨e, codeUp (by omega) (by omega) h1, rfl⟩, ?_⟩
  cases e with
  | normal => simpa [blockQ] using h2
  | exit id' =>
    simp only [blockQ] at h2
    by_cases he : id' = id
    · subst he; simpa using h2
    · simp only [he, if_false] at h2
      simp only [AExit.exit.injEq, he, if_false]; exact h2
  | ret => simpa [blockQ] using h2
theorem W.loop1 {c : Code} (h : W P c (thenQ (W P (.loop c) Q) Q) fr m) : W P (.loop c) Q fr m := by
  obtain ⟨n, e, fr1, m1, h1, h2⟩ := h
  cases e with
  | normal =>
    obtain ⟨n2, e2, fr2, m2, h3, h4⟩ := h2
    exact ⟨max n n2 + 1, e2, fr2, m2, ⟨_, _, _, codeUp (by omega) (by omega) h1, by rw [if_pos rfl]; exact codeUp (by omega) (by omega) h3⟩, h4⟩
  | exit id => exact ⟨n + 1, _, fr1, m1, ⟨_, _, _, codeUp (by omega) (by omega) h1, by rw [if_neg (by simp)]; exact ⟨rfl, rfl, rfl⟩⟩, h2⟩
  | ret => exact ⟨n + 1, _, fr1, m1, ⟨_, _, _, codeUp (by omega) (by omega) h1, by rw [if_neg (by simp)]; exact ⟨rfl, rfl, rfl⟩⟩, h2⟩
theorem W.loop {σ : Type} {c : Code} (I : σ → (Nat → Value) → Mem → Prop) (μ : σ → Nat) (s : σ) (h0 : I s fr m)
    (hr : ∀ s fr m, I s fr m → W P c (thenQ (fun fr' m' => ∃ s', I s' fr' m' ∧ μ s' < μ s) Q) fr m) : W P (.loop c) Q fr m := by
  have key : ∀ n s fr m, μ s = n → I s fr m → W P (.loop c) Q fr m := by
    intro n
    induction n using Nat.strongRecOn with
    | _ n ih =>
      intro s fr m hn hI
      refine W.loop1 ((hr s fr m hI).mono ?_)
      intro e fr' m' hq
      cases e with
      | normal =>
        obtain ⟨s', hI', hlt⟩ := hq
        exact ih (μ s') (by omega) s' fr' m' rfl hI'
      | exit id => exact hq
      | ret => exact hq
  exact key _ s fr m rfl h0
theorem W.region {id : Nat} {ops : Array Oper} (h : SeqW P ops.toList ops.toList (Q .normal) fr m) : W P (.region id ops false) Q fr m := by
  obtain ⟨n, fr', m', h1, h2⟩ := h
  exact ⟨n + 1, .normal, fr', m', ⟨rfl, seqR_mono (callR_mono _ _ (Nat.le_succ _)) _ _ _ _ _ h1⟩, h2⟩
theorem W.draw {id : Nat} {ops : Array Oper} (h : DrawW P ops.toList (Region.before ops) 0 ops.toList ⟨[], [], []⟩ (Q .normal) fr m) : W P (.region id ops true) Q fr m := by
  obtain ⟨n, fr', m', h1, h2⟩ := h
  exact ⟨n + 1, .normal, fr', m', ⟨rfl, drawR_mono (callR_mono _ _ (Nat.le_succ _)) _ _ _ _ _ _ _ h1⟩, h2⟩
end
section
variable {P : Program} {ops l : List Oper} {K : (Nat → Value) → Mem → Prop} {fr : Nat → Value} {m : Mem} {o : Oper}
theorem SeqW.nil (h : K fr m) : SeqW P ops [] K fr m := ⟨0, _, _, ⟨rfl, rfl⟩, h⟩
theorem SeqW.skip (hg : wanted ops fr o = false) (h : SeqW P ops l K (set fr o.dst undef) m) : SeqW P ops (o :: l) K fr m := by
  obtain ⟨n, fr', m', h1, h2⟩ := h
  refine ⟨n, fr', m', ?_, h2⟩
  simp only [seqR]
  rw [if_neg (by simp [hg])]
  exact h1
theorem SeqW.cons (hg : wanted ops fr o = true) (h : StepW P (ev fr) o m fun v m1 => SeqW P ops l K (set fr o.dst v) m1) : SeqW P ops (o :: l) K fr m := by
  obtain ⟨n, v, m1, hs, n2, fr', m', h1, h2⟩ := h
  refine ⟨max n n2, fr', m', ?_, h2⟩
  simp only [seqR]
  rw [if_pos hg]
  exact ⟨v, m1, hs.mono (callR_mono _ _ (Nat.le_max_left _ _)), seqR_mono (callR_mono _ _ (Nat.le_max_right _ _)) _ _ _ _ _ h1⟩
theorem StepW.pure {ρ : Operand → Value} {R : Value → Mem → Prop} {v : Value} (h : PureR P ρ o v) (hk : R v m) : StepW P ρ o m R := ⟨0, v, m, .pure h, hk⟩
theorem StepW.read {ρ : Operand → Value} {R : Value → Mem → Prop} {v : Value} (h : ReadR P ρ o m v) (hk : R v m) : StepW P ρ o m R := ⟨0, v, m, .read h, hk⟩
theorem StepW.new {ρ : Operand → Value} {R : Value → Mem → Prop} {v : Value} {X : Blk} (h : NewR P ρ o m.next X v) (hk : R v (m.push X)) : StepW P ρ o m R := ⟨0, v, _, .new h, hk⟩
theorem StepW.eff {ρ : Operand → Value} {R : Value → Mem → Prop} {v : Value} {m' : Mem} {n : Nat} (h : EffR P (callR P n) ρ o m v m') (hk : R v m') : StepW P ρ o m R := ⟨n, v, m', .eff h, hk⟩
theorem StepW.call {ρ : Operand → Value} {R : Value → Mem → Prop} {f : FuncId} {args : Array Value} (hc : callee o ρ f args) (h : CallW P f args m R) : StepW P ρ o m R := by
  obtain ⟨n, v, m', h1, h2⟩ := h
  exact ⟨n, v, m', .eff (.call f args v m' hc h1), h2⟩
end
theorem CallW.enter {P : Program} {f : FuncId} {fn : Func} {c : Code} {args : Array Value} {m : Mem} {R : Value → Mem → Prop} (hf : P.funcs[f]? = some fn) (hb : fn.body = some c) (hok : okFn P f = true) (hsz : args.size ≤ fn.ntmps)
    (h : W P c (fun e fr m1 => (e = .normal ∨ e = .ret) ∧ ∃ vs, resultsR P fr m1 fn.results.toList vs ∧ (vs.length = 1 ∨ ∀ x ∈ vs, storable x = true) ∧
      (R (pack vs) m1 ∨ (R (pack vs) (m1.trunc m.next) ∧ low m.next (pack vs) ∧ ∀ b, b < m.next → m1.blk b = m.blk b ∨ lowB m.next (m1.blk b))))
      (fun i => (args ++ Array.replicate (fn.ntmps - args.size) undef).getD i undef) m) : CallW P f args m R := by
  obtain ⟨n, e, fr, m1, h1, he, vs, hv, hs, hR⟩ := h
  rcases hR with hR | ⟨hR, hl, hbk⟩
  · exact ⟨n + 1, _, _, .inr ⟨fn, c, e, fr, m1, vs, hf, hb, hok, hsz, h1, he, hv, rfl, hs, .inl rfl⟩, hR⟩
  · exact ⟨n + 1, _, _, .inr ⟨fn, c, e, fr, m1, vs, hf, hb, hok, hsz, h1, he, hv, rfl, hs, .inr ⟨rfl, hl, hbk⟩⟩, hR⟩
theorem CallW.sort {P : Program} {f : FuncId} {args : Array Value} {m m' : Mem} {v : Value} {R : Value → Mem → Prop} (hok : okFn P f = true) (h : SortR P f args m v m') (hR : R v m') : CallW P f args m R := ⟨1, v, m', .inl ⟨hok, h⟩, hR⟩
def emb0 (w : World) : Emb := fun b => if b < w.heap.size then some ⟨b, 0, 0, 0⟩ else none
def seen0 (b : Nat) : Value → Option Value
  | .slice (some _) 0 0 => some (.slice (some ⟨b, 0, none⟩) 0 0)
  | _ => none
open Classical in
noncomputable def mem0 (w : World) : Mem := { next := w.heap.size, blk := fun b => if b < w.heap.size then .ro (fun i => match w.cell? ⟨b, i, none⟩ with | some v => if VR0 (emb0 w) v v then some v else seen0 b v | none => none) else .dead }
theorem seen0_some {b : Nat} {v u : Value} (h : seen0 b v = some u) : ∃ a, v = .slice (some a) 0 0 ∧ u = .slice (some ⟨b, 0, none⟩) 0 0 := by
  unfold seen0 at h
  split at h
  · cases h; exact ⟨_, rfl, rfl⟩
  · cases h
theorem emb0_lt {w : World} {b : Nat} {e : Emb1} (h : emb0 w b = some e) : b < w.heap.size ∧ e.blk = b := by
  unfold emb0 at h
  split at h
  · cases h; exact ⟨‹_›, rfl⟩
  · cases h
theorem emb0_sh {w : World} {b : Nat} {e : Emb1} (h : emb0 w b = some e) : e.sh = 0 := by
  unfold emb0 at h
  split at h
  · cases h; rfl
  · cases h
theorem mem0_load {w : World} {b i : Nat} {v : Value} (h : w.cell? ⟨b, i, none⟩ = some v) (hv : VR0 (emb0 w) v v) : (mem0 w).load b i = some v := by
  have hlt : b < w.heap.size := World.block_lt_of_cell? w ⟨b, i, none⟩ h
  simp [Mem.load, mem0, hlt, h, hv]
theorem mem0_wf (w : World) : WF (mem0 w) where
  dead := fun b hb => by
    have hb : w.heap.size ≤ b := hb
    simp [mem0, show ¬ b < w.heap.size by omega]
  low := fun b => by
    simp only [mem0]
    split
    · intro i v hi
      simp only at hi
      split at hi
      · split at hi
        · rename_i hv
          cases hi
          exact (VR_low (fun b e h => (emb0_lt h).1)).1 hv
        · obtain ⟨a, _, rfl⟩ := seen0_some hi
          assumption
      · cases hi
    · exact True.intro
theorem mem0_seen {w : World} {b i : Nat} {a : Addr} (h : w.cell? ⟨b, i, none⟩ = some (.slice (some a) 0 0)) : ∃ a', (mem0 w).load b i = some (.slice (some a') 0 0) ∧ a'.spot = none ∧ a'.block < w.heap.size := by
  have hlt : b < w.heap.size := World.block_lt_of_cell? w ⟨b, i, none⟩ h
  by_cases hv : VR0 (emb0 w) (.slice (some a) 0 0) (.slice (some a) 0 0)
  · refine ⟨a, mem0_load h hv, ?_⟩
    obtain ⟨e, h1, h2, _⟩ := hv
    exact ⟨h1, (emb0_lt h2).1⟩
  · refine ⟨⟨b, 0, none⟩, ?_, rfl, hlt⟩
    simp [Mem.load, mem0, hlt, h, hv, seen0]
theorem mem0_rel (P : Program) (w : World) : Rel P (emb0 w) (mem0 w) w := by
  refine ⟨?_, ?_, ?_⟩
  · intro b e hb
    obtain ⟨h1, h2⟩ := emb0_lt hb
    exact ⟨h1, by rw [h2]; exact h1⟩
  · intro b e hb
    obtain ⟨h1, h2⟩ := emb0_lt hb
    simp only [mem0, h1, if_true]
    intro i v hi
    simp only at hi
    have cell : ∀ u, w.cell? ⟨b, i, none⟩ = some u → ∃ (cs : Array Value) (t : TypeId) (fz : Nat × Nat), w.heap[e.blk]? = some (.cells cs t fz) ∧ cs[i]? = some u := by
      intro u hu
      rw [h2]
      simp only [World.cell?] at hu
      split at hu
      · rename_i c t f hc
        exact ⟨c, t, f, hc, by simpa using hu⟩
      · cases hu
    split at hi
    · rename_i u hu
      obtain ⟨cs, t, fz, g1, g2⟩ := cell u hu
      split at hi
      · rename_i hv
        cases hi
        exact ⟨cs, t, fz, _, g1, by rw [emb0_sh hb, Nat.zero_add]; exact g2, hv⟩
      · obtain ⟨a, rfl, rfl⟩ := seen0_some hi
        exact ⟨cs, t, fz, _, g1, by rw [emb0_sh hb, Nat.zero_add]; exact g2, e, rfl, hb, .inr (.inr (.inr ⟨rfl, rfl, a, rfl⟩))⟩
    · cases hi
  · intro b b' e e' hb hb' ho
    obtain ⟨h1, h2⟩ := emb0_lt hb
    simp [mem0, h1, Blk.isOwn] at ho
theorem law_of_call {P : Program} (hmix : P.follows .mixedOrders = true) {f : FuncId} {args : Array Value} {w : World} (hargs : ∀ a ∈ args.toList, VR (emb0 w) a a) (h : CallW P f args (mem0 w) fun v _ => v = .bool true) :
    Calls P f args w fun e w' => e = .returned (.bool true) ∧ RowKit.Below w.heap.size w w' := by
  obtain ⟨n, v, m', h1, rfl⟩ := h
  have hs := (calls_sound hmix n).2 f args (mem0 w) _ m' h1 (emb0 w) w args (mem0_wf w) (mem0_rel P w) (by
    have : ∀ l : List Value, (∀ a ∈ l, VR (emb0 w) a a) → L2 (VR (emb0 w)) l l := by
      intro l
      induction l with
      | nil => intro _; exact True.intro
      | cons a l ih => intro h; exact ⟨h a (by simp), ih fun b hb => h b (by simp [hb])⟩
    exact this _ hargs)
  refine hs.2.mono ?_
  rintro e w' ⟨cv, j', rfl, hp, hv⟩
  have hcv := hv.bool
  subst hcv
  refine ⟨rfl, hp.frm.os, hp.frm.tape, hp.frm.output, hp.frm.size, fun k hk => hp.frm.block k hk fun b e hb ho => ?_⟩
  obtain ⟨h1, h2⟩ := emb0_lt hb
  simp [mem0, h1, Blk.isOwn] at ho
end Go.AM
end
section
set_option linter.unusedSimpArgs false
set_option linter.unusedVariables false
namespace Go.AM
def Blk.fzn : Blk → Prop
  | .dead | .lock _ _ _ _ => False
  | _ => True
def Blk.mem : Blk → Blk
  | .lock _ _ L t => .own L t
  | b => b
theorem Blk.fzn.ne {x : Blk} (h : x.fzn) : x ≠ .dead := fun e => by rw [e] at h; exact h
theorem Blk.fzn.mem {x : Blk} (h : x.fzn) : x.mem = x := by cases x <;> first | rfl | exact h.elim
def Fz (z : Nat → Blk) (m : Mem) : Prop := ∀ b, z b ≠ .dead → m.blk b = (z b).mem ∧ b < m.next
theorem Fz.fzn {z : Nat → Blk} {m : Mem} (h : Fz z m) {b : Nat} (hb : (z b).fzn) : m.blk b = z b ∧ b < m.next := by
  have := h b hb.ne
  rw [hb.mem] at this
  exact this
def Zle (z z' : Nat → Blk) : Prop := ∀ b, (z b).fzn → z' b = z b
theorem Zle.refl (z : Nat → Blk) : Zle z z := fun _ _ => rfl
theorem Zle.trans {a b c : Nat → Blk} (h : Zle a b) (k : Zle b c) : Zle a c := fun x hx => by
  have h1 := h x hx
  rw [k x (by rw [h1]; exact hx), h1]
def ldz (z : Nat → Blk) (b o : Nat) : Option Value :=
  match z b with
  | .ro rd => rd o
  | .own L _ => L[o]?
  | .map _ _ => none
  | .lock _ _ _ _ => none
  | .dead => none
theorem ldz_live {z : Nat → Blk} {b o : Nat} {v : Value} (h : ldz z b o = some v) : (z b).fzn := by
  unfold ldz at h
  cases hz : z b with
  | dead => rw [hz] at h; cases h
  | lock _ _ _ _ => rw [hz] at h; cases h
  | _ => exact True.intro
theorem ldz_mono {z z' : Nat → Blk} (h : Zle z z') {b o : Nat} {v : Value} (hl : ldz z b o = some v) : ldz z' b o = some v := by
  have := h b (ldz_live hl)
  unfold ldz at hl ⊢
  rw [this]; exact hl
theorem ldz_load {z : Nat → Blk} {m : Mem} (h : Fz z m) {b o : Nat} {v : Value} (hl : ldz z b o = some v) : m.load b o = some v := by
  have := (h b (ldz_live hl).ne).1
  rw [(ldz_live hl).mem] at this
  unfold ldz at hl
  unfold Mem.load
  rw [this]; exact hl
structure Ty (α : Type) where
  sz : Nat
  tid : TypeId
  rd : (Nat → Blk) → α → List Value → Prop
  len : ∀ z x cs, rd z x cs → cs.length = sz
  mono : ∀ z z', Zle z z' → ∀ x cs, rd z x cs → rd z' x cs
  one : ∀ z x cs, rd z x cs → ∀ c ∈ cs, storable c = true ∧ c.cells = #[c]
def cellsAt (z : Nat → Blk) (b o : Nat) (cs : List Value) : Prop := ∀ (i : Nat) (u : Value), cs[i]? = some u → ldz z b (o + i) = some u
def cellsIn (L : List Value) (o : Nat) (cs : List Value) : Prop := ∀ (i : Nat) (u : Value), cs[i]? = some u → L[o + i]? = some u
def SlR {α : Type} (T : Ty α) (z : Nat → Blk) (xs : List α) (v : Value) : Prop :=
  (v = .slice none 0 0 ∧ xs = []) ∨
  ∃ b off c, v = .slice (some ⟨b, off, none⟩) xs.length c ∧ (z b).fzn ∧ ((c = BIG ∧ ∃ L, z b = .own L T.tid ∧ off + xs.length * T.sz ≤ L.length) ∨ (c < BIG ∧ xs.length ≤ c)) ∧
    ∀ (i : Nat) (x : α), xs[i]? = some x → ∃ cs, T.rd z x cs ∧ cellsAt z b (off + i * T.sz) cs
theorem cellsAt_mono {z z' : Nat → Blk} (h : Zle z z') {b o : Nat} {cs : List Value} (hc : cellsAt z b o cs) : cellsAt z' b o cs := fun i u hi => ldz_mono h (hc i u hi)
theorem SlR.mono {α : Type} {T : Ty α} {z z' : Nat → Blk} (h : Zle z z') {xs : List α} {v : Value} (hs : SlR T z xs v) : SlR T z' xs v := by
  rcases hs with hs | ⟨b, off, c, h1, h2, h3, h4⟩
  · exact .inl hs
  · refine .inr ⟨b, off, c, h1, by rw [h b h2]; exact h2, ?_, fun i x hi => ?_⟩
    · rcases h3 with ⟨h3, L, h5, h6⟩ | h3
      · exact .inl ⟨h3, L, by rw [h b h2]; exact h5, h6⟩
      · exact .inr h3
    · obtain ⟨cs, g1, g2⟩ := h4 i x hi
      exact ⟨cs, T.mono z z' h x cs g1, cellsAt_mono h g2⟩
theorem SlR.nil {α : Type} {T : Ty α} {z : Nat → Blk} : SlR T z [] (.slice none 0 0) := .inl ⟨rfl, rfl⟩
theorem SlR.len {α : Type} {T : Ty α} {z : Nat → Blk} {xs : List α} {v : Value} (h : SlR T z xs v) : ∃ a c, v = .slice a xs.length c := by
  rcases h with ⟨rfl, rfl⟩ | ⟨b, off, c, rfl, _⟩
  · exact ⟨_, _, rfl⟩
  · exact ⟨_, _, rfl⟩
def blkOf : Value → Option Nat
  | .slice (some a) _ _ => some a.block
  | .pointer (some a) => some a.block
  | _ => none
def Ow {α : Type} (T : Ty α) (z : Nat → Blk) (m : Mem) (xs : List α) (v : Value) : Prop :=
  (v = .slice none 0 0 ∧ xs = []) ∨
  ∃ b o L c, v = .slice (some ⟨b, o, none⟩) xs.length c ∧ m.blk b = .own L T.tid ∧ b < m.next ∧ z b = .dead ∧ o + xs.length * T.sz ≤ L.length ∧ (c = BIG ∨ (c < BIG ∧ xs.length ≤ c ∧ o + c * T.sz ≤ L.length)) ∧
    ∀ (i : Nat) (x : α), xs[i]? = some x → ∃ cs, T.rd z x cs ∧ cellsIn L (o + i * T.sz) cs
theorem Ow.at0 {α : Type} {T : Ty α} {z : Nat → Blk} {m : Mem} {xs : List α} {v : Value} (h : ∃ b L c, v = .slice (some ⟨b, 0, none⟩) xs.length c ∧ m.blk b = .own L T.tid ∧ b < m.next ∧ z b = .dead ∧ xs.length * T.sz ≤ L.length ∧ (c = BIG ∨ (c < BIG ∧ xs.length ≤ c ∧ c * T.sz ≤ L.length)) ∧
    ∀ (i : Nat) (x : α), xs[i]? = some x → ∃ cs, T.rd z x cs ∧ cellsIn L (i * T.sz) cs) : Ow T z m xs v := by
  obtain ⟨b, L, c, h1, h2, h3, h4, h5, h6, h7⟩ := h
  exact .inr ⟨b, 0, L, c, h1, h2, h3, h4, by rw [Nat.zero_add]; exact h5, by rw [Nat.zero_add]; exact h6, fun i x hx => by rw [Nat.zero_add]; exact h7 i x hx⟩
theorem Ow.nil {α : Type} {T : Ty α} {z : Nat → Blk} {m : Mem} : Ow T z m [] (.slice none 0 0) := .inl ⟨rfl, rfl⟩
theorem Ow.frame {α : Type} {T : Ty α} {z : Nat → Blk} {m m' : Mem} {xs : List α} {v : Value} (h : Ow T z m xs v) (hb : ∀ b, blkOf v = some b → b < m.next → m'.blk b = m.blk b ∧ b < m'.next) : Ow T z m' xs v := by
  rcases h with h | ⟨b, o, L, c, rfl, h1, h2, h3, h4, h5, h6⟩
  · exact .inl h
  · obtain ⟨g1, g2⟩ := hb b rfl h2
    exact .inr ⟨b, o, L, c, rfl, by rw [g1]; exact h1, g2, h3, h4, h5, h6⟩
theorem Ow.lt {α : Type} {T : Ty α} {z : Nat → Blk} {m : Mem} {xs : List α} {v : Value} (h : Ow T z m xs v) : ∀ b, blkOf v = some b → b < m.next ∧ z b = .dead := by
  rcases h with ⟨rfl, _⟩ | ⟨b, o, L, c, rfl, h1, h2, h3, _⟩
  · intro b hb; cases hb
  · intro b' hb; cases hb; exact ⟨h2, h3⟩
theorem Ow.len {α : Type} {T : Ty α} {z : Nat → Blk} {m : Mem} {xs : List α} {v : Value} (h : Ow T z m xs v) : ∃ a c, v = .slice a xs.length c := by
  rcases h with ⟨rfl, rfl⟩ | ⟨b, o, L, c, rfl, _⟩
  · exact ⟨_, _, rfl⟩
  · exact ⟨_, _, rfl⟩
def frz (z : Nat → Blk) (m : Mem) (p : Option Nat) : Nat → Blk := fun b => if p = some b then m.blk b else z b
theorem frz_le {z : Nat → Blk} {m : Mem} {p : Option Nat} (h : ∀ b, p = some b → z b = .dead) : Zle z (frz z m p) := by
  intro b hb
  unfold frz
  split
  · exact absurd (h b ‹_›) hb.ne
  · rfl
theorem frz_fz {z : Nat → Blk} {m : Mem} {p : Option Nat} (h : Fz z m) (hp : ∀ b, p = some b → b < m.next ∧ (m.blk b).mem = m.blk b) : Fz (frz z m p) m := by
  intro b hb
  unfold frz at hb ⊢
  split at hb
  · rw [if_pos ‹_›]; exact ⟨(hp b ‹_›).2.symm, (hp b ‹_›).1⟩
  · rw [if_neg ‹_›]; exact h b hb
theorem Ow.toR {α : Type} {T : Ty α} {z : Nat → Blk} {m : Mem} {xs : List α} {v : Value} (h : Ow T z m xs v) : SlR T (frz z m (blkOf v)) xs v := by
  rcases h with h | ⟨b, o, L, c, rfl, h1, h2, h3, h4, h5, h6⟩
  · exact .inl h
  · have hz : frz z m (blkOf (.slice (some ⟨b, o, none⟩) xs.length c)) b = .own L T.tid := by simp [frz, blkOf, h1]
    have hle : Zle z (frz z m (blkOf (.slice (some ⟨b, o, none⟩) xs.length c))) := frz_le fun b' hb' => by cases hb'; exact h3
    refine .inr ⟨b, o, c, rfl, by rw [hz]; exact True.intro, ?_, fun i x hi => ?_⟩
    · rcases h5 with rfl | ⟨h5, h7, h8⟩
      · exact .inl ⟨rfl, L, hz, h4⟩
      · exact .inr ⟨h5, h7⟩
    · obtain ⟨cs, g1, g2⟩ := h6 i x hi
      refine ⟨cs, T.mono _ _ hle x cs g1, fun k u hk => ?_⟩
      simp only [ldz, hz]
      exact g2 k u hk
def Ap (p q : Option Nat) : Prop := ∀ b, p = some b → q ≠ some b
theorem Ap.symm {p q : Option Nat} (h : Ap p q) : Ap q p := fun b hq hp => h b hp hq
theorem Ap.none {q : Option Nat} : Ap Option.none q := fun _ h => by cases h
theorem Ap.none' {q : Option Nat} : Ap q Option.none := fun _ _ h => by cases h
theorem Ap.new {q : Option Nat} {n : Nat} (h : ∀ b, q = some b → b < n) : Ap (some n) q := fun b hb hq => by
  cases hb
  have := h n hq
  omega
structure St (z : Nat → Blk) (e m : Mem) (k : Option Nat) : Prop where
  fz : Fz z m
  dead : ∀ b, m.next ≤ b → m.blk b = .dead
  dead0 : ∀ b, e.next ≤ b → e.blk b = .dead
  next : e.next ≤ m.next
  kept : ∀ b, b < e.next → k ≠ some b → m.blk b = e.blk b
theorem St.start {z : Nat → Blk} {m : Mem} {k : Option Nat} (h : Fz z m) (hd : ∀ b, m.next ≤ b → m.blk b = .dead) : St z m m k := ⟨h, hd, hd, Nat.le_refl _, fun _ _ _ => rfl⟩
theorem St.push {z : Nat → Blk} {e m : Mem} {k : Option Nat} (h : St z e m k) (x : Blk) : St z e (m.push x) k := by
  refine ⟨fun b hb => ?_, fun b hb => ?_, h.dead0, Nat.le_succ_of_le h.next, fun b hb hk => ?_⟩
  · have := h.fz b hb
    refine ⟨?_, Nat.lt_succ_of_lt this.2⟩
    simp only [Mem.push]
    rw [if_neg (by omega)]
    exact this.1
  · simp only [Mem.push] at hb ⊢
    rw [if_neg (by omega)]
    exact h.dead b (by omega)
  · simp only [Mem.push]
    have := h.next
    rw [if_neg (by omega)]
    exact h.kept b hb hk
theorem St.put {z : Nat → Blk} {e m : Mem} {k : Option Nat} (h : St z e m k) {b : Nat} (x : Blk) (hz : z b = .dead) (hlt : b < m.next) (hb : e.next ≤ b ∨ k = some b) : St z e (m.put b x) k := by
  refine ⟨fun c hc => ?_, fun c hc => ?_, h.dead0, h.next, fun c hc hk => ?_⟩
  · have := h.fz c hc
    refine ⟨?_, this.2⟩
    simp only [Mem.put]
    rw [if_neg (fun hcb => hc (by rw [hcb]; exact hz))]
    exact this.1
  · have hc : m.next ≤ c := hc
    simp only [Mem.put]
    rw [if_neg (by omega)]
    exact h.dead c hc
  · simp only [Mem.put]
    rw [if_neg ?_]
    · exact h.kept c hc hk
    · intro hcb
      subst hcb
      rcases hb with hb | hb
      · omega
      · exact hk hb
structure Same (m m' : Mem) (k : Option Nat) : Prop where
  next : m.next ≤ m'.next
  dead : ∀ b, m'.next ≤ b → m'.blk b = .dead
  blk : ∀ b, b < m.next → k ≠ some b → m'.blk b = m.blk b
theorem St.same {z : Nat → Blk} {e m m' : Mem} {k q : Option Nat} (h : St z e m k) (s : Same m m' q) (hq : ∀ b, q = some b → z b = .dead ∧ (e.next ≤ b ∨ k = some b)) : St z e m' k := by
  refine ⟨fun b hb => ?_, s.dead, h.dead0, Nat.le_trans h.next s.next, fun b hb hk => ?_⟩
  · have := h.fz b hb
    refine ⟨?_, Nat.lt_of_lt_of_le this.2 s.next⟩
    rw [s.blk b this.2 (fun hqb => hb (hq b hqb).1)]
    exact this.1
  · rw [s.blk b (Nat.lt_of_lt_of_le hb h.next) (fun hqb => ?_)]
    · exact h.kept b hb hk
    · rcases (hq b hqb).2 with h' | h'
      · omega
      · exact hk h'
theorem St.toSame {z : Nat → Blk} {e m : Mem} {k : Option Nat} (h : St z e m k) : Same e m k := ⟨h.next, h.dead, fun b hb hk => h.kept b hb hk⟩
theorem St.trunc_eq {z : Nat → Blk} {e m : Mem} (h : St z e m none) : m.trunc e.next = e := by
  have : (m.trunc e.next).blk = e.blk := by
    funext b
    simp only [Mem.trunc]
    split
    · exact h.kept b ‹_› (by simp)
    · exact (h.dead0 b (by omega)).symm
  cases e
  simp only [Mem.trunc] at this ⊢
  rw [this]
theorem St.trunc_put {z : Nat → Blk} {e m : Mem} {k : Nat} {x : Blk} (h : St z e m (some k)) (hk : k < e.next) (hx : m.blk k = x) : m.trunc e.next = e.put k x := by
  have : (m.trunc e.next).blk = (e.put k x).blk := by
    funext b
    simp only [Mem.trunc, Mem.put]
    by_cases hb : b < e.next
    · rw [if_pos hb]
      by_cases hbk : b = k
      · subst hbk; rw [if_pos rfl]; exact hx
      · rw [if_neg hbk]
        exact h.kept b hb (by intro hh; cases hh; exact hbk rfl)
    · rw [if_neg hb, if_neg (by omega)]
      exact (h.dead0 b (by omega)).symm
  cases e
  simp only [Mem.trunc, Mem.put] at this ⊢
  rw [this]
def Ty.flat {α : Type} (t : TypeId) (f : α → Value) (hf : ∀ x, flat0 (f x) = true) : Ty α where
  sz := 1
  tid := t
  rd := fun _ x cs => cs = [f x]
  len := fun _ _ _ h => by rw [h]; rfl
  mono := fun _ _ _ _ _ h => h
  one := fun _ x cs h c hc => by
    rw [h] at hc
    simp only [List.mem_singleton] at hc
    subst hc
    have := hf x
    cases hx : f x <;> simp [hx, flat0] at this <;> exact ⟨rfl, rfl⟩
def str (s : List UInt8) : Value := .string ⟨s.toArray⟩
def TInt (t : TypeId) (k : IntKind) : Ty Int := Ty.flat t (fun n => .int k n) fun _ => rfl
def TBool (t : TypeId) : Ty Bool := Ty.flat t (fun n => .bool n) fun _ => rfl
def TStr (t : TypeId) : Ty (List UInt8) := Ty.flat t str fun _ => rfl
def TSl {α : Type} (t : TypeId) (T : Ty α) : Ty (List α) where
  sz := 1
  tid := t
  rd := fun z xs cs => ∃ v, cs = [v] ∧ SlR T z xs v
  len := fun _ _ _ h => by obtain ⟨v, rfl, _⟩ := h; rfl
  mono := fun _ _ h _ _ hh => by obtain ⟨v, h1, h2⟩ := hh; exact ⟨v, h1, h2.mono h⟩
  one := fun _ _ cs h c hc => by
    obtain ⟨v, rfl, h2⟩ := h
    simp only [List.mem_singleton] at hc
    subst hc
    obtain ⟨a, n, rfl⟩ := h2.len
    exact ⟨rfl, rfl⟩
def TPair {α β : Type} (t : TypeId) (A : Ty α) (B : Ty β) : Ty (α × β) where
  sz := A.sz + B.sz
  tid := t
  rd := fun z x cs => ∃ c1 c2, cs = c1 ++ c2 ∧ A.rd z x.1 c1 ∧ B.rd z x.2 c2
  len := fun z x cs h => by obtain ⟨c1, c2, rfl, h1, h2⟩ := h; rw [List.length_append, A.len z _ _ h1, B.len z _ _ h2]
  mono := fun z z' h x cs hh => by obtain ⟨c1, c2, h1, h2, h3⟩ := hh; exact ⟨c1, c2, h1, A.mono z z' h _ _ h2, B.mono z z' h _ _ h3⟩
  one := fun z x cs h c hc => by
    obtain ⟨c1, c2, rfl, h1, h2⟩ := h
    rcases List.mem_append.1 hc with hc | hc
    · exact A.one z _ _ h1 c hc
    · exact B.one z _ _ h2 c hc
def Ty.via {α β : Type} (A : Ty α) (f : β → α) : Ty β where
  sz := A.sz
  tid := A.tid
  rd := fun z x cs => A.rd z (f x) cs
  len := fun z x cs h => A.len z _ _ h
  mono := fun z z' h x cs hh => A.mono z z' h _ _ hh
  one := fun z x cs h => A.one z _ _ h
end Go.AM
end
section
set_option linter.unusedSimpArgs false
set_option linter.unusedVariables false
namespace Go.AM
section
variable {P : Program} {ρ : Operand → Value} {o : Oper}
theorem flat2 {x y : Operand} (h : o.op.operands = #[x, y]) {v : Value} (hs : ∀ cs b, o.op ≠ .select cs b) (hx : flat (ρ x) = true) (hy : flat (ρ y) = true) (hv : flat v = true) (hr : ∀ w, (execOp ρ o).run P w = .ok (.value v) w) : PureR P ρ o v := by
  refine .flat v hs (fun z hz => ?_) hv hr
  rw [h] at hz
  simp only [List.mem_toArray, List.mem_cons, List.not_mem_nil, or_false] at hz
  rcases hz with rfl | rfl
  · exact hx
  · exact hy
theorem flat1' {x : Operand} (h : o.op.operands = #[x]) {v : Value} (hs : ∀ cs b, o.op ≠ .select cs b) (hx : flat (ρ x) = true) (hv : flat v = true) (hr : ∀ w, (execOp ρ o).run P w = .ok (.value v) w) : PureR P ρ o v := by
  refine .flat v hs (fun z hz => ?_) hv hr
  rw [h] at hz
  simp only [List.mem_toArray, List.mem_cons, List.not_mem_nil, or_false] at hz
  subst hz
  exact hx
theorem pMove {x : Operand} {v : Value} (h : o.op = .move x) (hx : ρ x = v) : PureR P ρ o v := hx ▸ .move x (.inl h)
theorem pAssign {x : Operand} {v : Value} (h : o.op = .assign x) (hx : ρ x = v) : PureR P ρ o v := hx ▸ .move x (.inr h)
theorem pPick {c a b : Operand} {t : Bool} {v : Value} (h : o.op = .pick c a b) (hc : ρ c = .bool t) (hv : (if t then ρ a else ρ b) = v) : PureR P ρ o v := hv ▸ .pick c a b t h hc
theorem pExtract {x : Operand} {i : Nat} {vs : List Value} {v : Value} (h : o.op = .extract x i) (hx : ρ x = .tuple vs.toArray) (hv : vs[i]? = some v) : PureR P ρ o v := .extract x i _ v h hx (by simpa using hv)
section
variable {x y : Operand} {t u : TypeId} {k : IntKind} {a b : Int}
theorem run_int2 {op : BinOp} (h : o.op = .binOp op t x y u) (hx : ρ x = .int k a) (hy : ρ y = .int k b) {v : Value} (hop : ∀ w, (binOp op t (.int k a) (.int k b)).run P w = .ok v w) (hv : flat v = true) : PureR P ρ o v := by
  refine flat2 (x := x) (y := y) (by rw [h]; rfl) (by rw [h]; intros; simp) (by rw [hx]; rfl) (by rw [hy]; rfl) hv fun w => ?_
  have hg : (eqGuard op t x y (.int k a) (.int k b)).run P w = .ok () w := by cases op <;> rfl
  simp only [execOp, h, hx, hy, Sem.run_bind, hg, hop, Result.andThen_ok, Sem.run_pure]
theorem binOp_int {op : BinOp} (h1 : op ≠ .shl) (h2 : op ≠ .shr) (w : World) : (binOp op t (.int k a) (.int k b)).run P w = (match op with
      | .add | .sub | .mul => Op.intArith op k a b
      | .quo | .rem => Op.intDiv op k a b
      | .and | .or | .xor | .andNot => Op.intBits op k a b
      | _ => Op.intCmp op a b).run P w := by
  cases op <;> first | exact absurd rfl h1 | exact absurd rfl h2 | (simp only [binOp, ne_eq, not_true_eq_false, if_false])
theorem pAdd (h : o.op = .binOp .add t x y u) (hx : ρ x = .int k a) (hy : ρ y = .int k b) : PureR P ρ o (.int k (k.wrap (a + b))) := run_int2 h hx hy (fun w => by rw [binOp_int (by simp) (by simp)]; rfl) rfl
theorem pSub (h : o.op = .binOp .sub t x y u) (hx : ρ x = .int k a) (hy : ρ y = .int k b) : PureR P ρ o (.int k (k.wrap (a - b))) := run_int2 h hx hy (fun w => by rw [binOp_int (by simp) (by simp)]; rfl) rfl
theorem pMul (h : o.op = .binOp .mul t x y u) (hx : ρ x = .int k a) (hy : ρ y = .int k b) : PureR P ρ o (.int k (k.wrap (a * b))) := run_int2 h hx hy (fun w => by rw [binOp_int (by simp) (by simp)]; rfl) rfl
theorem pQuo (h : o.op = .binOp .quo t x y u) (hx : ρ x = .int k a) (hy : ρ y = .int k b) (hb : b ≠ 0) : PureR P ρ o (.int k (k.wrap (a.tdiv b))) := run_int2 h hx hy (fun w => by rw [binOp_int (by simp) (by simp)]; simp [Op.intDiv, hb]) rfl
theorem pRem (h : o.op = .binOp .rem t x y u) (hx : ρ x = .int k a) (hy : ρ y = .int k b) (hb : b ≠ 0) : PureR P ρ o (.int k (a.tmod b)) := run_int2 h hx hy (fun w => by rw [binOp_int (by simp) (by simp)]; simp [Op.intDiv, hb]) rfl
def bitsV (op : BinOp) (k : IntKind) (x y : Int) : Int :=
  let a := BitVec.ofInt k.bits x
  let b := BitVec.ofInt k.bits y
  match op with
  | .and => k.wrap (a &&& b).toNat
  | .or => k.wrap (a ||| b).toNat
  | .xor => k.wrap (a ^^^ b).toNat
  | _ => k.wrap (a &&& ~~~b).toNat
theorem pAnd (h : o.op = .binOp .and t x y u) (hx : ρ x = .int k a) (hy : ρ y = .int k b) : PureR P ρ o (.int k (bitsV .and k a b)) := run_int2 h hx hy (fun w => by rw [binOp_int (by simp) (by simp)]; rfl) rfl
theorem pOr (h : o.op = .binOp .or t x y u) (hx : ρ x = .int k a) (hy : ρ y = .int k b) : PureR P ρ o (.int k (bitsV .or k a b)) := run_int2 h hx hy (fun w => by rw [binOp_int (by simp) (by simp)]; rfl) rfl
theorem pXor (h : o.op = .binOp .xor t x y u) (hx : ρ x = .int k a) (hy : ρ y = .int k b) : PureR P ρ o (.int k (bitsV .xor k a b)) := run_int2 h hx hy (fun w => by rw [binOp_int (by simp) (by simp)]; rfl) rfl
theorem pAndNot (h : o.op = .binOp .andNot t x y u) (hx : ρ x = .int k a) (hy : ρ y = .int k b) : PureR P ρ o (.int k (bitsV .andNot k a b)) := run_int2 h hx hy (fun w => by rw [binOp_int (by simp) (by simp)]; rfl) rfl
theorem pEql (h : o.op = .binOp .eql t x y u) (hx : ρ x = .int k a) (hy : ρ y = .int k b) : PureR P ρ o (.bool (a == b)) := run_int2 h hx hy (fun w => by rw [binOp_int (by simp) (by simp)]; rfl) rfl
theorem pNeq (h : o.op = .binOp .neq t x y u) (hx : ρ x = .int k a) (hy : ρ y = .int k b) : PureR P ρ o (.bool (a != b)) := run_int2 h hx hy (fun w => by rw [binOp_int (by simp) (by simp)]; rfl) rfl
theorem pLss (h : o.op = .binOp .lss t x y u) (hx : ρ x = .int k a) (hy : ρ y = .int k b) : PureR P ρ o (.bool (decide (a < b))) := run_int2 h hx hy (fun w => by rw [binOp_int (by simp) (by simp)]; rfl) rfl
theorem pLeq (h : o.op = .binOp .leq t x y u) (hx : ρ x = .int k a) (hy : ρ y = .int k b) : PureR P ρ o (.bool (decide (a ≤ b))) := run_int2 h hx hy (fun w => by rw [binOp_int (by simp) (by simp)]; rfl) rfl
theorem pGtr (h : o.op = .binOp .gtr t x y u) (hx : ρ x = .int k a) (hy : ρ y = .int k b) : PureR P ρ o (.bool (decide (b < a))) := run_int2 h hx hy (fun w => by rw [binOp_int (by simp) (by simp)]; rfl) rfl
theorem pGeq (h : o.op = .binOp .geq t x y u) (hx : ρ x = .int k a) (hy : ρ y = .int k b) : PureR P ρ o (.bool (decide (b ≤ a))) := run_int2 h hx hy (fun w => by rw [binOp_int (by simp) (by simp)]; rfl) rfl
theorem pShift {op : BinOp} {yk : IntKind} (h : o.op = .binOp op t x y u) (hx : ρ x = .int k a) (hy : ρ y = .int yk b) (hb : 0 ≤ b) (hop : op = .shl ∨ op = .shr) :
    PureR P ρ o (.int k (if op = .shl then k.wrap (a * 2 ^ (min b.toNat k.bits)) else a.fdiv (2 ^ (min b.toNat k.bits)))) := by
  refine flat2 (x := x) (y := y) (by rw [h]; rfl) (by rw [h]; intros; simp) (by rw [hx]; rfl) (by rw [hy]; rfl) rfl fun w => ?_
  have hn : ¬ b < 0 := by omega
  rcases hop with rfl | rfl
  · simp [execOp, h, hx, hy, eqGuard, binOp, Op.shift, hn]
  · simp [execOp, h, hx, hy, eqGuard, binOp, Op.shift, hn]
theorem pNot {b : Bool} (h : o.op = .unOp .not t x) (hx : ρ x = .bool b) : PureR P ρ o (.bool (!b)) :=
  flat1' (x := x) (by rw [h]; rfl) (by rw [h]; intros; simp) (by rw [hx]; rfl) rfl fun w => by simp only [execOp, h, hx]; rfl
theorem pNeg (h : o.op = .unOp .neg t x) (hx : ρ x = .int k a) : PureR P ρ o (.int k (k.wrap (0 - a))) :=
  flat1' (x := x) (by rw [h]; rfl) (by rw [h]; intros; simp) (by rw [hx]; rfl) rfl fun w => by simp only [execOp, h, hx]; rfl
theorem pConv {d : TypeDesc} {k' : IntKind} (h : o.op = .convert t u x) (ht : P.underlying t = some d) (hu : P.underlying u = some (.int k')) (hx : ρ x = .int k a) : PureR P ρ o (.int k' (k'.wrap a)) :=
  flat1' (x := x) (by rw [h]; rfl) (by rw [h]; intros; simp) (by rw [hx]; rfl) rfl fun w => by simp [execOp, h, hx, convert, run_u ht, run_u hu, Conv.intToInt]
theorem maxI (k : IntKind) (a b : Int) (w : World) : (Builtin.max2 (.int k a) (.int k b)).run P w = .ok (.int k (if b > a then b else a)) w := rfl
theorem pMax2 {ts : Array TypeId} (h : o.op = .call { callee := .builtin .max, args := #[x, y], argTypes := ts }) (hx : ρ x = .int k a) (hy : ρ y = .int k b) : PureR P ρ o (.int k (max a b)) := by
  refine flat2 (x := x) (y := y) (by rw [h]; rfl) (by rw [h]; intros; simp) (by rw [hx]; rfl) (by rw [hy]; rfl) rfl fun w => ?_
  have : (Value.int k (if b > a then b else a)) = .int k (max a b) := by congr 1; split <;> omega
  rw [← this]
  simp [execOp, h, hx, hy, resolve, invoke, builtin, Builtin.max_, List.foldlM, Builtin.max2]
theorem pMin2 {ts : Array TypeId} (h : o.op = .call { callee := .builtin .min, args := #[x, y], argTypes := ts }) (hx : ρ x = .int k a) (hy : ρ y = .int k b) : PureR P ρ o (.int k (min a b)) := by
  refine flat2 (x := x) (y := y) (by rw [h]; rfl) (by rw [h]; intros; simp) (by rw [hx]; rfl) (by rw [hy]; rfl) rfl fun w => ?_
  have : (Value.int k (if b < a then b else a)) = .int k (min a b) := by congr 1; split <;> omega
  rw [← this]
  simp [execOp, h, hx, hy, resolve, invoke, builtin, Builtin.min_, List.foldlM, Builtin.min2]
end
section
variable {x y : Operand} {t u : TypeId} {s r : List UInt8}
theorem str_size : (⟨s.toArray⟩ : ByteArray).size = s.length := by simp [ByteArray.size]
theorem pLenS {ts : Array TypeId} (h : o.op = .call { callee := .builtin .len, args := #[x], argTypes := ts }) (hts : ts[0]? = some t) (ht : P.underlying t = some .string) (hx : ρ x = str s) : PureR P ρ o (.int .i64 s.length) :=
  flat1' (x := x) (by rw [h]; rfl) (by rw [h]; intros; simp) (by rw [hx]; rfl) rfl fun w => by
    simp [execOp, h, hx, resolve, invoke, builtin, Builtin.len_, hts, str, run_u ht, goInt, str_size]
theorem pIndexS {k : IntKind} {n : Int} {c : UInt8} (h : o.op = .index t x y) (ht : P.underlying t = some .string) (hx : ρ x = str s) (hy : ρ y = .int k n) (h0 : 0 ≤ n) (hc : s[n.toNat]? = some c) : PureR P ρ o (.int .u8 c.toNat) := by
  refine flat2 (x := x) (y := y) (by rw [h]; rfl) (by rw [h]; intros; simp) (by rw [hx]; rfl) (by rw [hy]; rfl) rfl fun w => ?_
  have hg : (⟨s.toArray⟩ : ByteArray)[n.toNat]? = some c := by
    have hlt := (List.getElem?_eq_some_iff.1 hc).1
    have h2 := (List.getElem?_eq_some_iff.1 hc).2
    rw [getElem?_pos (h := by rw [str_size]; exact hlt)]
    congr 1
  simp [execOp, h, hx, hy, Instr.index, asIntOf, run_u ht, str, h0, hg]
theorem str_extract (i k : Nat) : (⟨s.toArray⟩ : ByteArray).extract i k = ⟨((s.take k).drop i).toArray⟩ := by
  have : ((⟨s.toArray⟩ : ByteArray).extract i k).data = ((s.take k).drop i).toArray := by
    rw [ByteArray.data_extract]
    simp [List.extract_eq_drop_take']
  cases hb : (⟨s.toArray⟩ : ByteArray).extract i k
  rw [hb] at this
  simp only at this
  rw [this]
theorem pSliceS {lo hi : Option Operand} {a b : Nat} (h : o.op = .slice t x lo hi none) (ht : P.underlying t = some .string) (hx : ρ x = str s) (hlo : lowIs ρ lo a) (hhi : highIs ρ hi s.length b)
    (h1 : a ≤ b) (h2 : b ≤ s.length) : PureR P ρ o (str ((s.take b).drop a)) := by
  refine .flat _ (by rw [h]; intros; simp) (fun z hz => ?_) rfl fun w => ?_
  · rw [h] at hz
    cases lo with
    | none => cases hi with
      | none => simp [Op.operands] at hz; subst hz; rw [hx]; rfl
      | some y =>
        obtain ⟨k, hy⟩ := hhi
        simp [Op.operands] at hz
        rcases hz with rfl | rfl
        · rw [hx]; rfl
        · rw [hy]; rfl
    | some q =>
      obtain ⟨k', hq⟩ := hlo
      cases hi with
      | none =>
        simp [Op.operands] at hz
        rcases hz with rfl | rfl
        · rw [hx]; rfl
        · rw [hq]; rfl
      | some y =>
        obtain ⟨k, hy⟩ := hhi
        simp [Op.operands] at hz
        rcases hz with rfl | rfl | rfl
        · rw [hx]; rfl
        · rw [hq]; rfl
        · rw [hy]; rfl
  · have hbnd : (Instr.sliceBounds false s.length s.length (lo.map ρ) (hi.map ρ) none).run P w = .ok (a, b, s.length) w := by
      cases lo with
      | none =>
        simp only [lowIs] at hlo
        subst hlo
        cases hi with
        | none => simp only [highIs] at hhi; subst hhi; simp [Instr.sliceBounds]
        | some y => obtain ⟨k, hy⟩ := hhi; simp [Instr.sliceBounds, hy, Instr.sliceBound, asIntOf, h2]
      | some q =>
        obtain ⟨k', hq⟩ := hlo
        cases hi with
        | none => simp only [highIs] at hhi; subst hhi; simp [Instr.sliceBounds, hq, Instr.sliceBound, asIntOf, h1]
        | some y => obtain ⟨k, hy⟩ := hhi; simp [Instr.sliceBounds, hy, hq, Instr.sliceBound, asIntOf, h1, h2]
    simp only [execOp, h, Instr.sliceAt, Sem.run_bind, run_u ht, Result.andThen_ok, Option.map_none, Instr.slice, hx, str, Option.isSome_none, Bool.false_eq_true, if_false, Sem.run_pure, str_size, hbnd, str_extract]
theorem str_eq : ((⟨s.toArray⟩ : ByteArray).toList == (⟨r.toArray⟩ : ByteArray).toList) = (s == r) := by
  have h : ∀ l : List UInt8, (⟨l.toArray⟩ : ByteArray).toList = l := fun l => by rw [Go.ByteArray.toList_eq]
  rw [h, h]
theorem run_str2 {op : BinOp} (h : o.op = .binOp op t x y u) (hx : ρ x = str s) (hy : ρ y = str r) (hsh : op ≠ .shl ∧ op ≠ .shr) {v : Value} (hop : ∀ w, (Op.stringOp op ⟨s.toArray⟩ ⟨r.toArray⟩).run P w = .ok v w) (hv : flat v = true) : PureR P ρ o v := by
  refine flat2 (x := x) (y := y) (by rw [h]; rfl) (by rw [h]; intros; simp) (by rw [hx]; rfl) (by rw [hy]; rfl) hv fun w => ?_
  have hg : (eqGuard op t x y (str s) (str r)).run P w = .ok () w := by cases op <;> rfl
  have hb : (binOp op t (str s) (str r)).run P w = .ok v w := by
    rw [← hop w]
    cases op <;> first | exact absurd rfl hsh.1 | exact absurd rfl hsh.2 | rfl
  simp only [execOp, h, hx, hy, Sem.run_bind, hg, hb, Result.andThen_ok, Sem.run_pure]
def strLt (s r : List UInt8) : Bool := Op.bytesLess s r
theorem toL (l : List UInt8) : (⟨l.toArray⟩ : ByteArray).toList = l := by rw [Go.ByteArray.toList_eq]
theorem pEqlS (h : o.op = .binOp .eql t x y u) (hx : ρ x = str s) (hy : ρ y = str r) : PureR P ρ o (.bool (s == r)) := run_str2 h hx hy (by simp) (fun w => by simp only [Op.stringOp, toL]; rfl) rfl
theorem pNeqS (h : o.op = .binOp .neq t x y u) (hx : ρ x = str s) (hy : ρ y = str r) : PureR P ρ o (.bool (!(s == r))) := run_str2 h hx hy (by simp) (fun w => by simp only [Op.stringOp, toL]; rfl) rfl
theorem pLssS (h : o.op = .binOp .lss t x y u) (hx : ρ x = str s) (hy : ρ y = str r) : PureR P ρ o (.bool (strLt s r)) := run_str2 h hx hy (by simp) (fun w => by simp only [Op.stringOp, toL]; rfl) rfl
theorem pLeqS (h : o.op = .binOp .leq t x y u) (hx : ρ x = str s) (hy : ρ y = str r) : PureR P ρ o (.bool (strLt s r || (s == r))) := run_str2 h hx hy (by simp) (fun w => by simp only [Op.stringOp, toL]; rfl) rfl
theorem pGtrS (h : o.op = .binOp .gtr t x y u) (hx : ρ x = str s) (hy : ρ y = str r) : PureR P ρ o (.bool (!(strLt s r || (s == r)))) := run_str2 h hx hy (by simp) (fun w => by simp only [Op.stringOp, toL]; rfl) rfl
theorem pGeqS (h : o.op = .binOp .geq t x y u) (hx : ρ x = str s) (hy : ρ y = str r) : PureR P ρ o (.bool (!strLt s r)) := run_str2 h hx hy (by simp) (fun w => by simp only [Op.stringOp, toL]; rfl) rfl
theorem str_app : (⟨s.toArray⟩ : ByteArray) ++ (⟨r.toArray⟩ : ByteArray) = ⟨(s ++ r).toArray⟩ := by
  have : ((⟨s.toArray⟩ : ByteArray) ++ (⟨r.toArray⟩ : ByteArray)).data = (s ++ r).toArray := by
    rw [ByteArray.data_append]; simp
  cases hb : (⟨s.toArray⟩ : ByteArray) ++ (⟨r.toArray⟩ : ByteArray)
  rw [hb] at this
  simp only at this
  rw [this]
theorem pAddS (h : o.op = .binOp .add t x y u) (hx : ρ x = str s) (hy : ρ y = str r) (hl : s.length + r.length ≤ 9223372036854775807) : PureR P ρ o (str (s ++ r)) := run_str2 h hx hy (by simp) (fun w => by
  simp only [Op.stringOp, str_size, Nat.not_lt.2 hl]
  rw [if_neg (by show ¬ _ > (9223372036854775807 : Int); omega), str_app]; rfl) rfl
theorem run_bool2 {op : BinOp} {a b : Bool} (h : o.op = .binOp op t x y u) (ht : P.underlying t = some .bool) (hx : ρ x = .bool a) (hy : ρ y = .bool b) (hop : op = .eql ∨ op = .neq) : PureR P ρ o (.bool (if op = .eql then a == b else !(a == b))) := by
  refine flat2 (x := x) (y := y) (by rw [h]; rfl) (by rw [h]; intros; simp) (by rw [hx]; rfl) (by rw [hy]; rfl) rfl fun w => ?_
  have he : (Op.equal t (.bool a) (.bool b)).run P w = .ok (a == b) w := by
    have hd : ∀ d : Nat, (Op.equalIn (d + 1) t (.bool a) (.bool b)).run P w = .ok (a == b) w := fun d => by
      simp only [Op.equalIn, Sem.run_bind, run_u ht, Result.andThen_ok, Sem.run_pure]
    exact hd 9999
  have hg : (eqGuard op t x y (.bool a) (.bool b)).run P w = .ok () w := by rcases hop with rfl | rfl <;> rfl
  have hb : (binOp op t (.bool a) (.bool b)).run P w = .ok (.bool (if op = .eql then a == b else !(a == b))) w := by
    rcases hop with rfl | rfl
    · show (do pure (Value.bool (← Op.equal t (.bool a) (.bool b))) : Sem Value).run P w = _
      simp only [Sem.run_bind, he, Result.andThen_ok, Sem.run_pure, if_true]
    · show (do pure (Value.bool (!(← Op.equal t (.bool a) (.bool b)))) : Sem Value).run P w = _
      simp only [Sem.run_bind, he, Result.andThen_ok, Sem.run_pure]
      rfl
  simp only [execOp, h, hx, hy, Sem.run_bind, hg, hb, Result.andThen_ok, Sem.run_pure]
theorem pEqlB {a b : Bool} (h : o.op = .binOp .eql t x y u) (ht : P.underlying t = some .bool) (hx : ρ x = .bool a) (hy : ρ y = .bool b) : PureR P ρ o (.bool (a == b)) := run_bool2 h ht hx hy (.inl rfl)
theorem pNeqB {a b : Bool} (h : o.op = .binOp .neq t x y u) (ht : P.underlying t = some .bool) (hx : ρ x = .bool a) (hy : ρ y = .bool b) : PureR P ρ o (.bool (!(a == b))) := run_bool2 h ht hx hy (.inr rfl)
end
end
end Go.AM
end
section
set_option linter.unusedSimpArgs false
set_option linter.unusedVariables false
namespace Go.AM
def getI {α : Type} (xs : List α) (i : Int) : Option α := if 0 ≤ i then xs[i.toNat]? else none
theorem getI_some {α : Type} {xs : List α} {i : Int} {x : α} (h : getI xs i = some x) : 0 ≤ i ∧ i < xs.length ∧ xs[i.toNat]? = some x := by
  unfold getI at h
  split at h
  · have := (List.getElem?_eq_some_iff.1 h).1
    exact ⟨‹_›, by omega, h⟩
  · cases h
def CR (z : Nat → Blk) (p : Value) (cs : List Value) : Prop := ∃ b o, p = .pointer (some ⟨b, o, none⟩) ∧ cellsAt z b o cs
def CM (m : Mem) (p : Value) (cs : List Value) : Prop := ∃ b o, p = .pointer (some ⟨b, o, none⟩) ∧ ∀ (i : Nat) (u : Value), cs[i]? = some u → m.load b (o + i) = some u
theorem CR.cm {z : Nat → Blk} {m : Mem} {p : Value} {cs : List Value} (h : CR z p cs) (hz : Fz z m) : CM m p cs := by
  obtain ⟨b, o, rfl, h⟩ := h
  exact ⟨b, o, rfl, fun i u hi => ldz_load hz (h i u hi)⟩
theorem CM.own {m : Mem} {b : Nat} {cs : List Value} {t : TypeId} (h : m.blk b = .own cs t) : CM m (.pointer (some ⟨b, 0, none⟩)) cs :=
  ⟨b, 0, rfl, fun i u hi => by simp only [Mem.load, h, Nat.zero_add]; exact hi⟩
section
variable {P : Program} {ρ : Operand → Value} {o : Oper} {α : Type} {T : Ty α} {z : Nat → Blk} {m : Mem} {xs : List α} {v : Value} {x y : Operand} {t e u : TypeId} {i : TypeInfo} {d : TypeDesc}
theorem rdN_of {b : Nat} : ∀ (n off : Nat) (cs : List Value), cs.length = n → (∀ (i : Nat) (u : Value), cs[i]? = some u → m.load b (off + i) = some u) → rdN m b off n = some cs
  | 0, off, cs, hl, _ => by rw [List.eq_nil_of_length_eq_zero hl]; rfl
  | n + 1, off, c :: cs, hl, h => by
    have h0 := h 0 c (by simp)
    have ih := rdN_of n (off + 1) cs (by simpa using hl) fun i u hi => by
      have := h (i + 1) u (by simpa using hi)
      rw [show off + 1 + i = off + (i + 1) by omega]; exact this
    simp only [Nat.add_zero] at h0
    simp only [rdN, h0, ih]
  | n + 1, off, [], hl, _ => by simp at hl
theorem pLenR (h : o.op = .call { callee := .builtin .len, args := #[x], argTypes := #[t] }) (ht : P.underlying t = some (.slice e)) (hx : ρ x = v) (hs : SlR T z xs v) : PureR P ρ o (.int .i64 xs.length) := by
  obtain ⟨a, c, rfl⟩ := hs.len
  exact .len x t e a _ c h ht hx
theorem pLenO (h : o.op = .call { callee := .builtin .len, args := #[x], argTypes := #[t] }) (ht : P.underlying t = some (.slice e)) (hx : ρ x = v) (hs : Ow T z m xs v) : PureR P ρ o (.int .i64 xs.length) := by
  obtain ⟨a, c, rfl⟩ := hs.len
  exact .len x t e a _ c h ht hx
theorem pIdxR {k : IntKind} {n : Int} {a : α} (h : o.op = .indexAddr t x y) (ht : P.underlying t = some (.slice e)) (hi : P.info? e = some i) (hsz : i.size = T.sz) (hx : ρ x = v) (hy : ρ y = .int k n) (hs : SlR T z xs v) (hg : getI xs n = some a) :
    ∃ p cs, PureR P ρ o p ∧ T.rd z a cs ∧ CR z p cs := by
  obtain ⟨h0, h1, h2⟩ := getI_some hg
  rcases hs with ⟨_, rfl⟩ | ⟨b, off, c, rfl, _, _, h4⟩
  · simp at h2
  · obtain ⟨cs, g1, g2⟩ := h4 _ a h2
    exact ⟨_, cs, .indexAddr t x y e i b off _ c k n h ht hi hx hy h0 h1, g1, b, _, rfl, by rw [hsz]; exact g2⟩
def PtO (s : Nat) (v : Value) (n : Nat) (p : Value) : Prop := ∃ b f0 l c, v = .slice (some ⟨b, f0, none⟩) l c ∧ p = .pointer (some ⟨b, f0 + n * s, none⟩)
theorem pIdxO {k : IntKind} {n : Int} {a : α} (h : o.op = .indexAddr t x y) (ht : P.underlying t = some (.slice e)) (hi : P.info? e = some i) (hsz : i.size = T.sz) (hx : ρ x = v) (hy : ρ y = .int k n) (hs : Ow T z m xs v) (hg : getI xs n = some a) :
    ∃ p cs, PureR P ρ o p ∧ T.rd z a cs ∧ CM m p cs ∧ PtO T.sz v n.toNat p := by
  obtain ⟨h0, h1, h2⟩ := getI_some hg
  rcases hs with ⟨_, rfl⟩ | ⟨b, f0, L, c, rfl, hb, _, _, hl, _, h4⟩
  · simp at h2
  · obtain ⟨cs, g1, g2⟩ := h4 _ a h2
    refine ⟨_, cs, .indexAddr t x y e i b f0 _ c k n h ht hi hx hy h0 h1, g1, ⟨b, _, rfl, fun j u hj => ?_⟩, ⟨b, f0, _, c, rfl, by rw [hsz]⟩⟩
    simp only [Mem.load, hb, hsz]
    exact g2 j u hj
theorem rdOne {p : Value} {c : Value} {cs : List Value} (h : o.op = .load t x) (ht : P.underlying t = some d) (hd : aggT d = false) (hx : ρ x = p) (hc : CM m p (c :: cs)) : ReadR P ρ o m c := by
  obtain ⟨b, off, rfl, hc⟩ := hc
  exact .load t x b off d c h hx ht hd (by have := hc 0 c (by simp); simpa using this)
theorem rdAgg {p : Value} {cs cs' : List Value} (h : o.op = .load t x) (ht : P.underlying t = some d) (hd : aggT d = true) (hi : P.info? t = some i) (hx : ρ x = p) (hc : CM m p cs') (hsz : i.size ≤ cs'.length) (hcs : cs = cs'.take i.size) : ReadR P ρ o m (.agg cs.toArray) := by
  obtain ⟨b, off, rfl, hc⟩ := hc
  subst hcs
  refine .loadA t x b off d i _ h hx ht hd hi (rdN_of _ _ _ (by simp [hsz]) fun k u hk => ?_)
  rw [List.getElem?_take] at hk
  split at hk
  · exact hc k u hk
  · cases hk
theorem pFieldAddr {n : Nat} {fs : Array Field} {f : Field} {p : Value} (h : o.op = .fieldAddr t x n) (ht : P.underlying t = some (.struct fs)) (hf : fs[n]? = some f) (hi : P.info? f.type = some i) (hs : i.size ≠ 0) (hx : ρ x = p) {b off : Nat} (hp : p = .pointer (some ⟨b, off, none⟩)) :
    PureR P ρ o (.pointer (some ⟨b, off + f.offset, none⟩)) := .fieldAddr t x n fs f i b off h ht hf hi hs (by rw [hx, hp])
theorem pFieldAddrM {n : Nat} {fs : Array Field} {f : Field} {p : Value} {cs : List Value} (h : o.op = .fieldAddr t x n) (ht : P.underlying t = some (.struct fs)) (hf : fs[n]? = some f) (hi : P.info? f.type = some i) (hs : i.size ≠ 0) (hx : ρ x = p) (hc : CM m p cs) :
    ∃ q, PureR P ρ o q ∧ CM m q (cs.drop f.offset) := by
  obtain ⟨b, off, rfl, hc⟩ := hc
  exact ⟨_, .fieldAddr t x n fs f i b off h ht hf hi hs hx, b, _, rfl, fun k u hk => by
    rw [List.getElem?_drop] at hk
    rw [Nat.add_assoc]; exact hc _ u hk⟩
theorem pFieldAddrR {n : Nat} {fs : Array Field} {f : Field} {p : Value} {cs : List Value} (h : o.op = .fieldAddr t x n) (ht : P.underlying t = some (.struct fs)) (hf : fs[n]? = some f) (hi : P.info? f.type = some i) (hs : i.size ≠ 0) (hx : ρ x = p) (hc : CR z p cs) :
    ∃ q, PureR P ρ o q ∧ CR z q (cs.drop f.offset) := by
  obtain ⟨b, off, rfl, hc⟩ := hc
  exact ⟨_, .fieldAddr t x n fs f i b off h ht hf hi hs hx, b, _, rfl, fun k u hk => by
    rw [List.getElem?_drop] at hk
    rw [Nat.add_assoc]; exact hc _ u hk⟩
def cutI {α : Type} (xs : List α) (a b : Int) : Option (List α) := if 0 ≤ a ∧ a ≤ b ∧ b ≤ xs.length then some ((xs.take b.toNat).drop a.toNat) else none
theorem cutI_some {xs : List α} {a b : Int} {r : List α} (h : cutI xs a b = some r) : 0 ≤ a ∧ a ≤ b ∧ b ≤ xs.length ∧ r = (xs.take b.toNat).drop a.toNat := by
  unfold cutI at h
  split at h
  · rename_i hc
    cases h
    exact ⟨hc.1, hc.2.1, hc.2.2, rfl⟩
  · cases h
def lowI (ρ : Operand → Value) (lo : Option Operand) (n : Int) : Prop :=
  match lo with
  | none => n = 0
  | some y => ∃ k, ρ y = .int k n
def highI (ρ : Operand → Value) (hi : Option Operand) (l : Nat) (n : Int) : Prop :=
  match hi with
  | none => n = l
  | some y => ∃ k, ρ y = .int k n
theorem lowI_is {ρ : Operand → Value} {lo : Option Operand} {n : Nat} (h : lowI ρ lo n) : lowIs ρ lo n := by
  cases lo with
  | none => simp only [lowI] at h; simp only [lowIs]; omega
  | some y => exact h
theorem highI_is {ρ : Operand → Value} {hi : Option Operand} {l n : Nat} (h : highI ρ hi l n) : highIs ρ hi l n := by
  cases hi with
  | none => simp only [highI] at h; simp only [highIs]; omega
  | some y => exact h
theorem cut_get {xs : List α} {a b k : Nat} {r : α} (h : ((xs.take b).drop a)[k]? = some r) : xs[a + k]? = some r := by
  rw [List.getElem?_drop, List.getElem?_take] at h
  split at h
  · exact h
  · cases h
theorem sCutR {lo hi : Option Operand} {a b : Int} {r : List α} (h : o.op = .slice t x lo hi none) (ht : P.underlying t = some (.slice T.tid)) (hi' : P.info? T.tid = some i) (hsz : i.size = T.sz) (hx : ρ x = v)
    (hlo : lowI ρ lo a) (hhi : highI ρ hi xs.length b) (hs : SlR T z xs v) (hz : Fz z m) (hr : cutI xs a b = some r) :
    ∃ v', (PureR P ρ o v' ∨ ReadR P ρ o m v') ∧ SlR T z r v' := by
  obtain ⟨h0, h1, h2, rfl⟩ := cutI_some hr
  obtain ⟨a', rfl⟩ := Int.eq_ofNat_of_zero_le h0
  obtain ⟨b', rfl⟩ := Int.eq_ofNat_of_zero_le (Int.le_trans h0 h1)
  have h1' : a' ≤ b' := by omega
  have h2' : b' ≤ xs.length := by omega
  simp only [Int.toNat_natCast]
  have hlo' := lowI_is hlo
  have hhi' := highI_is hhi
  have hlen : ((xs.take b').drop a').length = b' - a' := by simp; omega
  rcases hs with ⟨rfl, rfl⟩ | ⟨bl, off, c, rfl, hlive, hcap, hel⟩
  · have hb0 : b' = 0 := by simpa using h2'
    subst hb0
    have ha0 : a' = 0 := by omega
    subst ha0
    exact ⟨.slice none 0 0, .inl (.sliceNil t x lo hi T.tid i h ht hi' hx hlo' hhi'), .inl ⟨rfl, by simp⟩⟩
  · have hel' : ∀ o', o' = off + a' * T.sz → ∀ (k : Nat) (w : α), ((xs.take b').drop a')[k]? = some w → ∃ cs, T.rd z w cs ∧ cellsAt z bl (o' + k * T.sz) cs := by
      intro o' ho' k w hk
      obtain ⟨cs, g1, g2⟩ := hel _ w (cut_get hk)
      refine ⟨cs, g1, ?_⟩
      rw [ho', Nat.add_assoc, ← Nat.add_mul]; exact g2
    rcases hcap with ⟨rfl, L, hL, hlL⟩ | ⟨hc, hle⟩
    · refine ⟨_, .inr (.slice t x lo hi T.tid i L bl off xs.length a' b' h ht hi' hx ?_ hlo' hhi' h1' h2' (by rw [hsz]; exact hlL)), ?_⟩
      · rw [(hz.fzn hlive).1]; exact hL
      · refine .inr ⟨bl, off + a' * T.sz, BIG, by rw [hlen, hsz], hlive, .inl ⟨rfl, L, hL, ?_⟩, hel' _ rfl⟩
        rw [hlen, Nat.add_assoc, ← Nat.add_mul]
        have : (a' + (b' - a')) * T.sz ≤ xs.length * T.sz := Nat.mul_le_mul_right _ (by omega)
        omega
    · refine ⟨_, .inl (.slice t x lo hi T.tid i bl off xs.length c a' b' h ht hi' hx (by simp only [BIG] at hc ⊢; omega) hlo' hhi' h1' (by omega) (fun _ => trivial)), ?_⟩
      by_cases hcn : c = a'
      · have h00 : b' - a' = 0 := by omega
        refine .inr ⟨bl, off, c - a', by simp [hcn, hlen, h00], hlive, .inr ⟨by omega, by rw [hlen]; omega⟩, fun k w hk => ?_⟩
        have hlt := (List.getElem?_eq_some_iff.1 hk).1
        omega
      · refine .inr ⟨bl, off + a' * T.sz, c - a', by rw [if_neg hcn, hlen, hsz], hlive, .inr ⟨by omega, by rw [hlen]; omega⟩, hel' _ rfl⟩
theorem eStore {P : Program} {C : FuncId → Array Value → Mem → Value → Mem → Prop} {b off : Nat} {L cs : List Value} (h : o.op = .store t x y) (hi : P.info? t = some i) (hx : ρ x = .pointer (some ⟨b, off, none⟩)) (hm : m.blk b = .own L e) (hv : storable (ρ y) = true) (hcs : (ρ y).cells.toList = cs) (hs : cs.length = i.size) (hl : off + cs.length ≤ L.length) :
    EffR P C ρ o m undef (m.put b (.own (setN L off cs) e)) := by
  subst hcs
  exact .store t x y b off i L e h hx hi hm hv (by simpa using hs) (by rw [← hs]; exact hl)
theorem same_put {b : Nat} {x : Blk} (hd : ∀ b, m.next ≤ b → m.blk b = .dead) (hb : b < m.next) : Same m (m.put b x) (some b) := by
  refine ⟨Nat.le_refl _, fun c hc => ?_, fun c hc hk => ?_⟩
  · have hc : m.next ≤ c := hc
    simp only [Mem.put]
    rw [if_neg (by omega)]
    exact hd c hc
  · simp only [Mem.put]
    rw [if_neg (fun h => hk (by rw [h]))]
theorem same_push {x : Blk} (hd : ∀ b, m.next ≤ b → m.blk b = .dead) : Same m (m.push x) none := by
  refine ⟨Nat.le_succ _, fun c hc => ?_, fun c hc _ => ?_⟩
  · simp only [Mem.push] at hc ⊢
    rw [if_neg (by omega)]
    exact hd c (by omega)
  · simp only [Mem.push]
    rw [if_neg (by omega)]
theorem Ow.same {m' : Mem} {q : Option Nat} (h : Ow T z m xs v) (s : Same m m' q) (hap : Ap (blkOf v) q) : Ow T z m' xs v :=
  h.frame fun b hb hlt => ⟨s.blk b hlt (fun hq => hap b hb hq), Nat.lt_of_lt_of_le hlt s.next⟩
theorem own_same {m' : Mem} {q : Option Nat} {b : Nat} {X : Blk} (h : m.blk b = X) (hb : b < m.next) (s : Same m m' q) (hap : q ≠ some b) : m'.blk b = X ∧ b < m'.next := ⟨by rw [s.blk b hb hap]; exact h, Nat.lt_of_lt_of_le hb s.next⟩
theorem Ow.store {n : Nat} {a a' : α} {cs cs' : List Value} {f : Nat} {new : List Value} {b f0 l c : Nat} (hs : Ow T z m xs v) (hd : ∀ b, m.next ≤ b → m.blk b = .dead) (hv : v = .slice (some ⟨b, f0, none⟩) l c) (ha : xs[n]? = some a) (hr : T.rd z a cs) (hc : CM m (.pointer (some ⟨b, f0 + n * T.sz, none⟩)) cs) (hr' : T.rd z a' cs') (hcs : cs' = setN cs f new) (hf : f + new.length ≤ cs.length) :
    ∃ L, m.blk b = .own L T.tid ∧ f0 + n * T.sz + f + new.length ≤ L.length ∧ Ow T z (m.put b (.own (setN L (f0 + n * T.sz + f) new) T.tid)) (xs.set n a') v ∧ Same m (m.put b (.own (setN L (f0 + n * T.sz + f) new) T.tid)) (some b) := by
  rcases hs with ⟨rfl, _⟩ | ⟨b', f1, L, c', hv', hb, hlt, hz, hl, hcap, hel⟩
  · cases hv
  · subst hv
    simp only [Value.slice.injEq, Option.some.injEq, Addr.mk.injEq, and_true] at hv'
    obtain ⟨⟨rfl, rfl⟩, rfl, rfl⟩ := hv'
    have hn : n < xs.length := (List.getElem?_eq_some_iff.1 ha).1
    have hlen := T.len z a cs hr
    have hlen' := T.len z a' cs' hr'
    have hfit : f0 + n * T.sz + T.sz ≤ L.length := by
      have : (n + 1) * T.sz ≤ xs.length * T.sz := Nat.mul_le_mul_right _ hn
      rw [Nat.add_mul, Nat.one_mul] at this
      omega
    have hL : (setN L (f0 + n * T.sz + f) new).length = L.length := setN_length _ _ _
    refine ⟨L, hb, by omega, .inr ⟨b, f0, setN L (f0 + n * T.sz + f) new, c, by simp, by simp [Mem.put], hlt, hz, by rw [hL]; simpa using hl, by rw [hL]; simpa using hcap, fun k w hk => ?_⟩, same_put hd hlt⟩
    rw [List.getElem?_set] at hk
    by_cases hkn : n = k
    · subst hkn
      simp [hn] at hk
      subst hk
      refine ⟨cs', hr', fun q u hq => ?_⟩
      have hqlt := (List.getElem?_eq_some_iff.1 hq).1
      rw [hcs, setN_get _ _ _ _ hf] at hq
      rw [setN_get _ _ _ _ (by omega)]
      by_cases hin : f ≤ q ∧ q < f + new.length
      · rw [if_pos hin] at hq
        rw [if_pos (by omega), show f0 + n * T.sz + q - (f0 + n * T.sz + f) = q - f by omega]; exact hq
      · rw [if_neg hin] at hq
        rw [if_neg (by omega)]
        obtain ⟨b2, o2, hp, hcm⟩ := hc
        simp only [Value.pointer.injEq, Option.some.injEq, Addr.mk.injEq, and_true] at hp
        obtain ⟨rfl, rfl⟩ := hp
        have := hcm q u hq
        simp only [Mem.load, hb] at this
        exact this
    · rw [if_neg hkn] at hk
      obtain ⟨cs2, g1, g2⟩ := hel k w hk
      refine ⟨cs2, g1, fun q u hq => ?_⟩
      have hqlt := (List.getElem?_eq_some_iff.1 hq).1
      rw [T.len z w cs2 g1] at hqlt
      rw [setN_get _ _ _ _ (by omega)]
      have hout : ¬ (f0 + n * T.sz + f ≤ f0 + k * T.sz + q ∧ f0 + k * T.sz + q < f0 + n * T.sz + f + new.length) := by
        rcases Nat.lt_or_gt_of_ne hkn with h' | h'
        · have : (n + 1) * T.sz ≤ k * T.sz := Nat.mul_le_mul_right _ h'
          rw [Nat.add_mul, Nat.one_mul] at this
          omega
        · have : (k + 1) * T.sz ≤ n * T.sz := Nat.mul_le_mul_right _ h'
          rw [Nat.add_mul, Nat.one_mul] at this
          omega
      rw [if_neg hout]
      exact g2 q u hq
end
end Go.AM
end
section
set_option linter.unusedSimpArgs false
set_option linter.unusedVariables false
namespace Go.AM
def LIM : Nat := 4294967296
def appI {α : Type} (xs ys : List α) : Option (List α) := if xs.length + ys.length ≤ LIM then some (xs ++ ys) else none
theorem appI_some {α : Type} {xs ys r : List α} (h : appI xs ys = some r) : xs.length + ys.length ≤ LIM ∧ r = xs ++ ys := by
  unfold appI at h
  split at h
  · cases h; exact ⟨‹_›, rfl⟩
  · cases h
def mkI {α : Type} (x : α) (n : Int) : Option (List α) := if 0 ≤ n ∧ n ≤ 4294967296 then some (List.replicate n.toNat x) else none
theorem mkI_some {α : Type} {x : α} {n : Int} {r : List α} (h : mkI x n = some r) : 0 ≤ n ∧ n ≤ 4294967296 ∧ r = List.replicate n.toNat x := by
  unfold mkI at h
  split at h
  · rename_i hc; cases h; exact ⟨hc.1, hc.2, rfl⟩
  · cases h
def toU8 (n : Int) : Option UInt8 := if 0 ≤ n ∧ n < 256 then some (UInt8.ofNat n.toNat) else none
theorem toU8_some {n : Int} {u : UInt8} (h : toU8 n = some u) : n = u.toNat := by
  unfold toU8 at h
  split at h
  · rename_i hc
    cases h
    simp; omega
  · cases h
def divI (a b : Int) : Option Int := if b = 0 then none else some (a.tdiv b)
def modI (a b : Int) : Option Int := if b = 0 then none else some (a.tmod b)
theorem divI_some {a b r : Int} (h : divI a b = some r) : b ≠ 0 ∧ r = a.tdiv b := by
  unfold divI at h; split at h
  · cases h
  · cases h; exact ⟨‹_›, rfl⟩
theorem modI_some {a b r : Int} (h : modI a b = some r) : b ≠ 0 ∧ r = a.tmod b := by
  unfold modI at h; split at h
  · cases h
  · cases h; exact ⟨‹_›, rfl⟩
def lt {α β : Type} (x : α) (f : α → Option β) : Option β := f x
theorem lt_some {α β : Type} {x : α} {f : α → Option β} {r : β} (h : lt x f = some r) : ∃ y, x = y ∧ f y = some r := ⟨x, rfl, h⟩
theorem bind_some {α β : Type} {x : Option α} {f : α → Option β} {r : β} (h : x.bind f = some r) : ∃ y, x = some y ∧ f y = some r := Option.bind_eq_some_iff.1 h
theorem if_some {β : Type} {c : Bool} {x y : Option β} {r : β} (h : (if c = true then x else y) = some r) : (c = true ∧ x = some r) ∨ (c = false ∧ y = some r) := by
  cases c
  · exact .inr ⟨rfl, by simpa using h⟩
  · exact .inl ⟨rfl, by simpa using h⟩
def TU8 (t : TypeId) : Ty UInt8 := Ty.flat t (fun u => .int .u8 u.toNat) fun _ => rfl
section
variable {P : Program} {C : FuncId → Array Value → Mem → Value → Mem → Prop} {ρ : Operand → Value} {o : Oper} {α : Type} {T : Ty α} {z : Nat → Blk} {m : Mem} {xs ys : List α} {v w : Value} {x y : Operand} {t e u : TypeId} {i : TypeInfo} {d : TypeDesc}
def Src (T : Ty α) (z : Nat → Blk) (m : Mem) (ys : List α) (w : Value) : Prop :=
  lenV w = ys.length ∧ ∃ cs, elems m T.sz w = some cs ∧ cs.length = ys.length * T.sz ∧ ∀ (i : Nat) (y : α), ys[i]? = some y → ∃ c, T.rd z y c ∧ cellsIn cs (i * T.sz) c
theorem rdN_get {m : Mem} {b : Nat} : ∀ (n off : Nat) (f : Nat → Value), (∀ i, i < n → m.load b (off + i) = some (f i)) → rdN m b off n = some ((List.range n).map f)
  | 0, off, f, _ => rfl
  | n + 1, off, f, h => by
    have h0 := h 0 (by omega)
    have ih := rdN_get n (off + 1) (fun i => f (i + 1)) fun i hi => by rw [show off + 1 + i = off + (i + 1) by omega]; exact h (i + 1) (by omega)
    simp only [Nat.add_zero] at h0
    simp only [rdN, h0, ih, List.range_succ_eq_map, List.map_cons, List.map_map]
    rfl
theorem src_of {b off c : Nat} (h : ∀ (i : Nat) (y : α), ys[i]? = some y → ∃ cs, T.rd z y cs ∧ ∀ (k : Nat) (u : Value), cs[k]? = some u → m.load b (off + i * T.sz + k) = some u) : Src T z m ys (.slice (some ⟨b, off, none⟩) ys.length c) := by
  have hload : ∀ k, k < ys.length * T.sz → ∃ u, m.load b (off + k) = some u := by
    intro k hk
    have hpos : 0 < T.sz := by
      rcases Nat.eq_zero_or_pos T.sz with h0 | h0
      · rw [h0] at hk; omega
      · exact h0
    have hq : k / T.sz < ys.length := Nat.div_lt_of_lt_mul (by rw [Nat.mul_comm]; exact hk)
    obtain ⟨cs, h1, h2⟩ := h (k / T.sz) ys[k / T.sz] (by simp [hq])
    have hlen := T.len z _ cs h1
    have hr : k % T.sz < cs.length := by rw [hlen]; exact Nat.mod_lt _ hpos
    refine ⟨cs[k % T.sz], ?_⟩
    have := h2 (k % T.sz) _ (List.getElem?_eq_getElem hr)
    rw [Nat.add_assoc, Nat.mul_comm, Nat.div_add_mod] at this
    exact this
  let f : Nat → Value := fun k => (m.load b (off + k)).getD undef
  have hf : ∀ k, k < ys.length * T.sz → m.load b (off + k) = some (f k) := fun k hk => by
    obtain ⟨u, hu⟩ := hload k hk
    simp [f, hu]
  refine ⟨rfl, (List.range (ys.length * T.sz)).map f, rdN_get _ _ _ hf, by simp, fun i y hy => ?_⟩
  obtain ⟨cs, h1, h2⟩ := h i y hy
  refine ⟨cs, h1, fun k u hk => ?_⟩
  have hkl := (List.getElem?_eq_some_iff.1 hk).1
  rw [T.len z y cs h1] at hkl
  have hil := (List.getElem?_eq_some_iff.1 hy).1
  have hlt : i * T.sz + k < ys.length * T.sz := by
    have : (i + 1) * T.sz ≤ ys.length * T.sz := Nat.mul_le_mul_right _ hil
    rw [Nat.add_mul, Nat.one_mul] at this
    omega
  have := h2 k u hk
  rw [Nat.add_assoc, hf _ hlt] at this
  rw [List.getElem?_map, List.getElem?_range hlt]
  simpa using this
theorem SlR.src (h : SlR T z ys w) (hz : Fz z m) : Src T z m ys w := by
  rcases h with ⟨rfl, rfl⟩ | ⟨b, off, c, rfl, _, _, h4⟩
  · exact ⟨rfl, [], rfl, by simp, fun i y hy => by simp at hy⟩
  · exact src_of fun i y hy => by
      obtain ⟨cs, g1, g2⟩ := h4 i y hy
      exact ⟨cs, g1, fun k u hk => ldz_load hz (g2 k u hk)⟩
theorem Ow.src (h : Ow T z m ys w) : Src T z m ys w := by
  rcases h with ⟨rfl, rfl⟩ | ⟨b, f0, L, c, rfl, hb, _, _, _, _, h4⟩
  · exact ⟨rfl, [], rfl, by simp, fun i y hy => by simp at hy⟩
  · exact src_of fun i y hy => by
      obtain ⟨cs, g1, g2⟩ := h4 i y hy
      exact ⟨cs, g1, fun k u hk => by simp only [Mem.load, hb]; exact g2 k u hk⟩
theorem str_src {tid : TypeId} (s : List UInt8) : Src (TU8 tid) z m s (str s) := by
  refine ⟨by simp [lenV, str, str_size], s.map fun u => .int .u8 u.toNat, by simp [elems, str, TU8, Ty.flat], by simp [TU8, Ty.flat], fun i y hy => ?_⟩
  refine ⟨[.int .u8 y.toNat], rfl, fun k u hk => ?_⟩
  cases k with
  | zero => simp at hk; subst hk; simp [TU8, Ty.flat, hy]
  | succ k => simp at hk
theorem Same.kill {b : Nat} {X : Blk} (hd : ∀ b, m.next ≤ b → m.blk b = .dead) (hb : b < m.next) : Same m ((m.put b .dead).push X) (some b) := by
  have h1 := same_put (m := m) (x := .dead) hd hb
  refine ⟨Nat.le_succ _, fun c hc => ?_, fun c hc hk => ?_⟩
  · have e : ((m.put b .dead).push X).blk c = if c = m.next then X else (if c = b then .dead else m.blk c) := rfl
    have hc : m.next + 1 ≤ c := hc
    rw [e, if_neg (by omega)]
    split
    · rfl
    · exact hd c (by omega)
  · have e : ((m.put b .dead).push X).blk c = if c = m.next then X else (if c = b then .dead else m.blk c) := rfl
    rw [e, if_neg (by omega), if_neg (fun h => hk (by rw [h]))]
theorem eAppendC {cs : List Value} (h : o.op = .call { callee := .builtin .append, args := #[x, y], argTypes := #[t, u] }) (ht : P.underlying t = some (.slice T.tid)) (hi : P.info? T.tid = some i) {zv : Value} (hzv : i.zero = some zv) (hzf : zv.cells.toList.all flat0 = true) (hzs : zv.cells.size = i.size)
    (hsz : i.size = T.sz) (hpos : 0 < T.sz) (hby0 : (xs.length + ys.length) * i.bytes ≤ 140737488355328) (hlim : xs.length + ys.length ≤ 140737488355328) (hx : ρ x = v) (hs : Ow T z m xs v) (hA : AddR P m u i (ρ y) ys.length cs) (hcl : cs.length = ys.length * T.sz) (hrd : ∀ (i : Nat) (y : α), ys[i]? = some y → ∃ c, T.rd z y c ∧ cellsIn cs (i * T.sz) c)
    (hz : Fz z m) (hd : ∀ b, m.next ≤ b → m.blk b = .dead) :
    ∃ v' m', EffR P C ρ o m v' m' ∧ Ow T z m' (xs ++ ys) v' ∧ Same m m' (blkOf v) ∧ ∀ b, blkOf v' = some b → blkOf v = some b ∨ m.next ≤ b := by
  have hbytes := hby0
  have hmax : xs.length + ys.length < 9223372036854775807 := by omega
  have hcl' : cs.length = ys.length * i.size := by rw [hsz]; exact hcl
  have hnz : z m.next = .dead := by
    cases hzz : z m.next with
    | dead => rfl
    | ro rd => have := (hz m.next (by rw [hzz]; simp)).2; omega
    | own L t => have := (hz m.next (by rw [hzz]; simp)).2; omega
    | map L t => have := (hz m.next (by rw [hzz]; simp)).2; omega
    | lock _ _ _ _ => have := (hz m.next (by rw [hzz]; simp)).2; omega
  -- reading what is there and what comes
  have join : ∀ (old : List Value), old.length = xs.length * T.sz → (∀ (i : Nat) (x : α), xs[i]? = some x → ∃ c, T.rd z x c ∧ cellsIn old (i * T.sz) c) →
      ∀ (i : Nat) (x : α), (xs ++ ys)[i]? = some x → ∃ c, T.rd z x c ∧ cellsIn (old ++ cs) (i * T.sz) c := by
    intro old hol ho i a ha
    rw [List.getElem?_append] at ha
    split at ha
    · rename_i hlt
      obtain ⟨c, g1, g2⟩ := ho i a ha
      refine ⟨c, g1, fun k q hk => ?_⟩
      have := g2 k q hk
      rw [List.getElem?_append_left (List.getElem?_eq_some_iff.1 this).1]
      exact this
    · rename_i hge
      obtain ⟨c, g1, g2⟩ := hrd _ a ha
      refine ⟨c, g1, fun k q hk => ?_⟩
      have := g2 k q hk
      have h1 : i * T.sz = old.length + (i - xs.length) * T.sz := by
        rw [hol, ← Nat.add_mul]; congr 1; omega
      rw [h1, Nat.add_assoc, List.getElem?_append_right (by omega), Nat.add_sub_cancel_left]
      exact this
  rcases hs with ⟨rfl, rfl⟩ | ⟨b, f0, L, c, rfl, hb, hlt, hzb, hl, hcap, hrd0⟩
  · by_cases hy0 : ys.length = 0
    · have hcs0 : cs = [] := List.eq_nil_of_length_eq_zero (by rw [hcl, hy0, Nat.zero_mul])
      have hys0 : ys = [] := List.eq_nil_of_length_eq_zero hy0
      subst hys0
      subst hcs0
      refine ⟨ρ x, m, .appendNone x y t u T.tid i none 0 0 h ht hi hx (by simp [BIG]) (Nat.le_refl _) hA, ?_, ⟨Nat.le_refl _, hd, fun _ _ _ => rfl⟩, ?_⟩
      · rw [hx]; exact .inl ⟨rfl, rfl⟩
      · intro b hb; rw [hx] at hb; cases hb
    · refine ⟨_, _, .appendNew x y t u T.tid i zv none 0 0 ys.length [] cs h ht hi hzv hzf hzs (by rw [hsz]; exact hpos) hx (by omega) (by rw [hx]; rfl) (by simp) hA hcl' (by simpa using hbytes) (by simpa using hmax), ?_, same_push hd, ?_⟩
      · refine .inr ⟨m.next, 0, cs, BIG, by simp, by simp [Mem.push], by simp [Mem.push], hnz, by simp [hcl], .inl rfl, ?_⟩
        have := join [] (by simp) (fun i x hx => by simp at hx)
        simpa using this
      · intro b hb; cases hb; exact .inr (Nat.le_refl _)
  · have hrd1 : ∀ (i : Nat) (x : α), xs[i]? = some x → ∃ c, T.rd z x c ∧ cellsIn ((L.drop f0).take (xs.length * T.sz)) (i * T.sz) c := by
      intro k a ha
      obtain ⟨c, g1, g2⟩ := hrd0 k a ha
      refine ⟨c, g1, fun q q' hq => ?_⟩
      have hql := (List.getElem?_eq_some_iff.1 hq).1
      rw [T.len z a c g1] at hql
      have hkl := (List.getElem?_eq_some_iff.1 ha).1
      have : (k + 1) * T.sz ≤ xs.length * T.sz := Nat.mul_le_mul_right _ hkl
      rw [Nat.add_mul, Nat.one_mul] at this
      rw [List.getElem?_take, if_pos (by omega), List.getElem?_drop, ← Nat.add_assoc]
      exact g2 q q' hq
    have htl : ((L.drop f0).take (xs.length * T.sz)).length = xs.length * T.sz := by rw [List.length_take, List.length_drop]; omega
    rcases hcap with rfl | ⟨hc1, hc2, hc3⟩
    · refine ⟨_, _, .append x y t u T.tid i zv b f0 xs.length ys.length L cs h ht hi hzv hzf hzs (by rw [hsz]; exact hpos) hx hb (by rw [hsz]; exact hl) hA hcl' hbytes hmax, ?_, Same.kill hd hlt, ?_⟩
      · refine .inr ⟨m.next, 0, (L.drop f0).take (xs.length * T.sz) ++ cs, BIG, by simp, by simp [Mem.push, Mem.put, hsz], by simp [Mem.push, Mem.put], hnz, ?_, .inl rfl, ?_⟩
        · rw [List.length_append, List.length_append, htl, hcl, Nat.add_mul, Nat.zero_add]
          exact Nat.le_refl _
        · simpa using join _ htl hrd1
      · intro b' hb'; cases hb'; exact .inr (Nat.le_refl _)
    · by_cases hfit : xs.length + ys.length ≤ c
      · have hL2 : f0 + (xs.length + ys.length) * i.size ≤ L.length := by
          rw [hsz]
          exact Nat.le_trans (Nat.add_le_add_left (Nat.mul_le_mul_right _ hfit) _) hc3
        refine ⟨_, _, .appendIn x y t u T.tid i b f0 xs.length c ys.length L cs h ht hi hx (by simp only [BIG] at hc1 ⊢; omega) hfit hb hA hcl' hL2, ?_, same_put hd hlt, fun b' hb' => .inl hb'⟩
        have hset : (setN L (f0 + xs.length * i.size) cs).length = L.length := setN_length _ _ _
        refine .inr ⟨b, f0, setN L (f0 + xs.length * i.size) cs, c, by simp, by simp [Mem.put], hlt, hzb, ?_, .inr ⟨hc1, ?_, ?_⟩, ?_⟩
        · rw [hset]; rw [hsz] at hL2; simpa using hL2
        · simpa using hfit
        · rw [hset]; exact hc3
        · intro k a ha
          obtain ⟨c', g1, g2⟩ := join _ htl hrd1 k a ha
          refine ⟨c', g1, fun q q' hq => ?_⟩
          have := g2 q q' hq
          have hlt2 := (List.getElem?_eq_some_iff.1 this).1
          rw [List.length_append, htl, hcl] at hlt2
          rw [hsz, Nat.add_mul] at hL2
          rw [hsz, setN_get _ _ _ _ (by rw [hcl]; omega)]
          rw [List.getElem?_append, htl] at this
          split at this
          · rename_i hlt3
            rw [if_neg (by omega)]
            rw [List.getElem?_take, if_pos hlt3, List.getElem?_drop, ← Nat.add_assoc] at this
            exact this
          · rw [if_pos (by omega), show f0 + k * T.sz + q - (f0 + xs.length * T.sz) = k * T.sz + q - xs.length * T.sz by omega]
            exact this
      · have hel0 : elems m i.size (ρ x) = some ((L.drop f0).take (xs.length * T.sz)) := by
          rw [hx, hsz]
          simp only [elems]
          refine rdN_of _ _ _ htl fun k q hk => ?_
          rw [List.getElem?_take] at hk
          split at hk
          · rw [List.getElem?_drop] at hk
            simp only [Mem.load, hb]; exact hk
          · cases hk
        refine ⟨_, _, .appendNew x y t u T.tid i zv _ xs.length c ys.length ((L.drop f0).take (xs.length * T.sz)) cs h ht hi hzv hzf hzs (by rw [hsz]; exact hpos) hx (by omega) hel0 (by rw [htl, hsz]) hA hcl' hbytes hmax, ?_, ?_, ?_⟩
        · refine .inr ⟨m.next, 0, (L.drop f0).take (xs.length * T.sz) ++ cs, BIG, by simp, by simp [Mem.push], by simp [Mem.push], hnz, ?_, .inl rfl, by simpa using join _ htl hrd1⟩
          rw [List.length_append, List.length_append, htl, hcl, Nat.add_mul, Nat.zero_add]
          exact Nat.le_refl _
        · have := same_push (m := m) (x := .own ((L.drop f0).take (xs.length * T.sz) ++ cs) T.tid) hd
          exact ⟨this.next, this.dead, fun c hc _ => this.blk c hc (by simp)⟩
        · intro b' hb'; cases hb'; exact .inr (Nat.le_refl _)
theorem eAppendG (h : o.op = .call { callee := .builtin .append, args := #[x, y], argTypes := #[t, u] }) (ht : P.underlying t = some (.slice T.tid)) (hi : P.info? T.tid = some i) {zv : Value} (hzv : i.zero = some zv) (hzf : zv.cells.toList.all flat0 = true) (hzs : zv.cells.size = i.size)
    (hsz : i.size = T.sz) (hpos : 0 < T.sz) (hby0 : (xs.length + ys.length) * i.bytes ≤ 140737488355328) (hlim : xs.length + ys.length ≤ 140737488355328) (hu : (∃ e', P.underlying u = some (.slice e')) ∨ P.underlying u = some .string) (hx : ρ x = v) (hs : Ow T z m xs v) (hy : ρ y = w) (hsrc : Src T z m ys w)
    (hz : Fz z m) (hd : ∀ b, m.next ≤ b → m.blk b = .dead) :
    ∃ v' m', EffR P C ρ o m v' m' ∧ Ow T z m' (xs ++ ys) v' ∧ Same m m' (blkOf v) ∧ ∀ b, blkOf v' = some b → blkOf v = some b ∨ m.next ≤ b := by
  obtain ⟨hlen, cs, hel, hcl, hrd⟩ := hsrc
  exact eAppendC h ht hi hzv hzf hzs hsz hpos hby0 hlim hx hs (.el hu (by rw [hy]; exact hlen) (by rw [hy, hsz]; exact hel)) hcl hrd hz hd
theorem mk_rd {x0 : α} {zv : Value} (hrd : T.rd z x0 zv.cells.toList) (c : Nat) : (List.replicate c zv.cells.toList).flatten.length = (List.replicate c x0).length * T.sz ∧
    ∀ (i : Nat) (y : α), (List.replicate c x0)[i]? = some y → ∃ d, T.rd z y d ∧ cellsIn (List.replicate c zv.cells.toList).flatten (i * T.sz) d := by
  have hlen : zv.cells.toList.length = T.sz := T.len z x0 _ hrd
  refine ⟨by rw [List.length_flatten]; simp [hlen], fun j a ha => ?_⟩
  have hj := (List.getElem?_eq_some_iff.1 ha).1
  have hax : a = x0 := by have := (List.getElem?_eq_some_iff.1 ha).2; simpa using this.symm
  subst hax
  refine ⟨_, hrd, fun q u hq => ?_⟩
  have hql := (List.getElem?_eq_some_iff.1 hq).1
  rw [hlen] at hql
  have key : ∀ (c j : Nat), j < c → ((List.replicate c zv.cells.toList).flatten)[j * T.sz + q]? = zv.cells.toList[q]? := by
    intro c
    induction c with
    | zero => intro j hj; omega
    | succ c ih =>
      intro j hj
      rw [List.replicate_succ, List.flatten_cons]
      cases j with
      | zero => rw [Nat.zero_mul, Nat.zero_add, List.getElem?_append_left (by omega)]
      | succ j =>
        rw [List.getElem?_append_right (by rw [hlen, Nat.succ_mul]; omega), hlen, Nat.succ_mul, show j * T.sz + T.sz + q - T.sz = j * T.sz + q by omega]
        exact ih j (by omega)
  rw [key c j (by simpa using hj)]
  exact hq
theorem eAppendZ {x0 : α} {kk k : IntKind} {c : Nat} (h : o.op = .call { callee := .builtin .append, args := #[x, y], argTypes := #[t, u] }) (ht : P.underlying t = some (.slice T.tid)) (hi : P.info? T.tid = some i) {zv : Value} (hzv : i.zero = some zv) (hzf : zv.cells.toList.all flat0 = true) (hzs : zv.cells.size = i.size)
    (hsz : i.size = T.sz) (hpos : 0 < T.sz) (hby : i.bytes ≤ 32768) (hu : P.underlying u = some (.int kk)) (hx : ρ x = v) (hs : Ow T z m xs v) (hy : ρ y = .int k c) (hrd : T.rd z x0 zv.cells.toList)
    (hz : Fz z m) (hd : ∀ b, m.next ≤ b → m.blk b = .dead) {r : List α} (hr : appI xs (List.replicate c x0) = some r) :
    ∃ v' m', EffR P C ρ o m v' m' ∧ Ow T z m' r v' ∧ Same m m' (blkOf v) ∧ ∀ b, blkOf v' = some b → blkOf v = some b ∨ m.next ≤ b := by
  obtain ⟨hlim, rfl⟩ := appI_some hr
  simp only [LIM, List.length_replicate] at hlim
  have h1 : (xs.length + c) * i.bytes ≤ 4294967296 * 32768 := Nat.mul_le_mul hlim hby
  have h2 : c * i.bytes ≤ 4294967296 * 32768 := Nat.mul_le_mul (by omega) hby
  obtain ⟨g1, g2⟩ := mk_rd (T := T) (z := z) hrd c
  exact eAppendC h ht hi hzv hzf hzs hsz hpos (by rw [List.length_replicate]; omega) (by rw [List.length_replicate]; omega) hx hs
    (.mk kk k zv hu (by rw [hy, List.length_replicate]) hzv hzf hzs (by omega) (by rw [List.length_replicate]; omega) (by rw [List.length_replicate]; omega) (by rw [List.length_replicate])) g1 g2 hz hd
theorem eAppend (h : o.op = .call { callee := .builtin .append, args := #[x, y], argTypes := #[t, u] }) (ht : P.underlying t = some (.slice T.tid)) (hi : P.info? T.tid = some i) {zv : Value} (hzv : i.zero = some zv) (hzf : zv.cells.toList.all flat0 = true) (hzs : zv.cells.size = i.size)
    (hsz : i.size = T.sz) (hpos : 0 < T.sz) (hby : i.bytes ≤ 32768) (hu : (∃ e', P.underlying u = some (.slice e')) ∨ P.underlying u = some .string) (hx : ρ x = v) (hs : Ow T z m xs v) (hy : ρ y = w) (hsrc : Src T z m ys w)
    (hz : Fz z m) (hd : ∀ b, m.next ≤ b → m.blk b = .dead) {r : List α} (hr : appI xs ys = some r) :
    ∃ v' m', EffR P C ρ o m v' m' ∧ Ow T z m' r v' ∧ Same m m' (blkOf v) ∧ ∀ b, blkOf v' = some b → blkOf v = some b ∨ m.next ≤ b := by
  obtain ⟨hlim, rfl⟩ := appI_some hr
  simp only [LIM] at hlim
  have : (xs.length + ys.length) * i.bytes ≤ 4294967296 * 32768 := Nat.mul_le_mul hlim hby
  exact eAppendG h ht hi hzv hzf hzs hsz hpos (by omega) (by omega) hu hx hs hy hsrc hz hd
theorem nMake {x0 : α} {k k' : IntKind} {n n' : Int} (h : o.op = .makeSlice t x y) (ht : P.underlying t = some (.slice T.tid)) (hi : P.info? T.tid = some i) {zv : Value} (hzv : i.zero = some zv) (hzf : zv.cells.toList.all flat0 = true) (hzs : zv.cells.size = i.size) (hsz : i.size = T.sz) (hby : i.bytes ≤ 32768)
    (hrd : T.rd z x0 zv.cells.toList) (hx : ρ x = .int k n) (hy : ρ y = .int k' n) (hz : Fz z m) {r : List α} (hr : mkI x0 n = some r) :
    ∃ L v, NewR P ρ o m.next (.own L T.tid) v ∧ Ow T z (m.push (.own L T.tid)) r v ∧ blkOf v = some m.next := by
  obtain ⟨h0, h1, rfl⟩ := mkI_some hr
  obtain ⟨c, rfl⟩ := Int.eq_ofNat_of_zero_le h0
  have hnz : z m.next = .dead := by
    cases hzz : z m.next with
    | dead => rfl
    | ro rd => have := (hz m.next (by rw [hzz]; simp)).2; omega
    | own L t => have := (hz m.next (by rw [hzz]; simp)).2; omega
    | map L t => have := (hz m.next (by rw [hzz]; simp)).2; omega
    | lock _ _ _ _ => have := (hz m.next (by rw [hzz]; simp)).2; omega
  have hlen : zv.cells.toList.length = T.sz := by simp [hzs, hsz]
  have hfl : (List.replicate c zv.cells.toList).flatten.length = c * T.sz := by simp [hzs, hsz]
  refine ⟨_, _, .makeSlice t x y c c k k' T.tid i zv h ht hi hzv hzf hzs hx hy (Nat.le_refl _) ?_ (by omega), ?_, rfl⟩
  · have : i.bytes * c ≤ 32768 * 4294967296 := Nat.mul_le_mul hby (by omega)
    omega
  · simp only [Int.toNat_natCast]
    refine Ow.at0 ⟨m.next, (List.replicate c zv.cells.toList).flatten, c, by simp, by simp [Mem.push], by simp [Mem.push], hnz, by rw [hfl]; simp, .inr ⟨by simp [BIG]; omega, by simp, by rw [hfl]; exact Nat.le_refl _⟩, fun j a ha => ?_⟩
    have hj := (List.getElem?_eq_some_iff.1 ha).1
    have hax : a = x0 := by have := (List.getElem?_eq_some_iff.1 ha).2; simpa using this.symm
    subst hax
    refine ⟨_, hrd, fun q u hq => ?_⟩
    have hql := (List.getElem?_eq_some_iff.1 hq).1
    rw [hlen] at hql
    have key : ∀ (c j : Nat), j < c → ((List.replicate c zv.cells.toList).flatten)[j * T.sz + q]? = zv.cells.toList[q]? := by
      intro c
      induction c with
      | zero => intro j hj; omega
      | succ c ih =>
        intro j hj
        rw [List.replicate_succ, List.flatten_cons]
        cases j with
        | zero => rw [Nat.zero_mul, Nat.zero_add, List.getElem?_append_left (by rw [hlen]; exact hql)]
        | succ j =>
          rw [Nat.add_mul, Nat.one_mul, List.getElem?_append_right (by rw [hlen]; omega), hlen, show j * T.sz + T.sz + q - T.sz = j * T.sz + q by omega]
          exact ih j (by omega)
    rw [key c j (by simpa using hj)]
    exact hq
def BuildOk (T : Ty α) (z : Nat → Blk) (ρ : Operand → Value) : List (Nat × Operand) → Nat → List α → List (List Value) → Prop
  | [], _, [], [] => True
  | (k, x) :: ps, n, a :: as, c :: cs => k = n ∧ storable (ρ x) = true ∧ (ρ x).cells.toList = c ∧ T.rd z a c ∧ BuildOk T z ρ ps (n + 1) as cs
  | _, _, _, _ => False
theorem setN_mid : ∀ (new A B D : List Value), new.length = B.length → setN (A ++ B ++ D) A.length new = A ++ new ++ D
  | [], A, B, D, h => by have : B = [] := List.eq_nil_of_length_eq_zero h.symm
                         subst this; simp [setN]
  | v :: new, A, b :: B, D, h => by
    have e : (A ++ (b :: B) ++ D).set A.length v = (A ++ [v]) ++ B ++ D := by simp
    simp only [setN, e]
    have := setN_mid new (A ++ [v]) B D (by simpa using h)
    simp only [List.length_append, List.length_cons, List.length_nil, Nat.zero_add] at this
    rw [this]; simp
  | _ :: _, A, [], D, h => by simp at h
theorem build_fill : ∀ (ps : List (Nat × Operand)) (n : Nat) (as : List α) (css : List (List Value)) (A D : List Value), BuildOk T z ρ ps n as css → A.length = n * T.sz → D.length = as.length * T.sz →
    fillL (fun k => some (k * T.sz, T.sz)) (A ++ D) (ps.map fun p => (p.1, ρ p.2)) = some (A ++ css.flatten)
  | [], n, [], [], A, D, _, _, hD => by
    have : D = [] := List.eq_nil_of_length_eq_zero (by simpa using hD)
    subst this
    simp [fillL]
  | (k, x) :: ps, n, a :: as, c :: css, A, D, h, hA, hD => by
    obtain ⟨rfl, h1, h2, h3, h4⟩ := h
    have hc := T.len z a c h3
    have hsz : (ρ x).cells.size = T.sz := by rw [← hc, ← h2]; simp
    simp only [List.length_cons, Nat.add_mul, Nat.one_mul] at hD
    simp only [List.map_cons, fillL, h1, hsz, true_and, List.length_append]
    rw [if_pos (by omega), h2, ← hA]
    have hsplit : A ++ D = A ++ D.take T.sz ++ D.drop T.sz := by rw [List.append_assoc, List.take_append_drop]
    rw [hsplit, setN_mid c A (D.take T.sz) (D.drop T.sz) (by rw [hc, List.length_take]; omega)]
    rw [build_fill ps (k + 1) as css (A ++ c) (D.drop T.sz) h4 (by rw [List.length_append, hA, hc, Nat.add_mul, Nat.one_mul]) (by rw [List.length_drop]; omega)]
    simp
  | [], _, _ :: _, _, _, _, h, _, _ => h.elim
  | [], _, [], _ :: _, _, _, h, _, _ => h.elim
  | _ :: _, _, [], _, _, _, h, _, _ => h.elim
  | _ :: _, _, _ :: _, [], _, _, h, _, _ => h.elim
theorem build_len : ∀ (ps : List (Nat × Operand)) (n : Nat) (as : List α) (css : List (List Value)), BuildOk T z ρ ps n as css → css.flatten.length = as.length * T.sz ∧ ∀ (i : Nat) (a : α), as[i]? = some a → ∃ c, T.rd z a c ∧ cellsIn css.flatten (i * T.sz) c
  | [], n, [], [], _ => ⟨by simp, fun i a ha => by simp at ha⟩
  | (k, x) :: ps, n, a :: as, c :: css, h => by
    obtain ⟨rfl, h1, h2, h3, h4⟩ := h
    have hc := T.len z a c h3
    obtain ⟨g1, g2⟩ := build_len ps (k + 1) as css h4
    refine ⟨by simp only [List.flatten_cons, List.length_append, g1, hc, List.length_cons, Nat.add_mul, Nat.one_mul]; omega, fun i b hb => ?_⟩
    cases i with
    | zero =>
      simp at hb
      subst hb
      refine ⟨c, h3, fun q u hq => ?_⟩
      have := (List.getElem?_eq_some_iff.1 hq).1
      rw [List.flatten_cons, Nat.zero_mul, Nat.zero_add, List.getElem?_append_left this]; exact hq
    | succ i =>
      obtain ⟨c', k1, k2⟩ := g2 i b (by simpa using hb)
      refine ⟨c', k1, fun q u hq => ?_⟩
      rw [List.flatten_cons, Nat.add_mul, Nat.one_mul, List.getElem?_append_right (by omega), hc, show i * T.sz + T.sz + q - T.sz = i * T.sz + q by omega]
      exact k2 q u hq
  | [], _, _ :: _, _, h => h.elim
  | [], _, [], _ :: _, h => h.elim
  | _ :: _, _, [], _, h => h.elim
  | _ :: _, _, _ :: _, [], h => h.elim
theorem nBuild {ps : Array (Nat × Operand)} {l : Nat} {as : List α} {css : List (List Value)} (h : o.op = .buildSlice t l ps) (ht : P.underlying t = some (.slice T.tid)) (hi : P.info? T.tid = some i) {zv : Value} (hzv : i.zero = some zv) (hzf : zv.cells.toList.all flat0 = true) (hzs : zv.cells.size = i.size) (hsz : i.size = T.sz)
    (hl : as.length = l) (h24 : l * T.sz ≤ 16777216) (hl63 : l < 9223372036854775808) (hb : BuildOk T z ρ ps.toList 0 as css) (hz : Fz z m) :
    ∃ L v, NewR P ρ o m.next (.own L T.tid) v ∧ Ow T z (m.push (.own L T.tid)) as v ∧ blkOf v = some m.next := by
  have hnz : z m.next = .dead := by
    cases hzz : z m.next with
    | dead => rfl
    | ro rd => have := (hz m.next (by rw [hzz]; simp)).2; omega
    | own L t => have := (hz m.next (by rw [hzz]; simp)).2; omega
    | map L t => have := (hz m.next (by rw [hzz]; simp)).2; omega
    | lock _ _ _ _ => have := (hz m.next (by rw [hzz]; simp)).2; omega
  have hf := build_fill ps.toList 0 as css [] (List.replicate l zv.cells.toList).flatten hb (by simp) (by simp [hzs, hsz, hl])
  obtain ⟨g1, g2⟩ := build_len ps.toList 0 as css hb
  refine ⟨css.flatten, _, .buildSlice t l ps T.tid i zv _ h ht hi hzv hzf hzs (by rw [hsz]; exact h24) hl63 (by rw [hsz]; simpa using hf), ?_, rfl⟩
  exact Ow.at0 ⟨m.next, css.flatten, l, by rw [hl], by simp [Mem.push], by simp [Mem.push], hnz, by rw [g1]; exact Nat.le_refl _, .inr ⟨by simp only [BIG]; omega, by omega, by rw [g1, hl]; exact Nat.le_refl _⟩, g2⟩
theorem nBytes {s : List UInt8} {tid : TypeId} (h : o.op = .convert u t x) (hu : P.underlying u = some .string) (ht : P.underlying t = some (.slice tid)) (he : P.underlying tid = some (.int .u8)) (hi : P.info? tid = some i) (hi1 : i.size = 1) (hx : ρ x = str s) (hl : s.length < 9223372036854775807) (hz : Fz z m) :
    ∃ L v, NewR P ρ o m.next (.own L tid) v ∧ Ow (TU8 tid) z (m.push (.own L tid)) s v ∧ blkOf v = some m.next := by
  have hnz : z m.next = .dead := by
    cases hzz : z m.next with
    | dead => rfl
    | ro rd => have := (hz m.next (by rw [hzz]; simp)).2; omega
    | own L t => have := (hz m.next (by rw [hzz]; simp)).2; omega
    | map L t => have := (hz m.next (by rw [hzz]; simp)).2; omega
    | lock _ _ _ _ => have := (hz m.next (by rw [hzz]; simp)).2; omega
  refine ⟨_, _, .bytes u t x tid i ⟨s.toArray⟩ h hu ht he hi hi1 hx (by rw [str_size]; exact hl), ?_, rfl⟩
  refine Ow.at0 ⟨m.next, s.map fun u => .int .u8 u.toNat, BIG, by rw [str_size], by simp [Mem.push, TU8, Ty.flat], by simp [Mem.push], hnz, by simp [TU8, Ty.flat], .inl rfl, fun k a ha => ⟨[.int .u8 a.toNat], rfl, fun q w hq => ?_⟩⟩
  cases q with
  | zero => simp at hq; subst hq; simp [TU8, Ty.flat, ha]
  | succ q => simp at hq
theorem rStr {s : List UInt8} {tid : TypeId} (h : o.op = .convert t u x) (ht : P.underlying t = some (.slice tid)) (he : P.underlying tid = some (.int .u8)) (hu : P.underlying u = some .string) (hx : ρ x = v) (hs : Src (TU8 tid) z m s v) (hv : ∃ a l c, v = .slice a l c) : ReadR P ρ o m (str s) := by
  obtain ⟨a, l, c, rfl⟩ := hv
  obtain ⟨hl, cs, hel, hcl, hrd⟩ := hs
  have hcs : cs = s.map fun u => .int .u8 u.toNat := by
    apply List.ext_getElem?
    intro k
    by_cases hk : k < s.length
    · obtain ⟨c', g1, g2⟩ := hrd k s[k] (by simp [hk])
      have g1 : c' = [.int .u8 s[k].toNat] := g1
      subst g1
      have := g2 0 _ rfl
      simp only [TU8, Ty.flat, Nat.mul_one, Nat.add_zero] at this
      simp [this, hk]
    · have : cs.length ≤ k := by rw [hcl]; simp only [TU8, Ty.flat]; omega
      simp [List.getElem?_eq_none this, hk]
  subst hcs
  simp only [lenV] at hl
  subst hl
  cases a with
  | none =>
    simp only [elems, Option.some.injEq] at hel
    have : s = [] := by simpa using hel.symm
    subst this
    exact .strNil t u x tid _ c h ht he hu hx
  | some a =>
    obtain ⟨b, off, spot⟩ := a
    cases spot with
    | some q => simp [elems] at hel
    | none =>
      simp only [elems, TU8, Ty.flat, Nat.mul_one] at hel
      exact .str t u x tid b off _ c s h ht he hu hx hel
end
def looks : Op → Bool
  | .load .. | .convert .. | .slice .. | .lookup .. => true
  | _ => false
def makes : Op → Bool
  | .alloc _ | .box .. | .buildSlice .. | .makeSlice .. | .convert .. | .makeMap .. => true
  | _ => false
def calm (ops : Array Oper) : Bool :=
  (List.range ops.size).all fun e => match ops[e]? with
    | none => true
    | some oe => !isEff oe.op || (List.range ops.size).all fun r => match ops[r]? with
      | none => true
      | some or => (!(looks or.op) || (if r < e then anc (Region.before ops) e r else if e < r then anc (Region.before ops) r e else true)) && (!(makes or.op) || (if r < e then anc (Region.before ops) e r else true))
theorem read_looks {P : Program} {ρ : Operand → Value} {o : Oper} {m : Mem} {v : Value} (h : ReadR P ρ o m v) : looks o.op = true := by
  cases h <;> simp [*, looks]
theorem new_makes {P : Program} {ρ : Operand → Value} {o : Oper} {n : Nat} {X : Blk} {v : Value} (h : NewR P ρ o n X v) : makes o.op = true := by
  cases h <;> simp [*, makes]
theorem calm_look {ops : Array Oper} (h : calm ops = true) {e r : Nat} {oe or : Oper} (he : ops[e]? = some oe) (hr : ops[r]? = some or) (hE : isEff oe.op = true) (hl : looks or.op = true) : (r < e → anc (Region.before ops) e r = true) ∧ (e < r → anc (Region.before ops) r e = true) := by
  simp only [calm, List.all_eq_true, List.mem_range] at h
  have h1 := h e (Array.getElem?_eq_some_iff.1 he).1
  simp only [he, hE, Bool.not_true, Bool.false_or, List.all_eq_true, List.mem_range] at h1
  have h2 := h1 r (Array.getElem?_eq_some_iff.1 hr).1
  simp only [hr, hl, Bool.not_true, Bool.false_or, Bool.and_eq_true] at h2
  refine ⟨fun hlt => ?_, fun hlt => ?_⟩
  · have := h2.1; rw [if_pos hlt] at this; exact this
  · have := h2.1; rw [if_neg (by omega), if_pos hlt] at this; exact this
theorem calm_make {ops : Array Oper} (h : calm ops = true) {e r : Nat} {oe or : Oper} (he : ops[e]? = some oe) (hr : ops[r]? = some or) (hE : isEff oe.op = true) (hl : makes or.op = true) (hlt : r < e) : anc (Region.before ops) e r = true := by
  simp only [calm, List.all_eq_true, List.mem_range] at h
  have h1 := h e (Array.getElem?_eq_some_iff.1 he).1
  simp only [he, hE, Bool.not_true, Bool.false_or, List.all_eq_true, List.mem_range] at h1
  have h2 := h1 r (Array.getElem?_eq_some_iff.1 hr).1
  simp only [hr, hl, Bool.not_true, Bool.false_or, Bool.and_eq_true] at h2
  have := h2.2; rw [if_pos hlt] at this; exact this
theorem draw_of_seq {P : Program} {C : FuncId → Array Value → Mem → Value → Mem → Prop} {ops : Array Oper} (hc : calm ops = true) : ∀ (l pre : List Oper) (A : Acc) (fr fr' : Nat → Value) (m m' : Mem), ops.toList = pre ++ l →
    (∀ x ∈ A.reads, ∃ o, ops[x.1]? = some o ∧ looks o.op = true ∧ x.1 < pre.length) → (∀ x ∈ A.effs, ∃ o, ops[x.1]? = some o ∧ isEff o.op = true ∧ x.1 < pre.length) → (∀ x ∈ A.news, ∃ o, ops[x.1]? = some o ∧ makes o.op = true ∧ x.1 < pre.length) →
    seqR P C ops.toList l fr m fr' m' → drawR P C ops.toList (Region.before ops) pre.length l A fr m fr' m'
  | [], pre, A, fr, fr', m, m', hp, h1, h2, h3, h => h
  | o :: l, pre, A, fr, fr', m, m', hp, h1, h2, h3, h => by
    have ho : ops[pre.length]? = some o := by rw [← Array.getElem?_toList, hp]; simp
    have hp' : ops.toList = (pre ++ [o]) ++ l := by rw [hp]; simp
    have hlen : (pre ++ [o]).length = pre.length + 1 := by simp
    have up : ∀ {β : Type} {p : Oper → Bool} {L : List (Nat × β)}, (∀ x ∈ L, ∃ o, ops[x.1]? = some o ∧ p o = true ∧ x.1 < pre.length) → ∀ x ∈ L, ∃ o, ops[x.1]? = some o ∧ p o = true ∧ x.1 < pre.length + 1 := fun hh x hx => by
      obtain ⟨q, a, b, c⟩ := hh x hx
      exact ⟨q, a, b, by omega⟩
    have rec_ := fun (A : Acc) (fr : Nat → Value) (m : Mem) => draw_of_seq (P := P) (C := C) hc l (pre ++ [o]) A fr fr' m m' hp'
    rw [hlen] at rec_
    simp only [seqR] at h
    simp only [drawR]
    split at h
    · rename_i hw
      rw [if_pos hw]
      obtain ⟨v, m1, hs, hr⟩ := h
      cases hs with
      | pure hq => exact .inl ⟨v, hq, rec_ A _ _ (up (p := fun o => looks o.op) h1) (up (p := fun o => isEff o.op) h2) (up (p := fun o => makes o.op) h3) hr⟩
      | read hq =>
        have hlk := read_looks hq
        refine .inr (.inl ⟨v, hq, fun x hx ha => ?_, rec_ _ _ _ ?_ (up (p := fun o => isEff o.op) h2) (up (p := fun o => makes o.op) h3) hr⟩)
        · obtain ⟨q, g1, g2, g3⟩ := h2 x hx
          have := (calm_look hc g1 ho g2 hlk).2 g3
          rw [ha] at this; cases this
        · intro x hx
          rcases List.mem_cons.1 hx with rfl | hx
          · exact ⟨o, ho, hlk, Nat.lt_succ_self _⟩
          · exact up (p := fun o => looks o.op) h1 x hx
      | new hq =>
        refine .inr (.inr (.inl ⟨_, v, hq, rec_ _ _ _ (up (p := fun o => looks o.op) h1) (up (p := fun o => isEff o.op) h2) ?_ hr⟩))
        intro x hx
        rcases List.mem_cons.1 hx with rfl | hx
        · exact ⟨o, ho, new_makes hq, Nat.lt_succ_self _⟩
        · exact up (p := fun o => makes o.op) h3 x hx
      | eff hq =>
        have hef := eff_isEff hq
        refine .inr (.inr (.inr ⟨v, m1, hq, fun x hx ha => ?_, fun x hx ha => ?_, rec_ _ _ _ (up (p := fun o => looks o.op) h1) ?_ (up (p := fun o => makes o.op) h3) hr⟩))
        · obtain ⟨q, g1, g2, g3⟩ := h1 x hx
          have := (calm_look hc ho g1 hef g2).1 g3
          rw [ha] at this; cases this
        · obtain ⟨q, g1, g2, g3⟩ := h3 x hx
          have := calm_make hc ho g1 hef g2 g3
          rw [ha] at this; cases this
        · intro x hx
          rcases List.mem_cons.1 hx with rfl | hx
          · exact ⟨o, ho, hef, Nat.lt_succ_self _⟩
          · exact up (p := fun o => isEff o.op) h2 x hx
    · rename_i hw
      rw [if_neg hw]
      exact rec_ A _ _ (up (p := fun o => looks o.op) h1) (up (p := fun o => isEff o.op) h2) (up (p := fun o => makes o.op) h3) h
theorem W.calm {P : Program} {id : Nat} {ops : Array Oper} {Q : AExit → (Nat → Value) → Mem → Prop} {fr : Nat → Value} {m : Mem} (hc : AM.calm ops = true) (h : SeqW P ops.toList ops.toList (Q .normal) fr m) : W P (.region id ops true) Q fr m := by
  obtain ⟨n, fr', m', h1, h2⟩ := h
  refine W.draw ⟨n, fr', m', ?_, h2⟩
  have := draw_of_seq (P := P) (C := callR P n) hc ops.toList [] ⟨[], [], []⟩ fr fr' m m' (by simp) (by simp) (by simp) (by simp) h1
  simpa using this
end Go.AM
end
section
set_option linter.unusedSimpArgs false
set_option linter.unusedVariables false
namespace Go.AM
def sub : Code → List Nat → Code
  | c, [] => c
  | .seq a b, 0 :: p => sub a p
  | .seq a b, _ :: p => sub b p
  | .cond _ a b, 0 :: p => sub a p
  | .cond _ a b, _ :: p => sub b p
  | .block _ c, _ :: p => sub c p
  | .loop c, _ :: p => sub c p
  | c, _ => c
def bodyOf (f : Func) : Code := f.body.getD .skip
def dsts (ops : Array Oper) : List Nat := ops.toList.filterMap (·.dst)
def writes : Code → List Nat
  | .region _ ops _ => dsts ops
  | .seq a b => writes a ++ writes b
  | .cond _ a b => writes a ++ writes b
  | .block _ c => writes c
  | .loop c => writes c
  | _ => []
theorem set_ne {fr : Nat → Value} {d : Option Tmp} {v : Value} {i : Nat} (h : d ≠ some i) : set fr d v i = fr i := by
  cases d with
  | none => rfl
  | some t => simp only [set]; rw [if_neg]; rintro rfl; exact h rfl
theorem seqR_keep {P : Program} {C : FuncId → Array Value → Mem → Value → Mem → Prop} {ops : List Oper} {i : Nat} : ∀ (l : List Oper) (fr fr' : Nat → Value) (m m' : Mem), (∀ o ∈ l, o.dst ≠ some i) → seqR P C ops l fr m fr' m' → fr' i = fr i
  | [], fr, fr', m, m', _, h => by rw [h.1]
  | o :: l, fr, fr', m, m', hw, h => by
    have hw' : ∀ o ∈ l, o.dst ≠ some i := fun o ho => hw o (by simp [ho])
    simp only [seqR] at h
    split at h
    · obtain ⟨v, m1, _, h⟩ := h
      rw [seqR_keep l _ _ _ _ hw' h]; exact set_ne (hw o (by simp))
    · rw [seqR_keep l _ _ _ _ hw' h]; exact set_ne (hw o (by simp))
theorem drawR_keep {P : Program} {C : FuncId → Array Value → Mem → Value → Mem → Prop} {ops : List Oper} {B : Array Nat} {i : Nat} : ∀ (l : List Oper) (n : Nat) (A : Acc) (fr fr' : Nat → Value) (m m' : Mem), (∀ o ∈ l, o.dst ≠ some i) → drawR P C ops B n l A fr m fr' m' → fr' i = fr i
  | [], n, A, fr, fr', m, m', _, h => by rw [h.1]
  | o :: l, n, A, fr, fr', m, m', hw, h => by
    have hw' : ∀ o ∈ l, o.dst ≠ some i := fun o ho => hw o (by simp [ho])
    have h1 := hw o (by simp)
    simp only [drawR] at h
    split at h
    · rcases h with ⟨v, _, h⟩ | ⟨v, _, _, h⟩ | ⟨X, v, _, h⟩ | ⟨v, m1, _, _, _, h⟩ <;> (rw [drawR_keep l _ _ _ _ _ _ hw' h]; exact set_ne h1)
    · rw [drawR_keep l _ _ _ _ _ _ hw' h]; exact set_ne h1
theorem dsts_no {ops : Array Oper} {i : Nat} (h : (dsts ops).contains i = false) : ∀ o ∈ ops.toList, o.dst ≠ some i := by
  intro o ho he
  have : i ∈ dsts ops := List.mem_filterMap.2 ⟨o, ho, he⟩
  simp [this] at h
theorem contains_app {a b : List Nat} {i : Nat} (h : (a ++ b).contains i = false) : a.contains i = false ∧ b.contains i = false := by
  simpa using h
theorem codeR_keep {P : Program} {C : FuncId → Array Value → Mem → Value → Mem → Prop} {i : Nat} : ∀ (n : Nat) (c : Code) (fr fr' : Nat → Value) (m m' : Mem) (e : AExit), (writes c).contains i = false → codeR P C n c fr m e fr' m' → fr' i = fr i := by
  intro n
  induction n with
  | zero => intro c fr fr' m m' e _ h; exact h.elim
  | succ n ih =>
    intro c fr fr' m m' e hw h
    cases c with
    | skip => rw [h.2.1]
    | label l => rw [h.2.1]
    | exit id => rw [h.2.1]
    | ret => rw [h.2.1]
    | region id ops d =>
      cases d with
      | false => exact seqR_keep _ _ _ _ _ (dsts_no hw) h.2
      | true => exact drawR_keep _ _ _ _ _ _ _ (dsts_no hw) h.2
    | seq a b =>
      obtain ⟨h1, h2⟩ := contains_app hw
      obtain ⟨e1, fr1, m1, g1, g2⟩ := h
      have k1 := ih _ _ _ _ _ _ h1 g1
      split at g2
      · rw [ih _ _ _ _ _ _ h2 g2, k1]
      · rw [g2.2.1, k1]
    | cond c a b =>
      obtain ⟨h1, h2⟩ := contains_app hw
      obtain ⟨t, _, g⟩ := h
      cases t with
      | false => exact ih _ _ _ _ _ _ h2 g
      | true => exact ih _ _ _ _ _ _ h1 g
    | block id c =>
      obtain ⟨e1, g, _⟩ := h
      exact ih c _ _ _ _ _ hw g
    | loop c =>
      obtain ⟨e1, fr1, m1, g1, g2⟩ := h
      have k1 := ih c _ _ _ _ _ hw g1
      split at g2
      · rw [ih (.loop c) _ _ _ _ _ hw g2, k1]
      · rw [g2.2.1, k1]
    | rangeFunc f ps x y => exact h.elim
    | scope c => exact h.elim
    | goto l => exact h.elim
    | refuse s => exact h.elim
section
variable {P : Program} {Q Q' : AExit → (Nat → Value) → Mem → Prop} {fr : Nat → Value} {m : Mem}
theorem W.keep {c : Code} (h : W P c Q fr m) (hq : ∀ e fr' m', (∀ i, (writes c).contains i = false → fr' i = fr i) → Q e fr' m' → Q' e fr' m') : W P c Q' fr m :=
  let ⟨n, e, fr', m', h1, h2⟩ := h
  ⟨n, e, fr', m', h1, hq _ _ _ (fun _ hi => codeR_keep _ _ _ _ _ _ _ hi h1) h2⟩
theorem W.condT {c : Operand} {a b : Code} {t : Bool} (ht : ev fr c = .bool t) (he : t = true) (h : W P a Q fr m) : W P (.cond c a b) Q fr m := W.cond (t := true) (by rw [ht, he]) h
theorem W.condF {c : Operand} {a b : Code} {t : Bool} (ht : ev fr c = .bool t) (he : t = false) (h : W P b Q fr m) : W P (.cond c a b) Q fr m := W.cond (t := false) (by rw [ht, he]) h
theorem thenQ.n {next : (Nat → Value) → Mem → Prop} (h : next fr m) : thenQ next Q .normal fr m := h
theorem thenQ.x {next : (Nat → Value) → Mem → Prop} {i : Nat} (h : Q (.exit i) fr m) : thenQ next Q (.exit i) fr m := h
theorem thenQ.r {next : (Nat → Value) → Mem → Prop} (h : Q .ret fr m) : thenQ next Q .ret fr m := h
theorem blockQ.n {i : Nat} (h : Q .normal fr m) : blockQ i Q .normal fr m := h
theorem blockQ.hit {i : Nat} (h : Q .normal fr m) : blockQ i Q (.exit i) fr m := by simp only [blockQ, if_true]; exact h
theorem blockQ.miss {i j : Nat} (hij : (j == i) = false) (h : Q (.exit j) fr m) : blockQ i Q (.exit j) fr m := by
  have : j ≠ i := by intro h; simp [h] at hij
  simp only [blockQ, if_neg this]; exact h
theorem blockQ.r {i : Nat} (h : Q .ret fr m) : blockQ i Q .ret fr m := h
theorem SeqW.done {ops : List Oper} {K : (Nat → Value) → Mem → Prop} (h : ∀ fr', fr' = fr → K fr' m) : SeqW P ops [] K fr m := SeqW.nil (h fr rfl)
theorem SeqW.mono {ops l : List Oper} {K K' : (Nat → Value) → Mem → Prop} (h : SeqW P ops l K fr m) (hk : ∀ fr m, K fr m → K' fr m) : SeqW P ops l K' fr m :=
  let ⟨n, fr', m', h1, h2⟩ := h; ⟨n, fr', m', h1, hk _ _ h2⟩
theorem StepW.of {o : Oper} {ρ : Operand → Value} {R : Value → Mem → Prop} {v : Value} {m' : Mem} {n : Nat} (h : StepR P (callR P n) ρ o m v m') (hk : R v m') : StepW P ρ o m R := ⟨n, v, m', h, hk⟩
end
structure Zx (n : Nat) (z z' : Nat → Blk) : Prop where
  le : Zle z z'
  low : ∀ b, b < n → z' b = z b
theorem Zx.refl {n : Nat} (z : Nat → Blk) : Zx n z z := ⟨Zle.refl z, fun _ _ => rfl⟩
theorem Zx.trans {n : Nat} {a b c : Nat → Blk} (h : Zx n a b) (k : Zx n b c) : Zx n a c := ⟨h.le.trans k.le, fun i hi => by rw [k.low i hi, h.low i hi]⟩
theorem Zx.anti {n n' : Nat} {a b : Nat → Blk} (h : Zx n a b) (hn : n' ≤ n) : Zx n' a b := ⟨h.le, fun i hi => h.low i (by omega)⟩
structure Bx (z : Nat → Blk) (e m : Mem) (k : Option Nat) (b : Nat) (cs : List Value) (t : TypeId) : Prop where
  blk : m.blk b = .own cs t
  lt : b < m.next
  dead : z b = .dead
  fresh : e.next ≤ b ∨ k = some b
structure OwF {α : Type} (T : Ty α) (z : Nat → Blk) (e m : Mem) (k : Option Nat) (xs : List α) (v : Value) : Prop where
  ow : Ow T z m xs v
  fresh : ∀ b, blkOf v = some b → e.next ≤ b
section
variable {α : Type} {T : Ty α} {z z' : Nat → Blk} {e m m' : Mem} {k q : Option Nat} {xs : List α} {v : Value} {b : Nat} {cs : List Value} {t : TypeId}
theorem OwF.same (h : OwF T z e m k xs v) (s : Same m m' q) (ap : Ap (blkOf v) q) : OwF T z e m' k xs v := ⟨h.ow.same s ap, h.fresh⟩
theorem Bx.same (h : Bx z e m k b cs t) (s : Same m m' q) (ap : Ap (some b) q) : Bx z e m' k b cs t := by
  have := own_same h.blk h.lt s (ap b rfl)
  exact ⟨this.1, this.2, h.dead, h.fresh⟩
theorem OwF.lt (h : OwF T z e m k xs v) : ∀ b, blkOf v = some b → b < m.next := fun b hb => (h.ow.lt b hb).1
theorem OwF.lt2 (h : OwF T z e m k xs v) : ∀ b, blkOf v = some b → b < m.next ∧ (m.blk b).mem = m.blk b := fun b hb => ⟨h.lt b hb, by
  rcases h.ow with ⟨rfl, _⟩ | ⟨b', o, L, c, rfl, h1, _⟩
  · cases hb
  · cases hb; rw [h1]; rfl⟩
theorem Bx.lt' (h : Bx z e m k b cs t) : ∀ c, some b = some c → c < m.next := fun c hc => by cases hc; exact h.lt
theorem Ow.zle (h : Ow T z m xs v) (hz : Zle z z') (hb : ∀ b, blkOf v = some b → z' b = z b) : Ow T z' m xs v := by
  rcases h with h | ⟨b, f0, L, c, rfl, h1, h2, h3, h4, h5, h6⟩
  · exact .inl h
  · refine .inr ⟨b, f0, L, c, rfl, h1, h2, by rw [hb b rfl]; exact h3, h4, h5, fun i x hi => ?_⟩
    obtain ⟨cs, g1, g2⟩ := h6 i x hi
    exact ⟨cs, T.mono _ _ hz _ _ g1, g2⟩
theorem OwF.zle (h : OwF T z e m k xs v) (hz : Zle z z') (hb : ∀ b, blkOf v = some b → z' b = z b) : OwF T z' e m k xs v := ⟨h.ow.zle hz hb, h.fresh⟩
theorem Bx.zle (h : Bx z e m k b cs t) (hb : ∀ c, some b = some c → z' c = z c) : Bx z' e m k b cs t := ⟨h.blk, h.lt, by rw [hb b rfl]; exact h.dead, h.fresh⟩
theorem OwF.freeze (h : OwF T z e m k xs v) (st : St z e m k) : ∃ z', Zx e.next z z' ∧ St z' e m k ∧ SlR T z' xs v ∧ ∀ p, Ap p (blkOf v) → ∀ b, p = some b → z' b = z b := by
  refine ⟨frz z m (blkOf v), ⟨frz_le fun b hb => (h.ow.lt b hb).2, fun b hb => ?_⟩, ⟨frz_fz st.fz h.lt2, st.dead, st.dead0, st.next, st.kept⟩, h.ow.toR, fun p hp b hb => ?_⟩
  · unfold frz
    rw [if_neg]
    intro hb'
    have := h.fresh b hb'
    omega
  · unfold frz
    rw [if_neg (hp b hb)]
theorem St.call (st : St z e m k) (hx : Zx m.next z z') (hf : Fz z' m') (s : Same m m' q) (hq : ∀ b, q = some b → z b = .dead ∧ (e.next ≤ b ∨ k = some b)) : St z' e m' k := by
  have h := st.same s hq
  exact ⟨hf, h.dead, h.dead0, h.next, h.kept⟩
theorem Zx.here (st : St z e m k) (hx : Zx m.next z z') : Zx e.next z z' := hx.anti st.next
theorem OwF.call (h : OwF T z e m k xs v) (hx : Zx m.next z z') (s : Same m m' q) (ap : Ap (blkOf v) q) : OwF T z' e m' k xs v :=
  (h.zle hx.le fun b hb => hx.low b (h.lt b hb)).same s ap
theorem Bx.call (h : Bx z e m k b cs t) (hx : Zx m.next z z') (s : Same m m' q) (ap : Ap (some b) q) : Bx z' e m' k b cs t :=
  (h.zle fun c hc => hx.low c (h.lt' c hc)).same s ap
theorem Bx.hq (h : Bx z e m k b cs t) : ∀ c, some b = some c → z c = .dead ∧ (e.next ≤ c ∨ k = some c) := fun c hc => by cases hc; exact ⟨h.dead, h.fresh⟩
theorem OwF.hq (h : OwF T z e m k xs v) : ∀ c, blkOf v = some c → z c = .dead ∧ (e.next ≤ c ∨ k = some c) := fun c hc => ⟨(h.ow.lt c hc).2, .inl (h.fresh c hc)⟩
theorem no_hq : ∀ c, (none : Option Nat) = some c → z c = .dead ∧ (e.next ≤ c ∨ k = some c) := fun c hc => by cases hc
theorem OwF.nil : OwF T z e m k [] (.slice none 0 0) := ⟨.nil, fun b hb => by cases hb⟩
variable {P : Program} {C : FuncId → Array Value → Mem → Value → Mem → Prop} {ρ : Operand → Value} {o : Oper} {w : Value} {ys : List α} {x y : Operand} {u : TypeId} {i : TypeInfo}
theorem gAppend (h : o.op = .call { callee := .builtin .append, args := #[x, y], argTypes := #[t, u] }) (ht : P.underlying t = some (.slice T.tid)) (hi : P.info? T.tid = some i) {zv : Value} (hzv : i.zero = some zv) (hzf : zv.cells.toList.all flat0 = true) (hzs : zv.cells.size = i.size)
    (hsz : i.size = T.sz) (hpos : 0 < T.sz) (hby : i.bytes ≤ 32768) (hu : (∃ e', P.underlying u = some (.slice e')) ∨ P.underlying u = some .string) (hx : ρ x = v) (hs : OwF T z e m k xs v) (hy : ρ y = w) (hsrc : Src T z m ys w)
    (st : St z e m k) {r : List α} (hr : appI xs ys = some r) :
    ∃ v' m', EffR P C ρ o m v' m' ∧ St z e m' k ∧ OwF T z e m' k r v' ∧ Same m m' (blkOf v) ∧ ∀ p, (∀ b, p = some b → b < m.next) → Ap p (blkOf v) → Ap p (blkOf v') := by
  obtain ⟨v', m', h1, h2, h3, h4⟩ := eAppend (C := C) h ht hi hzv hzf hzs hsz hpos hby hu hx hs.ow hy hsrc st.fz st.dead hr
  refine ⟨v', m', h1, st.same h3 hs.hq, ⟨h2, fun b hb => ?_⟩, h3, fun p hp ha b hb hb' => ?_⟩
  · rcases h4 b hb with h4 | h4
    · exact hs.fresh b h4
    · have := st.next; omega
  · rcases h4 b hb' with h4 | h4
    · exact ha b hb h4
    · have := hp b hb; omega
theorem gOwn {L : List Value} {v' : Value} {ys : List α} (st : St z e m k) (h : Ow T z (m.push (.own L t)) ys v') (hb : blkOf v' = some m.next) :
    St z e (m.push (.own L t)) k ∧ OwF T z e (m.push (.own L t)) k ys v' ∧ Same m (m.push (.own L t)) none ∧ ∀ p, (∀ b, p = some b → b < m.next) → Ap p (blkOf v') :=
  ⟨st.push _, ⟨h, fun b hb' => by rw [hb] at hb'; cases hb'; exact st.next⟩, same_push st.dead, fun p hp b hb' hb2 => by rw [hb] at hb2; cases hb2; have := hp _ hb'; omega⟩
theorem gMake {x0 : α} {k1 k2 : IntKind} {n : Int} (h : o.op = .makeSlice t x y) (ht : P.underlying t = some (.slice T.tid)) (hi : P.info? T.tid = some i) {zv : Value} (hzv : i.zero = some zv) (hzf : zv.cells.toList.all flat0 = true) (hzs : zv.cells.size = i.size) (hsz : i.size = T.sz) (hby : i.bytes ≤ 32768)
    (hrd : T.rd z x0 zv.cells.toList) (hx : ρ x = .int k1 n) (hy : ρ y = .int k2 n) (st : St z e m k) {r : List α} (hr : mkI x0 n = some r) :
    ∃ v' m' L t', NewR P ρ o m.next (.own L t') v' ∧ m' = m.push (.own L t') ∧ St z e m' k ∧ OwF T z e m' k r v' ∧ Same m m' none ∧ ∀ p, (∀ b, p = some b → b < m.next) → Ap p (blkOf v') := by
  obtain ⟨L, v', h1, h2, h3⟩ := nMake (n' := n) h ht hi hzv hzf hzs hsz hby hrd hx hy st.fz hr
  exact ⟨v', _, _, _, h1, rfl, gOwn st h2 h3⟩
theorem gBuild {ps : Array (Nat × Operand)} {l : Nat} {as : List α} {css : List (List Value)} (h : o.op = .buildSlice t l ps) (ht : P.underlying t = some (.slice T.tid)) (hi : P.info? T.tid = some i) {zv : Value} (hzv : i.zero = some zv) (hzf : zv.cells.toList.all flat0 = true) (hzs : zv.cells.size = i.size) (hsz : i.size = T.sz)
    (hl : as.length = l) (h24 : l * T.sz ≤ 16777216) (hl63 : l < 9223372036854775808) (hb : BuildOk T z ρ ps.toList 0 as css) (st : St z e m k) :
    ∃ v' m' L t', NewR P ρ o m.next (.own L t') v' ∧ m' = m.push (.own L t') ∧ St z e m' k ∧ OwF T z e m' k as v' ∧ Same m m' none ∧ ∀ p, (∀ b, p = some b → b < m.next) → Ap p (blkOf v') := by
  obtain ⟨L, v', h1, h2, h3⟩ := nBuild h ht hi hzv hzf hzs hsz hl h24 hl63 hb st.fz
  exact ⟨v', _, _, _, h1, rfl, gOwn st h2 h3⟩
theorem gBytes {s : List UInt8} {tid : TypeId} (h : o.op = .convert u t x) (hu : P.underlying u = some .string) (ht : P.underlying t = some (.slice tid)) (he : P.underlying tid = some (.int .u8)) (hi : P.info? tid = some i) (hi1 : i.size = 1) (hx : ρ x = str s) (hl : s.length < 9223372036854775807) (st : St z e m k) :
    ∃ v' m' L t', NewR P ρ o m.next (.own L t') v' ∧ m' = m.push (.own L t') ∧ St z e m' k ∧ OwF (TU8 tid) z e m' k s v' ∧ Same m m' none ∧ ∀ p, (∀ b, p = some b → b < m.next) → Ap p (blkOf v') := by
  obtain ⟨L, v', h1, h2, h3⟩ := nBytes h hu ht he hi hi1 hx hl st.fz
  exact ⟨v', _, _, _, h1, rfl, gOwn st h2 h3⟩
theorem gBoxed {L : List Value} (st : St z e m k) : St z e (m.push (.own L t)) k ∧ Bx z e (m.push (.own L t)) k m.next L t ∧ Same m (m.push (.own L t)) none ∧ ∀ p, (∀ b, p = some b → b < m.next) → Ap p (some m.next) := by
  refine ⟨st.push _, ⟨by simp [Mem.push], Nat.lt_succ_self _, ?_, .inl st.next⟩, same_push st.dead, fun p hp b hb' hb2 => by cases hb2; have := hp _ hb'; omega⟩
  cases hzz : z m.next with
  | dead => rfl
  | ro rd => have := (st.fz m.next (by rw [hzz]; simp)).2; omega
  | own L t => have := (st.fz m.next (by rw [hzz]; simp)).2; omega
  | map L t => have := (st.fz m.next (by rw [hzz]; simp)).2; omega
  | lock _ _ _ _ => have := (st.fz m.next (by rw [hzz]; simp)).2; omega
theorem gAlloc (h : o.op = .alloc t) (hi : P.info? t = some i) {zv : Value} (hz : i.zero = some zv) (hzf : zv.cells.toList.all flat0 = true) (hs : zv.cells.size = i.size) (hc : zv.cells.toList = cs) (st : St z e m k) :
    ∃ b m' L t', NewR P ρ o m.next (.own L t') (.pointer (some ⟨b, 0, none⟩)) ∧ m' = m.push (.own L t') ∧ St z e m' k ∧ Bx z e m' k b cs t ∧ Same m m' none ∧ ∀ p, (∀ c, p = some c → c < m.next) → Ap p (some b) := by
  subst hc
  exact ⟨_, _, _, _, (.alloc t i zv h hi hz hzf hs), rfl, gBoxed st⟩
theorem gBox (h : o.op = .box t x) (hi : P.info? t = some i) (hx : ρ x = v) (hv : storable v = true) (hc : v.cells.toList = cs) (hs : cs.length = i.size) (st : St z e m k) :
    ∃ b m' L t', NewR P ρ o m.next (.own L t') (.pointer (some ⟨b, 0, none⟩)) ∧ m' = m.push (.own L t') ∧ St z e m' k ∧ Bx z e m' k b cs t ∧ Same m m' none ∧ ∀ p, (∀ c, p = some c → c < m.next) → Ap p (some b) := by
  subst hx hc
  exact ⟨_, _, _, _, (.box t x i h hi hv (by simpa using hs)), rfl, gBoxed st⟩
theorem gPut {off : Nat} {new cs' : List Value} {te : TypeId} (h : o.op = .store t x y) (hi : P.info? t = some i) (hx : ρ x = .pointer (some ⟨b, off, none⟩)) (hy : ρ y = w) (hv : storable w = true) (hn : w.cells.toList = new) (hs : new.length = i.size) (hb : Bx z e m k b cs te) (hl : off + new.length ≤ cs.length) (hcs : setN cs off new = cs') (st : St z e m k) :
    ∃ m', EffR P C ρ o m undef m' ∧ St z e m' k ∧ Bx z e m' k b cs' te ∧ Same m m' (some b) := by
  subst hy hcs
  have hs' := same_put (x := .own (setN cs off new) te) st.dead hb.lt
  exact ⟨_, (eStore h hi hx hb.blk hv hn hs hl), st.same hs' hb.hq, ⟨by simp [Mem.put], hb.lt, hb.dead, hb.fresh⟩, hs'⟩
theorem gSet {off f0 n f l c : Nat} {new ecs ecs' : List Value} {a a' : α} (h : o.op = .store t x y) (hi : P.info? t = some i) (hx : ρ x = .pointer (some ⟨b, off, none⟩)) (hoff : off = f0 + n * T.sz + f) (hy : ρ y = w) (hv : storable w = true) (hn : w.cells.toList = new) (hs : new.length = i.size)
    (ho : OwF T z e m k xs v) (hvb : v = .slice (some ⟨b, f0, none⟩) l c) (ha : xs[n]? = some a) (hr : T.rd z a ecs) (hc : ∀ (i : Nat) (u : Value), ecs[i]? = some u → m.load b (f0 + n * T.sz + i) = some u) (hr' : T.rd z a' ecs') (hcs : ecs' = setN ecs f new) (hf : f + new.length ≤ ecs.length) (st : St z e m k) :
    ∃ m', EffR P C ρ o m undef m' ∧ St z e m' k ∧ OwF T z e m' k (xs.set n a') v ∧ Same m m' (blkOf v) := by
  subst hy hoff
  obtain ⟨L, g1, g2, g3, g4⟩ := ho.ow.store st.dead hvb ha hr ⟨b, _, rfl, hc⟩ hr' hcs hf
  have hbv : blkOf v = some b := by rw [hvb]; rfl
  refine ⟨_, (eStore h hi hx g1 hv hn hs g2), st.same g4 (by rw [← hbv]; exact ho.hq), ⟨g3, ho.fresh⟩, by rw [hbv]; exact g4⟩
theorem gIdxR {k1 : IntKind} {n : Int} {a : α} {te : TypeId} (h : o.op = .indexAddr t x y) (ht : P.underlying t = some (.slice te)) (hi : P.info? te = some i) (hsz : i.size = T.sz) (hx : ρ x = v) (hy : ρ y = .int k1 n) (hs : SlR T z xs v) (hg : getI xs n = some a) :
    ∃ b off cs, PureR P ρ o (.pointer (some ⟨b, off, none⟩)) ∧ T.rd z a cs ∧ cellsAt z b off cs := by
  obtain ⟨p, cs, h1, h2, b, off, rfl, h3⟩ := pIdxR h ht hi hsz hx hy hs hg
  exact ⟨b, off, cs, h1, h2, h3⟩
theorem gIdxO {k1 : IntKind} {n : Int} {a : α} {te : TypeId} (h : o.op = .indexAddr t x y) (ht : P.underlying t = some (.slice te)) (hi : P.info? te = some i) (hsz : i.size = T.sz) (hx : ρ x = v) (hy : ρ y = .int k1 n) (hs : OwF T z e m k xs v) (hg : getI xs n = some a) :
    ∃ b f0 l c cs, PureR P ρ o (.pointer (some ⟨b, f0 + n.toNat * T.sz, none⟩)) ∧ v = .slice (some ⟨b, f0, none⟩) l c ∧ T.rd z a cs ∧ ∀ (j : Nat) (u : Value), cs[j]? = some u → m.load b (f0 + n.toNat * T.sz + j) = some u := by
  obtain ⟨p, cs, h1, h2, h3, b, f0, l, c, rfl, rfl⟩ := pIdxO h ht hi hsz hx hy hs.ow hg
  obtain ⟨b2, o2, h4, h5⟩ := h3
  cases h4
  exact ⟨b, f0, l, c, cs, h1, rfl, h2, h5⟩
theorem gField {n : Nat} {fs : Array Field} {f : Field} {off : Nat} (h : o.op = .fieldAddr t x n) (ht : P.underlying t = some (.struct fs)) (hf : fs[n]? = some f) (hi : P.info? f.type = some i) (hs : (i.size == 0) = false) (hx : ρ x = .pointer (some ⟨b, off, none⟩)) :
    PureR P ρ o (.pointer (some ⟨b, off + f.offset, none⟩)) := .fieldAddr t x n fs f i b off h ht hf hi (by intro h0; rw [h0] at hs; cases hs) hx
theorem gLoad {off : Nat} {d : TypeDesc} (h : o.op = .load t x) (ht : P.underlying t = some d) (hd : aggT d = false) (hx : ρ x = .pointer (some ⟨b, off, none⟩)) (hv : m.load b off = some v) : ReadR P ρ o m v := .load t x b off d v h hx ht hd hv
theorem gLoadA {off : Nat} {d : TypeDesc} (h : o.op = .load t x) (ht : P.underlying t = some d) (hd : aggT d = true) (hi : P.info? t = some i) (hs : cs.length = i.size) (hx : ρ x = .pointer (some ⟨b, off, none⟩)) (hv : ∀ (j : Nat) (u : Value), cs[j]? = some u → m.load b (off + j) = some u) : ReadR P ρ o m (.agg cs.toArray) :=
  .loadA t x b off d i cs h hx ht hd hi (rdN_of _ _ _ hs hv)
theorem Bx.load (h : Bx z e m k b cs t) {off : Nat} (hv : cs[off]? = some v) : m.load b off = some v := by simp only [Mem.load, h.blk]; exact hv
theorem Bx.loads (h : Bx z e m k b cs t) : ∀ (j : Nat) (u : Value), cs[j]? = some u → m.load b (0 + j) = some u := fun j u hj => by rw [Nat.zero_add]; exact h.load hj
theorem St.loads (st : St z e m k) {off : Nat} (h : cellsAt z b off cs) : ∀ (j : Nat) (u : Value), cs[j]? = some u → m.load b (off + j) = some u := fun j u hj => ldz_load st.fz (h j u hj)
end
theorem enter_fr {args : Array Value} {n i : Nat} {v : Value} (h : args.toList[i]? = some v) : (args ++ Array.replicate n undef).getD i undef = v := by
  have h1 : args[i]? = some v := by rw [← Array.getElem?_toList]; exact h
  have hlt := (Array.getElem?_eq_some_iff.1 h1).1
  rw [Array.getD_eq_getD_getElem?, Array.getElem?_append_left hlt, h1]; rfl
theorem low_flat0 {n : Nat} {v : Value} (h : flat0 v = true) : low0 n v := by
  cases v with
  | pointer a => cases a with
    | none => trivial
    | some a => simp [flat0] at h
  | slice a l c => cases a with
    | none => trivial
    | some a => simp [flat0] at h
  | map r => cases r with
    | none => trivial
    | some r => simp [flat0] at h
  | _ => first | trivial | simp [flat0] at h
theorem low_flat1 {n : Nat} {v : Value} (h : flat1 v = true) : low1 n v := by
  cases v with
  | agg cs => intro w hw; simp only [flat1, List.all_eq_true] at h; exact low_flat0 (h w hw)
  | pointer a => exact low_flat0 (v := .pointer a) h
  | slice a l c => exact low_flat0 (v := .slice a l c) h
  | map r => exact low_flat0 (v := .map r) h
  | _ => first | trivial | simp [flat1, flat0] at h
theorem low_flat {n : Nat} {v : Value} (h : flat v = true) : low n v := by
  cases v with
  | tuple cs => intro w hw; simp only [flat, List.all_eq_true] at h; exact low_flat1 (h w hw)
  | func a b c => simp [flat, flat1, flat0] at h
  | agg cs => exact low_flat1 (v := .agg cs) h
  | pointer a => exact low_flat1 (v := .pointer a) h
  | slice a l c => exact low_flat1 (v := .slice a l c) h
  | map r => exact low_flat1 (v := .map r) h
  | _ => first | trivial | simp [flat, flat1, flat0] at h
theorem CallW.flat {P : Program} {f : FuncId} {fn : Func} {c : Code} {args : Array Value} {z : Nat → Blk} {m : Mem} {r : Value} (hf : P.funcs[f]? = some fn) (hb : fn.body = some c) (hok : okFn P f = true) (hsz : args.size ≤ fn.ntmps) (hr : AM.flat r = true)
    (h : ∀ fr, (∀ i v, args.toList[i]? = some v → fr i = v) → W P c (fun e fr m1 => (e = .normal ∨ e = .ret) ∧ ∃ z', St z' m m1 none ∧ ∃ vs, resultsR P fr m1 fn.results.toList vs ∧ (vs.length = 1 ∨ ∀ x ∈ vs, storable x = true) ∧ pack vs = r) fr m) : CallW P f args m fun v m' => v = r ∧ m' = m := by
  refine CallW.enter hf hb hok hsz ((h _ fun i v hi => enter_fr hi).mono ?_)
  rintro e fr m1 ⟨he, z', st, vs, h1, h2, h3⟩
  refine ⟨he, vs, h1, h2, .inr ⟨⟨h3, st.trunc_eq⟩, by rw [h3]; exact low_flat hr, fun b hb => .inl (st.kept b hb (by simp))⟩⟩
theorem CallW.any {P : Program} {f : FuncId} {fn : Func} {c : Code} {args : Array Value} {m : Mem} {R : Value → Mem → Prop} (hf : P.funcs[f]? = some fn) (hb : fn.body = some c) (hok : okFn P f = true) (hsz : args.size ≤ fn.ntmps)
    (h : ∀ fr, (∀ i v, args.toList[i]? = some v → fr i = v) → W P c (fun e fr m1 => (e = .normal ∨ e = .ret) ∧ ∃ vs, resultsR P fr m1 fn.results.toList vs ∧ (vs.length = 1 ∨ ∀ x ∈ vs, storable x = true) ∧ R (pack vs) m1) fr m) : CallW P f args m R := by
  refine CallW.enter hf hb hok hsz ((h _ fun i v hi => enter_fr hi).mono ?_)
  rintro e fr m1 ⟨he, vs, h1, h2, h3⟩
  exact ⟨he, vs, h1, h2, .inl h3⟩
theorem gCallee {o : Oper} {ρ : Operand → Value} {f : FuncId} {as : Array Operand} {ts : Array TypeId} {args : Array Value} (h : o.op = .call { callee := .value (.func f), args := as, argTypes := ts }) (hf : ρ (.func f) = .func (.func f) #[] #[]) (ha : as.map ρ = args) : callee o ρ f args :=
  ⟨_, as, ts, #[], #[], h, hf, by rw [ha]; simp⟩
end Go.AM
end
section
set_option linter.unusedSimpArgs false
set_option linter.unusedVariables false
namespace Go.AM
inductive Tag where
  | pure
  | read (I : Mem → Prop)
  | new
  | eff
def StepX (P : Program) (ρ : Operand → Value) (o : Oper) (m : Mem) (D : Tag → Value → Mem → Prop) : Prop :=
  (∃ v, PureR P ρ o v ∧ D .pure v m) ∨ (∃ v I, PureR P ρ o v ∧ D (.read I) v m) ∨ (∃ v, ReadR P ρ o m v ∧ D (.read fun m => ReadR P ρ o m v) v m) ∨
  (∃ X v, NewR P ρ o m.next X v ∧ D .new v (m.push X)) ∨ (∃ n v m', EffR P (callR P n) ρ o m v m' ∧ D .eff v m')
section
variable {P : Program} {ρ : Operand → Value} {o : Oper} {m : Mem} {D : Tag → Value → Mem → Prop} {K : Value → Mem → Prop}
theorem StepX.pure {v : Value} (h : PureR P ρ o v) (hk : D .pure v m) : StepX P ρ o m D := .inl ⟨v, h, hk⟩
theorem StepX.pureR {v : Value} {I : Mem → Prop} (h : PureR P ρ o v) (hk : D (.read I) v m) : StepX P ρ o m D := .inr (.inl ⟨v, I, h, hk⟩)
theorem StepX.read {v : Value} (h : ReadR P ρ o m v) (hk : D (.read fun m => ReadR P ρ o m v) v m) : StepX P ρ o m D := .inr (.inr (.inl ⟨v, h, hk⟩))
theorem StepX.new {v : Value} {X : Blk} (h : NewR P ρ o m.next X v) (hk : D .new v (m.push X)) : StepX P ρ o m D := .inr (.inr (.inr (.inl ⟨X, v, h, hk⟩)))
theorem StepX.eff {n : Nat} {v : Value} {m' : Mem} (h : EffR P (callR P n) ρ o m v m') (hk : D .eff v m') : StepX P ρ o m D := .inr (.inr (.inr (.inr ⟨n, v, m', h, hk⟩)))
theorem StepX.w (h : StepX P ρ o m fun _ => K) : StepW P ρ o m K := by
  rcases h with ⟨v, h, hk⟩ | ⟨v, I, h, hk⟩ | ⟨v, h, hk⟩ | ⟨X, v, h, hk⟩ | ⟨n, v, m', h, hk⟩
  · exact StepW.pure h hk
  · exact StepW.pure h hk
  · exact StepW.read h hk
  · exact StepW.new h hk
  · exact StepW.eff h hk
theorem StepX.call {f : FuncId} {args : Array Value} (hc : callee o ρ f args) (h : CallW P f args m (D .eff)) : StepX P ρ o m D := by
  obtain ⟨n, v, m', h1, h2⟩ := h
  exact .eff (.call f args v m' hc h1) h2
end
theorem drawR_weak {P : Program} {C : FuncId → Array Value → Mem → Value → Mem → Prop} {ops : List Oper} {B : Array Nat} : ∀ (l : List Oper) (i : Nat) (A A' : Acc) (fr fr' : Nat → Value) (m m' : Mem), (∀ x ∈ A'.reads, x ∈ A.reads) → (∀ x ∈ A'.effs, x ∈ A.effs) → (∀ x ∈ A'.news, x ∈ A.news) → drawR P C ops B i l A fr m fr' m' → drawR P C ops B i l A' fr m fr' m'
  | [], i, A, A', fr, fr', m, m', _, _, _, h => h
  | o :: l, i, A, A', fr, fr', m, m', h1, h2, h3, h => by
    simp only [drawR] at h ⊢
    split at h
    · rename_i hw
      rw [if_pos hw]
      rcases h with ⟨v, hp, hd⟩ | ⟨v, hp, ho, hd⟩ | ⟨X, v, hp, hd⟩ | ⟨v, m1, hp, g1, g2, hd⟩
      · exact .inl ⟨v, hp, drawR_weak l _ _ _ _ _ _ _ h1 h2 h3 hd⟩
      · refine .inr (.inl ⟨v, hp, fun x hx => ho x (h2 x hx), drawR_weak l _ { A with reads := _ :: A.reads } _ _ _ _ _ (fun x hx => ?_) h2 h3 hd⟩)
        rcases List.mem_cons.1 hx with rfl | hx
        · exact List.mem_cons_self
        · exact List.mem_cons_of_mem _ (h1 x hx)
      · refine .inr (.inr (.inl ⟨X, v, hp, drawR_weak l _ { A with news := _ :: A.news } _ _ _ _ _ h1 h2 (fun x hx => ?_) hd⟩))
        rcases List.mem_cons.1 hx with rfl | hx
        · exact List.mem_cons_self
        · exact List.mem_cons_of_mem _ (h3 x hx)
      · refine .inr (.inr (.inr ⟨v, m1, hp, fun x hx => g1 x (h1 x hx), fun x hx => g2 x (h3 x hx), drawR_weak l _ { A with effs := _ :: A.effs } _ _ _ _ _ h1 (fun x hx => ?_) h3 hd⟩))
        rcases List.mem_cons.1 hx with rfl | hx
        · exact List.mem_cons_self
        · exact List.mem_cons_of_mem _ (h2 x hx)
    · rename_i hw
      rw [if_neg hw]
      exact drawR_weak l _ _ _ _ _ _ _ h1 h2 h3 h
def obl (B : Array Nat) (i : Nat) (A : Acc) (m : Mem) : Tag → Mem → Prop
  | .pure, _ => True
  | .read I, _ => ∀ x ∈ A.effs, anc B i x.1 = false → I x.2
  | .new, _ => True
  | .eff, m1 => (∀ x ∈ A.reads, anc B i x.1 = false → x.2 m1) ∧ ∀ x ∈ A.news, anc B i x.1 = false → m1.blk x.2 = m.blk x.2
def accT (A : Acc) (i : Nat) (m : Mem) : Tag → Acc
  | .pure => A
  | .read I => { A with reads := (i, I) :: A.reads }
  | .new => { A with news := (i, m.next) :: A.news }
  | .eff => { A with effs := (i, m) :: A.effs }
section
variable {P : Program} {ops l : List Oper} {B : Array Nat} {i : Nat} {A : Acc} {K : (Nat → Value) → Mem → Prop} {fr : Nat → Value} {m : Mem} {o : Oper}
theorem SeqW.consX (hg : wanted ops fr o = true) (h : StepX P (ev fr) o m fun _ v m1 => SeqW P ops l K (set fr o.dst v) m1) : SeqW P ops (o :: l) K fr m := SeqW.cons hg h.w
theorem DrawW.cons (hg : wanted ops fr o = true) (h : StepX P (ev fr) o m fun t v m1 => obl B i A m t m1 ∧ DrawW P ops B (i + 1) l (accT A i m t) K (set fr o.dst v) m1) : DrawW P ops B i (o :: l) A K fr m := by
  have up : ∀ {n n' : Nat} (_ : n ≤ n') {l : List Oper} {i : Nat} {A : Acc} {fr fr' : Nat → Value} {m m' : Mem}, drawR P (callR P n) ops B i l A fr m fr' m' → drawR P (callR P n') ops B i l A fr m fr' m' := fun hn => drawR_mono (callR_mono _ _ hn) _ _ _ _ _ _ _
  rcases h with ⟨v, h, _, n, fr', m', h1, h2⟩ | ⟨v, I, h, _, n, fr', m', h1, h2⟩ | ⟨v, h, ho, n, fr', m', h1, h2⟩ | ⟨X, v, h, _, n, fr', m', h1, h2⟩ | ⟨n0, v, m1, h, ho, n, fr', m', h1, h2⟩
  · refine ⟨n, fr', m', ?_, h2⟩
    simp only [drawR]; rw [if_pos hg]
    exact .inl ⟨v, h, h1⟩
  · refine ⟨n, fr', m', ?_, h2⟩
    simp only [drawR]; rw [if_pos hg]
    exact .inl ⟨v, h, drawR_weak _ _ { A with reads := (i, I) :: A.reads } A _ _ _ _ (fun x hx => List.mem_cons_of_mem _ hx) (fun x hx => hx) (fun x hx => hx) h1⟩
  · refine ⟨n, fr', m', ?_, h2⟩
    simp only [drawR]; rw [if_pos hg]
    exact .inr (.inl ⟨v, h, ho, h1⟩)
  · refine ⟨n, fr', m', ?_, h2⟩
    simp only [drawR]; rw [if_pos hg]
    exact .inr (.inr (.inl ⟨X, v, h, h1⟩))
  · refine ⟨max n0 n, fr', m', ?_, h2⟩
    simp only [drawR]; rw [if_pos hg]
    exact .inr (.inr (.inr ⟨v, m1, h.mono (callR_mono _ _ (Nat.le_max_left _ _)), ho.1, ho.2, up (Nat.le_max_right _ _) h1⟩))
theorem DrawW.skip (hg : wanted ops fr o = false) (h : DrawW P ops B (i + 1) l A K (set fr o.dst undef) m) : DrawW P ops B i (o :: l) A K fr m := by
  obtain ⟨n, fr', m', h1, h2⟩ := h
  refine ⟨n, fr', m', ?_, h2⟩
  simp only [drawR]
  rw [if_neg (by simp [hg])]
  exact h1
theorem DrawW.done (h : ∀ fr', fr' = fr → K fr' m) : DrawW P ops B i [] A K fr m := ⟨0, _, _, ⟨rfl, rfl⟩, h _ rfl⟩
theorem demN {β : Type} {q : Nat × β → Prop} : ∀ x ∈ ([] : List (Nat × β)), anc B i x.1 = false → q x := fun _ h => nomatch h
theorem demA {β : Type} {q : Nat × β → Prop} {j : Nat} {y : β} {l : List (Nat × β)} (ha : anc B i j = true) (h : ∀ x ∈ l, anc B i x.1 = false → q x) : ∀ x ∈ (j, y) :: l, anc B i x.1 = false → q x := by
  intro x hx h0
  rcases List.mem_cons.1 hx with rfl | hx
  · rw [ha] at h0; cases h0
  · exact h x hx h0
theorem demP {β : Type} {q : Nat × β → Prop} {j : Nat} {y : β} {l : List (Nat × β)} (hq : q (j, y)) (h : ∀ x ∈ l, anc B i x.1 = false → q x) : ∀ x ∈ (j, y) :: l, anc B i x.1 = false → q x := by
  intro x hx h0
  rcases List.mem_cons.1 hx with rfl | hx
  · exact hq
  · exact h x hx h0
end
theorem sCutX {P : Program} {ρ : Operand → Value} {o : Oper} {α : Type} {T : Ty α} {z : Nat → Blk} {xs : List α} {v : Value} {x : Operand} {t : TypeId} {i : TypeInfo} {lo hi : Option Operand} {a b : Int} {r : List α} (h : o.op = .slice t x lo hi none) (ht : P.underlying t = some (.slice T.tid)) (hi' : P.info? T.tid = some i) (hsz : i.size = T.sz) (hx : ρ x = v)
    (hlo : lowI ρ lo a) (hhi : highI ρ hi xs.length b) (hs : SlR T z xs v) (hr : cutI xs a b = some r) :
    ∃ v', (PureR P ρ o v' ∨ ∀ m, Fz z m → ReadR P ρ o m v') ∧ SlR T z r v' := by
  obtain ⟨h0, h1, h2, rfl⟩ := cutI_some hr
  obtain ⟨a', rfl⟩ := Int.eq_ofNat_of_zero_le h0
  obtain ⟨b', rfl⟩ := Int.eq_ofNat_of_zero_le (Int.le_trans h0 h1)
  have h1' : a' ≤ b' := by omega
  have h2' : b' ≤ xs.length := by omega
  simp only [Int.toNat_natCast]
  have hlo' := lowI_is hlo
  have hhi' := highI_is hhi
  have hlen : ((xs.take b').drop a').length = b' - a' := by simp; omega
  rcases hs with ⟨rfl, rfl⟩ | ⟨bl, off, c, rfl, hlive, hcap, hel⟩
  · have hb0 : b' = 0 := by simpa using h2'
    subst hb0
    have ha0 : a' = 0 := by omega
    subst ha0
    exact ⟨.slice none 0 0, .inl (.sliceNil t x lo hi T.tid i h ht hi' hx hlo' hhi'), .inl ⟨rfl, by simp⟩⟩
  · have hel' : ∀ o', o' = off + a' * T.sz → ∀ (k : Nat) (w : α), ((xs.take b').drop a')[k]? = some w → ∃ cs, T.rd z w cs ∧ cellsAt z bl (o' + k * T.sz) cs := by
      intro o' ho' k w hk
      obtain ⟨cs, g1, g2⟩ := hel _ w (cut_get hk)
      refine ⟨cs, g1, ?_⟩
      rw [ho', Nat.add_assoc, ← Nat.add_mul]; exact g2
    rcases hcap with ⟨rfl, L, hL, hlL⟩ | ⟨hc, hle⟩
    · refine ⟨_, .inr fun m hz => (.slice t x lo hi T.tid i L bl off xs.length a' b' h ht hi' hx ?_ hlo' hhi' h1' h2' (by rw [hsz]; exact hlL)), ?_⟩
      · rw [(hz.fzn hlive).1]; exact hL
      · refine .inr ⟨bl, off + a' * T.sz, BIG, by rw [hlen, hsz], hlive, .inl ⟨rfl, L, hL, ?_⟩, hel' _ rfl⟩
        rw [hlen, Nat.add_assoc, ← Nat.add_mul]
        have : (a' + (b' - a')) * T.sz ≤ xs.length * T.sz := Nat.mul_le_mul_right _ (by omega)
        omega
    · refine ⟨_, .inl (.slice t x lo hi T.tid i bl off xs.length c a' b' h ht hi' hx (by simp only [BIG] at hc ⊢; omega) hlo' hhi' h1' (by omega) (fun _ => trivial)), ?_⟩
      by_cases hcn : c = a'
      · have h00 : b' - a' = 0 := by omega
        refine .inr ⟨bl, off, c - a', by simp [hcn, hlen, h00], hlive, .inr ⟨by omega, by rw [hlen]; omega⟩, fun k w hk => ?_⟩
        have hlt := (List.getElem?_eq_some_iff.1 hk).1
        omega
      · refine .inr ⟨bl, off + a' * T.sz, c - a', by rw [if_neg hcn, hlen, hsz], hlive, .inr ⟨by omega, by rw [hlen]; omega⟩, hel' _ rfl⟩
section
variable {α : Type} {T : Ty α} {z z' : Nat → Blk} {e m m' : Mem} {k q : Option Nat} {xs : List α} {v : Value} {b : Nat} {cs : List Value} {t : TypeId}
variable {P : Program} {ρ : Operand → Value} {o : Oper} {w : Value} {ys : List α} {x y : Operand} {u : TypeId} {i : TypeInfo} {K : Value → Mem → Prop} {D : Tag → Value → Mem → Prop}
theorem kAppend (h : o.op = .call { callee := .builtin .append, args := #[x, y], argTypes := #[t, u] }) (ht : P.underlying t = some (.slice T.tid)) (hi : P.info? T.tid = some i) {zv : Value} (hzv : i.zero = some zv) (hzf : zv.cells.toList.all flat0 = true) (hzs : zv.cells.size = i.size)
    (hsz : i.size = T.sz) (hpos : (T.sz == 0) = false) (hby : Nat.ble i.bytes 32768 = true) (hu : (∃ e', P.underlying u = some (.slice e')) ∨ P.underlying u = some .string) (hx : ρ x = v) (hs : OwF T z e m k xs v) (hy : ρ y = w) (hsrc : Src T z m ys w)
    (st : St z e m k) {r : List α} (hr : appI xs ys = some r)
    (hk : ∀ v' m', St z e m' k → OwF T z e m' k r v' → Same m m' (blkOf v) → (∀ p, (∀ b, p = some b → b < m.next) → Ap p (blkOf v) → Ap p (blkOf v')) → D .eff v' m') : StepX P ρ o m D := by
  obtain ⟨v', m', h1, h2, h3, h4, h5⟩ := gAppend (C := callR P 0) h ht hi hzv hzf hzs hsz (by rcases Nat.eq_zero_or_pos T.sz with h0 | h0; · rw [h0] at hpos; cases hpos
                                                                                              · exact h0) (Nat.le_of_ble_eq_true hby) hu hx hs hy hsrc st hr
  exact StepX.eff h1 (hk _ _ h2 h3 h4 h5)
theorem kMake {x0 : α} {k1 k2 : IntKind} {n : Int} (h : o.op = .makeSlice t x y) (ht : P.underlying t = some (.slice T.tid)) (hi : P.info? T.tid = some i) {zv : Value} (hzv : i.zero = some zv) (hzf : zv.cells.toList.all flat0 = true) (hzs : zv.cells.size = i.size) (hsz : i.size = T.sz) (hby : Nat.ble i.bytes 32768 = true)
    (hrd : T.rd z x0 zv.cells.toList) (hx : ρ x = .int k1 n) (hy : ρ y = .int k2 n) (st : St z e m k) {r : List α} (hr : mkI x0 n = some r)
    (hk : ∀ v' m', St z e m' k → OwF T z e m' k r v' → Same m m' none → (∀ p, (∀ b, p = some b → b < m.next) → Ap p (blkOf v')) → D .new v' m') : StepX P ρ o m D := by
  obtain ⟨v', m', L, t', h1, rfl, h2, h3, h4, h5⟩ := gMake h ht hi hzv hzf hzs hsz (Nat.le_of_ble_eq_true hby) hrd hx hy st hr
  exact StepX.new h1 (hk _ _ h2 h3 h4 h5)
theorem kBuild {ps : Array (Nat × Operand)} {l : Nat} (h : o.op = .buildSlice t l ps) (ht : P.underlying t = some (.slice T.tid)) (hi : P.info? T.tid = some i) {zv : Value} (hzv : i.zero = some zv) (hzf : zv.cells.toList.all flat0 = true) (hzs : zv.cells.size = i.size) (hsz : i.size = T.sz)
    (as : List α) (css : List (List Value)) (hl : as.length = l) (h24 : Nat.ble (l * T.sz) 16777216 = true) (hl63 : Nat.blt l 9223372036854775808 = true) (hb : BuildOk T z ρ ps.toList 0 as css) (st : St z e m k)
    (hk : ∀ v' m', St z e m' k → OwF T z e m' k as v' → Same m m' none → (∀ p, (∀ b, p = some b → b < m.next) → Ap p (blkOf v')) → D .new v' m') : StepX P ρ o m D := by
  obtain ⟨v', m', L, t', h1, rfl, h2, h3, h4, h5⟩ := gBuild h ht hi hzv hzf hzs hsz hl (Nat.le_of_ble_eq_true h24) (by have := hl63; simp [Nat.blt] at this; omega) hb st
  exact StepX.new h1 (hk _ _ h2 h3 h4 h5)
theorem kBytes {s : List UInt8} {tid : TypeId} (h : o.op = .convert u t x) (hu : P.underlying u = some .string) (ht : P.underlying t = some (.slice tid)) (he : P.underlying tid = some (.int .u8)) (hi : P.info? tid = some i) (hi1 : i.size = 1) (hx : ρ x = str s) {s' : List UInt8} (hl : appI s [] = some s') (st : St z e m k)
    (hk : ∀ v' m', St z e m' k → OwF (TU8 tid) z e m' k s' v' → Same m m' none → (∀ p, (∀ b, p = some b → b < m.next) → Ap p (blkOf v')) → D .new v' m') : StepX P ρ o m D := by
  obtain ⟨hlim, rfl⟩ := appI_some hl
  rw [List.append_nil] at hk
  obtain ⟨v', m', L, t', h1, rfl, h2, h3, h4, h5⟩ := gBytes h hu ht he hi hi1 hx (by simp only [LIM, List.length_nil] at hlim; omega) st
  exact StepX.new h1 (hk _ _ h2 h3 h4 h5)
theorem kAlloc (h : o.op = .alloc t) (hi : P.info? t = some i) {zv : Value} (hz : i.zero = some zv) (hzf : zv.cells.toList.all flat0 = true) (hs : zv.cells.size = i.size) (cs : List Value) (hc : zv.cells.toList = cs) (st : St z e m k)
    (hk : ∀ b m', St z e m' k → Bx z e m' k b cs t → Same m m' none → (∀ p, (∀ c, p = some c → c < m.next) → Ap p (some b)) → D .new (.pointer (some ⟨b, 0, none⟩)) m') : StepX P ρ o m D := by
  obtain ⟨b, m', L, t', h1, rfl, h2, h3, h4, h5⟩ := gAlloc h hi hz hzf hs hc st
  exact StepX.new h1 (hk _ _ h2 h3 h4 h5)
theorem kBox (h : o.op = .box t x) (hi : P.info? t = some i) (hx : ρ x = v) (hv : storable v = true) (cs : List Value) (hc : v.cells.toList = cs) (hs : cs.length = i.size) (st : St z e m k)
    (hk : ∀ b m', St z e m' k → Bx z e m' k b cs t → Same m m' none → (∀ p, (∀ c, p = some c → c < m.next) → Ap p (some b)) → D .new (.pointer (some ⟨b, 0, none⟩)) m') : StepX P ρ o m D := by
  obtain ⟨b, m', L, t', h1, rfl, h2, h3, h4, h5⟩ := gBox h hi hx hv hc hs st
  exact StepX.new h1 (hk _ _ h2 h3 h4 h5)
theorem kPut {off : Nat} {new : List Value} {te : TypeId} (h : o.op = .store t x y) (hi : P.info? t = some i) (hx : ρ x = .pointer (some ⟨b, off, none⟩)) (hy : ρ y = w) (hv : storable w = true) (hn : w.cells.toList = new) (hs : new.length = i.size) (hb : Bx z e m k b cs te) (hl : Nat.ble (off + new.length) cs.length = true) (cs' : List Value) (hcs : setN cs off new = cs') (st : St z e m k)
    (hk : ∀ m', St z e m' k → Bx z e m' k b cs' te → Same m m' (some b) → D .eff undef m') : StepX P ρ o m D := by
  obtain ⟨m', h1, h2, h3, h4⟩ := gPut (C := callR P 0) h hi hx hy hv hn hs hb (Nat.le_of_ble_eq_true hl) hcs st
  exact StepX.eff h1 (hk _ h2 h3 h4)
theorem kSet {off f0 n f l c : Nat} {new ecs ecs' : List Value} {a a' : α} (h : o.op = .store t x y) (hi : P.info? t = some i) (hx : ρ x = .pointer (some ⟨b, off, none⟩)) (hoff : off = f0 + n * T.sz + f) (hy : ρ y = w) (hv : storable w = true) (hn : w.cells.toList = new) (hs : new.length = i.size)
    (ho : OwF T z e m k xs v) (hvb : v = .slice (some ⟨b, f0, none⟩) l c) (ha : xs[n]? = some a) (hr : T.rd z a ecs) (hc : ∀ (i : Nat) (u : Value), ecs[i]? = some u → m.load b (f0 + n * T.sz + i) = some u) (hr' : T.rd z a' ecs') (hcs : ecs' = setN ecs f new) (hf : Nat.ble (f + new.length) ecs.length = true) (st : St z e m k)
    (hk : ∀ m', St z e m' k → OwF T z e m' k (xs.set n a') v → Same m m' (blkOf v) → D .eff undef m') : StepX P ρ o m D := by
  obtain ⟨m', h1, h2, h3, h4⟩ := gSet (C := callR P 0) h hi hx hoff hy hv hn hs ho hvb ha hr hc hr' hcs (Nat.le_of_ble_eq_true hf) st
  exact StepX.eff h1 (hk _ h2 h3 h4)
theorem kIdxR {k1 : IntKind} {n : Int} {a : α} {te : TypeId} (h : o.op = .indexAddr t x y) (ht : P.underlying t = some (.slice te)) (hi : P.info? te = some i) (hsz : i.size = T.sz) (hx : ρ x = v) (hy : ρ y = .int k1 n) (hs : SlR T z xs v) (hg : getI xs n = some a)
    (hk : ∀ b off cs, T.rd z a cs → cellsAt z b off cs → D .pure (.pointer (some ⟨b, off, none⟩)) m) : StepX P ρ o m D := by
  obtain ⟨b, off, cs, h1, h2, h3⟩ := gIdxR h ht hi hsz hx hy hs hg
  exact StepX.pure h1 (hk _ _ _ h2 h3)
theorem kIdxO {k1 : IntKind} {n : Int} {a : α} {te : TypeId} (h : o.op = .indexAddr t x y) (ht : P.underlying t = some (.slice te)) (hi : P.info? te = some i) (hsz : i.size = T.sz) (hx : ρ x = v) (hy : ρ y = .int k1 n) (hs : OwF T z e m k xs v) (hg : getI xs n = some a)
    (hk : ∀ b f0 l c cs, v = .slice (some ⟨b, f0, none⟩) l c → T.rd z a cs → xs[n.toNat]? = some a → (∀ (j : Nat) (u : Value), cs[j]? = some u → m.load b (f0 + n.toNat * T.sz + j) = some u) → D .pure (.pointer (some ⟨b, f0 + n.toNat * T.sz, none⟩)) m) : StepX P ρ o m D := by
  obtain ⟨b, f0, l, c, cs, h1, h2, h3, h4⟩ := gIdxO h ht hi hsz hx hy hs hg
  exact StepX.pure h1 (hk _ _ _ _ _ h2 h3 (getI_some hg).2.2 h4)
theorem kField {n : Nat} {fs : Array Field} {f : Field} {off : Nat} (h : o.op = .fieldAddr t x n) (ht : P.underlying t = some (.struct fs)) (hf : fs[n]? = some f) (hi : P.info? f.type = some i) (hs : (i.size == 0) = false) (hx : ρ x = .pointer (some ⟨b, off, none⟩)) {off' : Nat} (ho : off + f.offset = off')
    (hk : D .pure (.pointer (some ⟨b, off', none⟩)) m) : StepX P ρ o m D := by
  subst ho
  exact StepX.pure (gField h ht hf hi hs hx) hk
theorem kLoad {off : Nat} {d : TypeDesc} (h : o.op = .load t x) (ht : P.underlying t = some d) (hd : aggT d = false) (hx : ρ x = .pointer (some ⟨b, off, none⟩)) (hv : m.load b off = some v) (hk : D (.read fun m => ReadR P ρ o m v) v m) : StepX P ρ o m D := StepX.read (gLoad h ht hd hx hv) hk
theorem kLoadA {off : Nat} {d : TypeDesc} (h : o.op = .load t x) (ht : P.underlying t = some d) (hd : aggT d = true) (hi : P.info? t = some i) (hs : cs.length = i.size) (hx : ρ x = .pointer (some ⟨b, off, none⟩)) (hv : ∀ (j : Nat) (u : Value), cs[j]? = some u → m.load b (off + j) = some u)
    (hk : D (.read fun m => ReadR P ρ o m (.agg cs.toArray)) (.agg cs.toArray) m) : StepX P ρ o m D := StepX.read (gLoadA h ht hd hi hs hx hv) hk
theorem kCut {lo hi : Option Operand} {a b : Int} {r : List α} (h : o.op = .slice t x lo hi none) (ht : P.underlying t = some (.slice T.tid)) (hi' : P.info? T.tid = some i) (hsz : i.size = T.sz) (hx : ρ x = v)
    (hlo : lowI ρ lo a) (hhi : highI ρ hi xs.length b) (hs : SlR T z xs v) (st : St z e m k) (hr : cutI xs a b = some r) (hk : ∀ v' I, (∀ m, Fz z m → I m) → SlR T z r v' → D (.read I) v' m) : StepX P ρ o m D := by
  obtain ⟨v', h1, h2⟩ := sCutX h ht hi' hsz hx hlo hhi hs hr
  rcases h1 with h1 | h1
  · exact StepX.pureR (I := fun _ => True) h1 (hk _ _ (fun _ _ => trivial) h2)
  · exact StepX.read (h1 m st.fz) (hk _ _ h1 h2)
theorem kCutS {s r : List UInt8} {lo hi : Option Operand} {a b : Int} (h : o.op = .slice t x lo hi none) (ht : P.underlying t = some .string) (hx : ρ x = str s) (hlo : lowI ρ lo a) (hhi : highI ρ hi s.length b) (hr : cutI s a b = some r) (hk : D .pure (str r) m) : StepX P ρ o m D := by
  obtain ⟨h0, h1, h2, rfl⟩ := cutI_some hr
  obtain ⟨a', rfl⟩ := Int.eq_ofNat_of_zero_le h0
  obtain ⟨b', rfl⟩ := Int.eq_ofNat_of_zero_le (Int.le_trans h0 h1)
  exact StepX.pure (pSliceS h ht hx (lowI_is hlo) (highI_is hhi) (by omega) (by omega)) hk
theorem kIndexS {s : List UInt8} {c : UInt8} {k1 : IntKind} {n : Int} (h : o.op = .index t x y) (ht : P.underlying t = some .string) (hx : ρ x = str s) (hy : ρ y = .int k1 n) (hg : getI s n = some c) (hk : D .pure (.int .u8 c.toNat) m) : StepX P ρ o m D := by
  obtain ⟨h0, h1, h2⟩ := getI_some hg
  exact StepX.pure (pIndexS h ht hx hy h0 h2) hk
theorem kAddS {s r q : List UInt8} (h : o.op = .binOp .add t x y u) (hx : ρ x = str s) (hy : ρ y = str r) (hr : appI s r = some q) (hk : D .pure (str q) m) : StepX P ρ o m D := by
  obtain ⟨h1, rfl⟩ := appI_some hr
  exact StepX.pure (pAddS h hx hy (by simp only [LIM] at h1; omega)) hk
theorem kQuo {k1 : IntKind} {a b c : Int} (h : o.op = .binOp .quo t x y u) (hx : ρ x = .int k1 a) (hy : ρ y = .int k1 b) (hr : divI a b = some c) (hk : D .pure (.int k1 (k1.wrap c)) m) : StepX P ρ o m D := by
  obtain ⟨h1, rfl⟩ := divI_some hr
  exact StepX.pure (pQuo h hx hy h1) hk
theorem kRem {k1 : IntKind} {a b c : Int} (h : o.op = .binOp .rem t x y u) (hx : ρ x = .int k1 a) (hy : ρ y = .int k1 b) (hr : modI a b = some c) (hk : D .pure (.int k1 c) m) : StepX P ρ o m D := by
  obtain ⟨h1, rfl⟩ := modI_some hr
  exact StepX.pure (pRem h hx hy h1) hk
theorem kStrR {s : List UInt8} {tid : TypeId} (h : o.op = .convert t u x) (ht : P.underlying t = some (.slice tid)) (he : P.underlying tid = some (.int .u8)) (hu : P.underlying u = some .string) (hx : ρ x = v) (hs : SlR (TU8 tid) z s v) (st : St z e m k) (hk : D (.read fun m => ReadR P ρ o m (str s)) (str s) m) : StepX P ρ o m D :=
  StepX.read (rStr h ht he hu hx (hs.src st.fz) (by obtain ⟨a, c, rfl⟩ := hs.len; exact ⟨_, _, _, rfl⟩)) hk
theorem kStrO {s : List UInt8} {tid : TypeId} (h : o.op = .convert t u x) (ht : P.underlying t = some (.slice tid)) (he : P.underlying tid = some (.int .u8)) (hu : P.underlying u = some .string) (hx : ρ x = v) (hs : OwF (TU8 tid) z e m k s v) (hk : D (.read fun m => ReadR P ρ o m (str s)) (str s) m) : StepX P ρ o m D :=
  StepX.read (rStr h ht he hu hx hs.ow.src (by obtain ⟨a, c, rfl⟩ := hs.ow.len; exact ⟨_, _, _, rfl⟩)) hk
theorem args0 : (#[] : Array Operand).map ρ = #[] := by simp
theorem args1 {x0 : Operand} {a0 : Value} (h0 : ρ x0 = a0) : #[x0].map ρ = #[a0] := by simp [h0]
theorem args2 {x0 x1 : Operand} {a0 a1 : Value} (h0 : ρ x0 = a0) (h1 : ρ x1 = a1) : #[x0, x1].map ρ = #[a0, a1] := by simp [h0, h1]
theorem args3 {x0 x1 x2 : Operand} {a0 a1 a2 : Value} (h0 : ρ x0 = a0) (h1 : ρ x1 = a1) (h2 : ρ x2 = a2) : #[x0, x1, x2].map ρ = #[a0, a1, a2] := by simp [h0, h1, h2]
theorem args4 {x0 x1 x2 x3 : Operand} {a0 a1 a2 a3 : Value} (h0 : ρ x0 = a0) (h1 : ρ x1 = a1) (h2 : ρ x2 = a2) (h3 : ρ x3 = a3) : #[x0, x1, x2, x3].map ρ = #[a0, a1, a2, a3] := by simp [h0, h1, h2, h3]
theorem args5 {x0 x1 x2 x3 x4 : Operand} {a0 a1 a2 a3 a4 : Value} (h0 : ρ x0 = a0) (h1 : ρ x1 = a1) (h2 : ρ x2 = a2) (h3 : ρ x3 = a3) (h4 : ρ x4 = a4) : #[x0, x1, x2, x3, x4].map ρ = #[a0, a1, a2, a3, a4] := by simp [h0, h1, h2, h3, h4]
theorem args6 {x0 x1 x2 x3 x4 x5 : Operand} {a0 a1 a2 a3 a4 a5 : Value} (h0 : ρ x0 = a0) (h1 : ρ x1 = a1) (h2 : ρ x2 = a2) (h3 : ρ x3 = a3) (h4 : ρ x4 = a4) (h5 : ρ x5 = a5) : #[x0, x1, x2, x3, x4, x5].map ρ = #[a0, a1, a2, a3, a4, a5] := by simp [h0, h1, h2, h3, h4, h5]
theorem resCell {fr : Nat → Value} {a : Nat} {d : TypeDesc} (h : fr a = .pointer (some ⟨b, 0, none⟩)) (hx : Bx z e m k b cs t) (hd : P.underlying u = some d) (ha : aggT d = true) (hi : P.info? u = some i) (hs : cs.length = i.size) : resultR P fr m (.cell a u) (.agg cs.toArray) :=
  ⟨b, 0, h, d, hd, by rw [if_pos ha]; exact ⟨i, cs, hi, rdN_of _ _ _ hs hx.loads, rfl⟩⟩
theorem SlR.stor {xs : List α} (h : SlR T z xs v) : storable v = true ∧ v.cells.toList = [v] := by
  obtain ⟨a, c, rfl⟩ := h.len
  exact ⟨rfl, rfl⟩
theorem BuildOk.mk {n : Nat} {x : Operand} {w : Value} {ps : List (Nat × Operand)} {a : α} {as : List α} {c : List Value} {css : List (List Value)} (hx : ρ x = w) (hs : storable w = true) (hc : w.cells.toList = c) (hr : T.rd z a c) (h : BuildOk T z ρ ps (n + 1) as css) : BuildOk T z ρ ((n, x) :: ps) n (a :: as) (c :: css) :=
  ⟨rfl, by rw [hx]; exact hs, by rw [hx]; exact hc, hr, h⟩
theorem kBuildS {ps : Array (Nat × Operand)} {fs : Array Field} {pl : List (Option (Nat × Nat))} {zv : Value} (vs : List (Nat × Value)) (cs : List Value) (h : o.op = .build t ps) (ht : P.underlying t = some (.struct fs)) (hi : P.info? t = some i) (hz : i.zero = some zv) (hzf : zv.cells.toList.all flat0 = true)
    (hpl : places P fs = pl) (hp : pl.all Option.isSome = true) (hvs : ps.toList.map (fun p => (p.1, ρ p.2)) = vs) (hc : fillL (fun k => (pl[k]?).join) zv.cells.toList vs = some cs) (hk : D .pure (.agg cs.toArray) m) : StepX P ρ o m D := by
  subst hpl hvs
  exact StepX.pure (.build t ps fs i zv cs h ht hi hz hzf (by simpa [List.all_eq_true] using hp) hc) hk
variable {ops l : List Oper} {fr : Nat → Value} {KK : (Nat → Value) → Mem → Prop}
theorem SeqW.consG {j d : Nat} {want bb : Bool} (hg : o.guard = some (j, want)) (hd : (ops[j]?).bind (·.dst) = some d) (hv : fr d = .bool bb) (hb : bb = want) (h : StepX P (ev fr) o m fun _ v m1 => SeqW P ops l KK (set fr o.dst v) m1) : SeqW P ops (o :: l) KK fr m :=
  SeqW.consX (by subst hb; simp [wanted, hg, hd, hv]) h
theorem SeqW.skipG {j d : Nat} {want bb : Bool} (hg : o.guard = some (j, want)) (hd : (ops[j]?).bind (·.dst) = some d) (hv : fr d = .bool bb) (hb : bb = !want) (h : SeqW P ops l KK (set fr o.dst undef) m) : SeqW P ops (o :: l) KK fr m :=
  SeqW.skip (by subst hb; simp [wanted, hg, hd, hv]) h
theorem SeqW.skipU {j d : Nat} {want : Bool} (hg : o.guard = some (j, want)) (hd : (ops[j]?).bind (·.dst) = some d) (hv : fr d = undef) (h : SeqW P ops l KK (set fr o.dst undef) m) : SeqW P ops (o :: l) KK fr m :=
  SeqW.skip (by simp [wanted, hg, hd, hv, undef]) h
theorem DrawW.consG {B : Array Nat} {n : Nat} {A : Acc} {j d : Nat} {want bb : Bool} (hg : o.guard = some (j, want)) (hd : (ops[j]?).bind (·.dst) = some d) (hv : fr d = .bool bb) (hb : bb = want) (h : StepX P (ev fr) o m fun t v m1 => obl B n A m t m1 ∧ DrawW P ops B (n + 1) l (accT A n m t) KK (set fr o.dst v) m1) : DrawW P ops B n (o :: l) A KK fr m :=
  DrawW.cons (by subst hb; simp [wanted, hg, hd, hv]) h
theorem DrawW.skipG {B : Array Nat} {n : Nat} {A : Acc} {j d : Nat} {want bb : Bool} (hg : o.guard = some (j, want)) (hd : (ops[j]?).bind (·.dst) = some d) (hv : fr d = .bool bb) (hb : bb = !want) (h : DrawW P ops B (n + 1) l A KK (set fr o.dst undef) m) : DrawW P ops B n (o :: l) A KK fr m :=
  DrawW.skip (by subst hb; simp [wanted, hg, hd, hv]) h
theorem DrawW.skipU {B : Array Nat} {n : Nat} {A : Acc} {j d : Nat} {want : Bool} (hg : o.guard = some (j, want)) (hd : (ops[j]?).bind (·.dst) = some d) (hv : fr d = undef) (h : DrawW P ops B (n + 1) l A KK (set fr o.dst undef) m) : DrawW P ops B n (o :: l) A KK fr m :=
  DrawW.skip (by simp [wanted, hg, hd, hv, undef]) h
theorem Same.ld {f0 l0 c off : Nat} (s : Same m m' q) (h : OwF T z e m k xs v) (ap : Ap (blkOf v) q) (hv : v = .slice (some ⟨b, f0, none⟩) l0 c) : m'.load b off = m.load b off := by
  have hb : blkOf v = some b := by rw [hv]; rfl
  simp only [Mem.load]
  rw [s.blk b (h.lt b hb) (ap b hb)]
theorem Fz.le (h : Fz z' m) (hz : ∀ b, z b ≠ .dead → z' b = z b) : Fz z m := fun b hb => by
  have h1 := hz b hb
  have := h b (by rw [h1]; exact hb)
  rw [h1] at this
  exact this
theorem Ap.fresh {p : Option Nat} {n c : Nat} (h : ∀ b, p = some b → b < n) (hn : n ≤ c) : Ap p (some c) := fun b hb hc => by
  cases hc
  have := h _ hb
  omega
theorem Ap.own {p : Option Nat} {n : Nat} (h : ∀ b, p = some b → b < n) (hv : ∀ b, blkOf v = some b → n ≤ b) : Ap p (blkOf v) := fun b hb hc => by
  have := h _ hb
  have := hv _ hc
  omega
theorem OwF.up {k' : Option Nat} {e' : Mem} (h : OwF T z e' m k' xs v) (hn : e.next ≤ e'.next) : OwF T z e m k xs v := ⟨h.ow, fun b hb => Nat.le_trans hn (h.fresh b hb)⟩
theorem OwF.stor (h : OwF T z e m k xs v) : storable v = true ∧ v.cells.toList = [v] := by
  obtain ⟨a, c, rfl⟩ := h.ow.len
  exact ⟨rfl, rfl⟩
end
end Go.AM
end
section
set_option linter.unusedSimpArgs false
set_option linter.unusedVariables false
namespace Go.AM
theorem findNow_findV {d : TypeDesc} {k : Value} (hk : MapKept.IsKey d k) : ∀ (l : List MapEntry) (i : Nat), (∀ x ∈ l, MapKept.IsKey d x.key) → Instr.findNow d k l i = some (findV k l i)
  | [], i, _ => rfl
  | e :: es, i, h => by
    obtain ⟨r, hr, hiff⟩ := MapKept.sameNow_of_keys hk (h e (.head _))
    have ih := findNow_findV hk es (i + 1) (fun x hx => h x (.tail _ hx))
    cases r with
    | true =>
      have := hiff.1 rfl
      rw [findV, if_pos this.symm]
      simp [Instr.findNow, hr]
    | false =>
      have hne : ¬ e.key = k := fun q => by have := hiff.2 q.symm; cases this
      rw [findV, if_neg hne]
      simp [Instr.findNow, hr, ih]
theorem keyed_of {P : Program} {kt : TypeId} {d : TypeDesc} (hd : P.underlying kt = some d) {good : Value → Prop} (hg : ∀ v, good v → MapKept.IsKey d v) : Keyed P kt good where
  check := fun em v w h => MapKept.run_checkKey hd (hg v h) em _
  find := fun v es w h hs => MapKept.run_findKey hd (findNow_findV (hg v h) es 0 fun x hx => hg _ (hs x hx))
  stays := fun v w h => MapKept.run_keyThatStays (hg v h)
structure MTy (α β : Type) where
  kc : α → List Value
  vc : β → List Value
  tid : TypeId
structure KeyOk (P : Program) (kt : TypeId) {α : Type} (kc : α → List Value) : Prop where
  len : ∀ a, (kc a).length = P.cellsOf kt
  pos : 0 < P.cellsOf kt
  flat : ∀ a, (kc a).all flat0 = true
  flatV : ∀ a, AM.flat (cellV (tyAgg P kt) (kc a)) = true
  inj : ∀ a b, cellV (tyAgg P kt) (kc a) = cellV (tyAgg P kt) (kc b) → a = b
  keyed : Keyed P kt fun v => ∃ a, v = cellV (tyAgg P kt) (kc a)
structure ValOk (P : Program) (vt : TypeId) {β : Type} (vc : β → List Value) : Prop where
  len : ∀ b, (vc b).length = P.cellsOf vt
  one : tyAgg P vt = false → P.cellsOf vt = 1
  flat : ∀ b, (vc b).all flat0 = true
def kInt (k : IntKind) (n : Int) : List Value := [.int k n]
def kStr (s : List UInt8) : List Value := [str s]
def kBool (b : Bool) : List Value := [.bool b]
theorem noAgg {P : Program} {t : TypeId} {d : TypeDesc} (h : P.underlying t = some d) (hd : aggT d = false) : tyAgg P t = false := by simp [tyAgg, h, hd]
theorem keyInt {P : Program} {kt : TypeId} {k : IntKind} {i : TypeInfo} (h : P.underlying kt = some (.int k)) (hi : P.info? kt = some i) (hs : i.size = 1) : KeyOk P kt (kInt k) where
  len := fun a => by simp [kInt, Program.cellsOf, hi, hs]
  pos := by simp [Program.cellsOf, hi, hs]
  flat := fun a => rfl
  flatV := fun a => by rw [noAgg h rfl]; rfl
  inj := fun a b hab => by rw [noAgg h rfl] at hab; simpa [cellV, kInt] using hab
  keyed := keyed_of h (by rintro v ⟨a, rfl⟩; rw [noAgg h rfl]; simp [cellV, kInt, MapKept.IsKey])
theorem str_inj {a b : List UInt8} (h : str a = str b) : a = b := by
  simp only [str] at h
  injection h with h
  injection h with h
  simpa using congrArg Array.toList h
theorem keyStr {P : Program} {kt : TypeId} {i : TypeInfo} (h : P.underlying kt = some .string) (hi : P.info? kt = some i) (hs : i.size = 1) : KeyOk P kt kStr where
  len := fun a => by simp [kStr, Program.cellsOf, hi, hs]
  pos := by simp [Program.cellsOf, hi, hs]
  flat := fun a => rfl
  flatV := fun a => by rw [noAgg h rfl]; rfl
  inj := fun a b hab => by rw [noAgg h rfl] at hab; exact str_inj hab
  keyed := keyed_of h (by rintro v ⟨a, rfl⟩; rw [noAgg h rfl]; simp [cellV, kStr, str, MapKept.IsKey])
theorem valInt {P : Program} {vt : TypeId} {k : IntKind} {i : TypeInfo} (h : P.underlying vt = some (.int k)) (hi : P.info? vt = some i) (hs : i.size = 1) : ValOk P vt (kInt k) :=
  ⟨fun a => by simp [kInt, Program.cellsOf, hi, hs], fun _ => by simp [Program.cellsOf, hi, hs], fun _ => rfl⟩
theorem valBool {P : Program} {vt : TypeId} {i : TypeInfo} (h : P.underlying vt = some .bool) (hi : P.info? vt = some i) (hs : i.size = 1) : ValOk P vt kBool :=
  ⟨fun a => by simp [kBool, Program.cellsOf, hi, hs], fun _ => by simp [Program.cellsOf, hi, hs], fun _ => rfl⟩
section
variable {α β : Type}
def mpGet [DecidableEq α] : List (α × β) → α → Option β
  | [], _ => none
  | p :: es, a => if p.1 = a then some p.2 else mpGet es a
def mpSet [DecidableEq α] : List (α × β) → α → β → List (α × β)
  | [], a, b => [(a, b)]
  | p :: es, a, b => if p.1 = a then (p.1, b) :: es else p :: mpSet es a b
def MTy.ents (M : MTy α β) (es : List (α × β)) : List (List Value × List Value) := es.map fun p => (M.kc p.1, M.vc p.2)
def MTy.cells (M : MTy α β) (es : List (α × β)) : List Value := (M.ents es).flatMap fun p => p.1 ++ p.2
structure OwM (M : MTy α β) (z : Nat → Blk) (e m : Mem) (k : Option Nat) (es : List (α × β)) (v : Value) : Prop where
  ow : ∃ r, v = .map (some r) ∧ m.blk r = .map (M.cells es) M.tid ∧ r < m.next ∧ z r = .dead ∧ e.next ≤ r
def MpR (M : MTy α β) (z : Nat → Blk) (es : List (α × β)) (v : Value) : Prop :=
  (v = .map none ∧ es = []) ∨ ∃ r, v = .map (some r) ∧ z r = .map (M.cells es) M.tid
def mapOf : Value → Option Nat
  | .map r => r
  | _ => none
variable {M : MTy α β} {z z' : Nat → Blk} {e m m' : Mem} {k q : Option Nat} {es : List (α × β)} {v : Value}
theorem OwM.lt (h : OwM M z e m k es v) : ∀ b, mapOf v = some b → b < m.next := by
  obtain ⟨r, rfl, h1, h2, h3, h4⟩ := h.ow
  intro b hb; cases hb; exact h2
theorem OwM.same (h : OwM M z e m k es v) (s : Same m m' q) (ap : Ap (mapOf v) q) : OwM M z e m' k es v := by
  obtain ⟨r, rfl, h1, h2, h3, h4⟩ := h.ow
  exact ⟨r, rfl, by rw [s.blk r h2 (ap r rfl)]; exact h1, Nat.lt_of_lt_of_le h2 s.next, h3, h4⟩
theorem OwM.zle (h : OwM M z e m k es v) (hz : Zle z z') (hb : ∀ b, mapOf v = some b → z' b = z b) : OwM M z' e m k es v := by
  obtain ⟨r, rfl, h1, h2, h3, h4⟩ := h.ow
  exact ⟨r, rfl, h1, h2, by rw [hb r rfl]; exact h3, h4⟩
theorem OwM.call (h : OwM M z e m k es v) (hx : Zx m.next z z') (s : Same m m' q) (ap : Ap (mapOf v) q) : OwM M z' e m' k es v :=
  (h.zle hx.le fun b hb => hx.low b (h.lt b hb)).same s ap
theorem OwM.hq (h : OwM M z e m k es v) : ∀ c, mapOf v = some c → z c = .dead ∧ (e.next ≤ c ∨ k = some c) := by
  obtain ⟨r, rfl, h1, h2, h3, h4⟩ := h.ow
  intro c hc; cases hc; exact ⟨h3, .inl h4⟩
theorem OwM.up {k' : Option Nat} {e' : Mem} (h : OwM M z e' m k' es v) (hn : e.next ≤ e'.next) : OwM M z e m k es v := by
  obtain ⟨r, rfl, h1, h2, h3, h4⟩ := h.ow
  exact ⟨r, rfl, h1, h2, h3, Nat.le_trans hn h4⟩
theorem OwM.fresh (h : OwM M z e m k es v) : ∀ b, mapOf v = some b → e.next ≤ b := by
  obtain ⟨r, rfl, h1, h2, h3, h4⟩ := h.ow
  intro b hb; cases hb; exact h4
theorem OwM.freeze (h : OwM M z e m k es v) (st : St z e m k) : ∃ z', Zx e.next z z' ∧ St z' e m k ∧ MpR M z' es v ∧ ∀ p, Ap p (mapOf v) → ∀ b, p = some b → z' b = z b := by
  obtain ⟨r, rfl, h1, h2, h3, h4⟩ := h.ow
  refine ⟨frz z m (some r), ⟨frz_le fun b hb => by cases hb; exact h3, fun b hb => ?_⟩, ⟨frz_fz st.fz (fun b hb => by cases hb; exact ⟨h2, by rw [h1]; rfl⟩), st.dead, st.dead0, st.next, st.kept⟩, .inr ⟨r, rfl, by simp [frz, h1]⟩, fun p hp b hb => ?_⟩
  · unfold frz
    rw [if_neg]
    intro hb'; cases hb'; omega
  · have := hp b hb
    unfold frz
    rw [if_neg (show ¬ some r = some b from this)]
theorem MpR.mono (h : MpR M z es v) (hz : Zle z z') : MpR M z' es v := by
  rcases h with h | ⟨r, rfl, h1⟩
  · exact .inl h
  · exact .inr ⟨r, rfl, by rw [hz r (by rw [h1]; exact True.intro)]; exact h1⟩
theorem MpR.nil : MpR M z ([] : List (α × β)) (.map none) := .inl ⟨rfl, rfl⟩
theorem MpR.stor (h : MpR M z es v) : storable v = true ∧ v.cells.toList = [v] := by
  rcases h with ⟨rfl, _⟩ | ⟨r, rfl, _⟩ <;> exact ⟨rfl, rfl⟩
theorem Ap.ownM {p : Option Nat} {n : Nat} (h : ∀ b, p = some b → b < n) (hv : ∀ b, mapOf v = some b → n ≤ b) : Ap p (mapOf v) := fun b hb hc => by
  have := h _ hb
  have := hv _ hc
  omega
theorem OwM.stor (h : OwM M z e m k es v) : storable v = true ∧ v.cells.toList = [v] := by
  obtain ⟨r, rfl, _⟩ := h.ow
  exact ⟨rfl, rfl⟩
theorem ents_ok {P : Program} {kt vt : TypeId} (K : KeyOk P kt M.kc) (V : ValOk P vt M.vc) (es : List (α × β)) : EntL (P.cellsOf kt) (P.cellsOf vt) (M.cells es) (M.ents es) := by
  refine ⟨rfl, fun p hp => ?_⟩
  obtain ⟨x, hx, rfl⟩ := List.mem_map.1 hp
  exact ⟨K.len _, V.len _⟩
theorem look_ok [DecidableEq α] {P : Program} {kt vt : TypeId} (K : KeyOk P kt M.kc) (a : α) (z0 : β) : ∀ es : List (α × β), Look (tyAgg P kt) (tyAgg P vt) (cellV (tyAgg P kt) (M.kc a)) (cellV (tyAgg P vt) (M.vc z0)) (M.ents es) (cellV (tyAgg P vt) (M.vc ((mpGet es a).getD z0))) (mpGet es a).isSome
  | [] => .miss
  | p :: es => by
    simp only [mpGet]
    by_cases h : p.1 = a
    · rw [if_pos h]
      exact .hit (M.kc p.1, M.vc p.2) (M.ents es) (by rw [h])
    · rw [if_neg h]
      exact .next (M.kc p.1, M.vc p.2) (M.ents es) _ _ (fun hh => h (K.inj _ _ hh)) (look_ok K a z0 es)
theorem upd_ok [DecidableEq α] {P : Program} {kt : TypeId} (K : KeyOk P kt M.kc) (a : α) (b : β) : ∀ es : List (α × β), Upd (tyAgg P kt) (M.kc a) (M.vc b) (M.ents es) (M.ents (mpSet es a b))
  | [] => .miss
  | p :: es => by
    simp only [mpSet]
    by_cases h : p.1 = a
    · rw [if_pos h]
      exact .hit (M.kc p.1, M.vc p.2) (M.ents es) (by rw [h])
    · rw [if_neg h]
      exact .next (M.kc p.1, M.vc p.2) (M.ents es) _ (fun hh => h (K.inj _ _ hh)) (upd_ok K a b es)
theorem ents_good {P : Program} {kt : TypeId} (es : List (α × β)) : ∀ p ∈ M.ents es, ∃ a, cellV (tyAgg P kt) p.1 = cellV (tyAgg P kt) (M.kc a) := by
  intro p hp
  obtain ⟨x, hx, rfl⟩ := List.mem_map.1 hp
  exact ⟨x.1, rfl⟩
theorem cellV_flat1 {P : Program} {vt : TypeId} {vc : β → List Value} (V : ValOk P vt vc) (b : β) : flat1 (cellV (tyAgg P vt) (vc b)) = true := by
  have h1 := V.flat b
  have h2 := V.len b
  cases ha : tyAgg P vt with
  | true => simpa [cellV, flat1] using h1
  | false =>
    rw [V.one ha] at h2
    match hv : vc b, h2 with
    | [c], _ =>
      rw [hv] at h1
      simp at h1
      simp only [cellV, List.headD_cons]
      cases c <;> first | exact h1 | simp [flat0] at h1
variable {P : Program} {ρ : Operand → Value} {o : Oper} {D : Tag → Value → Mem → Prop} {x ix : Operand} {xt kt vt : TypeId} {i : TypeInfo} {a : α} {z0 : β} {w0 wk : Value} {ok : Bool}
theorem gLookM [DecidableEq α] {r : Nat} (h : o.op = .lookup xt x ix ok) (hxt : P.underlying xt = some (.map kt vt)) (hu : P.underlying M.tid = some (.map kt vt)) (K : KeyOk P kt M.kc) (V : ValOk P vt M.vc) (hi : P.info? vt = some i) (hz : i.zero = some (cellV (tyAgg P vt) (M.vc z0)))
    (hx : ρ x = .map (some r)) (hm : m.blk r = .map (M.cells es) M.tid) (hix : ρ ix = cellV (tyAgg P kt) (M.kc a)) :
    ReadR P ρ o m (if ok then .tuple #[cellV (tyAgg P vt) (M.vc ((mpGet es a).getD z0)), .bool (mpGet es a).isSome] else cellV (tyAgg P vt) (M.vc ((mpGet es a).getD z0))) :=
  .lookup xt x ix ok M.tid kt vt r _ _ i _ _ _ _ h hxt hu (.inl ⟨hx, hm, ents_ok K V es⟩) K.pos V.one K.keyed (by rw [hix]; exact K.flatV a) ⟨a, hix⟩ (ents_good es) hi hz (cellV_flat1 V z0) (by rw [hix]; exact look_ok K a z0 es)
theorem gLookO [DecidableEq α] (h : o.op = .lookup xt x ix ok) (hxt : P.underlying xt = some (.map kt vt)) (hu : P.underlying M.tid = some (.map kt vt)) (K : KeyOk P kt M.kc) (V : ValOk P vt M.vc) (hi : P.info? vt = some i) (hz : i.zero = some (cellV (tyAgg P vt) (M.vc z0)))
    (hx : ρ x = v) (ho : OwM M z e m k es v) (hix : ρ ix = wk) (hwk : wk = cellV (tyAgg P kt) (M.kc a)) {y : Option β} (hy : mpGet es a = y)
    (hw : (if ok then .tuple #[cellV (tyAgg P vt) (M.vc (y.getD z0)), .bool y.isSome] else cellV (tyAgg P vt) (M.vc (y.getD z0))) = w0) : ReadR P ρ o m w0 := by
  obtain ⟨r, rfl, h1, _⟩ := ho.ow
  subst hw hy
  exact gLookM h hxt hu K V hi hz hx h1 (hix.trans hwk)
theorem kLookO [DecidableEq α] (h : o.op = .lookup xt x ix ok) (hxt : P.underlying xt = some (.map kt vt)) (hu : P.underlying M.tid = some (.map kt vt)) (K : KeyOk P kt M.kc) (V : ValOk P vt M.vc) (hi : P.info? vt = some i) (hz : i.zero = some (cellV (tyAgg P vt) (M.vc z0)))
    (hx : ρ x = v) (ho : OwM M z e m k es v) (hix : ρ ix = wk) (hwk : wk = cellV (tyAgg P kt) (M.kc a)) {y : Option β} (hy : mpGet es a = y)
    (hw : (if ok then .tuple #[cellV (tyAgg P vt) (M.vc (y.getD z0)), .bool y.isSome] else cellV (tyAgg P vt) (M.vc (y.getD z0))) = w0) (hk : D (.read fun m => ReadR P ρ o m w0) w0 m) : StepX P ρ o m D :=
  StepX.read (gLookO h hxt hu K V hi hz hx ho hix hwk hy hw) hk
theorem gLookR [DecidableEq α] (h : o.op = .lookup xt x ix ok) (hxt : P.underlying xt = some (.map kt vt)) (hu : P.underlying M.tid = some (.map kt vt)) (K : KeyOk P kt M.kc) (V : ValOk P vt M.vc) (hi : P.info? vt = some i) (hz : i.zero = some (cellV (tyAgg P vt) (M.vc z0)))
    (hx : ρ x = v) (ho : MpR M z es v) (fz : Fz z m) (hix : ρ ix = wk) (hwk : wk = cellV (tyAgg P kt) (M.kc a)) {y : Option β} (hy : mpGet es a = y)
    (hw : (if ok then .tuple #[cellV (tyAgg P vt) (M.vc (y.getD z0)), .bool y.isSome] else cellV (tyAgg P vt) (M.vc (y.getD z0))) = w0) : ReadR P ρ o m w0 := by
  subst hw hy
  rcases ho with ⟨rfl, rfl⟩ | ⟨r, rfl, h1⟩
  · exact .lookup xt x ix ok M.tid kt vt 0 [] [] i _ _ _ _ h hxt hu (.inr ⟨hx, rfl⟩) K.pos V.one K.keyed (by rw [hix, hwk]; exact K.flatV a) ⟨a, hix.trans hwk⟩ (fun p hp => by simp at hp) hi hz (cellV_flat1 V z0) .miss
  · exact gLookM h hxt hu K V hi hz hx (by rw [(fz.fzn (show (_ : Blk).fzn by rw [h1]; exact True.intro)).1]; exact h1) (hix.trans hwk)
theorem kLookR [DecidableEq α] (h : o.op = .lookup xt x ix ok) (hxt : P.underlying xt = some (.map kt vt)) (hu : P.underlying M.tid = some (.map kt vt)) (K : KeyOk P kt M.kc) (V : ValOk P vt M.vc) (hi : P.info? vt = some i) (hz : i.zero = some (cellV (tyAgg P vt) (M.vc z0)))
    (hx : ρ x = v) (ho : MpR M z es v) (st : St z e m k) (hix : ρ ix = wk) (hwk : wk = cellV (tyAgg P kt) (M.kc a)) {y : Option β} (hy : mpGet es a = y)
    (hw : (if ok then .tuple #[cellV (tyAgg P vt) (M.vc (y.getD z0)), .bool y.isSome] else cellV (tyAgg P vt) (M.vc (y.getD z0))) = w0) (hk : D (.read fun m => ReadR P ρ o m w0) w0 m) : StepX P ρ o m D :=
  StepX.read (gLookR h hxt hu K V hi hz hx ho st.fz hix hwk hy hw) hk
theorem kMakeMap {t : TypeId} (M : MTy α β) (h : o.op = .makeMap t none) (ht : P.underlying t = some (.map kt vt)) (hM : M.tid = t) (st : St z e m k)
    (hk : ∀ v' m', St z e m' k → OwM M z e m' k [] v' → Same m m' none → (∀ p, (∀ b, p = some b → b < m.next) → Ap p (mapOf v')) → D .new v' m') : StepX P ρ o m D := by
  have hzd : z m.next = .dead := by
    cases hz : z m.next with
    | dead => rfl
    | ro rd => have := (st.fz m.next (by rw [hz]; simp)).2; omega
    | own L t => have := (st.fz m.next (by rw [hz]; simp)).2; omega
    | map L t => have := (st.fz m.next (by rw [hz]; simp)).2; omega
    | lock _ _ _ _ => have := (st.fz m.next (by rw [hz]; simp)).2; omega
  refine StepX.new (.makeMap t kt vt h ht) (hk _ _ (st.push _) ⟨m.next, rfl, by simp [Mem.push, MTy.cells, MTy.ents, hM], by simp [Mem.push], hzd, st.next⟩ (same_push st.dead) fun p hp b hb hb2 => ?_)
  cases hb2
  have := hp _ hb
  omega
theorem kMapSet [DecidableEq α] {kx vx : Operand} {b : β} {wv : Value} (h : o.op = .mapUpdate xt x kx vx ∨ o.op = .insert xt x kx vx) (hxt : P.underlying xt = some (.map kt vt)) (hu : P.underlying M.tid = some (.map kt vt)) (K : KeyOk P kt M.kc) (V : ValOk P vt M.vc)
    (hx : ρ x = v) (ho : OwM M z e m k es v) (hkx : ρ kx = wk) (hwk : wk = cellV (tyAgg P kt) (M.kc a)) (hvx : ρ vx = wv) (hwv : wv = cellV (tyAgg P vt) (M.vc b)) (st : St z e m k) {es' : List (α × β)} (hes : mpSet es a b = es')
    (hk : ∀ m', St z e m' k → OwM M z e m' k es' v → Same m m' (mapOf v) → D .eff undef m') : StepX P ρ o m D := by
  obtain ⟨r, rfl, h1, h2, h3, h4⟩ := ho.ow
  subst hes
  have hs' := same_put (x := .map (M.cells (mpSet es a b)) M.tid) st.dead h2
  have hfl := cellV_flat1 V b
  have hwv' := hvx.trans hwv
  have hst : storable (ρ vx) = true := by
    rw [hwv']
    cases hc : cellV (tyAgg P vt) (M.vc b) <;> first | rfl | (rw [hc] at hfl; simp [flat1, flat0] at hfl)
  have hcells : ∀ c ∈ M.vc b, c ∈ (ρ vx).cells.toList := by
    intro c hc
    rw [hwv']
    cases ha : tyAgg P vt with
    | true => simpa [cellV, Value.cells] using hc
    | false =>
      have h2 := V.len b
      rw [V.one ha] at h2
      match hv : M.vc b, h2 with
      | [d], _ =>
        rw [hv] at hc
        simp at hc; subst hc
        simp only [cellV, List.headD_cons]
        have hf := V.flat b
        rw [hv] at hf
        simp at hf
        cases c <;> first | (simp [flat0] at hf; done) | simp [Value.cells]
  refine StepX.eff (n := 0) (.mapUpdate xt x kx vx M.tid kt vt r _ (M.kc a) (M.vc b) _ (M.ents (mpSet es a b)) _ h hxt hu hx h1 (ents_ok K V es) K.pos K.keyed (hkx.trans hwk) (K.len a) (K.flat a) (by rw [hkx, hwk]; exact K.flatV a) ⟨a, hkx.trans hwk⟩ (ents_good es) hst hwv' (V.len b) hcells (upd_ok K a b es)) (hk _ (st.same hs' ho.hq) ⟨r, rfl, by simp [Mem.put, MTy.cells], h2, h3, h4⟩ hs')
end
end Go.AM
end
section
set_option linter.unusedSimpArgs false
set_option linter.unusedVariables false
namespace Go.AM
section
variable {P : Program} {ρ : Operand → Value} {o : Oper} {x y : Operand} {t u : TypeId} {k yk : IntKind} {a : Int}
theorem pShlL {n : Nat} {p : Int} (h : o.op = .binOp .shl t x y u) (hx : ρ x = .int k a) (hy : ρ y = .int yk n) (hn : Nat.ble n k.bits = true) (hp : (2 : Int) ^ n = p) : PureR P ρ o (.int k (k.wrap (a * p))) := by
  have := pShift (P := P) h hx hy (by omega) (.inl rfl)
  rw [if_pos rfl, Int.toNat_natCast, Nat.min_eq_left (Nat.le_of_ble_eq_true hn), hp] at this
  exact this
theorem pShrL {n : Nat} {p : Int} (h : o.op = .binOp .shr t x y u) (hx : ρ x = .int k a) (hy : ρ y = .int yk n) (hn : Nat.ble n k.bits = true) (hp : (2 : Int) ^ n = p) : PureR P ρ o (.int k (a.fdiv p)) := by
  have := pShift (P := P) h hx hy (by omega) (.inr rfl)
  rw [if_neg (by simp), Int.toNat_natCast, Nat.min_eq_left (Nat.le_of_ble_eq_true hn), hp] at this
  exact this
noncomputable instance valueDec : DecidableEq Value := fun _ _ => Classical.propDecidable _
def Scal (P : Program) (t : TypeId) (x y : Value) : Prop :=
  (∃ k k' a b, P.underlying t = some (.int k') ∧ x = .int k a ∧ y = .int k b) ∨ (∃ a b, P.underlying t = some .bool ∧ x = .bool a ∧ y = .bool b) ∨ (∃ a b, P.underlying t = some .string ∧ x = str a ∧ y = str b)
def ScalF (P : Program) : List Field → Nat → List Value → List Value → Prop
  | [], _, [], [] => True
  | f :: fs, i, x :: xs, y :: ys => f.offset = i ∧ f.name ≠ "_" ∧ Scal P f.type x y ∧ ScalF P fs (i + 1) xs ys
  | _, _, _, _ => False
theorem run_scal {t : TypeId} {x y : Value} (h : Scal P t x y) (d : Nat) (w : World) : (Op.equalIn (d + 1) t x y).run P w = .ok (decide (x = y)) w := by
  rcases h with ⟨k, k', a, b, h, rfl, rfl⟩ | ⟨a, b, h, rfl, rfl⟩ | ⟨a, b, h, rfl, rfl⟩
  · rw [run_equalIn_int w d t k k' a b h]
    congr 1
    rw [Bool.eq_iff_iff]; simp
  · rw [run_equalIn_bool' w d t a b h]
    congr 1
    rw [Bool.eq_iff_iff]; simp
  · rw [str, str, run_equalIn_string w d t _ _ h]
    congr 1
    rw [Bool.eq_iff_iff]
    simp [ByteArray.toList_eq]
theorem scal_noAgg {t : TypeId} {x y : Value} (h : Scal P t x y) : tyAgg P t = false := by
  rcases h with ⟨k, k', a, b, h, _⟩ | ⟨a, b, h, _⟩ | ⟨a, b, h, _⟩ <;> simp [tyAgg, h, aggT]
theorem run_part {t : TypeId} {cs : Array Value} {i : Nat} {v : Value} (ha : tyAgg P t = false) {d : TypeDesc} (hd : P.underlying t = some d) (hv : cs[i]? = some v) (w : World) : (part t cs i).run P w = .ok v w := by
  have : aggT d = false := by simpa [tyAgg, hd] using ha
  simp [part, run_ia hd, this, hv]
theorem scal_und {t : TypeId} {x y : Value} (h : Scal P t x y) : ∃ d, P.underlying t = some d := by
  rcases h with ⟨k, k', a, b, h, _⟩ | ⟨a, b, h, _⟩ | ⟨a, b, h, _⟩ <;> exact ⟨_, h⟩
theorem run_fields {pre pre' : List Value} (d : Nat) (w : World) : ∀ {fs : List Field} {i : Nat} {xs ys : List Value}, ScalF P fs i xs ys → pre.length = i → pre'.length = i → (Op.eqFields (d + 1) (pre ++ xs).toArray (pre' ++ ys).toArray fs).run P w = .ok (decide (xs = ys)) w
  | [], i, [], [], _, _, _ => by simp [Op.eqFields]
  | f :: fs, i, x :: xs, y :: ys, ⟨h1, h2, h3, h4⟩, hp, hp' => by
    obtain ⟨dd, hd⟩ := scal_und h3
    have ha := scal_noAgg h3
    have g1 := run_part (P := P) (cs := (pre ++ x :: xs).toArray) (i := f.offset) (v := x) ha hd (by rw [h1, ← hp]; simp) w
    have g2 := run_part (P := P) (cs := (pre' ++ y :: ys).toArray) (i := f.offset) (v := y) ha hd (by rw [h1, ← hp']; simp) w
    have ih := run_fields (pre := pre ++ [x]) (pre' := pre' ++ [y]) d w h4 (by simp [hp]) (by simp [hp'])
    simp only [List.append_assoc, List.singleton_append] at ih
    simp only [Op.eqFields]
    rw [if_pos h2]
    simp only [Sem.run_bind, g1, g2, Result.andThen_ok, run_scal h3 d w]
    by_cases hxy : x = y
    · simp only [hxy, decide_true, Bool.not_true, Bool.false_eq_true, if_false]
      rw [← hxy] at ih ⊢
      rw [hxy] at ih ⊢
      rw [ih]
      simp
    · simp [hxy]
  | [], _, _ :: _, _, h, _, _ => h.elim
  | [], _, [], _ :: _, h, _, _ => h.elim
  | _ :: _, _, [], _, h, _, _ => h.elim
  | _ :: _, _, _ :: _, [], h, _, _ => h.elim
theorem run_eqA {fs : Array Field} {xs ys : List Value} (ht : P.underlying t = some (.struct fs)) (hp : P.stoodInHeld t = false) (h : ScalF P fs.toList 0 xs ys) (w : World) : (Op.equalIn 10000 t (.agg xs.toArray) (.agg ys.toArray)).run P w = .ok (decide (xs = ys)) w := by
  have hf : P.fieldsOf t = fs := by simp [Program.fieldsOf, ht]
  rw [show (10000 : Nat) = 9998 + 1 + 1 from rfl, run_equalIn_struct w _ t _ _ (by rw [hf]; exact ht) hp, hf]
  have := run_fields (P := P) (pre := []) (pre' := []) 9998 w h rfl rfl
  simpa using this
theorem ScalF.flat : ∀ {fs : List Field} {i : Nat} {xs ys : List Value}, ScalF P fs i xs ys → xs.all flat0 = true ∧ ys.all flat0 = true
  | [], i, [], [], _ => ⟨rfl, rfl⟩
  | f :: fs, i, x :: xs, y :: ys, ⟨_, _, h3, h4⟩ => by
    obtain ⟨g1, g2⟩ := ScalF.flat h4
    have : flat0 x = true ∧ flat0 y = true := by rcases h3 with ⟨k, k', a, b, h, rfl, rfl⟩ | ⟨a, b, h, rfl, rfl⟩ | ⟨a, b, h, rfl, rfl⟩ <;> exact ⟨rfl, rfl⟩
    simp [this.1, this.2, g1, g2]
  | [], _, _ :: _, _, h => h.elim
  | [], _, [], _ :: _, h => h.elim
  | _ :: _, _, [], _, h => h.elim
  | _ :: _, _, _ :: _, [], h => h.elim
theorem pEqA {fs : Array Field} {xs ys : List Value} {r : Bool} (neq : Bool) (h : o.op = .binOp (if neq then .neq else .eql) t x y u) (ht : P.underlying t = some (.struct fs)) (hp : P.stoodInHeld t = false) (hg : P.eqGuardType P.depth t = false) (hs : ScalF P fs.toList 0 xs ys)
    (hx : ρ x = .agg xs.toArray) (hy : ρ y = .agg ys.toArray) (hr : r = true ↔ xs = ys) : PureR P ρ o (.bool (if neq then !r else r)) := by
  have hfl := hs.flat
  refine flat2 (x := x) (y := y) (by rw [h]; rfl) (by rw [h]; intros; simp) (by rw [hx]; simpa [flat, flat1] using hfl.1) (by rw [hy]; simpa [flat, flat1] using hfl.2) rfl fun w => ?_
  have he := run_eqA ht hp hs w
  have hrd : decide (xs = ys) = r := by
    by_cases hxy : xs = ys
    · simp [hxy, hr.2 hxy]
    · have : r = false := by
        cases r with
        | false => rfl
        | true => exact absurd (hr.1 rfl) hxy
      simp [hxy, this]
  rw [hrd] at he
  cases neq with
  | false => simp [execOp, h, hx, hy, run_eqGuard_agg w _ _ _ _ _ _ hg, run_eql_struct, he]
  | true => simp [execOp, h, hx, hy, run_eqGuard_agg w _ _ _ _ _ _ hg, run_neq_struct, he]
end
section
variable {α : Type} {T : Ty α} {z : Nat → Blk} {e m : Mem} {k : Option Nat} {xs : List α} {v : Value} {t : TypeId}
variable {P : Program} {ρ : Operand → Value} {o : Oper} {x : Operand} {i : TypeInfo} {D : Tag → Value → Mem → Prop}
theorem kCutO {lo hi : Option Operand} {b : Int} {r : List α} (h : o.op = .slice t x lo hi none) (ht : P.underlying t = some (.slice T.tid)) (hi' : P.info? T.tid = some i) (hsz : i.size = T.sz) (hx : ρ x = v)
    (hlo : lowI ρ lo 0) (hhi : highI ρ hi xs.length b) (hs : OwF T z e m k xs v) (hr : cutI xs 0 b = some r) (hk : ∀ v' I, OwF T z e m k r v' → blkOf v' = blkOf v → D (.read I) v' m) : StepX P ρ o m D := by
  obtain ⟨h0, h1, h2, rfl⟩ := cutI_some hr
  obtain ⟨b', rfl⟩ := Int.eq_ofNat_of_zero_le h1
  have h2' : b' ≤ xs.length := by omega
  simp only [Int.toNat_natCast, Int.toNat_zero, List.drop_zero] at hk
  have hlo' : lowIs ρ lo 0 := lowI_is (n := 0) hlo
  have hhi' := highI_is hhi
  have hlen : (xs.take b').length = b' := by simp; omega
  obtain ⟨how, hfr⟩ := hs
  rcases how with ⟨rfl, rfl⟩ | ⟨bl, f0, L, c, rfl, g1, g2, g3, g4, g5, g6⟩
  · have hb0 : b' = 0 := by simpa using h2'
    subst hb0
    refine StepX.pureR (I := fun _ => True) (.sliceNil t x lo hi T.tid i h ht hi' hx hlo' hhi') (hk _ _ ⟨.inl ⟨rfl, by simp⟩, hfr⟩ rfl)
  · have hel : ∀ (k : Nat) (w : α), (xs.take b')[k]? = some w → ∃ cs, T.rd z w cs ∧ cellsIn L (f0 + k * T.sz) cs := by
      intro k w hk
      rw [List.getElem?_take] at hk
      split at hk
      · exact g6 k w hk
      · cases hk
    have hle : f0 + b' * T.sz ≤ L.length := Nat.le_trans (Nat.add_le_add_left (Nat.mul_le_mul_right _ h2') _) g4
    rcases g5 with rfl | ⟨hc, hcl, hcL⟩
    · refine StepX.read (.slice t x lo hi T.tid i L bl f0 xs.length 0 b' h ht hi' hx g1 hlo' hhi' (Nat.zero_le _) h2' (by rw [hsz]; exact g4)) (hk _ _ ⟨.inr ⟨bl, f0, L, BIG, ?_, g1, g2, g3, by rw [hlen]; exact hle, .inl rfl, hel⟩, fun b hb => ?_⟩ rfl)
      · simp [hlen]
      · exact hfr b hb
    · refine StepX.pureR (I := fun _ => True) (.slice t x lo hi T.tid i bl f0 xs.length c 0 b' h ht hi' hx (by simp only [BIG] at hc ⊢; omega) hlo' hhi' (Nat.zero_le _) (by omega) (fun _ => trivial)) (hk _ _ ⟨.inr ⟨bl, f0, L, c, ?_, g1, g2, g3, by rw [hlen]; exact hle, .inr ⟨hc, by rw [hlen]; omega, hcL⟩, hel⟩, fun b hb => ?_⟩ rfl)
      · simp [hlen]
      · exact hfr b hb
end
theorem run_checkA {P : Program} {t : TypeId} {fs : Array Field} {xs : List Value} (ht : P.underlying t = some (.struct fs)) (h : ScalF P fs.toList 0 xs xs) (em : Bool) (w : World) : (Instr.checkKey em 10000 t (.agg xs.toArray)).run P w = .ok () w := by
  have key : ∀ {fs : List Field} {i : Nat} {ys pre : List Value}, ScalF P fs i ys ys → pre.length = i → ∀ w,
      (forIn fs PUnit.unit fun f _ => (do
        if f.name ≠ "_" then Instr.checkKey em 9999 f.type (← part f.type (pre ++ ys).toArray f.offset)
        pure (ForInStep.yield PUnit.unit) : Sem (ForInStep PUnit))).run P w = .ok PUnit.unit w := by
    intro fs
    induction fs with
    | nil => intro i ys pre h hp w; simp
    | cons f fs ih =>
      intro i ys pre h hp w
      cases ys with
      | nil => exact h.elim
      | cons y ys =>
        obtain ⟨h1, h2, h3, h4⟩ := h
        obtain ⟨dd, hd⟩ := scal_und h3
        have g1 := run_part (P := P) (cs := (pre ++ y :: ys).toArray) (i := f.offset) (v := y) (scal_noAgg h3) hd (by rw [h1, ← hp]; simp) w
        have g2 : (Instr.checkKey em 9999 f.type y).run P w = .ok () w := by
          have hq : ∀ n : Nat, (Instr.checkKey em (n + 1) f.type y).run P w = .ok () w := by
            intro n
            rcases h3 with ⟨k, k', a, b, h, rfl, _⟩ | ⟨a, b, h, rfl, _⟩ | ⟨a, b, h, rfl, _⟩ <;> simp [Instr.checkKey, run_u h, str]
          exact hq 9998
        have ih := ih (pre := pre ++ [y]) h4 (by simp [hp]) w
        simp only [List.append_assoc, List.singleton_append] at ih
        simp only [List.forIn_cons, if_pos h2, Sem.run_bind, g1, Result.andThen_ok, g2, Sem.run_pure]
        exact ih
  have := key (pre := []) h rfl w
  simp only [List.nil_append] at this
  have hq : ∀ n : Nat, n = 9999 → (Instr.checkKey em (n + 1) t (.agg xs.toArray)).run P w = .ok () w := by
    rintro n rfl
    rw [Instr.checkKey]
    simp only [Sem.run_bind, run_u ht, Result.andThen_ok, ← Array.forIn_toList]
    erw [this]
    rfl
  exact hq 9999 rfl
theorem flat0_bits {v : Value} (n : Nat) (h : (∃ k a, v = .int k a) ∨ (∃ a, v = .bool a) ∨ ∃ a, v = str a) : Instr.sameBits n v v = true := by
  rcases h with ⟨k, a, rfl⟩ | ⟨a, rfl⟩ | ⟨a, rfl⟩
  · cases n <;> simp [Instr.sameBits]
  · cases n <;> simp [Instr.sameBits]
  · cases n <;> simp [Instr.sameBits, str, MapKept.bytes_beq]
theorem ScalF.mem {P : Program} : ∀ {fs : List Field} {i : Nat} {xs ys : List Value}, ScalF P fs i xs ys → ∀ v ∈ xs, (∃ k a, v = .int k a) ∨ (∃ a, v = .bool a) ∨ ∃ a, v = str a
  | [], i, [], [], _, v, hv => by simp at hv
  | f :: fs, i, x :: xs, y :: ys, ⟨_, _, h3, h4⟩, v, hv => by
    rcases List.mem_cons.1 hv with rfl | hv
    · rcases h3 with ⟨k, k', a, b, h, rfl, rfl⟩ | ⟨a, b, h, rfl, rfl⟩ | ⟨a, b, h, rfl, rfl⟩
      · exact .inl ⟨_, _, rfl⟩
      · exact .inr (.inl ⟨_, rfl⟩)
      · exact .inr (.inr ⟨_, rfl⟩)
    · exact ScalF.mem h4 v hv
  | [], _, _ :: _, _, h, _, _ => h.elim
  | [], _, [], _ :: _, h, _, _ => h.elim
  | _ :: _, _, [], _, h, _, _ => h.elim
  | _ :: _, _, _ :: _, [], h, _, _ => h.elim
theorem keyStruct {P : Program} {kt : TypeId} {fs : Array Field} {i : TypeInfo} {α : Type} {kc : α → List Value} (ht : P.underlying kt = some (.struct fs)) (hi : P.info? kt = some i) (hp : P.stoodInHeld kt = false) (hpos : (i.size == 0) = false) (hlen : ∀ a, (kc a).length = i.size)
    (hs : ∀ a b, ScalF P fs.toList 0 (kc a) (kc b)) (hinj : ∀ a b, kc a = kc b → a = b) : KeyOk P kt kc where
  len := fun a => by rw [hlen]; simp [Program.cellsOf, hi]
  pos := by
    have : i.size ≠ 0 := by intro h; rw [h] at hpos; cases hpos
    simp [Program.cellsOf, hi]; omega
  flat := fun a => (hs a a).flat.1
  flatV := fun a => by
    have := (hs a a).flat.1
    simpa [tyAgg, ht, aggT, cellV, AM.flat, flat1] using this
  inj := fun a b hab => by
    simp only [tyAgg, ht, aggT, cellV] at hab
    injection hab with hab
    exact hinj a b (by simpa using hab)
  keyed := by
    have hagg : ∀ a, cellV (tyAgg P kt) (kc a) = .agg (kc a).toArray := fun a => by simp [tyAgg, ht, aggT, cellV]
    refine ⟨?_, ?_, ?_⟩
    · rintro em v w ⟨a, rfl⟩
      rw [hagg]
      exact run_checkA ht (hs a a) em w
    · rintro v es w ⟨a, rfl⟩ hes
      rw [hagg] at *
      have now : Instr.findNow (.struct fs) (.agg (kc a).toArray) es 0 = (match es with | [] => some none | _ :: _ => none) := by
        cases es with
        | nil => rfl
        | cons e es => simp [Instr.findNow, Instr.sameNow]
      have asking : ∀ (es : List MapEntry) (n : Nat), (∀ x ∈ es, ∃ b, x.key = cellV (tyAgg P kt) (kc b)) → (Instr.findAsking kt (.agg (kc a).toArray) es n).run P w = .ok (findV (.agg (kc a).toArray) es n) w := by
        intro es
        induction es with
        | nil => intro n _; simp [Instr.findAsking, findV]
        | cons e es ih =>
          intro n hes
          obtain ⟨b, hb⟩ := hes e (by simp)
          have he := run_eqA ht hp (hs a b) w
          have he' : (Op.equal kt (.agg (kc a).toArray) e.key).run P w = .ok (decide (kc a = kc b)) w := by
            rw [hb, hagg]; exact he
          have ih := ih (n + 1) fun x hx => hes x (by simp [hx])
          simp only [Instr.findAsking, Sem.run_bind, he', Result.andThen_ok]
          by_cases hab : kc a = kc b
          · have : e.key = .agg (kc a).toArray := by rw [hb, hagg, hab]
            simp [hab, findV, this]
          · have : ¬ e.key = .agg (kc a).toArray := by
              rw [hb, hagg]
              intro h
              injection h with h
              exact hab (by simpa using h.symm)
            simp [hab, findV, this, ih]
      simp only [Instr.findKey, Sem.run_bind, run_u ht, Result.andThen_ok, now]
      cases es with
      | nil => simp [findV]
      | cons e es => exact asking (e :: es) 0 hes
    · rintro v w ⟨a, rfl⟩
      rw [hagg]
      have hb : Instr.sameBits 10000 (.agg (kc a).toArray) (.agg (kc a).toArray) = true := by
        have hm := (hs a a).mem
        show (Instr.sameBits (9999 + 1) _ _) = true
        simp only [Instr.sameBits, beq_self_eq_true, Bool.true_and, List.all_eq_true]
        rintro ⟨p, q⟩ hpq
        have : p = q ∧ p ∈ kc a := by
          have h1 := List.of_mem_zip hpq
          have : ∀ l : List Value, (p, q) ∈ l.zip l → p = q := by
            intro l
            induction l with
            | nil => intro h; simp at h
            | cons z l ih =>
              intro h
              simp at h
              rcases h with ⟨rfl, rfl⟩ | h
              · rfl
              · exact ih h
          exact ⟨this _ (by simpa using hpq), by simpa using h1.1⟩
        obtain ⟨rfl, h2⟩ := this
        exact flat0_bits _ (hm p h2)
      simp [Instr.keyThatStays, hb]
@[reducible] def vI (n : Int) : Value := .int .i64 n
@[reducible] def vB (b : Bool) : Value := .bool b
@[reducible] def vP (b : Nat) : Value := .pointer (some ⟨b, 0, none⟩)
section
variable {P : Program} {ops l : List Oper} {K : (Nat → Value) → Mem → Prop} {fr : Nat → Value} {m : Mem} {o : Oper} {v : Value}
theorem sx (hg : wanted ops fr o = true) (h : PureR P (ev fr) o v) (hk : SeqW P ops l K (set fr o.dst v) m) : SeqW P ops (o :: l) K fr m := SeqW.consX hg (StepX.pure h hk)
theorem kx {j d : Nat} {want bb : Bool} (hg : o.guard = some (j, want)) (hd : (ops[j]?).bind (·.dst) = some d) (hv : fr d = .bool bb) (hb : bb = !want) (h : SeqW P ops l K (set fr o.dst undef) m) : SeqW P ops (o :: l) K fr m := SeqW.skipG hg hd hv hb h
end
def appB {α : Type} (xs ys : List α) : Option (List α) := if xs.length + ys.length ≤ 140737488355328 then some (xs ++ ys) else none
structure OwK {α : Type} (T : Ty α) (z : Nat → Blk) (e m : Mem) (k : Option Nat) (xs : List α) (v : Value) : Prop where
  ow : Ow T z m xs v
  fresh : ∀ b, blkOf v = some b → e.next ≤ b ∨ k = some b
section
variable {α : Type} {T : Ty α} {z z' : Nat → Blk} {e m m' : Mem} {k q : Option Nat} {xs : List α} {v v0 : Value} {t : TypeId}
theorem OwK.same (h : OwK T z e m k xs v) (s : Same m m' q) (ap : Ap (blkOf v) q) : OwK T z e m' k xs v := ⟨h.ow.same s ap, h.fresh⟩
theorem OwK.lt (h : OwK T z e m k xs v) : ∀ b, blkOf v = some b → b < m.next := fun b hb => (h.ow.lt b hb).1
theorem OwK.hq (h : OwK T z e m k xs v) : ∀ c, blkOf v = some c → z c = .dead ∧ (e.next ≤ c ∨ k = some c) := fun c hc => ⟨(h.ow.lt c hc).2, h.fresh c hc⟩
theorem OwK.stor (h : OwK T z e m k xs v) : storable v = true ∧ v.cells.toList = [v] := by
  obtain ⟨a, c, rfl⟩ := h.ow.len
  exact ⟨rfl, rfl⟩
theorem St.zle {k : Option Nat} (h : St z' e m k) (hz : ∀ b, z b ≠ .dead → z' b = z b) : St z e m k := ⟨h.fz.le hz, h.dead, h.dead0, h.next, h.kept⟩
theorem OwF.K (h : OwF T z e m k xs v) : OwK T z e m k xs v := ⟨h.ow, fun b hb => .inl (h.fresh b hb)⟩
theorem Ow.K (h : Ow T z m xs v) : OwK T z m m (blkOf v) xs v := ⟨h, fun b hb => .inr hb⟩
theorem OwF.back {r : List α} (h0 : OwF T z e m k xs v0) (st : St z e m k) (hx : Zx m.next z z') (st' : St z' m m' (blkOf v0)) (h : OwK T z' m m' (blkOf v0) r v) :
    St z' e m' k ∧ OwF T z' e m' k r v ∧ Same m m' (blkOf v0) ∧ ∀ p, (∀ b, p = some b → b < m.next) → Ap p (blkOf v0) → Ap p (blkOf v) := by
  refine ⟨st.call hx st'.fz st'.toSame h0.hq, ⟨h.ow, fun b hb => ?_⟩, st'.toSame, fun p hp ha b hb hb' => ?_⟩
  · rcases h.fresh b hb with h1 | h1
    · exact Nat.le_trans st.next h1
    · exact h0.fresh b h1
  · rcases h.fresh b hb' with h1 | h1
    · have := hp b hb; omega
    · exact ha b hb h1
theorem OwF.unlend {k : Option Nat} {z2 : Nat → Blk} {r : List α} {w : Value} (hT : ∀ (z z' : Nat → Blk) (x : α) (cs : List Value), T.rd z x cs → T.rd z' x cs) (st : St z e m k) (hx : Zx m.next z2 z') (fz : Fz z' m') (sm : Same m m' none) (h : OwF T z' m m' none r w) :
    ∃ z'', Zx m.next z z'' ∧ Fz z'' m' ∧ OwF T z'' m m' none r w := by
  refine ⟨fun b => if b < m.next then z b else z' b, ⟨fun b hb => if_pos (st.fz b hb.ne).2, fun b hb => if_pos hb⟩, fun b hb => ?_, ⟨?_, h.fresh⟩⟩
  · by_cases hlt : b < m.next
    · simp only [if_pos hlt] at hb ⊢
      obtain ⟨h1, h2⟩ := st.fz b hb
      exact ⟨by rw [sm.blk b hlt (by simp)]; exact h1, Nat.lt_of_lt_of_le h2 sm.next⟩
    · simp only [if_neg hlt] at hb ⊢
      exact fz b hb
  · rcases h.ow with h0 | ⟨b, f0, L, c, rfl, h1, h2, h3, h4, h5, h6⟩
    · exact .inl h0
    · have hb := h.fresh b rfl
      exact .inr ⟨b, f0, L, c, rfl, h1, h2, by simp only [if_neg (show ¬ b < m.next by omega)]; exact h3, h4, h5, fun i x hi => by
        obtain ⟨cs, g1, g2⟩ := h6 i x hi
        exact ⟨cs, hT _ _ _ _ g1, g2⟩⟩
variable {P : Program} {ρ : Operand → Value} {o : Oper} {w : Value} {ys : List α} {x y : Operand} {u : TypeId} {i : TypeInfo} {K : Value → Mem → Prop} {D : Tag → Value → Mem → Prop}
theorem kAppendK (h : o.op = .call { callee := .builtin .append, args := #[x, y], argTypes := #[t, u] }) (ht : P.underlying t = some (.slice T.tid)) (hi : P.info? T.tid = some i) {zv : Value} (hzv : i.zero = some zv) (hzf : zv.cells.toList.all flat0 = true) (hzs : zv.cells.size = i.size)
    (hsz : i.size = T.sz) (hpos : (T.sz == 0) = false) (hby : Nat.ble i.bytes 32768 = true) (hu : (∃ e', P.underlying u = some (.slice e')) ∨ P.underlying u = some .string) (hx : ρ x = v) (hs : OwK T z e m k xs v) (hy : ρ y = w) (hsrc : Src T z m ys w)
    (st : St z e m k) {r : List α} (hr : appI xs ys = some r)
    (hk : ∀ v' m', St z e m' k → OwK T z e m' k r v' → Same m m' (blkOf v) → (∀ p, (∀ b, p = some b → b < m.next) → Ap p (blkOf v) → Ap p (blkOf v')) → D .eff v' m') : StepX P ρ o m D := by
  obtain ⟨v', m', h1, h2, h3, h4⟩ := eAppend (C := callR P 0) h ht hi hzv hzf hzs hsz (Nat.pos_of_ne_zero fun h0 => by rw [h0] at hpos; cases hpos) (Nat.le_of_ble_eq_true hby) hu hx hs.ow hy hsrc st.fz st.dead hr
  refine StepX.eff h1 (hk _ _ (st.same h3 hs.hq) ⟨h2, fun b hb => ?_⟩ h3 fun p hp ha b hb hb' => ?_)
  · rcases h4 b hb with h4 | h4
    · exact hs.fresh b h4
    · have := st.next; omega
  · rcases h4 b hb' with h4 | h4
    · exact ha b hb h4
    · have := hp b hb; omega
theorem kAppendB (h : o.op = .call { callee := .builtin .append, args := #[x, y], argTypes := #[t, u] }) (ht : P.underlying t = some (.slice T.tid)) (hi : P.info? T.tid = some i) {zv : Value} (hzv : i.zero = some zv) (hzf : zv.cells.toList.all flat0 = true) (hzs : zv.cells.size = i.size)
    (hsz : i.size = T.sz) (hpos : (T.sz == 0) = false) (hby : Nat.ble i.bytes 1 = true) (hu : (∃ e', P.underlying u = some (.slice e')) ∨ P.underlying u = some .string) (hx : ρ x = v) (hs : OwF T z e m k xs v) (hy : ρ y = w) (hsrc : Src T z m ys w)
    (st : St z e m k) {r : List α} (hr : appB xs ys = some r)
    (hk : ∀ v' m', St z e m' k → OwF T z e m' k r v' → Same m m' (blkOf v) → (∀ p, (∀ b, p = some b → b < m.next) → Ap p (blkOf v) → Ap p (blkOf v')) → D .eff v' m') : StepX P ρ o m D := by
  unfold appB at hr
  split at hr
  · rename_i hlim
    cases hr
    have hb : (xs.length + ys.length) * i.bytes ≤ (xs.length + ys.length) * 1 := Nat.mul_le_mul (Nat.le_refl _) (Nat.le_of_ble_eq_true hby)
    obtain ⟨v', m', h1, h2, h3, h4⟩ := eAppendG (C := callR P 0) h ht hi hzv hzf hzs hsz (Nat.pos_of_ne_zero fun h0 => by rw [h0] at hpos; cases hpos) (by omega) hlim hu hx hs.ow hy hsrc st.fz st.dead
    refine StepX.eff h1 (hk _ _ (st.same h3 hs.hq) ⟨h2, fun b hb => ?_⟩ h3 fun p hp ha b hb hb' => ?_)
    · rcases h4 b hb with h4 | h4
      · exact hs.fresh b h4
      · have := st.next; omega
    · rcases h4 b hb' with h4 | h4
      · exact ha b hb h4
      · have := hp b hb; omega
  · cases hr
end
end Go.AM
end
section
set_option linter.unusedVariables false
set_option linter.unusedSimpArgs false
namespace Go.AM
theorem mem0_dead (w : World) : ∀ b, (mem0 w).next ≤ b → (mem0 w).blk b = .dead := (mem0_wf w).dead
theorem mem0_fz (w : World) : Fz (mem0 w).blk (mem0 w) := fun b hb => ⟨by
  by_cases h : b < w.heap.size
  · simp [mem0, h, Blk.mem]
  · simp [mem0, h, Blk.mem], by
  by_cases h : b < (mem0 w).next
  · exact h
  · exact absurd (mem0_dead w b (by omega)) hb⟩
theorem mem0_live {w : World} {b : Nat} (h : b < w.heap.size) : ((mem0 w).blk b).fzn := by
  simp [mem0, h, Blk.fzn]
theorem ldz0 {w : World} {b o : Nat} {v : Value} (h : (mem0 w).load b o = some v) : ldz (mem0 w).blk b o = some v := by
  unfold Mem.load at h
  unfold ldz
  exact h
open Classical in
noncomputable def seen (w : World) (b : Nat) (c : Value) : Value := if VR0 (emb0 w) c c then c else (seen0 b c).getD c
theorem seen_self {w : World} {b : Nat} {c : Value} (h : VR0 (emb0 w) c c) : seen w b c = c := by simp [seen, h]
def okc (w : World) (c : Value) : Prop := VR0 (emb0 w) c c ∨ ∃ a, c = .slice (some a) 0 0
theorem okc_flat {w : World} {c : Value} (h : flat0 c = true) : okc w c := .inl (flat0_self h)
theorem seen_flat {w : World} {b : Nat} {c : Value} (h : flat0 c = true) : seen w b c = c := seen_self (flat0_self h)
theorem okc_seen {w : World} {b : Nat} {c : Value} (h : okc w c) (hb : b < w.heap.size) : VR0 (emb0 w) (seen w b c) c := by
  by_cases hv : VR0 (emb0 w) c c
  · rw [seen_self hv]; exact hv
  · rcases h with h | ⟨a, rfl⟩
    · exact absurd h hv
    · simp only [seen, hv, if_false, seen0, Option.getD_some]
      exact ⟨⟨b, 0, 0, 0⟩, rfl, by simp [emb0, hb], .inr (.inr (.inr ⟨rfl, rfl, a, rfl⟩))⟩
theorem okc_load {w : World} {b o : Nat} {c : Value} (h : okc w c) (hc : w.cell? ⟨b, o, none⟩ = some c) : (mem0 w).load b o = some (seen w b c) := by
  have hlt : b < w.heap.size := World.block_lt_of_cell? w ⟨b, o, none⟩ hc
  by_cases hv : VR0 (emb0 w) c c
  · rw [seen_self hv]; exact mem0_load hc hv
  · rcases h with h | ⟨a, rfl⟩
    · exact absurd h hv
    · simp [Mem.load, mem0, hlt, hc, hv, seen0, seen]
theorem cell_spot {w : World} {a : Addr} {v : Value} (h : w.cell? a = some v) : a.spot = none ∧ a.block < w.heap.size := by
  refine ⟨?_, World.block_lt_of_cell? w a h⟩
  simp only [World.cell?] at h
  split at h
  · split at h
    · cases h
    · rename_i hs; simpa using hs
  · cases h
structure Opn (P : Program) {α : Type} (T : Ty α) (G : α → Prop) : Prop where
  sz : P.cellsOf T.tid = T.sz
  pos : 0 < T.sz
  rd : ∀ {H : Type} {enc : TypeId × Value → H} {w : World} {fuel : Nat} {cs : List Value} {x : DataW H × List MemPlace}, DataW.trod enc P w 0 (fun _ => true) true fuel T.tid cs = some x →
    (∀ c ∈ cs, okc w c) ∧ ∀ b, (b < w.heap.size ∨ ∀ c ∈ cs, VR0 (emb0 w) c c) → ∃ a, T.rd (mem0 w).blk a (cs.map (seen w b)) ∧ G a
theorem Opn.conv {P : Program} {α : Type} {T T' : Ty α} {G : α → Prop} (h : Opn P T G) (ht : T'.tid = T.tid) (hs : T'.sz = T.sz) (hr : ∀ z x cs, T.rd z x cs → T'.rd z x cs) : Opn P T' G where
  sz := by rw [ht, hs]; exact h.sz
  pos := by rw [hs]; exact h.pos
  rd := fun e => by
    rw [ht] at e
    obtain ⟨h1, h2⟩ := h.rd e
    exact ⟨h1, fun b hb => by obtain ⟨x, hx, hg⟩ := h2 b hb; exact ⟨x, hr _ _ _ hx, hg⟩⟩
def gInt (k : IntKind) (n : Int) : Prop := k.min ≤ n ∧ n ≤ k.max
def gStr (s : List UInt8) : Prop := s.length ≤ maxLen
def gAny {α : Type} (_ : α) : Prop := True
def gSl {α : Type} (G : α → Prop) (xs : List α) : Prop := xs.length ≤ maxLen ∧ ∀ x ∈ xs, G x
theorem opn_int {P : Program} {t : TypeId} {k : IntKind} {i : TypeInfo} (ht : P.underlying t = some (.int k)) (hi : P.info? t = some i) (hs : i.size = 1) : Opn P (TInt t k) (gInt k) where
  sz := by simp [TInt, Ty.flat, Program.cellsOf, hi, hs]
  pos := by simp [TInt, Ty.flat]
  rd := fun h => by
    obtain ⟨n, rfl, _, hw⟩ := DataW.trod_int ht h
    exact ⟨fun c hc => by simp at hc; subst hc; exact okc_flat rfl, fun b _ => ⟨n, by simp [TInt, Ty.flat, seen_flat (w := _) (b := b) (c := .int k n) rfl], by simpa [Lit.wf, gInt] using hw⟩⟩
theorem opn_u8 {P : Program} {t : TypeId} {i : TypeInfo} (ht : P.underlying t = some (.int .u8)) (hi : P.info? t = some i) (hs : i.size = 1) : Opn P (TU8 t) gAny where
  sz := by simp [TU8, Ty.flat, Program.cellsOf, hi, hs]
  pos := by simp [TU8, Ty.flat]
  rd := fun h => by
    obtain ⟨n, rfl, _, hw⟩ := DataW.trod_int ht h
    refine ⟨fun c hc => by simp at hc; subst hc; exact okc_flat rfl, fun b _ => ⟨UInt8.ofNat n.toNat, ?_, trivial⟩⟩
    simp [Lit.wf, IntKind.min, IntKind.max, IntKind.signed, IntKind.bits] at hw
    have : ((UInt8.ofNat n.toNat).toNat : Int) = n := by simp; omega
    show [Value.int .u8 n].map (seen _ b) = [Value.int .u8 ((UInt8.ofNat n.toNat).toNat : Int)]
    rw [this]
    simp [seen_flat (w := _) (b := b) (c := .int .u8 n) rfl]
theorem opn_bool {P : Program} {t : TypeId} {i : TypeInfo} (ht : P.underlying t = some .bool) (hi : P.info? t = some i) (hs : i.size = 1) : Opn P (TBool t) gAny where
  sz := by simp [TBool, Ty.flat, Program.cellsOf, hi, hs]
  pos := by simp [TBool, Ty.flat]
  rd := fun h => by
    obtain ⟨n, rfl, _⟩ := DataW.trod_bool ht h
    exact ⟨fun c hc => by simp at hc; subst hc; exact okc_flat rfl, fun b _ => ⟨n, by simp [TBool, Ty.flat, seen_flat (w := _) (b := b) (c := .bool n) rfl], trivial⟩⟩
theorem opn_str {P : Program} {t : TypeId} {i : TypeInfo} (ht : P.underlying t = some .string) (hi : P.info? t = some i) (hs : i.size = 1) : Opn P (TStr t) gStr where
  sz := by simp [TStr, Ty.flat, Program.cellsOf, hi, hs]
  pos := by simp [TStr, Ty.flat]
  rd := fun h => by
    obtain ⟨n, rfl, _, hs⟩ := DataW.trod_string ht h
    exact ⟨fun c hc => by simp at hc; subst hc; exact okc_flat rfl, fun b _ => ⟨n.data.toList, by simp [TStr, Ty.flat, str, seen_flat (w := _) (b := b) (c := .string n) rfl], by simpa [gStr] using hs⟩⟩
theorem opn_slr {P : Program} {α : Type} {T : Ty α} {G : α → Prop} {t : TypeId} (hT : Opn P T G) (ht : P.underlying t = some (.slice T.tid)) {H : Type} {enc : TypeId × Value → H} {w : World} {fuel : Nat} {cs : List Value} {x : DataW H × List MemPlace}
    (h : DataW.trod enc P w 0 (fun _ => true) true fuel t cs = some x) : ∃ c, cs = [c] ∧ okc w c ∧ ∀ b, (b < w.heap.size ∨ VR0 (emb0 w) c c) → ∃ xs, SlR T (mem0 w).blk xs (seen w b c) ∧ gSl G xs := by
  rcases Deep.open_slice ht h with ⟨rfl, _⟩ | ⟨a, len, cap, m, n, D, Pl, rfl, _, hl, hm, hmm, _, hx⟩
  · exact ⟨_, rfl, okc_flat rfl, fun b _ => ⟨[], by rw [seen_flat rfl]; exact .nil, by simp [gSl]⟩⟩
  · simp only [if_true] at hmm
    subst hmm
    refine ⟨_, rfl, ?_⟩
    rcases Nat.eq_zero_or_pos m with h0 | hpos
    · subst h0
      have hl0 : len = 0 := by omega
      subst hl0
      refine ⟨.inr ⟨a, rfl⟩, fun b hb => ⟨[], ?_, by simp [gSl]⟩⟩
      by_cases hv : VR0 (emb0 w) (.slice (some a) 0 0) (.slice (some a) 0 0)
      · rw [seen_self hv]
        obtain ⟨e, h1, h2, _⟩ := hv
        obtain ⟨blk, off, spot⟩ := a
        simp only at h1 h2
        subst h1
        exact .inr ⟨blk, off, 0, rfl, mem0_live (emb0_lt h2).1, .inr ⟨by simp [BIG], Nat.le_refl _⟩, fun i x hi => by simp at hi⟩
      · have hb : b < w.heap.size := by
          rcases hb with hb | hb
          · exact hb
          · exact absurd hb hv
        simp only [seen, hv, if_false, seen0, Option.getD_some]
        exact .inr ⟨b, 0, 0, rfl, mem0_live hb, .inr ⟨by simp [BIG], Nat.le_refl _⟩, fun i x hi => by simp at hi⟩
    · have hs := hT.sz
      have hp := hT.pos
      obtain ⟨cs0, g1, _⟩ := hx 0 hpos
      obtain ⟨_, g2, g3⟩ := World.cells?_some g1
      rw [hs] at g2 g3
      have g4 := g3 0 hp
      obtain ⟨v0, hv0⟩ : ∃ v, cs0[0]? = some v := ⟨cs0[0]'(by omega), by simp [show 0 < cs0.length by omega]⟩
      rw [hv0] at g4
      simp only [Nat.zero_mul] at g4
      have hadd : (a.add 0).add 0 = a := by simp [Addr.add]
      rw [hadd] at g4
      obtain ⟨hsp, hblk⟩ := cell_spot g4
      obtain ⟨blk, off, spot⟩ := a
      simp only at hsp hblk
      subst hsp
      have hv : VR0 (emb0 w) (.slice (some ⟨blk, off, none⟩) len m) (.slice (some ⟨blk, off, none⟩) len m) :=
        ⟨⟨blk, 0, 0, 0⟩, rfl, by simp [emb0, hblk], .inl ⟨by simp only [maxLen] at hm; simp only [BIG]; omega, by simp⟩⟩
      refine ⟨.inl hv, fun b _ => ?_⟩
      rw [seen_self hv]
      have hel : ∀ i, i < len → ∃ y : α, G y ∧ ∃ ds, T.rd (mem0 w).blk y ds ∧ cellsAt (mem0 w).blk blk (off + i * T.sz) ds := by
        intro i hi
        obtain ⟨ci, k1, k2⟩ := hx i (by omega)
        obtain ⟨_, k3, k4⟩ := World.cells?_some k1
        rw [hs] at k3 k4
        obtain ⟨hok, hrd⟩ := hT.rd k2
        obtain ⟨y, hy, hG⟩ := hrd blk (.inl hblk)
        refine ⟨y, hG, _, hy, fun j u hj => ?_⟩
        rw [List.getElem?_map] at hj
        cases hc : ci[j]? with
        | none => rw [hc] at hj; cases hj
        | some c =>
          rw [hc] at hj
          simp at hj
          subst hj
          have hjl := (List.getElem?_eq_some_iff.1 hc).1
          have k5 := k4 j (by omega)
          rw [hc, add_none, add_none] at k5
          exact ldz0 (okc_load (hok c (List.mem_of_getElem? hc)) k5)
      have : ∃ xs : List α, xs.length = len ∧ (∀ y ∈ xs, G y) ∧ ∀ (i : Nat) (y : α), xs[i]? = some y → ∃ ds, T.rd (mem0 w).blk y ds ∧ cellsAt (mem0 w).blk blk (off + i * T.sz) ds := by
        clear hx hl hm hv g1 hpos
        revert hel
        generalize len = l
        induction l with
        | zero => intro _; exact ⟨[], rfl, fun y hy => by simp at hy, fun i y hi => by simp at hi⟩
        | succ l ih =>
          intro hel
          obtain ⟨xs, e1, e0, e2⟩ := ih fun i hi => hel i (by omega)
          obtain ⟨y, hG, hy⟩ := hel l (by omega)
          refine ⟨xs ++ [y], by simp [e1], fun u hu => by rcases List.mem_append.1 hu with hu | hu; exact e0 u hu; simp at hu; subst hu; exact hG, fun i u hi => ?_⟩
          by_cases hil : i < l
          · rw [List.getElem?_append_left (by omega)] at hi
            exact e2 i u hi
          · have hlt := (List.getElem?_eq_some_iff.1 hi).1
            simp at hlt
            have : i = l := by omega
            subst this
            rw [List.getElem?_append_right (by omega)] at hi
            simp [e1] at hi
            subst hi
            exact hy
      obtain ⟨xs, e1, e0, e2⟩ := this
      refine ⟨xs, .inr ⟨blk, off, m, by rw [e1], mem0_live hblk, .inr ⟨by simp only [maxLen] at hm; simp only [BIG]; omega, by rw [e1]; exact hl⟩, e2⟩, by omega, e0⟩
theorem opn_sl {P : Program} {α : Type} {T : Ty α} {G : α → Prop} {t : TypeId} {i : TypeInfo} (hT : Opn P T G) (ht : P.underlying t = some (.slice T.tid)) (hi : P.info? t = some i) (hs : i.size = 1) : Opn P (TSl t T) (gSl G) where
  sz := by simp [TSl, Program.cellsOf, hi, hs]
  pos := by simp [TSl]
  rd := fun h => by
    obtain ⟨c, rfl, h1, h2⟩ := opn_slr hT ht h
    refine ⟨fun d hd => by simp at hd; subst hd; exact h1, fun b hb => ?_⟩
    obtain ⟨xs, hx, hG⟩ := h2 b (hb.imp id fun h => h c (by simp))
    exact ⟨xs, ⟨_, rfl, hx⟩, hG⟩
theorem arg_slr {P : Program} {α : Type} {T : Ty α} {G : α → Prop} {t : TypeId} (hT : Opn P T G) (ht : P.underlying t = some (.slice T.tid)) {H : Type} {enc : TypeId × Value → H} {w : World} {base : Nat} {v : Value} {d : DataW H} {ps : List MemPlace}
    (hok : Value.okWide P w .any base t v) (h : DataW.Trod enc P w 0 (fun _ => true) true t v d ps) : VR (emb0 w) v v ∧ ∃ xs, SlR T (mem0 w).blk xs v ∧ gSl G xs := by
  obtain ⟨fuel, hf⟩ := h
  obtain ⟨c, hc, h1, h2⟩ := opn_slr hT ht hf
  have hv : VR0 (emb0 w) v v ∧ c = v := by
    simp only [Value.okWide, ht, Cell.okWide, Cell.ok] at hok
    cases v with
    | slice a l cp =>
      have hcv : c = .slice a l cp := by simpa [Value.cells] using hc.symm
      refine ⟨?_, hcv⟩
      cases a with
      | none => exact rfl
      | some a =>
        simp only at hok
        obtain ⟨hl, hm, hh⟩ := hok
        obtain ⟨_, hs, row, cells, hsh, _⟩ := hh
        have hlt : a.block < w.heap.size := by
          by_cases hb : a.block < w.heap.size
          · exact hb
          · simp [World.shape?, Array.getElem?_eq_none (Nat.le_of_not_lt hb)] at hsh
        obtain ⟨blk, off, spot⟩ := a
        simp only at hs hlt
        subst hs
        refine ⟨⟨blk, 0, 0, 0⟩, rfl, by simp [emb0, hlt], .inl ⟨?_, by simp⟩⟩
        simp only [IntKind.max, IntKind.signed, IntKind.bits] at hm
        simp only [BIG]
        simp at hm
        omega
    | _ => simp at hok
  obtain ⟨hv, rfl⟩ := hv
  refine ⟨VR.of0 hv, ?_⟩
  obtain ⟨xs, hx⟩ := h2 0 (.inr hv)
  rw [seen_self hv] at hx
  exact ⟨xs, hx⟩
theorem cell_vr {P : Program} {w : World} {base : Nat} {u : TypeId} {c : Value} (h : Cell.okWide P w .any base u c) (hc : okc w c) : VR0 (emb0 w) c c := by
  rcases hc with hc | ⟨a, rfl⟩
  · exact hc
  · cases hu : P.underlying u with
    | none => simp [Cell.okWide, Cell.ok, hu] at h
    | some d =>
      cases d <;> simp only [Cell.okWide, Cell.ok, hu] at h
      obtain ⟨_, _, _, hs, row, cells, hsh, _⟩ := h
      have hlt : a.block < w.heap.size := by
        by_cases hb : a.block < w.heap.size
        · exact hb
        · simp [World.shape?, Array.getElem?_eq_none (Nat.le_of_not_lt hb)] at hsh
      obtain ⟨blk, off, spot⟩ := a
      simp only at hs hlt
      subst hs
      exact ⟨⟨blk, 0, 0, 0⟩, rfl, by simp [emb0, hlt], .inl ⟨by simp [BIG], by simp⟩⟩
theorem arg_agg {P : Program} {α : Type} {T : Ty α} {G : α → Prop} {fs : Array Field} (hT : Opn P T G) (ht : P.underlying T.tid = some (.struct fs)) {H : Type} {enc : TypeId × Value → H} {w : World} {base : Nat} {v : Value} {d : DataW H} {ps : List MemPlace}
    (hok : Value.okWide P w .any base T.tid v) (h : DataW.Trod enc P w 0 (fun _ => true) true T.tid v d ps) : VR (emb0 w) v v ∧ ∃ x cs, v = .agg cs.toArray ∧ T.rd (mem0 w).blk x cs ∧ G x := by
  obtain ⟨fuel, hf⟩ := h
  simp only [Value.okWide, ht] at hok
  obtain ⟨cs, rfl, hsz, ts, hts, _, hcell⟩ := hok
  have hf' : DataW.trod enc P w 0 (fun _ => true) true fuel T.tid cs.toList = some (d, ps) := by simpa [Value.cells] using hf
  obtain ⟨h1, h2⟩ := hT.rd hf'
  have hall : ∀ c ∈ cs.toList, VR0 (emb0 w) c c := by
    intro c hc
    obtain ⟨i, hi⟩ := List.getElem?_of_mem hc
    obtain ⟨u, _, hu⟩ := hcell i c (by simpa using hi)
    exact cell_vr hu (h1 c hc)
  obtain ⟨x, hx, hG⟩ := h2 0 (.inr hall)
  have hmap : cs.toList.map (seen w 0) = cs.toList := by
    have : ∀ l : List Value, (∀ c ∈ l, VR0 (emb0 w) c c) → l.map (seen w 0) = l := by
      intro l
      induction l with
      | nil => intro _; rfl
      | cons c l ih => intro hl; rw [List.map_cons, seen_self (hl c (by simp)), ih fun d hd => hl d (by simp [hd])]
    exact this _ hall
  rw [hmap] at hx
  refine ⟨⟨cs, rfl, ?_⟩, x, cs.toList, by simp, hx, hG⟩
  have : ∀ l : List Value, (∀ c ∈ l, VR0 (emb0 w) c c) → L2 (VR0 (emb0 w)) l l := by
    intro l
    induction l with
    | nil => intro _; exact True.intro
    | cons c l ih => intro hl; exact ⟨hl c (by simp), ih fun d hd => hl d (by simp [hd])⟩
  exact this _ hall
theorem fld {P : Program} {H : Type} {enc : TypeId × Value → H} {w : World} {n : Nat} {fs : Array Field} {cs : List Value} {xs : List (DataW H × List MemPlace)} (hlen : xs.length = fs.size)
    (hf : ∀ (i : Nat) (f : Field), fs[i]? = some f → DataW.trod enc P w 0 (fun _ => true) true n f.type ((cs.drop f.offset).take (P.cellsOf f.type)) = xs[i]?) (i : Nat) {f : Field} (hi : fs[i]? = some f) :
    ∃ y, DataW.trod enc P w 0 (fun _ => true) true n f.type ((cs.drop f.offset).take (P.cellsOf f.type)) = some y := by
  have hlt := (Array.getElem?_eq_some_iff.1 hi).1
  rw [hf i f hi]
  exact ⟨xs[i]'(by omega), by simp [show i < xs.length by omega]⟩
theorem arg_len {P : Program} {α : Type} {T : Ty α} {t e : TypeId} (ht : P.underlying t = some (.slice e)) {H : Type} {enc : TypeId × Value → H} {w : World} {v : Value} {d : DataW H} {ps : List MemPlace} {z : Nat → Blk} {xs : List α}
    (h : DataW.Trod enc P w 0 (fun _ => true) true t v d ps) (hs : SlR T z xs v) : xs.length = 0 ∨ ∃ elems spare, d = .slice elems spare ∧ elems.length = xs.length := by
  obtain ⟨fuel, hf⟩ := h
  rcases hs with ⟨rfl, rfl⟩ | ⟨b, off, c, rfl, _⟩
  · exact .inl rfl
  · rcases Deep.open_slice ht hf with ⟨h0, _⟩ | ⟨a, len, cap, m, n, D, Pl, hc, _, _, _, _, hx, _⟩
    · simp [Value.cells] at h0
    · simp only [Value.cells, List.cons.injEq, Value.slice.injEq, and_true] at hc
      obtain ⟨_, h1, _⟩ := hc
      injection hx with hx _
      exact .inr ⟨_, _, hx, by simp [← h1]⟩
end Go.AM
end
section
set_option linter.unusedSimpArgs false
set_option linter.unusedVariables false
namespace Go.AM
theorem cellsAt.mono {z z' : Nat → Blk} {b off : Nat} {cs : List Value} (hc : cellsAt z b off cs) (h : Zle z z') : cellsAt z' b off cs := cellsAt_mono h hc
theorem part_get {cs a d c : List Value} {n : Nat} (h1 : cs = a ++ (d ++ c)) (h2 : a.length = n) : ∀ (j : Nat) (u : Value), d[j]? = some u → cs[n + j]? = some u := by
  subst h1 h2
  intro j u hj
  have hlt := (List.getElem?_eq_some_iff.1 hj).1
  rw [List.getElem?_append_right (by omega), Nat.add_sub_cancel_left, List.getElem?_append_left hlt]
  exact hj
theorem cellsAt.part {z : Nat → Blk} {b off n : Nat} {cs : List Value} (hc : cellsAt z b off cs) (a d c : List Value) (h1 : cs = a ++ (d ++ c)) (h2 : a.length = n) : cellsAt z b (off + n) d := fun j u hj => by
  rw [Nat.add_assoc]; exact hc _ u (part_get h1 h2 j u hj)
theorem loads_part {m : Mem} {b off n : Nat} {cs : List Value} (hc : ∀ (j : Nat) (u : Value), cs[j]? = some u → m.load b (off + j) = some u) (a d c : List Value) (h1 : cs = a ++ (d ++ c)) (h2 : a.length = n) : ∀ (j : Nat) (u : Value), d[j]? = some u → m.load b (off + n + j) = some u := fun j u hj => by
  rw [Nat.add_assoc]; exact hc _ u (part_get h1 h2 j u hj)
section
variable {z : Nat → Blk} {e m : Mem} {k : Option Nat} {b n : Nat} {cs : List Value} {t : TypeId} {v : Value}
variable {P : Program} {ρ : Operand → Value} {o : Oper} {x : Operand} {i : TypeInfo} {D : Tag → Value → Mem → Prop}
theorem Bx.part (h : Bx z e m k b cs t) (a d c : List Value) (h1 : cs = a ++ (d ++ c)) (h2 : a.length = n) : ∀ (j : Nat) (u : Value), d[j]? = some u → m.load b (n + j) = some u := fun j u hj => h.load (part_get h1 h2 j u hj)
theorem Bx.lend (h : Bx z e m k b cs t) (st : St z e m k) : ∃ z', Zle z z' ∧ St z' e m k ∧ cellsAt z' b 0 cs ∧ ∀ p, Ap p (some b) → ∀ c, p = some c → z' c = z c := by
  refine ⟨frz z m (some b), frz_le fun c hc => by cases hc; exact h.dead, ⟨frz_fz st.fz (fun c hc => by cases hc; exact ⟨h.lt, by rw [h.blk]; rfl⟩), st.dead, st.dead0, st.next, st.kept⟩, fun j u hj => ?_, fun p hp c hc => ?_⟩
  · simp only [ldz, frz, if_true, h.blk, Nat.zero_add]; exact hj
  · unfold frz
    rw [if_neg (hp c hc)]
theorem Bx.freeze (h : Bx z e m k b cs t) (hn : e.next ≤ b) (st : St z e m k) : ∃ z', Zx e.next z z' ∧ St z' e m k ∧ cellsAt z' b 0 cs ∧ ∀ p, Ap p (some b) → ∀ c, p = some c → z' c = z c := by
  obtain ⟨z', h1, h2, h3, h4⟩ := h.lend st
  refine ⟨frz z m (some b), ⟨frz_le fun c hc => by cases hc; exact h.dead, fun c hc => ?_⟩, ⟨frz_fz st.fz (fun c hc => by cases hc; exact ⟨h.lt, by rw [h.blk]; rfl⟩), st.dead, st.dead0, st.next, st.kept⟩, fun j u hj => ?_, fun p hp c hc => ?_⟩
  · unfold frz
    rw [if_neg (by intro hb; cases hb; omega)]
  · simp only [ldz, frz, if_true, h.blk, Nat.zero_add]; exact hj
  · unfold frz
    rw [if_neg (hp c hc)]
theorem kAllocN (h : o.op = .alloc t) (hi : P.info? t = some i) {zv : Value} (hz : i.zero = some zv) (hzf : zv.cells.toList.all flat0 = true) (hs : zv.cells.size = i.size) (cs : List Value) (hc : zv.cells.toList = cs) (st : St z e m k)
    (hk : ∀ b m', e.next ≤ b → St z e m' k → Bx z e m' k b cs t → Same m m' none → (∀ p, (∀ c, p = some c → c < m.next) → Ap p (some b)) → D .new (.pointer (some ⟨b, 0, none⟩)) m') : StepX P ρ o m D := by
  subst hc
  obtain ⟨h2, h3, h4, h5⟩ := gBoxed (L := zv.cells.toList) (t := t) st
  exact StepX.new (.alloc t i zv h hi hz hzf hs) (hk _ _ st.next h2 h3 h4 h5)
theorem kBoxN (h : o.op = .box t x) (hi : P.info? t = some i) (hx : ρ x = v) (hv : storable v = true) (cs : List Value) (hc : v.cells.toList = cs) (hs : cs.length = i.size) (st : St z e m k)
    (hk : ∀ b m', e.next ≤ b → St z e m' k → Bx z e m' k b cs t → Same m m' none → (∀ p, (∀ c, p = some c → c < m.next) → Ap p (some b)) → D .new (.pointer (some ⟨b, 0, none⟩)) m') : StepX P ρ o m D := by
  subst hx hc
  obtain ⟨h2, h3, h4, h5⟩ := gBoxed (L := (ρ x).cells.toList) (t := t) st
  exact StepX.new (.box t x i h hi hv (by simpa using hs)) (hk _ _ st.next h2 h3 h4 h5)
theorem pFunc {fn : Fn} {cap : Array Operand} {caps : Array Value} (h : o.op = .makeFunc fn #[] cap) (hc : cap.map ρ = caps) (hs : caps.toList.all storable = true) : PureR P ρ o (.func fn #[] caps) := by
  subst hc
  have := PureR.func (P := P) (ρ := ρ) (o := o) fn #[] cap h (fun x hx => by
    simp only [List.nil_append] at hx
    have := List.all_eq_true.1 hs (ρ x) (by simp only [Array.toList_map]; exact List.mem_map_of_mem (by simpa using hx))
    exact this)
  simpa using this
theorem gCalleeV {f : FuncId} {y : Operand} {as : Array Operand} {ts : Array TypeId} {args caps all : Array Value} (h : o.op = .call { callee := .value y, args := as, argTypes := ts }) (hf : ρ y = .func (.func f) #[] caps) (ha : as.map ρ = args) (hall : args ++ caps = all) : callee o ρ f all :=
  ⟨_, as, ts, #[], caps, h, hf, by rw [ha, ← hall]; simp⟩
end
open Classical in
noncomputable def nilT {α β : Type} (xs : List α) (f : Bool → Option β) : Option β := if xs = [] then (if f true = f false then f true else none) else f false
theorem nilT_some {α β : Type} {xs : List α} {f : Bool → Option β} {r : β} (h : nilT xs f = some r) (t : Bool) (ht : t = true → xs = []) : f t = some r := by
  unfold nilT at h
  by_cases hx : xs = []
  · rw [if_pos hx] at h
    split at h
    · cases t
      · rename_i he; rw [← he]; exact h
      · exact h
    · cases h
  · rw [if_neg hx] at h
    cases t
    · exact h
    · exact absurd (ht rfl) hx
theorem nilT_of {α β : Type} {xs : List α} {f : Bool → Option β} {r : β} (h : ∀ t, (t = true → xs = []) → f t = some r) : nilT xs f = some r := by
  unfold nilT
  by_cases hx : xs = []
  · rw [if_pos hx, if_pos (by rw [h true fun _ => hx, h false (by simp)])]; exact h true fun _ => hx
  · rw [if_neg hx]; exact h false (by simp)
section
variable {α β : Type} {T : Ty α} {z : Nat → Blk} {e m : Mem} {k : Option Nat} {xs : List α} {v : Value} {t u : TypeId} {f : Bool → Option β} {r : β}
variable {P : Program} {ρ : Operand → Value} {o : Oper} {x y : Operand} {te : TypeId}
theorem pEqNil0 (neq : Bool) (h : o.op = .binOp (if neq then .neq else .eql) t x y u) (ht : P.underlying t = some (.slice te)) (hx : ρ x = .slice none 0 0) (hy : ρ y = .slice none 0 0) : PureR P ρ o (.bool (!neq)) := by
  refine flat2 (x := x) (y := y) (by rw [h]; rfl) (by rw [h]; intros; simp) (by rw [hx]; rfl) (by rw [hy]; rfl) rfl fun w => ?_
  have hg : (eqGuard (if neq then .neq else .eql) t x y (.slice none 0 0) (.slice none 0 0)).run P w = .ok () w := by
    cases neq <;> simp [eqGuard]
  have hb : (binOp (if neq then .neq else .eql) t (.slice none 0 0) (.slice none 0 0)).run P w = .ok (.bool (!neq)) w := by
    cases neq
    · exact Lib.run_eql_slice_nil w t te none 0 0 0 0 ht
    · exact run_neq_slice_nil_any w t te none 0 0 0 0 ht
  simp only [execOp, h, hx, hy, Sem.run_bind, hg, hb, Result.andThen_ok, Sem.run_pure]
theorem kNil {D : Tag → Value → Mem → Prop} (neq : Bool) (h : o.op = .binOp (if neq then .neq else .eql) t x y u) (ht : P.underlying t = some (.slice te)) (hx : ρ x = v) (hy : ρ y = .slice none 0 0) (hs : (v = .slice none 0 0 ∧ xs = []) ∨ ∃ a l c, v = .slice (some a) l c) (hr : nilT xs f = some r)
    (hk : ∀ t, f t = some r → D .pure (.bool (if neq then !t else t)) m) : StepX P ρ o m D := by
  rcases hs with ⟨rfl, rfl⟩ | ⟨a, l, c, rfl⟩
  · have := hk true (nilT_some hr true fun _ => rfl)
    exact StepX.pure (pEqNil0 neq h ht hx hy) (by cases neq <;> exact this)
  · have := hk false (nilT_some hr false (by simp))
    refine StepX.pure (.eqNil neq x y t u te a l c h ht hx hy) (by cases neq <;> exact this)
theorem SlR.nilOr (h : SlR T z xs v) : (v = .slice none 0 0 ∧ xs = []) ∨ ∃ a l c, v = .slice (some a) l c := by
  rcases h with h | ⟨b, off, c, rfl, _⟩
  · exact .inl h
  · exact .inr ⟨_, _, _, rfl⟩
theorem Ow.nilOr (h : Ow T z m xs v) : (v = .slice none 0 0 ∧ xs = []) ∨ ∃ a l c, v = .slice (some a) l c := by
  rcases h with h | ⟨b, f0, L, c, rfl, _⟩
  · exact .inl h
  · exact .inr ⟨_, _, _, rfl⟩
end
end Go.AM
end
section
set_option linter.unusedSimpArgs false
set_option linter.unusedVariables false
namespace Go.AM
def Vw {α : Type} (T : Ty α) (z : Nat → Blk) (m : Mem) (p : Option Nat) (xs : List α) (v : Value) : Prop :=
  (v = .slice none 0 0 ∧ xs = []) ∨
  ∃ b off c L, v = .slice (some ⟨b, off, none⟩) xs.length c ∧ p = some b ∧ m.blk b = .own L T.tid ∧ z b = .dead ∧ b < m.next ∧ ((c = BIG ∧ off + xs.length * T.sz ≤ L.length) ∨ (c < BIG ∧ xs.length ≤ c)) ∧
    ∀ (i : Nat) (x : α), xs[i]? = some x → ∃ cs, T.rd z x cs ∧ cellsIn L (off + i * T.sz) cs
section
variable {α : Type} {T : Ty α} {z z' : Nat → Blk} {e m m' : Mem} {k p q : Option Nat} {xs r : List α} {v : Value} {t u : TypeId} {b : Nat}
variable {P : Program} {ρ : Operand → Value} {o : Oper} {x y : Operand} {i : TypeInfo} {D : Tag → Value → Mem → Prop} {te : TypeId}
theorem Ow.vw (h : Ow T z m xs v) : Vw T z m (blkOf v) xs v := by
  rcases h with h | ⟨b, f0, L, c, rfl, h1, h2, h3, h4, h5, h6⟩
  · exact .inl h
  · refine .inr ⟨b, f0, c, L, rfl, rfl, h1, h3, h2, ?_, h6⟩
    rcases h5 with rfl | ⟨h5, h7, h8⟩
    · exact .inl ⟨rfl, by omega⟩
    · exact .inr ⟨h5, h7⟩
theorem Vw.same (h : Vw T z m p xs v) (s : Same m m' q) (ap : Ap p q) : Vw T z m' p xs v := by
  rcases h with h | ⟨b, off, c, L, rfl, hp, h1, h2, h3, h4, h5⟩
  · exact .inl h
  · exact .inr ⟨b, off, c, L, rfl, hp, by rw [s.blk b h3 (ap b hp)]; exact h1, h2, Nat.lt_of_lt_of_le h3 s.next, h4, h5⟩
theorem Vw.zle (h : Vw T z m p xs v) (hz : Zle z z') (hb : ∀ b, p = some b → z' b = z b) : Vw T z' m p xs v := by
  rcases h with h | ⟨b, off, c, L, rfl, hp, h1, h2, h3, h4, h5⟩
  · exact .inl h
  · refine .inr ⟨b, off, c, L, rfl, hp, h1, by rw [hb b hp]; exact h2, h3, h4, fun i x hi => ?_⟩
    obtain ⟨cs, g1, g2⟩ := h5 i x hi
    exact ⟨cs, T.mono _ _ hz _ _ g1, g2⟩
theorem Vw.lt (h : Vw T z m p xs v) (hv : v ≠ .slice none 0 0) : ∃ b, p = some b ∧ b < m.next := by
  rcases h with ⟨h, _⟩ | ⟨b, off, c, L, rfl, hp, h1, h2, h3, h4, h5⟩
  · exact absurd h hv
  · exact ⟨b, hp, h3⟩
theorem Vw.call (h : Vw T z m p xs v) (hx : Zx m.next z z') (s : Same m m' q) (ap : Ap p q) : Vw T z' m' p xs v := by
  rcases h with h | ⟨b, off, c, L, rfl, hp, h1, h2, h3, h4, h5⟩
  · exact .inl h
  · refine .inr ⟨b, off, c, L, rfl, hp, by rw [s.blk b h3 (ap b hp)]; exact h1, by rw [hx.low b h3]; exact h2, Nat.lt_of_lt_of_le h3 s.next, h4, fun i x hi => ?_⟩
    obtain ⟨cs, g1, g2⟩ := h5 i x hi
    exact ⟨cs, T.mono _ _ hx.le _ _ g1, g2⟩
theorem Vw.len (h : Vw T z m p xs v) : ∃ a c, v = .slice a xs.length c := by
  rcases h with ⟨rfl, rfl⟩ | ⟨b, off, c, L, rfl, _⟩
  · exact ⟨_, _, rfl⟩
  · exact ⟨_, _, rfl⟩
theorem Vw.nilOr (h : Vw T z m p xs v) : (v = .slice none 0 0 ∧ xs = []) ∨ ∃ a l c, v = .slice (some a) l c := by
  rcases h with h | ⟨b, off, c, L, rfl, _⟩
  · exact .inl h
  · exact .inr ⟨_, _, _, rfl⟩
theorem Vw.src (h : Vw T z m p xs v) : Src T z m xs v := by
  rcases h with ⟨rfl, rfl⟩ | ⟨b, off, c, L, rfl, hp, hb, _, _, _, h4⟩
  · exact ⟨rfl, [], rfl, by simp, fun i y hy => by simp at hy⟩
  · exact src_of fun i y hy => by
      obtain ⟨cs, g1, g2⟩ := h4 i y hy
      exact ⟨cs, g1, fun k u hk => by simp only [Mem.load, hb]; exact g2 k u hk⟩
theorem Vw.toR (h : Vw T z m p xs v) (hz : ∀ b, p = some b → z b = .dead) : SlR T (frz z m p) xs v := by
  rcases h with h | ⟨b, off, c, L, rfl, rfl, h1, h2, h3, h4, h5⟩
  · exact .inl h
  · have hzb : frz z m (some b) b = .own L T.tid := by simp [frz, h1]
    refine .inr ⟨b, off, c, rfl, by rw [hzb]; exact True.intro, ?_, fun i x hi => ?_⟩
    · rcases h4 with ⟨rfl, h4⟩ | ⟨h4, h7⟩
      · exact .inl ⟨rfl, L, hzb, h4⟩
      · exact .inr ⟨h4, h7⟩
    · obtain ⟨cs, g1, g2⟩ := h5 i x hi
      refine ⟨cs, T.mono _ _ (frz_le hz) x cs g1, fun k u hk => ?_⟩
      simp only [ldz, hzb]
      exact g2 k u hk
theorem OwF.freezeV (h : OwF T z e m k xs v) (st : St z e m k) : ∃ z', Zx e.next z z' ∧ St z' e m k ∧ SlR T z' xs v ∧ (∀ p, Ap p (blkOf v) → ∀ b, p = some b → z' b = z b) ∧ ∀ {β : Type} {T' : Ty β} {ys : List β} {w : Value}, Vw T' z m (blkOf v) ys w → SlR T' z' ys w := by
  refine ⟨frz z m (blkOf v), ⟨frz_le fun b hb => (h.ow.lt b hb).2, fun b hb => ?_⟩, ⟨frz_fz st.fz h.lt2, st.dead, st.dead0, st.next, st.kept⟩, h.ow.toR, fun p hp b hb => ?_, fun hw => hw.toR fun b hb => (h.ow.lt b hb).2⟩
  · unfold frz
    rw [if_neg]
    intro hb'
    have := h.fresh b hb'
    omega
  · unfold frz
    rw [if_neg (hp b hb)]
theorem kCutV {lo hi : Option Operand} {a b : Int} (h : o.op = .slice t x lo hi none) (ht : P.underlying t = some (.slice T.tid)) (hi' : P.info? T.tid = some i) (hsz : i.size = T.sz) (hx : ρ x = v)
    (hlo : lowI ρ lo a) (hhi : highI ρ hi xs.length b) (hs : Vw T z m p xs v) (hr : cutI xs a b = some r) (hk : ∀ v' I, (∀ m2, m2 = m → I m2) → Vw T z m p r v' → D (.read I) v' m) : StepX P ρ o m D := by
  obtain ⟨h0, h1, h2, rfl⟩ := cutI_some hr
  obtain ⟨a', rfl⟩ := Int.eq_ofNat_of_zero_le h0
  obtain ⟨b', rfl⟩ := Int.eq_ofNat_of_zero_le (Int.le_trans h0 h1)
  have h1' : a' ≤ b' := by omega
  have h2' : b' ≤ xs.length := by omega
  simp only [Int.toNat_natCast] at hk ⊢
  have hlo' := lowI_is hlo
  have hhi' := highI_is hhi
  have hlen : ((xs.take b').drop a').length = b' - a' := by simp; omega
  rcases hs with ⟨rfl, rfl⟩ | ⟨bl, off, c, L, rfl, hp, g1, g2, g3, hcap, hel⟩
  · have hb0 : b' = 0 := by simpa using h2'
    subst hb0
    have ha0 : a' = 0 := by omega
    subst ha0
    exact StepX.pureR (I := fun _ => True) (.sliceNil t x lo hi T.tid i h ht hi' hx hlo' hhi') (hk _ _ (fun _ _ => trivial) (.inl ⟨rfl, by simp⟩))
  · have hel' : ∀ o', o' = off + a' * T.sz → ∀ (k : Nat) (w : α), ((xs.take b').drop a')[k]? = some w → ∃ cs, T.rd z w cs ∧ cellsIn L (o' + k * T.sz) cs := by
      intro o' ho' k w hk
      obtain ⟨cs, g1, g2⟩ := hel _ w (cut_get hk)
      refine ⟨cs, g1, ?_⟩
      rw [ho', Nat.add_assoc, ← Nat.add_mul]; exact g2
    rcases hcap with ⟨rfl, hlL⟩ | ⟨hc, hle⟩
    · have hst : ReadR P ρ o m _ := .slice t x lo hi T.tid i L bl off xs.length a' b' h ht hi' hx g1 hlo' hhi' h1' h2' (by rw [hsz]; exact hlL)
      refine StepX.read hst (hk _ _ (fun m2 he => by rw [he]; exact hst) (.inr ⟨bl, off + a' * T.sz, BIG, L, by rw [hlen, hsz], hp, g1, g2, g3, .inl ⟨rfl, ?_⟩, hel' _ rfl⟩))
      rw [hlen, Nat.add_assoc, ← Nat.add_mul]
      have : (a' + (b' - a')) * T.sz ≤ xs.length * T.sz := Nat.mul_le_mul_right _ (by omega)
      omega
    · refine StepX.pureR (I := fun _ => True) (.slice t x lo hi T.tid i bl off xs.length c a' b' h ht hi' hx (by simp only [BIG] at hc ⊢; omega) hlo' hhi' h1' (by omega) (fun _ => trivial)) (hk _ _ (fun _ _ => trivial) ?_)
      by_cases hcn : c = a'
      · have h00 : b' - a' = 0 := by omega
        refine .inr ⟨bl, off, c - a', L, by simp [hcn, hlen, h00], hp, g1, g2, g3, .inr ⟨by omega, by rw [hlen]; omega⟩, fun k w hk => ?_⟩
        have hlt := (List.getElem?_eq_some_iff.1 hk).1
        omega
      · refine .inr ⟨bl, off + a' * T.sz, c - a', L, by rw [if_neg hcn, hlen, hsz], hp, g1, g2, g3, .inr ⟨by omega, by rw [hlen]; omega⟩, hel' _ rfl⟩
theorem pLenG (h : o.op = .call { callee := .builtin .len, args := #[x], argTypes := #[t] }) (ht : P.underlying t = some (.slice te)) (hx : ρ x = v) (hs : ∃ a c, v = .slice a xs.length c) : PureR P ρ o (.int .i64 xs.length) := by
  obtain ⟨a, c, rfl⟩ := hs
  exact .len x t te a _ c h ht hx
theorem kIdxV {k1 : IntKind} {n : Int} {a : α} (h : o.op = .indexAddr t x y) (ht : P.underlying t = some (.slice te)) (hi : P.info? te = some i) (hsz : i.size = T.sz) (hx : ρ x = v) (hy : ρ y = .int k1 n) (hs : Vw T z m p xs v) (hg : getI xs n = some a)
    (hk : ∀ b off cs, T.rd z a cs → (∀ (j : Nat) (u : Value), cs[j]? = some u → m.load b (off + j) = some u) → D .pure (.pointer (some ⟨b, off, none⟩)) m) : StepX P ρ o m D := by
  obtain ⟨h0, h1, h2⟩ := getI_some hg
  rcases hs with ⟨_, rfl⟩ | ⟨b, off, c, L, rfl, hp, hb, _, _, _, h4⟩
  · simp at h2
  · obtain ⟨cs, g1, g2⟩ := h4 _ a h2
    refine StepX.pure (.indexAddr t x y te i b off _ c k1 n h ht hi hx hy h0 h1) (hk _ _ _ g1 fun j u hj => ?_)
    simp only [Mem.load, hb, hsz]
    exact g2 j u hj
theorem OwF.elem {n : Int} {a : α} {f0 l c : Nat} (h : OwF T z e m k xs v) (hv : v = .slice (some ⟨b, f0, none⟩) l c) (hg : getI xs n = some a) :
    ∃ cs, T.rd z a cs ∧ xs[n.toNat]? = some a ∧ ∀ (j : Nat) (u : Value), cs[j]? = some u → m.load b (f0 + n.toNat * T.sz + j) = some u := by
  obtain ⟨h0, h1, h2⟩ := getI_some hg
  rcases h.ow with ⟨_, rfl⟩ | ⟨b', f1, L, c', rfl, hb, _, _, hl, _, h4⟩
  · simp at h2
  · obtain ⟨cs, g1, g2⟩ := h4 _ a h2
    cases hv
    exact ⟨cs, g1, h2, fun j u hj => by simp only [Mem.load, hb]; exact g2 j u hj⟩
def Ty.as (T : Ty α) (t : TypeId) : Ty α := { T with tid := t }
theorem kAllocA {x0 : α} {n : Nat} {c : List Value} (h : o.op = .alloc t) (hi : P.info? t = some i) {zv : Value} (hz : i.zero = some zv) (hzf : zv.cells.toList.all flat0 = true) (hs : zv.cells.size = i.size) (hc : zv.cells.toList = (List.replicate n c).flatten) (hrd : T.rd z x0 c) (hn : Nat.blt n BIG = true) (st : St z e m k)
    (hk : ∀ b m', St z e m' k → OwF (T.as t) z e m' k (List.replicate n x0) (.slice (some ⟨b, 0, none⟩) n n) → Same m m' none → (∀ p, (∀ c, p = some c → c < m.next) → Ap p (some b)) → D .new (.pointer (some ⟨b, 0, none⟩)) m') : StepX P ρ o m D := by
  obtain ⟨h2, h3, h4, h5⟩ := gBoxed (L := zv.cells.toList) (t := t) st
  have hlen := T.len _ _ _ hrd
  have hl : zv.cells.toList.length = n * T.sz := by rw [hc]; simp [hlen]
  have hn' : n < BIG := by simp [Nat.blt] at hn; omega
  refine StepX.new (.alloc t i zv h hi hz hzf hs) (hk _ _ h2 ⟨Ow.at0 ⟨m.next, zv.cells.toList, n, by simp, h3.blk, h3.lt, h3.dead, ?_, .inr ⟨hn', by simp, ?_⟩, fun j x hj => ?_⟩, fun b hb => by cases hb; exact st.next⟩ h4 h5)
  · rw [hl]; simp [Ty.as]
  · rw [hl]; simp [Ty.as]
  · obtain ⟨hlt, hx⟩ := List.getElem?_eq_some_iff.1 hj
    simp at hlt hx
    subst hx
    refine ⟨c, hrd, fun q u hq => ?_⟩
    have hq' := (List.getElem?_eq_some_iff.1 hq).1
    rw [hc]
    have key : ∀ (n j : Nat), j < n → (List.replicate n c).flatten[j * T.sz + q]? = some u := by
      intro n
      induction n with
      | zero => intro j hj; omega
      | succ n ih =>
        intro j hj
        rw [List.replicate_succ, List.flatten_cons]
        cases j with
        | zero => rw [Nat.zero_mul, Nat.zero_add, List.getElem?_append_left hq']; exact hq
        | succ j =>
          rw [List.getElem?_append_right (by rw [hlen, Nat.succ_mul]; omega), hlen, show (j + 1) * T.sz + q - T.sz = j * T.sz + q by rw [Nat.succ_mul]; omega]
          exact ih j (by omega)
    exact key n j hlt
theorem kIdxA {k1 : IntKind} {n : Int} {a : α} {l : Nat} (h : o.op = .indexAddr t x y) (ht : P.underlying t = some (.array l te)) (hi : P.info? te = some i) (hsz : i.size = T.sz) (hx : ρ x = .pointer (some ⟨b, 0, none⟩)) (hy : ρ y = .int k1 n) (hs : OwF T z e m k xs (.slice (some ⟨b, 0, none⟩) l l)) (hg : getI xs n = some a)
    (hk : ∀ cs, T.rd z a cs → xs[n.toNat]? = some a → (∀ (j : Nat) (u : Value), cs[j]? = some u → m.load b (n.toNat * T.sz + j) = some u) → D .pure (.pointer (some ⟨b, n.toNat * T.sz, none⟩)) m) : StepX P ρ o m D := by
  obtain ⟨cs, g1, g2, g3⟩ := hs.elem rfl hg
  obtain ⟨h0, h1, h2⟩ := getI_some hg
  have hl : xs.length = l := by
    obtain ⟨a', c', he⟩ := hs.ow.len
    injection he with _ he _
    exact he.symm
  have := PureR.indexAddrA (P := P) (ρ := ρ) (o := o) t x y te i b 0 l k1 n h ht hi hx hy h0 (by rw [← hl]; exact h1)
  rw [Nat.zero_add, hsz] at this
  exact StepX.pure this (hk _ g1 g2 (by simpa using g3))
end
end Go.AM
end
section
set_option linter.unusedSimpArgs false
set_option linter.unusedVariables false
namespace Go.AM
structure Tab (D : Nat → Type) where
  T : (t : Nat) → Ty (D t)
  kc : (t : Nat) → D t → List Value
section
variable (D : Nat → Type)
inductive CV where
  | int (k : IntKind) (n : Int)
  | bool (b : Bool)
  | str (s : List UInt8)
  | nilS | nilP | nilM
  | sl (e : Nat) (xs : List (D e))
  | mp (t kt vt : Nat) (es : List (D kt × D vt))
  | own (i : Nat)
inductive SV where
  | un | undef
  | c (v : CV D)
  | agg (t : Nat) (cs : List (CV D))
  | box (i off : Nat)
  | arr (i : Nat)
  | el (i e : Nat) (ix : Int) (off : Nat)
  | rp (t : Nat) (cs : List (CV D)) (off : Nat)
  | fn (f : Nat) (caps : List (Nat × List (CV D)))
  | tup (l : List (CV D ⊕ (Nat × List (CV D))))
  | cut (i e lo n : Nat)
  | full (e : Nat) (xs : List (D e))
inductive Ob where
  | dead
  | sl (e : Nat) (xs : List (D e)) (fz w : Bool)
  | box (t : Nat) (cs : List (CV D)) (fz w : Bool)
  | recv (t : Nat) (cs : List (CV D)) (w : Bool)
  | arr (e t n : Nat) (xs : List (D e)) (w : Bool)
  | map (t kt vt : Nat) (es : List (D kt × D vt)) (fz w : Bool)
  | nest (e t : Nat) (up : Option (List (D t) → D e)) (xss : List (List (D t))) (hole : Option (Int × Nat)) (w : Bool)
end
section
variable {D : Nat → Type} (G : Tab D)
def Tab.M (t kt vt : Nat) : MTy (D kt) (D vt) := ⟨G.kc kt, G.kc vt, t⟩
def rel0 (z : Nat → Blk) (vs : List Value) : CV D → Value → Prop
  | .int k n, v => v = .int k n
  | .bool b, v => v = .bool b
  | .str s, v => v = AM.str s
  | .nilS, v => v = .slice none 0 0
  | .nilP, v => v = .pointer none
  | .nilM, v => v = .map none
  | .sl e xs, v => SlR (G.T e) z xs v
  | .mp t kt vt es, v => MpR (G.M t kt vt) z es v
  | .own i, v => vs[i]? = some v ∧ storable v = true ∧ v.cells = #[v]
def relT (z : Nat → Blk) (vs : List Value) : CV D ⊕ (Nat × List (CV D)) → Value → Prop
  | .inl c, v => rel0 G z vs c v
  | .inr p, v => ∃ ds : List Value, v = .agg ds.toArray ∧ L2 (rel0 G z vs) p.2 ds
def relP (z : Nat → Blk) (vs : List Value) (cs : List (CV D)) (off : Nat) (v : Value) : Prop :=
  ∃ b o ds, v = .pointer (some ⟨b, o + off, none⟩) ∧ cellsAt z b o ds ∧ L2 (rel0 G z vs) cs ds
def CutV (sz lo n : Nat) (w v : Value) : Prop :=
  (w = .slice none 0 0 ∧ v = .slice none 0 0 ∧ lo = 0 ∧ n = 0) ∨
  ∃ b f0 l c off c', w = .slice (some ⟨b, f0, none⟩) l c ∧ v = .slice (some ⟨b, off, none⟩) (n - lo) c' ∧ lo ≤ n ∧ n ≤ l ∧ (off = f0 + lo * sz ∨ (n ≤ lo ∧ off = f0)) ∧ ((c = BIG ∧ c' = BIG) ∨ (c < BIG ∧ c' = c - lo))
def rel (z : Nat → Blk) (vs : List Value) : SV D → Value → Prop
  | .un, _ => True
  | .undef, v => v = _root_.Go.undef
  | .c c, v => rel0 G z vs c v
  | .agg _ cs, v => ∃ ds : List Value, v = .agg ds.toArray ∧ L2 (rel0 G z vs) cs ds
  | .box i off, v => ∃ b, vs[i]? = some (.pointer (some ⟨b, 0, none⟩)) ∧ v = .pointer (some ⟨b, off, none⟩)
  | .arr i, v => ∃ b l, vs[i]? = some (.slice (some ⟨b, 0, none⟩) l l) ∧ v = .pointer (some ⟨b, 0, none⟩)
  | .el i e ix off, v => ∃ b f0 l c, vs[i]? = some (.slice (some ⟨b, f0, none⟩) l c) ∧ v = .pointer (some ⟨b, f0 + ix.toNat * (G.T e).sz + off, none⟩)
  | .rp _ cs off, v => relP G z vs cs off v
  | .fn f caps, v => ∃ gs : List Value, v = .func (.func f) #[] gs.toArray ∧ L2 (fun c g => relP G z vs c.2 0 g) caps gs
  | .tup l, v => ∃ ds : List Value, v = .tuple ds.toArray ∧ L2 (relT G z vs) l ds
  | .cut i e lo n, v => ∃ w, rel0 G z vs (.own i) w ∧ CutV (G.T e).sz lo n w v
  | .full e xs, v => SlR (G.T e) z xs v ∧ xs.length < BIG ∧ ∃ a, v = .slice a xs.length xs.length
def TVal (t : TypeId) : Ty Value where
  sz := 1
  tid := t
  rd := fun _ v cs => cs = [v] ∧ storable v = true ∧ v.cells = #[v]
  len := fun _ v cs h => by rw [h.1]; rfl
  mono := fun _ _ _ _ _ h => h
  one := fun _ v cs h c hc => by rw [h.1] at hc; simp at hc; subst hc; exact h.2
def InR {α : Type} (T : Ty α) (z : Nat → Blk) (n b0 j : Nat) (xs : List α) (w : Value) : Prop :=
  (w = .slice none 0 0 ∧ xs = []) ∨
  ∃ b f0 L c, w = .slice (some ⟨b, f0, none⟩) xs.length c ∧ z b = .lock b0 j L T.tid ∧ n ≤ b ∧ f0 + xs.length * T.sz ≤ L.length ∧ (c = BIG ∨ (c < BIG ∧ xs.length ≤ c ∧ f0 + c * T.sz ≤ L.length)) ∧
    ∀ (i : Nat) (x : α), xs[i]? = some x → ∃ cs, T.rd z x cs ∧ cellsIn L (f0 + i * T.sz) cs
def Lke (z z' : Nat → Blk) (n : Nat) : Prop := ∀ b j L t, z b = .lock n j L t → z' b = z b
theorem InR.zle {α : Type} {T : Ty α} {z z' : Nat → Blk} {n b0 j : Nat} {xs : List α} {w : Value} (h : InR T z n b0 j xs w) (hz : Zle z z') (hk : Lke z z' b0) : InR T z' n b0 j xs w := by
  rcases h with h | ⟨b, f0, L, c, h1, h2, h3, h4, h5, h6⟩
  · exact .inl h
  · refine .inr ⟨b, f0, L, c, h1, by rw [hk b j L _ h2]; exact h2, h3, h4, h5, fun i x hi => ?_⟩
    obtain ⟨cs, g1, g2⟩ := h6 i x hi
    exact ⟨cs, T.mono _ _ hz _ _ g1, g2⟩
theorem InR.anti {α : Type} {T : Ty α} {z : Nat → Blk} {n n' b0 j : Nat} {xs : List α} {w : Value} (h : InR T z n b0 j xs w) (hn : n' ≤ n) : InR T z n' b0 j xs w := by
  rcases h with h | ⟨b, f0, L, c, h1, h2, h3, h4⟩
  · exact .inl h
  · exact .inr ⟨b, f0, L, c, h1, h2, Nat.le_trans hn h3, h4⟩
def bkV (v : Value) : Nat := match blkOf v with | some b => b + 1 | none => 0
def UpOk (e t : Nat) (up : Option (List (D t) → D e)) : Prop := ∀ f, up = some f → (G.T e).sz = 1 ∧ (G.T e).tid = e ∧ ∀ z xs c, SlR (G.T t) z xs c → (G.T e).rd z (f xs) [c]
structure NestOk {α : Type} (e0 : Nat) (T : Ty α) (z : Nat → Blk) (e m : Mem) (k : Option Nat) (vs : List Value) (xss : List (List α)) (hole : Option (Int × Nat)) (v : Value) (ws : List Value) : Prop where
  ow : OwF (TVal e0) z e m k ws v
  len : ws.length = xss.length
  inn : ∀ (j : Nat) (w : Value) (xs : List α), ws[j]? = some w → xss[j]? = some xs → (∀ p, hole = some p → (j : Int) ≠ p.1) → InR T z e.next (bkV v) j xs w
  out : ∀ p, hole = some p → 0 ≤ p.1 ∧ ∃ w, vs[p.2]? = some w ∧ ws[p.1.toNat]? = some w
def ObOk (z : Nat → Blk) (e m : Mem) (k : Option Nat) (vs : List Value) : Ob D → Value → Prop
  | .dead, _ => True
  | .sl t xs false _, v => OwF (G.T t) z e m k xs v
  | .sl t xs true _, v => SlR (G.T t) z xs v
  | .box t cs false _, v => ∃ b ds, v = .pointer (some ⟨b, 0, none⟩) ∧ Bx z e m k b ds t ∧ e.next ≤ b ∧ L2 (rel0 G z vs) cs ds
  | .box t cs true _, v => ∃ b ds, v = .pointer (some ⟨b, 0, none⟩) ∧ cellsAt z b 0 ds ∧ L2 (rel0 G z vs) cs ds
  | .recv t cs _, v => ∃ b ds, v = .pointer (some ⟨b, 0, none⟩) ∧ Bx z e m k b ds t ∧ L2 (rel0 G z vs) cs ds
  | .arr t u n xs _, v => (∃ b, v = .slice (some ⟨b, 0, none⟩) n n) ∧ OwF ((G.T t).as u) z e m k xs v
  | .map t kt vt es false _, v => OwM (G.M t kt vt) z e m k es v
  | .map t kt vt es true _, v => MpR (G.M t kt vt) z es v
  | .nest e0 t up xss hole _, v => UpOk G e0 t up ∧ ∃ ws, NestOk e0 (G.T t) z e m k vs xss hole v ws
def Ob.live : Ob D → Bool
  | .sl _ _ fz _ | .box _ _ fz _ | .map _ _ _ _ fz _ => !fz
  | .recv _ _ _ | .arr _ _ _ _ _ | .nest _ _ _ _ _ _ => true
  | .dead => false
def Ob.tch : Ob D → Bool
  | .sl _ _ _ w | .box _ _ _ w | .recv _ _ w | .arr _ _ _ _ w | .map _ _ _ _ _ w => w
  | .nest _ _ _ _ h w => w || h.isSome
  | .dead => true
structure Inv (O O' : List (Ob D)) : Prop where
  len : O.length ≤ O'.length
  old : ∀ (i : Nat) (o : Ob D), i < O.length → O'[i]? = some o → o.live = true → o.tch = false → O[i]? = some o
theorem Inv.refl (O : List (Ob D)) : Inv O O := ⟨Nat.le_refl _, fun _ _ _ h _ _ => h⟩
theorem Inv.trans {O O' O'' : List (Ob D)} (h : Inv O O') (k : Inv O' O'') : Inv O O'' := ⟨Nat.le_trans h.len k.len, fun i o hi ho hl hw => h.old i o hi (k.old i o (Nat.lt_of_lt_of_le hi h.len) ho hl hw) hl hw⟩
theorem Inv.push (O : List (Ob D)) (o : Ob D) : Inv O (O ++ [o]) := ⟨by simp, fun i p hi hp _ _ => by rw [List.getElem?_append_left hi] at hp; exact hp⟩
theorem Inv.set (O : List (Ob D)) (i : Nat) {o : Ob D} (h : o.live = false ∨ o.tch = true) : Inv O (O.set i o) := ⟨by simp, fun j p hj hp hl hw => by
  rw [List.getElem?_set] at hp
  split at hp
  · split at hp
    · cases hp
      rcases h with h | h
      · rw [h] at hl; cases hl
      · rw [h] at hw; cases hw
    · cases hp
  · exact hp⟩
def blkV : Value → Option Nat
  | .slice (some a) _ _ => some a.block
  | .pointer (some a) => some a.block
  | .map r => r
  | _ => none
theorem blkV_of {v : Value} (h : ∀ r, v ≠ .map r) : blkV v = blkOf v := by
  cases v with
  | slice a l c => cases a <;> rfl
  | pointer a => cases a <;> rfl
  | map r => exact absurd rfl (h r)
  | _ => rfl
structure Mm (O : List (Ob D)) (z : Nat → Blk) (e m : Mem) (k : Option Nat) (vs : List Value) : Prop where
  st : St z e m k
  len : vs.length = O.length
  obj : ∀ (i : Nat) (o : Ob D) (v : Value), O[i]? = some o → vs[i]? = some v → ObOk G z e m k vs o v
  ap : ∀ (i j : Nat) (o p : Ob D) (v w : Value), i ≠ j → O[i]? = some o → O[j]? = some p → o.live = true → p.live = true → vs[i]? = some v → vs[j]? = some w → Ap (blkV v) (blkV w)
variable {G}
theorem rel0.mono {z z' : Nat → Blk} {vs vs' : List Value} {c : CV D} {v : Value} (h : rel0 G z vs c v) (hz : Zle z z') (hv : ∀ (i : Nat) (u : Value), vs[i]? = some u → vs'[i]? = some u) : rel0 G z' vs' c v := by
  cases c with
  | sl e xs => exact SlR.mono hz h
  | mp t kt vt es => exact MpR.mono h hz
  | own i => exact ⟨hv _ _ h.1, h.2⟩
  | _ => exact h
theorem rels.mono {z z' : Nat → Blk} {vs vs' : List Value} {cs : List (CV D)} {ds : List Value} (h : L2 (rel0 G z vs) cs ds) (hz : Zle z z') (hv : ∀ (i : Nat) (u : Value), vs[i]? = some u → vs'[i]? = some u) : L2 (rel0 G z' vs') cs ds := L2.mono (fun _ _ h => rel0.mono h hz hv) h
theorem relP.mono {z z' : Nat → Blk} {vs vs' : List Value} {cs : List (CV D)} {off : Nat} {v : Value} (h : relP G z vs cs off v) (hz : Zle z z') (hv : ∀ (i : Nat) (u : Value), vs[i]? = some u → vs'[i]? = some u) : relP G z' vs' cs off v := by
  obtain ⟨b, o, ds, h1, h2, h3⟩ := h
  exact ⟨b, o, ds, h1, cellsAt_mono hz h2, rels.mono h3 hz hv⟩
theorem relT.mono {z z' : Nat → Blk} {vs vs' : List Value} {c : CV D ⊕ (Nat × List (CV D))} {v : Value} (h : relT G z vs c v) (hz : Zle z z') (hv : ∀ (i : Nat) (u : Value), vs[i]? = some u → vs'[i]? = some u) : relT G z' vs' c v := by
  cases c with
  | inl c => exact rel0.mono h hz hv
  | inr p => obtain ⟨ds, h1, h2⟩ := h; exact ⟨ds, h1, rels.mono h2 hz hv⟩
theorem rel.mono {z z' : Nat → Blk} {vs vs' : List Value} {s : SV D} {v : Value} (h : rel G z vs s v) (hz : Zle z z') (hv : ∀ (i : Nat) (u : Value), vs[i]? = some u → vs'[i]? = some u) : rel G z' vs' s v := by
  cases s with
  | un => trivial
  | undef => exact h
  | c c => exact rel0.mono h hz hv
  | agg t cs => obtain ⟨ds, h1, h2⟩ := h; exact ⟨ds, h1, rels.mono h2 hz hv⟩
  | box i off => obtain ⟨b, h1, h2⟩ := h; exact ⟨b, hv _ _ h1, h2⟩
  | arr i => obtain ⟨b, l, h1, h2⟩ := h; exact ⟨b, l, hv _ _ h1, h2⟩
  | el i e ix off => obtain ⟨b, f0, l, c, h1, h2⟩ := h; exact ⟨b, f0, l, c, hv _ _ h1, h2⟩
  | rp t cs off => exact relP.mono h hz hv
  | fn f caps => obtain ⟨gs, h1, h2⟩ := h; exact ⟨gs, h1, L2.mono (fun _ _ h => relP.mono h hz hv) h2⟩
  | tup l => obtain ⟨ds, h1, h2⟩ := h; exact ⟨ds, h1, L2.mono (fun _ _ h => relT.mono h hz hv) h2⟩
  | cut i e lo n => obtain ⟨w, h1, h2⟩ := h; exact ⟨w, rel0.mono h1 hz hv, h2⟩
  | full e xs => exact ⟨SlR.mono hz h.1, h.2⟩
theorem rel0.stor {z : Nat → Blk} {vs : List Value} {c : CV D} {v : Value} (h : rel0 G z vs c v) : storable v = true ∧ v.cells = #[v] := by
  cases c with
  | sl e xs => obtain ⟨a, c, rfl⟩ := SlR.len h; exact ⟨rfl, rfl⟩
  | mp t kt vt es => rcases h with ⟨rfl, _⟩ | ⟨r, rfl, _⟩ <;> exact ⟨rfl, rfl⟩
  | own i => exact h.2
  | _ => obtain rfl := h; exact ⟨rfl, rfl⟩
theorem ObOk.same {z : Nat → Blk} {e m m' : Mem} {k q : Option Nat} {vs vs' : List Value} {o : Ob D} {v : Value} (h : ObOk G z e m k vs o v) (s : Same m m' q) (ap : o.live = true → Ap (blkV v) q) (hv : ∀ (i : Nat) (u : Value), vs[i]? = some u → vs'[i]? = some u) : ObOk G z e m' k vs' o v := by
  have zr := Zle.refl z
  cases o with
  | dead => trivial
  | sl t xs fz w =>
    cases fz with
    | true => exact h
    | false =>
      have h : OwF (G.T t) z e m k xs v := h
      have ap := ap rfl
      rw [blkV_of (by obtain ⟨a, c, rfl⟩ := h.ow.len; intro r; simp)] at ap
      exact h.same s ap
  | box t cs fz w =>
    cases fz with
    | true => obtain ⟨b, ds, h1, h2, h3⟩ := h; exact ⟨b, ds, h1, h2, rels.mono h3 zr hv⟩
    | false =>
      obtain ⟨b, ds, rfl, h2, h4, h3⟩ := h
      exact ⟨b, ds, rfl, h2.same s (ap rfl), h4, rels.mono h3 zr hv⟩
  | recv t cs w =>
    obtain ⟨b, ds, rfl, h2, h3⟩ := h
    exact ⟨b, ds, rfl, h2.same s (ap rfl), rels.mono h3 zr hv⟩
  | arr t u n xs w =>
    obtain ⟨⟨b, rfl⟩, h⟩ := h
    exact ⟨⟨b, rfl⟩, h.same s (ap rfl)⟩
  | map t kt vt es fz w =>
    cases fz with
    | true => exact h
    | false =>
      have h : OwM (G.M t kt vt) z e m k es v := h
      have ap := ap rfl
      obtain ⟨r, rfl, _⟩ := h.ow
      exact h.same s ap
  | nest e0 t up xss hole w =>
    obtain ⟨hu, ws, h⟩ := h
    have ap := ap rfl
    rw [blkV_of (by obtain ⟨a, c, rfl⟩ := h.ow.ow.len; intro r; simp)] at ap
    refine ⟨hu, ws, h.ow.same s ap, h.len, h.inn, fun p hp => ?_⟩
    obtain ⟨h0, u, h1, h2⟩ := h.out p hp
    exact ⟨h0, u, hv _ _ h1, h2⟩
theorem ObOk.zle {z z' : Nat → Blk} {e m : Mem} {k : Option Nat} {vs : List Value} {o : Ob D} {v : Value} (h : ObOk G z e m k vs o v) (hz : Zle z z') (hb : o.live = true → ∀ b, blkV v = some b → z' b = z b) (hk : o.live = true → Lke z z' (bkV v)) : ObOk G z' e m k vs o v := by
  have hv : ∀ (i : Nat) (u : Value), vs[i]? = some u → vs[i]? = some u := fun _ _ h => h
  cases o with
  | dead => trivial
  | sl t xs fz w =>
    cases fz with
    | true => exact SlR.mono hz h
    | false =>
      have h : OwF (G.T t) z e m k xs v := h
      have hb := hb rfl
      rw [blkV_of (by obtain ⟨a, c, rfl⟩ := h.ow.len; intro r; simp)] at hb
      exact h.zle hz hb
  | box t cs fz w =>
    cases fz with
    | true => obtain ⟨b, ds, h1, h2, h3⟩ := h; exact ⟨b, ds, h1, cellsAt_mono hz h2, rels.mono h3 hz hv⟩
    | false =>
      obtain ⟨b, ds, rfl, h2, h4, h3⟩ := h
      exact ⟨b, ds, rfl, h2.zle (hb rfl), h4, rels.mono h3 hz hv⟩
  | recv t cs w =>
    obtain ⟨b, ds, rfl, h2, h3⟩ := h
    exact ⟨b, ds, rfl, h2.zle (hb rfl), rels.mono h3 hz hv⟩
  | arr t u n xs w =>
    obtain ⟨⟨b, rfl⟩, h⟩ := h
    exact ⟨⟨b, rfl⟩, h.zle hz (hb rfl)⟩
  | map t kt vt es fz w =>
    cases fz with
    | true => exact MpR.mono h hz
    | false =>
      have h : OwM (G.M t kt vt) z e m k es v := h
      have hb := hb rfl
      obtain ⟨r, rfl, _⟩ := h.ow
      exact h.zle hz hb
  | nest e0 t up xss hole w =>
    obtain ⟨hu, ws, h⟩ := h
    have hb := hb rfl
    rw [blkV_of (by obtain ⟨a, c, rfl⟩ := h.ow.ow.len; intro r; simp)] at hb
    exact ⟨hu, ws, h.ow.zle hz hb, h.len, fun j w xs h1 h2 h3 => (h.inn j w xs h1 h2 h3).zle hz (hk rfl), h.out⟩
theorem ObOk.lt {z : Nat → Blk} {e m : Mem} {k : Option Nat} {vs : List Value} {o : Ob D} {v : Value} (h : ObOk G z e m k vs o v) (hl : o.live = true) : ∀ b, blkV v = some b → b < m.next ∧ z b = .dead ∧ (e.next ≤ b ∨ k = some b) := by
  cases o with
  | dead => cases hl
  | sl t xs fz w =>
    cases fz with
    | true => cases hl
    | false =>
      have h : OwF (G.T t) z e m k xs v := h
      rw [blkV_of (by obtain ⟨a, c, rfl⟩ := h.ow.len; intro r; simp)]
      exact fun b hb => ⟨h.lt b hb, h.hq b hb⟩
  | box t cs fz w =>
    cases fz with
    | true => cases hl
    | false =>
      obtain ⟨b, ds, rfl, h2, h4, h3⟩ := h
      intro c hc; cases hc; exact ⟨h2.lt, h2.dead, h2.fresh⟩
  | recv t cs w =>
    obtain ⟨b, ds, rfl, h2, h3⟩ := h
    intro c hc; cases hc; exact ⟨h2.lt, h2.dead, h2.fresh⟩
  | arr t u n xs w =>
    obtain ⟨⟨b, rfl⟩, h⟩ := h
    intro c hc; cases hc; exact ⟨h.lt b rfl, h.hq b rfl⟩
  | map t kt vt es fz w =>
    cases fz with
    | true => cases hl
    | false =>
      have h : OwM (G.M t kt vt) z e m k es v := h
      obtain ⟨r, rfl, _⟩ := h.ow
      exact fun b hb => ⟨h.lt b hb, h.hq b hb⟩
  | nest e0 t up xss hole w =>
    obtain ⟨hu, ws, h⟩ := h
    rw [blkV_of (by obtain ⟨a, c, rfl⟩ := h.ow.ow.len; intro r; simp)]
    exact fun b hb => ⟨h.ow.lt b hb, h.ow.hq b hb⟩
variable {O : List (Ob D)} {z z' : Nat → Blk} {e m m' : Mem} {k q : Option Nat} {vs : List Value}
theorem Mm.at (h : Mm G O z e m k vs) {i : Nat} {o : Ob D} (ho : O[i]? = some o) : ∃ v, vs[i]? = some v ∧ ObOk G z e m k vs o v := by
  have hlt := (List.getElem?_eq_some_iff.1 ho).1
  have hlt' : i < vs.length := by rw [h.len]; exact hlt
  exact ⟨vs[i], List.getElem?_eq_getElem hlt', h.obj i o _ ho (List.getElem?_eq_getElem hlt')⟩
theorem Mm.turn (h : Mm G O z e m k vs) {i : Nat} {o o' : Ob D} {v : Value} (ho : O[i]? = some o) (hv : vs[i]? = some v) (hl : o.live = true) (s : Same m m' (blkV v)) (st : St z e m' k) (hn : ObOk G z e m' k vs o' v) : Mm G (O.set i o') z e m' k vs := by
  have hlt := (List.getElem?_eq_some_iff.1 ho).1
  refine ⟨st, by rw [List.length_set]; exact h.len, fun j p w hj hw => ?_, fun a b p q' u w hab ha hb la lb hu hw => ?_⟩
  · rw [List.getElem?_set] at hj
    split at hj
    · rename_i hij
      subst hij
      cases hj
      rw [hv] at hw; cases hw
      exact hn
    · rename_i hij
      exact (h.obj j p w hj hw).same s (fun hp => h.ap j i p o w v (fun e => hij e.symm) hj ho hp hl hw hv) fun _ _ h => h
  · have key : ∀ (a : Nat) (p : Ob D), (O.set i o')[a]? = some p → p.live = true → ∃ p', O[a]? = some p' ∧ p'.live = true := by
      intro a p ha hp
      rw [List.getElem?_set] at ha
      split at ha
      · rename_i hia; subst hia; exact ⟨o, ho, hl⟩
      · exact ⟨p, ha, hp⟩
    obtain ⟨p1, g1, g2⟩ := key a p ha la
    obtain ⟨p2, g3, g4⟩ := key b q' hb lb
    exact h.ap a b p1 p2 u w hab g1 g3 g2 g4 hu hw
theorem ext_get {vs ws : List Value} : ∀ (i : Nat) (u : Value), vs[i]? = some u → (vs ++ ws)[i]? = some u := fun i u h => by
  rw [List.getElem?_append_left (List.getElem?_eq_some_iff.1 h).1]; exact h
theorem Mm.push (h : Mm G O z e m k vs) {o' : Ob D} {v' : Value} (s : Same m m' q) (st : St z e m' k) (hq : ∀ (i : Nat) (o : Ob D) (v : Value), O[i]? = some o → vs[i]? = some v → o.live = true → Ap (blkV v) q)
    (hn : ObOk G z e m' k (vs ++ [v']) o' v') (hap : ∀ p, (∀ b, p = some b → b < m.next) → Ap p q → Ap p (blkV v')) : Mm G (O ++ [o']) z e m' k (vs ++ [v']) := by
  refine ⟨st, by simp [h.len], fun j p w hj hw => ?_, fun a b p q' u w hab ha hb la lb hu hw => ?_⟩
  · by_cases hlt : j < O.length
    · rw [List.getElem?_append_left hlt] at hj
      rw [List.getElem?_append_left (by rw [h.len]; exact hlt)] at hw
      exact (h.obj j p w hj hw).same s (fun hp => hq j p w hj hw hp) ext_get
    · rw [List.getElem?_append_right (by omega)] at hj
      rw [List.getElem?_append_right (by rw [h.len]; omega), h.len] at hw
      have : j - O.length = 0 := by have := (List.getElem?_eq_some_iff.1 hj).1; simp at this; omega
      rw [this] at hj hw
      simp at hj hw
      subst hj hw
      exact hn
  · have old : ∀ (a : Nat) (p : Ob D) (u : Value), a < O.length → (O ++ [o'])[a]? = some p → (vs ++ [v'])[a]? = some u → O[a]? = some p ∧ vs[a]? = some u := by
      intro a p u hlt ha hu
      rw [List.getElem?_append_left hlt] at ha
      rw [List.getElem?_append_left (by rw [h.len]; exact hlt)] at hu
      exact ⟨ha, hu⟩
    have new : ∀ (a : Nat) (p : Ob D) (u : Value), ¬ a < O.length → (O ++ [o'])[a]? = some p → (vs ++ [v'])[a]? = some u → a = O.length ∧ u = v' := by
      intro a p u hlt ha hu
      rw [List.getElem?_append_right (by omega)] at ha
      have h0 : a - O.length = 0 := by have := (List.getElem?_eq_some_iff.1 ha).1; simp at this; omega
      rw [List.getElem?_append_right (by rw [h.len]; omega), h.len, h0] at hu
      simp at hu
      exact ⟨by omega, hu.symm⟩
    have lt : ∀ (a : Nat) (p : Ob D) (u : Value), O[a]? = some p → vs[a]? = some u → p.live = true → Ap (blkV u) (blkV v') := fun a p u ha hu hl => hap _ (fun b hb => ((h.obj a p u ha hu).lt hl b hb).1) (hq a p u ha hu hl)
    by_cases h1 : a < O.length
    · obtain ⟨a1, a2⟩ := old a p u h1 ha hu
      by_cases h2 : b < O.length
      · obtain ⟨b1, b2⟩ := old b q' w h2 hb hw
        exact h.ap a b p q' u w hab a1 b1 la lb a2 b2
      · obtain ⟨_, rfl⟩ := new b q' w h2 hb hw
        exact lt a p u a1 a2 la
    · obtain ⟨e1, rfl⟩ := new a p u h1 ha hu
      by_cases h2 : b < O.length
      · obtain ⟨b1, b2⟩ := old b q' w h2 hb hw
        exact (lt b q' w b1 b2 lb).symm
      · obtain ⟨e2, _⟩ := new b q' w h2 hb hw
        omega
theorem Mm.frz (h : Mm G O z e m k vs) {i : Nat} {o o' : Ob D} {v : Value} (ho : O[i]? = some o) (hv : vs[i]? = some v) (hl : o.live = true) (hl' : o'.live = false) (hz : Zle z z') (st : St z' e m k) (hb : ∀ p, Ap p (blkV v) → ∀ b, p = some b → z' b = z b) (hn : ObOk G z' e m k vs o' v) : Mm G (O.set i o') z' e m k vs := by
  have hlt := (List.getElem?_eq_some_iff.1 ho).1
  refine ⟨st, by rw [List.length_set]; exact h.len, fun j p w hj hw => ?_, fun a b p q' u w hab ha hb' la lb hu hw => ?_⟩
  · rw [List.getElem?_set] at hj
    split at hj
    · rename_i hij
      subst hij
      cases hj
      rw [hv] at hw; cases hw
      exact hn
    · rename_i hij
      exact (h.obj j p w hj hw).zle hz (fun hp => hb _ (h.ap j i p o w v (fun e => hij e.symm) hj ho hp hl hw hv)) fun _ b j L t hb' => hb (some b) (fun c hc hv' => by
        cases hc
        have := ((h.obj i o v ho hv).lt hl b hv').2.1
        rw [this] at hb'; cases hb') b rfl
  · have key : ∀ (a : Nat) (p : Ob D), (O.set i o')[a]? = some p → p.live = true → O[a]? = some p := by
      intro a p ha hp
      rw [List.getElem?_set] at ha
      split at ha
      · rename_i hia; subst hia; cases ha; rw [hl'] at hp; cases hp
      · exact ha
    exact h.ap a b p q' u w hab (key a p ha la) (key b q' hb' lb) la lb hu hw
end
end Go.AM
end
