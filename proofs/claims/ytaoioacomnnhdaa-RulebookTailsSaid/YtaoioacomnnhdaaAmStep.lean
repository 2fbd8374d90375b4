/- One operation of the abstract machine is one of the model: in the model's weakest preconditions. -/
import Derived.Test.YtaoioacomnnhdaaAmTrace
set_option linter.unusedSimpArgs false
set_option linter.unusedVariables false
namespace Go.AM

/-- What is known of calls. -/
def SoundC (P : Program) (C : FuncId → Array Value → Mem → Value → Mem → Prop) : Prop := ∀ f args m v m', C f args m v m' → ∀ (j : Emb) (w : World) (cargs : Array Value), WF m → Rel P j m w → L2 (VR j) args.toList cargs.toList →
  (∃ fn, P.funcs[f]? = some fn ∧ (fn.name == "runtime.NumGoroutine") = false ∧ fn.body.isNone = false) ∧
  Calls P f cargs w fun e w' => ∃ cv j', e = .returned cv ∧ Post P j m w j' m' w' ∧ VR j' v cv

theorem VR_low {j : Emb} {n : Nat} (hj : ∀ b e, j b = some e → b < n) {v cv : Value} : (VR0 j v cv → low0 n v) ∧ (VR1 j v cv → low1 n v) ∧ (VR j v cv → low n v) := by
  have h0 : ∀ {v cv : Value}, VR0 j v cv → low0 n v := by
    intro v cv h
    cases v with
    | pointer a => cases a with
      | none => exact True.intro
      | some a => obtain ⟨e, _, h, _⟩ := h; exact hj _ _ h
    | slice a l c => cases a with
      | none => exact True.intro
      | some a => obtain ⟨e, _, h, _⟩ := h; exact hj _ _ h
    | map r => cases r with
      | none => exact True.intro
      | some r => obtain ⟨e, h, _⟩ := h; exact hj _ _ h
    | chan _ => exact h
    | func _ _ _ => exact h
    | iface _ _ => exact h
    | agg _ => exact h
    | tuple _ => exact h
    | _ => exact True.intro
  have hl : ∀ {R : Value → Value → Prop} {p : Value → Prop}, (∀ a b, R a b → p a) → ∀ {l k : List Value}, L2 R l k → ∀ v ∈ l, p v := by
    intro R p hRp l
    induction l with
    | nil => intro k _ v hv; simp at hv
    | cons a l ih =>
      intro k h v hv
      cases k with
      | nil => exact h.elim
      | cons b k =>
        rcases List.mem_cons.1 hv with rfl | hv
        · exact hRp _ _ h.1
        · exact ih h.2 v hv
  have h1 : ∀ {v cv : Value}, VR1 j v cv → low1 n v := by
    intro v cv h
    cases v with
    | agg cs => obtain ⟨ds, _, h⟩ := h; exact hl (R := VR0 j) (p := low0 n) (fun a b => h0) h
    | _ => simp only [VR1] at h; simp only [low1]; exact h0 h
  refine ⟨h0, h1, ?_⟩
  intro h
  cases v with
  | tuple cs => obtain ⟨ds, _, h⟩ := h; exact hl (R := VR1 j) (p := low1 n) (fun a b => h1) h
  | func fn a b => obtain ⟨gs, ds, _, h, h'⟩ := h; exact ⟨hl (R := VR1 j) (p := low1 n) (fun a b => h1) h, hl (R := VR1 j) (p := low1 n) (fun a b => h1) h'⟩
  | _ => simp only [VR] at h; simp only [low]; exact h1 h

/-- The embedding below 'n'. -/
def Emb.below (j : Emb) (n : Nat) : Emb := fun b => if b < n then j b else none

theorem below_some {j : Emb} {n b : Nat} {e : Emb1} (h : j.below n b = some e) : b < n ∧ j b = some e := by
  unfold Emb.below at h
  split at h
  · exact ⟨‹_›, h⟩
  · cases h
theorem below_of {j : Emb} {n b : Nat} {e : Emb1} (h : b < n) (hj : j b = some e) : j.below n b = some e := by simp [Emb.below, h, hj]

theorem VR_below {j : Emb} {n : Nat} {v cv : Value} : (VR0 j v cv → low0 n v → VR0 (j.below n) v cv) ∧ (VR1 j v cv → low1 n v → VR1 (j.below n) v cv) ∧ (VR j v cv → low n v → VR (j.below n) v cv) := by
  have h0 : ∀ {v cv : Value}, VR0 j v cv → low0 n v → VR0 (j.below n) v cv := by
    intro v cv h hl
    cases v with
    | pointer a => cases a with
      | none => exact h
      | some a => obtain ⟨e, h1, h2, h3⟩ := h; exact ⟨e, h1, below_of hl h2, h3⟩
    | slice a l c => cases a with
      | none => exact h
      | some a => obtain ⟨e, h1, h2, h3⟩ := h; exact ⟨e, h1, below_of hl h2, h3⟩
    | map r => cases r with
      | none => exact h
      | some r => obtain ⟨e, h2, h3⟩ := h; exact ⟨e, below_of hl h2, h3⟩
    | _ => exact h
  have hl2 : ∀ {R S : Value → Value → Prop} {p : Value → Prop}, (∀ a b, R a b → p a → S a b) → ∀ {l k : List Value}, L2 R l k → (∀ v ∈ l, p v) → L2 S l k := by
    intro R S p hRS l
    induction l with
    | nil => intro k h _; cases k with | nil => exact True.intro | cons _ _ => exact h.elim
    | cons a l ih =>
      intro k h hp
      cases k with
      | nil => exact h.elim
      | cons b k => exact ⟨hRS _ _ h.1 (hp a (by simp)), ih h.2 fun v hv => hp v (by simp [hv])⟩
  have h1 : ∀ {v cv : Value}, VR1 j v cv → low1 n v → VR1 (j.below n) v cv := by
    intro v cv h hl
    cases v with
    | agg cs => obtain ⟨ds, e1, h⟩ := h; exact ⟨ds, e1, hl2 (R := VR0 j) (S := VR0 (j.below n)) (p := low0 n) (fun a b => h0) h hl⟩
    | _ => simp only [VR1] at h ⊢; simp only [low1] at hl; exact h0 h hl
  refine ⟨h0, h1, ?_⟩
  intro h hl
  cases v with
  | tuple cs => obtain ⟨ds, e1, h⟩ := h; exact ⟨ds, e1, hl2 (R := VR1 j) (S := VR1 (j.below n)) (p := low1 n) (fun a b => h1) h hl⟩
  | func fn a b => obtain ⟨gs, ds, e1, h, h'⟩ := h; exact ⟨gs, ds, e1, hl2 (R := VR1 j) (S := VR1 (j.below n)) (p := low1 n) (fun a b => h1) h hl.1, hl2 (R := VR1 j) (S := VR1 (j.below n)) (p := low1 n) (fun a b => h1) h' hl.2⟩
  | _ => simp only [VR] at h ⊢; simp only [low] at hl; exact h1 h hl

theorem L2.mapA {α β γ : Type} {R : β → γ → Prop} (f : α → β) (g : α → γ) (A : Array α) (h : ∀ x ∈ A.toList, R (f x) (g x)) : L2 R (A.map f).toList (A.map g).toList := by
  simp only [Array.toList_map]; exact L2.map f g _ h

theorem callFunc_run {P : Program} {f : FuncId} {fn : Func} {args : Array Value} {w : World} (hf : P.funcs[f]? = some fn) (hname : (fn.name == "runtime.NumGoroutine") = false) (hbody : fn.body.isNone = false) : (callFunc f args).run P w = .ok (.enter f args) w := by
  simp only [callFunc, Sem.run_bind, run_program, Result.andThen_ok, hf, hname, hbody, if_false, Bool.false_eq_true, Sem.run_pure]

theorem eff_wp {P : Program} {C : FuncId → Array Value → Mem → Value → Mem → Prop} {j : Emb} {ρ : Operand → Value} {o : Oper} {m m' : Mem} {w : World} {v : Value} {a : Act} (h : EffR P C ρ o m v m') (hO : OpsR j ρ a.eval o) (hR : Rel P j m w) (hW : WF m) (hS : SoundC P C)
    {K : Act → World → Prop} {Q : Exit → Act → World → Prop} (hK : ∀ cv w' j', Post P j m w j' m' w' → VR j' v cv → K (a.put o.dst cv) w') : o.wp P a w K Q := by
  rcases eff_sound h hO hR with ⟨n, cv, w', j', hr, hn, hp, hv⟩ | ⟨f, args, hc, hC⟩
  · unfold Oper.wp
    rw [hr]
    rcases hn with rfl | ⟨rfl, rfl⟩
    · exact hK cv w' j' hp hv
    · exact hK undef w' j' hp hv
  · obtain ⟨x, as, ts, first, captured, hop, hx, rfl⟩ := hc
    have hX := hO x (by simp [hop, Op.operands, Call.operands])
    rw [hx] at hX
    obtain ⟨gs, ds, hcx, h1, h2⟩ := hX
    have hargs : L2 (VR j) (first ++ as.map ρ ++ captured).toList (gs ++ as.map a.eval ++ ds).toList := by
      simp only [Array.toList_append]
      refine L2.append (L2.append (h1.mono fun _ _ => VR.of1) (L2.mapA _ _ _ fun y hy => ?_)) (h2.mono fun _ _ => VR.of1)
      exact hO y (by simp [hop, Op.operands, Call.operands]; exact .inr (by simpa using hy))
    obtain ⟨⟨fn, hf, hname, hbody⟩, hcalls⟩ := hS _ _ _ _ _ hC j w _ hW hR hargs
    have hrun : (execOp a.eval o).run P w = .ok (.enter f (gs ++ as.map a.eval ++ ds)) w := by
      simp only [execOp, hop, resolve, hcx, Deferred.ofValue, invoke, Sem.run_bind, Sem.run_pure, Result.andThen_ok, callFunc_run hf hname hbody]
    unfold Oper.wp
    rw [hrun, Oper.upon_enter]
    refine hcalls.mono ?_
    rintro e w' ⟨cv, j', rfl, hp, hv⟩
    exact hK cv w' j' hp hv

end Go.AM
