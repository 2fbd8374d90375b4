/- A region whose order is open: its run in the order of the text, laid out as a trace. -/
import Derived.Test.YtaoioacomnnhdaaAmLow
set_option linter.unusedSimpArgs false
set_option linter.unusedVariables false
namespace Go.AM

/-- What operation 'o' does at its place in the text. -/
def RunAt (P : Program) (C : FuncId → Array Value → Mem → Value → Mem → Prop) (ops : List Oper) (o : Oper) (fr : Nat → Value) (m : Mem) (v : Value) (m' : Mem) (k : Nat) : Prop :=
  (k = 0 ∧ wanted ops fr o = false ∧ v = undef ∧ m' = m) ∨
  (k = 1 ∧ wanted ops fr o = true ∧ PureR P (ev fr) o v ∧ m' = m) ∨
  (k = 2 ∧ wanted ops fr o = true ∧ ReadR P (ev fr) o m v ∧ m' = m) ∨
  (k = 3 ∧ wanted ops fr o = true ∧ ∃ X, NewR P (ev fr) o m.next X v ∧ m' = m.push X) ∨
  (k = 4 ∧ wanted ops fr o = true ∧ EffR P C (ev fr) o m v m')

/-- A trace from place 'i' on. -/
structure Tr (P : Program) (C : FuncId → Array Value → Mem → Value → Mem → Prop) (ops : List Oper) (B : Array Nat) (i : Nat) (l : List Oper) (fs : Nat → Nat → Value) (ms : Nat → Mem) (vs : Nat → Value) (kd : Nat → Nat) : Prop where
  frame : ∀ n o, l[n]? = some o → fs (i + n + 1) = set (fs (i + n)) o.dst (vs (i + n))
  run : ∀ n o, l[n]? = some o → RunAt P C ops o (fs (i + n)) (ms (i + n)) (vs (i + n)) (ms (i + n + 1)) (kd (i + n))
  after : ∀ r e o, l[r]? = some o → kd (i + r) = 2 → e < l.length → kd (i + e) = 4 → r < e → anc B (i + e) (i + r) = false → ReadR P (ev (fs (i + r))) o (ms (i + e + 1)) (vs (i + r))
  news : ∀ x e, x < l.length → kd (i + x) = 3 → e < l.length → kd (i + e) = 4 → x < e → anc B (i + e) (i + x) = false → (ms (i + e + 1)).blk (ms (i + x)).next = (ms (i + e)).blk (ms (i + x)).next
  ahead : ∀ r e o, l[r]? = some o → kd (i + r) = 2 → e < l.length → kd (i + e) = 4 → e < r → anc B (i + r) (i + e) = false → ReadR P (ev (fs (i + r))) o (ms (i + e)) (vs (i + r))

theorem trace {P : Program} {C : FuncId → Array Value → Mem → Value → Mem → Prop} {ops : List Oper} {B : Array Nat} : ∀ (l : List Oper) (i : Nat) (A : Acc) (fr : Nat → Value) (m : Mem) (fr' : Nat → Value) (m' : Mem), drawR P C ops B i l A fr m fr' m' →
    ∃ fs ms vs kd, Tr P C ops B i l fs ms vs kd ∧ fs i = fr ∧ ms i = m ∧ fs (i + l.length) = fr' ∧ ms (i + l.length) = m' ∧
      (∀ x ∈ A.reads, ∀ e, e < l.length → kd (i + e) = 4 → anc B (i + e) x.1 = false → x.2 (ms (i + e + 1))) ∧
      (∀ x ∈ A.effs, ∀ r o, l[r]? = some o → kd (i + r) = 2 → anc B (i + r) x.1 = false → ReadR P (ev (fs (i + r))) o x.2 (vs (i + r))) ∧
      (∀ x ∈ A.news, ∀ e, e < l.length → kd (i + e) = 4 → anc B (i + e) x.1 = false → (ms (i + e + 1)).blk x.2 = (ms (i + e)).blk x.2)
  | [], i, A, fr, m, fr', m', h => by
    simp only [drawR] at h
    obtain ⟨rfl, rfl⟩ := h
    refine ⟨fun _ => fr', fun _ => m', fun _ => undef, fun _ => 0, ⟨?_, ?_, ?_, ?_, ?_⟩, rfl, rfl, rfl, rfl, ?_, ?_, ?_⟩
    all_goals (intros; simp at *)
  | o :: os, i, A, fr, m, fr', m', h => by
    -- one step, and the rest
    have key : ∀ (v : Value) (m1 : Mem) (k : Nat) (A' : Acc), RunAt P C ops o fr m v m1 k → drawR P C ops B (i + 1) os A' (set fr o.dst v) m1 fr' m' →
        (∀ x ∈ A.reads, x ∈ A'.reads) → (∀ x ∈ A.effs, x ∈ A'.effs) → (k = 2 → (i, fun m => ReadR P (ev fr) o m v) ∈ A'.reads) → (k = 4 → (i, m) ∈ A'.effs) →
        (k = 2 → ∀ x ∈ A.effs, anc B i x.1 = false → ReadR P (ev fr) o x.2 v) → (k = 4 → ∀ x ∈ A.reads, anc B i x.1 = false → x.2 m1) → (∀ x ∈ A.news, x ∈ A'.news) → (k = 3 → (i, m.next) ∈ A'.news) → (k = 4 → ∀ x ∈ A.news, anc B i x.1 = false → m1.blk x.2 = m.blk x.2) →
        ∃ fs ms vs kd, Tr P C ops B i (o :: os) fs ms vs kd ∧ fs i = fr ∧ ms i = m ∧ fs (i + (o :: os).length) = fr' ∧ ms (i + (o :: os).length) = m' ∧
          (∀ x ∈ A.reads, ∀ e, e < (o :: os).length → kd (i + e) = 4 → anc B (i + e) x.1 = false → x.2 (ms (i + e + 1))) ∧
          (∀ x ∈ A.effs, ∀ r o', (o :: os)[r]? = some o' → kd (i + r) = 2 → anc B (i + r) x.1 = false → ReadR P (ev (fs (i + r))) o' x.2 (vs (i + r))) ∧
          (∀ x ∈ A.news, ∀ e, e < (o :: os).length → kd (i + e) = 4 → anc B (i + e) x.1 = false → (ms (i + e + 1)).blk x.2 = (ms (i + e)).blk x.2) := by
      intro v m1 k A' hrun hd hAr hAe hk2 hk4 hr2 hr4 hAn hk3 hn4
      obtain ⟨fs, ms, vs, kd, ht, h1, h2, h3, h4, h5, h6, h7⟩ := trace os (i + 1) A' _ _ _ _ hd
      refine ⟨fun n => if n = i then fr else fs n, fun n => if n = i then m else ms n, fun n => if n = i then v else vs n, fun n => if n = i then k else kd n, ⟨?_, ?_, ?_, ?_, ?_⟩, by simp, by simp, ?_, ?_, ?_, ?_, ?_⟩
      · intro n o' hn
        cases n with
        | zero =>
          simp only [List.getElem?_cons_zero, Option.some.injEq] at hn
          subst hn
          simp only [Nat.add_zero, if_pos, Nat.succ_ne_self, if_false, Nat.add_eq_left, Nat.one_ne_zero, h1]
        | succ n =>
          have e1 : i + (n + 1) = i + 1 + n := by omega
          have := ht.frame n o' (by simpa using hn)
          rw [e1]
          simp only [show ¬ (i + 1 + n + 1 = i) by omega, show ¬ (i + 1 + n = i) by omega, if_false, this]
      · intro n o' hn
        cases n with
        | zero =>
          simp only [List.getElem?_cons_zero, Option.some.injEq] at hn
          subst hn
          simp only [Nat.add_zero, if_pos, Nat.add_eq_left, Nat.one_ne_zero, if_false, h2]
          exact hrun
        | succ n =>
          have e1 : i + (n + 1) = i + 1 + n := by omega
          have := ht.run n o' (by simpa using hn)
          rw [e1]
          simp only [show ¬ (i + 1 + n + 1 = i) by omega, show ¬ (i + 1 + n = i) by omega, if_false]
          exact this
      · intro r e o' hr hk he hke hre hanc
        cases e with
        | zero => omega
        | succ e =>
          have e1 : i + (e + 1) = i + 1 + e := by omega
          rw [e1] at hke hanc ⊢
          simp only [show ¬ (i + 1 + e = i) by omega, if_false] at hke
          simp only [show ¬ (i + 1 + e + 1 = i) by omega, if_false]
          cases r with
          | zero =>
            simp only [List.getElem?_cons_zero, Option.some.injEq] at hr
            subst hr
            simp only [Nat.add_zero, if_pos] at hk hanc ⊢
            exact h5 _ (hk2 hk) e (by simpa using he) hke hanc
          | succ r =>
            have e2 : i + (r + 1) = i + 1 + r := by omega
            rw [e2] at hk hanc ⊢
            simp only [show ¬ (i + 1 + r = i) by omega, if_false] at hk ⊢
            exact ht.after r e o' (by simpa using hr) hk (by simpa using he) hke (by omega) hanc
      · intro x e hx hk he hke hxe hanc
        cases e with
        | zero => omega
        | succ e =>
          have e1 : i + (e + 1) = i + 1 + e := by omega
          rw [e1] at hke hanc ⊢
          simp only [show ¬ (i + 1 + e = i) by omega, if_false] at hke
          simp only [show ¬ (i + 1 + e + 1 = i) by omega, show ¬ (i + 1 + e = i) by omega, if_false]
          cases x with
          | zero =>
            simp only [Nat.add_zero, if_pos] at hk hanc ⊢
            exact h7 _ (hk3 hk) e (by simpa using he) hke hanc
          | succ x =>
            have e2 : i + (x + 1) = i + 1 + x := by omega
            rw [e2] at hk hanc ⊢
            simp only [show ¬ (i + 1 + x = i) by omega, if_false] at hk ⊢
            exact ht.news x e (by simpa using hx) hk (by simpa using he) hke (by omega) hanc
      · intro r e o' hr hk he hke hre hanc
        cases r with
        | zero => omega
        | succ r =>
          have e2 : i + (r + 1) = i + 1 + r := by omega
          rw [e2] at hk hanc ⊢
          simp only [show ¬ (i + 1 + r = i) by omega, if_false] at hk ⊢
          cases e with
          | zero =>
            simp only [Nat.add_zero, if_pos] at hke hanc ⊢
            exact h6 _ (hk4 hke) r o' (by simpa using hr) hk hanc
          | succ e =>
            have e1 : i + (e + 1) = i + 1 + e := by omega
            rw [e1] at hke hanc ⊢
            simp only [show ¬ (i + 1 + e = i) by omega, if_false] at hke ⊢
            exact ht.ahead r e o' (by simpa using hr) hk (by simpa using he) hke (by omega) hanc
      · have e1 : i + (o :: os).length = i + 1 + os.length := by simp; omega
        rw [e1]
        simp only [show ¬ (i + 1 + os.length = i) by omega, if_false, h3]
      · have e1 : i + (o :: os).length = i + 1 + os.length := by simp; omega
        rw [e1]
        simp only [show ¬ (i + 1 + os.length = i) by omega, if_false, h4]
      · intro x hx e he hke hanc
        cases e with
        | zero =>
          simp only [Nat.add_zero, if_pos, Nat.add_eq_left, Nat.one_ne_zero, if_false, h2] at hke hanc ⊢
          exact hr4 hke x hx hanc
        | succ e =>
          have e1 : i + (e + 1) = i + 1 + e := by omega
          rw [e1] at hke hanc ⊢
          simp only [show ¬ (i + 1 + e = i) by omega, if_false] at hke
          simp only [show ¬ (i + 1 + e + 1 = i) by omega, if_false]
          exact h5 x (hAr x hx) e (by simpa using he) hke hanc
      · intro x hx r o' hr hk hanc
        cases r with
        | zero =>
          simp only [List.getElem?_cons_zero, Option.some.injEq] at hr
          subst hr
          simp only [Nat.add_zero, if_pos] at hk hanc ⊢
          exact hr2 hk x hx hanc
        | succ r =>
          have e2 : i + (r + 1) = i + 1 + r := by omega
          rw [e2] at hk hanc ⊢
          simp only [show ¬ (i + 1 + r = i) by omega, if_false] at hk ⊢
          exact h6 x (hAe x hx) r o' (by simpa using hr) hk hanc
      · intro x hx e he hke hanc
        cases e with
        | zero =>
          simp only [Nat.add_zero, if_pos, Nat.add_eq_left, Nat.one_ne_zero, if_false, h2] at hke hanc ⊢
          exact hn4 hke x hx hanc
        | succ e =>
          have e1 : i + (e + 1) = i + 1 + e := by omega
          rw [e1] at hke hanc ⊢
          simp only [show ¬ (i + 1 + e = i) by omega, if_false] at hke
          simp only [show ¬ (i + 1 + e + 1 = i) by omega, show ¬ (i + 1 + e = i) by omega, if_false]
          exact h7 x (hAn x hx) e (by simpa using he) hke hanc
    simp only [drawR] at h
    split at h
    · rename_i hw
      rcases h with ⟨v, hp, hd⟩ | ⟨v, hp, hobl, hd⟩ | ⟨X, v, hp, hd⟩ | ⟨v, m1, hp, hobl, hobl2, hd⟩
      · exact key v m 1 A (.inr (.inl ⟨rfl, hw, hp, rfl⟩)) hd (fun _ h => h) (fun _ h => h) (by simp) (by simp) (by simp) (by simp) (fun _ h => h) (by simp) (by simp)
      · exact key v m 2 _ (.inr (.inr (.inl ⟨rfl, hw, hp, rfl⟩))) hd (fun _ h => by simp [h]) (fun _ h => h) (fun _ => by simp) (by simp) (fun _ => hobl) (by simp) (fun _ h => h) (by simp) (by simp)
      · exact key v _ 3 _ (.inr (.inr (.inr (.inl ⟨rfl, hw, X, hp, rfl⟩)))) hd (fun _ h => h) (fun _ h => h) (by simp) (by simp) (by simp) (by simp) (fun _ h => by simp [h]) (fun _ => by simp) (by simp)
      · exact key v m1 4 _ (.inr (.inr (.inr (.inr ⟨rfl, hw, hp⟩)))) hd (fun _ h => h) (fun _ h => by simp [h]) (by simp) (fun _ => by simp) (by simp) (fun _ => hobl) (fun _ h => h) (by simp) (fun _ => hobl2)
    · rename_i hw
      exact key undef m 0 A (.inl ⟨rfl, by simpa using hw, rfl, rfl⟩) h (fun _ h => h) (fun _ h => h) (by simp) (by simp) (by simp) (by simp) (fun _ h => h) (by simp) (by simp)

end Go.AM
