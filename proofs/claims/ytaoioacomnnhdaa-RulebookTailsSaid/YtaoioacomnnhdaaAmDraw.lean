/- A region whose order is open: what is asked of its form, what holds along its trace. -/
import Derived.Test.YtaoioacomnnhdaaAmStep
set_option linter.unusedSimpArgs false
set_option linter.unusedVariables false
namespace Go.AM

theorem drawOk_on {ops : Array Oper} (h : drawOk ops = true) {i : Nat} {o : Oper} (ho : ops[i]? = some o) {e : Edge} (he : e ∈ o.after) (hb : Region.binds .any e = true) : e.on < i := by
  simp only [drawOk, List.all_eq_true, List.mem_range] at h
  have := h i (Array.getElem?_eq_some_iff.1 ho).1
  simp only [ho, Bool.and_eq_true, List.all_eq_true] at this
  have := this.1 e (by simpa using he)
  simpa [hb] using this

theorem drawOk_clash {ops : Array Oper} (h : drawOk ops = true) {i x : Nat} {o y : Oper} (ho : ops[i]? = some o) (hy : ops[x]? = some y) (hx : x < i) (hc : clash ops y o = true) : anc (Region.before ops) i x = true := by
  simp only [drawOk, List.all_eq_true, List.mem_range] at h
  have := h i (Array.getElem?_eq_some_iff.1 ho).1
  simp only [ho, Bool.and_eq_true, List.all_eq_true] at this
  have := this.2 x (by simpa using hx)
  simpa [hy, hc] using this

/-- A set of operations that holds whatever its members wait for. -/
def Closed (ops : Array Oper) (S : Nat → Prop) : Prop := ∀ a o, S a → ops[a]? = some o → ∀ e ∈ o.after, Region.binds .any e = true → S e.on

def bstep (acc : Array Nat) (o : Oper) : Array Nat := acc.push (o.after.foldl (fun s e => if Region.binds .any e then s ||| 2 ^ e.on ||| acc.getD e.on 0 else s) 0)

def Good (ops : Array Oper) (i bits : Nat) : Prop := ∀ x, bits.testBit x = true → ∀ S, Closed ops S → (∀ o, ops[i]? = some o → ∀ e ∈ o.after, Region.binds .any e = true → S e.on) → S x

theorem bits_spec (acc : Array Nat) : ∀ (l : List Edge) (s x : Nat), (l.foldl (fun s e => if Region.binds .any e then s ||| 2 ^ e.on ||| acc.getD e.on 0 else s) s).testBit x = true →
    s.testBit x = true ∨ ∃ e ∈ l, Region.binds .any e = true ∧ (x = e.on ∨ (acc.getD e.on 0).testBit x = true)
  | [], s, x, h => .inl h
  | e :: l, s, x, h => by
    simp only [List.foldl_cons] at h
    rcases bits_spec acc l _ x h with h | ⟨e', he', hb, hx⟩
    · split at h
      · rename_i hb
        simp only [Nat.testBit_or, Bool.or_eq_true, Nat.testBit_two_pow, decide_eq_true_eq] at h
        rcases h with (h | h) | h
        · exact .inl h
        · exact .inr ⟨e, by simp, hb, .inl h.symm⟩
        · exact .inr ⟨e, by simp, hb, .inr h⟩
      · exact .inl h
    · exact .inr ⟨e', by simp [he'], hb, hx⟩

theorem before_spec {ops : Array Oper} : ∀ (l pre : List Oper) (acc : Array Nat), ops.toList = pre ++ l → acc.size = pre.length → (∀ i, i < acc.size → Good ops i (acc.getD i 0)) →
    ∀ i, Good ops i ((l.foldl bstep acc).getD i 0)
  | [], pre, acc, hp, hs, hg => by
    intro i
    by_cases hi : i < acc.size
    · exact hg i hi
    · simp only [List.foldl_nil]
      intro x hx
      simp [Array.getD, hi] at hx
  | o :: l, pre, acc, hp, hs, hg => by
    simp only [List.foldl_cons]
    refine before_spec l (pre ++ [o]) (bstep acc o) (by simp [hp]) (by simp [bstep, hs]) ?_
    intro i hi
    by_cases h : i < acc.size
    · have : (bstep acc o).getD i 0 = acc.getD i 0 := by
        simp only [bstep, Array.getD, Array.size_push, h, Nat.lt_succ_of_lt h, dite_true]
        simp [Array.getElem_push, h]
      rw [this]; exact hg i h
    · have hie : i = acc.size := by simp [bstep] at hi; omega
      subst hie
      have hoi : ops[acc.size]? = some o := by
        rw [← Array.getElem?_toList, hp, hs]; simp
      intro x hx S hS hd
      have hb : (bstep acc o).getD acc.size 0 = o.after.foldl (fun s e => if Region.binds .any e then s ||| 2 ^ e.on ||| acc.getD e.on 0 else s) 0 := by
        simp [bstep, Array.getD]
      rw [hb, ← Array.foldl_toList] at hx
      rcases bits_spec acc _ 0 x hx with h0 | ⟨e, he, hbn, hxe⟩
      · simp at h0
      · have hse := hd o hoi e (by simpa using he) hbn
        rcases hxe with rfl | hxe
        · exact hse
        · by_cases hlt : e.on < acc.size
          · exact hg e.on hlt x hxe S hS fun o' ho' e' he' hb' => hS e.on o' hse ho' e' he' hb'
          · simp [Array.getD, hlt] at hxe

theorem anc_closed {ops : Array Oper} {i x : Nat} (h : anc (Region.before ops) i x = true) {S : Nat → Prop} (hS : Closed ops S) (hd : ∀ o, ops[i]? = some o → ∀ e ∈ o.after, Region.binds .any e = true → S e.on) : S x := by
  have hb : Region.before ops = ops.toList.foldl bstep #[] := by
    rw [show Region.before ops = ops.foldl bstep #[] from rfl, ← Array.foldl_toList]
  have := before_spec (ops := ops) ops.toList [] #[] (by simp) (by simp) (by intro i hi; simp at hi) i
  rw [← hb] at this
  exact this x h S hS hd

/-- What holds along a trace. -/
theorem trace_wf {P : Program} {C : FuncId → Array Value → Mem → Value → Mem → Prop} {ops : List Oper} {B : Array Nat} {fs : Nat → Nat → Value} {ms : Nat → Mem} {vs : Nat → Value} {kd : Nat → Nat} (T : Tr P C ops B 0 ops fs ms vs kd)
    (hC : KeepsC C) (hX : ∀ o ∈ ops, ∀ x ∈ o.op.operands, okX x = true) (h0 : WF (ms 0)) (hl : ∀ t, low (ms 0).next (fs 0 t)) : ∀ i, i ≤ ops.length → WF (ms i) ∧ (∀ t, low (ms i).next (fs i t)) ∧ (∀ n, n < i → (ms n).next ≤ (ms (n + 1)).next ∧ low (ms (n + 1)).next (vs n))
  | 0, _ => ⟨h0, hl, fun n hn => by omega⟩
  | i + 1, hi => by
    obtain ⟨h1, h2, h3⟩ := trace_wf T hC hX h0 hl i (by omega)
    have ho : ops[i]? = some ops[i] := by simp [show i < ops.length by omega]
    have hr := T.run i ops[i] ho
    have hf := T.frame i ops[i] ho
    simp only [Nat.zero_add] at hr hf
    have hm := hX ops[i] (by simp)
    have step : low (ms (i + 1)).next (vs i) ∧ WF (ms (i + 1)) ∧ (ms i).next ≤ (ms (i + 1)).next := by
      rcases hr with ⟨_, _, hv, hmm⟩ | ⟨_, _, hp, hmm⟩ | ⟨_, _, hp, hmm⟩ | ⟨_, _, Xb, hp, hmm⟩ | ⟨_, _, hp⟩
      · rw [hmm, hv]; exact ⟨undef_low, h1, Nat.le_refl _⟩
      · rw [hmm]; exact step_low (.pure hp) h1 h2 hC hm
      · rw [hmm]; exact step_low (.read hp) h1 h2 hC hm
      · rw [hmm]; exact step_low (.new hp) h1 h2 hC hm
      · exact step_low (.eff hp) h1 h2 hC hm
    refine ⟨step.2.1, ?_, ?_⟩
    · rw [hf]
      exact set_low (fun t => low_mono step.2.2 (h2 t)) step.1
    · intro n hn
      by_cases hni : n = i
      · subst hni; exact ⟨step.2.2, step.1⟩
      · exact h3 n (by omega)

theorem trace_next {ms : Nat → Mem} {vs : Nat → Value} {k : Nat} (h : ∀ n, n < k → (ms n).next ≤ (ms (n + 1)).next ∧ low (ms (n + 1)).next (vs n)) : ∀ b a, a ≤ b → b ≤ k → (ms a).next ≤ (ms b).next
  | 0, a, h1, h2 => by have : a = 0 := by omega
                       subst this; exact Nat.le_refl _
  | b + 1, a, h1, h2 => by
    by_cases e : a = b + 1
    · subst e; exact Nat.le_refl _
    · exact Nat.le_trans (trace_next h b a (by omega) (by omega)) (h b (by omega)).1

/-- Who wrote a temporary last, ahead of place 'i'. -/
theorem trace_last {P : Program} {C : FuncId → Array Value → Mem → Value → Mem → Prop} {ops : List Oper} {B : Array Nat} {fs : Nat → Nat → Value} {ms : Nat → Mem} {vs : Nat → Value} {kd : Nat → Nat} (T : Tr P C ops B 0 ops fs ms vs kd) (t : Nat) :
    ∀ i, i ≤ ops.length → ((∃ x o, x < i ∧ ops[x]? = some o ∧ o.dst = some t ∧ fs i t = vs x ∧ ∀ y p, x < y → y < i → ops[y]? = some p → p.dst ≠ some t) ∨
      ((∀ x o, x < i → ops[x]? = some o → o.dst ≠ some t) ∧ fs i t = fs 0 t))
  | 0, _ => .inr ⟨fun x o hx => by omega, rfl⟩
  | i + 1, hi => by
    have ho : ops[i]? = some ops[i] := by simp [show i < ops.length by omega]
    have hf := T.frame i ops[i] ho
    simp only [Nat.zero_add] at hf
    by_cases hd : ops[i].dst = some t
    · left
      refine ⟨i, ops[i], by omega, ho, hd, ?_, fun y p h1 h2 => by omega⟩
      rw [hf, hd]; simp [set]
    · have he : fs (i + 1) t = fs i t := by
        rw [hf]
        cases hdd : ops[i].dst with
        | none => rfl
        | some d =>
          have : t ≠ d := by intro h; subst h; exact hd hdd
          simp [set, this]
      rcases trace_last T t i (by omega) with ⟨x, o, h1, h2, h3, h4, h5⟩ | ⟨h1, h2⟩
      · left
        refine ⟨x, o, by omega, h2, h3, by rw [he]; exact h4, fun y p hy1 hy2 hp => ?_⟩
        by_cases hyi : y = i
        · subst hyi; rw [ho] at hp; cases hp; exact hd
        · exact h5 y p hy1 (by omega) hp
      · right
        refine ⟨fun x o hx hp => ?_, by rw [he]; exact h2⟩
        by_cases hyi : x = i
        · subst hyi; rw [ho] at hp; cases hp; exact hd
        · exact h1 x o (by omega) hp

/-- Between effects memory only grows. -/
theorem trace_grow {P : Program} {C : FuncId → Array Value → Mem → Value → Mem → Prop} {ops : List Oper} {B : Array Nat} {fs : Nat → Nat → Value} {ms : Nat → Mem} {vs : Nat → Value} {kd : Nat → Nat} (T : Tr P C ops B 0 ops fs ms vs kd) {s : Nat} :
    ∀ z, s ≤ z → z ≤ ops.length → (∀ e, s ≤ e → e < z → kd e ≠ 4) → (∀ b, b < (ms s).next → (ms z).blk b = (ms s).blk b) ∧
      (∀ x, s ≤ x → x < z → kd x = 3 → ∀ o Xb, ops[x]? = some o → ms (x + 1) = (ms x).push Xb → (ms z).blk (ms x).next = Xb) ∧ (∀ x, s ≤ x → x < z → (ms x).next ≤ (ms z).next ∧ (kd x = 3 → (ms x).next < (ms z).next))
  | z, hsz, hz, hne => by
    induction z with
    | zero =>
      have : s = 0 := by omega
      subst this
      exact ⟨fun _ _ => rfl, fun x h1 h2 => by omega, fun x h1 h2 => by omega⟩
    | succ z ih =>
      by_cases hs : s = z + 1
      · subst hs
        exact ⟨fun _ _ => rfl, fun x h1 h2 => by omega, fun x h1 h2 => by omega⟩
      · obtain ⟨h1, h2, h3⟩ := ih (by omega) (by omega) (fun e he1 he2 => hne e he1 (by omega))
        have ho : ops[z]? = some ops[z] := by simp [show z < ops.length by omega]
        have hr := T.run z ops[z] ho
        simp only [Nat.zero_add] at hr
        have hsn : (ms s).next ≤ (ms z).next := by
          by_cases e : s = z
          · subst e; exact Nat.le_refl _
          · exact (h3 s (Nat.le_refl _) (by omega)).1
        have same : ms (z + 1) = ms z → kd z ≠ 3 → (∀ b, b < (ms s).next → (ms (z + 1)).blk b = (ms s).blk b) ∧ (∀ x, s ≤ x → x < z + 1 → kd x = 3 → ∀ o Xb, ops[x]? = some o → ms (x + 1) = (ms x).push Xb → (ms (z + 1)).blk (ms x).next = Xb) ∧ (∀ x, s ≤ x → x < z + 1 → (ms x).next ≤ (ms (z + 1)).next ∧ (kd x = 3 → (ms x).next < (ms (z + 1)).next)) := fun he hk => ⟨fun b hb => by rw [he]; exact h1 b hb,
          fun x hx1 hx2 hk' o Xb hop hm => by
            by_cases e : x = z
            · subst e; exact absurd hk' hk
            · rw [he]; exact h2 x hx1 (by omega) hk' o Xb hop hm,
          fun x hx1 hx2 => by
            rw [he]
            by_cases e : x = z
            · subst e; exact ⟨Nat.le_refl _, fun hk' => absurd hk' hk⟩
            · exact h3 x hx1 (by omega)⟩
        rcases hr with ⟨hk, _, hv, hmm⟩ | ⟨hk, _, hp, hmm⟩ | ⟨hk, _, hp, hmm⟩ | ⟨hk, _, Xb, hp, hmm⟩ | ⟨hk, _, hp⟩
        · exact same hmm (by omega)
        · exact same hmm (by omega)
        · exact same hmm (by omega)
        · refine ⟨fun b hb => ?_, fun x hx1 hx2 hk' o Yb hop hm => ?_, fun x hx1 hx2 => ?_⟩
          · rw [hmm, ← h1 b hb]
            simp only [Mem.push]
            rw [if_neg (by omega)]
          · by_cases e : x = z
            · subst e
              rw [hm]; simp [Mem.push]
            · have hlt := (h3 x hx1 (by omega)).2 hk'
              rw [hmm, ← h2 x hx1 (by omega) hk' o Yb hop hm]
              simp only [Mem.push]
              rw [if_neg (by omega)]
          · by_cases e : x = z
            · subst e
              rw [hmm]; simp [Mem.push]
            · have := h3 x hx1 (by omega)
              rw [hmm]; simp only [Mem.push]
              exact ⟨by omega, fun hk' => by have := this.2 hk'; omega⟩
        · exact absurd hk (hne z (by omega) (by omega))

end Go.AM
