/- More fuel does no harm. -/
import Derived.Test.YtaoioacomnnhdaaAmCode
set_option linter.unusedSimpArgs false
set_option linter.unusedVariables false
namespace Go.AM

def CLe (C C' : FuncId → Array Value → Mem → Value → Mem → Prop) : Prop := ∀ f args m v m', C f args m v m' → C' f args m v m'

theorem EffR.mono {P : Program} {C C' : FuncId → Array Value → Mem → Value → Mem → Prop} (hC : CLe C C') {ρ : Operand → Value} {o : Oper} {m m' : Mem} {v : Value} (h : EffR P C ρ o m v m') : EffR P C' ρ o m v m' := by
  cases h with
  | store t x y b off i L e h hx hi hm hv hs hl => exact .store t x y b off i L e h hx hi hm hv hs hl
  | call f args v m' h hC' => exact .call f args v m' h (hC _ _ _ _ _ hC')
  | appendNone x y t u e i a l c h ht hi hu hx hc hlc hy hy' => exact .appendNone x y t u e i a l c h ht hi hu hx hc hlc hy hy'
  | appendNew x y t u e i z a l c old new h ht hi hz hzf hzs hsz hu hx hc ho hol hy hn hb hm => exact .appendNew x y t u e i z a l c old new h ht hi hz hzf hzs hsz hu hx hc ho hol hy hn hb hm
  | appendIn x y t u e i b off l c L new h ht hi hu hx hcb hc hm hy hn hl => exact .appendIn x y t u e i b off l c L new h ht hi hu hx hcb hc hm hy hn hl
  | append x y t u e i z b l L new h ht hi hz hzf hzs hsz hu hx hmb hlL hy hn hb hm => exact .append x y t u e i z b l L new h ht hi hz hzf hzs hsz hu hx hmb hlL hy hn hb hm
  | copy x y t u e i b off l c L cs h ht hi hx hm hy hn hl => exact .copy x y t u e i b off l c L cs h ht hi hx hm hy hn hl
  | mapUpdate xt x kx vx u kt vt b L kc vc E E' good h hxt hu hx hmb hE hks K hkc hkl hkf hf hk hg hvs hvc hvl hvv hup => exact .mapUpdate xt x kx vx u kt vt b L kc vc E E' good h hxt hu hx hmb hE hks K hkc hkl hkf hf hk hg hvs hvc hvl hvv hup

theorem StepR.mono {P : Program} {C C' : FuncId → Array Value → Mem → Value → Mem → Prop} (hC : CLe C C') {ρ : Operand → Value} {o : Oper} {m m' : Mem} {v : Value} (h : StepR P C ρ o m v m') : StepR P C' ρ o m v m' := by
  cases h with
  | pure h => exact .pure h
  | read h => exact .read h
  | new h => exact .new h
  | eff h => exact .eff (h.mono hC)

theorem seqR_mono {P : Program} {C C' : FuncId → Array Value → Mem → Value → Mem → Prop} (hC : CLe C C') {ops : List Oper} : ∀ (l : List Oper) (fr fr' : Nat → Value) (m m' : Mem), seqR P C ops l fr m fr' m' → seqR P C' ops l fr m fr' m'
  | [], fr, fr', m, m', h => h
  | o :: l, fr, fr', m, m', h => by
    simp only [seqR] at h ⊢
    split at h
    · rename_i hw
      rw [if_pos hw]
      obtain ⟨v, m1, h1, h2⟩ := h
      exact ⟨v, m1, h1.mono hC, seqR_mono hC l _ _ _ _ h2⟩
    · rename_i hw
      rw [if_neg hw]
      exact seqR_mono hC l _ _ _ _ h

theorem drawR_mono {P : Program} {C C' : FuncId → Array Value → Mem → Value → Mem → Prop} (hC : CLe C C') {ops : List Oper} {B : Array Nat} : ∀ (l : List Oper) (i : Nat) (A : Acc) (fr fr' : Nat → Value) (m m' : Mem), drawR P C ops B i l A fr m fr' m' → drawR P C' ops B i l A fr m fr' m'
  | [], i, A, fr, fr', m, m', h => h
  | o :: l, i, A, fr, fr', m, m', h => by
    simp only [drawR] at h ⊢
    split at h
    · rename_i hw
      rw [if_pos hw]
      rcases h with ⟨v, hp, hd⟩ | ⟨v, hp, ho, hd⟩ | ⟨X, v, hp, hd⟩ | ⟨v, m1, hp, h1, h2, hd⟩
      · exact .inl ⟨v, hp, drawR_mono hC l _ _ _ _ _ _ hd⟩
      · exact .inr (.inl ⟨v, hp, ho, drawR_mono hC l _ _ _ _ _ _ hd⟩)
      · exact .inr (.inr (.inl ⟨X, v, hp, drawR_mono hC l _ _ _ _ _ _ hd⟩))
      · exact .inr (.inr (.inr ⟨v, m1, hp.mono hC, h1, h2, drawR_mono hC l _ _ _ _ _ _ hd⟩))
    · rename_i hw
      rw [if_neg hw]
      exact drawR_mono hC l _ _ _ _ _ _ h

theorem codeR_mono {P : Program} {C C' : FuncId → Array Value → Mem → Value → Mem → Prop} (hC : CLe C C') : ∀ (n n' : Nat), n ≤ n' → ∀ (c : Code) (fr fr' : Nat → Value) (m m' : Mem) (e : AExit), codeR P C n c fr m e fr' m' → codeR P C' n' c fr m e fr' m' := by
  intro n
  induction n with
  | zero => intro n' _ c fr fr' m m' e h; exact h.elim
  | succ n ih =>
    intro n' hn c fr fr' m m' e h
    cases n' with
    | zero => omega
    | succ n' =>
      have hn' : n ≤ n' := by omega
      cases c with
      | skip => exact h
      | label l => exact h
      | exit id => exact h
      | ret => exact h
      | region id ops d =>
        cases d with
        | false => exact ⟨h.1, seqR_mono hC _ _ _ _ _ h.2⟩
        | true => exact ⟨h.1, drawR_mono hC _ _ _ _ _ _ _ h.2⟩
      | seq a b =>
        obtain ⟨e1, fr1, m1, h1, h2⟩ := h
        refine ⟨e1, fr1, m1, ih n' hn' _ _ _ _ _ _ h1, ?_⟩
        split at h2
        · rename_i he; rw [if_pos he]; exact ih n' hn' _ _ _ _ _ _ h2
        · rename_i he; rw [if_neg he]; exact h2
      | cond c a b =>
        obtain ⟨t, ht, h1⟩ := h
        exact ⟨t, ht, ih n' hn' _ _ _ _ _ _ h1⟩
      | block id c =>
        obtain ⟨e1, h1, he⟩ := h
        exact ⟨e1, ih n' hn' _ _ _ _ _ _ h1, he⟩
      | loop c =>
        obtain ⟨e1, fr1, m1, h1, h2⟩ := h
        refine ⟨e1, fr1, m1, ih n' hn' _ _ _ _ _ _ h1, ?_⟩
        split at h2
        · rename_i he; rw [if_pos he]; exact ih n' hn' _ _ _ _ _ _ h2
        · rename_i he; rw [if_neg he]; exact h2
      | rangeFunc f ps x y => exact h.elim
      | scope c => exact h.elim
      | goto l => exact h.elim
      | refuse s => exact h.elim

theorem callR_mono {P : Program} : ∀ (n n' : Nat), n ≤ n' → CLe (callR P n) (callR P n') := by
  intro n
  induction n with
  | zero => intro n' _ f args m v m' h; exact h.elim
  | succ n ih =>
    intro n' hn f args m v m' h
    cases n' with
    | zero => omega
    | succ n' =>
      obtain ⟨fn, c, e, fr, m1, vs, hf, hb, hok, hsz, hrun, rest⟩ := h
      exact ⟨fn, c, e, fr, m1, vs, hf, hb, hok, hsz, codeR_mono (ih n' (by omega)) n n' (by omega) _ _ _ _ _ _ hrun, rest⟩

/-! ### Without fuel -/

/-- A call that ends so. -/
def CallW (P : Program) (f : FuncId) (args : Array Value) (m : Mem) (R : Value → Mem → Prop) : Prop := ∃ n v m', callR P n f args m v m' ∧ R v m'

/-- Code that ends so. -/
def W (P : Program) (c : Code) (Q : AExit → (Nat → Value) → Mem → Prop) (fr : Nat → Value) (m : Mem) : Prop := ∃ n e fr' m', codeR P (callR P n) n c fr m e fr' m' ∧ Q e fr' m'

def StepW (P : Program) (ρ : Operand → Value) (o : Oper) (m : Mem) (K : Value → Mem → Prop) : Prop := ∃ n v m', StepR P (callR P n) ρ o m v m' ∧ K v m'
def SeqW (P : Program) (ops l : List Oper) (K : (Nat → Value) → Mem → Prop) (fr : Nat → Value) (m : Mem) : Prop := ∃ n fr' m', seqR P (callR P n) ops l fr m fr' m' ∧ K fr' m'
def DrawW (P : Program) (ops : List Oper) (B : Array Nat) (i : Nat) (l : List Oper) (A : Acc) (K : (Nat → Value) → Mem → Prop) (fr : Nat → Value) (m : Mem) : Prop := ∃ n fr' m', drawR P (callR P n) ops B i l A fr m fr' m' ∧ K fr' m'

section
variable {P : Program} {Q Q' : AExit → (Nat → Value) → Mem → Prop} {fr : Nat → Value} {m : Mem}

theorem CallW.mono {f : FuncId} {args : Array Value} {R R' : Value → Mem → Prop} (h : CallW P f args m R) (hr : ∀ v m', R v m' → R' v m') : CallW P f args m R' :=
  let ⟨n, v, m', h1, h2⟩ := h; ⟨n, v, m', h1, hr _ _ h2⟩

theorem W.mono {c : Code} (h : W P c Q fr m) (hq : ∀ e fr m, Q e fr m → Q' e fr m) : W P c Q' fr m :=
  let ⟨n, e, fr', m', h1, h2⟩ := h; ⟨n, e, fr', m', h1, hq _ _ _ h2⟩

theorem W.skip (h : Q .normal fr m) : W P .skip Q fr m := ⟨1, _, _, _, ⟨rfl, rfl, rfl⟩, h⟩
theorem W.label {l : Nat} (h : Q .normal fr m) : W P (.label l) Q fr m := ⟨1, _, _, _, ⟨rfl, rfl, rfl⟩, h⟩
theorem W.exit {id : Nat} (h : Q (.exit id) fr m) : W P (.exit id) Q fr m := ⟨1, _, _, _, ⟨rfl, rfl, rfl⟩, h⟩
theorem W.ret (h : Q .ret fr m) : W P .ret Q fr m := ⟨1, _, _, _, ⟨rfl, rfl, rfl⟩, h⟩

/-- What follows a piece of code. -/
def thenQ (next : (Nat → Value) → Mem → Prop) (Q : AExit → (Nat → Value) → Mem → Prop) : AExit → (Nat → Value) → Mem → Prop
  | .normal, fr, m => next fr m
  | e, fr, m => Q e fr m
def blockQ (id : Nat) (Q : AExit → (Nat → Value) → Mem → Prop) : AExit → (Nat → Value) → Mem → Prop
  | .exit id', fr, m => if id' = id then Q .normal fr m else Q (.exit id') fr m
  | e, fr, m => Q e fr m

theorem codeUp {n N k : Nat} (h : n ≤ N) (hk : n ≤ k) {c : Code} {fr fr' : Nat → Value} {m m' : Mem} {e : AExit} (hc : codeR P (callR P n) n c fr m e fr' m') : codeR P (callR P N) k c fr m e fr' m' := codeR_mono (callR_mono n N h) n k hk _ _ _ _ _ _ hc

theorem W.seq {a b : Code} (h : W P a (thenQ (W P b Q) Q) fr m) : W P (.seq a b) Q fr m := by
  obtain ⟨n, e, fr1, m1, h1, h2⟩ := h
  cases e with
  | normal =>
    obtain ⟨n2, e2, fr2, m2, h3, h4⟩ := h2
    exact ⟨max n n2 + 1, e2, fr2, m2, ⟨_, _, _, codeUp (by omega) (by omega) h1, by rw [if_pos rfl]; exact codeUp (by omega) (by omega) h3⟩, h4⟩
  | exit id => exact ⟨n + 1, _, fr1, m1, ⟨_, _, _, codeUp (by omega) (by omega) h1, by rw [if_neg (by simp)]; exact ⟨rfl, rfl, rfl⟩⟩, h2⟩
  | ret => exact ⟨n + 1, _, fr1, m1, ⟨_, _, _, codeUp (by omega) (by omega) h1, by rw [if_neg (by simp)]; exact ⟨rfl, rfl, rfl⟩⟩, h2⟩

theorem W.cond {c : Operand} {a b : Code} {t : Bool} (ht : ev fr c = .bool t) (h : W P (if t then a else b) Q fr m) : W P (.cond c a b) Q fr m := by
  obtain ⟨n, e, fr1, m1, h1, h2⟩ := h
  exact ⟨n + 1, e, fr1, m1, ⟨t, ht, codeUp (by omega) (by omega) h1⟩, h2⟩

theorem W.block {id : Nat} {c : Code} (h : W P c (blockQ id Q) fr m) : W P (.block id c) Q fr m := by
  obtain ⟨n, e, fr1, m1, h1, h2⟩ := h
  refine ⟨n + 1, _, fr1, m1, ⟨e, codeUp (by omega) (by omega) h1, rfl⟩, ?_⟩
  cases e with
  | normal => simpa [blockQ] using h2
  | exit id' =>
    simp only [blockQ] at h2
    by_cases he : id' = id
    · subst he; simpa using h2
    · simp only [he, if_false] at h2
      simp only [AExit.exit.injEq, he, if_false]; exact h2
  | ret => simpa [blockQ] using h2

theorem W.loop1 {c : Code} (h : W P c (thenQ (W P (.loop c) Q) Q) fr m) : W P (.loop c) Q fr m := by
  obtain ⟨n, e, fr1, m1, h1, h2⟩ := h
  cases e with
  | normal =>
    obtain ⟨n2, e2, fr2, m2, h3, h4⟩ := h2
    exact ⟨max n n2 + 1, e2, fr2, m2, ⟨_, _, _, codeUp (by omega) (by omega) h1, by rw [if_pos rfl]; exact codeUp (by omega) (by omega) h3⟩, h4⟩
  | exit id => exact ⟨n + 1, _, fr1, m1, ⟨_, _, _, codeUp (by omega) (by omega) h1, by rw [if_neg (by simp)]; exact ⟨rfl, rfl, rfl⟩⟩, h2⟩
  | ret => exact ⟨n + 1, _, fr1, m1, ⟨_, _, _, codeUp (by omega) (by omega) h1, by rw [if_neg (by simp)]; exact ⟨rfl, rfl, rfl⟩⟩, h2⟩

/-- A loop: an invariant over a state of its own, and a measure. -/
theorem W.loop {σ : Type} {c : Code} (I : σ → (Nat → Value) → Mem → Prop) (μ : σ → Nat) (s : σ) (h0 : I s fr m)
    (hr : ∀ s fr m, I s fr m → W P c (thenQ (fun fr' m' => ∃ s', I s' fr' m' ∧ μ s' < μ s) Q) fr m) : W P (.loop c) Q fr m := by
  have key : ∀ n s fr m, μ s = n → I s fr m → W P (.loop c) Q fr m := by
    intro n
    induction n using Nat.strongRecOn with
    | _ n ih =>
      intro s fr m hn hI
      refine W.loop1 ((hr s fr m hI).mono ?_)
      intro e fr' m' hq
      cases e with
      | normal =>
        obtain ⟨s', hI', hlt⟩ := hq
        exact ih (μ s') (by omega) s' fr' m' rfl hI'
      | exit id => exact hq
      | ret => exact hq
  exact key _ s fr m rfl h0

theorem W.region {id : Nat} {ops : Array Oper} (h : SeqW P ops.toList ops.toList (Q .normal) fr m) : W P (.region id ops false) Q fr m := by
  obtain ⟨n, fr', m', h1, h2⟩ := h
  exact ⟨n + 1, .normal, fr', m', ⟨rfl, seqR_mono (callR_mono _ _ (Nat.le_succ _)) _ _ _ _ _ h1⟩, h2⟩
theorem W.draw {id : Nat} {ops : Array Oper} (h : DrawW P ops.toList (Region.before ops) 0 ops.toList ⟨[], [], []⟩ (Q .normal) fr m) : W P (.region id ops true) Q fr m := by
  obtain ⟨n, fr', m', h1, h2⟩ := h
  exact ⟨n + 1, .normal, fr', m', ⟨rfl, drawR_mono (callR_mono _ _ (Nat.le_succ _)) _ _ _ _ _ _ _ h1⟩, h2⟩

end

section
variable {P : Program} {ops l : List Oper} {K : (Nat → Value) → Mem → Prop} {fr : Nat → Value} {m : Mem} {o : Oper}

theorem SeqW.nil (h : K fr m) : SeqW P ops [] K fr m := ⟨0, _, _, ⟨rfl, rfl⟩, h⟩
theorem SeqW.skip (hg : wanted ops fr o = false) (h : SeqW P ops l K (set fr o.dst undef) m) : SeqW P ops (o :: l) K fr m := by
  obtain ⟨n, fr', m', h1, h2⟩ := h
  refine ⟨n, fr', m', ?_, h2⟩
  simp only [seqR]
  rw [if_neg (by simp [hg])]
  exact h1
theorem SeqW.cons (hg : wanted ops fr o = true) (h : StepW P (ev fr) o m fun v m1 => SeqW P ops l K (set fr o.dst v) m1) : SeqW P ops (o :: l) K fr m := by
  obtain ⟨n, v, m1, hs, n2, fr', m', h1, h2⟩ := h
  refine ⟨max n n2, fr', m', ?_, h2⟩
  simp only [seqR]
  rw [if_pos hg]
  exact ⟨v, m1, hs.mono (callR_mono _ _ (Nat.le_max_left _ _)), seqR_mono (callR_mono _ _ (Nat.le_max_right _ _)) _ _ _ _ _ h1⟩

theorem StepW.pure {ρ : Operand → Value} {R : Value → Mem → Prop} {v : Value} (h : PureR P ρ o v) (hk : R v m) : StepW P ρ o m R := ⟨0, v, m, .pure h, hk⟩
theorem StepW.read {ρ : Operand → Value} {R : Value → Mem → Prop} {v : Value} (h : ReadR P ρ o m v) (hk : R v m) : StepW P ρ o m R := ⟨0, v, m, .read h, hk⟩
theorem StepW.new {ρ : Operand → Value} {R : Value → Mem → Prop} {v : Value} {X : Blk} (h : NewR P ρ o m.next X v) (hk : R v (m.push X)) : StepW P ρ o m R := ⟨0, v, _, .new h, hk⟩
theorem StepW.eff {ρ : Operand → Value} {R : Value → Mem → Prop} {v : Value} {m' : Mem} {n : Nat} (h : EffR P (callR P n) ρ o m v m') (hk : R v m') : StepW P ρ o m R := ⟨n, v, m', .eff h, hk⟩
theorem StepW.call {ρ : Operand → Value} {R : Value → Mem → Prop} {f : FuncId} {args : Array Value} (hc : callee o ρ f args) (h : CallW P f args m R) : StepW P ρ o m R := by
  obtain ⟨n, v, m', h1, h2⟩ := h
  exact ⟨n, v, m', .eff (.call f args v m' hc h1), h2⟩

end

/-- Entering a function. -/
theorem CallW.enter {P : Program} {f : FuncId} {fn : Func} {c : Code} {args : Array Value} {m : Mem} {R : Value → Mem → Prop} (hf : P.funcs[f]? = some fn) (hb : fn.body = some c) (hok : okFn P f = true) (hsz : args.size ≤ fn.ntmps)
    (h : W P c (fun e fr m1 => (e = .normal ∨ e = .ret) ∧ ∃ vs, resultsR P fr m1 fn.results.toList vs ∧ (vs.length = 1 ∨ ∀ x ∈ vs, storable x = true) ∧
      (R (pack vs) m1 ∨ (R (pack vs) (m1.trunc m.next) ∧ low m.next (pack vs) ∧ ∀ b, b < m.next → m1.blk b = m.blk b ∨ lowB m.next (m1.blk b))))
      (fun i => (args ++ Array.replicate (fn.ntmps - args.size) undef).getD i undef) m) : CallW P f args m R := by
  obtain ⟨n, e, fr, m1, h1, he, vs, hv, hs, hR⟩ := h
  rcases hR with hR | ⟨hR, hl, hbk⟩
  · exact ⟨n + 1, _, _, ⟨fn, c, e, fr, m1, vs, hf, hb, hok, hsz, h1, he, hv, rfl, hs, .inl rfl⟩, hR⟩
  · exact ⟨n + 1, _, _, ⟨fn, c, e, fr, m1, vs, hf, hb, hok, hsz, h1, he, hv, rfl, hs, .inr ⟨rfl, hl, hbk⟩⟩, hR⟩

/-! ### The start -/

/-- How a world's own blocks stand in it. -/
def emb0 (w : World) : Emb := fun b => if b < w.heap.size then some ⟨b, 0, 0⟩ else none

/-- A cell as the abstract machine sees it: an empty slice of no capacity may point anywhere. -/
def seen0 (b : Nat) : Value → Option Value
  | .slice (some _) 0 0 => some (.slice (some ⟨b, 0, none⟩) 0 0)
  | _ => none

open Classical in
/-- The memory that a call finds: all that is there may be read. -/
noncomputable def mem0 (w : World) : Mem := { next := w.heap.size, blk := fun b => if b < w.heap.size then .ro (fun i => match w.cell? ⟨b, i, none⟩ with | some v => if VR0 (emb0 w) v v then some v else seen0 b v | none => none) else .dead }

theorem seen0_some {b : Nat} {v u : Value} (h : seen0 b v = some u) : ∃ a, v = .slice (some a) 0 0 ∧ u = .slice (some ⟨b, 0, none⟩) 0 0 := by
  unfold seen0 at h
  split at h
  · cases h; exact ⟨_, rfl, rfl⟩
  · cases h

theorem emb0_lt {w : World} {b : Nat} {e : Emb1} (h : emb0 w b = some e) : b < w.heap.size ∧ e.blk = b := by
  unfold emb0 at h
  split at h
  · cases h; exact ⟨‹_›, rfl⟩
  · cases h

theorem mem0_load {w : World} {b i : Nat} {v : Value} (h : w.cell? ⟨b, i, none⟩ = some v) (hv : VR0 (emb0 w) v v) : (mem0 w).load b i = some v := by
  have hlt : b < w.heap.size := World.block_lt_of_cell? w ⟨b, i, none⟩ h
  simp [Mem.load, mem0, hlt, h, hv]

theorem mem0_wf (w : World) : WF (mem0 w) where
  dead := fun b hb => by
    have hb : w.heap.size ≤ b := hb
    simp [mem0, show ¬ b < w.heap.size by omega]
  low := fun b => by
    simp only [mem0]
    split
    · intro i v hi
      simp only at hi
      split at hi
      · split at hi
        · rename_i hv
          cases hi
          exact (VR_low (fun b e h => (emb0_lt h).1)).1 hv
        · obtain ⟨a, _, rfl⟩ := seen0_some hi
          assumption
      · cases hi
    · exact True.intro

theorem mem0_seen {w : World} {b i : Nat} {a : Addr} (h : w.cell? ⟨b, i, none⟩ = some (.slice (some a) 0 0)) : ∃ a', (mem0 w).load b i = some (.slice (some a') 0 0) ∧ a'.spot = none ∧ a'.block < w.heap.size := by
  have hlt : b < w.heap.size := World.block_lt_of_cell? w ⟨b, i, none⟩ h
  by_cases hv : VR0 (emb0 w) (.slice (some a) 0 0) (.slice (some a) 0 0)
  · refine ⟨a, mem0_load h hv, ?_⟩
    obtain ⟨e, h1, h2, _⟩ := hv
    exact ⟨h1, (emb0_lt h2).1⟩
  · refine ⟨⟨b, 0, none⟩, ?_, rfl, hlt⟩
    simp [Mem.load, mem0, hlt, h, hv, seen0]

theorem mem0_rel (P : Program) (w : World) : Rel P (emb0 w) (mem0 w) w := by
  refine ⟨?_, ?_, ?_⟩
  · intro b e hb
    obtain ⟨h1, h2⟩ := emb0_lt hb
    exact ⟨h1, by rw [h2]; exact h1⟩
  · intro b e hb
    obtain ⟨h1, h2⟩ := emb0_lt hb
    simp only [mem0, h1, if_true]
    intro i v hi
    simp only at hi
    have cell : ∀ u, w.cell? ⟨b, i, none⟩ = some u → ∃ (cs : Array Value) (t : TypeId) (fz : Nat × Nat), w.heap[e.blk]? = some (.cells cs t fz) ∧ cs[i]? = some u := by
      intro u hu
      rw [h2]
      simp only [World.cell?] at hu
      split at hu
      · rename_i c t f hc
        exact ⟨c, t, f, hc, by simpa using hu⟩
      · cases hu
    split at hi
    · rename_i u hu
      obtain ⟨cs, t, fz, g1, g2⟩ := cell u hu
      split at hi
      · rename_i hv
        cases hi
        exact ⟨cs, t, fz, _, g1, g2, hv⟩
      · obtain ⟨a, rfl, rfl⟩ := seen0_some hi
        exact ⟨cs, t, fz, _, g1, g2, e, rfl, hb, .inr (.inr (.inr ⟨rfl, rfl, a, rfl⟩))⟩
    · cases hi
  · intro b b' e e' hb hb' ho
    obtain ⟨h1, h2⟩ := emb0_lt hb
    simp [mem0, h1, Blk.isOwn] at ho

/-- A law: what the abstract machine answers is what the program answers, and nothing that was there turns. -/
theorem law_of_call {P : Program} (hmix : P.follows .mixedOrders = true) {f : FuncId} {args : Array Value} {w : World} (hargs : ∀ a ∈ args.toList, VR (emb0 w) a a) (h : CallW P f args (mem0 w) fun v _ => v = .bool true) :
    Calls P f args w fun e w' => e = .returned (.bool true) ∧ RowKit.Below w.heap.size w w' := by
  obtain ⟨n, v, m', h1, rfl⟩ := h
  have hs := (calls_sound hmix n).2 f args (mem0 w) _ m' h1 (emb0 w) w args (mem0_wf w) (mem0_rel P w) (by
    have : ∀ l : List Value, (∀ a ∈ l, VR (emb0 w) a a) → L2 (VR (emb0 w)) l l := by
      intro l
      induction l with
      | nil => intro _; exact True.intro
      | cons a l ih => intro h; exact ⟨h a (by simp), ih fun b hb => h b (by simp [hb])⟩
    exact this _ hargs)
  refine hs.2.mono ?_
  rintro e w' ⟨cv, j', rfl, hp, hv⟩
  have hcv := hv.bool
  subst hcv
  refine ⟨rfl, hp.frm.os, hp.frm.tape, hp.frm.output, hp.frm.size, fun k hk => hp.frm.block k hk fun b e hb ho => ?_⟩
  obtain ⟨h1, h2⟩ := emb0_lt hb
  simp [mem0, h1, Blk.isOwn] at ho

end Go.AM
