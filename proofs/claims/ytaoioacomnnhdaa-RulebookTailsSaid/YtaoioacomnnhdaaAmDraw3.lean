/- A region whose order is open: whatever order is drawn, it ends as the text says. -/
import Derived.Test.YtaoioacomnnhdaaAmDraw2
set_option linter.unusedSimpArgs false
set_option linter.unusedVariables false
namespace Go.AM

/-- What is fixed while a region runs. -/
structure Ctx (P : Program) (C : FuncId → Array Value → Mem → Value → Mem → Prop) (ops : Array Oper) (N : Nat) (fs : Nat → Nat → Value) (ms : Nat → Mem) (vs : Nat → Value) (kd : Nat → Nat) (j0 : Emb) (w0 : World) : Prop where
  T : Tr P C ops.toList (Region.before ops) 0 ops.toList fs ms vs kd
  ok : drawOk ops = true
  okx : ∀ o ∈ ops.toList, ∀ x ∈ o.op.operands, okX x = true
  dst : ∀ o ∈ ops.toList, ∀ d, o.dst = some d → d < N
  keeps : KeepsC C
  sound : SoundC P C
  rel0 : Rel P j0 (ms 0) w0
  wf0 : WF (ms 0)
  low0 : ∀ t, low (ms 0).next (fs 0 t)

/-- In the middle of a region: 'listed' has run; the effects ahead of 's' have. -/
structure Mid (P : Program) (ops : Array Oper) (N : Nat) (fs : Nat → Nat → Value) (ms : Nat → Mem) (vs : Nat → Value) (kd : Nat → Nat) (j0 : Emb) (w0 : World) (listed : Array Bool) (a : Act) (w : World) (s : Nat) (M : Mem) (j : Emb) : Prop where
  size : listed.size = ops.size
  closed : Closed ops (fun i => listed.getD i false = true)
  sle : s ≤ ops.size
  last : s = 0 ∨ kd (s - 1) = 4
  effs : ∀ i, i < ops.size → kd i = 4 → (listed.getD i false = true ↔ i < s)
  rel : Rel P j M w
  big : M.next = (ms ops.size).next
  agree : ∀ b, b < (ms s).next → M.blk b = (ms s).blk b
  dom : ∀ b e, j b = some e → b < (ms s).next ∨ ∃ i, s ≤ i ∧ i < ops.size ∧ listed.getD i false = true ∧ kd i = 3 ∧ b = (ms i).next
  unl : ∀ i, i < ops.size → kd i = 3 → listed.getD i false = false → j (ms i).next = none
  flo : ∀ i, s ≤ i → i < ops.size → listed.getD i false = true → kd i = 3 → ∀ Xb, ms (i + 1) = (ms i).push Xb → M.blk (ms i).next = Xb
  defers : a.defers = []
  tmps : a.tmps.size = N
  cur : ∀ t, (∃ i o, ops[i]? = some o ∧ listed.getD i false = true ∧ o.dst = some t ∧ (∀ x p, i < x → ops[x]? = some p → listed.getD x false = true → p.dst ≠ some t) ∧ VR j (vs i) (a.tmps.getD t undef)) ∨
    ((∀ x p, ops[x]? = some p → listed.getD x false = true → p.dst ≠ some t) ∧ VR j (fs 0 t) (a.tmps.getD t undef))
  frm : Frm j0 (ms 0) w0 w
  ext : ∀ b, b < (ms 0).next → j b = j0 b
  fresh : ∀ b e, j b = some e → (ms 0).next ≤ b → w0.heap.size ≤ e.blk ∨ ∃ b0 e0, j0 b0 = some e0 ∧ ((ms 0).blk b0).isOwn = true ∧ e0.blk = e.blk
  old : ∀ b, b < (ms 0).next → (M.blk b).isOwn = true → ((ms 0).blk b).isOwn = true
  alive : ∀ b, b < (ms 0).next → (M.blk b).live = true → ((ms 0).blk b).live = true

section
variable {P : Program} {C : FuncId → Array Value → Mem → Value → Mem → Prop} {ops : Array Oper} {N : Nat} {fs : Nat → Nat → Value} {ms : Nat → Mem} {vs : Nat → Value} {kd : Nat → Nat} {j0 : Emb} {w0 : World}

theorem Ctx.wf (X : Ctx P C ops N fs ms vs kd j0 w0) : ∀ i, i ≤ ops.size → WF (ms i) ∧ (∀ t, low (ms i).next (fs i t)) := fun i hi => by
  have := trace_wf X.T X.keeps X.okx X.wf0 X.low0 i (by simpa using hi)
  exact ⟨this.1, this.2.1⟩
theorem Ctx.mono (X : Ctx P C ops N fs ms vs kd j0 w0) : ∀ a b, a ≤ b → b ≤ ops.size → (ms a).next ≤ (ms b).next := fun a b h1 h2 => by
  have := trace_wf X.T X.keeps X.okx X.wf0 X.low0 ops.size (by simp)
  exact trace_next this.2.2 b a h1 h2
theorem Ctx.run (X : Ctx P C ops N fs ms vs kd j0 w0) {i : Nat} {o : Oper} (ho : ops[i]? = some o) : RunAt P C ops.toList o (fs i) (ms i) (vs i) (ms (i + 1)) (kd i) := by
  have := X.T.run i o (by simpa using ho)
  simpa using this
theorem Ctx.new (X : Ctx P C ops N fs ms vs kd j0 w0) {i : Nat} (hi : i < ops.size) (hk : kd i = 3) : ∃ o Xb, ops[i]? = some o ∧ NewR P (ev (fs i)) o (ms i).next Xb (vs i) ∧ ms (i + 1) = (ms i).push Xb := by
  have ho : ops[i]? = some ops[i] := by simp [hi]
  rcases X.run ho with ⟨hk', _⟩ | ⟨hk', _⟩ | ⟨hk', _⟩ | ⟨_, _, Xb, hp, hm⟩ | ⟨hk', _⟩
  · omega
  · omega
  · omega
  · exact ⟨_, Xb, ho, hp, hm⟩
  · omega
theorem Ctx.new_lt (X : Ctx P C ops N fs ms vs kd j0 w0) {i : Nat} (hi : i < ops.size) (hk : kd i = 3) : (ms i).next < (ms (i + 1)).next := by
  obtain ⟨o, Xb, _, _, hm⟩ := X.new hi hk
  rw [hm]; simp [Mem.push]

theorem eff_isEff {ρ : Operand → Value} {o : Oper} {m m' : Mem} {v : Value} (h : EffR P C ρ o m v m') : isEff o.op = true := by
  cases h with
  | call f args v m' h hC => obtain ⟨x, as, ts, first, captured, h, _⟩ := h; simp [h, isEff]
  | mapUpdate xt x kx vx u kt vt b L kc vc E E' good h => rcases h with h | h <;> simp [h, isEff]
  | _ => rename_i h _ _ _ _ _; first | simp [*, isEff] | skip
  all_goals simp [*, isEff]

theorem Ctx.isE (X : Ctx P C ops N fs ms vs kd j0 w0) {i : Nat} {o : Oper} (ho : ops[i]? = some o) (hk : kd i = 4) : isEff o.op = true := by
  rcases X.run ho with ⟨hk', _⟩ | ⟨hk', _⟩ | ⟨hk', _⟩ | ⟨hk', _⟩ | ⟨_, _, hp⟩
  · omega
  · omega
  · omega
  · omega
  · exact eff_isEff hp

variable {listed : Array Bool} {a : Act} {w : World} {s : Nat} {M : Mem} {j : Emb}

/-- The memory of the text agrees with the memory there is. -/
theorem Mid.agreeZ (X : Ctx P C ops N fs ms vs kd j0 w0) (D : Mid P ops N fs ms vs kd j0 w0 listed a w s M j) {z : Nat} (hsz : s ≤ z) (hz : z ≤ ops.size) (hne : ∀ e, s ≤ e → e < z → kd e ≠ 4) :
    ∀ b e, j b = some e → b < (ms z).next → M.blk b = (ms z).blk b := by
  obtain ⟨g1, g2, g3⟩ := trace_grow X.T z hsz (by simpa using hz) hne
  intro b e hb hlt
  rcases Nat.lt_or_ge b (ms s).next with h | h
  · rw [D.agree b h, g1 b h]
  · rcases D.dom b e hb with h' | ⟨i, h1, h2, h3, h4, rfl⟩
    · omega
    · have hiz : i < z := by
        rcases Nat.lt_or_ge i z with h | h
        · exact h
        · have := X.mono z i h (by omega); omega
      obtain ⟨o, Xb, ho, _, hm⟩ := X.new h2 h4
      rw [D.flo i h1 h2 h3 h4 Xb hm, g2 i h1 hiz h4 o Xb (by simpa using ho) hm]

theorem Mid.rdOk (X : Ctx P C ops N fs ms vs kd j0 w0) (D : Mid P ops N fs ms vs kd j0 w0 listed a w s M j) {z : Nat} (hsz : s ≤ z) (hz : z ≤ ops.size) (hne : ∀ e, s ≤ e → e < z → kd e ≠ 4) : RdOk P j (ms z) w := by
  have hA := D.agreeZ X hsz hz hne
  have hW := (X.wf z hz).1
  have hr := D.rel.rdOk
  refine ⟨fun b e o v hb hv => ?_, fun b e L t hb hl => ?_, fun b e L u hb hl => ?_⟩
  · have hlt : b < (ms z).next := hW.lt (by intro hd; simp [Mem.load, hd] at hv)
    refine hr.load b e o v hb ?_
    unfold Mem.load at hv ⊢
    rw [hA b e hb hlt]; exact hv
  · have hlt : b < (ms z).next := hW.lt (by rw [hl]; simp)
    exact hr.own b e L t hb (by rw [hA b e hb hlt]; exact hl)
  · have hlt : b < (ms z).next := hW.lt (by rw [hl]; simp)
    exact hr.map b e L u hb (by rw [hA b e hb hlt]; exact hl)

/-- Operation 'i' may run now. -/
structure Ready (ops : Array Oper) (listed : Array Bool) (i : Nat) (o : Oper) : Prop where
  at_ : ops[i]? = some o
  not : listed.getD i false = false
  deps : ∀ e ∈ o.after, Region.binds .any e = true → listed.getD e.on false = true

theorem Ready.anc (D : Mid P ops N fs ms vs kd j0 w0 listed a w s M j) {i : Nat} {o : Oper} (R : Ready ops listed i o) {x : Nat} (h : AM.anc (Region.before ops) i x = true) : listed.getD x false = true :=
  anc_closed h D.closed fun o' ho' => by rw [R.at_] at ho'; cases ho'; exact R.deps

theorem Mid.ancIn (D : Mid P ops N fs ms vs kd j0 w0 listed a w s M j) {i x : Nat} (hi : listed.getD i false = true) (h : AM.anc (Region.before ops) i x = true) : listed.getD x false = true :=
  anc_closed h D.closed fun o' ho' => D.closed i o' hi ho'

/-- What has run touches the temporaries of 'o' only ahead of it, and all that does so has run. -/
theorem Ready.writers (X : Ctx P C ops N fs ms vs kd j0 w0) (D : Mid P ops N fs ms vs kd j0 w0 listed a w s M j) {i : Nat} {o : Oper} (R : Ready ops listed i o) {t : Nat} (ht : t ∈ slotsOf ops o) {x : Nat} {p : Oper} (hp : ops[x]? = some p) (hd : p.dst = some t) :
    (listed.getD x false = true ↔ x < i) ∨ x = i := by
  rcases Nat.lt_trichotomy x i with h | h | h
  · left
    refine ⟨fun _ => h, fun _ => ?_⟩
    refine R.anc D (drawOk_clash X.ok R.at_ hp h ?_)
    simp [clash, hd, ht]
  · exact .inr h
  · left
    refine ⟨fun hl => ?_, fun h' => by omega⟩
    have : listed.getD i false = true := D.ancIn hl (drawOk_clash X.ok hp R.at_ h (by simp [clash, hd, ht]))
    rw [R.not] at this
    cases this

theorem Mid.slot (X : Ctx P C ops N fs ms vs kd j0 w0) (D : Mid P ops N fs ms vs kd j0 w0 listed a w s M j) {i : Nat} {o : Oper} (R : Ready ops listed i o) {t : Nat} (ht : t ∈ slotsOf ops o) : VR j (fs i t) (a.tmps.getD t undef) := by
  have hi : i < ops.size := (Array.getElem?_eq_some_iff.1 R.at_).1
  have hw := fun {x : Nat} {p : Oper} (hp : ops[x]? = some p) (hd : p.dst = some t) => R.writers X D ht hp hd
  have hself : ∀ {x : Nat}, x = i → listed.getD x false = true → False := fun hx hl => by subst hx; rw [R.not] at hl; cases hl
  rcases trace_last X.T t i (by simpa using Nat.le_of_lt hi) with ⟨x, p, h1, h2, h3, h4, h5⟩ | ⟨h1, h2⟩
  · have h2' : ops[x]? = some p := by simpa using h2
    have hlx : listed.getD x false = true := by
      rcases hw h2' h3 with h | h
      · exact h.2 h1
      · omega
    rcases D.cur t with ⟨y, q, g1, g2, g3, g4, g5⟩ | ⟨g1, _⟩
    · have hyi : y < i := by
        rcases hw g1 g3 with h | h
        · exact h.1 g2
        · exact (hself h g2).elim
      have : y = x := by
        rcases Nat.lt_trichotomy y x with h | h | h
        · exact absurd h3 (g4 x p h h2' hlx)
        · exact h
        · exact absurd g3 (h5 y q h hyi (by simpa using g1))
      subst this
      rw [h4]; exact g5
    · exact absurd h3 (g1 x p h2' hlx)
  · rcases D.cur t with ⟨y, q, g1, g2, g3, g4, g5⟩ | ⟨_, g2⟩
    · rcases hw g1 g3 with h | h
      · exact absurd g3 (h1 y q (h.1 g2) (by simpa using g1))
      · exact (hself h g2).elim
    · rw [h2]; exact g2

theorem okX_VR {fr : Nat → Value} {a : Act} {j : Emb} {x : Operand} (hx : okX x = true) (h : ∀ t, x = .tmp t → VR j (fr t) (a.tmps.getD t undef)) : VR j (ev fr x) (a.eval x) := by
  cases x with
  | tmp t => exact h t rfl
  | const v => exact flat_self hx
  | global g => simp [okX] at hx
  | func f => exact ⟨#[], #[], rfl, True.intro, True.intro⟩

theorem Mid.opsR (X : Ctx P C ops N fs ms vs kd j0 w0) (D : Mid P ops N fs ms vs kd j0 w0 listed a w s M j) {i : Nat} {o : Oper} (R : Ready ops listed i o) : OpsR j (ev (fs i)) a.eval o := by
  intro x hx
  have hm : o ∈ ops.toList := by have := Array.mem_of_getElem? R.at_; simpa using this
  refine okX_VR (X.okx o hm x hx) fun t ht => D.slot X R ?_
  subst ht
  simp only [slotsOf, List.mem_append, List.mem_filterMap]
  exact .inl (.inl ⟨.tmp t, by simpa using hx, rfl⟩)

theorem VR_notBool {j : Emb} {v cv : Value} (h : VR j v cv) (hb : ∀ b, v ≠ .bool b) : ∀ b, cv ≠ .bool b := by
  intro b hcv
  subst hcv
  cases v with
  | bool b' => exact hb b' rfl
  | pointer q => cases q with
    | none => cases h
    | some q => obtain ⟨e, _, _, h⟩ := h; cases h
  | slice q l c => cases q with
    | none => cases h
    | some q => obtain ⟨e, _, _, h⟩ := h; rcases h with ⟨_, h⟩ | ⟨_, _, _, _, _, _, h⟩ | ⟨_, _, _, h⟩ | ⟨_, _, _, h⟩ <;> cases h
  | map r => cases r with
    | none => cases h
    | some r => obtain ⟨e, _, h⟩ := h; cases h
  | agg cs => obtain ⟨ds, h, _⟩ := h; cases h
  | tuple cs => obtain ⟨ds, h, _⟩ := h; cases h
  | func fn f c => obtain ⟨ds, es, h, _⟩ := h; cases h
  | chan _ => exact h
  | iface _ _ => exact h
  | _ => cases h

/-- A guard lets an operation run in the world if it does in the abstract machine. -/
theorem wanted_eq {ops : Array Oper} {N : Nat} {fr : Nat → Value} {a : Act} {j : Emb} {o : Oper} (hN : a.tmps.size = N) (hdst : ∀ p ∈ ops.toList, ∀ d, p.dst = some d → d < N) (h : ∀ g w d, o.guard = some (g, w) → (ops[g]?).bind (·.dst) = some d → VR j (fr d) (a.tmps.getD d undef)) :
    Region.wanted o (yielded ops a.tmps) = wanted ops.toList fr o := by
  unfold Region.wanted wanted
  cases hg : o.guard with
  | none => rfl
  | some gw =>
    obtain ⟨g, want⟩ := gw
    simp only [yielded, Array.getElem?_toList]
    cases hd : (ops[g]?).bind (·.dst) with
    | none => simp
    | some d =>
      have hv := h g want d hg hd
      have hlt : d < a.tmps.size := by
        rw [hN]
        cases hp : ops[g]? with
        | none => simp [hp] at hd
        | some p =>
          simp [hp] at hd
          exact hdst p (by have := Array.mem_of_getElem? hp; simpa using this) d hd
      have hget : a.tmps[d]? = some (a.tmps.getD d undef) := by simp [Array.getD, hlt]
      simp only [Option.bind_some, hget]
      by_cases hb : ∃ b, fr d = .bool b
      · obtain ⟨b, hb⟩ := hb
        rw [hb] at hv
        rw [hb, hv.bool]
        simp
      · have hb' : ∀ b, fr d ≠ .bool b := fun b h => hb ⟨b, h⟩
        have hc := VR_notBool hv hb'
        cases hfd : fr d <;> first | exact absurd hfd (hb' _) | (cases hcd : a.tmps.getD d undef <;> first | exact absurd hcd (hc _) | rfl)

theorem Mid.wanted (X : Ctx P C ops N fs ms vs kd j0 w0) (D : Mid P ops N fs ms vs kd j0 w0 listed a w s M j) {i : Nat} {o : Oper} (R : Ready ops listed i o) : Region.wanted o (yielded ops a.tmps) = AM.wanted ops.toList (fs i) o := by
  refine wanted_eq D.tmps X.dst fun g wnt d hg hd => D.slot X R ?_
  simp only [slotsOf, List.mem_append, hg, hd]
  exact .inl (.inr (by simp))

end
end Go.AM
