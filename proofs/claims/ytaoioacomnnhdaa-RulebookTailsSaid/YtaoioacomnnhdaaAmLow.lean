/- The abstract machine makes no dangling addresses. -/
import Derived.Test.YtaoioacomnnhdaaAmEff3
set_option linter.unusedSimpArgs false
set_option linter.unusedVariables false
namespace Go.AM

structure WF (m : Mem) : Prop where
  dead : ∀ b, m.next ≤ b → m.blk b = .dead
  low : ∀ b, lowB m.next (m.blk b)

theorem low0_mono {n n' : Nat} (h : n ≤ n') {v : Value} (hv : low0 n v) : low0 n' v := by
  cases v with
  | pointer a => cases a with
    | none => exact hv
    | some a => exact Nat.lt_of_lt_of_le hv h
  | slice a l c => cases a with
    | none => exact hv
    | some a => exact Nat.lt_of_lt_of_le hv h
  | map r => cases r with
    | none => exact hv
    | some r => exact Nat.lt_of_lt_of_le hv h
  | _ => exact hv
theorem low1_mono {n n' : Nat} (h : n ≤ n') {v : Value} (hv : low1 n v) : low1 n' v := by
  cases v with
  | agg cs => exact fun v hm => low0_mono h (hv v hm)
  | _ => simp only [low1] at hv ⊢; exact low0_mono h hv
theorem low_mono {n n' : Nat} (h : n ≤ n') {v : Value} (hv : low n v) : low n' v := by
  cases v with
  | tuple cs => exact fun v hm => low1_mono h (hv v hm)
  | func _ a b => exact ⟨fun v hm => low1_mono h (hv.1 v hm), fun v hm => low1_mono h (hv.2 v hm)⟩
  | _ => simp only [low] at hv ⊢; exact low1_mono h hv
theorem lowB_mono {n n' : Nat} (h : n ≤ n') {x : Blk} (hv : lowB n x) : lowB n' x := by
  cases x with
  | dead => exact hv
  | ro rd => exact fun i v hi => low0_mono h (hv i v hi)
  | own L t => exact fun v hm => low0_mono h (hv v hm)
  | map L t => exact fun v hm => low0_mono h (hv v hm)

theorem flat0_low {n : Nat} {v : Value} (h : flat0 v = true) : low0 n v := by
  cases v with
  | pointer a => cases a with
    | none => exact True.intro
    | some a => simp [flat0] at h
  | slice a l c => cases a with
    | none => exact True.intro
    | some a => simp [flat0] at h
  | map r => cases r with
    | none => exact True.intro
    | some r => simp [flat0] at h
  | chan _ => simp [flat0] at h
  | func _ _ _ => simp [flat0] at h
  | iface _ _ => simp [flat0] at h
  | agg _ => simp [flat0] at h
  | tuple _ => simp [flat0] at h
  | _ => exact True.intro
theorem flat1_low {n : Nat} {v : Value} (h : flat1 v = true) : low1 n v := by
  cases v with
  | agg cs => simp only [flat1, List.all_eq_true] at h; exact fun v hm => flat0_low (h v hm)
  | _ => simp only [low1]; exact flat0_low h
theorem flat_low {n : Nat} {v : Value} (h : flat v = true) : low n v := by
  cases v with
  | tuple cs => simp only [flat, List.all_eq_true] at h; exact fun v hm => flat1_low (h v hm)
  | func _ _ _ => simp [flat, flat1, flat0] at h
  | _ => simp only [low]; exact flat1_low h

theorem low1_of0 {n : Nat} {v : Value} (h : low0 n v) : low1 n v := by
  cases v <;> first | exact h | exact h.elim
theorem low1_up {n : Nat} {v : Value} (h : low1 n v) : low n v := by
  cases v <;> first | exact h | exact h.elim
theorem low_of0 {n : Nat} {v : Value} (h : low0 n v) : low n v := low1_up (low1_of0 h)

theorem low_storable {n : Nat} {v : Value} (h : low n v) (hs : storable v = true) : low1 n v := by
  cases v <;> first | (simp [storable] at hs; done) | exact h

theorem low1_cells {n : Nat} {v : Value} (h : low1 n v) : ∀ c ∈ v.cells.toList, low0 n c := by
  cases v with
  | agg cs => exact h
  | _ => intro c hc; simp only [Value.cells, List.mem_singleton] at hc; subst hc; exact h

theorem setN_mem : ∀ (vs L : List Value) (o : Nat) (v : Value), v ∈ setN L o vs → v ∈ L ∨ v ∈ vs
  | [], L, o, v, h => .inl h
  | u :: vs, L, o, v, h => by
    rcases setN_mem vs (L.set o u) (o + 1) v h with h | h
    · rcases List.mem_or_eq_of_mem_set h with h | h
      · exact .inl h
      · exact .inr (by simp [h])
    · exact .inr (by simp [h])

theorem fillL_low {n : Nat} {place : Nat → Option (Nat × Nat)} : ∀ (ps : List (Nat × Value)) (L cs : List Value), (∀ p ∈ ps, low n p.2) → (∀ v ∈ L, low0 n v) → fillL place L ps = some cs → ∀ v ∈ cs, low0 n v
  | [], L, cs, _, hL, h => by simp only [fillL, Option.some.injEq] at h; subst h; exact hL
  | (i, v) :: ps, L, cs, hp, hL, h => by
    simp only [fillL] at h
    cases hq : place i with
    | none => simp [hq] at h
    | some q =>
      simp only [hq] at h
      split at h
      · rename_i hc
        refine fillL_low ps _ cs (fun p hm => hp p (by simp [hm])) ?_ h
        intro u hu
        rcases setN_mem _ _ _ _ hu with hu | hu
        · exact hL u hu
        · exact low1_cells (low_storable (hp (i, v) (by simp)) hc.1) u hu
      · cases h

theorem load_low {m : Mem} (hm : WF m) {b o : Nat} {v : Value} (h : m.load b o = some v) : low0 m.next v := by
  have := hm.low b
  unfold Mem.load at h
  cases hb : m.blk b with
  | dead => simp [hb] at h
  | ro rd => simp only [hb] at h; rw [hb] at this; exact this o v h
  | own L t => simp only [hb] at h; rw [hb] at this; exact this v (List.mem_of_getElem? h)
  | map L t => simp [hb] at h

theorem rdN_low {m : Mem} (hm : WF m) {b : Nat} : ∀ (n o : Nat) (cs : List Value), rdN m b o n = some cs → ∀ v ∈ cs, low0 m.next v
  | 0, o, cs, h => by simp only [rdN, Option.some.injEq] at h; subst h; intro v hv; simp at hv
  | n + 1, o, cs, h => by
    simp only [rdN] at h
    cases h1 : m.load b o with
    | none => simp [h1] at h
    | some u =>
      cases h2 : rdN m b (o + 1) n with
      | none => simp [h1, h2] at h
      | some l =>
        simp only [h1, h2, Option.some.injEq] at h
        subst h
        intro v hv
        rcases List.mem_cons.1 hv with rfl | hv
        · exact load_low hm h1
        · exact rdN_low hm n (o + 1) l h2 v hv

theorem all_flat0 {n : Nat} {L : List Value} (h : L.all flat0 = true) : ∀ v ∈ L, low0 n v := by
  simp only [List.all_eq_true] at h
  exact fun v hv => flat0_low (h v hv)

theorem pure_low {P : Program} {ρ : Operand → Value} {o : Oper} {v : Value} {n : Nat} (h : PureR P ρ o v) (hρ : ∀ x ∈ o.op.operands, low n (ρ x)) : low n v := by
  cases h with
  | flat v hs h hv hr => exact flat_low hv
  | move x h => exact hρ x (by rcases h with h | h <;> simp [h, Op.operands])
  | pick c a b t h hc =>
    cases t
    · exact hρ b (by simp [h, Op.operands])
    · exact hρ a (by simp [h, Op.operands])
  | extract x i vs v h hx hv =>
    have := hρ x (by simp [h, Op.operands])
    rw [hx] at this
    exact low1_up (this v (by have := Array.mem_of_getElem? hv; simpa using this))
  | field t x i fs f d cs v h ht hf hd hx hv =>
    have := hρ x (by simp [h, Op.operands])
    rw [hx] at this
    split at hv
    · obtain ⟨k, hk, hle, rfl⟩ := hv
      intro u hu
      refine this u ?_
      simp only [Array.toList_extract, List.extract_eq_drop_take'] at hu
      exact List.mem_of_mem_take (List.mem_of_mem_drop hu)
    · exact low_of0 (this v (by have := Array.mem_of_getElem? hv; simpa using this))
  | build t ps fs i z cs h ht hi hz hzf hp hc =>
    have := fillL_low (n := n) _ _ _ (by
      intro p hp
      simp only [List.mem_map] at hp
      obtain ⟨q, hq, rfl⟩ := hp
      exact hρ q.2 (by simp only [h, Op.operands]; simp only [List.mem_toArray, List.mem_map]; exact ⟨q, hq, rfl⟩)) (all_flat0 hzf) hc
    simpa [low, low1] using this
  | buildA t ps n e i k z cs h ht hi hz hzf he hc =>
    have := fillL_low (n := _) _ _ _ (by
      intro p hp
      simp only [List.mem_map] at hp
      obtain ⟨q, hq, rfl⟩ := hp
      exact hρ q.2 (by simp only [h, Op.operands]; simp only [List.mem_toArray, List.mem_map]; exact ⟨q, hq, rfl⟩)) (all_flat0 hzf) hc
    simpa [low, low1] using this
  | nilCheck x a h hx =>
    have := hρ x (by simp [h, Op.operands])
    rw [hx] at this
    exact this
  | fieldAddr t x i fs f k b off h ht hf hk hs hx =>
    have := hρ x (by simp [h, Op.operands])
    rw [hx] at this
    exact this
  | indexAddr t x y e i b off l c k n h ht hi hx hy h0 h1 =>
    have := hρ x (by simp [h, Op.operands])
    rw [hx] at this
    exact this
  | indexAddrA t x y e i b off l k n h ht hi hx hy h0 h1 =>
    have := hρ x (by simp [h, Op.operands])
    rw [hx] at this
    exact this
  | slice t x lo hi e i b off l c n h' h ht hi' hx hb hlo hhi h1 h2 h3 =>
    have := hρ x (by simp [h, Op.operands])
    rw [hx] at this
    exact this
  | sliceNil t x lo hi e i h ht hi' hx hlo hhi => exact True.intro
  | len x t e a l c h ht hx => exact True.intro
  | eqNil neq x y t u e a l c h ht hx hy => exact True.intro
  | func fn first captured h hf =>
    refine ⟨?_, ?_⟩
    · intro v hv
      simp only [Array.toList_map, List.mem_map] at hv
      obtain ⟨x, hx, rfl⟩ := hv
      exact low_storable (hρ x (by simp [h, Op.operands]; exact .inl (by simpa using hx))) (hf x (by simp [hx]))
    · intro v hv
      simp only [Array.toList_map, List.mem_map] at hv
      obtain ⟨x, hx, rfl⟩ := hv
      exact low_storable (hρ x (by simp [h, Op.operands]; exact .inr (by simpa using hx))) (hf x (by simp [hx]))

theorem cellV_low {P : Program} {vt : TypeId} {n : Nat} {cs : List Value} (hv1 : tyAgg P vt = false → P.cellsOf vt = 1) (hl : cs.length = P.cellsOf vt) (h : ∀ c ∈ cs, low0 n c) : low1 n (cellV (tyAgg P vt) cs) := by
  cases ha : tyAgg P vt with
  | true => simpa [cellV, low1] using h
  | false =>
    have := hv1 ha
    match cs, hl with
    | [v], _ => exact low1_of0 (h v (by simp))
    | [], hl => simp at hl; omega
    | _ :: _ :: _, hl => simp at hl; omega

theorem read_low {P : Program} {ρ : Operand → Value} {o : Oper} {m : Mem} {v : Value} (h : ReadR P ρ o m v) (hm : WF m) (hρ : ∀ x ∈ o.op.operands, low m.next (ρ x)) : low m.next v := by
  cases h with
  | load t x b off d v h hx ht hd hv => exact low_of0 (load_low hm hv)
  | loadA t x b off d i cs h hx ht hd hi hv => simpa [low, low1] using rdN_low hm _ _ _ hv
  | slice t x lo hi e i L b off l n h' h ht hi' hx hm' hlo hhi h1 h2 h3 =>
    have := hρ x (by simp [h, Op.operands])
    rw [hx] at this
    exact this
  | str s t x e b off l c cs h hs he ht hx hv => exact True.intro
  | strNil s t x e l c h hs he ht hx => exact True.intro
  | lookup xt x ix ok u kt vt b L E i z v0 t good h hxt hu hx hks hv1 K hf hk hg hi hz hzf hl =>
    have h0 : low1 m.next v0 := by
      have hEl : (∀ p ∈ E, ∀ c ∈ p.2, low0 m.next c) ∧ ∀ p ∈ E, p.2.length = P.cellsOf vt := by
        rcases hx with ⟨hx, hmb, hE⟩ | ⟨hx, rfl⟩
        · have hL := hm.low b
          rw [hmb] at hL
          exact ⟨fun p hp c hc => hL c (by rw [hE.eq]; exact List.mem_flatMap.2 ⟨p, hp, by simp [hc]⟩), fun p hp => (hE.len p hp).2⟩
        · exact ⟨fun p hp => by simp at hp, fun p hp => by simp at hp⟩
      obtain ⟨hE', hlen⟩ := hEl
      clear hg hx
      induction hl with
      | miss => exact flat1_low hzf
      | hit p E h => exact cellV_low hv1 (hlen p (by simp)) (hE' p (by simp))
      | next p E v b h hl ih => exact ih (fun q hq => hE' q (by simp [hq])) (fun q hq => hlen q (by simp [hq]))
    cases ok with
    | false => exact low1_up h0
    | true =>
      intro v hv
      simp at hv
      rcases hv with rfl | rfl
      · exact h0
      · exact True.intro

theorem new_low {P : Program} {ρ : Operand → Value} {o : Oper} {n : Nat} {X : Blk} {v : Value} (h : NewR P ρ o n X v) (hρ : ∀ x ∈ o.op.operands, low n (ρ x)) : low (n + 1) v ∧ lowB n X := by
  cases h with
  | alloc t i z h hi hz hzf hs => exact ⟨Nat.lt_succ_self n, all_flat0 hzf⟩
  | box t x i h hi hv hs => exact ⟨Nat.lt_succ_self n, low1_cells (low_storable (hρ x (by simp [h, Op.operands])) hv)⟩
  | buildSlice t l ps e i z cs h ht hi hz hzf hzs h24 hl63 hc =>
    refine ⟨Nat.lt_succ_self n, fillL_low _ _ _ ?_ (all_flat0 (rep_flat hzf l)) hc⟩
    intro p hp
    simp only [List.mem_map] at hp
    obtain ⟨q, hq, rfl⟩ := hp
    exact hρ q.2 (by simp only [h, Op.operands]; simp only [List.mem_toArray, List.mem_map]; exact ⟨q, hq, rfl⟩)
  | makeSlice t x y l c k k' e i z h ht hi hz hzf hzs hx hy hlc hb hc => exact ⟨Nat.lt_succ_self n, all_flat0 (rep_flat hzf c)⟩
  | bytes s t x e i b h hs ht he hi hi1 hx hb => exact ⟨Nat.lt_succ_self n, all_flat0 (by simp only [List.all_map, List.all_eq_true, Function.comp]; intro u _; rfl)⟩
  | makeMap t kt vt h ht => exact ⟨Nat.lt_succ_self n, fun v hv => by simp at hv⟩

theorem WF.push {m : Mem} (h : WF m) {X : Blk} (hL : lowB (m.next + 1) X) : WF (m.push X) where
  dead := fun b hb => by
    simp only [Mem.push] at hb ⊢
    rw [if_neg (by omega)]
    exact h.dead b (by omega)
  low := fun b => by
    simp only [Mem.push]
    split
    · exact hL
    · exact lowB_mono (Nat.le_succ _) (h.low b)

theorem WF.put {m : Mem} (h : WF m) {b : Nat} {x : Blk} (hx : lowB m.next x) (hb : b < m.next ∨ x = .dead) : WF (m.put b x) where
  dead := fun c hc => by
    have hc : m.next ≤ c := hc
    simp only [Mem.put]
    split
    · rcases hb with hb | hb
      · omega
      · exact hb
    · exact h.dead c hc
  low := fun c => by
    simp only [Mem.put]
    split
    · exact hx
    · exact h.low c

theorem WF.lt {m : Mem} (h : WF m) {b : Nat} (hb : m.blk b ≠ .dead) : b < m.next := by
  rcases Nat.lt_or_ge b m.next with h1 | h1
  · exact h1
  · exact absurd (h.dead b h1) hb

/-- What every step keeps. -/
def KeepsC (C : FuncId → Array Value → Mem → Value → Mem → Prop) : Prop := ∀ f args m v m', C f args m v m' → WF m → (∀ a ∈ args.toList, low m.next a) → low m'.next v ∧ WF m' ∧ m.next ≤ m'.next

theorem elems_low {m : Mem} (hm : WF m) {sz : Nat} {y : Value} {cs : List Value} (h : elems m sz y = some cs) : ∀ v ∈ cs, low0 m.next v := by
  cases y with
  | slice a l c =>
    cases a with
    | none => simp only [elems, Option.some.injEq] at h; subst h; intro v hv; simp at hv
    | some a =>
      obtain ⟨b, off, spot⟩ := a
      cases spot with
      | none => exact rdN_low hm _ _ _ h
      | some _ => simp [elems] at h
  | string s =>
    simp only [elems] at h
    split at h
    · simp only [Option.some.injEq] at h; subst h
      exact all_flat0 (by simp only [List.all_map, List.all_eq_true, Function.comp]; intro u _; rfl)
    · cases h
  | _ => simp [elems] at h

theorem callee_low {o : Oper} {ρ : Operand → Value} {f : FuncId} {args : Array Value} {n : Nat} (h : callee o ρ f args) (hρ : ∀ x ∈ o.op.operands, low n (ρ x)) : ∀ a ∈ args.toList, low n a := by
  obtain ⟨x, as, ts, first, captured, h, hx, rfl⟩ := h
  have hf := hρ x (by simp [h, Op.operands, Call.operands])
  rw [hx] at hf
  intro a ha
  simp only [Array.toList_append, List.mem_append, Array.toList_map, List.mem_map] at ha
  rcases ha with (ha | ⟨y, hy, rfl⟩) | ha
  · exact low1_up (hf.1 a ha)
  · exact hρ y (by simp [h, Op.operands, Call.operands]; exact .inr (by simpa using hy))
  · exact low1_up (hf.2 a ha)

theorem eff_low {P : Program} {C : FuncId → Array Value → Mem → Value → Mem → Prop} {ρ : Operand → Value} {o : Oper} {m m' : Mem} {v : Value} (h : EffR P C ρ o m v m') (hm : WF m) (hρ : ∀ x ∈ o.op.operands, low m.next (ρ x)) (hC : KeepsC C) : low m'.next v ∧ WF m' ∧ m.next ≤ m'.next := by
  cases h with
  | store t x y b off i L e h hx hi hmb hv hs hl =>
    refine ⟨fun u hu => by simp at hu, hm.put ?_ (.inl (hm.lt (by rw [hmb]; simp))), Nat.le_refl _⟩
    intro u hu
    rcases setN_mem _ _ _ _ hu with hu | hu
    · have := hm.low b; rw [hmb] at this; exact this u hu
    · exact low1_cells (low_storable (hρ y (by simp [h, Op.operands])) hv) u hu
  | call f args v m' h hcall => exact hC f args m v m' hcall hm (callee_low h hρ)
  | appendNone x y t u e i a l c h ht hi hu hx hc hlc hy hy' => exact ⟨hρ x (by simp [h, Op.operands, Call.operands]), hm, Nat.le_refl _⟩
  | appendNew x y t u e i z a l c old new h ht hi hz hzf hzs hsz hu hx hc ho hol hy hn hb hmm =>
    refine ⟨Nat.lt_succ_self _, hm.push ?_, Nat.le_succ _⟩
    intro w hw
    rcases List.mem_append.1 hw with hw | hw
    · exact low0_mono (Nat.le_succ _) (elems_low hm ho w hw)
    · exact low0_mono (Nat.le_succ _) (elems_low hm hy w hw)
  | appendIn x y t u e i b off l c L new h ht hi hu hx hcb hc hmb hy hn hl =>
    refine ⟨?_, hm.put ?_ (.inl (hm.lt (by rw [hmb]; simp))), Nat.le_refl _⟩
    · have := hρ x (by simp [h, Op.operands, Call.operands])
      rw [hx] at this
      exact this
    · intro w hw
      rcases setN_mem _ _ _ _ hw with hw | hw
      · have := hm.low b; rw [hmb] at this; exact this w hw
      · exact elems_low hm hy w hw
  | append x y t u e i z b l L new h ht hi hz hzf hzs hsz hu hx hmb hlL hy hn hb hmm =>
    have h1 : WF (m.put b .dead) := hm.put True.intro (.inr rfl)
    refine ⟨Nat.lt_succ_self _, h1.push ?_, Nat.le_succ _⟩
    intro w hw
    rcases List.mem_append.1 hw with hw | hw
    · have := hm.low b; rw [hmb] at this
      exact low0_mono (Nat.le_succ _) (this w (List.mem_of_mem_take hw))
    · exact low0_mono (Nat.le_succ _) (elems_low hm hy w hw)
  | copy x y t u e i b off l c L cs h ht hi hx hmb hy hn hl =>
    refine ⟨True.intro, hm.put ?_ (.inl (hm.lt (by rw [hmb]; simp))), Nat.le_refl _⟩
    intro w hw
    rcases setN_mem _ _ _ _ hw with hw | hw
    · have := hm.low b; rw [hmb] at this; exact this w hw
    · exact elems_low hm hy w (List.mem_of_mem_take hw)
  | mapUpdate xt x kx vx u kt vt b L kc vc E E' good h hxt hu hx hmb hE hks K hkc hkl hkf hf hk hg hvs hvc hvl hvv hup =>
    refine ⟨fun u hu => by simp at hu, hm.put ?_ (.inl (hm.lt (by rw [hmb]; simp))), Nat.le_refl _⟩
    have hL := hm.low b
    rw [hmb] at hL
    have hE' : ∀ p ∈ E, ∀ c ∈ p.1 ++ p.2, low0 m.next c := fun p hp c hc => hL c (by rw [hE.eq]; exact List.mem_flatMap.2 ⟨p, hp, hc⟩)
    have hkl0 : ∀ c ∈ kc, low0 m.next c := all_flat0 hkf
    have hvl0 : ∀ c ∈ vc, low0 m.next c := fun c hc => by
      refine low1_cells (low_storable (hρ vx ?_) hvs) c (hvv c hc)
      rcases h with h | h <;> simp [h, Op.operands]
    have key : ∀ p ∈ E', ∀ c ∈ p.1 ++ p.2, low0 m.next c := by
      clear hE hg hL
      induction hup with
      | miss =>
        intro p hp c hc
        simp at hp; subst hp
        rcases List.mem_append.1 hc with hc | hc
        · exact hkl0 c hc
        · exact hvl0 c hc
      | hit p E h =>
        intro q hq c hc
        rcases List.mem_cons.1 hq with rfl | hq
        · rcases List.mem_append.1 hc with hc | hc
          · exact hE' p (by simp) c (by simp [hc])
          · exact hvl0 c hc
        · exact hE' q (by simp [hq]) c hc
      | next p E E' h hE2 ih =>
        intro q hq c hc
        rcases List.mem_cons.1 hq with rfl | hq
        · exact hE' q (by simp) c hc
        · exact ih (fun q hq => hE' q (by simp [hq])) q hq c hc
    intro v hv
    obtain ⟨p, hp, hc⟩ := List.mem_flatMap.1 hv
    exact key p hp v hc

theorem ev_low {fr : Nat → Value} {n : Nat} (h : ∀ t, low n (fr t)) {x : Operand} (hx : okX x = true) : low n (ev fr x) := by
  cases x with
  | tmp t => exact h t
  | const v => exact flat_low hx
  | global g => simp [okX] at hx
  | func f => exact ⟨fun v hv => by simp at hv, fun v hv => by simp at hv⟩

theorem set_low {fr : Nat → Value} {n : Nat} (h : ∀ t, low n (fr t)) {d : Option Tmp} {v : Value} (hv : low n v) : ∀ t, low n (set fr d v t) := by
  intro t
  cases d with
  | none => exact h t
  | some d => simp only [set]; split; exact hv; exact h t

theorem undef_low {n : Nat} : low n undef := fun v hv => by simp at hv

theorem step_low {P : Program} {C : FuncId → Array Value → Mem → Value → Mem → Prop} {fr : Nat → Value} {o : Oper} {m m' : Mem} {v : Value} (h : StepR P C (ev fr) o m v m') (hm : WF m) (hf : ∀ t, low m.next (fr t)) (hC : KeepsC C) (ho : ∀ x ∈ o.op.operands, okX x = true) :
    low m'.next v ∧ WF m' ∧ m.next ≤ m'.next := by
  have hρ : ∀ x ∈ o.op.operands, low m.next (ev fr x) := fun x hx => ev_low hf (ho x hx)
  cases h with
  | pure h => exact ⟨pure_low h hρ, hm, Nat.le_refl _⟩
  | read h => exact ⟨read_low h hm hρ, hm, Nat.le_refl _⟩
  | new h =>
    have := new_low h hρ
    exact ⟨this.1, hm.push (lowB_mono (Nat.le_succ _) this.2), Nat.le_succ _⟩
  | eff h => exact eff_low h hm hρ hC

end Go.AM
