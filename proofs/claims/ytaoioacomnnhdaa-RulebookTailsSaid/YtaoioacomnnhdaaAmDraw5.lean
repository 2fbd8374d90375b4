/- A region whose order is open: the whole. -/
import Derived.Test.YtaoioacomnnhdaaAmDraw4
set_option linter.unusedSimpArgs false
set_option linter.unusedVariables false
namespace Go.AM

section
variable {P : Program} {C : FuncId → Array Value → Mem → Value → Mem → Prop} {ops : Array Oper} {N : Nat} {fs : Nat → Nat → Value} {ms : Nat → Mem} {vs : Nat → Value} {kd : Nat → Nat} {j0 : Emb} {w0 : World}
variable {listed : Array Bool} {a : Act} {w : World} {s : Nat} {M : Mem} {j : Emb}

theorem ready_iff {i : Nat} (h : i ∈ Region.ready .any ops listed) : ∃ o, i < ops.size ∧ ops[i]? = some o ∧ listed.getD i true = false ∧ ∀ e ∈ o.after, Region.binds .any e = true → listed.getD e.on false = true := by
  simp only [Region.ready, List.mem_filter, List.mem_range, Bool.and_eq_true, Bool.not_eq_true'] at h
  obtain ⟨h1, h2, h3⟩ := h
  have ho : ops[i]? = some ops[i] := by simp [h1]
  rw [ho] at h3
  simp only [Option.map_some, Option.getD_some, Array.all_eq_true'] at h3
  refine ⟨_, h1, ho, h2, fun e he hb => ?_⟩
  have := h3 e he
  simpa [hb] using this

theorem getD_true_false {A : Array Bool} {i : Nat} (hi : i < A.size) : A.getD i true = A.getD i false := by simp [Array.getD, hi]

/-- How many operations have not run. -/
def left (n : Nat) (listed : Array Bool) : Nat := ((List.range n).filter fun i => !listed.getD i false).length

theorem filter_lt {α : Type} {p q : α → Bool} : ∀ (l : List α) (x : α), x ∈ l → (∀ y, p y = true → q y = true) → q x = true → p x = false → (l.filter p).length < (l.filter q).length
  | [], x, hx, _, _, _ => by simp at hx
  | y :: l, x, hx, hpq, hqx, hpx => by
    have hle : (l.filter p).length ≤ (l.filter q).length := by
      clear hx
      induction l with
      | nil => simp
      | cons z l ih =>
        simp only [List.filter_cons]
        by_cases hz : p z = true
        · simp only [hz, hpq z hz, if_true, List.length_cons]; omega
        · by_cases hq : q z = true
          · simp only [hz, hq, if_true, List.length_cons]; simp; omega
          · simp [hz, hq]; exact ih
    rcases List.mem_cons.1 hx with rfl | hx
    · simp only [List.filter_cons, hqx, hpx, if_true]
      simp; omega
    · have ih := filter_lt l x hx hpq hqx hpx
      simp only [List.filter_cons]
      by_cases hz : p y = true
      · simp only [hz, hpq y hz, if_true, List.length_cons]; omega
      · by_cases hq : q y = true
        · simp only [hz, hq, if_true, List.length_cons]; simp; omega
        · simp [hz, hq]; exact ih

theorem all_listed {n : Nat} (h : left n listed = 0) : ∀ i, i < n → listed.getD i false = true := by
  intro i hi
  cases hl : listed.getD i false with
  | true => rfl
  | false =>
    have : i ∈ (List.range n).filter fun i => !listed.getD i false := List.mem_filter.2 ⟨List.mem_range.2 hi, by rw [hl]; rfl⟩
    rw [List.eq_nil_of_length_eq_zero h] at this
    simp at this

/-- When nothing is ready, all has run. -/
theorem Mid.all (X : Ctx P C ops N fs ms vs kd j0 w0) (D : Mid P ops N fs ms vs kd j0 w0 listed a w s M j) (h : Region.ready .any ops listed = []) : ∀ i, i < ops.size → listed.getD i false = true := by
  intro i
  induction i using Nat.strongRecOn with
  | _ i ih =>
    intro hi
    cases hl : listed.getD i false with
    | true => rfl
    | false =>
      have ho : ops[i]? = some ops[i] := by simp [hi]
      have : i ∈ Region.ready .any ops listed := by
        simp only [Region.ready, List.mem_filter, List.mem_range, Bool.and_eq_true, Bool.not_eq_true']
        refine ⟨hi, by rw [getD_true_false (by rw [D.size]; exact hi)]; exact hl, ?_⟩
        rw [ho]
        simp only [Option.map_some, Option.getD_some, Array.all_eq_true']
        intro e he
        cases hb : Region.binds .any e with
        | false => simp
        | true =>
          have hon := drawOk_on X.ok ho he hb
          simp [ih e.on hon (by omega)]
      rw [h] at this
      simp at this

theorem Mid.end (X : Ctx P C ops N fs ms vs kd j0 w0) (D : Mid P ops N fs ms vs kd j0 w0 listed a w s M j) (h : ∀ i, i < ops.size → listed.getD i false = true) :
    Post P j0 (ms 0) w0 (j.below (ms ops.size).next) (ms ops.size) w ∧ (∀ t, VR (j.below (ms ops.size).next) (fs ops.size t) (a.tmps.getD t undef)) ∧ a.defers = [] ∧ a.tmps.size = N := by
  have hne : ∀ e, s ≤ e → e < ops.size → kd e ≠ 4 := fun e h1 h2 hk => by
    have := (D.effs e h2 hk).1 (h e h2); omega
  have hA := D.agreeZ X D.sle (Nat.le_refl _) hne
  obtain ⟨hW, hL⟩ := X.wf ops.size (Nat.le_refl _)
  have h0 : (ms 0).next ≤ (ms ops.size).next := X.mono 0 _ (Nat.zero_le _) (Nat.le_refl _)
  have hg := (trace_grow X.T ops.size D.sle (by simp) hne).1
  have hbs : ∀ b, b < (ms 0).next → (ms ops.size).blk b = M.blk b := fun b hb => by
    have hb' := Nat.lt_of_lt_of_le hb (X.mono 0 s (Nat.zero_le _) D.sle)
    rw [hg b hb', D.agree b hb']
  refine ⟨⟨D.rel.below hW hA, D.frm, h0, ?_, ?_, ?_, ?_⟩, ?_, D.defers, D.tmps⟩
  · intro b hb
    simp only [Emb.below, show b < (ms ops.size).next by omega, if_true]
    exact D.ext b hb
  · intro b e hb hge
    exact D.fresh b e (below_some hb).2 hge
  · intro b hb ho
    exact D.old b hb (by rw [← hbs b hb]; exact ho)
  · intro b hb ho
    exact D.alive b hb (by rw [← hbs b hb]; exact ho)
  · intro t
    refine VR_below.2.2 ?_ (hL t)
    rcases trace_last X.T t ops.size (by simp) with ⟨x, p, h1, h2, h3, h4, h5⟩ | ⟨h1, h2⟩
    · have h2' : ops[x]? = some p := by simpa using h2
      rcases D.cur t with ⟨y, q, g1, g2, g3, g4, g5⟩ | ⟨g1, _⟩
      · have hy := (Array.getElem?_eq_some_iff.1 g1).1
        have : y = x := by
          rcases Nat.lt_trichotomy y x with hh | hh | hh
          · exact absurd h3 (g4 x p hh h2' (h x h1))
          · exact hh
          · exact absurd g3 (h5 y q hh hy (by simpa using g1))
        subst this
        rw [h4]; exact g5
      · exact absurd h3 (g1 x p h2' (h x h1))
    · rcases D.cur t with ⟨y, q, g1, g2, g3, g4, g5⟩ | ⟨_, g2⟩
      · exact absurd g3 (h1 y q (Array.getElem?_eq_some_iff.1 g1).1 (by simpa using g1))
      · rw [h2]; exact g2

theorem Mid.go (X : Ctx P C ops N fs ms vs kd j0 w0) {Q : Exit → Act → World → Prop} (hQ : ∀ a w j', Post P j0 (ms 0) w0 j' (ms ops.size) w → (∀ t, VR j' (fs ops.size t) (a.tmps.getD t undef)) → a.defers = [] → a.tmps.size = N → Q .normal a w) :
    ∀ (fuel : Nat) (listed : Array Bool) (a : Act) (w : World) (s : Nat) (M : Mem) (j : Emb), Mid P ops N fs ms vs kd j0 w0 listed a w s M j → left ops.size listed ≤ fuel → wpAny P .any ops Q fuel listed a w := by
  intro fuel
  induction fuel with
  | zero =>
    intro listed a w s M j D hl
    have hall := all_listed (n := ops.size) (by omega : left ops.size listed = 0)
    obtain ⟨h1, h2, h3, h4⟩ := D.end X hall
    refine ⟨?_, hQ _ _ _ h1 h2 h3 h4⟩
    simp only [Region.ready, List.filter_eq_nil_iff, List.mem_range]
    intro i hi
    have := hall i hi
    rw [getD_true_false (by rw [D.size]; exact hi), this]
    simp
  | succ fuel ih =>
    intro listed a w s M j D hl
    refine ⟨fun hr => ?_, fun i hi => ?_⟩
    · obtain ⟨h1, h2, h3, h4⟩ := D.end X (D.all X hr)
      exact hQ _ _ _ h1 h2 h3 h4
    · obtain ⟨o, hlt, ho, hnot, hdeps⟩ := ready_iff hi
      have hls : i < listed.size := by rw [D.size]; exact hlt
      have R : Ready ops listed i o := ⟨ho, by rw [← getD_true_false hls]; exact hnot, hdeps⟩
      have hdec : left ops.size (listed.setIfInBounds i true) ≤ fuel := by
        have : left ops.size (listed.setIfInBounds i true) < left ops.size listed := by
          refine filter_lt _ i (by simpa using hlt) (fun y hy => ?_) (by rw [R.not]; rfl) (by rw [(getD_set hls).2 (.inl rfl)]; rfl)
          simp only [Bool.not_eq_true'] at hy ⊢
          exact (getD_set_ne hls hy).2
        omega
      have hwant := D.wanted X R
      have hopsR := D.opsR X R
      unfold wpOp
      rw [ho]
      simp only []
      rcases X.run ho with ⟨hk, hw, hv, _⟩ | ⟨hk, hw, hp, _⟩ | ⟨hk, hw, hp, _⟩ | ⟨hk, hw, Xb, hp, hm⟩ | ⟨hk, hw, hp⟩
      · rw [hwant, hw, if_neg (by simp)]
        exact ih _ _ _ s M j (D.quiet X R (by omega) (by omega) (by rw [hv]; exact ⟨#[], rfl, True.intro⟩)) hdec
      · rw [hwant, hw, if_pos rfl]
        left
        obtain ⟨cv, hr, hcv⟩ := pure_sound hp hopsR w
        unfold Oper.wp
        rw [hr]
        exact ih _ _ _ s M j (D.quiet X R (by omega) (by omega) hcv) hdec
      · rw [hwant, hw, if_pos rfl]
        left
        have hread : ∃ z, ReadR P (ev (fs i)) o (ms z) (vs i) ∧ RdOk P j (ms z) w := by
          rcases Nat.lt_or_ge i s with his | his
          · refine ⟨s, ?_, D.rdOk X (Nat.le_refl _) D.sle (fun e h1 h2 => by omega)⟩
            rcases D.last with h0 | hlast
            · omega
            · have hs1 : s - 1 + 1 = s := by omega
              have hsl := D.sle
              have hne : i ≠ s - 1 := by intro h; rw [← h] at hlast; omega
              have hls1 : listed.getD (s - 1) false = true := (D.effs (s - 1) (by omega) hlast).2 (by omega)
              have hanc : anc (Region.before ops) (s - 1) i = false := by
                cases hA : anc (Region.before ops) (s - 1) i with
                | false => rfl
                | true =>
                  have := D.ancIn hls1 hA
                  rw [R.not] at this; cases this
              have := X.T.after i (s - 1) o (by simpa using ho) (by simpa using hk) (by simp; omega) (by simpa using hlast) (by omega) (by simpa using hanc)
              simp only [Nat.zero_add, hs1] at this
              exact this
          · by_cases hex : ∃ e, s ≤ e ∧ e < i ∧ kd e = 4
            · -- the first effect that has not run
              have hmin : ∃ z, s ≤ z ∧ z < i ∧ kd z = 4 ∧ ∀ e, s ≤ e → e < z → kd e ≠ 4 := by
                obtain ⟨e, h1, h2, h3⟩ := hex
                clear hwant hopsR
                induction e using Nat.strongRecOn with
                | _ e ihe =>
                  by_cases hm : ∃ e', s ≤ e' ∧ e' < e ∧ kd e' = 4
                  · obtain ⟨e', g1, g2, g3⟩ := hm
                    exact ihe e' g2 g1 (by omega) g3
                  · exact ⟨e, h1, h2, h3, fun e' g1 g2 g3 => hm ⟨e', g1, g2, g3⟩⟩
              obtain ⟨z, h1, h2, h3, h4⟩ := hmin
              refine ⟨z, ?_, D.rdOk X h1 (by omega) h4⟩
              have hanc : anc (Region.before ops) i z = false := by
                cases hA : anc (Region.before ops) i z with
                | false => rfl
                | true =>
                  have := (D.effs z (by omega) h3).1 (R.anc D hA); omega
              have := X.T.ahead i z o (by simpa using ho) (by simpa using hk) (by simp; omega) (by simpa using h3) h2 (by simpa using hanc)
              simpa using this
            · exact ⟨i, hp, D.rdOk X his (Nat.le_of_lt hlt) (fun e h1 h2 h3 => hex ⟨e, h1, h2, h3⟩)⟩
        obtain ⟨z, hrd, hok⟩ := hread
        obtain ⟨cv, hr, hcv⟩ := read_sound hrd hopsR hok
        unfold Oper.wp
        rw [hr]
        exact ih _ _ _ s M j (D.quiet X R (by omega) (by omega) hcv) hdec
      · rw [hwant, hw, if_pos rfl]
        left
        obtain ⟨cv, w', e, ob, hr, hn, hcv⟩ := new_run hp hopsR w
        unfold Oper.wp
        rw [hr]
        exact ih _ _ _ s _ _ (D.fresh' X R hk hm hn (hcv _ (by simp [Emb.up]))) hdec
      · rw [hwant, hw, if_pos rfl]
        left
        obtain ⟨h1, h2, h3, h4⟩ := D.eff X R hk
        obtain ⟨hWi, hLi⟩ := X.wf i (Nat.le_of_lt hlt)
        have hmem : o ∈ ops.toList := by have := Array.mem_of_getElem? ho; simpa using this
        have hopsB : OpsR (j.below (ms i).next) (ev (fs i)) a.eval o := fun x hx => VR_below.2.2 (hopsR x hx) (ev_low hLi (X.okx o hmem x hx))
        exact eff_wp hp hopsB h3 hWi X.sound fun cv w' j1 hpost hcv => ih _ _ _ _ _ _ (h4 hpost hcv) hdec

end

/-- A region whose order is open. -/
theorem draw_sound {P : Program} {C : FuncId → Array Value → Mem → Value → Mem → Prop} {ops : Array Oper} {id : Nat} {fr fr' : Nat → Value} {m m' : Mem} {j : Emb} {a : Act} {w : World} {Q : Exit → Act → World → Prop}
    (hmix : P.follows .mixedOrders = true) (h : drawR P C ops.toList (Region.before ops) 0 ops.toList ⟨[], [], []⟩ fr m fr' m') (hok : drawOk ops = true) (hX : ∀ o ∈ ops.toList, ∀ x ∈ o.op.operands, okX x = true) (hdst : ∀ o ∈ ops.toList, ∀ d, o.dst = some d → d < a.tmps.size)
    (hC : KeepsC C) (hS : SoundC P C) (hR : Rel P j m w) (hW : WF m) (hfr : ∀ t, VR j (fr t) (a.tmps.getD t undef)) (hd : a.defers = [])
    (hQ : ∀ a' w' j', Post P j m w j' m' w' → (∀ t, VR j' (fr' t) (a'.tmps.getD t undef)) → a'.defers = [] → a'.tmps.size = a.tmps.size → Q .normal a' w') : (Code.region id ops true).wp P Q a w := by
  refine wp_region_any hmix ?_
  obtain ⟨fs, ms, vs, kd, T, h1, h2, h3, h4, _⟩ := trace _ _ _ _ _ _ _ h
  simp only [Nat.zero_add, Array.length_toList] at h3 h4
  have hR' : Rel P j (ms 0) { w with drawn := w.drawn + 1 } := by rw [h2]; exact drew_rel hR rfl
  have hlt : ∀ b e, j b = some e → b < (ms 0).next := fun b e hb => by rw [h2]; exact (hR.lt b e hb).1
  have X : Ctx P C ops a.tmps.size fs ms vs kd j { w with drawn := w.drawn + 1 } := ⟨T, hok, hX, hdst, hC, hS, hR', by rw [h2]; exact hW, fun t => by rw [h1]; exact (VR_low hlt).2.2 (hfr t)⟩
  have hnl : ∀ i, (Array.replicate ops.size false).getD i false = true → False := by
    intro i hi
    simp only [Array.getD, Array.size_replicate] at hi
    split at hi <;> simp at hi
  have D : Mid P ops a.tmps.size fs ms vs kd j { w with drawn := w.drawn + 1 } (Array.replicate ops.size false) a { w with drawn := w.drawn + 1 } 0 { next := (ms ops.size).next, blk := (ms 0).blk } j := by
    refine ⟨by simp, fun i o hi => (hnl i hi).elim, Nat.zero_le _, .inl rfl, fun i _ _ => ⟨fun h => (hnl i h).elim, fun h => by omega⟩, ?_, rfl, fun b _ => rfl, fun b e hb => .inl (hlt b e hb), ?_, fun i _ _ h => (hnl i h).elim, hd, rfl, ?_, Frm.refl _ _ _, fun _ _ => rfl, ?_, fun _ _ h => h, fun _ _ h => h⟩
    · refine ⟨fun b e hb => ⟨Nat.lt_of_lt_of_le (hlt b e hb) (X.mono 0 _ (Nat.zero_le _) (Nat.le_refl _)), (hR'.lt b e hb).2⟩, hR'.obj, hR'.inj⟩
    · intro i hi hk hl
      cases hj : j (ms i).next with
      | none => rfl
      | some e =>
        have := hlt _ e hj
        have := X.mono 0 i (Nat.zero_le _) (Nat.le_of_lt hi)
        omega
    · intro t
      right
      exact ⟨fun x p _ hl => (hnl x hl).elim, by rw [h1]; exact hfr t⟩
    · intro b e hb hge
      have := hlt b e hb; omega
  refine Mid.go X (fun a' w' j' p hv hd' hs => hQ a' w' j' ?_ (by rw [h3] at hv; exact hv) hd' hs) _ _ _ _ _ _ _ D ?_
  · rw [h2, h4] at p
    exact ⟨p.rel, ⟨p.frm.os, p.frm.tape, p.frm.output, p.frm.size, p.frm.block⟩, p.next, p.ext, p.fresh, p.old, p.alive⟩
  · unfold left
    refine Nat.le_trans (List.length_filter_le _ _) ?_
    simp

end Go.AM
